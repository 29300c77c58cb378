/- What the reference's flash (ramekinref7.Nand) computes in its calls: what the program's own flash computes. -/
import Derived.Test.YtppfnkedbpmliaaRM
set_option linter.unusedVariables false
set_option linter.unusedSimpArgs false
namespace Go.Proofs.Ytppfnkedbpmliaa
open Go Go.Rk
open Go.RowKit (Below)

section
variable {base : Nat} {w w' : World} {R : RLay} {st : Nd}
theorem RefAt.mutBs (h : RefAt base w R st) {d : Nat} (hd : d < R.D) : R.mut (R.bs d) := .inr (.inl ⟨d, hd, rfl⟩)
theorem rthere_ok (h : RefAt base w R st) {d b : Int} : Ok Try.prog 90 [pv R.pn, .int .i64 d, .int .i64 b] w fun v w' => v = .bool (st.there d b) ∧ w' = w := by
  obtain ⟨so, sl, mk, ms, hb, hr⟩ := h.at_
  apply u90
  unfold T90
  refine joinT_thru (cond_of (fun h1 => nn_of (rdI_of (hb.at 0 rfl) (cond_of (fun h2 => cond_of (fun h3 => nn_of (rdI_of (hb.ad 1 rfl) ?_)) fun h3 => ?_) fun h2 => ?_))) fun h1 => ?_)
  all_goals
    intro _
    refine ⟨congrArg Value.bool ?_, by trivial⟩
    simp at *
    rw [Bool.eq_iff_iff, Nd.there_iff]
    simp
    try omega
theorem RefAt.dims (h : RefAt base w R st) {d b : Int} (ht : st.there d b = true) : ∃ dn bn : Nat, d = (dn : Int) ∧ b = (bn : Int) ∧ dn < R.D ∧ bn < R.B := by
  obtain ⟨so, sl, mk, ms, hb, hr⟩ := h.at_
  obtain ⟨h1, h2, h3, h4⟩ := Nd.there_iff.1 ht
  obtain ⟨e1, e2⟩ := hr.dims
  exact ⟨d.toNat, b.toNat, by omega, by omega, by omega, by omega⟩
theorem risBad_ok (h : RefAt base w R st) {d b : Int} : Ok Try.prog 105 [pv R.pn, .int .i64 d, .int .i64 b] w fun v w' => v = .bool (st.isBad d b) ∧ w' = w := by
  obtain ⟨so, sl, mk, ms, hb, hr⟩ := h.at_
  apply u105
  unfold T105
  refine joinT_thru ((rthere_ok h).mono ?_)
  rintro v w1 ⟨rfl, rfl⟩
  simp only [decB_bool]
  refine cond_of (fun h1 => ?_) fun h1 => ?_
  · obtain ⟨dn, bn, rfl, rfl, hd, hb'⟩ := h.dims h1
    refine hr.dieS hb hd fun c => ixB (i := bn) hb' (rdB_of (hr.badAt hd hb') ?_)
    intro _
    exact ⟨by simp [Nd.isBad, h1], by trivial⟩
  · intro _
    exact ⟨by simp [Nd.isBad, h1], by trivial⟩
theorem rerases_ok (h : RefAt base w R st) {d b : Int} : Ok Try.prog 104 [pv R.pn, .int .i64 d, .int .i64 b] w fun v w' => v = .int .i64 (st.erases d b) ∧ w' = w := by
  obtain ⟨so, sl, mk, ms, hb, hr⟩ := h.at_
  apply u104
  unfold T104
  refine (rthere_ok h).mono ?_
  rintro v w1 ⟨rfl, rfl⟩
  simp only [decB_bool]
  refine cond_of (fun h1 => ?_) fun h1 => ?_
  · simp at h1
    exact ⟨by simp [Nd.erases, h1], by trivial⟩
  · simp at h1
    obtain ⟨dn, bn, rfl, rfl, hd, hb'⟩ := h.dims h1
    refine hr.dieS hb hd fun c => ixB (i := bn) hb' (rdI_of (hr.eraAt hd hb') ⟨?_, by trivial⟩)
    simp [Nd.erases, h1]
theorem RefAt.chgOwn (h : RefAt base w R st) : True := trivial
theorem rpower_ok (h : RefAt base w R st) : Ok Try.prog 58 [pv R.pn] w fun v w' => RefAt base w' R st.power ∧ Chg R.mut w w' := by
  obtain ⟨so, sl, mk, ms, hb, hr⟩ := h.at_
  apply u58
  refine nn_of (wrW hb 5 (by simp [refCells]) fun W1 hb1 c1 => nn_of (wrW hb1 7 (by simp [refCells]) fun W2 hb2 c2 => ?_))
  have c := c1.trans c2
  exact ⟨⟨h.ok.power, so, sl, mk, ms, hb2, (hr.own hb c).same rfl rfl rfl rfl rfl rfl ⟨hr.ml.1, by simp [Nd.power]⟩⟩, c.mono fun k _ hk => .inl hk⟩
/-- What may answers, and what it leaves. -/
def rmay (st : Nd) (f : Bool) : Nd := if st.dead then st else if f then st else { st with wrong := wr64 (st.wrong + 1) }
theorem may_ok (h : RefAt base w R st) {d b p : Int} {f : Bool} : Ok Try.prog 123 [pv R.pn, .int .i64 d, .int .i64 b, .int .i64 p, .bool f] w fun v w' =>
    v = .int .i64 (st.askE (st.page d b p && !st.isBad d b && f)) ∧ RefAt base w' R (rmay st (st.page d b p && !st.isBad d b && f)) ∧ Chg R.mut w w' := by
  obtain ⟨so, sl, mk, ms, hb, hr⟩ := h.at_
  apply u123
  refine nn_of (rdB_of (hb.ad 7 rfl) (cond_of (fun h1 => ?_) fun h1 => ?_))
  · exact ⟨by simp [Nd.askE, h1], by simpa [rmay, h1] using h, Chg.refl _ _⟩
  refine joinT_of (fun e W => e.1 = !(st.page d b p && !st.isBad d b && f) ∧ W = w) ?_ ?_
  · refine (rthere_ok h).mono ?_
    rintro v w1 ⟨rfl, rfl⟩
    simp only [decB_bool]
    refine cond_of (fun h2 => ?_) fun h2 => ?_
    · simp at h2
      exact ⟨by simp [Nd.page, h2], by trivial⟩
    simp at h2
    obtain ⟨dn, bn, rfl, rfl, hd, hb'⟩ := h.dims h2
    refine hr.dieS hb hd fun c => ixB (i := bn) hb' (rdB_of (hr.badAt hd hb') (cond_of (fun h3 => ?_) fun h3 => ?_))
    · exact ⟨by simp [Nd.isBad, h2, h3], by trivial⟩
    refine cond_of (fun h4 => ?_) fun h4 => ?_
    · simp at h4
      refine ⟨?_, by trivial⟩
      have : st.page (dn : Int) (bn : Int) p = false := by
        rw [Bool.eq_false_iff]
        intro hx
        have := (Nd.page_iff.1 hx).2.1
        omega
      simp [this]
    simp at h4
    refine nn_of (rdI_of (hb.ad 2 rfl) (cond_of (fun h5 => ?_) fun h5 => ?_))
    · simp at h5
      refine ⟨?_, by trivial⟩
      have : st.page (dn : Int) (bn : Int) p = false := by
        rw [Bool.eq_false_iff]
        intro hx
        have := (Nd.page_iff.1 hx).2.2
        omega
      simp [this]
    simp at h5
    refine ⟨?_, by trivial⟩
    have : st.page (dn : Int) (bn : Int) p = true := Nd.page_iff.2 ⟨h2, h4, h5⟩
    simp [this, Nd.isBad, h2, h3]
  · rintro ⟨e, _⟩ W ⟨he, rfl⟩ _
    simp only at he
    subst he
    generalize (st.page d b p && !st.isBad d b && f) = ff
    refine cond_of (fun h2 => ?_) fun h2 => ?_
    · simp at h2
      subst h2
      refine nn_of (rdI_of (hb.ad 9 rfl) (nn_of (wrW hb 9 (by simp [refCells]) fun W1 hb1 c1 => ?_)))
      refine ⟨by simp [Nd.askE, h1], ?_, c1.mono fun k _ hk => .inl hk⟩
      have : rmay st false = { st with wrong := wr64 (st.wrong + 1) } := by simp [rmay, h1]
      rw [this]
      exact ⟨⟨h.ok.geo, h.ok.page, h.ok.noise, h.ok.mask⟩, so, sl, mk, ms, hb1, (hr.own hb c1).same rfl rfl rfl rfl rfl rfl hr.ml⟩
    · simp at h2
      subst h2
      exact ⟨by simp [Nd.askE, h1], by simpa [rmay, h1] using h, Chg.refl _ _⟩
/-- The same, with its slices by names. -/
structure RefM (base : Nat) (w : World) (R : RLay) (so sl mk : Sl) (ms : List Byt) (st : Nd) : Prop where
  ok : Nd.Ok st
  blk : Blk w R.pn 119 (refCells so sl mk st)
  rest : RRest base w R so sl mk ms st
theorem RefM.toAt {so sl mk : Sl} {ms : List Byt} (h : RefM base w R so sl mk ms st) : RefAt base w R st := ⟨h.ok, so, sl, mk, ms, h.blk, h.rest⟩
theorem RefAt.toM (h : RefAt base w R st) : ∃ so sl mk ms, RefM base w R so sl mk ms st := by
  obtain ⟨so, sl, mk, ms, h1, h2⟩ := h.at_
  exact ⟨so, sl, mk, ms, h.ok, h1, h2⟩
theorem RefM.kept {so sl mk : Sl} {ms : List Byt} (h : RefM base w R so sl mk ms st) (k : Kept w w') : RefM base w' R so sl mk ms st := ⟨h.ok, h.blk.kept k, h.rest.kept k⟩
theorem stops_ok {so sl mk : Sl} {ms : List Byt} (h : RefM base w R so sl mk ms st) (hd : st.dead = false) : Ok Try.prog 124 [pv R.pn] w fun v w' => v = .bool st.goes ∧ RefM base w' R so sl mk ms ({ st with ops := wr64 (st.ops + 1) } : Nd).went ∧ Chg R.mut w w' := by
  have hb := h.blk
  have hr := h.rest
  apply u124
  refine nn_of (rdI_of (hb.ad 8 rfl) (nn_of (wrW hb 8 (by simp [refCells]) fun W1 hb1 c1 => nn_of (rdI_of (hb1.ad 5 rfl) ?_))))
  have ok1 : Nd.Ok ({ st with ops := wr64 (st.ops + 1) } : Nd) := ⟨h.ok.geo, h.ok.page, h.ok.noise, h.ok.mask⟩
  refine joinT_of (fun _ W => Blk W R.pn 119 (refCells so sl mk ({ st with ops := wr64 (st.ops + 1) } : Nd).went) ∧ Chg (· = R.pn) w W) ?_ ?_
  · refine cond_of (fun h1 => ?_) fun h1 => ?_
    · simp at h1
      refine nn_of (rdI_of (hb1.ad 5 rfl) (nn_of (wrW hb1 5 (by simp [refCells]) fun W2 hb2 c2 => nn_of (rdI_of (hb2.ad 5 rfl) (nn_of (wrW hb2 7 (by simp [refCells]) fun W3 hb3 c3 => ?_))))))
      have e : ({ st with ops := wr64 (st.ops + 1) } : Nd).went = { st with ops := wr64 (st.ops + 1), stop := wr64 (st.stop - 1), dead := wr64 (st.stop - 1) == 0 } := by
        have : ¬ st.stop < 1 := by omega
        simp [Nd.went, this]
      rw [e]
      exact ⟨hb3, c1.trans (c2.trans c3)⟩
    · simp at h1
      have e : ({ st with ops := wr64 (st.ops + 1) } : Nd).went = { st with ops := wr64 (st.ops + 1) } := by
        have : st.stop < 1 := by omega
        simp [Nd.went, this]
      rw [e]
      exact ⟨hb1, c1⟩
  · rintro _ W ⟨hB, c⟩ _
    refine nn_of (rdB_of (hB.ad 7 rfl) ?_)
    have hw : ∀ s : Nd, s.went.dead = (if s.stop < 1 then s.dead else wr64 (s.stop - 1) == 0) := fun s => by unfold Nd.went; split <;> rfl
    refine ⟨?_, ⟨ok1.went, hB, (hr.own hb c).same (Nd.went_g _) (Nd.went_data _) (Nd.went_noise _) (Nd.went_next _) (Nd.went_era _) (Nd.went_bad _) ⟨hr.ml.1, fun hs => ?_⟩⟩, c.mono fun k _ hk => .inl hk⟩
    · have := hw ({ st with ops := wr64 (st.ops + 1) } : Nd)
      rw [this]
      simp only [Nd.goes, hd]
    · rw [Nd.went_mask]
      refine hr.ml.2 ?_
      by_cases h1 : st.stop < 1
      · have : ({ st with ops := wr64 (st.ops + 1) } : Nd).went.stop = st.stop := by simp [Nd.went, h1]
        omega
      · omega
theorem rask_eq {st : Nd} {f : Bool} : (f = true → st.dead = false → ({ rmay st f with ops := wr64 (st.ops + 1) } : Nd) = st.ask f) ∧ ((f = false ∨ st.dead = true) → rmay st f = st.ask f) := by
  constructor
  · intro h1 h2; simp [rmay, Nd.ask, h1, h2]
  · rintro (h1 | h1) <;> simp [rmay, Nd.ask, h1]
theorem readFine_eq (st : Nd) (d b p : Int) : (st.page d b p && !st.isBad d b && true) = st.readFine d b p := by simp [Nd.readFine]
/-- Read -/
theorem rread_ok (h : RefAt base w R st) {d b p : Int} (hbase : base ≤ w.heap.size) :
    Ok Try.prog 100 [pv R.pn, .int .i64 d, .int .i64 b, .int .i64 p] w fun v w' => ∃ s : Sl, v = .tuple #[s.v, .int .i64 (st.readE d b p)] ∧ Row eB w' s (st.readB d b p) ∧ (∀ a, s.a = some a → w.heap.size ≤ a.block) ∧ RefAt base w' R (st.readS d b p) ∧ Chg R.mut w w' := by
  apply u100
  unfold T100
  refine (may_ok h).mono ?_
  rintro v w1 ⟨rfl, h1, c1⟩
  simp only [decI_int]
  rw [readFine_eq] at h1 ⊢
  have hE : st.readE d b p = st.askE (st.readFine d b p) := rfl
  rw [← hE]
  refine cond_of (fun hc => ?_) fun hc => ?_
  · simp at hc
    refine ⟨⟨none, 0, 0⟩, rfl, by simp only [Nd.readB, hc, if_false]; exact Row.nil _ _ (fun _ => rfl), by simp, ?_, c1⟩
    have : rmay st (st.readFine d b p) = st.readS d b p := by
      refine (rask_eq (st := st) (f := st.readFine d b p)).2 ?_
      rw [hE] at hc
      have := mt Nd.askE_zero.2 hc
      cases hq : st.readFine d b p <;> cases hd : st.dead <;> simp_all
    rw [this] at h1
    exact h1
  simp at hc
  obtain ⟨hdead, hfine⟩ := Nd.askE_zero.1 (hE.symm.trans hc)
  have hpg : st.page d b p = true := by simp [Nd.readFine] at hfine; exact hfine.1
  obtain ⟨ht, hp0, hp1⟩ := Nd.page_iff.1 hpg
  obtain ⟨dn, bn, rfl, rfl, hd, hb'⟩ := h.dims ht
  obtain ⟨pn, rfl⟩ := nat_of hp0
  have e1 : rmay st (st.readFine (dn : Int) (bn : Int) (pn : Int)) = st := by rw [hfine]; simp [rmay, hdead]
  have e2 : st.readS (dn : Int) (bn : Int) (pn : Int) = { st with ops := wr64 (st.ops + 1) } := by simp only [Nd.readS, hfine]; simp [Nd.ask, hdead]
  have e3 : st.readB (dn : Int) (bn : Int) (pn : Int) = flips (st.data dn bn pn) (st.noise dn bn pn) := by simp only [Nd.readB, hc, if_true, Int.toNat_natCast]
  rw [e1] at h1
  rw [e2, e3]
  obtain ⟨so, sl, mk, ms, hB, hr⟩ := h1.at_
  refine nn_of (rdI_of (hB.ad 8 rfl) (nn_of (wrW hB 8 (by simp [refCells]) fun W2 hB2 c2 => ?_)))
  have hr2 : RRest base W2 R so sl mk ms { st with ops := wr64 (st.ops + 1) } := (hr.own hB c2).same rfl rfl rfl rfl rfl rfl hr.ml
  have h2 : RefAt base W2 R { st with ops := wr64 (st.ops + 1) } := ⟨⟨h.ok.geo, h.ok.page, h.ok.noise, h.ok.mask⟩, so, sl, mk, ms, hB2, hr2⟩
  have kd := kept_drew W2
  have hB3 : Blk W2.drew R.pn 119 (refCells so sl mk { st with ops := wr64 (st.ops + 1) }) := Blk.kept hB2 kd
  have hr3 := hr2.kept kd
  have hpP : pn < st.g.2.2.1.toNat := by omega
  obtain ⟨s, cs, ⟨c, rfl⟩, hpg2⟩ := hr3.pagAt hd hb'
  obtain ⟨t, ct, mt⟩ := hpg2 pn hpP
  obtain ⟨u, cu, mu⟩ := hr3.noiAt (p := pn) hd hb' hpP
  refine hr3.dieS hB3 hd fun c' => ixB (i := bn) hb' (rdS_of cs (ixB (i := pn) hpP (rdS_of ct ?_)))
  refine hr3.noiS hB3 hd hb' fun c' => ixB (i := pn) hpP (rdS_of cu ?_)
  refine (rflip_ok mt.row mu.row (by rw [h.ok.page]; omega) (h.ok.noise _ _ _)).mono ?_
  rintro v w4 ⟨s4, rfl, k4, m4⟩
  simp only [decS_sl]
  have cc := (c1.trans (c2.mono fun k _ hk => .inl hk)).trans (Kept.chg (kd.trans k4))
  refine ⟨s4, by rw [hc], m4.row, fun a ha => ?_, h2.kept (kd.trans k4), cc⟩
  have h5 := (m4.lt ha).1
  have h6 := c1.size
  have h7 := c2.size
  have h9 : W2.drew.heap.size = W2.heap.size := rfl
  omega
/-- Noise -/
theorem rnoise_ok (h : RefAt base w R st) {d b p : Int} {l : Sl} {ns : List Int} (hm : Row eI w l ns) (hl : Few ns) (hbase : base ≤ w.heap.size) :
    Ok Try.prog 101 [pv R.pn, .int .i64 d, .int .i64 b, .int .i64 p, l.v] w fun v w' => v = .int .i64 (st.noiseE d b p) ∧ RefAt base w' R (st.setNoise d b p ns) ∧ Chg R.mut w w' := by
  obtain ⟨so, sl, mk, ms, hB, hr⟩ := h.at_
  apply u101
  unfold T101
  refine joinT_of (fun e W => e.1 = !st.page d b p ∧ W = w) ?_ ?_
  · refine (rthere_ok h).mono ?_
    rintro v w1 ⟨rfl, rfl⟩
    simp only [decB_bool]
    refine cond_of (fun h2 => ?_) fun h2 => ?_
    · simp at h2
      exact ⟨by simp [Nd.page, h2], by trivial⟩
    simp at h2
    refine cond_of (fun h3 => ?_) fun h3 => ?_
    · simp at h3
      refine ⟨?_, by trivial⟩
      have : st.page d b p = false := by
        rw [Bool.eq_false_iff]
        intro hx
        have := (Nd.page_iff.1 hx).2.1
        omega
      simp [this]
    simp at h3
    refine nn_of (rdI_of (hB.ad 2 rfl) ⟨?_, by trivial⟩)
    rw [Bool.eq_iff_iff]
    simp only [ge_iff_le, decide_eq_true_eq, Bool.not_eq_true']
    rw [Bool.eq_false_iff, Ne, Nd.page_iff]
    simp only [h2, true_and]
    omega
  rintro ⟨e, _⟩ W ⟨he, rfl⟩ _
  simp only at he
  subst he
  refine cond_of (fun hc => ?_) fun hc => ?_
  · simp at hc
    exact ⟨by simp [Nd.noiseE, hc], by simpa [Nd.setNoise, hc] using h, Chg.refl _ _⟩
  simp at hc
  obtain ⟨ht, hp0, hp1⟩ := Nd.page_iff.1 hc
  obtain ⟨dn, bn, rfl, rfl, hd, hb'⟩ := h.dims ht
  obtain ⟨pn, rfl⟩ := nat_of hp0
  have hpP : pn < st.g.2.2.1.toNat := by omega
  have kd := kept_drew W
  have hB1 := Blk.kept hB kd
  have hr1 := hr.kept kd
  obtain ⟨rs, cl, nss, n1, n2, n3, n4⟩ := hr1.nz
  have c1 : ∀ q, sl.a = some q → W.drew.cell? (q.add (Int.toNat (dn : Int) * 1)) = some (rs dn).v := fun q hq => by
    obtain ⟨q', hq', hc'⟩ := n1.row.2.2 dn (by simpa using hd)
    rw [hq] at hq'; cases hq'
    simpa using hc'
  have c2 : ∀ q, (rs dn).a = some q → W.drew.cell? (q.add (Int.toNat (bn : Int) * 1)) = some (.slice (some ⟨R.ll dn bn, 0, none⟩) st.g.2.2.1.toNat (cl dn bn)) := fun q hq => by
    obtain ⟨q', hq', hc'⟩ := (n2 dn hd).row.2.2 bn (by simpa using hb')
    rw [hq] at hq'; cases hq'
    simpa using hc'
  obtain ⟨q1, hq1, _⟩ := n1.row.2.2 dn (by simpa using hd)
  obtain ⟨q2, hq2, _⟩ := (n2 dn hd).row.2.2 bn (by simpa using hb')
  have l1 : sl.l = R.D := by have := n1.len; simpa using this
  have l2 : (rs dn).l = R.B := by have := (n2 dn hd).len; simpa using this
  refine nn_of (rdS_of (s := sl) (hB1.ad 4 rfl) ⟨q1, hq1, by omega, by omega, rdS_of (s := rs dn) (c1 q1 hq1) ⟨q2, hq2, by omega, by omega, rdS_of (s := ⟨some ⟨R.ll dn bn, 0, none⟩, st.g.2.2.1.toNat, cl dn bn⟩) (c2 q2 hq2) ?_⟩⟩)
  refine alW (cs := []) fun W2 hB0 k2 _ => ?_
  refine rdS_of (s := sl) ((hB1.kept k2).ad 4 rfl) ⟨rfl, rdS_of (s := rs dn) (cell_kept (c1 q1 hq1) k2) ⟨rfl, rdS_of (s := ⟨some ⟨R.ll dn bn, 0, none⟩, st.g.2.2.1.toNat, cl dn bn⟩) (cell_kept (c2 q2 hq2) k2) ⟨rfl, ?_⟩⟩⟩
  refine app0 szI (fun _ => rfl) hB0 (hm.kept (kd.trans k2)) (by have := hl.1; omega) fun s3 W3 m3 c3 => ?_
  simp only [decS_sl]
  have k3 : Kept W.drew W3 := k2.then c3 fun x hx => by omega
  have kk := kd.trans k3
  refine rdS_of (s := sl) ((hB1.kept k3).ad 4 rfl) ⟨rfl, rdS_of (s := rs dn) (cell_kept (c1 q1 hq1) k3) ⟨rfl, rdS_of (s := ⟨some ⟨R.ll dn bn, 0, none⟩, st.g.2.2.1.toNat, cl dn bn⟩) (cell_kept (c2 q2 hq2) k3) ⟨rfl, ixB (i := pn) hpP ?_⟩⟩⟩
  have hz : W.drew.heap.size = W.heap.size := rfl
  refine (hr1.kept k3).wrNoi hd hb' hpP (m3.mono (by omega)) fun W4 hr4 c4 => ?_
  have hst : st.setNoise (dn : Int) (bn : Int) (pn : Int) ns = { st with noise := upd3 st.noise dn bn pn ns } := by simp [Nd.setNoise, hc]
  obtain ⟨cur, hcur⟩ := Mine.cells_at ((n3 dn bn hd hb').kept k3) rfl
  refine ⟨by simp [Nd.noiseE, hc], ⟨h.ok.setNoise hl, so, sl, mk, ms, ?_, ?_⟩, (Kept.chg kk).trans (c4.mono fun k _ hk => .inr (.inr (.inr ⟨dn, bn, hd, hb', hk⟩)))⟩
  · rw [hst]
    have hBk := hB1.kept k3
    exact hBk.chg c4 (heap_ne hBk hcur (by decide))
  · rw [hst]
    exact hr4
/-- Stop -/
theorem rstop_ok (h : RefAt base w R st) {k : Int} {m : Sl} {ms : List Byt} (hm : Row eB w m ms) (hl : ms.length ≤ 1000000000) (hbase : base ≤ w.heap.size) :
    Ok Try.prog 102 [pv R.pn, .int .i64 k, m.v] w fun v w' => RefAt base w' R (st.setStop k ms) ∧ Chg R.mut w w' := by
  apply u102
  unfold T102
  refine alW (cs := []) fun W1 hB0 k1 _ => app0 szB (fun _ => rfl) hB0 (hm.kept k1) hl fun s W2 m2 c2 => ?_
  simp only [decS_sl]
  have k2 : Kept w W2 := k1.then c2 fun x hx => by omega
  obtain ⟨so, sl, mk, ms', hb, hr⟩ := (h.kept k2).at_
  refine nn_of (wrW hb 5 (by simp [refCells]) fun W3 hb3 c3 => nn_of (wrW hb3 6 (by simp [refCells]) fun W4 hb4 c4 => ?_))
  have c := c3.trans c4
  have hk : (if 0 > k then 0 else k) = max k 0 := by split <;> omega
  rw [hk] at hb4
  have hr4 := (hr.own hb c).same (st' := { st with stop := 0 }) rfl rfl rfl rfl rfl rfl ⟨hr.ml.1, fun h1 => by have h2 : (1 : Int) ≤ 0 := h1; omega⟩
  obtain ⟨a1, a2, a3, a4, a5, a6, a7, a8, a9⟩ := hr4
  refine ⟨⟨h.ok.setStop hl, so, sl, s, ms, hb4, ?_⟩, (Kept.chg k2).trans (c.mono fun k _ hk => .inl hk)⟩
  have hr5 : RRest base W4 R so sl s ms { st with stop := 0 } := ⟨a1, a2, a3, a4, a5, a6, a7, (m2.mono hbase).chg c (by
    intro b hb' e
    obtain ⟨a, l, c⟩ := s
    rcases m2.forms with ⟨h1, _⟩ | ⟨g, cap, cur, h1, _, h2, _⟩
    · cases h1; cases hb'
    · cases h1; cases hb'
      exact heap_ne h2 hb (by decide) e), ⟨hl, fun h1 => by have h2 : (1 : Int) ≤ 0 := h1; omega⟩⟩
  exact hr5.same rfl rfl rfl rfl rfl rfl ⟨hl, fun _ => rfl⟩
end
end Go.Proofs.Ytppfnkedbpmliaa
