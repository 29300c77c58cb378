/- What the reference's flash computes in Program and Erase: what the program's own flash computes. -/
import Derived.Test.YtppfnkedbpmliaaRC
set_option linter.unusedVariables false
set_option linter.unusedSimpArgs false
namespace Go.Proofs.Ytppfnkedbpmliaa
open Go Go.Rk
open Go.RowKit (Below)

section
variable {base : Nat} {w w' : World} {R : RLay} {st : Nd} {so sl mk : Sl} {ms : List Byt}
theorem RefM.wrBlk (h : RefM base w R so sl mk ms st) {d b j : Nat} (hd : d < R.D) (hb : b < R.B) (hj : j < 4) (hj0 : 0 < j) {v : Value} {st' : Nd} (h1 : st'.g = st.g) (h2 : st'.data = st.data) (h3 : st'.noise = st.noise) (h4 : st'.mask = st.mask) (h5 : st'.stop = st.stop) (h6 : st'.dead = st.dead) (h7 : st'.ops = st.ops) (h8 : st'.wrong = st.wrong)
    (hc : ∀ d' k s, eBk (s, st'.next d' k, st'.era d' k, st'.bad d' k) = if d' = d ∧ k = b then (eBk (s, st.next d b, st.era d b, st.bad d b)).set j v else eBk (s, st.next d' k, st.era d' k, st.bad d' k)) {K : World → Prop} (k : ∀ W, RefM base W R so sl mk ms st' → Chg R.mut w W → K W) :
    wr w (((⟨R.bs d, 0, none⟩ : Addr).add (Int.toNat (b : Int) * 4)).add j) v K := by
  refine h.rest.wrBlk hd hb hj hj0 h1 h2 h3 h4 h5 hc fun W hr c => k W ⟨⟨by rw [h1]; exact h.ok.geo, by rw [h2]; exact h.ok.page, by rw [h3]; exact h.ok.noise, by rw [h4]; exact h.ok.mask⟩, ?_, hr⟩ (c.mono fun x _ hx => .inr (.inl ⟨d, hd, hx⟩))
  have e : refCells so sl mk st' = refCells so sl mk st := by unfold refCells; rw [h1, h5, h6, h7, h8]
  rw [e]
  obtain ⟨cr, cp, ds, b1, b2, b3, b4⟩ := h.rest.bb
  obtain ⟨cur, hcur⟩ := MineN.cells_at (b2 d hd) rfl
  have hB := h.blk
  exact hB.chg c (heap_ne hB hcur (by decide))
theorem RefM.wrPag (h : RefM base w R so sl mk ms st) {d b p : Nat} (hd : d < R.D) (hb : b < R.B) (hp : p < st.g.2.2.1.toNat) {s : Sl} {bs : List Byt} (m : Mine eB 5 base w s bs) (hl : bs.length = 60) {K : World → Prop}
    (k : ∀ W, RefM base W R so sl mk ms { st with data := upd3 st.data d b p bs } → Chg R.mut w W → K W) : wr w ((⟨R.pp d b, 0, none⟩ : Addr).add (Int.toNat (p : Int) * 1)) (.slice s.a s.l s.c) K := by
  refine h.rest.wrPag hd hb hp m fun W hr c => k W ⟨⟨h.ok.geo, fun d' b' p' => ?_, h.ok.noise, h.ok.mask⟩, ?_, hr⟩ (c.mono fun x _ hx => .inr (.inr (.inl ⟨d, b, hd, hb, hx⟩)))
  · show (upd3 st.data d b p bs d' b' p').length = 60
    unfold upd3
    split
    · exact hl
    · exact h.ok.page _ _ _
  · obtain ⟨cr, cp, ds, b1, b2, b3, b4⟩ := h.rest.bb
    obtain ⟨cur, hcur⟩ := Mine.cells_at (b3 d b hd hb) rfl
    have hB := h.blk
    exact hB.chg c (heap_ne hB hcur (by decide))
/-- Program -/
theorem rprogram_ok (h : RefAt base w R st) {d b p : Int} {s : Sl} {bs : List Byt} (hs : Row eB w s bs) (hsm : ∀ a, s.a = some a → 0 < bs.length → ¬ R.mut a.block) (hbase : base ≤ w.heap.size) (hl : bs.length ≤ 100000000) :
    Ok Try.prog 98 [pv R.pn, .int .i64 d, .int .i64 b, .int .i64 p, s.v] w fun v w' => v = .int .i64 (st.progE d b p bs.length) ∧ RefAt base w' R (st.prog d b p bs) ∧ Chg R.mut w w' := by
  have hsl := hs.len
  have hg := h.ok.bounds
  apply u98
  unfold T98
  refine joinT_of (fun e W => (st.page d b p && !st.isBad d b && e.1) = st.progFine d b p bs.length ∧ W = w) ?_ ?_
  · obtain ⟨so, sl, mk, ms, hM⟩ := h.toM
    refine (rthere_ok h).mono ?_
    rintro v w1 ⟨rfl, rfl⟩
    simp only [decB_bool]
    refine cond_of (fun hc => ?_) fun hc => ?_
    · obtain ⟨dn, bn, rfl, rfl, hd, hb'⟩ := h.dims hc
      refine hM.rest.dieS hM.blk hd fun c => ixB (i := bn) hb' (rdI_of (hM.rest.nextAt hd hb') (cond_of (fun hc2 => ?_) fun hc2 => ?_))
      · refine ⟨?_, by trivial⟩
        have : (((s.l : Nat) : Int) == 60) = decide (bs.length = 60) := by rw [hsl, Bool.eq_iff_iff]; simp; omega
        simp only [Nd.progFine, Int.toNat_natCast, hc2, this, Bool.and_true]
      · refine ⟨?_, by trivial⟩
        simp only [Nd.progFine, Int.toNat_natCast, hc2, Bool.and_false]
    · refine ⟨?_, by trivial⟩
      have : st.page d b p = false := by simp [Nd.page, hc]
      simp [Nd.progFine, this]
  rintro ⟨e, _⟩ W ⟨he, rfl⟩ _
  simp only at he
  refine (may_ok h).mono ?_
  rintro v w1 ⟨rfl, h1, c1⟩
  simp only [decI_int]
  rw [he] at h1 ⊢
  refine cond_of (fun hc => ?_) fun hc => ?_
  · simp at hc
    refine ⟨by simp [Nd.progE, hc], ?_, c1⟩
    simp only [Nd.prog, hc, if_false]
    have : rmay st (st.progFine d b p bs.length) = st.ask (st.progFine d b p bs.length) := by
      refine (rask_eq (st := st) (f := st.progFine d b p bs.length)).2 ?_
      have := mt Nd.askE_zero.2 hc
      cases hq : st.progFine d b p bs.length <;> cases hd : st.dead <;> simp_all
    rw [this] at h1
    exact h1
  simp at hc
  obtain ⟨hdead, hfine⟩ := Nd.askE_zero.1 hc
  have h60 := Nd.progFine_len hfine
  have hpg : st.page d b p = true := by simp [Nd.progFine] at hfine; exact hfine.1.1
  obtain ⟨ht, hp0, hp1⟩ := Nd.page_iff.1 hpg
  obtain ⟨dn, bn, rfl, rfl, hd, hb'⟩ := h.dims ht
  obtain ⟨pn, rfl⟩ := nat_of hp0
  have hpP : pn < st.g.2.2.1.toNat := by omega
  have em : rmay st (st.progFine (dn : Int) (bn : Int) (pn : Int) bs.length) = st := by rw [hfine]; simp [rmay, hdead]
  rw [em] at h1
  have eP : st.prog (dn : Int) (bn : Int) (pn : Int) bs = ({ st with ops := wr64 (st.ops + 1) } : Nd).put dn bn pn bs := by
    have ha : st.ask true = { st with ops := wr64 (st.ops + 1) } := by simp [Nd.ask, hdead]
    unfold Nd.prog
    rw [if_pos hc, hfine, ha]
    simp only [Int.toNat_natCast]
  have eE : st.progE (dn : Int) (bn : Int) (pn : Int) bs.length = if st.goes then 8 else 0 := by simp only [Nd.progE, hc, if_true]
  rw [eP, eE]
  obtain ⟨so, sl, mk, ms, hM⟩ := h1.toM
  refine hM.rest.dieS hM.blk hd fun c => ixB (i := bn) hb' (nn_of (rdI_of (n := st.next dn bn) (hM.rest.nextAt hd hb') (nn_of ?_)))
  refine hM.wrBlk hd hb' (j := 1) (st' := { st with next := upd2 st.next dn bn (wr64 (st.next dn bn + 1)) }) (by omega) (by omega) rfl rfl rfl rfl rfl rfl rfl rfl (fun d' k s => ?_) fun w2 h2 c2 => ?_
  · by_cases he : d' = dn ∧ k = bn
    · obtain ⟨rfl, rfl⟩ := he; simp [eBk, upd2]
    · simp [eBk, upd2, he]
  refine (stops_ok h2 hdead).mono ?_
  rintro v w3 ⟨rfl, h3, c3⟩
  simp only [decB_bool]
  have hms : st.goes = true → ms = st.mask := fun hg' => hM.rest.ml.2 (by
    by_cases h1 : st.stop < 1
    · simp [Nd.goes, h1] at hg'
    · omega)
  have eg : ({ st with next := upd2 st.next dn bn (wr64 (st.next dn bn + 1)) } : Nd).goes = st.goes := rfl
  rw [eg]
  have e4 : ({ st with ops := wr64 (st.ops + 1) } : Nd).put dn bn pn bs = { ({ st with ops := wr64 (st.ops + 1), next := upd2 st.next dn bn (wr64 (st.next dn bn + 1)) } : Nd).went with data := upd3 st.data dn bn pn (if st.goes then mixL blankL bs st.mask else bs) } := rfl
  rw [e4]
  have h3 : RefM base w3 R so sl mk ms ({ st with ops := wr64 (st.ops + 1), next := upd2 st.next dn bn (wr64 (st.next dn bn + 1)) } : Nd).went := h3
  have f1 := Nd.went_g ({ st with ops := wr64 (st.ops + 1), next := upd2 st.next dn bn (wr64 (st.next dn bn + 1)) } : Nd)
  have f2 := Nd.went_data ({ st with ops := wr64 (st.ops + 1), next := upd2 st.next dn bn (wr64 (st.next dn bn + 1)) } : Nd)
  generalize ({ st with ops := wr64 (st.ops + 1), next := upd2 st.next dn bn (wr64 (st.next dn bn + 1)) } : Nd).went = s4 at h3 f1 f2 ⊢
  simp only at f1 f2
  rw [← f2]
  have hpP4 : pn < s4.g.2.2.1.toNat := by rw [f1]; exact hpP
  have c13 := c1.trans (c2.trans c3)
  have hs3 := (hs.chg0 c13 hsm).kept (kept_drew w3)
  have hz3 : w3.drew.heap.size = w3.heap.size := rfl
  have hb3 : base ≤ w3.drew.heap.size := by have := c13.size; omega
  replace h3 := h3.kept (kept_drew w3)
  obtain ⟨sp, cs, ⟨cc, rfl⟩, _⟩ := h3.rest.pagAt hd hb'
  cases hgo : st.goes with
  | true =>
    refine cond_t rfl (nn_of (rdS_of cs (nn_of (rdS_of (s := mk) (h3.blk.ad 6 rfl) (ones_ok.mono ?_)))))
    rintro v w5 ⟨sb, rfl, k5, mb⟩
    simp only [decS_sl]
    refine rdS_of (cell_kept cs k5) ⟨rfl, rdS_of (s := mk) ((h3.blk.kept k5).ad 6 rfl) ⟨rfl, ?_⟩⟩
    refine (rmix_ok mb.row (hs3.kept k5) (h3.kept k5).rest.mm.row (by simp [blankL]) h3.rest.ml.1).mono ?_
    rintro v w6 ⟨sx, rfl, k6, mx⟩
    simp only [decS_sl]
    have k56 := k5.trans k6
    refine rdS_of (cell_kept cs k56) ⟨rfl, ixB (i := pn) hpP4 ?_⟩
    have hz5 := k5.size
    refine (h3.kept k56).wrPag hd hb' hpP4 (mx.mono (by omega)) (by rw [mixL_len (by rw [blankL_len, h60]), blankL_len]) fun w7 h7 c7 => ?_
    refine ⟨by simp, ?_, c13.trans ((Kept.chg ((kept_drew w3).trans k56)).trans c7)⟩
    rw [hms hgo] at h7
    simpa using h7.toAt
  | false =>
    refine cond_f rfl (nn_of (rdS_of cs ?_))
    refine alW (cs := []) fun w5 hB0 k5 _ => rdS_of (cell_kept cs k5) ⟨rfl, ?_⟩
    refine app0 szB (fun _ => rfl) hB0 (hs3.kept k5) (by omega) fun sx w6 mx c6 => ?_
    simp only [decS_sl]
    have k6 : Kept w3.drew w6 := k5.then c6 fun x hx => by omega
    refine rdS_of (cell_kept cs k6) ⟨rfl, ixB (i := pn) hpP4 ?_⟩
    refine (h3.kept k6).wrPag hd hb' hpP4 (mx.mono hb3) h60 fun w7 h7 c7 => ?_
    exact ⟨by simp, by simpa using h7.toAt, c13.trans ((Kept.chg ((kept_drew w3).trans k6)).trans c7)⟩
theorem page_zero (h : Nd.Ok st) (d b : Int) : st.page d b 0 = st.there d b := by
  have := h.bounds
  rw [Bool.eq_iff_iff, Nd.page_iff]
  constructor
  · exact fun h => h.1
  · exact fun h => ⟨h, by omega, by omega⟩
/-- Only the pages that there are count. -/
theorem RefM.congr (h : RefM base w R so sl mk ms st) {st' : Nd} (ok : Nd.Ok st') (h1 : st'.g = st.g) (h2 : ∀ d b p, d < R.D → b < R.B → p < st.g.2.2.1.toNat → st'.data d b p = st.data d b p) (h3 : st'.noise = st.noise) (h4 : st'.next = st.next) (h5 : st'.era = st.era) (h6 : st'.bad = st.bad)
    (h7 : st'.mask = st.mask) (h8 : st'.stop = st.stop) (h9 : st'.dead = st.dead) (h10 : st'.ops = st.ops) (h11 : st'.wrong = st.wrong) : RefM base w R so sl mk ms st' := by
  have e : refCells so sl mk st' = refCells so sl mk st := by unfold refCells; rw [h1, h8, h9, h10, h11]
  have hr := h.rest
  obtain ⟨cr, cp, ds, b1, b2, b3, b4⟩ := hr.bb
  obtain ⟨rs, cl, ns, n1, n2, n3, n4⟩ := hr.nz
  refine ⟨ok, by rw [e]; exact h.blk, ⟨by rw [h1]; exact hr.dims, hr.lo, ⟨cr, cp, ds, b1, by rw [h1, h4, h5, h6]; exact b2, by rw [h1]; exact b3, ?_⟩, ⟨rs, cl, ns, n1, by rw [h1]; exact n2, by rw [h1]; exact n3, by rw [h1, h3]; exact n4⟩, hr.ib, hr.ip, hr.il, hr.mm, by rw [h7, h8]; exact hr.ml⟩⟩
  rw [h1]
  intro d b p hd hb hp
  rw [h2 d b p hd hb hp]
  exact b4 d b p hd hb hp
/-- Erase -/
theorem rerase_ok (h : RefAt base w R st) {d b : Int} (hbase : base ≤ w.heap.size) :
    Ok Try.prog 99 [pv R.pn, .int .i64 d, .int .i64 b] w fun v w' => v = .int .i64 (st.eraseE d b) ∧ RefAt base w' R (st.erase d b) ∧ Chg R.mut w w' := by
  have hg := h.ok.bounds
  apply u99
  unfold T99
  refine (may_ok h).mono ?_
  rintro v w1 ⟨rfl, h1, c1⟩
  simp only [decI_int]
  have hf : (st.page d b 0 && !st.isBad d b && true) = st.eraFine d b := by simp only [page_zero h.ok, Nd.eraFine, Bool.and_true]
  rw [hf] at h1 ⊢
  refine cond_of (fun hc => ?_) fun hc => ?_
  · simp at hc
    refine ⟨by simp [Nd.eraseE, hc], ?_, c1⟩
    simp only [Nd.erase, hc, if_false]
    have : rmay st (st.eraFine d b) = st.ask (st.eraFine d b) := by
      refine (rask_eq (st := st) (f := st.eraFine d b)).2 ?_
      have := mt Nd.askE_zero.2 hc
      cases hq : st.eraFine d b <;> cases hd : st.dead <;> simp_all
    rw [this] at h1
    exact h1
  simp at hc
  obtain ⟨hdead, hfine⟩ := Nd.askE_zero.1 hc
  have ht : st.there d b = true := by simp [Nd.eraFine] at hfine; exact hfine.1
  obtain ⟨dn, bn, rfl, rfl, hd, hb'⟩ := h.dims ht
  have em : rmay st (st.eraFine (dn : Int) (bn : Int)) = st := by rw [hfine]; simp [rmay, hdead]
  rw [em] at h1
  have eP : st.erase (dn : Int) (bn : Int) = ({ st with ops := wr64 (st.ops + 1) } : Nd).wipe dn bn := by
    have ha : st.ask true = { st with ops := wr64 (st.ops + 1) } := by simp [Nd.ask, hdead]
    unfold Nd.erase
    rw [if_pos hc, hfine, ha]
    simp only [Int.toNat_natCast]
  have eE : st.eraseE (dn : Int) (bn : Int) = if st.goes then 8 else 0 := by simp only [Nd.eraseE, hc, if_true]
  rw [eP, eE]
  have okw : Nd.Ok (({ st with ops := wr64 (st.ops + 1) } : Nd).wipe dn bn) := Nd.Ok.wipe (st := { st with ops := wr64 (st.ops + 1) }) ⟨h.ok.geo, h.ok.page, h.ok.noise, h.ok.mask⟩
  obtain ⟨so, sl, mk, ms, hM⟩ := h1.toM
  refine hM.rest.dieS hM.blk hd fun c => ixB (i := bn) hb' (nn_of (rdI_of (n := st.era dn bn) (hM.rest.eraAt hd hb') (nn_of ?_)))
  refine hM.wrBlk hd hb' (j := 2) (st' := { st with era := upd2 st.era dn bn (wr64 (st.era dn bn + 1)) }) (by omega) (by omega) rfl rfl rfl rfl rfl rfl rfl rfl (fun d' k s => ?_) fun w2 h2 c2 => ?_
  · by_cases he : d' = dn ∧ k = bn
    · obtain ⟨rfl, rfl⟩ := he; simp [eBk, upd2]
    · simp [eBk, upd2, he]
  refine (stops_ok h2 hdead).mono ?_
  rintro v w3 ⟨rfl, h3, c3⟩
  simp only [decB_bool]
  have hms : st.goes = true → ms = st.mask := fun hg' => hM.rest.ml.2 (by
    by_cases h1 : st.stop < 1
    · simp [Nd.goes, h1] at hg'
    · omega)
  have eg : ({ st with era := upd2 st.era dn bn (wr64 (st.era dn bn + 1)) } : Nd).goes = st.goes := rfl
  rw [eg]
  have e4 : ({ st with ops := wr64 (st.ops + 1) } : Nd).wipe dn bn = { ({ st with ops := wr64 (st.ops + 1), era := upd2 st.era dn bn (wr64 (st.era dn bn + 1)) } : Nd).went with
      data := fun d' b' p' => if d' = dn ∧ b' = bn then (if st.goes then mixL (st.data dn bn p') blankL st.mask else blankL) else st.data d' b' p'
      next := if st.goes then st.next else upd2 st.next dn bn 0 } := rfl
  rw [e4] at okw ⊢
  have h3 : RefM base w3 R so sl mk ms ({ st with ops := wr64 (st.ops + 1), era := upd2 st.era dn bn (wr64 (st.era dn bn + 1)) } : Nd).went := h3
  have f1 := Nd.went_g ({ st with ops := wr64 (st.ops + 1), era := upd2 st.era dn bn (wr64 (st.era dn bn + 1)) } : Nd)
  have f2 := Nd.went_data ({ st with ops := wr64 (st.ops + 1), era := upd2 st.era dn bn (wr64 (st.era dn bn + 1)) } : Nd)
  have f4 := Nd.went_next ({ st with ops := wr64 (st.ops + 1), era := upd2 st.era dn bn (wr64 (st.era dn bn + 1)) } : Nd)
  generalize ({ st with ops := wr64 (st.ops + 1), era := upd2 st.era dn bn (wr64 (st.era dn bn + 1)) } : Nd).went = s4 at h3 f1 f2 f4 okw ⊢
  simp only at f1 f2 f4
  rw [← f2, ← f4] at okw ⊢
  generalize hgo : st.goes = torn at okw hms ⊢
  have c13 := c1.trans (c2.trans c3)
  have hb3 : base ≤ w3.heap.size := Nat.le_trans hbase c13.size
  obtain ⟨X, hX⟩ : ∃ X : Nat → List Byt, X = fun p => if torn then mixL (s4.data dn bn p) blankL st.mask else blankL := ⟨_, rfl⟩
  have hXl : ∀ p, (X p).length = 60 := fun p => by
    rw [hX]; dsimp only
    split
    · rw [mixL_len (by rw [h3.ok.page, blankL_len]), h3.ok.page]
    · exact blankL_len
  obtain ⟨PN, hPN⟩ : ∃ PN : Nat, st.g.2.2.1 = (PN : Int) := nat_of (by omega)
  have hP4 : s4.g.2.2.1.toNat = PN := by rw [f1]; omega
  refine joinT_of (fun _ W => RefM base W R so sl mk ms (stage s4 dn bn X PN) ∧ Chg R.mut w3 W) ?_ ?_
  · refine loopT_of (fun e W => ∃ i : Nat, e = ((i : Int), ()) ∧ i ≤ PN ∧ RefM base W R so sl mk ms (stage s4 dn bn X i) ∧ Chg R.mut w3 W) (fun e _ => PN - e.1.toNat) ⟨0, rfl, by omega, by rw [stage_zero]; exact h3, Chg.refl _ _⟩ ?_
    rintro e W ⟨i, rfl, hi, hS, cW⟩ _
    have hgs : (stage s4 dn bn X i).g = st.g := f1
    refine nn_of (rdI_of (n := st.g.2.2.1) ((hS.blk.ad 2 rfl).trans (by rw [hgs])) ?_)
    rw [hPN]
    refine cond_of (fun hc2 => ?_) fun hc2 => ?_
    · simp only [decide_eq_true_eq] at hc2
      have hi2 : i < PN := by omega
      have hiP : i < (stage s4 dn bn X i).g.2.2.1.toNat := by rw [hgs]; omega
      have hstd : (stage s4 dn bn X i).data dn bn i = s4.data dn bn i := by simp [stage]
      replace hS := hS.kept (kept_drew W)
      have hzW : W.drew.heap.size = W.heap.size := rfl
      have hbW : base ≤ W.drew.heap.size := by have := cW.size; omega
      obtain ⟨sp, cs, ⟨cc, rfl⟩, hpg2⟩ := hS.rest.pagAt hd hb'
      obtain ⟨t, ct, mt⟩ := hpg2 i hiP
      rw [hstd] at mt
      have fin : ∀ (V1 : World) (s : Sl), Kept W.drew V1 → Mine eB 5 W.drew.heap.size V1 s (X i) → wr V1 ((⟨R.pp dn bn, 0, none⟩ : Addr).add (Int.toNat (i : Int) * 1)) (.slice s.a s.l s.c) (fun V2 => RefM base V2 R so sl mk ms (stage s4 dn bn X (i + 1)) ∧ Chg R.mut w3 V2) := by
        intro V1 s kv m
        refine (hS.kept kv).wrPag hd hb' hiP (m.mono hbW) (hXl i) fun V2 h8 c8 => ?_
        rw [← stage_succ] at h8
        exact ⟨h8, cW.trans ((Kept.chg ((kept_drew W).trans kv)).trans c8)⟩
      refine joinT_of (fun _ V2 => RefM base V2 R so sl mk ms (stage s4 dn bn X (i + 1)) ∧ Chg R.mut w3 V2) ?_ ?_
      · refine cond_of (fun hto => ?_) fun hto => ?_
        · have hXi : X i = mixL (s4.data dn bn i) blankL st.mask := by rw [hX]; simp [hto]
          refine nn_of (rdS_of cs (nn_of (rdS_of cs (ixB (i := i) hiP (rdS_of ct (nn_of (rdS_of (s := mk) (hS.blk.ad 6 rfl) (ones_ok.mono ?_))))))))
          rintro v V1 ⟨sb, rfl, k1, mb⟩
          simp only [decS_sl]
          refine rdS_of (cell_kept cs k1) ⟨rfl, rdS_of (cell_kept cs k1) ⟨rfl, rdS_of (cell_kept ct k1) ⟨rfl, rdS_of (s := mk) ((hS.blk.kept k1).ad 6 rfl) ⟨rfl, ?_⟩⟩⟩⟩
          refine (rmix_ok (mt.kept k1).row mb.row (hS.kept k1).rest.mm.row (by rw [h3.ok.page]; omega) hS.rest.ml.1).mono ?_
          rintro v V2 ⟨sx, rfl, k2, mx⟩
          simp only [decS_sl]
          refine rdS_of (cell_kept cs (k1.trans k2)) ⟨rfl, ixB (i := i) hiP ?_⟩
          refine fin V2 sx (k1.trans k2) ?_
          rw [hXi]
          rw [hms hto] at mx
          exact mx.mono k1.size
        · have hXi : X i = blankL := by rw [hX]; simp [hto]
          refine nn_of (rdS_of cs (ones_ok.mono ?_))
          rintro v V1 ⟨sb, rfl, k1, mb⟩
          simp only [decS_sl]
          refine rdS_of (cell_kept cs k1) ⟨rfl, ixB (i := i) hiP (fin V1 sb k1 ?_)⟩
          rw [hXi]
          exact mb
      · rintro _ V2 ⟨h8, c8⟩ _
        rw [int_next (by omega)]
        exact ⟨⟨i + 1, rfl, by omega, h8, c8⟩, by simp; omega⟩
    · simp only [decide_eq_false_iff_not] at hc2
      have : i = PN := by omega
      subst this
      exact ⟨hS, cW⟩
  rintro _ W ⟨hS, cW⟩ _
  have cc := c13.trans cW
  have dat : ∀ d' b' p', p' < s4.g.2.2.1.toNat → (if d' = dn ∧ b' = bn then (if torn = true then mixL (s4.data dn bn p') blankL st.mask else blankL) else s4.data d' b' p') = (stage s4 dn bn X PN).data d' b' p' := fun d' b' p' hp' => by
    by_cases he : d' = dn ∧ b' = bn
    · obtain ⟨rfl, rfl⟩ := he
      refine Eq.trans ?_ (stage_in (by omega)).symm
      rw [hX]
      simp only [and_self, if_true]
    · refine Eq.trans ?_ (stage_out he).symm
      simp only [he, if_false]
  refine cond_of (fun hto => ?_) fun hto => ?_
  · refine ⟨by simp [hto], ?_, cc⟩
    exact (hS.congr okw rfl (fun d' b' p' _ _ hp' => dat d' b' p' hp') rfl (by simp [hto, stage]) rfl rfl rfl rfl rfl rfl rfl).toAt
  · refine nn_of ?_
    refine hS.wrBlk hd hb' (j := 1) (st' := { stage s4 dn bn X PN with next := upd2 s4.next dn bn 0 }) (by omega) (by omega) rfl rfl rfl rfl rfl rfl rfl rfl (fun d' k s => ?_) fun V h8 c8 => ?_
    · by_cases he : d' = dn ∧ k = bn
      · obtain ⟨rfl, rfl⟩ := he; simp [eBk, upd2, stage]
      · simp [eBk, upd2, he, stage]
    refine ⟨by simp [hto], ?_, cc.trans c8⟩
    exact (h8.congr okw rfl (fun d' b' p' _ _ hp' => dat d' b' p' hp') rfl (by simp [hto, stage]) rfl rfl rfl rfl rfl rfl rfl).toAt
end
end Go.Proofs.Ytppfnkedbpmliaa
