/- nand does as the law NandTorn says: for any bytes, any mask, any number. -/
import Derived.Test.YtppfnkedbpmliaaVNb
set_option linter.unusedVariables false
set_option linter.unusedSimpArgs false
namespace Go.Proofs.Ytppfnkedbpmliaa
open Go Go.Rk
open Go.RowKit (Below)

theorem went_stop {st : Nd} {k : Nat} (hs : st.stop = ((k + 1 : Nat) : Int)) (hk : k ≤ 1000000) : st.goes = decide (k = 0) ∧ st.went = { st with stop := (k : Int), dead := decide (k = 0) } := by
  have h1 : ¬ st.stop < 1 := by omega
  have h2 : wr64 (st.stop - 1) = (k : Int) := by rw [hs]; simp only [wr64]; rw [w64 (by omega) (by omega)]; omega
  have h3 : ((k : Int) == 0) = decide (k = 0) := by rw [Bool.eq_iff_iff]; simp
  simp only [Nd.goes, Nd.went, h1, if_false, h2, h3, true_and]
/-- A page is programmed, the power being told to go behind k more. -/
theorem progStop {st : Nd} {k : Nat} (hs : st.stop = ((k + 1 : Nat) : Int)) (hk : k ≤ 1000000) (hd : st.dead = false) {d b p : Nat} {bs : List Byt} (hf : st.progFine (d : Int) (b : Int) (p : Int) bs.length = true) :
    st.progE (d : Int) (b : Int) (p : Int) bs.length = (if k = 0 then 8 else 0) ∧ st.prog (d : Int) (b : Int) (p : Int) bs = { st with ops := wr64 (st.ops + 1), next := upd2 st.next d b (wr64 (st.next d b + 1)), stop := (k : Int), dead := decide (k = 0), data := upd3 st.data d b p (if k = 0 then mixL blankL bs st.mask else bs) } := by
  obtain ⟨g1, g2⟩ := went_stop hs hk
  have h0 : st.askE (st.progFine (d : Int) (b : Int) (p : Int) bs.length) = 0 := by rw [hf]; simp [Nd.askE, hd]
  refine ⟨by simp only [Nd.progE, h0, if_true, g1, decide_eq_true_eq], ?_⟩
  unfold Nd.prog
  rw [if_pos h0, hf]
  have ha : st.ask true = { st with ops := wr64 (st.ops + 1) } := by simp [Nd.ask, hd]
  rw [ha]
  obtain ⟨g3, g4⟩ := went_stop (st := { st with ops := wr64 (st.ops + 1), next := upd2 st.next d b (wr64 (st.next d b + 1)) }) (k := k) hs hk
  simp only [Nd.put, Int.toNat_natCast]
  rw [g3, g4]
  simp
theorem eraseStop {st : Nd} {k : Nat} (hs : st.stop = ((k + 1 : Nat) : Int)) (hk : k ≤ 1000000) (hd : st.dead = false) {d b : Nat} (hf : st.eraFine (d : Int) (b : Int) = true) :
    st.eraseE (d : Int) (b : Int) = (if k = 0 then 8 else 0) ∧ st.erase (d : Int) (b : Int) = { st with ops := wr64 (st.ops + 1), era := upd2 st.era d b (wr64 (st.era d b + 1)), stop := (k : Int), dead := decide (k = 0), data := fun d' b' p' => if d' = d ∧ b' = b then (if k = 0 then mixL (st.data d b p') blankL st.mask else blankL) else st.data d' b' p', next := if k = 0 then st.next else upd2 st.next d b 0 } := by
  obtain ⟨g1, g2⟩ := went_stop hs hk
  have h0 : st.askE (st.eraFine (d : Int) (b : Int)) = 0 := by rw [hf]; simp [Nd.askE, hd]
  refine ⟨by simp only [Nd.eraseE, h0, if_true, g1, decide_eq_true_eq], ?_⟩
  unfold Nd.erase
  rw [if_pos h0, hf]
  have ha : st.ask true = { st with ops := wr64 (st.ops + 1) } := by simp [Nd.ask, hd]
  rw [ha]
  obtain ⟨g3, g4⟩ := went_stop (st := { st with ops := wr64 (st.ops + 1), era := upd2 st.era d b (wr64 (st.era d b + 1)) }) (k := k) hs hk
  simp only [Nd.wipe, Int.toNat_natCast]
  rw [g3, g4]
  simp
theorem deadAsk {st : Nd} (hd : st.dead = true) (f : Bool) : st.askE f = 8 ∧ st.ask f = st := by simp [Nd.askE, Nd.ask, hd]
theorem mixB_same (x m : Byt) : mixB x x m = x := by
  unfold mixB
  apply BitVec.eq_of_getLsbD_eq
  intro i hi
  simp only [BitVec.getLsbD_or, BitVec.getLsbD_and, BitVec.getLsbD_not, hi, decide_true, Bool.true_and]
  cases x.getLsbD i <;> cases m.getLsbD i <;> rfl
theorem mixB_zero (x y : Byt) : mixB x y 0#8 = x := by
  unfold mixB
  apply BitVec.eq_of_getLsbD_eq
  intro i hi
  simp only [BitVec.getLsbD_or, BitVec.getLsbD_and, BitVec.getLsbD_not, hi, decide_true, Bool.true_and, BitVec.getLsbD_zero, Bool.not_false, Bool.and_true, Bool.and_false, Bool.or_false]
theorem mixL_same (x m : List Byt) : mixL x x m = x := by
  unfold mixL
  rw [if_pos rfl]
  split
  · rfl
  · apply List.ext_getElem
    · simp
    · intro i h1 h2
      simp [List.getD, List.getElem?_eq_getElem h2, mixB_same]
/-- A byte of what is mixed, whatever the mask. -/
theorem mixL_at {a b m : List Byt} (h : a.length = b.length) {i : Nat} (hi : i < a.length) : (mixL a b m)[i]'(by rw [mixL_len h]; exact hi) = mixB a[i] (b[i]'(by omega)) (if m.length = 0 then 0#8 else m.getD (i % m.length) 0#8) := by
  by_cases h0 : m.length = 0
  · have : mixL a b m = a := by unfold mixL; rw [if_pos h, if_pos h0]
    simp only [this, h0, if_true, mixB_zero]
  · rw [mixL_get h h0 hi, if_neg h0]
/-- What stays till the power goes. -/
structure Live (st : Nd) (g : Geo) : Prop where
  g : st.g = g
  bad : ∀ d b, st.bad d b = false
  noise : st.noise = fun _ _ _ => []
theorem Live.progFine {st : Nd} {g : Geo} (h : Live st g) {d b p n : Nat} (hp : st.page (d : Int) (b : Int) (p : Int) = true) (hn : st.next d b = (p : Int)) (hl : n = 60) : st.progFine (d : Int) (b : Int) (p : Int) n = true := by
  simp [Nd.progFine, hp, Nd.isBad, h.bad, hn, hl]
theorem nandTorn_ok {w : World} {b m : Sl} {bs ms : List Byt} {kk : Int} (hb : Row eB w b bs) (hm : Row eB w m ms) :
    Ok Try.prog 11 [b.v, m.v, .int .i64 kk] w fun v w' => v = .bool true ∧ Kept w w' := by
  have hml := hm.len
  apply u11
  unfold T11
  refine known7_ok.mono ?_
  rintro v w1 ⟨rfl, k1⟩
  simp only [decB_bool]
  refine cond_f rfl (cond_of (fun h => ⟨by trivial, k1⟩) fun h => ?_)
  simp [hml] at h
  refine (newG_ok k1 (g := g688) (bad := ⟨none, 0, 0⟩) (xs := []) row2nil (by simp) (by decide)).mono ?_
  rintro v w2 ⟨L, rfl, h2, k2⟩
  simp only [dec2, decP_ptr, decI_int]
  refine cond_f (by decide) ?_
  refine (within_ok (by omega) (by omega) (fun h => u38 h)).mono ?_
  rintro v w3 ⟨rfl, rfl⟩
  simp only [decI_int]
  obtain ⟨k, hk⟩ : ∃ k : Nat, kk % 8 = (k : Int) := ⟨(kk % 8).toNat, by omega⟩
  have hk8 : k < 8 := by omega
  have e1 : IntKind.wrap .i64 ((1 : Int) + (k : Int)) = ((k + 1 : Nat) : Int) := by rw [w64 (by omega) (by omega)]; omega
  have e2 : IntKind.wrap .i64 (((k + 1 : Nat) : Int) - 1) = (k : Int) := by rw [w64 (by omega) (by omega)]; omega
  rw [hk]
  simp only [e1, e2]
  refine (h2.stop (hm.kept h2.kept) (by omega)).mono ?_
  rintro v w4 ⟨h4, c4⟩
  have e3 : (Nd.new g688 []).setStop ((k + 1 : Nat) : Int) ms = { Nd.new g688 [] with stop := ((k + 1 : Nat) : Int), mask := ms } := by
    simp only [Nd.setStop]
    congr 1 <;> omega
  rw [e3] at h4
  refine (bytes_ok (n := 60) (hb.kept h4.kept) (by omega)).mono ?_
  rintro v w5 ⟨sc, rfl, k5, mc⟩
  simp only [decS_sl]
  have hcl := bytesL_len bs 60
  generalize bytesL bs 60 = c at mc hcl
  have h5 := h4.keep k5
  have r5 := h5.rowO mc
  have hpt : ∀ st : Nd, st.g = g688 → ∀ p : Nat, p < 8 → st.page 0 0 (p : Int) = true := fun st hg p hp => by
    rw [Nd.page_iff, Nd.there_iff, hg]
    exact ⟨⟨by decide, by decide, by decide, by decide⟩, by omega, by show (p : Int) < 8; omega⟩
  refine joinT_of (fun _ W => ∃ st : Nd, LawN w W L st ∧ RowO L W sc c ∧ Live st g688 ∧ st.dead = true ∧ st.next 0 0 = ((k + 1 : Nat) : Int) ∧ st.data 0 0 k = mixL blankL c ms) ?_ ?_
  · refine loopT_of (fun e W => ∃ (i : Nat) (st : Nd), e = ((i : Int), ()) ∧ i ≤ k + 1 ∧ LawN w W L st ∧ RowO L W sc c ∧ Live st g688 ∧ st.mask = ms ∧ st.stop = ((k + 1 - i : Nat) : Int) ∧ st.dead = decide (i = k + 1) ∧ st.next 0 0 = (i : Int) ∧ (i = k + 1 → st.data 0 0 k = mixL blankL c ms)) (fun e _ => k + 1 - e.1.toNat)
      ⟨0, _, rfl, by omega, h5, r5, ⟨rfl, by simp [Nd.new], rfl⟩, rfl, rfl, by simp [Nd.new], rfl, by omega⟩ ?_
    rintro e W ⟨i, st, rfl, hi, hL, hr, hv, hmk, hst, hdd, hn, hdat⟩ _
    refine cond_of (fun hc2 => ?_) fun hc2 => ?_
    · simp only [decide_eq_true_eq] at hc2
      have hik : i ≤ k := by omega
      have hd0 : st.dead = false := by rw [hdd]; simp; omega
      have hst' : st.stop = ((k - i + 1 : Nat) : Int) := by rw [hst]; omega
      obtain ⟨q1, q2⟩ := progStop hst' (by omega) hd0 (d := 0) (b := 0) (p := i) (bs := c) (hv.progFine (hpt st hv.g i (by omega)) hn hcl)
      have q1' : st.progE 0 0 (i : Int) c.length = _ := q1
      have q2' : st.prog 0 0 (i : Int) c = _ := q2
      refine (hL.progO hr (by omega)).mono ?_
      rintro v W1 ⟨rfl, hL1, c1, hr1⟩
      simp only [decI_int]
      rw [q1']
      rw [q2'] at hL1
      refine joinT_of (fun d W' => d.1 = false ∧ W' = W1) ?_ ?_
      · rw [int_next (by omega)]
        by_cases h0 : k - i = 0
        · rw [if_pos h0]
          have : ¬ ((i + 1 : Nat) : Int) < ((k + 1 : Nat) : Int) := by omega
          refine cond_f (by simp only [this, decide_false]; decide) (cond_t (by decide) ⟨by decide, rfl⟩)
        · rw [if_neg h0]
          have : ((i + 1 : Nat) : Int) < ((k + 1 : Nat) : Int) := by omega
          refine cond_f (by simp only [this, decide_true]; decide) (cond_f (by decide) ⟨rfl, rfl⟩)
      · rintro ⟨d, _⟩ W2 ⟨rfl, rfl⟩ _
        refine cond_f rfl ?_
        rw [int_next (by omega)]
        refine ⟨⟨i + 1, _, rfl, by omega, hL1, hr1, ⟨hv.g, hv.bad, hv.noise⟩, hmk, ?_, ?_, ?_, fun hik2 => ?_⟩, by simp; omega⟩
        · show ((k - i : Nat) : Int) = _
          omega
        · rw [Bool.eq_iff_iff]
          simp
          omega
        · simp only [upd2, and_self, if_true, hn]
          exact int_next (by omega)
        · have : i = k := by omega
          subst this
          simp [upd3, hmk]
    · simp only [decide_eq_false_iff_not] at hc2
      have : i = k + 1 := by omega
      subst this
      exact ⟨st, hL, hr, hv, by rw [hdd]; simp, hn, hdat rfl⟩
  rintro _ w6 ⟨st, h6, r6, hv, hdd, hn, hdat⟩ _
  have f1 : st.readE 0 0 0 = 8 := (deadAsk hdd _).1
  have f2 : st.readS 0 0 0 = st := (deadAsk hdd _).2
  have f3 : st.eraseE 0 0 = 8 := by simp [Nd.eraseE, (deadAsk hdd _).1]
  have f4 : st.erase 0 0 = st := by simp only [Nd.erase, (deadAsk hdd _).1, (deadAsk hdd _).2]; simp
  refine h6.readO.mono ?_
  rintro v w7 ⟨s7, rfl, _, h7, c7⟩
  simp only [dec2, decS_sl, decI_int]
  rw [f1]
  rw [f2] at h7
  refine joinT_of (fun d W => d.1 = false ∧ LawN w W L st ∧ RowO L W sc c) ?_ ?_
  · refine cond_f (by decide) (h7.erase.mono ?_)
    rintro v w8 ⟨rfl, h8, c8⟩
    simp only [decI_int]
    rw [f3]
    rw [f4] at h8
    refine cond_f (by decide) (h8.dead.mono ?_)
    rintro v w9 ⟨rfl, rfl⟩
    simp only [decB_bool]
    exact ⟨by rw [hdd]; rfl, h8, (r6.chg c7).chg c8⟩
  rintro ⟨d, _⟩ w8 ⟨rfl, h8, r8⟩ _
  refine cond_f rfl (h8.power.mono ?_)
  rintro v w9 ⟨h9, c9⟩
  have r9 := r8.chg c9
  have cc : Calm st.power g688 := ⟨hv.g, rfl, by show (0 : Int) < 1; decide, hv.bad⟩
  obtain ⟨q1, q2, q3⟩ := cc.read (d := 0) (b := 0) (p := k) (hpt _ hv.g k hk8)
  have q1' : st.power.readE 0 0 (k : Int) = 0 := q1
  have q2' : st.power.readB 0 0 (k : Int) = mixL blankL c ms := by
    refine Eq.trans q2 ?_
    have e4 : st.power.noise = st.noise := rfl
    have e5 : st.power.data = st.data := rfl
    rw [e4, e5, hv.noise, hdat, flips_nil]
  have q3' : st.power.readS 0 0 (k : Int) = _ := q3
  refine h9.readO.mono ?_
  rintro v w10 ⟨sx, rfl, rx, h10, c10⟩
  simp only [dec2, decS_sl, decI_int]
  rw [q1']
  rw [q2'] at rx
  rw [q3'] at h10
  have r10 := r9.chg c10
  have hbc : blankL.length = c.length := by rw [hcl]; rfl
  have hxl := rx.row.len
  rw [mixL_len hbc] at hxl
  refine joinT_of (fun d W => d.1 = false ∧ W = w10) (cond_f (by decide) ⟨by rw [hxl]; rfl, rfl⟩) ?_
  rintro ⟨d, _⟩ w11 ⟨rfl, rfl⟩ _
  refine cond_f rfl ?_
  refine joinT_of (fun _ W => Kept w11 W) ?_ ?_
  · refine loopT_of (fun e W => ∃ i : Nat, e = ((i : Int), ()) ∧ i ≤ 60 ∧ Kept w11 W) (fun e _ => 60 - e.1.toNat) ⟨0, rfl, by omega, kept_refl _⟩ ?_
    rintro e W ⟨i, rfl, hi, kW⟩ _
    refine cond_of (fun hc2 => ?_) fun hc2 => ?_
    · simp only [decide_eq_true_eq] at hc2
      have hi60 : i < 60 := by omega
      refine joinT_of (fun d W' => d.1 = ((if ms.length = 0 then 0#8 else ms.getD (i % ms.length) 0#8).toNat : Int) ∧ W' = W) ?_ ?_
      · by_cases h0 : ms.length = 0
        · refine cond_f (by simp [hml, h0]) ⟨by simp [h0], rfl⟩
        · refine cond_t (by simp [hml]; omega) ⟨by omega, ?_⟩
          rw [hml, tmod_nat]
          have him : i % ms.length < ms.length := Nat.mod_lt _ (by omega)
          refine (hm.kept (h10.kept.trans kW)).ixn him fun q hq hcell => rdI_of hcell ⟨?_, rfl⟩
          simp [h0, List.getD, List.getElem?_eq_getElem him]
      · rintro ⟨d, _⟩ W' ⟨hd, rfl⟩ _
        simp only at hd
        subst hd
        have kd := kW.trans (kept_drew W')
        have hil : i < (mixL blankL c ms).length := by rw [mixL_len hbc]; exact hi60
        refine (rx.row.kept kd).ix hil fun q hq hcell => rdI_of hcell ?_
        refine (r10.row.kept kd).ix (show i < c.length by omega) fun q2 hq2 hcell2 => rdI_of hcell2 ?_
        have hbi : blankL[i]'hi60 = 255#8 := by simp only [blankL, List.getElem_replicate]
        have e6 := mix_bit (255#8) (c[i]'(by omega)) (if ms.length = 0 then 0#8 else ms.getD (i % ms.length) 0#8)
        have e7 : (((255#8 : Byt).toNat : Nat) : Int) = 255 := by decide
        rw [e7] at e6
        rw [e6]
        refine cond_f ?_ ?_
        · rw [mixL_at hbc hi60, hbi]
          simp
        · rw [int_next (by omega)]
          exact ⟨⟨i + 1, rfl, by omega, kd⟩, by simp; omega⟩
    · exact kW
  intro _ w12 k12 _
  have h12 := h10.keep k12
  refine joinT_of (fun d W => d.1 = true ∧ Kept w W) ?_ ?_
  · have cc2 : Calm { st.power with ops := wr64 (st.power.ops + 1) } g688 := ⟨hv.g, rfl, by show (0 : Int) < 1; decide, hv.bad⟩
    have hf : ({ st.power with ops := wr64 (st.power.ops + 1) } : Nd).progFine 0 0 (k : Int) c.length = false := by
      have hn' : ({ st.power with ops := wr64 (st.power.ops + 1) } : Nd).next (0 : Int).toNat (0 : Int).toNat = ((k + 1 : Nat) : Int) := hn
      have hq : (({ st.power with ops := wr64 (st.power.ops + 1) } : Nd).next (0 : Int).toNat (0 : Int).toNat == (k : Int)) = false := by
        rw [hn', beq_eq_false_iff_ne]
        omega
      simp only [Nd.progFine, hq, Bool.and_false]
    obtain ⟨q4, q5⟩ := cc2.progNot (n := 60) hf
    refine (h12.progO (r10.kept k12) (by omega)).mono ?_
    rintro v w13 ⟨rfl, h13, c13, _⟩
    simp only [decI_int]
    rw [q4]
    rw [q5] at h13
    refine cond_t (by decide) (h13.dead.mono ?_)
    rintro v w14 ⟨rfl, rfl⟩
    simp only [decB_bool]
    exact ⟨rfl, h13.kept⟩
  · rintro ⟨d, _⟩ W ⟨rfl, kW⟩ _
    exact ⟨rfl, kW⟩
end Go.Proofs.Ytppfnkedbpmliaa
