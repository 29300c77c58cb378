/- nand does as the law NandErase says: for any bytes, any mask, any number. -/
import Derived.Test.YtppfnkedbpmliaaVNc
set_option linter.unusedVariables false
set_option linter.unusedSimpArgs false
namespace Go.Proofs.Ytppfnkedbpmliaa
open Go Go.Rk
open Go.RowKit (Below)

abbrev g685 : Geo := (6, 8, 5, ())
theorem nandErase_ok {w : World} {b m : Sl} {bs ms : List Byt} {nn : Int} (hb : Row eB w b bs) (hm : Row eB w m ms) :
    Ok Try.prog 14 [b.v, m.v, .int .i64 nn] w fun v w' => v = .bool true ∧ Kept w w' := by
  have hml := hm.len
  apply u14
  unfold T14
  refine known7_ok.mono ?_
  rintro v w1 ⟨rfl, k1⟩
  simp only [decB_bool]
  refine cond_f rfl (cond_of (fun h => ⟨by trivial, k1⟩) fun h => ?_)
  simp [hml] at h
  refine (newG_ok k1 (g := g685) (bad := ⟨none, 0, 0⟩) (xs := []) row2nil (by simp) (by decide)).mono ?_
  rintro v w2 ⟨L, rfl, h2, k2⟩
  simp only [dec2, decP_ptr, decI_int]
  refine cond_f (by decide) ?_
  refine (within_ok (by omega) (by omega) (fun h => u38 h)).mono ?_
  rintro v w3 ⟨rfl, rfl⟩
  simp only [decI_int]
  obtain ⟨n, hn⟩ : ∃ n : Nat, nn % 5 = (n : Int) := ⟨(nn % 5).toNat, by omega⟩
  have hn5 : n < 5 := by omega
  have e1 : IntKind.wrap .i64 ((1 : Int) + (n : Int)) = ((n + 1 : Nat) : Int) := by rw [w64 (by omega) (by omega)]; omega
  rw [hn]
  simp only [e1]
  refine (bytes_ok (n := 60) (hb.kept h2.kept) (by omega)).mono ?_
  rintro v w5 ⟨sc, rfl, k5, mc⟩
  simp only [decS_sl]
  have hcl := bytesL_len bs 60
  generalize bytesL bs 60 = c at mc hcl
  have h5 := h2.keep k5
  have r5 := h5.rowO mc
  have hpt : ∀ st : Nd, st.g = g685 → ∀ p : Nat, p < 5 → st.page 2 3 (p : Int) = true := fun st hg p hp => by
    rw [Nd.page_iff, Nd.there_iff, hg]
    exact ⟨⟨by decide, by decide, by decide, by decide⟩, by omega, by show (p : Int) < 5; omega⟩
  have hth : ∀ st : Nd, st.g = g685 → st.there 2 3 = true := fun st hg => by rw [there_new st hg]; decide
  refine joinT_of (fun _ W => ∃ st : Nd, LawN w W L st ∧ RowO L W sc c ∧ Calm st g685 ∧ st.noise = (fun _ _ _ => []) ∧ st.era 2 3 = 0 ∧ st.next 2 3 = ((n + 1 : Nat) : Int) ∧ ∀ j, st.data 2 3 j = if j < n + 1 then c else blankL) ?_ ?_
  · refine loopT_of (fun e W => ∃ (i : Nat) (st : Nd), e = ((i : Int), ()) ∧ i ≤ n + 1 ∧ LawN w W L st ∧ RowO L W sc c ∧ Calm st g685 ∧ st.noise = (fun _ _ _ => []) ∧ st.era 2 3 = 0 ∧ st.next 2 3 = (i : Int) ∧ ∀ j, st.data 2 3 j = if j < i then c else blankL) (fun e _ => n + 1 - e.1.toNat)
      ⟨0, _, rfl, by omega, h5, r5, Calm.new, rfl, rfl, rfl, by simp [Nd.new]⟩ ?_
    rintro e W ⟨i, st, rfl, hi, hL, hr, hc, hno, her, hx, hd⟩ _
    refine cond_of (fun hc2 => ?_) fun hc2 => ?_
    · simp only [decide_eq_true_eq] at hc2
      have hik : i ≤ n := by omega
      obtain ⟨q1, q2⟩ := hc.prog (d := 2) (b := 3) (p := i) (bs := c) (hpt st hc.g i (by omega)) hx hcl
      have q1' : st.progE 2 3 (i : Int) c.length = _ := q1
      have q2' : st.prog 2 3 (i : Int) c = _ := q2
      refine (hL.progO hr (by omega)).mono ?_
      rintro v W1 ⟨rfl, hL1, c1, hr1⟩
      simp only [decI_int]
      rw [q1']
      rw [q2'] at hL1
      refine cond_f (by decide) ?_
      rw [int_next (by omega)]
      refine ⟨⟨i + 1, _, rfl, by omega, hL1, hr1, ⟨hc.g, hc.dead, hc.stop, hc.bad⟩, hno, her, ?_, fun j => ?_⟩, by simp; omega⟩
      · simp only [upd2, and_self, if_true]
        exact int_next (by omega)
      · simp only [upd3]
        by_cases hj : j = i
        · subst hj; simp
        · rw [if_neg (by simp [hj]), hd]
          by_cases hlt : j < i
          · rw [if_pos hlt, if_pos (by omega)]
          · rw [if_neg hlt, if_neg (by omega)]
    · simp only [decide_eq_false_iff_not] at hc2
      have : i = n + 1 := by omega
      subst this
      exact ⟨st, hL, hr, hc, hno, her, hx, hd⟩
  rintro _ w6 ⟨st, h6, r6, hc, hno, her, hx, hd⟩ _
  refine (h6.stop (k := 1) (hm.kept h6.kept) (by omega)).mono ?_
  rintro v w7 ⟨h7, c7⟩
  have e3 : st.setStop 1 ms = { st with stop := 1, mask := ms } := rfl
  rw [e3] at h7
  obtain ⟨q1, q2⟩ := eraseStop (st := { st with stop := 1, mask := ms }) (k := 0) rfl (by omega) hc.dead (d := 2) (b := 3) (by simp [Nd.eraFine, Nd.isBad, hc.bad, hth { st with stop := 1, mask := ms } hc.g])
  have q1' : ({ st with stop := 1, mask := ms } : Nd).eraseE 2 3 = _ := q1
  have q2' : ({ st with stop := 1, mask := ms } : Nd).erase 2 3 = _ := q2
  refine h7.erase.mono ?_
  rintro v w8 ⟨rfl, h8, c8⟩
  simp only [decI_int]
  rw [q1']
  rw [q2'] at h8
  refine cond_f (by decide) (h8.power.mono ?_)
  rintro v w9 ⟨h9, c9⟩
  have r9 := r6.chg (c7.trans (c8.trans c9))
  refine ones60_ok (w := w9) fun so w10 k10 mo => ?_
  simp only [decS_sl]
  have h10 := h9.keep k10
  have r10 := r9.kept k10
  have ro := h10.rowO mo
  -- the state behind it
  have hbl : blankL.length = 60 := blankL_len
  refine joinT_of (fun _ W => ∃ st' : Nd, LawN w W L st' ∧ RowO L W sc c ∧ Calm st' g685 ∧ st'.era 2 3 = 1 ∧ st'.next 2 3 = ((n + 1 : Nat) : Int)) ?_ ?_
  · refine loopT_of (fun e W => ∃ (i : Nat) (st' : Nd), e = ((i : Int), ()) ∧ i ≤ 5 ∧ LawN w W L st' ∧ RowO L W sc c ∧ RowO L W so blankL ∧ Calm st' g685 ∧ st'.era 2 3 = 1 ∧ st'.next 2 3 = ((n + 1 : Nat) : Int) ∧ st'.noise = (fun _ _ _ => []) ∧ ∀ j, st'.data 2 3 j = if j < n + 1 then mixL c blankL ms else blankL) (fun e _ => 5 - e.1.toNat)
      ⟨0, _, rfl, by omega, h10, r10, ro, ⟨hc.g, rfl, by show (0 : Int) < 1; decide, hc.bad⟩, ?_, ?_, hno, fun j => ?_⟩ ?_
    · simp only [Nd.power, upd2, and_self, if_true, her]
      decide
    · exact hx
    · simp only [Nd.power, and_self, if_true, hd]
      split
      · rfl
      · exact mixL_same _ _
    rintro e W ⟨i, st', rfl, hi, hL, hr, hro, hc', her', hx', hno', hd'⟩ _
    refine cond_of (fun hc2 => ?_) fun hc2 => ?_
    · simp only [decide_eq_true_eq] at hc2
      have hi5 : i < 5 := by omega
      obtain ⟨p1, p2, p3⟩ := hc'.read (d := 2) (b := 3) (p := i) (hpt st' hc'.g i hi5)
      have p1' : st'.readE 2 3 (i : Int) = 0 := p1
      have p2' : st'.readB 2 3 (i : Int) = _ := p2
      have p3' : st'.readS 2 3 (i : Int) = _ := p3
      refine hL.readO.mono ?_
      rintro v W1 ⟨sx, rfl, rx, hL1, c1⟩
      simp only [dec2, decS_sl, decI_int]
      rw [p1']
      rw [p2', hno', flips_nil, hd'] at rx
      rw [p3'] at hL1
      have hr1 := hr.chg c1
      have hro1 := hro.chg c1
      refine joinT_of (fun d W' => Kept W1 W' ∧ Row eB W' d.1 (if i < n + 1 then mixL c blankL ms else blankL)) ?_ ?_
      · refine cond_of (fun h3 => ?_) fun h3 => ?_
        · simp only [decide_eq_true_eq] at h3
          refine (rmix_ok hr1.row hro1.row (hm.kept hL1.kept) (by omega) (by omega)).mono ?_
          rintro v W2 ⟨s2, rfl, k2', m2⟩
          simp only [decS_sl]
          rw [if_pos (by omega)]
          exact ⟨k2', m2.row⟩
        · simp only [decide_eq_false_iff_not] at h3
          rw [if_neg (by omega)]
          exact ⟨kept_refl _, hro1.row⟩
      · rintro ⟨sw, _⟩ W2 ⟨kW2, rw2⟩ _
        refine joinT_of (fun d W' => d.1 = false ∧ W' = W2) ?_ ?_
        · refine cond_f (by decide) (toS (rx.row.kept kW2) (toS rw2 ⟨?_, rfl⟩))
          rw [strB_inj]
          simp
        · rintro ⟨d, _⟩ W3 ⟨rfl, rfl⟩ _
          refine cond_f rfl ?_
          rw [int_next (by omega)]
          exact ⟨⟨i + 1, _, rfl, by omega, hL1.keep kW2, hr1.kept kW2, hro1.kept kW2, ⟨hc'.g, hc'.dead, hc'.stop, hc'.bad⟩, her', hx', hno', hd'⟩, by simp; omega⟩
    · exact ⟨st', hL, hr, hc', her', hx'⟩
  rintro _ w11 ⟨st1, h11, r11, c1, er1, nx1⟩ _
  have hf : st1.progFine 2 3 0 c.length = false := by
    have hq : (st1.next (2 : Int).toNat (3 : Int).toNat == (0 : Int)) = false := by
      have : st1.next (2 : Int).toNat (3 : Int).toNat = ((n + 1 : Nat) : Int) := nx1
      rw [this, beq_eq_false_iff_ne]
      omega
    simp only [Nd.progFine, hq, Bool.and_false]
  obtain ⟨q4, q5⟩ := c1.progNot (n := 60) hf
  refine (h11.progO r11 (by omega)).mono ?_
  rintro v w12 ⟨rfl, h12, cc12, r12⟩
  simp only [decI_int]
  rw [q5] at h12
  have c2 : Calm { st1 with wrong := wr64 (st1.wrong + 1) } g685 := ⟨c1.g, c1.dead, c1.stop, c1.bad⟩
  obtain ⟨q6, q7⟩ := c2.eraseS (d := 2) (b := 3) (hth _ c2.g)
  have q6' : ({ st1 with wrong := wr64 (st1.wrong + 1) } : Nd).eraseE 2 3 = 0 := q6
  have q7' : ({ st1 with wrong := wr64 (st1.wrong + 1) } : Nd).erase 2 3 = _ := q7
  refine h12.erase.mono ?_
  rintro v w13 ⟨rfl, h13, cc13⟩
  simp only [decI_int]
  rw [q7'] at h13
  rw [q4, q6']
  refine joinT_of (fun d W => d.1 = true ∧ Kept w W) ?_ ?_
  · refine cond_t (by decide) (cond_t (by decide) (h13.erases.mono ?_))
    rintro v w14 ⟨rfl, rfl⟩
    simp only [decI_int]
    refine cond_t ?_ ?_
    · have : ({ st1 with wrong := wr64 (st1.wrong + 1) } : Nd).there 2 3 = true := hth _ c2.g
      refine Eq.trans (congrArg (fun x : Int => x == 2) (if_pos this)) ?_
      show (upd2 st1.era 2 3 (wr64 (st1.era 2 3 + 1)) 2 3 == 2) = true
      simp only [upd2, and_self, if_true, er1]
      decide
    · have c3 : Calm { st1 with ops := wr64 (st1.ops + 1), era := upd2 st1.era 2 3 (wr64 (st1.era 2 3 + 1)), data := fun d' b' p' => if d' = 2 ∧ b' = 3 then blankL else st1.data d' b' p', next := upd2 st1.next 2 3 0, wrong := wr64 (st1.wrong + 1) } g685 := ⟨c1.g, c1.dead, c1.stop, c1.bad⟩
      obtain ⟨q8, q9⟩ := c3.prog (d := 2) (b := 3) (p := 0) (bs := c) (hpt _ c3.g 0 (by omega)) (by simp [upd2]) hcl
      refine (h13.progO (r12.chg cc13) (by omega)).mono ?_
      rintro v w15 ⟨rfl, h15, cc15, _⟩
      simp only [decI_int]
      exact ⟨by rw [beq_iff_eq]; exact q8, h15.kept⟩
  · rintro ⟨d, _⟩ W ⟨rfl, kW⟩ _
    exact ⟨rfl, kW⟩
end Go.Proofs.Ytppfnkedbpmliaa
