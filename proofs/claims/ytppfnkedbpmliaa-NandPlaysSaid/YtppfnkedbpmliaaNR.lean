/- What the reference's Flip and Mix (ramekinref6), and its blank page (ramekinref7.ones) compute: the same as the program's. -/
import Derived.Test.YtppfnkedbpmliaaNL
set_option linter.unusedVariables false
set_option linter.unusedSimpArgs false
namespace Go.Proofs.Ytppfnkedbpmliaa
open Go Go.Rk
open Go.RowKit (Below)

/-- append to an empty literal: a copy of the call's own. -/
theorem app0 {P : Program} {t ty e : TypeId} (hz : Sz P t e) {α : Type} {enc : α → Value} (h1 : ∀ x, (enc x).oneCell' = true) {b : Nat} {W : World} {u : Sl} {ys : List α} {K : Value → World → Prop} (hB : Blk W b e []) (hy : Row enc W u ys) (hl : ys.length ≤ 1000000000)
    (k : ∀ (s' : Sl) W', Mine enc e b W' s' ys → Chg (· = b) W W' → K s'.v W') : raw P (Builtin.append_ #[t, t] ty #[.slice (some ⟨b, 0, none⟩) 0 0, u.v]) W K := by
  have hm : Mine enc e b W ⟨some ⟨b, 0, none⟩, 0, 0⟩ ([] : List α) := Blk.mine (xs := ([] : List α)) hB (Nat.le_refl _) (by simp)
  refine raw_append hz h1 (s := ⟨some ⟨b, 0, none⟩, 0, 0⟩) hm hy (by simp; omega) (Nat.le_of_lt hB.lt) fun s' w' g1 g2 _ => ?_
  exact k s' w' (by simpa using g1) (Chg.of_grown g2 fun k hk => by cases hk; rfl)
theorem rflip_ok {w : World} {b l : Sl} {bs : List (BitVec 8)} {ps : List Int} (hb : Row eB w b bs) (hl : Row eI w l ps) (h1 : bs.length ≤ 100000000) (hfew : Few ps) :
    Ok Try.prog 47 [b.v, l.v] w fun v w' => ∃ s' : Sl, v = s'.v ∧ Kept w w' ∧ Mine eB 5 w.heap.size w' s' (flips bs ps) := by
  have hl1 : l.l = ps.length := hl.len
  have hbl := hb.len
  have h2 := hfew.1
  apply u47
  unfold T47
  refine alW (cs := []) fun W0 hB0 k0 _ => app0 szB (fun _ => rfl) hB0 (hb.kept k0) (by omega) fun s1 w1 o1 c1 => ?_
  simp only [decS_sl]
  have k1 : Kept w w1 := k0.then c1 fun x hx => by omega
  refine joinT_of (fun _ w' => Kept w w' ∧ Mine eB 5 w.heap.size w' s1 (flips bs ps)) ?_ ?_
  · refine loopT_of (fun d w' => ∃ n : Nat, d = ((n : Int), ()) ∧ n ≤ ps.length ∧ Kept w w' ∧ Mine eB 5 w.heap.size w' s1 (flips bs (ps.take n))) (fun d _ => ps.length - d.1.toNat) ⟨0, rfl, by omega, k1, by simpa [flips] using o1⟩ ?_
    rintro d w2 ⟨n, rfl, hn, k2, o2⟩ _
    refine cond_of (fun hc => ?_) fun hc => ?_
    · simp [hl1] at hc
      have hs1 : s1.l = bs.length := by have := o2.len; simpa using this
      have htk : ps.take (n + 1) = ps.take n ++ [ps[n]] := by rw [List.take_append_getElem]
      refine joinT_of (fun d' w' => d'.1 = decide (0 ≤ ps[n] ∧ ps[n] < 8 * (bs.length : Int)) ∧ w' = w2) ?_ ?_
      · refine (hl.kept k2).ix hc fun q hq hcell => rdI_of hcell (cond_of (fun h3 => ?_) fun h3 => ?_)
        · simp only [ge_iff_le, decide_eq_true_eq] at h3
          refine (hl.kept k2).ix hc fun q hq hcell => rdI_of hcell ⟨by decide, ?_, rfl⟩
          obtain ⟨m, hm⟩ := nat_of h3
          rw [hm]
          have hbig := hfew.2 _ (List.getElem_mem hc)
          have hdiv : IntKind.wrap .i64 (Int.tdiv (m : Int) 8) = ((m / 8 : Nat) : Int) := by
            have : Int.tdiv (m : Int) 8 = ((m / 8 : Nat) : Int) := by simp [Int.tdiv]
            rw [this, w64 (by omega) (by omega)]
          rw [hdiv, hbl, Bool.eq_iff_iff]
          simp only [decide_eq_true_eq]
          omega
        · simp at h3
          refine ⟨?_, rfl⟩
          simp
          omega
      · rintro ⟨d3, _⟩ w3 ⟨hd3, rfl⟩ _
        simp only at hd3
        subst hd3
        refine joinT_of (fun _ w' => Kept w w' ∧ Mine eB 5 w.heap.size w' s1 (flips bs (ps.take (n + 1)))) ?_ ?_
        · refine cond_of (fun h3 => ?_) fun h3 => ?_
          · simp at h3
            have kd := k2.trans (kept_drew w3)
            have hld := hl.kept kd
            refine hld.ix hc fun q1 hq1 e1 => rdI_of e1 ⟨by decide, hld.ix hc fun q2 hq2 e2 => rdI_of e2 ⟨by decide, ?_⟩⟩
            obtain ⟨m, hm⟩ : ∃ m : Nat, ps[n] = (m : Int) := ⟨ps[n].toNat, by omega⟩
            rw [hm] at h3
            have hm8 : m / 8 < (flips bs (ps.take n)).length := by simp; omega
            have hdiv : IntKind.wrap .i64 (Int.tdiv ps[n] 8) = ((m / 8 : Nat) : Int) := by
              rw [hm]
              have : Int.tdiv (m : Int) 8 = ((m / 8 : Nat) : Int) := by simp [Int.tdiv]
              rw [this, w64 (by omega) (by omega)]
            have hmod : IntKind.wrap .u64 (Int.tmod ps[n] 8) = ((m % 8 : Nat) : Int) := by
              rw [hm]
              have : Int.tmod (m : Int) 8 = ((m % 8 : Nat) : Int) := by simp [Int.tmod]
              rw [this]
              have hlt : m % 8 < 8 := Nat.mod_lt _ (by omega)
              have key : ∀ k < 8, IntKind.wrap .u64 ((k : Nat) : Int) = (k : Int) := by decide
              exact key _ hlt
            rw [hdiv]
            have o2' : Mine eB 5 w.heap.size w3.drew s1 (flips bs (ps.take n)) := o2.kept (kept_drew w3)
            refine o2'.row.ix hm8 fun q3 hq3 hc3 => rdI_of hc3 ?_
            refine hld.ix hc fun q4 hq4 e4 => rdI_of e4 ⟨by decide, ?_⟩
            rw [hmod]
            refine ⟨by omega, ?_⟩
            have hx := xor_bit ((flips bs (ps.take n))[m / 8]) (m % 8) (Nat.mod_lt _ (by omega))
            simp only [Int.toNat_natCast] at hx ⊢
            rw [hx]
            refine o2'.wrE hm8 ((flips bs (ps.take n))[m / 8] ^^^ (1#8 <<< (m % 8))) fun W4 m4 c4 => ⟨kd.then c4 fun x hx => by omega, ?_⟩
            rw [htk, flips_append, hm]
            show Mine _ _ _ _ _ (flipAt _ _)
            rw [flipAt_set hm8]
            exact m4
          · simp at h3
            refine ⟨k2, ?_⟩
            rw [htk, flips_append]
            show Mine _ _ _ _ _ (flipAt _ _)
            rw [flipAt_none (by simp; omega)]
            exact o2
        · rintro _ w4 ⟨k4, o4⟩ _
          rw [int_next (by omega)]
          exact ⟨⟨n + 1, rfl, by omega, k4, o4⟩, by simp; omega⟩
    · simp [hl1] at hc
      refine ⟨k2, ?_⟩
      rw [List.take_of_length_le hc] at o2
      exact o2
  · rintro _ w2 ⟨k2, o2⟩ _
    exact ⟨s1, rfl, k2, o2⟩
/-- The reference's Mix. -/
theorem rmix_ok {w : World} {a b m : Sl} {xs ys ms : List Byt} (ha : Row eB w a xs) (hb : Row eB w b ys) (hm : Row eB w m ms) (hl : xs.length ≤ 100000000) (hml : ms.length ≤ 1000000000) :
    Ok Try.prog 54 [a.v, b.v, m.v] w fun v w' => ∃ s : Sl, v = s.v ∧ Kept w w' ∧ Mine eB 5 w.heap.size w' s (mixL xs ys ms) := by
  have hal := ha.len
  have hbl := hb.len
  have hmll := hm.len
  apply u54
  unfold T54
  refine cond_of (fun hc => ?_) fun hc => ?_
  · simp [hal, hbl] at hc
    refine ⟨⟨none, 0, 0⟩, rfl, kept_refl _, ?_⟩
    have : mixL xs ys ms = [] := by unfold mixL; rw [if_neg (by omega)]
    rw [this]
    exact Mine.nil
  simp [hal, hbl] at hc
  replace hc : xs.length = ys.length := by omega
  refine alW (cs := []) fun W0 hB0 k0 _ => app0 szB (fun _ => rfl) hB0 (ha.kept k0) (by omega) fun s w1 m1 c1 => ?_
  simp only [decS_sl]
  have k1 : Kept w w1 := k0.then c1 fun x hx => by omega
  have hsl := m1.len
  refine joinT_of (fun _ W => Kept w W ∧ Mine eB 5 w.heap.size W s (mixL xs ys ms)) ?_ ?_
  · refine loopT_of (fun d W => ∃ (i : Nat), d = ((i : Int), ()) ∧ i ≤ xs.length ∧ Kept w W ∧ Mine eB 5 w.heap.size W s ((mixL xs ys ms).take i ++ xs.drop i)) (fun d _ => xs.length - d.1.toNat) ⟨0, rfl, by omega, k1, by simpa using m1⟩ ?_
    rintro d W ⟨i, rfl, hi, k2, m2⟩ _
    refine joinT_of (fun d W' => d.1 = decide (i < xs.length ∧ 0 < ms.length) ∧ W' = W) ?_ ?_
    · refine cond_of (fun hc2 => ?_) fun hc2 => ?_
      · simp [hsl] at hc2
        refine ⟨?_, rfl⟩
        simp [hmll]
        omega
      · simp [hsl] at hc2
        refine ⟨?_, rfl⟩
        simp
        omega
    · rintro ⟨d, _⟩ W2 ⟨hd, rfl⟩ _
      simp only at hd
      subst hd
      refine cond_of (fun hc2 => ?_) fun hc2 => ?_
      · simp only [decide_eq_true_eq] at hc2
        obtain ⟨hi1, h0'⟩ := hc2
        have h0 : ms.length ≠ 0 := by omega
        refine ⟨by omega, ?_⟩
        rw [hmll, tmod_nat]
        have him : i % ms.length < ms.length := Nat.mod_lt _ (by omega)
        refine (hm.kept k2).ixn him fun q hq c1 => rdI_of c1 ?_
        have kd := k2.trans (kept_drew W2)
        refine (ha.kept kd).ix hi1 fun q2 hq2 c2 => rdI_of c2 ?_
        refine (hb.kept kd).ix (show i < ys.length by omega) fun q3 hq3 c3 => rdI_of c3 ?_
        rw [mix_bit]
        have hlen : ((mixL xs ys ms).take i ++ xs.drop i).length = xs.length := by
          rw [List.length_append, List.length_take, mixL_len hc, List.length_drop]; omega
        have hi2 : i < ((mixL xs ys ms).take i ++ xs.drop i).length := by omega
        refine (m2.kept (kept_drew W2)).wrE hi2 (mixB xs[i] ys[i] ms[i % ms.length]) fun W4 m4 c4 => ?_
        have e : ((mixL xs ys ms).take i ++ xs.drop i).set i (mixB xs[i] ys[i] ms[i % ms.length]) = (mixL xs ys ms).take (i + 1) ++ xs.drop (i + 1) := by
          rw [List.set_append_right _ _ (by rw [List.length_take]; omega)]
          have hli : (List.take i (mixL xs ys ms)).length = i := by rw [List.length_take, mixL_len hc]; omega
          rw [hli, Nat.sub_self, List.drop_eq_getElem_cons hi1, List.set_cons_zero]
          have hmi : i < (mixL xs ys ms).length := by rw [mixL_len hc]; exact hi1
          rw [← List.take_append_getElem hmi, List.append_assoc, List.singleton_append]
          congr 2
          rw [mixL_get hc h0 hi1]
          simp [List.getD, List.getElem?_eq_getElem him]
        rw [e] at m4
        rw [int_next (by omega)]
        exact ⟨⟨i + 1, rfl, by omega, kd.then c4 fun x hx => by omega, m4⟩, by simp; omega⟩
      · simp only [decide_eq_false_iff_not] at hc2
        refine ⟨k2, ?_⟩
        by_cases h0 : ms.length = 0
        · have hx : mixL xs ys ms = xs := by unfold mixL; rw [if_pos (by omega), if_pos h0]
          rw [hx, List.take_append_drop] at m2
          rw [hx]
          exact m2
        · have : i = xs.length := by
            by_cases hlt : i < xs.length
            · exact absurd ⟨hlt, by omega⟩ hc2
            · omega
          subst this
          rw [List.drop_length, List.append_nil, List.take_of_length_le (by rw [mixL_len hc]; exact Nat.le_refl _)] at m2
          exact m2
  · rintro _ W ⟨k2, m2⟩ _
    exact ⟨s, rfl, k2, m2⟩
/-- The reference's blank page. -/
theorem ones_ok {w : World} : Ok Try.prog 89 [] w fun v w' => ∃ s : Sl, v = s.v ∧ Kept w w' ∧ Mine eB 5 w.heap.size w' s blankL := by
  apply u89
  unfold T89
  refine ⟨by decide, by decide, by decide, by decide, ?_⟩
  rw [zeroRow_one]
  refine alW fun W hb k hlt => ?_
  refine joinT_of (fun _ W' => Kept w W' ∧ Blk W' w.heap.size 5 (blankL.map eB)) ?_ ?_
  · refine loopT_of (fun d W' => ∃ i : Nat, d = ((i : Int), ()) ∧ i ≤ 60 ∧ Kept w W' ∧ Arr W' w.heap.size 5 60 (fun j => if j < i then .int .u8 255 else .int .u8 0)) (fun d _ => 60 - d.1.toNat) ⟨0, rfl, by omega, k, hb.cast rfl⟩ ?_
    rintro d W1 ⟨i, rfl, hi, k1, hA⟩ _
    refine cond_of (fun hc => ?_) fun hc => ?_
    · simp only [decide_eq_true_eq] at hc
      have hi2 : i < 60 := by omega
      refine ixB hi2 ?_
      rw [addB]
      refine wr_blk hA (by simpa using hi2) ?_
      have hA2 := hA.set i (.int .u8 255)
      have c2 := Chg.set W1 ⟨w.heap.size, i, none⟩ (.int .u8 255)
      rw [arr_set] at hA2
      rw [int_next (by omega)]
      refine ⟨⟨i + 1, rfl, by omega, k1.then c2 fun x hx e => by dsimp only at e; omega, hA2.cast (List.map_congr_left fun j _ => ?_)⟩, by simp; omega⟩
      by_cases hji : j = i
      · subst hji; simp
      · by_cases hlt : j < i
        · simp [hji, hlt, show j < i + 1 by omega]
        · simp [hji, hlt, show ¬ j < i + 1 by omega]
    · simp only [decide_eq_false_iff_not] at hc
      have : i = 60 := by omega
      subst this
      exact ⟨k1, hA.cast rfl⟩
  · rintro _ W1 ⟨k1, hb1⟩ _
    exact ⟨⟨some ⟨w.heap.size, 0, none⟩, 60, 60⟩, rfl, k1, hb1.mine (Nat.le_refl _) (by decide)⟩
end Go.Proofs.Ytppfnkedbpmliaa
