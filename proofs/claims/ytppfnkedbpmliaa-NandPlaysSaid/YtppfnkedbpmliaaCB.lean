/- What the functions that turn bits compute (slices.Clone of bytes, bits.Flip, within), for any row of at most 2^30 bytes and places. -/
import Derived.Test.YtppfnkedbpmliaaRB
import Derived.Test.YtppfnkedbpmliaaBitsD
set_option linter.unusedVariables false
set_option linter.unusedSimpArgs false
namespace Go.Proofs.Ytppfnkedbpmliaa
open Go Go.Rk
open Go.RowKit (Below)

theorem szB : Sz Try.prog 22 5 := Sz_of (by kernel_rfl)
theorem szI : Sz Try.prog 23 3 := Sz_of (by kernel_rfl)
theorem toS {w : World} {s : Sl} {xs : List (BitVec 8)} {K : ByteArray → Prop} (h : Row eB w s xs) (k : K (strB xs)) : toStr Try.prog 22 9 s.v w K :=
  toStr_of (e := 5) (by kernel_rfl) (by kernel_rfl) (by kernel_rfl) h k

/-- slices.Clone of bytes. -/
theorem clone_ok {w : World} {s : Sl} {xs : List (BitVec 8)} (h : Row eB w s xs) (hl : xs.length ≤ 1000000000) :
    Ok Try.prog 76 [s.v] w fun v w' => ∃ s' : Sl, v = s'.v ∧ Kept w w' ∧ Mine eB 5 w.heap.size w' s' xs ∧ (s'.a = none ↔ s.a = none) := by
  apply u76
  unfold T76
  refine cond_of (fun hb => ?_) fun hb => ?_
  · have hn : s.a = none := by simpa using hb
    have hx : xs = [] := by
      cases xs with
      | nil => rfl
      | cons y ys => obtain ⟨b, hb, _⟩ := h.2.2 0 (by simp); simp [hn] at hb
    subst hx
    exact ⟨⟨none, 0, 0⟩, rfl, Below.refl _ _, Mine.nil, by simp [hn]⟩
  · unfold al
    have ho : Mine eB 5 w.heap.size (w.alloc (.cells (([] : List Value)).toArray 5)) ⟨some ⟨w.heap.size, 0, none⟩, ([] : List (BitVec 8)).length, ([] : List (BitVec 8)).length⟩ [] := Mine.lit rfl (Nat.le_refl _) (by simp)
    refine raw_append szB (fun x => rfl) (s := ⟨some ⟨w.heap.size, 0, none⟩, 0, 0⟩) (u := s) ho (h.alloc _) (by simp; omega) (by simp) fun s' w' h1 h2 h3 => ?_
    simp only [decS_sl]
    refine ⟨s', rfl, ?_, by simpa using h1, ?_⟩
    · exact ho.below_grown ((Below.refl _ _).alloc (Nat.le_refl _) _) h2 (Nat.le_refl _) (by simp)
    · simp at hb
      constructor
      · intro h4; simp at h3; exact absurd h4 h3
      · intro h4; simp [h4] at hb

/-- within: for a positive bound, a number below it. -/
theorem within_ok {w : World} {x n : Int} (h0 : 0 < n) (h1 : n ≤ 1000000000) {f : Nat} (u : ∀ {K : Value → World → Prop}, T23 x n w K → Ok Try.prog f [.int .i64 x, .int .i64 n] w K) :
    Ok Try.prog f [.int .i64 x, .int .i64 n] w fun v w' => v = .int .i64 (x % n) ∧ w' = w := by
  apply u
  unfold T23
  refine ⟨by omega, joinT_thru ?_⟩
  have e : x.tmod n = x % n ∨ x.tmod n = x % n - n := by
    rcases Int.le_total 0 x with hx | hx
    · exact .inl (Int.tmod_eq_emod_of_nonneg hx)
    · by_cases hd : n ∣ x
      · left; rw [Int.tmod_eq_zero_of_dvd hd, Int.emod_eq_zero_of_dvd hd]
      · right
        rw [Int.tmod_eq_emod]
        have : ¬ 0 ≤ x := fun h => hd (by have : x = 0 := by omega
                                          subst this; exact Int.dvd_zero n)
        simp [hd, this]
        omega
  have b1 := Int.emod_nonneg x (show n ≠ 0 by omega)
  have b2 := Int.emod_lt_of_pos x h0
  refine cond_of (fun hb => ?_) fun hb => ?_
  · simp at hb
    intro _
    have : x.tmod n + n = x % n := by omega
    simp only [this]
    rw [w64 (by omega) (by omega)]
    simp
  · simp at hb
    intro _
    have : x.tmod n = x % n := by omega
    simp only [this]
    simp

/-- bits.Flip. -/
theorem flip_ok {w : World} {b l : Sl} {bs : List (BitVec 8)} {ps : List Int} (hb : Row eB w b bs) (hl : Row eI w l ps) (h1 : bs.length ≤ 100000000) (h2 : ps.length ≤ 100000000) :
    Ok Try.prog 24 [b.v, l.v] w fun v w' => ∃ s' : Sl, v = s'.v ∧ Kept w w' ∧ Mine eB 5 w.heap.size w' s' (flips bs ps) ∧ (s'.a = none ↔ b.a = none) := by
  apply u24
  unfold T24
  refine (clone_ok hb (by omega)).mono ?_
  rintro v w1 ⟨s1, rfl, k1, o1, n1⟩
  simp only [decS_sl]
  have hl1 : l.l = ps.length := hl.len
  refine joinT_of (fun _ w' => Kept w w' ∧ Mine eB 5 w.heap.size w' s1 (flips bs ps)) ?_ ?_
  · refine loopT_of (fun d w' => ∃ n : Nat, d = ((n : Int), ()) ∧ n ≤ ps.length ∧ Kept w w' ∧ Mine eB 5 w.heap.size w' s1 (flips bs (ps.take n))) (fun d _ => ps.length - d.1.toNat) ⟨0, rfl, by omega, k1, by simpa [flips] using o1⟩ ?_
    rintro d w2 ⟨n, rfl, hn, k2, o2⟩ _
    refine cond_of (fun hc => ?_) fun hc => ?_
    · simp [hl1] at hc
      refine (hl.kept k2).ix hc fun q hq hcell => ?_
      refine rdI_of hcell ?_
      have hs1 : s1.l = bs.length := by have := o2.len; simpa using this
      have w8 : IntKind.wrap .i64 ((8 : Int) * ((s1.l : Nat) : Int)) = 8 * (bs.length : Int) := by rw [hs1, w64 (by omega) (by omega)]
      have wn : IntKind.wrap .i64 ((n : Int) + 1) = ((n + 1 : Nat) : Int) := by rw [w64 (by omega) (by omega)]; rfl
      have htk : ps.take (n + 1) = ps.take n ++ [ps[n]] := by rw [List.take_append_getElem]
      refine joinT_of (fun d' w' => d'.1 = decide (0 ≤ ps[n] ∧ ps[n] < 8 * (bs.length : Int)) ∧ w' = w2) ?_ ?_
      · refine cond_of (fun h3 => ?_) fun h3 => ?_
        · simp only [w8]
          simp at h3
          simp [h3]
        · simp at h3
          simp
          omega
      · rintro ⟨d3, _⟩ w3 ⟨hd3, rfl⟩ _
        simp only at hd3
        subst hd3
        refine joinT_of (fun _ w' => Kept w w' ∧ Mine eB 5 w.heap.size w' s1 (flips bs (ps.take (n + 1)))) ?_ ?_
        · refine cond_of (fun h3 => ?_) fun h3 => ?_
          · simp at h3
            obtain ⟨m, hm⟩ : ∃ m : Nat, ps[n] = (m : Int) := ⟨ps[n].toNat, by omega⟩
            rw [hm] at h3 ⊢
            have hm8 : m / 8 < (flips bs (ps.take n)).length := by simp; omega
            have hdiv : IntKind.wrap .i64 (Int.tdiv (m : Int) 8) = ((m / 8 : Nat) : Int) := by
              have : Int.tdiv (m : Int) 8 = ((m / 8 : Nat) : Int) := by simp [Int.tdiv]
              rw [this, w64 (by omega) (by omega)]
            have hmod : Int.tmod (m : Int) 8 = ((m % 8 : Nat) : Int) := by simp [Int.tmod]
            rw [hdiv, hmod]
            refine ⟨by decide, ?_⟩
            refine o2.row.drew.ix hm8 fun q2 hq2 hc2 => ?_
            refine rdI_of hc2 ⟨by decide, by omega, ?_⟩
            have o2' : Mine eB 5 w.heap.size w3.drew s1 (flips bs (ps.take n)) := o2.kept (Below.refl _ _).drew
            have ho := o2'.put hm8 ((flips bs (ps.take n))[m / 8] ^^^ (1#8 <<< (m % 8))) hq2
            refine ⟨q2, hq2, by omega, by have := o2.len; omega, ?_⟩
            have hx := xor_bit ((flips bs (ps.take n))[m / 8]) (m % 8) (Nat.mod_lt _ (by omega))
            simp only [Int.toNat_natCast] at hx ho ⊢
            rw [hx]
            refine ⟨ho.1, ho.2.1, ?_⟩
            refine ⟨(k2.drew).setCell ho.2.2.2.1 _, ?_⟩
            rw [htk, flips_append, hm]
            show Mine _ _ _ _ _ (flipAt _ _)
            rw [flipAt_set hm8]
            exact ho.2.2.1
          · simp at h3
            refine ⟨k2, ?_⟩
            rw [htk, flips_append]
            show Mine _ _ _ _ _ (flipAt _ _)
            rw [flipAt_none (by simp; omega)]
            exact o2
        · rintro _ w4 ⟨k4, o4⟩ _
          simp only [wn]
          refine ⟨⟨n + 1, rfl, by omega, k4, o4⟩, ?_⟩
          simp
          omega
    · simp [hl1] at hc
      refine ⟨k2, ?_⟩
      rw [List.take_of_length_le hc] at o2
      exact o2
  · rintro _ w2 ⟨k2, o2⟩ _
    refine (clone_ok o2.row (by simp; omega)).mono ?_
    rintro v w3 ⟨s3, rfl, k3, o3, n3⟩
    simp only [decS_sl]
    exact ⟨s3, rfl, k2.trans (k3.mono k2.size), o3.mono k2.size, n3.trans n1⟩
end Go.Proofs.Ytppfnkedbpmliaa
