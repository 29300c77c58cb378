/- bits.Flip does as the law BitsPlaces says, for any bytes, any places, any number. -/
import Derived.Test.YtppfnkedbpmliaaLB
import Derived.Test.YtppfnkedbpmliaaCBi
set_option linter.unusedVariables false
set_option linter.unusedSimpArgs false
namespace Go.Proofs.Ytppfnkedbpmliaa
open Go Go.Rk
open Go.RowKit (Below)

theorem bitsPlaces_ok {w : World} {b l : Sl} {bs : List (BitVec 8)} {ps : List Int} {x : Int} (hb : Row eB w b bs) (hl : Row eI w l ps) :
    Ok Try.prog 3 [b.v, l.v, .int .i64 x] w fun v w' => v = .bool true ∧ Kept w w' := by
  apply u3
  unfold T3
  refine known_ok.mono ?_
  rintro v w1 ⟨rfl, k1⟩
  simp only [decB_bool]
  refine cond_f rfl ?_
  have hbl : b.l = bs.length := hb.len
  have hll : l.l = ps.length := hl.len
  refine joinT_of (fun d W => d.1 = decide (60 < bs.length ∨ 30 < ps.length) ∧ W = w1) ?_ ?_
  · refine cond_of (fun h => ?_) fun h => ?_
    · simp [hbl] at h
      refine ⟨?_, rfl⟩
      simp
      omega
    · simp [hbl] at h
      refine ⟨?_, rfl⟩
      have h' : ¬ 60 < bs.length := by omega
      simp [hll, h']
      omega
  · rintro ⟨d, _⟩ W ⟨hd, rfl⟩ _
    simp only at hd
    subst hd
    refine cond_of (fun h => ⟨by trivial, k1⟩) fun h => ?_
    simp at h
    obtain ⟨h60, h30⟩ := h
    refine joinT_of (fun d W => Kept w W ∧ ∃ ts : List Int, Row eI W d.1 ts ∧ ts.Perm ps) ?_ ?_
    · refine loopT_of (fun d W => ∃ (i : Nat) (s : Sl), d = (s, (i : Int), ()) ∧ i ≤ ps.length ∧ Kept w W ∧ Mine eI 3 w.heap.size W s ((List.range i).map fun i => ps.getD ((i + (x % (ps.length : Int)).toNat) % ps.length) 0)) (fun d _ => ps.length - d.2.1.toNat)
        ⟨0, ⟨none, 0, 0⟩, rfl, by omega, k1, Mine.nil⟩ ?_
      rintro d W2 ⟨i, s, rfl, hi, k2, o2⟩ _
      refine cond_of (fun hc => ?_) fun hc => ?_
      · simp [hll] at hc
        rw [hll]
        refine (within_ok (by omega) (by omega) (fun h => u23 h)).mono ?_
        rintro v W3 ⟨rfl, rfl⟩
        have hn : (0 : Int) < (ps.length : Int) := by omega
        have b1 := Int.emod_nonneg x (show (ps.length : Int) ≠ 0 by omega)
        have b2 := Int.emod_lt_of_pos x hn
        simp only [decI_int]
        refine ⟨by omega, ?_⟩
        obtain ⟨c, hcx⟩ : ∃ c : Nat, x % (ps.length : Int) = (c : Int) := ⟨(x % (ps.length : Int)).toNat, by omega⟩
        rw [hcx] at o2 b2 ⊢
        have hw : Int.tmod (IntKind.wrap .i64 ((i : Int) + (c : Int))) (ps.length : Int) = (((i + c) % ps.length : Nat) : Int) := by
          rw [w64 (by omega) (by omega), ← Int.natCast_add]
          simp [Int.tmod]
        rw [hw]
        have hm : (i + c) % ps.length < ps.length := Nat.mod_lt _ (by omega)
        refine (hl.kept k2).ixn hm fun q hq hcell => rdI_of hcell ?_
        unfold al
        have k3 : Kept W3 (W3.alloc (.cells #[.int .i64 ps[(i + c) % ps.length]] 3)) := (Below.refl _ _).alloc (Nat.le_refl _) _
        have m0 : Row eI (W3.alloc (.cells #[.int .i64 ps[(i + c) % ps.length]] 3)) ⟨some ⟨W3.heap.size, 0, none⟩, 1, 1⟩ [ps[(i + c) % ps.length]] :=
          (Mine.lit (enc := eI) (e := 3) (base := W3.heap.size) (w := W3) (cs := [.int .i64 ps[(i + c) % ps.length]]) (xs := [ps[(i + c) % ps.length]]) rfl (Nat.le_refl _) (show 1 ≤ maxLen by decide)).row
        have hsz := k2.size
        refine raw_append szI (fun x => rfl) (s := s) (u := ⟨some ⟨W3.heap.size, 0, none⟩, 1, 1⟩) (o2.alloc _) m0 (by simp; omega) (by simp; omega) fun s' W4 g1 g2 g3 => ?_
        simp only [decS_sl]
        have hwi : IntKind.wrap .i64 ((i : Int) + 1) = ((i + 1 : Nat) : Int) := by rw [w64 (by omega) (by omega)]; rfl
        rw [hwi]
        refine ⟨⟨i + 1, s', rfl, by omega, ?_, ?_⟩, by simp; omega⟩
        · exact (o2.alloc _).below_grown (Below.trans k2 (k3.mono hsz)) g2 (Nat.le_refl _) (by simp; omega)
        · rw [List.range_succ, List.map_append]
          have hg : ps.getD ((i + c) % ps.length) 0 = ps[(i + c) % ps.length] := by simp [List.getD, List.getElem?_eq_getElem hm]
          simp only [List.map_cons, List.map_nil, Int.toNat_natCast, hg] at g1 ⊢
          exact g1
      · simp [hll] at hc
        have : i = ps.length := by omega
        subst this
        refine ⟨k2, _, o2.row, ?_⟩
        by_cases h0 : ps.length = 0
        · have : ps = [] := List.length_eq_zero_iff.1 h0
          subst this
          simp
        · have b1 := Int.emod_nonneg x (show (ps.length : Int) ≠ 0 by omega)
          have b2 := Int.emod_lt_of_pos x (show (0 : Int) < (ps.length : Int) by omega)
          exact turned_perm ps _ (by omega)
    · rintro ⟨s, _⟩ W2 ⟨k2, ts, ht, hp⟩ _
      simp only at ht ⊢
      refine (within_ok (by omega) (by omega) (fun h => u23 h)).mono ?_
      rintro v W3 ⟨rfl, rfl⟩
      have b1 := Int.emod_nonneg x (show (99 : Int) ≠ 0 by omega)
      have b2 := Int.emod_lt_of_pos x (show (0 : Int) < 99 by omega)
      simp only [decI_int]
      have h8 : IntKind.wrap .i64 ((8 : Int) * ((b.l : Nat) : Int)) = 8 * (bs.length : Int) := by rw [hbl, w64 (by omega) (by omega)]
      have h9 : IntKind.wrap .i64 (8 * (bs.length : Int) + x % 99) = 8 * (bs.length : Int) + x % 99 := w64 (by omega) (by omega)
      rw [h8, h9]
      unfold al
      have hnone : ∀ p ∈ [-1, 8 * (bs.length : Int), 8 * (bs.length : Int) + x % 99, 9223372036854775807, -9223372036854775808], p < 0 ∨ 8 * (bs.length : Int) ≤ p := by
        intro p hp
        simp at hp
        omega
      have rn : Row eI (W3.alloc (.cells #[.int .i64 (-1), .int .i64 (8 * (bs.length : Int)), .int .i64 (8 * (bs.length : Int) + x % 99), .int .i64 9223372036854775807, .int .i64 (-9223372036854775808)] 3)) ⟨some ⟨W3.heap.size, 0, none⟩, 5, 5⟩
          [-1, 8 * (bs.length : Int), 8 * (bs.length : Int) + x % 99, 9223372036854775807, -9223372036854775808] :=
        (Mine.lit (enc := eI) (e := 3) (base := W3.heap.size) (w := W3) (cs := [.int .i64 (-1), .int .i64 (8 * (bs.length : Int)), .int .i64 (8 * (bs.length : Int) + x % 99), .int .i64 9223372036854775807, .int .i64 (-9223372036854775808)])
          (xs := [-1, 8 * (bs.length : Int), 8 * (bs.length : Int) + x % 99, 9223372036854775807, -9223372036854775808]) rfl (Nat.le_refl _) (show 5 ≤ maxLen by decide)).row
      generalize hW4 : W3.alloc (.cells #[.int .i64 (-1), .int .i64 (8 * (bs.length : Int)), .int .i64 (8 * (bs.length : Int) + x % 99), .int .i64 9223372036854775807, .int .i64 (-9223372036854775808)] 3) = W4 at rn ⊢
      have k4 : Kept W3 W4 := by rw [← hW4]; exact (Below.refl _ _).alloc (Nat.le_refl _) _
      clear hW4
      refine joinT_of (fun d W => d.1 = true ∧ Kept w W) ?_ ?_
      · have k5 : Kept W4 W4.drew := (Below.refl _ _).drew
        have kw4 : Kept w W4.drew := k2.trans (k4.trans k5)
        refine (flip_ok (hb.kept kw4) (ht.kept (k4.trans k5)) (by omega) (by have := hp.length_eq; omega)).mono ?_
        rintro v W5 ⟨s5, rfl, k5', o5, _⟩
        simp only [decS_sl]
        refine toS o5.row ?_
        refine (flip_ok (hb.kept (kw4.trans k5')) (hl.kept (kw4.trans k5')) (by omega) (by omega)).mono ?_
        rintro v W6 ⟨s6, rfl, k6, o6, _⟩
        simp only [decS_sl]
        refine toS (o5.row.kept k6) ⟨rfl, ?_⟩
        refine toS o6.row ?_
        refine cond_t (by rw [strB_inj, flips_perm hp]; simp) ?_
        have kw6 : Kept w W6 := kw4.trans (k5'.trans k6)
        refine toS (hb.kept kw6) ?_
        have ho : Mine eI 3 W6.heap.size (W6.alloc (.cells (([] : List Value)).toArray 3)) ⟨some ⟨W6.heap.size, 0, none⟩, ([] : List Int).length, ([] : List Int).length⟩ [] := Mine.lit rfl (Nat.le_refl _) (by simp)
        have k7 : Kept W6 (W6.alloc (.cells #[] 3)) := (Below.refl _ _).alloc (Nat.le_refl _) _
        refine toS (hb.kept (kw6.trans k7)) ⟨rfl, ?_⟩
        refine raw_append szI (fun x => rfl) (s := ⟨some ⟨W6.heap.size, 0, none⟩, 0, 0⟩) (u := l) ho (hl.kept (kw6.trans k7)) (by simp; omega) (by simp) fun s8 W8 g1 g2 g3 => ?_
        simp only [decS_sl]
        have k8 : Kept W6 W8 := ho.below_grown k7 g2 (Nat.le_refl _) (by simp)
        refine toS (hb.kept (kw6.trans k8)) ⟨rfl, ?_⟩
        refine raw_append szI (fun x => rfl) (s := s8) (u := l) g1 (hl.kept (kw6.trans k8)) (by simp; omega) k8.size fun s9 W9 g4 g5 g6 => ?_
        simp only [decS_sl]
        have k9 : Kept W6 W9 := g1.below_grown k8 g5 (Nat.le_refl _) k8.size
        have kw9 := kw6.trans k9
        refine toS (hb.kept kw9) ⟨rfl, ?_⟩
        refine (flip_ok (hb.kept kw9) g4.row (by omega) (by simp; omega)).mono ?_
        rintro v W10 ⟨s10, rfl, k10, o10, _⟩
        simp only [decS_sl]
        have kw10 := kw9.trans k10
        refine toS (hb.kept kw10) ⟨rfl, ?_⟩
        refine toS o10.row ?_
        refine cond_t (by rw [strB_inj]; simp [flips_append, flips_twice]) ?_
        refine toS (hb.kept kw10) ?_
        refine (flip_ok (l := ⟨some _, 5, 5⟩) (hb.kept kw10) (rn.kept (k5.trans (k5'.trans (k6.trans (k9.trans k10))))) (by omega) (by simp)).mono ?_
        rintro v W11 ⟨s11, rfl, k11, o11, _⟩
        simp only [decS_sl]
        refine toS (hb.kept (kw10.trans k11)) ⟨rfl, ?_⟩
        refine toS o11.row ?_
        refine ⟨?_, kw10.trans k11⟩
        rw [strB_inj, flips_none hnone]
        simp
      · rintro ⟨d, _⟩ W5 ⟨rfl, k5⟩ _
        exact ⟨rfl, k5⟩
end Go.Proofs.Ytppfnkedbpmliaa
