/- What slices.Contains of pairs, slices.Clone of whole numbers, and the numbers that are not bad (geom.but) compute. -/
import Derived.Test.YtppfnkedbpmliaaCG
set_option linter.unusedVariables false
set_option linter.unusedSimpArgs false
namespace Go.Proofs.Ytppfnkedbpmliaa
open Go Go.Rk
open Go.RowKit (Below)

theorem int_next {n : Nat} (h : n ≤ 1000000000000) : IntKind.wrap .i64 ((n : Int) + 1) = ((n + 1 : Nat) : Int) := by rw [w64 (by omega) (by omega)]; rfl
/-- slices.Index of pairs. -/
theorem index_ok {w : World} {s : Sl} {xs : List (Int × Int)} {x y : Int} (h : Row2 w s xs) (hl : xs.length ≤ 1000000000) :
    Ok Try.prog 120 [s.v, .agg #[.int .i64 x, .int .i64 y]] w fun v w' => (∃ i : Int, v = .int .i64 i ∧ (0 ≤ i ↔ (x, y) ∈ xs)) ∧ Kept w w' := by
  apply u120 (v1 := (x, y, ()))
  unfold T120 al
  have hb := Blk.new w 42 [.int .i64 x, .int .i64 y]
  have k := kept_alloc w (.cells #[.int .i64 x, .int .i64 y] 42)
  have hsl : s.l = xs.length := h.len
  refine joinT_of (fun _ W => (x, y) ∉ xs ∧ Kept w W) ?_ ?_
  · refine loopT_of (fun d W => ∃ n : Nat, d = ((n : Int), ()) ∧ n ≤ xs.length ∧ (x, y) ∉ xs.take n ∧ Kept (w.alloc (.cells #[.int .i64 x, .int .i64 y] 42)) W) (fun d _ => xs.length - d.1.toNat) ⟨0, rfl, by omega, by simp, kept_refl _⟩ ?_
    rintro d W ⟨n, rfl, hn, hni, k2⟩ _
    refine cond_of (fun hc => ?_) fun hc => ?_
    · simp [hsl] at hc
      have hb2 := hb.kept (k2.trans (kept_drew W))
      refine rdI_of (n := x) ((hb2.cell 0).trans rfl) (rdI_of (n := y) ((hb2.cell 1).trans rfl) ?_)
      refine ((h.kept (k.trans k2)).kept (kept_drew W)).ix hc fun q hq h1 h2 => rdI_of h1 (rdI_of h2 ?_)
      refine cond_of (fun he => ?_) fun he => ?_
      · simp at he
        refine ⟨⟨_, rfl, ?_⟩, k.trans (k2.trans (kept_drew W))⟩
        have : xs[n] ∈ xs := List.getElem_mem _
        have e : xs[n] = (x, y) := by
          apply Prod.ext
          · exact he.1.symm
          · exact he.2.symm
        rw [e] at this
        simp [this]
      · rw [int_next (by omega)]
        refine ⟨⟨n + 1, rfl, by omega, ?_, k2.trans (kept_drew W)⟩, by simp; omega⟩
        have ht : xs.take (n + 1) = xs.take n ++ [xs[n]] := by rw [List.take_append_getElem]
        rw [ht]
        simp only [List.mem_append, List.mem_singleton, not_or]
        refine ⟨hni, fun e => ?_⟩
        simp [← e] at he
    · simp [hsl] at hc
      rw [List.take_of_length_le hc] at hni
      exact ⟨hni, k.trans k2⟩
  · rintro _ W ⟨hni, k2⟩ _
    exact ⟨⟨-1, rfl, by simp [hni]⟩, k2⟩
theorem contains_ok {w : World} {s : Sl} {xs : List (Int × Int)} {x y : Int} (h : Row2 w s xs) (hl : xs.length ≤ 1000000000) :
    Ok Try.prog 80 [s.v, .agg #[.int .i64 x, .int .i64 y]] w fun v w' => v = .bool (decide ((x, y) ∈ xs)) ∧ Kept w w' := by
  apply u80 (v1 := (x, y, ()))
  unfold T80 al
  have hb := Blk.new w 42 [.int .i64 x, .int .i64 y]
  have k := kept_alloc w (.cells #[.int .i64 x, .int .i64 y] 42)
  refine rdI_of (n := x) ((hb.cell 0).trans rfl) (rdI_of (n := y) ((hb.cell 1).trans rfl) ?_)
  refine (index_ok (h.kept k) hl).mono ?_
  rintro v w1 ⟨⟨i, rfl, hi⟩, k1⟩
  simp only [decI_int]
  refine ⟨?_, k.trans k1⟩
  have : (i ≥ 0) ↔ (x, y) ∈ xs := hi
  simp [this]
/-- slices.Clone of whole numbers. -/
theorem cloneI_ok {w : World} {s : Sl} {xs : List Int} (h : Row eI w s xs) (hl : xs.length ≤ 1000000000) :
    Ok Try.prog 81 [s.v] w fun v w' => ∃ s' : Sl, v = s'.v ∧ Kept w w' ∧ Mine eI 3 w.heap.size w' s' xs ∧ (s'.a = none ↔ s.a = none) := by
  apply u81
  unfold T81
  refine cond_of (fun hb => ?_) fun hb => ?_
  · have hn : s.a = none := by simpa using hb
    have hx : xs = [] := by
      cases xs with
      | nil => rfl
      | cons y ys => obtain ⟨b, hb, _⟩ := h.2.2 0 (by simp); simp [hn] at hb
    subst hx
    exact ⟨⟨none, 0, 0⟩, rfl, Below.refl _ _, Mine.nil, by simp [hn]⟩
  · unfold al
    have ho : Mine eI 3 w.heap.size (w.alloc (.cells (([] : List Value)).toArray 3)) ⟨some ⟨w.heap.size, 0, none⟩, ([] : List Int).length, ([] : List Int).length⟩ [] := Mine.lit rfl (Nat.le_refl _) (by simp)
    refine raw_append szI (fun x => rfl) (s := ⟨some ⟨w.heap.size, 0, none⟩, 0, 0⟩) (u := s) ho (h.alloc _) (by simp; omega) (by simp) fun s' w' h1 h2 h3 => ?_
    simp only [decS_sl]
    refine ⟨s', rfl, ?_, by simpa using h1, ?_⟩
    · exact ho.below_grown ((Below.refl _ _).alloc (Nat.le_refl _) _) h2 (Nat.le_refl _) (by simp)
    · simp at hb
      constructor
      · intro h4; simp at h3; exact absurd h4 h3
      · intro h4; simp [h4] at hb
/-- Supers' own test: is block b of die d among the bad ones? -/
theorem isBad_ok {w : World} {c1 c2 : Addr} {s : Sl} {xs : List (Int × Int)} {d b : Int} (h1 : w.cell? c1 = some s.v) (h2 : w.cell? c2 = some (.int .i64 d)) (h : Row2 w s xs) (hl : xs.length ≤ 1000000000) :
    Ok Try.prog 79 [.int .i64 b, .pointer (some c1), .pointer (some c2)] w fun v w' => v = .bool (decide ((d, b) ∈ xs)) ∧ Kept w w' := by
  apply u79
  unfold T79
  refine rdS_of h1 (rdI_of h2 ((contains_ok h hl).mono ?_))
  rintro v w1 ⟨rfl, k⟩
  simp only [decB_bool]
  exact ⟨by trivial, k⟩
/-- The good blocks of a die below n. -/
def goods (xs : List (Int × Int)) (d : Int) (n : Nat) : List Nat := (List.range n).filter fun b : Nat => !decide ((d, (b : Int)) ∈ xs)
theorem goods_succ (xs : List (Int × Int)) (d : Int) (n : Nat) : goods xs d (n + 1) = goods xs d n ++ (if (d, (n : Int)) ∈ xs then [] else [n]) := by
  simp only [goods, List.range_succ, List.filter_append]
  by_cases h : (d, (n : Int)) ∈ xs <;> simp [h]
theorem goods_pre (xs : List (Int × Int)) (d : Int) {p n : Nat} (h : p ≤ n) : ∃ t, goods xs d n = goods xs d p ++ t := by
  induction n with
  | zero => exact ⟨[], by simp [show p = 0 by omega]⟩
  | succ n ih =>
    by_cases hp : p = n + 1
    · exact ⟨[], by simp [hp]⟩
    · obtain ⟨t, ht⟩ := ih (by omega)
      exact ⟨_, by rw [goods_succ, ht, List.append_assoc]⟩
theorem goods_at {xs : List (Int × Int)} {d : Int} {p n : Nat} (hp : p < n) (hb : (d, (p : Int)) ∉ xs) : (goods xs d n)[(goods xs d p).length]? = some p := by
  obtain ⟨t, ht⟩ := goods_pre xs d (show p + 1 ≤ n by omega)
  rw [ht, goods_succ, if_neg hb]
  simp
/-- geom.but, of Supers' own test. -/
theorem but_gives {c1 c2 p1 p2 : Addr} {s : Sl} {xs : List (Int × Int)} {d : Int} {n : Nat} (hl : xs.length ≤ 1000000000) (hn : n ≤ 1000000000) :
    Gives Try.prog 119 #[.pointer (some p1), .pointer (some p2)] (fun W => W.cell? c1 = some s.v ∧ W.cell? c2 = some (.int .i64 d) ∧ Row2 W s xs ∧ W.cell? p1 = some (.int .i64 (n : Int)) ∧ W.cell? p2 = some (.func (.func 79) #[] #[.pointer (some c1), .pointer (some c2)]))
      ((goods xs d n).map fun b : Nat => eI (b : Int)) := by
  intro l w1 J hJ hS h0 hy
  apply u119
  unfold T119
  refine rdI_of (hJ 0 _ h0).2.2.2.1 ?_
  refine joinT_of (fun _ W => J (goods xs d n).length W) ?_ fun _ W h _ => by simpa using h
  refine loopT_of (fun e W => ∃ i : Nat, e = ((i : Int), ()) ∧ i ≤ n ∧ J (goods xs d i).length W) (fun e _ => n - e.1.toNat) ⟨0, rfl, by omega, by simpa [goods] using h0⟩ ?_
  rintro e W ⟨i, rfl, hi, hJi⟩ _
  refine cond_of (fun hc => ?_) fun hc => ?_
  · simp at hc
    refine joinT_of (fun e W => e.1 = false ∧ J (goods xs d (i + 1)).length W) ?_ ?_
    · have kW := hJ _ _ hJi
      have c : W.cell? p2 = some (.func (.func 79) #[] #[.pointer (some c1), .pointer (some c2)]) := kW.2.2.2.2
      unfold rdV
      rw [c]
      show Ok Try.prog 79 [.int .i64 (i : Int), .pointer (some c1), .pointer (some c2)] W _
      refine (isBad_ok kW.1 kW.2.1 kW.2.2.1 hl).mono ?_
      rintro v W2 ⟨rfl, k2⟩
      simp only [decB_bool]
      have hJ2 := hS _ _ _ hJi k2
      refine cond_of (fun hb => ?_) fun hb => ?_
      · simp at hb
        refine hy (goods xs d i).length _ _ _ ?_ hJ2 fun W' hW' => ?_
        · have := goods_at hc hb
          simp [this]
        · simp only [decB_bool]
          refine ⟨by trivial, ?_⟩
          rw [goods_succ, if_neg hb]
          simpa using hW'
      · simp at hb
        refine ⟨by trivial, ?_⟩
        rw [goods_succ, if_pos hb]
        simpa using hJ2
    · rintro ⟨e, _⟩ W3 ⟨rfl, h3⟩ _
      refine cond_f rfl ?_
      rw [int_next (by omega)]
      exact ⟨⟨i + 1, rfl, by omega, h3⟩, by simp; omega⟩
  · simp at hc
    have : i = n := by omega
    subst this
    exact hJi
end Go.Proofs.Ytppfnkedbpmliaa
