/- Nothing is proved of the program here: blocks of the call's own (a local struct), and rows of pairs. -/
import Derived.Test.YtppfnkedbpmliaaIter
set_option linter.unusedVariables false
set_option linter.unusedSimpArgs false
namespace Go.Rk
open Go
open Go.RowKit (Below)

theorem kept_alloc (w : World) (o : Obj) : Kept w (w.alloc o) := (Below.refl _ _).alloc (Nat.le_refl _) o
theorem kept_drew (w : World) : Kept w w.drew := (Below.refl _ _).drew
theorem kept_refl (w : World) : Kept w w := Below.refl _ _
theorem cell_kept {w w' : World} {a : Addr} {v : Value} (h : w.cell? a = some v) (k : Kept w w') : w'.cell? a = some v := by
  rw [← h]; exact k.cell (World.block_lt_of_cell? _ _ h)

/-- A block of cells, none of them frozen. -/
def Blk (w : World) (b : Nat) (e : TypeId) (cs : List Value) : Prop := w.heap[b]? = some (.cells cs.toArray e (0, 0))
section
variable {w w' : World} {b : Nat} {e : TypeId} {cs : List Value}
theorem Blk.new (w : World) (e : TypeId) (cs : List Value) : Blk (w.alloc (.cells cs.toArray e)) w.heap.size e cs := heap_alloc_new w _
theorem Blk.cell (h : Blk w b e cs) (i : Nat) : w.cell? ⟨b, i, none⟩ = cs[i]? := by
  rw [cell_of_row w b i cs.toArray e (0, 0) h]; simp
theorem Blk.frozen (h : Blk w b e cs) (i : Nat) : w.frozen? ⟨b, i, none⟩ = false := frozen_of_row w b i cs.toArray e h
theorem Blk.lt (h : Blk w b e cs) : b < w.heap.size := (Array.getElem?_eq_some_iff.1 h).1
theorem Blk.set (h : Blk w b e cs) (i : Nat) (v : Value) : Blk (w.setCell ⟨b, i, none⟩ v) b e (cs.set i v) := by
  have := heap_setCell_same w b i cs.toArray e v h
  unfold Blk
  rw [this]
  simp
theorem Blk.below (h : Blk w b e cs) {B : Nat} (k : Below B w w') (hb : b < B) : Blk w' b e cs := (k.block b hb).trans h
theorem Blk.kept (h : Blk w b e cs) (k : Kept w w') : Blk w' b e cs := h.below k h.lt
theorem wr_blk (h : Blk w b e cs) {i : Nat} (hi : i < cs.length) {v : Value} {K : World → Prop} (k : K (w.setCell ⟨b, i, none⟩ v)) : wr w ⟨b, i, none⟩ v K :=
  ⟨⟨cs[i], by rw [h.cell]; simp [hi]⟩, h.frozen i, k⟩
end

/-- A slice of pairs of whole numbers shows these. -/
def Row2 (w : World) (s : Sl) (xs : List (Int × Int)) : Prop :=
  s.l = xs.length ∧ (s.a = none → s.c = 0) ∧ ∀ i (h : i < xs.length), ∃ b, s.a = some b ∧ w.cell? (b.add (i * 2)) = some (.int .i64 xs[i].1) ∧ w.cell? ((b.add (i * 2)).add 1) = some (.int .i64 xs[i].2)
section
variable {w w' : World} {s : Sl} {xs : List (Int × Int)}
theorem Row2.len (h : Row2 w s xs) : s.l = xs.length := h.1
theorem Row2.kept (h : Row2 w s xs) (k : Kept w w') : Row2 w' s xs :=
  ⟨h.1, h.2.1, fun i hi => by obtain ⟨b, hb, h1, h2⟩ := h.2.2 i hi; exact ⟨b, hb, cell_kept h1 k, cell_kept h2 k⟩⟩
theorem Row2.ix (h : Row2 w s xs) {i : Nat} (hi : i < xs.length) {K : Addr → Prop}
    (k : ∀ b, s.a = some b → w.cell? (b.add (Int.toNat i * 2)) = some (.int .i64 xs[i].1) → w.cell? ((b.add (Int.toNat i * 2)).add 1) = some (.int .i64 xs[i].2) → K b) : Go.Rk.ix s.a s.l (i : Int) K := by
  obtain ⟨b, hb, h1, h2⟩ := h.2.2 i hi
  exact ⟨b, hb, by omega, by have := h.1; omega, k b hb (by simpa using h1) (by simpa using h2)⟩
end

/-- Rows of other types are not met by an append. -/
theorem Mine.grown_ty {α β : Type} {enc : α → Value} {enc' : β → Value} {e e' : TypeId} {base base' : Nat} {w w' w0 : World} {s s2 : Sl} {xs : List α} {ys : List β} (h : Mine enc e base w s xs) (h2 : Mine enc' e' base' w s2 ys) (hne : e ≠ e')
    (hg : w.grownBy w' s2.v.ownBlock) : Mine enc e base w' s xs := by
  refine h.grown hg fun b hb hr => ?_
  rcases h.forms with ⟨rfl, rfl⟩ | ⟨g, cap, cur, rfl, h3⟩
  · simp at hb
  · simp at hb
    subst hb
    rcases h2.forms with ⟨rfl, rfl⟩ | ⟨g2, cap2, cur2, rfl, h4⟩
    · simp [Value.ownBlock] at hr
    · simp [Value.ownBlock] at hr
      subst hr
      have := h3.2.1.symm.trans h4.2.1
      simp at this
      exact hne this.2
abbrev eS : Sl → Value := fun s => s.v
/-- Rows of rows of whole numbers, all of the call's own. -/
def Nest (base : Nat) (w : World) (s : Sl) (xss : List (List Int)) : Prop :=
  ∃ ss : List Sl, Mine eS 23 base w s ss ∧ ss.length = xss.length ∧ ∀ i (h1 : i < ss.length) (h2 : i < xss.length), Mine eI 3 base w ss[i] xss[i]
theorem Nest.kept {base : Nat} {w w' : World} {s : Sl} {xss : List (List Int)} (h : Nest base w s xss) (k : Kept w w') : Nest base w' s xss := by
  obtain ⟨ss, h1, h2, h3⟩ := h
  exact ⟨ss, h1.kept k, h2, fun i a b => (h3 i a b).kept k⟩
theorem Nest.mono {base b2 : Nat} {w : World} {s : Sl} {xss : List (List Int)} (h : Nest base w s xss) (k : b2 ≤ base) : Nest b2 w s xss := by
  obtain ⟨ss, h1, h2, h3⟩ := h
  exact ⟨ss, h1.mono k, h2, fun i a b => (h3 i a b).mono k⟩
theorem Nest.nil {base : Nat} {w : World} : Nest base w ⟨none, 0, 0⟩ [] := ⟨[], Mine.nil, rfl, fun i h => by simp at h⟩
theorem Nest.len {base : Nat} {w : World} {s : Sl} {xss : List (List Int)} (h : Nest base w s xss) : s.l = xss.length := by
  obtain ⟨ss, h1, h2, h3⟩ := h
  exact h1.len.trans h2
/-- One number more. -/
theorem push_int {P : Program} (hz : Sz P 23 3) {base : Nat} {w : World} {s : Sl} {xs : List Int} {x : Int} {ty : TypeId} {K : Value → World → Prop} (h : Mine eI 3 base w s xs) (hb : base ≤ w.heap.size) (hl : xs.length ≤ 1000000000)
    (k : ∀ s' w', Mine eI 3 base w' s' (xs ++ [x]) → Below base w w' → w.grownBy w' s.v.ownBlock → K s'.v w') : raw P (Builtin.append_ #[23, 23] ty #[s.v, .slice (some ⟨w.heap.size, 0, none⟩) 1 1]) (w.alloc (.cells #[.int .i64 x] 3)) K := by
  have m0 : Row eI (w.alloc (.cells #[.int .i64 x] 3)) ⟨some ⟨w.heap.size, 0, none⟩, 1, 1⟩ [x] :=
    (Mine.lit (enc := eI) (e := 3) (base := w.heap.size) (w := w) (cs := [.int .i64 x]) (xs := [x]) rfl (Nat.le_refl _) (show 1 ≤ maxLen by decide)).row
  refine raw_append hz (fun x => rfl) (s := s) (u := ⟨some ⟨w.heap.size, 0, none⟩, 1, 1⟩) (h.alloc _) m0 (by simp; omega) (by simp; omega) fun s' w' g1 g2 g3 => ?_
  refine k s' w' g1 ((h.alloc _).below_grown ((kept_alloc w _).mono hb) g2 (Nat.le_refl _) (by simp; omega)) ?_
  have ga := World.grownBy_alloc w (.cells #[.int .i64 x] 3) s.v.ownBlock
  exact ⟨g2.os.trans ga.os, g2.tape.trans ga.tape, g2.output.trans ga.output, Nat.le_trans ga.size g2.size, fun j hj hne => (g2.block j (Nat.lt_of_lt_of_le hj ga.size) hne).trans (ga.block j hj hne)⟩
/-- One row more. -/
theorem Nest.push {P : Program} (hz : Sz P 35 23) {base : Nat} {w : World} {s l : Sl} {xss : List (List Int)} {xs : List Int} {ty : TypeId} {K : Value → World → Prop} (h : Nest base w s xss) (hl : Mine eI 3 base w l xs) (hb : base ≤ w.heap.size) (hn : xss.length ≤ 1000000000)
    (k : ∀ s' w', Nest base w' s' (xss ++ [xs]) → Below base w w' → w.grownBy w' s.v.ownBlock → K s'.v w') : raw P (Builtin.append_ #[35, 35] ty #[s.v, .slice (some ⟨w.heap.size, 0, none⟩) 1 1]) (w.alloc (.cells #[.slice l.a l.l l.c] 23)) K := by
  obtain ⟨ss, h1, h2, h3⟩ := h
  have m0 : Row eS (w.alloc (.cells #[.slice l.a l.l l.c] 23)) ⟨some ⟨w.heap.size, 0, none⟩, 1, 1⟩ [l] :=
    (Mine.lit (enc := eS) (e := 23) (base := w.heap.size) (w := w) (cs := [.slice l.a l.l l.c]) (xs := [l]) rfl (Nat.le_refl _) (show 1 ≤ maxLen by decide)).row
  refine raw_append hz (fun x => rfl) (s := s) (u := ⟨some ⟨w.heap.size, 0, none⟩, 1, 1⟩) (h1.alloc _) m0 (by simp; omega) (by simp; omega) fun s' w' g1 g2 g3 => ?_
  refine k s' w' ⟨ss ++ [l], g1, by simp [h2], fun i a b => ?_⟩ ((h1.alloc _).below_grown ((kept_alloc w _).mono hb) g2 (Nat.le_refl _) (by simp; omega)) ?_
  rotate_left
  · have ga := World.grownBy_alloc w (.cells #[.slice l.a l.l l.c] 23) s.v.ownBlock
    exact ⟨g2.os.trans ga.os, g2.tape.trans ga.tape, g2.output.trans ga.output, Nat.le_trans ga.size g2.size, fun j hj hne => (g2.block j (Nat.lt_of_lt_of_le hj ga.size) hne).trans (ga.block j hj hne)⟩
  by_cases hi : i < ss.length
  · rw [List.getElem_append_left hi, List.getElem_append_left (by omega)]
    exact ((h3 i hi (by omega)).alloc _).grown_ty (w0 := w) (h1.alloc _) (by decide) g2
  · simp at a
    have hi2 : i = ss.length := by omega
    subst hi2
    rw [List.getElem_append_right (by omega), List.getElem_append_right (by omega)]
    simp only [h2, Nat.sub_self, List.getElem_cons_zero]
    exact (hl.alloc _).grown_ty (w0 := w) (h1.alloc _) (by decide) g2
theorem zeroRow_one (z : Value) (n : Nat) : zeroRow #[z] (n * 1) = (List.replicate n z).toArray := by
  apply Array.ext
  · simp [zeroRow]
  · intro i h1 h2
    simp [zeroRow, Nat.mod_one]
end Go.Rk
