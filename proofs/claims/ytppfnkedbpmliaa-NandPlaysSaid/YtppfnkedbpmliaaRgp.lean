/- Nothing is proved of one function here: a range whose round appends the yielded number to a captured variable that began as nil. -/
import Derived.Test.YtppfnkedbpmliaaCS
set_option linter.unusedVariables false
set_option linter.unusedSimpArgs false
namespace Go.Proofs.Ytppfnkedbpmliaa
open Go Go.Rk
open Go.RowKit (Below)

theorem grown_kept {w W W' : World} {r : Option Nat} (h : w.grownBy W r) (k : Kept W W') : w.grownBy W' r :=
  ⟨k.os.trans h.os, k.tape.trans h.tape, k.output.trans h.output, Nat.le_trans h.size k.size, fun b hb hne => (k.block b (Nat.lt_of_lt_of_le hb h.size)).trans (h.block b hb hne)⟩
theorem grown_below {w W W' : World} {r : Option Nat} (h : w.grownBy W r) (k : Below w.heap.size W W') : w.grownBy W' r :=
  ⟨k.os.trans h.os, k.tape.trans h.tape, k.output.trans h.output, Nat.le_trans h.size k.size, fun b hb hne => (k.block b hb).trans (h.block b hb hne)⟩
theorem grown_set {w W : World} {pb i : Nat} {v : Value} (h : w.grownBy W (some pb)) : w.grownBy (W.setCell ⟨pb, i, none⟩ v) (some pb) :=
  ⟨h.os, h.tape, h.output, by simpa using h.size, fun b hb hne => (Go.RowKit.Below.heap_setCell _ _ _ _ (by simpa using hne)).trans (h.block b hb hne)⟩

theorem range_push {w : World} {S : World → Prop} {f : FuncId} {cap : Array Value} {xs : List Int} {pb : Nat} {KN KR : KW} {KE : List (Nat × KW)} (hy : Gives Try.prog f cap S (xs.map eI)) (hl : xs.length ≤ 1000000000)
    (hpb : pb < w.heap.size) (hc : w.cell? ⟨pb, 0, none⟩ = some (.slice none 0 0)) (hf : w.frozen? ⟨pb, 0, none⟩ = false) (hS : ∀ W, w.grownBy W (some pb) → S W)
    (hN : ∀ W s, w.grownBy W (some pb) → W.heap[w.heap.size]? = some (.deferred (some [])) → W.cell? ⟨pb, 0, none⟩ = some s.v → W.frozen? ⟨pb, 0, none⟩ = false → w.heap.size + 2 ≤ W.heap.size → Mine eI 3 (w.heap.size + 2) W s xs → KN w.heap.size W) :
    rangeX Try.prog none (.func (.func f) #[] cap) w (fun l24 rdy25 bz26 args27 w28 k29 =>
      headL args27 fun x30 args31 =>
      decI .i64 x30 fun n32 =>
      nilL args31 (
      w28.heap[l24]? = some rdy25 ∧
      rdS (w28.putObj l24 bz26) ⟨pb, 0, none⟩ fun s33 =>
      al (w28.putObj l24 bz26) (.cells #[(.int .i64 n32)] 3) fun p34 w35 =>
      raw Try.prog (Builtin.append_ #[23, 23] 23 #[(.slice s33.a s33.l s33.c), (.slice (some p34) 1 1)]) w35 fun v36 w37 =>
      decS v36 fun s38 =>
      wr w37 ⟨pb, 0, none⟩ (.slice s38.a s38.l s38.c) fun w39 =>
      k29 .normal w39)) KN KR KE := by
  have hne : ∀ (W : World) (o : Obj), (W.putObj (w.heap.size + 1) o).heap[pb]? = W.heap[pb]? := fun W o => World.putObj_heap_other (by omega)
  have hcell : ∀ (W : World) (o : Obj), (W.putObj (w.heap.size + 1) o).cell? ⟨pb, 0, none⟩ = W.cell? ⟨pb, 0, none⟩ := fun W o => World.cell?_of_block (hne W o)
  have hfro : ∀ (W : World) (o : Obj), (W.putObj (w.heap.size + 1) o).frozen? ⟨pb, 0, none⟩ = W.frozen? ⟨pb, 0, none⟩ := fun W o => World.frozen?_of_block (hne W o)
  have hpo : ∀ (W : World) (o : Obj), Below w.heap.size W (W.putObj (w.heap.size + 1) o) := fun W o => (Below.refl _ _).atObj (by omega) o
  have hmo : ∀ (W : World) (o : Obj) (s : Sl) (ys : List Int), Mine eI 3 (w.heap.size + 2) W s ys → Mine eI 3 (w.heap.size + 2) (W.putObj (w.heap.size + 1) o) s ys := fun W o s ys h =>
    h.grown (grownBy_put _ _ _) fun b hb hr => by
      have := (h.lt hb).1
      simp at hr
      omega
  refine rangeX_all hy (fun i W => w.grownBy W (some pb) ∧ w.heap.size + 2 ≤ W.heap.size ∧ W.heap[w.heap.size]? = some (.deferred (some [])) ∧ W.frozen? ⟨pb, 0, none⟩ = false ∧
      ∃ s : Sl, W.cell? ⟨pb, 0, none⟩ = some s.v ∧ Mine eI 3 (w.heap.size + 2) W s (xs.take i)) ?_ ?_ ?_ ?_ ?_ ?_
  · exact fun i W h => hS W h.1
  · rintro i W W' ⟨h1, h2, h3, h4, s, h5, h6⟩ k
    have := k.size
    refine ⟨grown_kept h1 k, by omega, (k.block _ (by omega)).trans h3, ?_, s, cell_kept h5 k, h6.kept k⟩
    rw [frozen_kept h5 k]; exact h4
  · rintro i W o ⟨h1, h2, h3, h4, s, h5, h6⟩
    refine ⟨grown_below h1 (hpo W o), by simpa using h2, ?_, by rw [hfro]; exact h4, s, by rw [hcell]; exact h5, hmo _ _ _ _ h6⟩
    rw [World.putObj_heap_other (by omega)]; exact h3
  · intro o
    have k2 : Below w.heap.size w ((w.alloc (.deferred (some []))).alloc o) := ((Below.refl _ _).alloc (Nat.le_refl _) _).alloc (by simp) _
    refine ⟨⟨k2.os, k2.tape, k2.output, k2.size, fun b hb _ => k2.block b hb⟩, by simp, ?_, ?_, ⟨none, 0, 0⟩, ?_, Mine.nil⟩
    · rw [heap_alloc_old _ _ _ (by simp)]
      exact heap_alloc_new w _
    · rw [k2.frozen hpb]; exact hf
    · rw [k2.cell hpb]; exact hc
  · rintro i v W rdy bz k hv ⟨h1, h2, h3, h4, s, h5, h6⟩ hl2 hkk
    obtain ⟨hi, hvi⟩ := List.getElem?_eq_some_iff.1 hv
    simp at hi hvi
    subst hvi
    simp only [headL, decI_int, nilL]
    refine ⟨hl2, ?_⟩
    have c1 := (hcell W bz).trans h5
    have f1 := (hfro W bz).trans h4
    have b1 : (W.putObj (w.heap.size + 1) bz).heap[w.heap.size + 1]? = some bz := World.putObj_heap_same (by omega)
    have d1 : (W.putObj (w.heap.size + 1) bz).heap[w.heap.size]? = some (.deferred (some [])) := by rw [World.putObj_heap_other (by omega)]; exact h3
    have m1 := hmo W bz s _ h6
    have k1 := grown_below h1 (hpo W bz)
    have s1 : w.heap.size + 2 ≤ (W.putObj (w.heap.size + 1) bz).heap.size := by simpa using h2
    generalize W.putObj (w.heap.size + 1) bz = W1 at c1 f1 b1 d1 m1 k1 s1
    refine rdS_of c1 ?_
    refine push_int szI m1 s1 (by simp; omega) fun s' W2 g1 g2 g3 => ?_
    simp only [decS_sl]
    have c2 : W2.cell? ⟨pb, 0, none⟩ = some s.v := by rw [g2.cell (by show pb < _; omega)]; exact c1
    have f2 : W2.frozen? ⟨pb, 0, none⟩ = false := by rw [g2.frozen (by show pb < _; omega)]; exact f1
    refine ⟨⟨_, c2⟩, f2, ?_⟩
    have hs2 := g2.size
    refine hkk _ ⟨grown_set (grown_below k1 (g2.mono (by omega))), by simp; omega, ?_, by simpa using f2, s', World.cell?_setCell_same _ _ _ c2, ?_⟩ ?_
    · rw [Go.RowKit.Below.heap_setCell _ _ _ _ (show _ ≠ pb by omega), g2.block _ (by omega)]; exact d1
    · have : xs.take (i + 1) = xs.take i ++ [xs[i]] := by rw [List.take_append_getElem]
      rw [this]
      exact g1.grown (grownBy_set _ _ _) fun b hb h => by
        have := (g1.lt hb).1
        simp at h
        omega
    · rw [Go.RowKit.Below.heap_setCell _ _ _ _ (show _ ≠ pb by omega), g2.block _ (by omega)]; exact b1
  · rintro W o ⟨h1, h2, h3, h4, s, h5, h6⟩
    simp only [List.length_map, List.take_length] at h6
    refine hN _ s (grown_below h1 (hpo W o)) ?_ ((hcell W o).trans h5) ((hfro W o).trans h4) (by simpa using h2) (hmo _ _ _ _ h6)
    rw [World.putObj_heap_other (by omega)]; exact h3
end Go.Proofs.Ytppfnkedbpmliaa
