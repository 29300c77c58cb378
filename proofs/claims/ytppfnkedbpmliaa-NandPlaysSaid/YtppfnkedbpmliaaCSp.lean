/- What the program's own geom.Supers computes: first, what geom.but hands back. -/
import Derived.Test.YtppfnkedbpmliaaCSr
import Derived.Test.YtppfnkedbpmliaaRgp
set_option linter.unusedVariables false
set_option linter.unusedSimpArgs false
namespace Go.Proofs.Ytppfnkedbpmliaa
open Go Go.Rk
open Go.RowKit (Below)

theorem but_ok {w : World} {n : Int} {f : FuncId} {c : Array Value} :
    Ok Try.prog 78 [.int .i64 n, .func (.func f) #[] c] w fun v w' => v = .func (.func 119) #[] #[.pointer (some ⟨w.heap.size, 0, none⟩), .pointer (some ⟨w.heap.size + 1, 0, none⟩)] ∧ Kept w w' ∧
      w'.cell? ⟨w.heap.size, 0, none⟩ = some (.int .i64 n) ∧ w'.cell? ⟨w.heap.size + 1, 0, none⟩ = some (.func (.func f) #[] c) := by
  apply u78
  unfold T78 al
  have h1 := Blk.new w 3 [.int .i64 n]
  have h2 := Blk.new (w.alloc (.cells #[.int .i64 n] 3)) 100 [.func (.func f) #[] c]
  have k1 := kept_alloc w (.cells #[.int .i64 n] 3)
  have k2 := kept_alloc (w.alloc (.cells #[.int .i64 n] 3)) (.cells #[.func (.func f) #[] c] 100)
  have c1 := (h1.kept k2).cell 0
  have c2 := h2.cell 0
  simp only [World.size_alloc] at c2 ⊢
  exact ⟨by trivial, k1.trans k2, c1.trans rfl, c2.trans rfl⟩

theorem nest_atObj {base : Nat} {w : World} {s : Sl} {xss : List (List Int)} (h : Nest base w s xss) {x : Nat} {o : Obj} (hx : ∃ d, w.heap[x]? = some (.deferred d)) : Nest base (w.putObj x o) s xss := by
  obtain ⟨d, hd⟩ := hx
  have key : ∀ {α : Type} {enc : α → Value} {e : TypeId} {s : Sl} {xs : List α}, Mine enc e base w s xs → Mine enc e base (w.putObj x o) s xs := by
    intro α enc e s xs h
    refine h.grown (grownBy_put _ _ _) fun b hb hr => ?_
    rcases h.forms with ⟨rfl, rfl⟩ | ⟨g, cap, cur, rfl, h3⟩
    · simp at hb
    · simp at hb hr
      subst hb
      simp at hr
      subst hr
      rw [hd] at h3
      simp at h3
  obtain ⟨ss, h1, h2, h3⟩ := h
  exact ⟨ss, key h1, h2, fun i a b => key (h3 i a b)⟩
/-- What was deferred is nothing: each record is let go. -/
theorem leave_all {B : Nat} {w0 : World} {s : Sl} {xss : List (List Int)} {K : World → Prop} : ∀ (ds : List Nat) (w : World), ds.Nodup → (∀ x ∈ ds, B ≤ x ∧ w.heap[x]? = some (.deferred (some []))) → Below B w0 w → Nest B w s xss →
    (∀ W, Below B w0 W → Nest B W s xss → K W) → leaveD ds w K
  | [], w, _, _, k, n, hK => hK w k n
  | x :: ds, w, hnd, h, k, n, hK => by
    have hx := h x (by simp)
    refine ⟨hx.2, leave_all ds _ (List.nodup_cons.1 hnd).2 (fun y hy => ?_) (k.atObj hx.1 _) (nest_atObj n ⟨_, hx.2⟩) hK⟩
    have hy2 := h y (by simp [hy])
    have : y ≠ x := fun e => (List.nodup_cons.1 hnd).1 (e ▸ hy)
    exact ⟨hy2.1, (World.putObj_heap_other this).trans hy2.2⟩
end Go.Proofs.Ytppfnkedbpmliaa
