/- Nothing is proved of the program here: what a range over a function does whose rounds all go on. -/
import Derived.Test.YtppfnkedbpmliaaMem
set_option linter.unusedVariables false
set_option linter.unusedSimpArgs false
namespace Go.Rk
open Go Go.RowKit

theorem _root_.Go.RowKit.Below.atObj {B : Nat} {a w : World} (h : Below B a w) {l : Nat} (hl : B ≤ l) (o : Obj) : Below B a (w.putObj l o) :=
  h.trans ⟨rfl, rfl, rfl, by simp, fun k hk => World.putObj_heap_other (by omega)⟩
theorem grownBy_put (W : World) (l : Nat) (o : Obj) : W.grownBy (W.putObj l o) (some l) :=
  ⟨rfl, rfl, rfl, by simp, fun k hk hne => World.putObj_heap_other (by simpa using hne)⟩
theorem grownBy_set (W : World) (a : Addr) (v : Value) : W.grownBy (W.setCell a v) (some a.block) :=
  ⟨rfl, rfl, rfl, by simp, fun k hk hne => Below.heap_setCell _ _ _ _ (by simpa using hne)⟩
theorem heap_lt {w : World} {l : Nat} {o : Obj} (h : w.heap[l]? = some o) : l < w.heap.size := (Array.getElem?_eq_some_iff.1 h).1
theorem Kept.trans {a b c : World} (h : Kept a b) (k : Kept b c) : Kept a c := Below.trans h (Below.mono k h.size)
/-- What an iterator yields, one behind the other, where memory shows S. -/
def Gives (P : Program) (f : FuncId) (cap : Array Value) (S : World → Prop) (vs : List Value) : Prop :=
  ∀ (l : Nat) (w : World) (J : Nat → World → Prop), (∀ i W, J i W → S W) → (∀ i W W', J i W → Kept W W' → J i W') → J 0 w →
    (∀ i v W (R : Value → World → Prop), vs[i]? = some v → J i W → (∀ W', J (i + 1) W' → R (.bool true) W') → OkY P l [v] W R) →
    Ok P f ((#[] : Array Value).toList ++ [.func (.yield l) #[] #[]] ++ cap.toList) w fun _ W => J vs.length W
theorem Gives.weaken {P : Program} {f : FuncId} {cap : Array Value} {S S' : World → Prop} {vs : List Value} (h : Gives P f cap S vs) (k : ∀ W, S' W → S W) : Gives P f cap S' vs :=
  fun l W J hJ hS h0 hy => h l W J (fun i W2 hW => k _ (hJ i W2 hW)) hS h0 hy
/-- A range whose rounds all go on. -/
theorem rangeX_all {P : Program} {f : FuncId} {cap : Array Value} {w : World} {S : World → Prop} {B : Nat → Obj → Obj → List Value → World → (Exit → World → Prop) → Prop} {KN KR : KW} {KE : List (Nat × KW)} {vs : List Value}
    (hy : Gives P f cap S vs) (G : Nat → World → Prop) (hk : ∀ i W, G i W → S W) (hS : ∀ i W W', G i W → Kept W W' → G i W') (hput : ∀ i W o, G i W → G i (W.putObj (w.heap.size + 1) o))
    (h0 : ∀ o, G 0 ((w.alloc (.deferred (some []))).alloc o))
    (hB : ∀ i v W rdy bz (k : Exit → World → Prop), vs[i]? = some v → G i W → W.heap[w.heap.size + 1]? = some rdy → (∀ W', G (i + 1) W' → W'.heap[w.heap.size + 1]? = some bz → k .normal W') → B (w.heap.size + 1) rdy bz [v] W k)
    (hN : ∀ W o, G vs.length W → KN w.heap.size (W.putObj (w.heap.size + 1) o)) : rangeX P none (.func (.func f) #[] cap) w B KN KR KE := by
  refine ⟨(by intro l0 h; cases h), fun Rc hRc l w1 hsh hround => ?_⟩
  obtain ⟨rfl, rfl⟩ := hsh
  refine (hy (w.heap.size + 1) _ (fun i W => G i W ∧ W.heap[w.heap.size + 1]? = some (Rc .ready none)) (fun i W h => hk i W h.1) (fun i W W' h k => ⟨hS i W W' h.1 k, (k.block _ (heap_lt h.2)).trans h.2⟩) ⟨h0 _, ?_⟩ ?_).mono ?_
  · have := heap_alloc_new (w.alloc (.deferred (some []))) (Rc .ready none)
    rwa [World.size_alloc] at this
  · intro i v W R hv ⟨hG, hl⟩ hR
    refine hround [v] W R hl (hB i v W _ _ _ hv hG hl fun W' hG' hl' => ⟨hl', ?_⟩)
    exact hR _ ⟨hput _ _ _ hG', World.putObj_heap_same (heap_lt hl')⟩
  · rintro v W ⟨hG, hl⟩
    exact .inl ⟨hl, hN W _ hG⟩
end Go.Rk
