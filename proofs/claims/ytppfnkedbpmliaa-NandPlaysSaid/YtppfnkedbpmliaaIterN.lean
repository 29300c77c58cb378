/- Nothing is proved of the program here: what a range over a function of several values does whose rounds all go on, and may change memory. -/
import Derived.Test.YtppfnkedbpmliaaMemC
set_option linter.unusedVariables false
set_option linter.unusedSimpArgs false
namespace Go.Rk
open Go Go.RowKit

/-- What an iterator yields (each time several values), one behind the other, where memory shows S. -/
def GivesN (P : Program) (f : FuncId) (cap : Array Value) (S : World → Prop) (vs : List (List Value)) : Prop :=
  ∀ (l : Nat) (w : World) (J : Nat → World → Prop), (∀ i W, J i W → S W) → (∀ i W W', J i W → Kept W W' → J i W') → J 0 w →
    (∀ i args W (R : Value → World → Prop), vs[i]? = some args → J i W → (∀ W', J (i + 1) W' → R (.bool true) W') → OkY P l args W R) →
    Ok P f ((#[] : Array Value).toList ++ [.func (.yield l) #[] #[]] ++ cap.toList) w fun _ W => J vs.length W
theorem Gives.toN {P : Program} {f : FuncId} {cap : Array Value} {S : World → Prop} {vs : List Value} (h : Gives P f cap S vs) : GivesN P f cap S (vs.map fun v => [v]) := by
  intro l w J hJ hS h0 hy
  have := h l w J hJ hS h0 fun i v W R hv hj hR => hy i [v] W R (by simp [hv]) hj hR
  simpa using this
/-- Is no block of cells. -/
def NoCells (w : World) (l : Nat) : Prop := ∃ o, w.heap[l]? = some o ∧ ∀ cur e fr, o ≠ .cells cur e fr
theorem NoCells.loop {w : World} {l : Nat} {lp : Loop} (h : w.heap[l]? = some (.loop lp)) : NoCells w l := ⟨_, h, fun _ _ _ h => by cases h⟩
theorem NoCells.deferred {w : World} {l : Nat} {d : Option (List Deferred)} (h : w.heap[l]? = some (.deferred d)) : NoCells w l := ⟨_, h, fun _ _ _ h => by cases h⟩
theorem cell_put {w : World} {l : Nat} {o : Obj} {a : Addr} {v : Value} (h : w.cell? a = some v) (hl : NoCells w l) : (w.putObj l o).cell? a = some v := by
  by_cases hb : a.block = l
  · exfalso
    obtain ⟨o', h1, h2⟩ := hl
    unfold World.cell? at h
    rw [hb, h1] at h
    cases o' with
    | cells cur e fr => exact h2 _ _ _ rfl
    | _ => simp at h
  · rw [← h]
    exact World.cell?_of_block (World.putObj_heap_other hb)
theorem chg_put (w : World) (l : Nat) (o : Obj) : Chg (· = l) w (w.putObj l o) := ⟨rfl, rfl, rfl, by simp, fun k hk hn => World.putObj_heap_other hn⟩
theorem Blk.put {w : World} {l b : Nat} {o : Obj} {e : TypeId} {cs : List Value} (h : Blk w b e cs) (hl : NoCells w l) : Blk (w.putObj l o) b e cs :=
  h.chg (chg_put w l o) fun hb => by
    obtain ⟨o', h1, h2⟩ := hl
    rw [← hb] at h1
    exact h2 _ _ _ (Option.some.inj (h1.symm.trans h))
theorem Mine.put_obj {α : Type} {enc : α → Value} {e : TypeId} {base : Nat} {w : World} {s : Sl} {xs : List α} {l : Nat} {o : Obj} (h : Mine enc e base w s xs) (hl : NoCells w l) : Mine enc e base (w.putObj l o) s xs :=
  h.chg (chg_put w l o) fun b hb hbl => by
    obtain ⟨o', h1, h2⟩ := hl
    rcases h.forms with ⟨rfl, _⟩ | ⟨g, cap, cur, rfl, _, h3, _⟩
    · simp at hb
    · simp at hb
      subst hb
      simp at hbl
      rw [← hbl] at h1
      exact h2 _ _ _ (Option.some.inj (h1.symm.trans h3))
theorem Chg.put {F : Nat → Prop} {a b : World} (h : Chg F a b) {l : Nat} (hl : a.heap.size ≤ l) (o : Obj) : Chg F a (b.putObj l o) :=
  ⟨h.os, h.tape, h.output, by simpa using h.size, fun k hk hn => (World.putObj_heap_other (by omega)).trans (h.block k hk hn)⟩
theorem kept_put {w0 w : World} {l : Nat} (k : Kept w0 w) (hl : w0.heap.size ≤ l) (o : Obj) : Kept w0 (w.putObj l o) := k.then (chg_put w l o) fun x hx e => by omega
/-- A range whose rounds all go on. -/
theorem rangeX_allN {P : Program} {f : FuncId} {cap : Array Value} {w : World} {S : World → Prop} {B : Nat → Obj → Obj → List Value → World → (Exit → World → Prop) → Prop} {KN KR : KW} {KE : List (Nat × KW)} {vs : List (List Value)}
    (hy : GivesN P f cap S vs) (G : Nat → World → Prop) (hk : ∀ i W, G i W → S W) (hS : ∀ i W W', G i W → Kept W W' → G i W')
    (hput : ∀ i W lp lp', G i W → W.heap[w.heap.size + 1]? = some (.loop lp) → G i (W.putObj (w.heap.size + 1) (.loop lp')))
    (h0 : ∀ lp, G 0 ((w.alloc (.deferred (some []))).alloc (.loop lp)))
    (hB : ∀ i args W lp lp' (k : Exit → World → Prop), vs[i]? = some args → G i W → G i (W.putObj (w.heap.size + 1) (.loop lp')) → W.heap[w.heap.size + 1]? = some (.loop lp) → (W.putObj (w.heap.size + 1) (.loop lp')).heap[w.heap.size + 1]? = some (.loop lp') →
      (∀ W', G (i + 1) W' → W'.heap[w.heap.size + 1]? = some (.loop lp') → k .normal W') → B (w.heap.size + 1) (.loop lp) (.loop lp') args W k)
    (hN : ∀ W, G vs.length W → KN w.heap.size W) : rangeX P none (.func (.func f) #[] cap) w B KN KR KE := by
  refine ⟨(by intro l0 h; cases h), fun Rc hRc l w1 hsh hround => ?_⟩
  obtain ⟨rfl, rfl⟩ := hsh
  obtain ⟨lr, er⟩ := hRc .ready none
  obtain ⟨lb, eb⟩ := hRc .busy none
  obtain ⟨lx, ex⟩ := hRc .exhausted none
  refine (hy (w.heap.size + 1) _ (fun i W => G i W ∧ W.heap[w.heap.size + 1]? = some (Rc .ready none)) (fun i W h => hk i W h.1) (fun i W W' h k => ⟨hS i W W' h.1 k, (k.block _ (heap_lt h.2)).trans h.2⟩) ⟨by rw [er]; exact h0 _, ?_⟩ ?_).mono ?_
  · have := heap_alloc_new (w.alloc (.deferred (some []))) (Rc .ready none)
    rwa [World.size_alloc] at this
  · intro i args W R hv ⟨hG, hl⟩ hR
    refine hround args W R hl ?_
    have hlt := heap_lt hl
    rw [er] at hl
    have hb := World.putObj_heap_same (w := W) (o := .loop lb) hlt
    rw [er, eb]
    refine hB i args W lr lb _ hv hG (hput _ _ _ _ hG hl) hl hb fun W' hG' hl' => ⟨hl', ?_⟩
    refine hR _ ⟨?_, World.putObj_heap_same (heap_lt hl')⟩
    rw [er]
    exact hput _ _ _ _ hG' hl'
  · rintro v W ⟨hG, hl⟩
    refine .inl ⟨hl, ?_⟩
    rw [er] at hl
    rw [ex]
    exact hN _ (hput _ _ _ _ hG hl)
end Go.Rk
