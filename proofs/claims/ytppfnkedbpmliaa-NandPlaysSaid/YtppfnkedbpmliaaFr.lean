/- Nothing is proved of the program here: what a law's arguments, as they come in, show (the frame of a row). -/
import Derived.Test.YtppfnkedbpmliaaRow
import Derived.Test.YtppfnkedbpmliaaCGl
import Derived.WalkKit
import Derived.ProofKit
import Derived.OpenShut
import Derived.ShutString
import Derived.ChangeOld
import Derived.Below
import Derived.Deep.Slices
set_option linter.unusedVariables false
set_option linter.unusedSimpArgs false
namespace Go.Proofs.Ytppfnkedbpmliaa
open Go Go.Rk Go.ChangeShapes Go.WideShapes Go.ChangeAt Go.RowKit Go.Deep

section
variable {H : Type} {enc : TypeId × Value → H} {W : World} {base : Nat} {v : Value} {d : DataW H} {ps : List MemPlace}
set_option maxRecDepth 100000 in
theorem frInts {t e : TypeId} {k : IntKind} (ht : Try.prog.underlying t = some (.slice e)) (he : Try.prog.underlying e = some (.int k)) (hc : Try.prog.cellsOf e = 1)
    (hv : Value.okWide Try.prog W .any base t v) (h : DataW.Trod enc Try.prog W 0 (fun _ => true) true t v d ps) :
    ∃ (s : Sl) (zs : List Int), v = s.v ∧ ((s.a = none ∧ s.l = 0 ∧ s.c = 0 ∧ zs = []) ∨ ∃ x, s.a = some x ∧ s.l ≤ s.c ∧ s.c ≤ maxLen ∧ zs.length = s.c ∧ (∀ i, i < zs.length → W.cell? (x.add i) = some (.int k (zs.getD i 0))) ∧ ∀ n ∈ zs, (Lit.int k n).wf = true) := by
  obtain ⟨a0, len0, cap0, rfl⟩ := okWide_slice ht hv
  obtain ⟨fuel, hf⟩ := h
  rcases open_ints ht he hc hf with ⟨hcs, _⟩ | ⟨x, l, c, zs, hcs, _, hl, hm, hz, _, hcell, hwz⟩
  · simp [Value.cells] at hcs
    obtain ⟨rfl, rfl, rfl⟩ := hcs
    exact ⟨⟨none, 0, 0⟩, [], rfl, .inl ⟨rfl, rfl, rfl, rfl⟩⟩
  · simp [Value.cells] at hcs
    obtain ⟨rfl, rfl, rfl⟩ := hcs
    exact ⟨⟨some x, _, _⟩, zs, rfl, .inr ⟨_, rfl, hl, hm, by simpa using hz, hcell, hwz⟩⟩
set_option maxRecDepth 100000 in
theorem fr23 (hv : Value.okWide Try.prog W .any base 23 v) (h : DataW.Trod enc Try.prog W 0 (fun _ => true) true 23 v d ps) : ∃ (s : Sl) (zs : List Int), v = s.v ∧ Row eI W s zs := by
  obtain ⟨s, zs, rfl, h1⟩ := frInts Try.underlying23 Try.underlying3 (by kernel_rfl) hv h
  obtain ⟨xs, hx, _⟩ := rowI_of h1
  exact ⟨s, xs, rfl, hx⟩
set_option maxRecDepth 100000 in
theorem fr23b (hv : Value.okWide Try.prog W .any base 23 v) (h : DataW.Trod enc Try.prog W 0 (fun _ => true) true 23 v d ps) : ∃ (s : Sl) (zs : List Int), v = s.v ∧ Row eI W s zs ∧ ∀ z ∈ zs, z ≤ 9223372036854775807 := by
  obtain ⟨s, zs, rfl, h1⟩ := frInts Try.underlying23 Try.underlying3 (by kernel_rfl) hv h
  obtain ⟨xs, hx, hw⟩ := rowI_of h1
  refine ⟨s, xs, rfl, hx, fun z hz => ?_⟩
  have := hw z hz
  simp [Lit.wf, IntKind.min, IntKind.max, IntKind.bits, IntKind.signed] at this
  omega
set_option maxRecDepth 100000 in
theorem fr22 (hv : Value.okWide Try.prog W .any base 22 v) (h : DataW.Trod enc Try.prog W 0 (fun _ => true) true 22 v d ps) : ∃ (s : Sl) (bs : List (BitVec 8)), v = s.v ∧ Row eB W s bs := by
  obtain ⟨s, zs, rfl, h1⟩ := frInts Try.underlying22 Try.underlying5 (by kernel_rfl) hv h
  obtain ⟨xs, hx⟩ := rowB_of h1
  exact ⟨s, xs, rfl, hx⟩
set_option maxRecDepth 100000 in
theorem fr3 (hv : Value.okWide Try.prog W .any base 3 v) (h : DataW.Trod enc Try.prog W 0 (fun _ => true) true 3 v d ps) : ∃ n : Int, v = .int .i64 n ∧ -9223372036854775808 ≤ n ∧ n ≤ 9223372036854775807 := by
  obtain ⟨a, rfl, _, _, w⟩ := open_int Try.underlying3 hv h
  refine ⟨a, rfl, ?_⟩
  simp [Lit.wf, IntKind.min, IntKind.max, IntKind.bits, IntKind.signed] at w
  omega
set_option maxRecDepth 100000 in
theorem fr4 (hv : Value.okWide Try.prog W .any base 4 v) (h : DataW.Trod enc Try.prog W 0 (fun _ => true) true 4 v d ps) : ∃ b : Bool, v = .bool b := by
  obtain ⟨a, rfl, _, _⟩ := open_bool Try.underlying4 hv h
  exact ⟨a, rfl⟩
set_option maxRecDepth 100000 in
theorem fr29 (hv : Value.okWide Try.prog W .any base 29 v) (h : DataW.Trod enc Try.prog W 0 (fun _ => true) true 29 v d ps) : ∃ g : Geo, v = gv g := by
  obtain ⟨cs, rfl, hsz⟩ := okWide_struct Try.underlying29 hv
  have hc29 : Try.prog.cellsOf 29 = 3 := by kernel_rfl
  have hc3 : Try.prog.cellsOf 3 = 1 := by kernel_rfl
  rw [hc29] at hsz
  obtain ⟨fuel, hf⟩ := h
  obtain ⟨xs, n, _, _, _, hl, hx⟩ := DataW.trod_struct Try.underlying29 hf
  obtain ⟨l⟩ := cs
  match l, hsz with
  | [c0, c1, c2], _ =>
    have h0 := hx 0 _ rfl
    have h1 := hx 1 _ rfl
    have h2 := hx 2 _ rfl
    simp [Value.cells, hc3] at h0 h1 h2
    simp at hl
    obtain ⟨n0, e0, _⟩ := DataW.trod_int Try.underlying3 (h0.trans (List.getElem?_eq_getElem (by omega)))
    obtain ⟨n1, e1, _⟩ := DataW.trod_int Try.underlying3 (h1.trans (List.getElem?_eq_getElem (by omega)))
    obtain ⟨n2, e2, _⟩ := DataW.trod_int Try.underlying3 (h2.trans (List.getElem?_eq_getElem (by omega)))
    simp at e0 e1 e2
    subst e0; subst e1; subst e2
    exact ⟨(n0, n1, n2, ()), rfl⟩
set_option maxRecDepth 100000 in
theorem fr30 (hv : Value.okWide Try.prog W .any base 30 v) (h : DataW.Trod enc Try.prog W 0 (fun _ => true) true 30 v d ps) : ∃ (s : Sl) (xs : List (Int × Int)), v = s.v ∧ Row2 W s xs := by
  obtain ⟨a, len, cap, rfl⟩ := okWide_slice Try.underlying30 hv
  have hc42 : Try.prog.cellsOf 42 = 2 := by kernel_rfl
  have hc3 : Try.prog.cellsOf 3 = 1 := by kernel_rfl
  obtain ⟨fuel, hf⟩ := h
  rcases open_slice Try.underlying30 hf with ⟨hcs, _⟩ | ⟨x, l, c, m, n, D, Pl, hcs, _, hl, hm, hmm, _, hcell⟩
  · simp [Value.cells] at hcs
    obtain ⟨rfl, rfl, rfl⟩ := hcs
    exact ⟨⟨none, 0, 0⟩, [], rfl, rfl, fun _ => rfl, fun i hi => by simp at hi⟩
  · simp [Value.cells] at hcs
    obtain ⟨rfl, rfl, rfl⟩ := hcs
    simp at hmm
    subst hmm
    have key : ∀ i, i < len → ∃ p : Int × Int, W.cell? (x.add (i * 2)) = some (.int .i64 p.1) ∧ W.cell? ((x.add (i * 2)).add 1) = some (.int .i64 p.2) := by
      intro i hi
      obtain ⟨cs', h1, h2⟩ := hcell i (by omega)
      rw [hc42] at h1
      obtain ⟨_, h3, h4⟩ := World.cells?_some h1
      obtain ⟨xs, k, _, _, _, h5, h6⟩ := DataW.trod_array Try.underlying42 h2
      match cs', h3 with
      | [c0, c1], _ =>
        have g0 := h6 0 (by omega)
        have g1 := h6 1 (by omega)
        simp [hc3] at g0 g1
        obtain ⟨n0, e0, _⟩ := DataW.trod_int Try.underlying3 (g0.trans (List.getElem?_eq_getElem (by omega)))
        obtain ⟨n1, e1, _⟩ := DataW.trod_int Try.underlying3 (g1.trans (List.getElem?_eq_getElem (by omega)))
        simp at e0 e1
        subst e0; subst e1
        have q0 := h4 0 (by omega)
        have q1 := h4 1 (by omega)
        have e : ∀ a : Addr, a.add 0 = a := fun a => by simp [Addr.add]
        rw [e] at q0
        exact ⟨(n0, n1), q0, q1⟩
    obtain ⟨f, hf⟩ : ∃ f : Nat → Int × Int, ∀ i, i < len → W.cell? (x.add (i * 2)) = some (.int .i64 (f i).1) ∧ W.cell? ((x.add (i * 2)).add 1) = some (.int .i64 (f i).2) :=
      ⟨fun i => if hi : i < len then (key i hi).choose else (0, 0), fun i hi => by simp only [hi, dif_pos]; exact (key i hi).choose_spec⟩
    refine ⟨⟨some x, len, _⟩, (List.range len).map f, rfl, by simp, fun h => by simp at h, fun i hi => ⟨x, rfl, ?_⟩⟩
    simp at hi
    simpa using hf i hi
end
end Go.Proofs.Ytppfnkedbpmliaa
