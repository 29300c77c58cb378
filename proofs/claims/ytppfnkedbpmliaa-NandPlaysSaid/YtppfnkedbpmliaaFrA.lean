/- Nothing is proved of the program here: what a slice of acts, as it comes in, shows (the frame of NandPlays). -/
import Derived.Test.YtppfnkedbpmliaaFr
import Derived.Test.YtppfnkedbpmliaaTW
set_option linter.unusedVariables false
set_option linter.unusedSimpArgs false
namespace Go.Proofs.Ytppfnkedbpmliaa
open Go Go.Rk Go.ChangeShapes Go.WideShapes Go.ChangeAt Go.RowKit Go.Deep

section
variable {H : Type} {enc : TypeId × Value → H} {W : World} {base : Nat} {v : Value} {d : DataW H} {ps : List MemPlace}
set_option maxRecDepth 100000 in
theorem openI {fuel : Nat} {c : Value} {x : DataW H × List MemPlace} (h : DataW.trod enc Try.prog W 0 (fun _ => true) true fuel 23 [c] = some x) :
    ∃ (s : Sl) (ns : List Int), c = s.v ∧ Row eI W s ns ∧ ∀ z ∈ ns, z ≤ 9223372036854775807 := by
  have key : ∃ (s : Sl) (zs : List Int), c = s.v ∧ ((s.a = none ∧ s.l = 0 ∧ s.c = 0 ∧ zs = []) ∨ ∃ x, s.a = some x ∧ s.l ≤ s.c ∧ s.c ≤ maxLen ∧ zs.length = s.c ∧ (∀ i, i < zs.length → W.cell? (x.add i) = some (.int .i64 (zs.getD i 0))) ∧ ∀ n ∈ zs, (Lit.int .i64 n).wf = true) := by
    rcases open_ints Try.underlying23 Try.underlying3 (by kernel_rfl) h with ⟨hcs, _⟩ | ⟨x, l, c, zs, hcs, _, hl, hm, hz, _, hcell, hwz⟩
    · simp at hcs
      subst hcs
      exact ⟨⟨none, 0, 0⟩, [], rfl, .inl ⟨rfl, rfl, rfl, rfl⟩⟩
    · simp at hcs
      subst hcs
      exact ⟨⟨some x, _, _⟩, zs, rfl, .inr ⟨_, rfl, hl, hm, by simpa using hz, hcell, hwz⟩⟩
  obtain ⟨s, zs, rfl, h1⟩ := key
  obtain ⟨xs, hx, hw⟩ := rowI_of h1
  refine ⟨s, xs, rfl, hx, fun z hz => ?_⟩
  have := hw z hz
  simp [Lit.wf, IntKind.min, IntKind.max, IntKind.bits, IntKind.signed] at this
  omega
set_option maxRecDepth 100000 in
theorem openB {fuel : Nat} {c : Value} {x : DataW H × List MemPlace} (h : DataW.trod enc Try.prog W 0 (fun _ => true) true fuel 22 [c] = some x) :
    ∃ (s : Sl) (bs : List (BitVec 8)), c = s.v ∧ Row eB W s bs := by
  have key : ∃ (s : Sl) (zs : List Int), c = s.v ∧ ((s.a = none ∧ s.l = 0 ∧ s.c = 0 ∧ zs = []) ∨ ∃ x, s.a = some x ∧ s.l ≤ s.c ∧ s.c ≤ maxLen ∧ zs.length = s.c ∧ (∀ i, i < zs.length → W.cell? (x.add i) = some (.int .u8 (zs.getD i 0))) ∧ ∀ n ∈ zs, (Lit.int .u8 n).wf = true) := by
    rcases open_ints Try.underlying22 Try.underlying5 (by kernel_rfl) h with ⟨hcs, _⟩ | ⟨x, l, c, zs, hcs, _, hl, hm, hz, _, hcell, hwz⟩
    · simp at hcs
      subst hcs
      exact ⟨⟨none, 0, 0⟩, [], rfl, .inl ⟨rfl, rfl, rfl, rfl⟩⟩
    · simp at hcs
      subst hcs
      exact ⟨⟨some x, _, _⟩, zs, rfl, .inr ⟨_, rfl, hl, hm, by simpa using hz, hcell, hwz⟩⟩
  obtain ⟨s, zs, rfl, h1⟩ := key
  obtain ⟨xs, hx⟩ := rowB_of h1
  exact ⟨s, xs, rfl, hx⟩
set_option maxRecDepth 100000 in
theorem fr69 (hv : Value.okWide Try.prog W .any base 69 v) (h : DataW.Trod enc Try.prog W 0 (fun _ => true) true 69 v d ps) : ∃ (s : Sl) (xs : List Act), v = s.v ∧ Acts W s xs := by
  obtain ⟨a, len, cap, rfl⟩ := okWide_slice Try.underlying69 hv
  have hc72 : Try.prog.cellsOf 72 = 7 := by kernel_rfl
  have hc3 : Try.prog.cellsOf 3 = 1 := by kernel_rfl
  have hc22 : Try.prog.cellsOf 22 = 1 := by kernel_rfl
  have hc23 : Try.prog.cellsOf 23 = 1 := by kernel_rfl
  obtain ⟨fuel, hf⟩ := h
  rcases open_slice Try.underlying69 hf with ⟨hcs, _⟩ | ⟨x, l, c, m, n, D, Pl, hcs, _, hl, hm, hmm, _, hcell⟩
  · simp [Value.cells] at hcs
    obtain ⟨rfl, rfl, rfl⟩ := hcs
    exact ⟨⟨none, 0, 0⟩, [], rfl, ⟨⟨rfl, fun _ => rfl, fun i hi => by simp at hi⟩, by simp, by simp⟩⟩
  · simp [Value.cells] at hcs
    obtain ⟨rfl, rfl, rfl⟩ := hcs
    simp at hmm
    subst hmm
    have key : ∀ i, i < len → ∃ p : Act, (∀ j, j < 7 → W.cell? ((x.add (i * 7)).add j) = (eAct p)[j]?) ∧ ActOk W p := by
      intro i hi
      obtain ⟨cs', h1, h2⟩ := hcell i (by omega)
      rw [hc72] at h1
      obtain ⟨_, h3, h4⟩ := World.cells?_some h1
      obtain ⟨xs, k, _, _, _, h5, h6⟩ := DataW.trod_struct Try.underlying72 h2
      match cs', h3 with
      | [c0, c1, c2, c3, c4, c5, c6], _ =>
        have g0 := h6 0 _ rfl
        have g1 := h6 1 _ rfl
        have g2 := h6 2 _ rfl
        have g3 := h6 3 _ rfl
        have g4 := h6 4 _ rfl
        have g5 := h6 5 _ rfl
        have g6 := h6 6 _ rfl
        simp at h5
        simp [hc3, hc22, hc23] at g0 g1 g2 g3 g4 g5 g6
        obtain ⟨n0, e0, _⟩ := DataW.trod_int Try.underlying3 (g0.trans (List.getElem?_eq_getElem (by omega)))
        obtain ⟨n1, e1, _⟩ := DataW.trod_int Try.underlying3 (g1.trans (List.getElem?_eq_getElem (by omega)))
        obtain ⟨n2, e2, _⟩ := DataW.trod_int Try.underlying3 (g2.trans (List.getElem?_eq_getElem (by omega)))
        obtain ⟨n3, e3, _⟩ := DataW.trod_int Try.underlying3 (g3.trans (List.getElem?_eq_getElem (by omega)))
        obtain ⟨n4, e4, _⟩ := DataW.trod_int Try.underlying3 (g4.trans (List.getElem?_eq_getElem (by omega)))
        obtain ⟨s5, bs, e5, rb⟩ := openB (g5.trans (List.getElem?_eq_getElem (by omega)))
        obtain ⟨s6, ns, e6, rn, bn⟩ := openI (g6.trans (List.getElem?_eq_getElem (by omega)))
        simp at e0 e1 e2 e3 e4
        subst e0; subst e1; subst e2; subst e3; subst e4; subst e5; subst e6
        refine ⟨(n0, n1, n2, n3, n4, s5, s6, ()), fun j hj => ?_, ⟨bs, rb⟩, ns, rn, bn⟩
        rw [h4 j (by omega)]
        rfl
    obtain ⟨f, hf⟩ : ∃ f : Nat → Act, ∀ i, i < len → (∀ j, j < 7 → W.cell? ((x.add (i * 7)).add j) = (eAct (f i))[j]?) ∧ ActOk W (f i) :=
      ⟨fun i => if hi : i < len then (key i hi).choose else (0, 0, 0, 0, 0, ⟨none, 0, 0⟩, ⟨none, 0, 0⟩, ()), fun i hi => by simp only [hi, dif_pos]; exact (key i hi).choose_spec⟩
    refine ⟨⟨some x, len, _⟩, (List.range len).map f, rfl, ⟨⟨by simp, fun h => by simp at h, fun i hi => ⟨x, rfl, ?_⟩⟩, ?_, ?_⟩⟩
    · simp at hi
      simpa using (hf i hi).1
    · intro a ha
      simp at ha
      obtain ⟨i, hi, rfl⟩ := ha
      exact (hf i hi).2
    · simp [maxLen] at hm ⊢
      omega
end
end Go.Proofs.Ytppfnkedbpmliaa
