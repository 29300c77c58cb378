/- NandStops holds of the given program, for any number, any kinds of calls: the law returns true, and what it reads is as it was. -/
import Derived.Test.YtppfnkedbpmliaaVNf
import Derived.Test.YtppfnkedbpmliaaFr
namespace Go.Proofs.Ytppfnkedbpmliaa.nandStops
open Go.ChangeShapes Go.WideShapes Go.ChangeAt Go.RowKit
open Go.ChangeMaps (open_string shut_string)
set_option linter.unusedVariables false
theorem own : ownKnob Try.prog.godebug = none := by kernel_rfl
theorem laidOut : laidOutB Try.prog = true := p1
set_option maxRecDepth 100000 in
theorem lifted (os : Os) (started : os.Started) (H : Type) (enc : TypeId × Value → H) :
    ReturnsInHanded {} Try.checked os 12 .any (Rows.nandStopsSpec.pre6 enc Try.prog Try.f12 Rows.nandStopsRow.domain false) (Rows.nandStopsSpec.post enc Try.prog Try.f12 false true false false) := by
  refine returnsInHanded_of_change (C := Try.checked) own started (by kernel_rfl) Try.func12
    (ChangeSpec.witness6 (enc := enc) (C := Try.checked) false ⟨#[], #[.int .i64 0, .slice none 0 0], []⟩ 8 (by kernel_rfl) (by kernel_rfl) (by kernel_rfl) (by kernel_rfl)) ?_
  intro W base args ds gs before hval0 hW hcnd _
  have hval : ∀ (j : Nat) t v, Try.f12.params[j]? = some t → args[j]? = some v → Value.okWide Try.prog W .any base t v := hval0
  have hW' := hW
  obtain ⟨p, q, hA0, hV, rfl, hfz, hnd⟩ := hW
  have hA : DataW.TrodAll enc Try.prog W 0 (fun _ => true) true Try.f12.params.toList args.toList ds p := hA0
  rw [Try.params12] at hA hval
  obtain ⟨v0, vs0, d0, ds0, pp0, qq0, hargs, rfl, rfl, h0, t0⟩ := trodAll_cons hA
  obtain ⟨v1, vs1, d1, ds1, pp1, qq1, rfl, rfl, rfl, h1, t1⟩ := trodAll_cons t0
  obtain ⟨rfl, rfl, rfl⟩ := trodAll_nil t1
  obtain rfl : args = #[v0, v1] := by cases args; simp_all
  obtain ⟨rfl, rfl⟩ := trodVars_none hV
  have lt0 : ∀ x ∈ pp0, x.block < W.heap.size := by obtain ⟨m, hm⟩ := h0; exact DataW.trod_lt m _ _ _ hm
  obtain ⟨x0, rfl, r0⟩ := fr3 (hval 0 3 v0 rfl rfl) h0
  have lt1 : ∀ x ∈ pp1, x.block < W.heap.size := by obtain ⟨m, hm⟩ := h1; exact DataW.trod_lt m _ _ _ hm
  obtain ⟨s1, x1, rfl, r1⟩ := fr23 (hval 1 23 v1 rfl rfl) h1
  clear hA0 hval0
  refine (nandStops_ok (kk := x0) r1).calls.mono fun e W' ⟨v, he, hv, bel⟩ => ?_
  subst he
  subst hv
  exact ⟨_, rfl, _, _, _, [], _, [], hW', trodAll_mk1 (shut_bool Try.underlying4 _), (trodAll_cons_mk (Below.trod laidOut (by kernel_rfl) (of_decide_eq_true (by kernel_rfl)) h0 bel lt0) (trodAll_cons_mk (Below.trod laidOut (by kernel_rfl) (of_decide_eq_true (by kernel_rfl)) h1 bel lt1) trodAll_mk0)), rfl, bel.frame _, fun h => by cases h⟩
theorem b1 : (Rows.nandStopsRow.inPlace == Try.prog.inPlace 12) = true := by kernel_rfl
theorem b2 : (Rows.nandStopsRow.unfollowed == Try.prog.unfollowed 12) = true := by kernel_rfl
theorem b3 : (Rows.nandStopsRow.recurses == Try.prog.recurses 12) = true := by kernel_rfl
theorem b4 : (Rows.nandStopsRow.named == Try.prog.varsNamed 12) = true := by kernel_rfl
theorem rest : restFacts Try.prog 12 Try.f12 Rows.nandStopsSpec Rows.nandStopsRow = true := by kernel_rfl
theorem closed : joinedFacts Try.prog 12 Try.f12 Rows.nandStopsSpec Rows.nandStopsRow = true :=
  joined_of p1 p2 p3 p4 (by rw [p5]; rfl) p6 p7 (by rw [p8]; rfl) p9 b1 b2 b3 b4 rest
theorem over : Rows.nandStopsRow.holds Try.pinned (OpenSpec.ofChange Rows.nandStopsSpec) :=
  OpenClaim.holds_of_wide 12 Try.f12 rfl rfl rfl rfl rfl rfl rfl ⟨rfl, rfl, rfl, rfl, rfl⟩ rfl rfl rfl rfl rfl (by kernel_rfl) Try.func12 closed
    (of_decide_eq_true (by kernel_rfl)) (by unfold Func.isWrapper; first | (rw [if_pos (by decide +kernel)]; kernel_rfl) | (rw [if_neg (by decide +kernel)]; exact ⟨rfl, rfl⟩))
    (fun os started H enc _ => lifted os started H enc)
/-- The statement. -/
theorem proved : Rows.NandStopsSaid := over
#print axioms proved
end Go.Proofs.Ytppfnkedbpmliaa.nandStops
