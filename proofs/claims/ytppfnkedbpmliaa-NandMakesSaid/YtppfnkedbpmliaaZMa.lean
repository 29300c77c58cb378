/- NandMakes holds of the given program, for any geometry, any bad blocks: the law returns true, and what it reads is as it was. -/
import Derived.Test.YtppfnkedbpmliaaVMa
import Derived.Test.YtppfnkedbpmliaaFr
namespace Go.Proofs.Ytppfnkedbpmliaa.nandMakes
open Go.ChangeShapes Go.WideShapes Go.ChangeAt Go.RowKit
open Go.ChangeMaps (open_string shut_string)
set_option linter.unusedVariables false
theorem own : ownKnob Try.prog.godebug = none := by kernel_rfl
theorem laidOut : laidOutB Try.prog = true := p1
set_option maxRecDepth 100000 in
theorem lifted (os : Os) (started : os.Started) (H : Type) (enc : TypeId × Value → H) :
    ReturnsInHanded {} Try.checked os 8 .any (Rows.nandMakesSpec.pre6 enc Try.prog Try.f8 Rows.nandMakesRow.domain false) (Rows.nandMakesSpec.post enc Try.prog Try.f8 false true false false) := by
  refine returnsInHanded_of_change (C := Try.checked) own started (by kernel_rfl) Try.func8
    (ChangeSpec.witness6 (enc := enc) (C := Try.checked) false ⟨#[], #[.agg #[.int .i64 0, .int .i64 0, .int .i64 0], .slice none 0 0, .int .i64 0, .bool false], []⟩ 8 (by kernel_rfl) (by kernel_rfl) (by kernel_rfl) (by kernel_rfl)) ?_
  intro W base args ds gs before hval0 hW hcnd _
  have hval : ∀ (j : Nat) t v, Try.f8.params[j]? = some t → args[j]? = some v → Value.okWide Try.prog W .any base t v := hval0
  have hW' := hW
  obtain ⟨p, q, hA0, hV, rfl, hfz, hnd⟩ := hW
  have hA : DataW.TrodAll enc Try.prog W 0 (fun _ => true) true Try.f8.params.toList args.toList ds p := hA0
  rw [Try.params8] at hA hval
  obtain ⟨v0, vs0, d0, ds0, pp0, qq0, hargs, rfl, rfl, h0, t0⟩ := trodAll_cons hA
  obtain ⟨v1, vs1, d1, ds1, pp1, qq1, rfl, rfl, rfl, h1, t1⟩ := trodAll_cons t0
  obtain ⟨v2, vs2, d2, ds2, pp2, qq2, rfl, rfl, rfl, h2, t2⟩ := trodAll_cons t1
  obtain ⟨v3, vs3, d3, ds3, pp3, qq3, rfl, rfl, rfl, h3, t3⟩ := trodAll_cons t2
  obtain ⟨rfl, rfl, rfl⟩ := trodAll_nil t3
  obtain rfl : args = #[v0, v1, v2, v3] := by cases args; simp_all
  obtain ⟨rfl, rfl⟩ := trodVars_none hV
  have lt0 : ∀ x ∈ pp0, x.block < W.heap.size := by obtain ⟨m, hm⟩ := h0; exact DataW.trod_lt m _ _ _ hm
  obtain ⟨x0, rfl⟩ := fr29 (hval 0 29 v0 rfl rfl) h0
  have lt1 : ∀ x ∈ pp1, x.block < W.heap.size := by obtain ⟨m, hm⟩ := h1; exact DataW.trod_lt m _ _ _ hm
  obtain ⟨s1, x1, rfl, r1⟩ := fr30 (hval 1 30 v1 rfl rfl) h1
  have lt2 : ∀ x ∈ pp2, x.block < W.heap.size := by obtain ⟨m, hm⟩ := h2; exact DataW.trod_lt m _ _ _ hm
  obtain ⟨x2, rfl, r2⟩ := fr3 (hval 2 3 v2 rfl rfl) h2
  have lt3 : ∀ x ∈ pp3, x.block < W.heap.size := by obtain ⟨m, hm⟩ := h3; exact DataW.trod_lt m _ _ _ hm
  obtain ⟨x3, rfl⟩ := fr4 (hval 3 4 v3 rfl rfl) h3
  clear hA0 hval0
  refine (nandMakes_ok (g := x0) (which := x2) (above := x3) r1).calls.mono fun e W' ⟨v, he, hv, bel⟩ => ?_
  subst he
  subst hv
  exact ⟨_, rfl, _, _, _, [], _, [], hW', trodAll_mk1 (shut_bool Try.underlying4 _), (trodAll_cons_mk (Below.trod laidOut (by kernel_rfl) (of_decide_eq_true (by kernel_rfl)) h0 bel lt0) (trodAll_cons_mk (Below.trod laidOut (by kernel_rfl) (of_decide_eq_true (by kernel_rfl)) h1 bel lt1) (trodAll_cons_mk (Below.trod laidOut (by kernel_rfl) (of_decide_eq_true (by kernel_rfl)) h2 bel lt2) (trodAll_cons_mk (Below.trod laidOut (by kernel_rfl) (of_decide_eq_true (by kernel_rfl)) h3 bel lt3) trodAll_mk0)))), rfl, bel.frame _, fun h => by cases h⟩
theorem b1 : (Rows.nandMakesRow.inPlace == Try.prog.inPlace 8) = true := by kernel_rfl
theorem b2 : (Rows.nandMakesRow.unfollowed == Try.prog.unfollowed 8) = true := by kernel_rfl
theorem b3 : (Rows.nandMakesRow.recurses == Try.prog.recurses 8) = true := by kernel_rfl
theorem b4 : (Rows.nandMakesRow.named == Try.prog.varsNamed 8) = true := by kernel_rfl
theorem rest : restFacts Try.prog 8 Try.f8 Rows.nandMakesSpec Rows.nandMakesRow = true := by kernel_rfl
theorem closed : joinedFacts Try.prog 8 Try.f8 Rows.nandMakesSpec Rows.nandMakesRow = true :=
  joined_of p1 p2 p3 p4 (by rw [p5]; rfl) p6 p7 (by rw [p8]; rfl) p9 b1 b2 b3 b4 rest
theorem over : Rows.nandMakesRow.holds Try.pinned (OpenSpec.ofChange Rows.nandMakesSpec) :=
  OpenClaim.holds_of_wide 8 Try.f8 rfl rfl rfl rfl rfl rfl rfl ⟨rfl, rfl, rfl, rfl, rfl⟩ rfl rfl rfl rfl rfl (by kernel_rfl) Try.func8 closed
    (of_decide_eq_true (by kernel_rfl)) (by unfold Func.isWrapper; first | (rw [if_pos (by decide +kernel)]; kernel_rfl) | (rw [if_neg (by decide +kernel)]; exact ⟨rfl, rfl⟩))
    (fun os started H enc _ => lifted os started H enc)
/-- The statement. -/
theorem proved : Rows.NandMakesSaid := over
#print axioms proved
end Go.Proofs.Ytppfnkedbpmliaa.nandMakes
