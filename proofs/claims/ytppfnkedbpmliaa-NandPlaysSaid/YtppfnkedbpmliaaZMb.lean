/- NandPlays holds of the given program, for any geometry, any numbers, any acts: the law returns true, and what it reads is as it was. -/
import Derived.Test.YtppfnkedbpmliaaVMb
import Derived.Test.YtppfnkedbpmliaaFrA
namespace Go.Proofs.Ytppfnkedbpmliaa.nandPlays
open Go.ChangeShapes Go.WideShapes Go.ChangeAt Go.RowKit
open Go.ChangeMaps (open_string shut_string)
set_option linter.unusedVariables false
theorem own : ownKnob Try.prog.godebug = none := by kernel_rfl
theorem laidOut : laidOutB Try.prog = true := p1
set_option maxRecDepth 100000 in
theorem lifted (os : Os) (started : os.Started) (H : Type) (enc : TypeId × Value → H) :
    ReturnsInHanded {} Try.checked os 15 .any (Rows.nandPlaysSpec.pre6 enc Try.prog Try.f15 Rows.nandPlaysRow.domain false) (Rows.nandPlaysSpec.post enc Try.prog Try.f15 false true false false) := by
  refine returnsInHanded_of_change (C := Try.checked) own started (by kernel_rfl) Try.func15
    (ChangeSpec.witness6 (enc := enc) (C := Try.checked) false ⟨#[], #[.agg #[.int .i64 0, .int .i64 0, .int .i64 0], .slice none 0 0, .slice none 0 0], []⟩ 8 (by kernel_rfl) (by kernel_rfl) (by kernel_rfl) (by kernel_rfl)) ?_
  intro W base args ds gs before hval0 hW hcnd _
  have hval : ∀ (j : Nat) t v, Try.f15.params[j]? = some t → args[j]? = some v → Value.okWide Try.prog W .any base t v := hval0
  have hW' := hW
  obtain ⟨p, q, hA0, hV, rfl, hfz, hnd⟩ := hW
  have hA : DataW.TrodAll enc Try.prog W 0 (fun _ => true) true Try.f15.params.toList args.toList ds p := hA0
  rw [Try.params15] at hA hval
  obtain ⟨v0, vs0, d0, ds0, pp0, qq0, hargs, rfl, rfl, h0, t0⟩ := trodAll_cons hA
  obtain ⟨v1, vs1, d1, ds1, pp1, qq1, rfl, rfl, rfl, h1, t1⟩ := trodAll_cons t0
  obtain ⟨v2, vs2, d2, ds2, pp2, qq2, rfl, rfl, rfl, h2, t2⟩ := trodAll_cons t1
  obtain ⟨rfl, rfl, rfl⟩ := trodAll_nil t2
  obtain rfl : args = #[v0, v1, v2] := by cases args; simp_all
  obtain ⟨rfl, rfl⟩ := trodVars_none hV
  have lt0 : ∀ x ∈ pp0, x.block < W.heap.size := by obtain ⟨m, hm⟩ := h0; exact DataW.trod_lt m _ _ _ hm
  obtain ⟨x0, rfl⟩ := fr29 (hval 0 29 v0 rfl rfl) h0
  have lt1 : ∀ x ∈ pp1, x.block < W.heap.size := by obtain ⟨m, hm⟩ := h1; exact DataW.trod_lt m _ _ _ hm
  obtain ⟨s1, x1, rfl, r1⟩ := fr23 (hval 1 23 v1 rfl rfl) h1
  have lt2 : ∀ x ∈ pp2, x.block < W.heap.size := by obtain ⟨m, hm⟩ := h2; exact DataW.trod_lt m _ _ _ hm
  obtain ⟨s2, x2, rfl, r2⟩ := fr69 (hval 2 69 v2 rfl rfl) h2
  clear hA0 hval0
  refine (nandPlays_ok (g := x0) r1 r2).calls.mono fun e W' ⟨v, he, hv, bel⟩ => ?_
  subst he
  subst hv
  exact ⟨_, rfl, _, _, _, [], _, [], hW', trodAll_mk1 (shut_bool Try.underlying4 _), (trodAll_cons_mk (Below.trod laidOut (by kernel_rfl) (of_decide_eq_true (by kernel_rfl)) h0 bel lt0) (trodAll_cons_mk (Below.trod laidOut (by kernel_rfl) (of_decide_eq_true (by kernel_rfl)) h1 bel lt1) (trodAll_cons_mk (Below.trod laidOut (by kernel_rfl) (of_decide_eq_true (by kernel_rfl)) h2 bel lt2) trodAll_mk0))), rfl, bel.frame _, fun h => by cases h⟩
theorem b1 : (Rows.nandPlaysRow.inPlace == Try.prog.inPlace 15) = true := by kernel_rfl
theorem b2 : (Rows.nandPlaysRow.unfollowed == Try.prog.unfollowed 15) = true := by kernel_rfl
theorem b3 : (Rows.nandPlaysRow.recurses == Try.prog.recurses 15) = true := by kernel_rfl
theorem b4 : (Rows.nandPlaysRow.named == Try.prog.varsNamed 15) = true := by kernel_rfl
theorem rest : restFacts Try.prog 15 Try.f15 Rows.nandPlaysSpec Rows.nandPlaysRow = true := by kernel_rfl
theorem closed : joinedFacts Try.prog 15 Try.f15 Rows.nandPlaysSpec Rows.nandPlaysRow = true :=
  joined_of p1 p2 p3 p4 (by rw [p5]; rfl) p6 p7 (by rw [p8]; rfl) p9 b1 b2 b3 b4 rest
theorem over : Rows.nandPlaysRow.holds Try.pinned (OpenSpec.ofChange Rows.nandPlaysSpec) :=
  OpenClaim.holds_of_wide 15 Try.f15 rfl rfl rfl rfl rfl rfl rfl ⟨rfl, rfl, rfl, rfl, rfl⟩ rfl rfl rfl rfl rfl (by kernel_rfl) Try.func15 closed
    (of_decide_eq_true (by kernel_rfl)) (by unfold Func.isWrapper; first | (rw [if_pos (by decide +kernel)]; kernel_rfl) | (rw [if_neg (by decide +kernel)]; exact ⟨rfl, rfl⟩))
    (fun os started H enc _ => lifted os started H enc)
/-- The statement. -/
theorem proved : Rows.NandPlaysSaid := over
#print axioms proved
end Go.Proofs.Ytppfnkedbpmliaa.nandPlays
