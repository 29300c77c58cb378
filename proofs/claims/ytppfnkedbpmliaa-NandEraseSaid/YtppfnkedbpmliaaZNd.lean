/- NandErase holds of the given program, for any bytes, any mask, any number: the law returns true, and what it reads is as it was. -/
import Derived.Test.YtppfnkedbpmliaaVNd
import Derived.Test.YtppfnkedbpmliaaFr
namespace Go.Proofs.Ytppfnkedbpmliaa.nandErase
open Go.ChangeShapes Go.WideShapes Go.ChangeAt Go.RowKit
open Go.ChangeMaps (open_string shut_string)
set_option linter.unusedVariables false
theorem own : ownKnob Try.prog.godebug = none := by kernel_rfl
theorem laidOut : laidOutB Try.prog = true := p1
set_option maxRecDepth 100000 in
theorem lifted (os : Os) (started : os.Started) (H : Type) (enc : TypeId × Value → H) :
    ReturnsInHanded {} Try.checked os 14 .any (Rows.nandEraseSpec.pre6 enc Try.prog Try.f14 Rows.nandEraseRow.domain false) (Rows.nandEraseSpec.post enc Try.prog Try.f14 false true false false) := by
  refine returnsInHanded_of_change (C := Try.checked) own started (by kernel_rfl) Try.func14
    (ChangeSpec.witness6 (enc := enc) (C := Try.checked) false ⟨#[], #[.slice none 0 0, .slice none 0 0, .int .i64 0], []⟩ 8 (by kernel_rfl) (by kernel_rfl) (by kernel_rfl) (by kernel_rfl)) ?_
  intro W base args ds gs before hval0 hW hcnd _
  have hval : ∀ (j : Nat) t v, Try.f14.params[j]? = some t → args[j]? = some v → Value.okWide Try.prog W .any base t v := hval0
  have hW' := hW
  obtain ⟨p, q, hA0, hV, rfl, hfz, hnd⟩ := hW
  have hA : DataW.TrodAll enc Try.prog W 0 (fun _ => true) true Try.f14.params.toList args.toList ds p := hA0
  rw [Try.params14] at hA hval
  obtain ⟨v0, vs0, d0, ds0, pp0, qq0, hargs, rfl, rfl, h0, t0⟩ := trodAll_cons hA
  obtain ⟨v1, vs1, d1, ds1, pp1, qq1, rfl, rfl, rfl, h1, t1⟩ := trodAll_cons t0
  obtain ⟨v2, vs2, d2, ds2, pp2, qq2, rfl, rfl, rfl, h2, t2⟩ := trodAll_cons t1
  obtain ⟨rfl, rfl, rfl⟩ := trodAll_nil t2
  obtain rfl : args = #[v0, v1, v2] := by cases args; simp_all
  obtain ⟨rfl, rfl⟩ := trodVars_none hV
  have lt0 : ∀ x ∈ pp0, x.block < W.heap.size := by obtain ⟨m, hm⟩ := h0; exact DataW.trod_lt m _ _ _ hm
  obtain ⟨s0, x0, rfl, r0⟩ := fr22 (hval 0 22 v0 rfl rfl) h0
  have lt1 : ∀ x ∈ pp1, x.block < W.heap.size := by obtain ⟨m, hm⟩ := h1; exact DataW.trod_lt m _ _ _ hm
  obtain ⟨s1, x1, rfl, r1⟩ := fr22 (hval 1 22 v1 rfl rfl) h1
  have lt2 : ∀ x ∈ pp2, x.block < W.heap.size := by obtain ⟨m, hm⟩ := h2; exact DataW.trod_lt m _ _ _ hm
  obtain ⟨x2, rfl, r2⟩ := fr3 (hval 2 3 v2 rfl rfl) h2
  clear hA0 hval0
  refine (nandErase_ok (nn := x2) r0 r1).calls.mono fun e W' ⟨v, he, hv, bel⟩ => ?_
  subst he
  subst hv
  exact ⟨_, rfl, _, _, _, [], _, [], hW', trodAll_mk1 (shut_bool Try.underlying4 _), (trodAll_cons_mk (Below.trod laidOut (by kernel_rfl) (of_decide_eq_true (by kernel_rfl)) h0 bel lt0) (trodAll_cons_mk (Below.trod laidOut (by kernel_rfl) (of_decide_eq_true (by kernel_rfl)) h1 bel lt1) (trodAll_cons_mk (Below.trod laidOut (by kernel_rfl) (of_decide_eq_true (by kernel_rfl)) h2 bel lt2) trodAll_mk0))), rfl, bel.frame _, fun h => by cases h⟩
theorem b1 : (Rows.nandEraseRow.inPlace == Try.prog.inPlace 14) = true := by kernel_rfl
theorem b2 : (Rows.nandEraseRow.unfollowed == Try.prog.unfollowed 14) = true := by kernel_rfl
theorem b3 : (Rows.nandEraseRow.recurses == Try.prog.recurses 14) = true := by kernel_rfl
theorem b4 : (Rows.nandEraseRow.named == Try.prog.varsNamed 14) = true := by kernel_rfl
theorem rest : restFacts Try.prog 14 Try.f14 Rows.nandEraseSpec Rows.nandEraseRow = true := by kernel_rfl
theorem closed : joinedFacts Try.prog 14 Try.f14 Rows.nandEraseSpec Rows.nandEraseRow = true :=
  joined_of p1 p2 p3 p4 (by rw [p5]; rfl) p6 p7 (by rw [p8]; rfl) p9 b1 b2 b3 b4 rest
theorem over : Rows.nandEraseRow.holds Try.pinned (OpenSpec.ofChange Rows.nandEraseSpec) :=
  OpenClaim.holds_of_wide 14 Try.f14 rfl rfl rfl rfl rfl rfl rfl ⟨rfl, rfl, rfl, rfl, rfl⟩ rfl rfl rfl rfl rfl (by kernel_rfl) Try.func14 closed
    (of_decide_eq_true (by kernel_rfl)) (by unfold Func.isWrapper; first | (rw [if_pos (by decide +kernel)]; kernel_rfl) | (rw [if_neg (by decide +kernel)]; exact ⟨rfl, rfl⟩))
    (fun os started H enc _ => lifted os started H enc)
/-- The statement. -/
theorem proved : Rows.NandEraseSaid := over
#print axioms proved
end Go.Proofs.Ytppfnkedbpmliaa.nandErase
