/- NandNoise holds of the given program, for any bytes, any places, any page: the law returns true, and what it reads is as it was. -/
import Derived.Test.YtppfnkedbpmliaaVNa
import Derived.Test.YtppfnkedbpmliaaFr
namespace Go.Proofs.Ytppfnkedbpmliaa.nandNoise
open Go.ChangeShapes Go.WideShapes Go.ChangeAt Go.RowKit
open Go.ChangeMaps (open_string shut_string)
set_option linter.unusedVariables false
theorem own : ownKnob Try.prog.godebug = none := by kernel_rfl
theorem laidOut : laidOutB Try.prog = true := p1
set_option maxRecDepth 100000 in
theorem lifted (os : Os) (started : os.Started) (H : Type) (enc : TypeId × Value → H) :
    ReturnsInHanded {} Try.checked os 9 .any (Rows.nandNoiseSpec.pre6 enc Try.prog Try.f9 Rows.nandNoiseRow.domain false) (Rows.nandNoiseSpec.post enc Try.prog Try.f9 false true false false) := by
  refine returnsInHanded_of_change (C := Try.checked) own started (by kernel_rfl) Try.func9
    (ChangeSpec.witness6 (enc := enc) (C := Try.checked) false ⟨#[], #[.slice none 0 0, .slice none 0 0, .slice none 0 0, .int .i64 0], []⟩ 8 (by kernel_rfl) (by kernel_rfl) (by kernel_rfl) (by kernel_rfl)) ?_
  intro W base args ds gs before hval0 hW hcnd _
  have hval : ∀ (j : Nat) t v, Try.f9.params[j]? = some t → args[j]? = some v → Value.okWide Try.prog W .any base t v := hval0
  have hW' := hW
  obtain ⟨p, q, hA0, hV, rfl, hfz, hnd⟩ := hW
  have hA : DataW.TrodAll enc Try.prog W 0 (fun _ => true) true Try.f9.params.toList args.toList ds p := hA0
  rw [Try.params9] at hA hval
  obtain ⟨v0, vs0, d0, ds0, pp0, qq0, hargs, rfl, rfl, h0, t0⟩ := trodAll_cons hA
  obtain ⟨v1, vs1, d1, ds1, pp1, qq1, rfl, rfl, rfl, h1, t1⟩ := trodAll_cons t0
  obtain ⟨v2, vs2, d2, ds2, pp2, qq2, rfl, rfl, rfl, h2, t2⟩ := trodAll_cons t1
  obtain ⟨v3, vs3, d3, ds3, pp3, qq3, rfl, rfl, rfl, h3, t3⟩ := trodAll_cons t2
  obtain ⟨rfl, rfl, rfl⟩ := trodAll_nil t3
  obtain rfl : args = #[v0, v1, v2, v3] := by cases args; simp_all
  obtain ⟨rfl, rfl⟩ := trodVars_none hV
  have lt0 : ∀ x ∈ pp0, x.block < W.heap.size := by obtain ⟨m, hm⟩ := h0; exact DataW.trod_lt m _ _ _ hm
  obtain ⟨s0, x0, rfl, r0⟩ := fr22 (hval 0 22 v0 rfl rfl) h0
  have lt1 : ∀ x ∈ pp1, x.block < W.heap.size := by obtain ⟨m, hm⟩ := h1; exact DataW.trod_lt m _ _ _ hm
  obtain ⟨s1, x1, rfl, r1, b1⟩ := fr23b (hval 1 23 v1 rfl rfl) h1
  have lt2 : ∀ x ∈ pp2, x.block < W.heap.size := by obtain ⟨m, hm⟩ := h2; exact DataW.trod_lt m _ _ _ hm
  obtain ⟨s2, x2, rfl, r2, b2⟩ := fr23b (hval 2 23 v2 rfl rfl) h2
  have lt3 : ∀ x ∈ pp3, x.block < W.heap.size := by obtain ⟨m, hm⟩ := h3; exact DataW.trod_lt m _ _ _ hm
  obtain ⟨x3, rfl, r3⟩ := fr3 (hval 3 3 v3 rfl rfl) h3
  clear hA0 hval0
  refine (nandNoise_ok (page := x3) r0 r1 r2 b1 b2).calls.mono fun e W' ⟨v, he, hv, bel⟩ => ?_
  subst he
  subst hv
  exact ⟨_, rfl, _, _, _, [], _, [], hW', trodAll_mk1 (shut_bool Try.underlying4 _), (trodAll_cons_mk (Below.trod laidOut (by kernel_rfl) (of_decide_eq_true (by kernel_rfl)) h0 bel lt0) (trodAll_cons_mk (Below.trod laidOut (by kernel_rfl) (of_decide_eq_true (by kernel_rfl)) h1 bel lt1) (trodAll_cons_mk (Below.trod laidOut (by kernel_rfl) (of_decide_eq_true (by kernel_rfl)) h2 bel lt2) (trodAll_cons_mk (Below.trod laidOut (by kernel_rfl) (of_decide_eq_true (by kernel_rfl)) h3 bel lt3) trodAll_mk0)))), rfl, bel.frame _, fun h => by cases h⟩
theorem b1 : (Rows.nandNoiseRow.inPlace == Try.prog.inPlace 9) = true := by kernel_rfl
theorem b2 : (Rows.nandNoiseRow.unfollowed == Try.prog.unfollowed 9) = true := by kernel_rfl
theorem b3 : (Rows.nandNoiseRow.recurses == Try.prog.recurses 9) = true := by kernel_rfl
theorem b4 : (Rows.nandNoiseRow.named == Try.prog.varsNamed 9) = true := by kernel_rfl
theorem rest : restFacts Try.prog 9 Try.f9 Rows.nandNoiseSpec Rows.nandNoiseRow = true := by kernel_rfl
theorem closed : joinedFacts Try.prog 9 Try.f9 Rows.nandNoiseSpec Rows.nandNoiseRow = true :=
  joined_of p1 p2 p3 p4 (by rw [p5]; rfl) p6 p7 (by rw [p8]; rfl) p9 b1 b2 b3 b4 rest
theorem over : Rows.nandNoiseRow.holds Try.pinned (OpenSpec.ofChange Rows.nandNoiseSpec) :=
  OpenClaim.holds_of_wide 9 Try.f9 rfl rfl rfl rfl rfl rfl rfl ⟨rfl, rfl, rfl, rfl, rfl⟩ rfl rfl rfl rfl rfl (by kernel_rfl) Try.func9 closed
    (of_decide_eq_true (by kernel_rfl)) (by unfold Func.isWrapper; first | (rw [if_pos (by decide +kernel)]; kernel_rfl) | (rw [if_neg (by decide +kernel)]; exact ⟨rfl, rfl⟩))
    (fun os started H enc _ => lifted os started H enc)
/-- The statement. -/
theorem proved : Rows.NandNoiseSaid := over
#print axioms proved
end Go.Proofs.Ytppfnkedbpmliaa.nandNoise
