/- What a row's builder asks of the loaded program, in parts (each is run by itself). -/
import Derived.Test.YtppfnkedbpmliaaRows
import Derived.WalkKit
import Derived.ProofKit
set_option linter.unusedVariables false
namespace Go.Proofs.Ytppfnkedbpmliaa
open Go
def restFacts (P : Program) (f : FuncId) (fn : Func) (s : ChangeSpec) (c : OpenClaim) : Bool :=
  c.wf (OpenSpec.ofChange s) && fn.params.all (P.readableRec ·) && namedTie P c.named s.vars && (c.stops == []) && (c.knobs == []) &&
  (c.maps == (fn.params.toList ++ s.plain.varTypes P).any (P.mapsRec ·)) && (c.ifaces == (fn.params.toList ++ s.plain.varTypes P).any (P.ifacesRec ·)) && (c.mapsOut == P.mapsAmong fn.resultTypes.toList) &&
  (c.loops == (fn.params.toList ++ s.plain.varTypes P).any (P.loopsFrom ·)) && (c.wideKeys == (fn.params.toList ++ s.plain.varTypes P ++ fn.resultTypes.toList).any (P.wideKeysFrom ·)) &&
  s.vars.all (P.varReadable ·) && fn.resultTypes.all (fun t => P.readableRec t && decide (t < P.types.size)) && (c.ifacesOut == fn.resultTypes.toList.any (P.ifacesRec ·)) && (c.loopsOut == fn.resultTypes.toList.any (P.loopsFrom ·)) &&
  c.shortTexts.isNone && (c.kinds == (if c.domain.isEmpty then [] else fn.params.toList.map fun t => match P.underlying t with | some (.int k) => some k | _ => none)) && (c.pinned == c.pinnedBy) &&
  (c.veiled == (fn.params.toList ++ s.plain.varTypes P ++ fn.resultTypes.toList).any (P.veiledRec ·)) && c.veiledFits P fn.params.toList (fn.params.toList ++ s.plain.varTypes P ++ fn.resultTypes.toList)
theorem joined_of {P : Program} {f : FuncId} {fn : Func} {s : ChangeSpec} {c : OpenClaim} (a1 : laidOutB P = true) (a2 : mapsRowed P = true) (a3 : (P.stops == []) = true) (a4 : (P.stopKnobs == []) = true) (a5 : (c.plainKeys == P.plainKeys) = true)
    (a6 : P.stopsHeard = true) (a7 : P.mayEnter = true) (a8 : (c.lifted == P.liftsFinal) = true) (a9 : (P.make == some c.make) = true)
    (b1 : (c.inPlace == P.inPlace f) = true) (b2 : (c.unfollowed == P.unfollowed f) = true) (b3 : (c.recurses == P.recurses f) = true) (b4 : (c.named == P.varsNamed f) = true) (r : restFacts P f fn s c = true) : joinedFacts P f fn s c = true := by
  simp only [restFacts, Bool.and_eq_true] at r
  obtain ⟨⟨⟨⟨⟨⟨⟨⟨⟨⟨⟨⟨⟨⟨⟨⟨⟨⟨r1, r2⟩, r3⟩, r4⟩, r5⟩, r6⟩, r7⟩, r8⟩, r9⟩, r10⟩, r11⟩, r12⟩, r13⟩, r14⟩, r15⟩, r16⟩, r17⟩, r18⟩, r19⟩ := r
  simp only [joinedFacts, Bool.and_eq_true]
  exact ⟨⟨⟨⟨⟨⟨⟨⟨⟨⟨⟨⟨⟨⟨⟨⟨⟨⟨⟨⟨⟨⟨⟨⟨⟨⟨⟨⟨⟨⟨⟨r1, a1⟩, a2⟩, r2⟩, r3⟩, r4⟩, a3⟩, r5⟩, a4⟩, b1⟩, b2⟩, b3⟩, b4⟩, r6⟩, r7⟩, r8⟩, r9⟩, r10⟩, r11⟩, r12⟩, r13⟩, r14⟩, a5⟩, r15⟩, a6⟩, a7⟩, a8⟩, a9⟩, r16⟩, r17⟩, r18⟩, r19⟩
theorem p1 : laidOutB Try.prog = true := by kernel_rfl
theorem p2 : mapsRowed Try.prog = true := by kernel_rfl
theorem p3 : (Try.prog.stops == []) = true := by kernel_rfl
theorem p4 : (Try.prog.stopKnobs == []) = true := by kernel_rfl
theorem p5 : Try.prog.plainKeys = true := by kernel_rfl
theorem p6 : Try.prog.stopsHeard = true := by kernel_rfl
theorem p7 : Try.prog.mayEnter = true := by kernel_rfl
theorem p8 : Try.prog.liftsFinal = false := by kernel_rfl
theorem p9 : (Try.prog.make == some Rows.bitsPlacesRow.make) = true := by kernel_rfl
end Go.Proofs.Ytppfnkedbpmliaa
