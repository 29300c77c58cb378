/- Nothing is proved here but readings: what the loaded code of some functions reads as. Written by a program of this work (wip/gen). -/
import Derived.Test.YtppfnkedbpmliaaR0
set_option linter.unusedVariables false
namespace Go.Proofs.Ytppfnkedbpmliaa
open Go.Rk
/-! 3: ramekinlaw6.BitsPlaces -/
def a3 : Ann := { reg := [(11, [(6, (.one .b))]), (3, [(19, (.one .b))])], cnd := [], lop := [(7, [(7, (.one .s)), (8, (.one (.i .i64)))])], blk := [(0, [(7, (.one .s))])], prm := [] }
def T3 (b0 : Sl) (l1 : Sl) (by2 : Int) (w : World) (K : Value → World → Prop) : Prop :=
 Ok Try.prog 22 [] w fun v1 w2 =>
 decB v1 fun b3 =>
 cond (!b3)
 (K (.bool false) w2)
 (joinT (D := Bool × Unit) (fun k4 =>
 cond (decide (((b0.l : Nat) : Int) > 60))
 (k4 (true, ()) w2)
 (k4 ((decide (((l1.l : Nat) : Int) > 30)), ()) w2))
 fun d5 w6 => ∀ _ : Regs,
 cond d5.1
 (K (.bool true) w6)
 (joinT (D := Sl × Unit) (fun k7 =>
 loopT (D := Sl × Int × Unit) (fun d10 w11 k12 => ∀ _ : Regs,
 cond (decide (d10.2.1 < ((l1.l : Nat) : Int)))
 (Ok Try.prog 23 [(.int .i64 by2), (.int .i64 ((l1.l : Nat) : Int))] w11 fun v13 w14 =>
 decI .i64 v13 fun n15 =>
 (((l1.l : Nat) : Int) ≠ 0) ∧
 ix l1.a l1.l (Int.tmod (IntKind.wrap .i64 (d10.2.1 + n15)) ((l1.l : Nat) : Int)) fun q16 =>
 rdI .i64 w14 (q16.add ((Int.tmod (IntKind.wrap .i64 (d10.2.1 + n15)) ((l1.l : Nat) : Int)).toNat * 1)) fun n17 =>
 al w14 (.cells #[(.int .i64 n17)] 3) fun p18 w19 =>
 raw Try.prog (Builtin.append_ #[23, 23] 23 #[(.slice d10.1.a d10.1.l d10.1.c), (.slice (some p18) 1 1)]) w19 fun v20 w21 =>
 decS v20 fun s22 =>
 k12 (s22, (IntKind.wrap .i64 (d10.2.1 + 1)), ()) w21)
 (k7 (d10.1, ()) w11))
 (⟨none, 0, 0⟩, 0, ()) w6)
 fun d8 w9 => ∀ _ : Regs,
 Ok Try.prog 23 [(.int .i64 by2), (.int .i64 99)] w9 fun v23 w24 =>
 decI .i64 v23 fun n25 =>
 al w24 (.cells #[(.int .i64 (-1)), (.int .i64 (IntKind.wrap .i64 ((8 : Int) * ((b0.l : Nat) : Int)))), (.int .i64 (IntKind.wrap .i64 ((IntKind.wrap .i64 ((8 : Int) * ((b0.l : Nat) : Int))) + n25))), (.int .i64 9223372036854775807), (.int .i64 (-9223372036854775808))] 3) fun p26 w27 =>
 joinT (D := Bool × Unit) (fun k28 =>
 Ok Try.prog 24 [(.slice b0.a b0.l b0.c), (.slice d8.1.a d8.1.l d8.1.c)] w27.drew fun v31 w32 =>
 decS v31 fun s33 =>
 toStr Try.prog 22 9 (.slice s33.a s33.l s33.c) w32 fun str34 =>
 Ok Try.prog 24 [(.slice b0.a b0.l b0.c), (.slice l1.a l1.l l1.c)] w32 fun v35 w36 =>
 decS v35 fun s37 =>
 toStr Try.prog 22 9 (.slice s33.a s33.l s33.c) w36 fun str38 =>
 ((.string str38) : Value) = (.string str34) ∧
 toStr Try.prog 22 9 (.slice s37.a s37.l s37.c) w36 fun str39 =>
 cond (ByteArray.toList str34 == ByteArray.toList str39)
 (toStr Try.prog 22 9 (.slice b0.a b0.l b0.c) w36 fun str40 =>
 al w36 (.cells #[] 3) fun p41 w42 =>
 toStr Try.prog 22 9 (.slice b0.a b0.l b0.c) w42 fun str43 =>
 ((.string str43) : Value) = (.string str40) ∧
 raw Try.prog (Builtin.append_ #[23, 23] 23 #[(.slice (some p41) 0 0), (.slice l1.a l1.l l1.c)]) w42 fun v44 w45 =>
 decS v44 fun s46 =>
 toStr Try.prog 22 9 (.slice b0.a b0.l b0.c) w45 fun str47 =>
 ((.string str47) : Value) = (.string str40) ∧
 raw Try.prog (Builtin.append_ #[23, 23] 23 #[(.slice s46.a s46.l s46.c), (.slice l1.a l1.l l1.c)]) w45 fun v48 w49 =>
 decS v48 fun s50 =>
 toStr Try.prog 22 9 (.slice b0.a b0.l b0.c) w49 fun str51 =>
 ((.string str51) : Value) = (.string str40) ∧
 Ok Try.prog 24 [(.slice b0.a b0.l b0.c), (.slice s50.a s50.l s50.c)] w49 fun v52 w53 =>
 decS v52 fun s54 =>
 toStr Try.prog 22 9 (.slice b0.a b0.l b0.c) w53 fun str55 =>
 ((.string str55) : Value) = (.string str40) ∧
 toStr Try.prog 22 9 (.slice s54.a s54.l s54.c) w53 fun str56 =>
 cond (ByteArray.toList str56 == ByteArray.toList str40)
 (toStr Try.prog 22 9 (.slice b0.a b0.l b0.c) w53 fun str57 =>
 Ok Try.prog 24 [(.slice b0.a b0.l b0.c), (.slice (some p26) 5 5)] w53 fun v58 w59 =>
 decS v58 fun s60 =>
 toStr Try.prog 22 9 (.slice b0.a b0.l b0.c) w59 fun str61 =>
 ((.string str61) : Value) = (.string str57) ∧
 toStr Try.prog 22 9 (.slice s60.a s60.l s60.c) w59 fun str62 =>
 k28 ((ByteArray.toList str62 == ByteArray.toList str57), ()) w59)
 (k28 (false, ()) w53))
 (k28 (false, ()) w36))
 fun d29 w30 => ∀ _ : Regs,
 K (.bool d29.1) w30))
theorem e3 (b0 : Sl) (l1 : Sl) (by2 : Int) (w : World) (K : Value → World → Prop) : exF Try.prog a3 Try.f3 [(.slice b0.a b0.l b0.c), (.slice l1.a l1.l l1.c), (.int .i64 by2)] w K = T3 b0 l1 by2 w K := by kernel_rfl
theorem b3 : hasB Try.prog 3 = true := by kernel_rfl
theorem f3 : fitsF Try.f3 3 = true := by kernel_rfl
theorem u3 {w : World} {K : Value → World → Prop} {b0 : Sl} {l1 : Sl} {by2 : Int} (h : T3 b0 l1 by2 w K) : Ok Try.prog 3 [(.slice b0.a b0.l b0.c), (.slice l1.a l1.l l1.c), (.int .i64 by2)] w K :=
  Ok_eq a3 3 mixed Try.func3 b3 f3 rfl (e3 b0 l1 by2 w K) h

end Go.Proofs.Ytppfnkedbpmliaa
