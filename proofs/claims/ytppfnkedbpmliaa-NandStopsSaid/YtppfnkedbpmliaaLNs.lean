/- Nothing is proved here but readings: what the loaded code of some functions reads as. Written by a program of this work (wip/gen). -/
import Derived.Test.YtppfnkedbpmliaaR0
set_option linter.unusedVariables false
namespace Go.Proofs.Ytppfnkedbpmliaa
open Go.Rk
/-! 12: ramekinlaw7.NandStops -/
def a12 : Ann := { reg := [(45, [(128, (.one .b))]), (27, [(72, (.one .b))]), (10, [(36, (.one .b))])], cnd := [(47, [(7, (.one (.i .i64))), (8, (.one (.i .i64))), (9, (.one (.i .i64))), (11, (.one (.i .i64))), (12, (.one (.i .i64))), (47, (.one .b))]), (72, [(13, (.one (.i .i64)))]), (54, [(7, (.one (.i .i64))), (8, (.one (.i .i64))), (9, (.one (.i .i64))), (11, (.one (.i .i64)))]), (63, [(11, (.one (.i .i64)))]), (79, [(7, (.one (.i .i64))), (9, (.one (.i .i64))), (11, (.one (.i .i64))), (12, (.one (.i .i64)))]), (83, [(7, (.one (.i .i64))), (9, (.one (.i .i64))), (11, (.one (.i .i64)))]), (90, [(11, (.one (.i .i64)))]), (93, [(9, (.one (.i .i64))), (12, (.one (.i .i64))), (11, (.one (.i .i64)))]), (97, [(9, (.one (.i .i64)))]), (105, [(11, (.one (.i .i64))), (12, (.one (.i .i64)))]), (109, [(11, (.one (.i .i64)))]), (41, [(11, (.one (.i .i64)))])], lop := [(10, [(7, (.one (.i .i64))), (8, (.one (.i .i64))), (9, (.one (.i .i64))), (10, (.one (.i .i64)))])], blk := [(0, []), (1, [(7, (.one (.i .i64))), (8, (.one (.i .i64))), (9, (.one (.i .i64)))])], prm := [] }
def T12 (k0 : Int) (kinds1 : Sl) (w : World) (K : Value → World → Prop) : Prop :=
 Ok Try.prog 37 [] w fun v1 w2 =>
 decB v1 fun b3 =>
 cond (!b3)
 (K (.bool false) w2)
 (Ok Try.prog 39 [(.agg #[(.int .i64 6), (.int .i64 8), (.int .i64 8)]), (.slice none 0 0)] w2 fun v4 w5 =>
 dec2 v4 fun v6 v7 =>
 decP v6 fun p8 =>
 decI .i64 v7 fun n9 =>
 cond (n9 != 0)
 (K (.bool false) w5)
 (Ok Try.prog 38 [(.int .i64 k0), (.int .i64 12)] w5 fun v10 w11 =>
 decI .i64 v10 fun n12 =>
 Ok Try.prog 49 [(.pointer p8), (.int .i64 (IntKind.wrap .i64 ((1 : Int) + n12))), (.slice none 0 0)] w11 fun v13 w14 =>
 joinT (D := Unit) (fun k15 =>
 loopT (D := Int × Int × Int × Int × Unit) (fun d18 w19 k20 => ∀ _ : Regs,
 joinT (D := Bool × Unit) (fun k21 =>
 cond (decide (d18.2.2.2.1 < ((kinds1.l : Nat) : Int)))
 (k21 ((decide (d18.2.2.2.1 < 40)), ()) w19)
 (k21 (false, ()) w19))
 fun d22 w23 => ∀ _ : Regs,
 cond d22.1
 (joinT (D := Int × Int × Int × Unit) (fun k24 =>
 joinT (D := Int × Unit) (fun k27 =>
 cond (d18.1 == (IntKind.wrap .i64 ((1 : Int) + n12)))
 (k27 (8, ()) w23)
 (k27 (0, ()) w23))
 fun d28 w29 => ∀ _ : Regs,
 ix kinds1.a kinds1.l d18.2.2.2.1 fun q30 =>
 rdI .i64 w29 (q30.add (d18.2.2.2.1.toNat * 1)) fun n31 =>
 Ok Try.prog 38 [(.int .i64 n31), (.int .i64 5)] w29 fun v32 w33 =>
 decI .i64 v32 fun n34 =>
 joinT (D := Int × Int × Int × Int × Int × Bool × Unit) (fun k35 =>
 cond (n34 == 0)
 (k35 (d18.1, d18.2.1, d18.2.2.1, d28.1, 0, (n34 == 0), ()) w33)
 (k35 (d18.1, d18.2.1, d18.2.2.1, d28.1, 0, (n34 == 1), ()) w33))
 fun d36 w37 => ∀ _ : Regs,
 joinT (D := Int × Int × Int × Int × Int × Bool × Unit) (fun k38 =>
 cond d36.2.2.2.2.2.1
 (cond (decide (d36.2.1 ≥ 8))
 (k24 (d36.1, d36.2.1, d36.2.2.1, ()) w37)
 (joinT (D := Int × Int × Int × Int × Unit) (fun k41 =>
 cond (decide (d36.1 < (IntKind.wrap .i64 ((1 : Int) + n12))))
 (joinT (D := Int × Unit) (fun k44 =>
 cond ((IntKind.wrap .i64 (d36.1 + 1)) == (IntKind.wrap .i64 ((1 : Int) + n12)))
 (k44 (8, ()) w37)
 (k44 (d36.2.2.2.1, ()) w37))
 fun d45 w46 => ∀ _ : Regs,
 k41 ((IntKind.wrap .i64 (d36.1 + 1)), (IntKind.wrap .i64 (d36.2.1 + 1)), (IntKind.wrap .i64 (d36.2.2.1 + 1)), d45.1, ()) w46)
 (k41 (d36.1, d36.2.1, d36.2.2.1, d36.2.2.2.1, ()) w37))
 fun d42 w43 => ∀ _ : Regs,
 joinT (D := Bool × Unit) (fun k47 =>
 cond (d42.2.2.2.1 == 8)
 (k47 ((decide (d42.1 < (IntKind.wrap .i64 ((1 : Int) + n12)))), ()) w43)
 (k47 (false, ()) w43))
 fun d48 w49 => ∀ _ : Regs,
 joinT (D := Int × Unit) (fun k50 =>
 cond d48.1
 (k50 (d42.2.1, ()) w49)
 (k50 ((IntKind.wrap .i64 (d42.2.1 - 1)), ()) w49))
 fun d51 w52 => ∀ _ : Regs,
 (0 : Int) ≤ 60 ∧ (60 : Int) ≤ 60 ∧ ((1 : Nat) : Int) * 60 ≤ 281474976710656 ∧ (60 : Int) ≤ 281474976710656 ∧
 al w52 (.cells (zeroRow #[(.int .u8 0)] (60 * 1)) 5) fun p53 w54 =>
 Ok Try.prog 45 [(.pointer p8), (.int .i64 0), (.int .i64 0), (.int .i64 (if 0 > d51.1 then 0 else d51.1)), (.slice (some p53) 60 60)] w54 fun v55 w56 =>
 decI .i64 v55 fun n57 =>
 k38 (d42.1, d42.2.1, d42.2.2.1, d42.2.2.2.1, n57, d36.2.2.2.2.2.1, ()) w56))
 (joinT (D := Int × Int × Int × Int × Unit) (fun k58 =>
 cond (n34 == 2)
 (joinT (D := Int × Int × Int × Unit) (fun k61 =>
 cond (decide (d36.1 < (IntKind.wrap .i64 ((1 : Int) + n12))))
 (joinT (D := Int × Unit) (fun k64 =>
 cond ((IntKind.wrap .i64 (d36.1 + 1)) == (IntKind.wrap .i64 ((1 : Int) + n12)))
 (k64 (8, ()) w37)
 (k64 (d36.2.2.2.1, ()) w37))
 fun d65 w66 => ∀ _ : Regs,
 k61 ((IntKind.wrap .i64 (d36.1 + 1)), (IntKind.wrap .i64 (d36.2.2.1 + 1)), d65.1, ()) w66)
 (k61 (d36.1, d36.2.2.1, d36.2.2.2.1, ()) w37))
 fun d62 w63 => ∀ _ : Regs,
 Ok Try.prog 48 [(.pointer p8), (.int .i64 3), (.int .i64 3)] w63 fun v67 w68 =>
 decI .i64 v67 fun n69 =>
 k58 (d62.1, d62.2.1, d62.2.2.1, n69, ()) w68)
 (joinT (D := Int × Int × Int × Unit) (fun k70 =>
 cond (n34 == 3)
 (joinT (D := Int × Unit) (fun k73 =>
 cond (decide (d36.1 < (IntKind.wrap .i64 ((1 : Int) + n12))))
 (k73 ((IntKind.wrap .i64 (d36.2.2.1 + 1)), ()) w37)
 (k73 (d36.2.2.1, ()) w37))
 fun d74 w75 => ∀ _ : Regs,
 Ok Try.prog 46 [(.pointer p8), (.int .i64 0), (.int .i64 0), (.int .i64 7)] w75 fun v76 w77 =>
 dec2 v76 fun v78 v79 =>
 decS v78 fun s80 =>
 decI .i64 v79 fun n81 =>
 k70 (d74.1, n81, d36.2.2.2.1, ()) w77)
 (joinT (D := Int × Int × Unit) (fun k82 =>
 cond (n34 == 4)
 (joinT (D := Int × Unit) (fun k85 =>
 cond (decide (d36.1 < (IntKind.wrap .i64 ((1 : Int) + n12))))
 (k85 (1, ()) w37)
 (k85 (d36.2.2.2.1, ()) w37))
 fun d86 w87 => ∀ _ : Regs,
 Ok Try.prog 48 [(.pointer p8), (.int .i64 9), (.int .i64 9)] w87 fun v88 w89 =>
 decI .i64 v88 fun n90 =>
 k82 (d86.1, n90, ()) w89)
 (k82 (d36.2.2.2.1, d36.2.2.2.2.1, ()) w37))
 fun d83 w84 => ∀ _ : Regs,
 k70 (d36.2.2.1, d83.2.1, d83.1, ()) w84))
 fun d71 w72 => ∀ _ : Regs,
 k58 (d36.1, d71.1, d71.2.2.1, d71.2.1, ()) w72))
 fun d59 w60 => ∀ _ : Regs,
 k38 (d59.1, d36.2.1, d59.2.1, d59.2.2.1, d59.2.2.2.1, d36.2.2.2.2.2.1, ()) w60))
 fun d39 w40 => ∀ _ : Regs,
 joinT (D := Bool × Unit) (fun k91 =>
 cond (d39.2.2.2.2.1 != d39.2.2.2.1)
 (k91 (true, ()) w40)
 (Ok Try.prog 50 [(.pointer p8)] w40 fun v94 w95 =>
 decB v94 fun b96 =>
 cond (!(b96 == (d39.1 == (IntKind.wrap .i64 ((1 : Int) + n12)))))
 (k91 (true, ()) w95)
 (Ok Try.prog 44 [(.pointer p8)] w95 fun v97 w98 =>
 decI .i64 v97 fun n99 =>
 k91 ((n99 != d39.2.2.1), ()) w98)))
 fun d92 w93 => ∀ _ : Regs,
 cond d92.1
 (K (.bool false) w93)
 (k24 (d39.1, d39.2.1, d39.2.2.1, ()) w93))
 fun d25 w26 => ∀ _ : Regs,
 k20 (d25.1, d25.2.1, d25.2.2.1, (IntKind.wrap .i64 (d18.2.2.2.1 + 1)), ()) w26)
 (k15 () w23))
 (0, 0, 0, 0, ()) w14)
 fun d16 w17 => ∀ _ : Regs,
 K (.bool true) w17))
theorem e12 (k0 : Int) (kinds1 : Sl) (w : World) (K : Value → World → Prop) : exF Try.prog a12 Try.f12 [(.int .i64 k0), (.slice kinds1.a kinds1.l kinds1.c)] w K = T12 k0 kinds1 w K := by kernel_rfl
theorem b12 : hasB Try.prog 12 = true := by kernel_rfl
theorem f12 : fitsF Try.f12 2 = true := by kernel_rfl
theorem u12 {w : World} {K : Value → World → Prop} {k0 : Int} {kinds1 : Sl} (h : T12 k0 kinds1 w K) : Ok Try.prog 12 [(.int .i64 k0), (.slice kinds1.a kinds1.l kinds1.c)] w K :=
  Ok_eq a12 2 mixed Try.func12 b12 f12 rfl (e12 k0 kinds1 w K) h

end Go.Proofs.Ytppfnkedbpmliaa
