/- Nothing is proved here but readings: what the loaded code of some functions reads as. Written by a program of this work (wip/gen). -/
import Derived.Test.YtppfnkedbpmliaaR0
set_option linter.unusedVariables false
namespace Go.Proofs.Ytppfnkedbpmliaa
open Go.Rk
/-! 37: ramekinlaw7.known -/
def a37 : Ann := { reg := [(6, [(0, (.one .b))]), (2, [(16, (.one .b))])], cnd := [], lop := [], blk := [], prm := [] }
def T37  (w : World) (K : Value → World → Prop) : Prop :=
 Ok Try.prog 39 [(.agg #[(.int .i64 6), (.int .i64 8), (.int .i64 4)]), (.slice none 0 0)] w fun v1 w2 =>
 dec2 v1 fun v3 v4 =>
 decP v3 fun p5 =>
 decI .i64 v4 fun n6 =>
 joinT (D := Bool × Unit) (fun k7 =>
 cond (n6 != 0)
 (k7 (true, ()) w2)
 (k7 ((Option.isNone p5), ()) w2))
 fun d8 w9 => ∀ _ : Regs,
 cond d8.1
 (K (.bool false) w9)
 ((0 : Int) ≤ 60 ∧ (60 : Int) ≤ 60 ∧ ((1 : Nat) : Int) * 60 ≤ 281474976710656 ∧ (60 : Int) ≤ 281474976710656 ∧
 al w9 (.cells (zeroRow #[(.int .u8 0)] (60 * 1)) 5) fun p10 w11 =>
 Ok Try.prog 45 [(.pointer p5), (.int .i64 0), (.int .i64 0), (.int .i64 1), (.slice (some p10) 60 60)] w11 fun v12 w13 =>
 decI .i64 v12 fun n14 =>
 Ok Try.prog 46 [(.pointer p5), (.int .i64 0), (.int .i64 0), (.int .i64 0)] w13 fun v15 w16 =>
 dec2 v15 fun v17 v18 =>
 decS v17 fun s19 =>
 decI .i64 v18 fun n20 =>
 joinT (D := Bool × Unit) (fun k21 =>
 cond (n14 == 1)
 (cond (n20 == 0)
 (cond (((s19.l : Nat) : Int) == 60)
 (ix s19.a s19.l 0 fun q24 =>
 rdI .u8 w16 q24 fun n25 =>
 cond (n25 == 255)
 (Ok Try.prog 43 [(.pointer p5)] w16 fun v26 w27 =>
 decI .i64 v26 fun n28 =>
 k21 ((n28 == 1), ()) w27)
 (k21 (false, ()) w16))
 (k21 (false, ()) w16))
 (k21 (false, ()) w16))
 (k21 (false, ()) w16))
 fun d22 w23 => ∀ _ : Regs,
 K (.bool d22.1) w23)
theorem e37  (w : World) (K : Value → World → Prop) : exF Try.prog a37 Try.f37 [] w K = T37  w K := by kernel_rfl
theorem b37 : hasB Try.prog 37 = true := by kernel_rfl
theorem f37 : fitsF Try.f37 0 = true := by kernel_rfl
theorem u37 {w : World} {K : Value → World → Prop}  (h : T37  w K) : Ok Try.prog 37 [] w K :=
  Ok_eq a37 0 mixed Try.func37 b37 f37 rfl (e37  w K) h

/-! 39: nand.New -/
def a39 : Ann := { reg := [], cnd := [], lop := [(14, [(57, (.one (.i .i64)))]), (10, [(40, (.one (.i .i64)))]), (5, [(26, (.one (.i .i64)))])], blk := [(4, []), (2, []), (0, [])], prm := [] }
def T39 (g0 : (Int × Int × Int × Unit)) (bad1 : Sl) (w : World) (K : Value → World → Prop) : Prop :=
 al w (.cells #[(.int .i64 g0.1), (.int .i64 g0.2.1), (.int .i64 g0.2.2.1)] 29) fun p1 w2 =>
 rdI .i64 w2 p1 fun n3 =>
 rdI .i64 w2 (p1.add 1) fun n4 =>
 rdI .i64 w2 (p1.add 2) fun n5 =>
 Ok Try.prog 84 [(.agg #[(.int .i64 n3), (.int .i64 n4), (.int .i64 n5)])] w2 fun v6 w7 =>
 decB v6 fun b8 =>
 cond (!b8)
 (K (.tuple #[(.pointer none), (.int .i64 1)]) w7)
 (rdI .i64 w7.drew p1 fun n9 =>
 rdI .i64 w7.drew (p1.add 1) fun n10 =>
 rdI .i64 w7.drew (p1.add 2) fun n11 =>
 rdI .i64 w7.drew p1 fun n12 =>
 rdI .i64 w7.drew (p1.add 1) fun n13 =>
 rdI .i64 w7.drew (p1.add 2) fun n14 =>
 rdI .i64 w7.drew p1 fun n15 =>
 rdI .i64 w7.drew (p1.add 1) fun n16 =>
 rdI .i64 w7.drew (p1.add 2) fun n17 =>
 Ok Try.prog 85 [(.agg #[(.int .i64 n12), (.int .i64 n13), (.int .i64 n14)])] w7.drew fun v18 w19 =>
 decG [(.i .i64), (.i .i64), (.i .i64), .s] v18 fun g20 =>
 rdI .i64 w19 p1 fun n21 =>
 rdI .i64 w19 (p1.add 1) fun n22 =>
 rdI .i64 w19 (p1.add 2) fun n23 =>
 ((.agg #[(.int .i64 n21), (.int .i64 n22), (.int .i64 n23)]) : Value) = (.agg #[(.int .i64 n9), (.int .i64 n10), (.int .i64 n11)]) ∧
 rdI .i64 w19 p1 fun n24 =>
 rdI .i64 w19 (p1.add 1) fun n25 =>
 rdI .i64 w19 (p1.add 2) fun n26 =>
 ((.agg #[(.int .i64 n24), (.int .i64 n25), (.int .i64 n26)]) : Value) = (.agg #[(.int .i64 n15), (.int .i64 n16), (.int .i64 n17)]) ∧
 Ok Try.prog 86 [(.agg #[(.int .i64 n15), (.int .i64 n16), (.int .i64 n17)])] w19 fun v27 w28 =>
 decG [(.i .i64), (.i .i64), (.i .i64), .s] v27 fun g29 =>
 rdI .i64 w28 p1 fun n30 =>
 rdI .i64 w28 (p1.add 1) fun n31 =>
 rdI .i64 w28 (p1.add 2) fun n32 =>
 ((.agg #[(.int .i64 n30), (.int .i64 n31), (.int .i64 n32)]) : Value) = (.agg #[(.int .i64 n9), (.int .i64 n10), (.int .i64 n11)]) ∧
 al w28 (.cells #[(.int .i64 n9), (.int .i64 n10), (.int .i64 n11), (.int .i64 g20.1), (.int .i64 g20.2.1), (.int .i64 g20.2.2.1), (.slice g20.2.2.2.1.a g20.2.2.2.1.l g20.2.2.2.1.c), (.int .i64 g29.1), (.int .i64 g29.2.1), (.int .i64 g29.2.2.1), (.slice g29.2.2.2.1.a g29.2.2.2.1.l g29.2.2.2.1.c), (.slice none 0 0), (.int .i64 0), (.slice none 0 0), (.bool false), (.int .i64 0), (.int .i64 0)] 111) fun p33 w34 =>
 nn (some p33) fun p35 =>
 rdS w34 (p35.add 6) fun s36 =>
 joinT (D := Unit) (fun k37 =>
 loopT (D := Int × Unit) (fun d40 w41 k42 => ∀ _ : Regs,
 cond (decide (d40.1 < ((s36.l : Nat) : Int)))
 (nn (some p33) fun p43 =>
 rdS w41.drew (p43.add 6) fun s44 =>
 Ok Try.prog 87 [] w41.drew fun v45 w46 =>
 decS v45 fun s47 =>
 rdS w46 (p43.add 6) fun s48 =>
 ((.slice s48.a s48.l s48.c) : Value) = (.slice s44.a s44.l s44.c) ∧
 ix s44.a s44.l d40.1 fun q49 =>
 wr w46 (q49.add (d40.1.toNat * 1)) (.slice s47.a s47.l s47.c) fun w50 =>
 k42 ((IntKind.wrap .i64 (d40.1 + 1)), ()) w50)
 (k37 () w41))
 (0, ()) w34)
 fun d38 w39 => ∀ _ : Regs,
 rdI .i64 w39 p1 fun n51 =>
 joinT (D := Unit) (fun k52 =>
 loopT (D := Int × Unit) (fun d55 w56 k57 => ∀ _ : Regs,
 cond (decide (d55.1 < n51))
 (nn (some p33) fun p58 =>
 rdS w56.drew (p58.add 11) fun s59 =>
 rdI .i64 w56.drew (p1.add 1) fun n60 =>
 (0 : Int) ≤ n60 ∧ n60 ≤ n60 ∧ ((24 : Nat) : Int) * n60 ≤ 281474976710656 ∧ n60 ≤ 281474976710656 ∧
 al w56.drew (.cells (zeroRow #[(.int .i64 0), (.int .i64 0), (.bool false)] ((Int.toNat n60) * 3)) 115) fun p61 w62 =>
 rdS w62 (p58.add 11) fun s63 =>
 ((.slice s63.a s63.l s63.c) : Value) = (.slice s59.a s59.l s59.c) ∧
 al w62 (.cells #[(.slice (some p61) (Int.toNat n60) (Int.toNat n60))] 113) fun p64 w65 =>
 rdS w65 (p58.add 11) fun s66 =>
 ((.slice s66.a s66.l s66.c) : Value) = (.slice s59.a s59.l s59.c) ∧
 raw Try.prog (Builtin.append_ #[109, 109] 109 #[(.slice s59.a s59.l s59.c), (.slice (some p64) 1 1)]) w65 fun v67 w68 =>
 decS v67 fun s69 =>
 nn (some p33) fun p70 =>
 wr w68 (p70.add 11) (.slice s69.a s69.l s69.c) fun w71 =>
 k57 ((IntKind.wrap .i64 (d55.1 + 1)), ()) w71)
 (k52 () w56))
 (0, ()) w39)
 fun d53 w54 => ∀ _ : Regs,
 joinT (D := Unit) (fun k72 =>
 loopT (D := Int × Unit) (fun d75 w76 k77 => ∀ _ : Regs,
 cond (decide (d75.1 < ((bad1.l : Nat) : Int)))
 (ix bad1.a bad1.l d75.1 fun q78 =>
 rdI .i64 w76 (q78.add (d75.1.toNat * 2)) fun n79 =>
 rdI .i64 w76 ((q78.add (d75.1.toNat * 2)).add 1) fun n80 =>
 al w76 (.cells #[(.int .i64 0), (.int .i64 0)] 42) fun p81 w82 =>
 wr w82 p81 (.int .i64 n79) fun w83 =>
 wr w83 (p81.add 1) (.int .i64 n80) fun w84 =>
 ixA 2 0 (
 rdI .i64 w84 p81 fun n85 =>
 ixA 2 1 (
 rdI .i64 w84 (p81.add 1) fun n86 =>
 Ok Try.prog 88 [(.pointer (some p33)), (.int .i64 n85), (.int .i64 n86)] w84 fun v87 w88 =>
 decB v87 fun b89 =>
 cond (!b89)
 (K (.tuple #[(.pointer none), (.int .i64 1)]) w88)
 (nn (some p33) fun p90 =>
 rdS w88.drew (p90.add 11) fun s91 =>
 ixA 2 0 (
 rdI .i64 w88.drew p81 fun n92 =>
 ix s91.a s91.l n92 fun q93 =>
 rdS w88.drew (q93.add (n92.toNat * 1)) fun s94 =>
 ixA 2 1 (
 rdI .i64 w88.drew (p81.add 1) fun n95 =>
 ix s94.a s94.l n95 fun q96 =>
 wr w88.drew ((q96.add (n95.toNat * 3)).add 2) (.bool true) fun w97 =>
 k77 ((IntKind.wrap .i64 (d75.1 + 1)), ()) w97))))))
 (k72 () w76))
 (0, ()) w54)
 fun d73 w74 => ∀ _ : Regs,
 K (.tuple #[(.pointer (some p33)), (.int .i64 0)]) w74)
theorem e39 (g0 : (Int × Int × Int × Unit)) (bad1 : Sl) (w : World) (K : Value → World → Prop) : exF Try.prog a39 Try.f39 [(.agg #[(.int .i64 g0.1), (.int .i64 g0.2.1), (.int .i64 g0.2.2.1)]), (.slice bad1.a bad1.l bad1.c)] w K = T39 g0 bad1 w K := by kernel_rfl
theorem b39 : hasB Try.prog 39 = true := by kernel_rfl
theorem f39 : fitsF Try.f39 2 = true := by kernel_rfl
theorem u39 {w : World} {K : Value → World → Prop} {g0 : (Int × Int × Int × Unit)} {bad1 : Sl} (h : T39 g0 bad1 w K) : Ok Try.prog 39 [(.agg #[(.int .i64 g0.1), (.int .i64 g0.2.1), (.int .i64 g0.2.2.1)]), (.slice bad1.a bad1.l bad1.c)] w K :=
  Ok_eq a39 2 mixed Try.func39 b39 f39 rfl (e39 g0 bad1 w K) h

/-! 40: ramekinref7.New -/
def a40 : Ann := { reg := [], cnd := [], lop := [(20, [(13, (.one (.i .i64)))]), (14, [(12, (.one (.i .i64)))]), (10, [(8, (.one .s)), (9, (.one .s)), (10, (.one (.i .i64)))]), (5, [(7, (.one (.i .i64)))])], blk := [(6, []), (0, []), (2, [(8, (.one .s)), (9, (.one .s))]), (4, [])], prm := [] }
def T40 (g0 : (Int × Int × Int × Unit)) (bad1 : Sl) (w : World) (K : Value → World → Prop) : Prop :=
 al w (.cells #[(.int .i64 g0.1), (.int .i64 g0.2.1), (.int .i64 g0.2.2.1)] 29) fun p1 w2 =>
 rdI .i64 w2 p1 fun n3 =>
 rdI .i64 w2 (p1.add 1) fun n4 =>
 rdI .i64 w2 (p1.add 2) fun n5 =>
 Ok Try.prog 82 [(.agg #[(.int .i64 n3), (.int .i64 n4), (.int .i64 n5)])] w2 fun v6 w7 =>
 decB v6 fun b8 =>
 cond (!b8)
 (K (.tuple #[(.pointer none), (.int .i64 1)]) w7)
 (rdI .i64 w7 p1 fun n9 =>
 rdI .i64 w7 (p1.add 1) fun n10 =>
 rdI .i64 w7 (p1.add 2) fun n11 =>
 al w7 (.cells #[(.int .i64 n9), (.int .i64 n10), (.int .i64 n11), (.slice none 0 0), (.slice none 0 0), (.int .i64 0), (.slice none 0 0), (.bool false), (.int .i64 0), (.int .i64 0)] 119) fun p12 w13 =>
 joinT (D := Unit) (fun k14 =>
 loopT (D := Int × Unit) (fun d17 w18 k19 => ∀ _ : Regs,
 rdI .i64 w18 p1 fun n20 =>
 cond (decide (d17.1 < n20))
 (joinT (D := Sl × Sl × Unit) (fun k21 =>
 loopT (D := Sl × Sl × Int × Unit) (fun d24 w25 k26 => ∀ _ : Regs,
 rdI .i64 w25 (p1.add 1) fun n27 =>
 cond (decide (d24.2.2.1 < n27))
 (al w25 (.cells #[(.slice none 0 0), (.int .i64 0), (.int .i64 0), (.bool false)] 123) fun p28 w29 =>
 wr w29 p28 (.slice none 0 0) fun w30 =>
 wr w30 (p28.add 1) (.int .i64 0) fun w31 =>
 wr w31 (p28.add 2) (.int .i64 0) fun w32 =>
 wr w32 (p28.add 3) (.bool false) fun w33 =>
 joinT (D := Unit) (fun k34 =>
 loopT (D := Int × Unit) (fun d37 w38 k39 => ∀ _ : Regs,
 rdI .i64 w38 (p1.add 2) fun n40 =>
 cond (decide (d37.1 < n40))
 (rdS w38.drew p28 fun s41 =>
 Ok Try.prog 89 [] w38.drew fun v42 w43 =>
 decS v42 fun s44 =>
 rdS w43 p28 fun s45 =>
 ((.slice s45.a s45.l s45.c) : Value) = (.slice s41.a s41.l s41.c) ∧
 al w43 (.cells #[(.slice s44.a s44.l s44.c)] 22) fun p46 w47 =>
 rdS w47 p28 fun s48 =>
 ((.slice s48.a s48.l s48.c) : Value) = (.slice s41.a s41.l s41.c) ∧
 raw Try.prog (Builtin.append_ #[77, 77] 77 #[(.slice s41.a s41.l s41.c), (.slice (some p46) 1 1)]) w47 fun v49 w50 =>
 decS v49 fun s51 =>
 wr w50 p28 (.slice s51.a s51.l s51.c) fun w52 =>
 k39 ((IntKind.wrap .i64 (d37.1 + 1)), ()) w52)
 (k34 () w38))
 (0, ()) w33)
 fun d35 w36 => ∀ _ : Regs,
 rdS w36.drew p28 fun s53 =>
 rdI .i64 w36.drew (p28.add 1) fun n54 =>
 rdI .i64 w36.drew (p28.add 2) fun n55 =>
 rdB w36.drew (p28.add 3) fun b56 =>
 rdI .i64 w36.drew (p1.add 2) fun n57 =>
 (al w36.drew (.cells #[(.slice s53.a s53.l s53.c), (.int .i64 n54), (.int .i64 n55), (.bool b56)] 123) fun p109 w110 =>
 rdI .i64 w110 (p1.add 2) fun n111 =>
 ((.int .i64 n111) : Value) = (.int .i64 n57) ∧
 (raw Try.prog (Builtin.append_ #[120, 120] 120 #[(.slice d24.1.a d24.1.l d24.1.c), (.slice (some p109) 1 1)]) w110 fun v144 w145 =>
 decS v144 fun s146 =>
 rdI .i64 w145 (p1.add 2) fun n147 =>
 ((.int .i64 n147) : Value) = (.int .i64 n57) ∧
 (0 : Int) ≤ n57 ∧ n57 ≤ n57 ∧ ((24 : Nat) : Int) * n57 ≤ 281474976710656 ∧ n57 ≤ 281474976710656 ∧
 al w145 (.cells (zeroRow #[(.slice none 0 0)] ((Int.toNat n57) * 1)) 23) fun p148 w149 =>
 rdS w149 p28 fun s150 =>
 rdI .i64 w149 (p28.add 1) fun n151 =>
 rdI .i64 w149 (p28.add 2) fun n152 =>
 rdB w149 (p28.add 3) fun b153 =>
 ((.agg #[(.slice s150.a s150.l s150.c), (.int .i64 n151), (.int .i64 n152), (.bool b153)]) : Value) = (.agg #[(.slice s53.a s53.l s53.c), (.int .i64 n54), (.int .i64 n55), (.bool b56)]) ∧
 al w149 (.cells #[(.slice (some p148) (Int.toNat n57) (Int.toNat n57))] 35) fun p154 w155 =>
 rdS w155 p28 fun s156 =>
 rdI .i64 w155 (p28.add 1) fun n157 =>
 rdI .i64 w155 (p28.add 2) fun n158 =>
 rdB w155 (p28.add 3) fun b159 =>
 ((.agg #[(.slice s156.a s156.l s156.c), (.int .i64 n157), (.int .i64 n158), (.bool b159)]) : Value) = (.agg #[(.slice s53.a s53.l s53.c), (.int .i64 n54), (.int .i64 n55), (.bool b56)]) ∧
 raw Try.prog (Builtin.append_ #[121, 121] 121 #[(.slice d24.2.1.a d24.2.1.l d24.2.1.c), (.slice (some p154) 1 1)]) w155 fun v160 w161 =>
 decS v160 fun s162 =>
 k26 (s146, s162, (IntKind.wrap .i64 (d24.2.2.1 + 1)), ()) w161) ∧
 ((0 : Int) ≤ n57 ∧ n57 ≤ n57 ∧ ((24 : Nat) : Int) * n57 ≤ 281474976710656 ∧ n57 ≤ 281474976710656 ∧
 al w110 (.cells (zeroRow #[(.slice none 0 0)] ((Int.toNat n57) * 1)) 23) fun p112 w113 =>
 rdS w113 p28 fun s114 =>
 rdI .i64 w113 (p28.add 1) fun n115 =>
 rdI .i64 w113 (p28.add 2) fun n116 =>
 rdB w113 (p28.add 3) fun b117 =>
 ((.agg #[(.slice s114.a s114.l s114.c), (.int .i64 n115), (.int .i64 n116), (.bool b117)]) : Value) = (.agg #[(.slice s53.a s53.l s53.c), (.int .i64 n54), (.int .i64 n55), (.bool b56)]) ∧
 (raw Try.prog (Builtin.append_ #[120, 120] 120 #[(.slice d24.1.a d24.1.l d24.1.c), (.slice (some p109) 1 1)]) w113 fun v131 w132 =>
 decS v131 fun s133 =>
 rdI .i64 w132 (p1.add 2) fun n134 =>
 ((.int .i64 n134) : Value) = (.int .i64 n57) ∧
 al w132 (.cells #[(.slice (some p112) (Int.toNat n57) (Int.toNat n57))] 35) fun p135 w136 =>
 rdS w136 p28 fun s137 =>
 rdI .i64 w136 (p28.add 1) fun n138 =>
 rdI .i64 w136 (p28.add 2) fun n139 =>
 rdB w136 (p28.add 3) fun b140 =>
 ((.agg #[(.slice s137.a s137.l s137.c), (.int .i64 n138), (.int .i64 n139), (.bool b140)]) : Value) = (.agg #[(.slice s53.a s53.l s53.c), (.int .i64 n54), (.int .i64 n55), (.bool b56)]) ∧
 raw Try.prog (Builtin.append_ #[121, 121] 121 #[(.slice d24.2.1.a d24.2.1.l d24.2.1.c), (.slice (some p135) 1 1)]) w136 fun v141 w142 =>
 decS v141 fun s143 =>
 k26 (s133, s143, (IntKind.wrap .i64 (d24.2.2.1 + 1)), ()) w142) ∧
 (al w113 (.cells #[(.slice (some p112) (Int.toNat n57) (Int.toNat n57))] 35) fun p118 w119 =>
 rdS w119 p28 fun s120 =>
 rdI .i64 w119 (p28.add 1) fun n121 =>
 rdI .i64 w119 (p28.add 2) fun n122 =>
 rdB w119 (p28.add 3) fun b123 =>
 ((.agg #[(.slice s120.a s120.l s120.c), (.int .i64 n121), (.int .i64 n122), (.bool b123)]) : Value) = (.agg #[(.slice s53.a s53.l s53.c), (.int .i64 n54), (.int .i64 n55), (.bool b56)]) ∧
 raw Try.prog (Builtin.append_ #[120, 120] 120 #[(.slice d24.1.a d24.1.l d24.1.c), (.slice (some p109) 1 1)]) w119 fun v124 w125 =>
 decS v124 fun s126 =>
 rdI .i64 w125 (p1.add 2) fun n127 =>
 ((.int .i64 n127) : Value) = (.int .i64 n57) ∧
 raw Try.prog (Builtin.append_ #[121, 121] 121 #[(.slice d24.2.1.a d24.2.1.l d24.2.1.c), (.slice (some p118) 1 1)]) w125 fun v128 w129 =>
 decS v128 fun s130 =>
 k26 (s126, s130, (IntKind.wrap .i64 (d24.2.2.1 + 1)), ()) w129))) ∧
 ((0 : Int) ≤ n57 ∧ n57 ≤ n57 ∧ ((24 : Nat) : Int) * n57 ≤ 281474976710656 ∧ n57 ≤ 281474976710656 ∧
 al w36.drew (.cells (zeroRow #[(.slice none 0 0)] ((Int.toNat n57) * 1)) 23) fun p58 w59 =>
 rdS w59 p28 fun s60 =>
 rdI .i64 w59 (p28.add 1) fun n61 =>
 rdI .i64 w59 (p28.add 2) fun n62 =>
 rdB w59 (p28.add 3) fun b63 =>
 ((.agg #[(.slice s60.a s60.l s60.c), (.int .i64 n61), (.int .i64 n62), (.bool b63)]) : Value) = (.agg #[(.slice s53.a s53.l s53.c), (.int .i64 n54), (.int .i64 n55), (.bool b56)]) ∧
 (al w59 (.cells #[(.slice s53.a s53.l s53.c), (.int .i64 n54), (.int .i64 n55), (.bool b56)] 123) fun p80 w81 =>
 rdI .i64 w81 (p1.add 2) fun n82 =>
 ((.int .i64 n82) : Value) = (.int .i64 n57) ∧
 (raw Try.prog (Builtin.append_ #[120, 120] 120 #[(.slice d24.1.a d24.1.l d24.1.c), (.slice (some p80) 1 1)]) w81 fun v96 w97 =>
 decS v96 fun s98 =>
 rdI .i64 w97 (p1.add 2) fun n99 =>
 ((.int .i64 n99) : Value) = (.int .i64 n57) ∧
 al w97 (.cells #[(.slice (some p58) (Int.toNat n57) (Int.toNat n57))] 35) fun p100 w101 =>
 rdS w101 p28 fun s102 =>
 rdI .i64 w101 (p28.add 1) fun n103 =>
 rdI .i64 w101 (p28.add 2) fun n104 =>
 rdB w101 (p28.add 3) fun b105 =>
 ((.agg #[(.slice s102.a s102.l s102.c), (.int .i64 n103), (.int .i64 n104), (.bool b105)]) : Value) = (.agg #[(.slice s53.a s53.l s53.c), (.int .i64 n54), (.int .i64 n55), (.bool b56)]) ∧
 raw Try.prog (Builtin.append_ #[121, 121] 121 #[(.slice d24.2.1.a d24.2.1.l d24.2.1.c), (.slice (some p100) 1 1)]) w101 fun v106 w107 =>
 decS v106 fun s108 =>
 k26 (s98, s108, (IntKind.wrap .i64 (d24.2.2.1 + 1)), ()) w107) ∧
 (al w81 (.cells #[(.slice (some p58) (Int.toNat n57) (Int.toNat n57))] 35) fun p83 w84 =>
 rdS w84 p28 fun s85 =>
 rdI .i64 w84 (p28.add 1) fun n86 =>
 rdI .i64 w84 (p28.add 2) fun n87 =>
 rdB w84 (p28.add 3) fun b88 =>
 ((.agg #[(.slice s85.a s85.l s85.c), (.int .i64 n86), (.int .i64 n87), (.bool b88)]) : Value) = (.agg #[(.slice s53.a s53.l s53.c), (.int .i64 n54), (.int .i64 n55), (.bool b56)]) ∧
 raw Try.prog (Builtin.append_ #[120, 120] 120 #[(.slice d24.1.a d24.1.l d24.1.c), (.slice (some p80) 1 1)]) w84 fun v89 w90 =>
 decS v89 fun s91 =>
 rdI .i64 w90 (p1.add 2) fun n92 =>
 ((.int .i64 n92) : Value) = (.int .i64 n57) ∧
 raw Try.prog (Builtin.append_ #[121, 121] 121 #[(.slice d24.2.1.a d24.2.1.l d24.2.1.c), (.slice (some p83) 1 1)]) w90 fun v93 w94 =>
 decS v93 fun s95 =>
 k26 (s91, s95, (IntKind.wrap .i64 (d24.2.2.1 + 1)), ()) w94)) ∧
 (al w59 (.cells #[(.slice (some p58) (Int.toNat n57) (Int.toNat n57))] 35) fun p64 w65 =>
 rdS w65 p28 fun s66 =>
 rdI .i64 w65 (p28.add 1) fun n67 =>
 rdI .i64 w65 (p28.add 2) fun n68 =>
 rdB w65 (p28.add 3) fun b69 =>
 ((.agg #[(.slice s66.a s66.l s66.c), (.int .i64 n67), (.int .i64 n68), (.bool b69)]) : Value) = (.agg #[(.slice s53.a s53.l s53.c), (.int .i64 n54), (.int .i64 n55), (.bool b56)]) ∧
 al w65 (.cells #[(.slice s53.a s53.l s53.c), (.int .i64 n54), (.int .i64 n55), (.bool b56)] 123) fun p70 w71 =>
 rdI .i64 w71 (p1.add 2) fun n72 =>
 ((.int .i64 n72) : Value) = (.int .i64 n57) ∧
 raw Try.prog (Builtin.append_ #[120, 120] 120 #[(.slice d24.1.a d24.1.l d24.1.c), (.slice (some p70) 1 1)]) w71 fun v73 w74 =>
 decS v73 fun s75 =>
 rdI .i64 w74 (p1.add 2) fun n76 =>
 ((.int .i64 n76) : Value) = (.int .i64 n57) ∧
 raw Try.prog (Builtin.append_ #[121, 121] 121 #[(.slice d24.2.1.a d24.2.1.l d24.2.1.c), (.slice (some p64) 1 1)]) w74 fun v77 w78 =>
 decS v77 fun s79 =>
 k26 (s75, s79, (IntKind.wrap .i64 (d24.2.2.1 + 1)), ()) w78)))
 (k21 (d24.1, d24.2.1, ()) w25))
 (⟨none, 0, 0⟩, ⟨none, 0, 0⟩, 0, ()) w18)
 fun d22 w23 => ∀ _ : Regs,
 nn (some p12) fun p163 =>
 rdS w23.drew (p163.add 3) fun s164 =>
 nn (some p12) fun p165 =>
 rdS w23.drew (p165.add 4) fun s166 =>
 (al w23.drew (.cells #[(.slice d22.1.a d22.1.l d22.1.c)] 120) fun p186 w187 =>
 rdS w187 (p163.add 3) fun s188 =>
 ((.slice s188.a s188.l s188.c) : Value) = (.slice s164.a s164.l s164.c) ∧
 rdS w187 (p165.add 4) fun s189 =>
 ((.slice s189.a s189.l s189.c) : Value) = (.slice s166.a s166.l s166.c) ∧
 (raw Try.prog (Builtin.append_ #[116, 116] 116 #[(.slice s164.a s164.l s164.c), (.slice (some p186) 1 1)]) w187 fun v205 w206 =>
 decS v205 fun s207 =>
 rdS w206 (p165.add 4) fun s208 =>
 ((.slice s208.a s208.l s208.c) : Value) = (.slice s166.a s166.l s166.c) ∧
 al w206 (.cells #[(.slice d22.2.1.a d22.2.1.l d22.2.1.c)] 121) fun p209 w210 =>
 rdS w210 (p163.add 3) fun s211 =>
 ((.slice s211.a s211.l s211.c) : Value) = (.slice s164.a s164.l s164.c) ∧
 rdS w210 (p165.add 4) fun s212 =>
 ((.slice s212.a s212.l s212.c) : Value) = (.slice s166.a s166.l s166.c) ∧
 raw Try.prog (Builtin.append_ #[117, 117] 117 #[(.slice s166.a s166.l s166.c), (.slice (some p209) 1 1)]) w210 fun v213 w214 =>
 decS v213 fun s215 =>
 nn (some p12) fun p216 =>
 wr w214 (p216.add 3) (.slice s207.a s207.l s207.c) fun w217 =>
 nn (some p12) fun p218 =>
 wr w217 (p218.add 4) (.slice s215.a s215.l s215.c) fun w219 =>
 k19 ((IntKind.wrap .i64 (d17.1 + 1)), ()) w219) ∧
 (al w187 (.cells #[(.slice d22.2.1.a d22.2.1.l d22.2.1.c)] 121) fun p190 w191 =>
 rdS w191 (p163.add 3) fun s192 =>
 ((.slice s192.a s192.l s192.c) : Value) = (.slice s164.a s164.l s164.c) ∧
 rdS w191 (p165.add 4) fun s193 =>
 ((.slice s193.a s193.l s193.c) : Value) = (.slice s166.a s166.l s166.c) ∧
 raw Try.prog (Builtin.append_ #[116, 116] 116 #[(.slice s164.a s164.l s164.c), (.slice (some p186) 1 1)]) w191 fun v194 w195 =>
 decS v194 fun s196 =>
 rdS w195 (p165.add 4) fun s197 =>
 ((.slice s197.a s197.l s197.c) : Value) = (.slice s166.a s166.l s166.c) ∧
 raw Try.prog (Builtin.append_ #[117, 117] 117 #[(.slice s166.a s166.l s166.c), (.slice (some p190) 1 1)]) w195 fun v198 w199 =>
 decS v198 fun s200 =>
 nn (some p12) fun p201 =>
 wr w199 (p201.add 3) (.slice s196.a s196.l s196.c) fun w202 =>
 nn (some p12) fun p203 =>
 wr w202 (p203.add 4) (.slice s200.a s200.l s200.c) fun w204 =>
 k19 ((IntKind.wrap .i64 (d17.1 + 1)), ()) w204)) ∧
 (al w23.drew (.cells #[(.slice d22.2.1.a d22.2.1.l d22.2.1.c)] 121) fun p167 w168 =>
 rdS w168 (p163.add 3) fun s169 =>
 ((.slice s169.a s169.l s169.c) : Value) = (.slice s164.a s164.l s164.c) ∧
 rdS w168 (p165.add 4) fun s170 =>
 ((.slice s170.a s170.l s170.c) : Value) = (.slice s166.a s166.l s166.c) ∧
 al w168 (.cells #[(.slice d22.1.a d22.1.l d22.1.c)] 120) fun p171 w172 =>
 rdS w172 (p163.add 3) fun s173 =>
 ((.slice s173.a s173.l s173.c) : Value) = (.slice s164.a s164.l s164.c) ∧
 rdS w172 (p165.add 4) fun s174 =>
 ((.slice s174.a s174.l s174.c) : Value) = (.slice s166.a s166.l s166.c) ∧
 raw Try.prog (Builtin.append_ #[116, 116] 116 #[(.slice s164.a s164.l s164.c), (.slice (some p171) 1 1)]) w172 fun v175 w176 =>
 decS v175 fun s177 =>
 rdS w176 (p165.add 4) fun s178 =>
 ((.slice s178.a s178.l s178.c) : Value) = (.slice s166.a s166.l s166.c) ∧
 raw Try.prog (Builtin.append_ #[117, 117] 117 #[(.slice s166.a s166.l s166.c), (.slice (some p167) 1 1)]) w176 fun v179 w180 =>
 decS v179 fun s181 =>
 nn (some p12) fun p182 =>
 wr w180 (p182.add 3) (.slice s177.a s177.l s177.c) fun w183 =>
 nn (some p12) fun p184 =>
 wr w183 (p184.add 4) (.slice s181.a s181.l s181.c) fun w185 =>
 k19 ((IntKind.wrap .i64 (d17.1 + 1)), ()) w185))
 (k14 () w18))
 (0, ()) w13)
 fun d15 w16 => ∀ _ : Regs,
 joinT (D := Unit) (fun k220 =>
 loopT (D := Int × Unit) (fun d223 w224 k225 => ∀ _ : Regs,
 cond (decide (d223.1 < ((bad1.l : Nat) : Int)))
 (ix bad1.a bad1.l d223.1 fun q226 =>
 ixA 2 0 (
 rdI .i64 w224.drew (q226.add (d223.1.toNat * 2)) fun n227 =>
 ix bad1.a bad1.l d223.1 fun q228 =>
 ixA 2 1 (
 rdI .i64 w224.drew ((q228.add (d223.1.toNat * 2)).add 1) fun n229 =>
 Ok Try.prog 90 [(.pointer (some p12)), (.int .i64 n227), (.int .i64 n229)] w224.drew fun v230 w231 =>
 decB v230 fun b232 =>
 cond (!b232)
 (K (.tuple #[(.pointer none), (.int .i64 1)]) w231)
 (nn (some p12) fun p233 =>
 rdS w231.drew (p233.add 3) fun s234 =>
 ix bad1.a bad1.l d223.1 fun q235 =>
 ixA 2 0 (
 rdI .i64 w231.drew (q235.add (d223.1.toNat * 2)) fun n236 =>
 ix s234.a s234.l n236 fun q237 =>
 rdS w231.drew (q237.add (n236.toNat * 1)) fun s238 =>
 ix bad1.a bad1.l d223.1 fun q239 =>
 ixA 2 1 (
 rdI .i64 w231.drew ((q239.add (d223.1.toNat * 2)).add 1) fun n240 =>
 ix s238.a s238.l n240 fun q241 =>
 wr w231.drew ((q241.add (n240.toNat * 4)).add 3) (.bool true) fun w242 =>
 k225 ((IntKind.wrap .i64 (d223.1 + 1)), ()) w242))))))
 (k220 () w224))
 (0, ()) w16)
 fun d221 w222 => ∀ _ : Regs,
 K (.tuple #[(.pointer (some p12)), (.int .i64 0)]) w222)
theorem e40 (g0 : (Int × Int × Int × Unit)) (bad1 : Sl) (w : World) (K : Value → World → Prop) : exF Try.prog a40 Try.f40 [(.agg #[(.int .i64 g0.1), (.int .i64 g0.2.1), (.int .i64 g0.2.2.1)]), (.slice bad1.a bad1.l bad1.c)] w K = T40 g0 bad1 w K := by kernel_rfl
theorem b40 : hasB Try.prog 40 = true := by kernel_rfl
theorem f40 : fitsF Try.f40 2 = true := by kernel_rfl
theorem u40 {w : World} {K : Value → World → Prop} {g0 : (Int × Int × Int × Unit)} {bad1 : Sl} (h : T40 g0 bad1 w K) : Ok Try.prog 40 [(.agg #[(.int .i64 g0.1), (.int .i64 g0.2.1), (.int .i64 g0.2.2.1)]), (.slice bad1.a bad1.l bad1.c)] w K :=
  Ok_eq a40 2 mixed Try.func40 b40 f40 rfl (e40 g0 bad1 w K) h

/-! 41: ramekinlaw7.bytes -/
def a41 : Ann := { reg := [(3, [(16, (.one .b))])], cnd := [], lop := [(3, [(6, (.one (.i .i64)))])], blk := [(0, [])], prm := [] }
def T41 (b0 : Sl) (n1 : Int) (w : World) (K : Value → World → Prop) : Prop :=
 (0 : Int) ≤ n1 ∧ n1 ≤ n1 ∧ ((1 : Nat) : Int) * n1 ≤ 281474976710656 ∧ n1 ≤ 281474976710656 ∧
 al w (.cells (zeroRow #[(.int .u8 0)] ((Int.toNat n1) * 1)) 5) fun p1 w2 =>
 joinT (D := Unit) (fun k3 =>
 loopT (D := Int × Unit) (fun d6 w7 k8 => ∀ _ : Regs,
 joinT (D := Bool × Unit) (fun k9 =>
 cond (decide (d6.1 < n1))
 (k9 ((decide (((b0.l : Nat) : Int) > 0)), ()) w7)
 (k9 (false, ()) w7))
 fun d10 w11 => ∀ _ : Regs,
 cond d10.1
 ((((b0.l : Nat) : Int) ≠ 0) ∧
 ix b0.a b0.l (Int.tmod d6.1 ((b0.l : Nat) : Int)) fun q12 =>
 rdI .u8 w11 (q12.add ((Int.tmod d6.1 ((b0.l : Nat) : Int)).toNat * 1)) fun n13 =>
 ix (some p1) (Int.toNat n1) d6.1 fun q14 =>
 wr w11 (q14.add (d6.1.toNat * 1)) (.int .u8 n13) fun w15 =>
 k8 ((IntKind.wrap .i64 (d6.1 + 1)), ()) w15)
 (k3 () w11))
 (0, ()) w2)
 fun d4 w5 => ∀ _ : Regs,
 K (.slice (some p1) (Int.toNat n1) (Int.toNat n1)) w5
theorem e41 (b0 : Sl) (n1 : Int) (w : World) (K : Value → World → Prop) : exF Try.prog a41 Try.f41 [(.slice b0.a b0.l b0.c), (.int .i64 n1)] w K = T41 b0 n1 w K := by kernel_rfl
theorem b41 : hasB Try.prog 41 = true := by kernel_rfl
theorem f41 : fitsF Try.f41 2 = true := by kernel_rfl
theorem u41 {w : World} {K : Value → World → Prop} {b0 : Sl} {n1 : Int} (h : T41 b0 n1 w K) : Ok Try.prog 41 [(.slice b0.a b0.l b0.c), (.int .i64 n1)] w K :=
  Ok_eq a41 2 mixed Try.func41 b41 f41 rfl (e41 b0 n1 w K) h

/-! 42: (*nand.Nand).Noise -/
def a42 : Ann := { reg := [], cnd := [], lop := [], blk := [], prm := [] }
def T42 (n0 : Option Addr) (die1 : Int) (block2 : Int) (page3 : Int) (l4 : Sl) (w : World) (K : Value → World → Prop) : Prop :=
 Ok Try.prog 91 [(.pointer n0), (.int .i64 die1), (.int .i64 block2), (.int .i64 page3)] w fun v1 w2 =>
 decB v1 fun b3 =>
 cond (!b3)
 (K (.int .i64 1) w2)
 (nn n0 fun p4 =>
 rdI .i64 w2 (p4.add 7) fun n5 =>
 rdI .i64 w2 (p4.add 8) fun n6 =>
 rdI .i64 w2 (p4.add 9) fun n7 =>
 rdS w2 (p4.add 10) fun s8 =>
 Ok Try.prog 92 [(.agg #[(.int .i64 n5), (.int .i64 n6), (.int .i64 n7), (.slice s8.a s8.l s8.c)]), (.int .i64 die1), (.int .i64 block2), (.int .i64 page3)] w2 fun v9 w10 =>
 decP v9 fun p11 =>
 Ok Try.prog 81 [(.slice l4.a l4.l l4.c)] w10 fun v12 w13 =>
 decS v12 fun s14 =>
 nn p11 fun p15 =>
 wr w13 p15 (.slice s14.a s14.l s14.c) fun w16 =>
 K (.int .i64 0) w16)
theorem e42 (n0 : Option Addr) (die1 : Int) (block2 : Int) (page3 : Int) (l4 : Sl) (w : World) (K : Value → World → Prop) : exF Try.prog a42 Try.f42 [(.pointer n0), (.int .i64 die1), (.int .i64 block2), (.int .i64 page3), (.slice l4.a l4.l l4.c)] w K = T42 n0 die1 block2 page3 l4 w K := by kernel_rfl
theorem b42 : hasB Try.prog 42 = true := by kernel_rfl
theorem f42 : fitsF Try.f42 5 = true := by kernel_rfl
theorem u42 {w : World} {K : Value → World → Prop} {n0 : Option Addr} {die1 : Int} {block2 : Int} {page3 : Int} {l4 : Sl} (h : T42 n0 die1 block2 page3 l4 w K) : Ok Try.prog 42 [(.pointer n0), (.int .i64 die1), (.int .i64 block2), (.int .i64 page3), (.slice l4.a l4.l l4.c)] w K :=
  Ok_eq a42 5 mixed Try.func42 b42 f42 rfl (e42 n0 die1 block2 page3 l4 w K) h

/-! 43: (*nand.Nand).Wrong -/
def a43 : Ann := { reg := [], cnd := [], lop := [], blk := [], prm := [] }
def T43 (n0 : Option Addr) (w : World) (K : Value → World → Prop) : Prop :=
 nn n0 fun p1 =>
 rdI .i64 w (p1.add 16) fun n2 =>
 K (.int .i64 n2) w
theorem e43 (n0 : Option Addr) (w : World) (K : Value → World → Prop) : exF Try.prog a43 Try.f43 [(.pointer n0)] w K = T43 n0 w K := by kernel_rfl
theorem b43 : hasB Try.prog 43 = true := by kernel_rfl
theorem f43 : fitsF Try.f43 1 = true := by kernel_rfl
theorem u43 {w : World} {K : Value → World → Prop} {n0 : Option Addr} (h : T43 n0 w K) : Ok Try.prog 43 [(.pointer n0)] w K :=
  Ok_eq a43 1 mixed Try.func43 b43 f43 rfl (e43 n0 w K) h

/-! 44: (*nand.Nand).Ops -/
def a44 : Ann := { reg := [], cnd := [], lop := [], blk := [], prm := [] }
def T44 (n0 : Option Addr) (w : World) (K : Value → World → Prop) : Prop :=
 nn n0 fun p1 =>
 rdI .i64 w (p1.add 15) fun n2 =>
 K (.int .i64 n2) w
theorem e44 (n0 : Option Addr) (w : World) (K : Value → World → Prop) : exF Try.prog a44 Try.f44 [(.pointer n0)] w K = T44 n0 w K := by kernel_rfl
theorem b44 : hasB Try.prog 44 = true := by kernel_rfl
theorem f44 : fitsF Try.f44 1 = true := by kernel_rfl
theorem u44 {w : World} {K : Value → World → Prop} {n0 : Option Addr} (h : T44 n0 w K) : Ok Try.prog 44 [(.pointer n0)] w K :=
  Ok_eq a44 1 mixed Try.func44 b44 f44 rfl (e44 n0 w K) h

/-! 45: (*nand.Nand).Program -/
def a45 : Ann := { reg := [(1, [(11, (.one .b))])], cnd := [], lop := [], blk := [], prm := [] }
def T45 (n0 : Option Addr) (die1 : Int) (block2 : Int) (page3 : Int) (b4 : Sl) (w : World) (K : Value → World → Prop) : Prop :=
 joinT (D := Bool × Unit) (fun k1 =>
 Ok Try.prog 91 [(.pointer n0), (.int .i64 die1), (.int .i64 block2), (.int .i64 page3)] w fun v4 w5 =>
 decB v4 fun b6 =>
 cond b6
 (Ok Try.prog 52 [(.pointer n0), (.int .i64 die1), (.int .i64 block2)] w5 fun v7 w8 =>
 decB v7 fun b9 =>
 cond (!b9)
 (cond (((b4.l : Nat) : Int) == 60)
 (nn n0 fun p10 =>
 rdS w8 (p10.add 11) fun s11 =>
 ix s11.a s11.l die1 fun q12 =>
 rdS w8 (q12.add (die1.toNat * 1)) fun s13 =>
 ix s13.a s13.l block2 fun q14 =>
 rdI .i64 w8 (q14.add (block2.toNat * 3)) fun n15 =>
 k1 ((n15 == page3), ()) w8)
 (k1 (false, ()) w8))
 (k1 (false, ()) w8))
 (k1 (false, ()) w5))
 fun d2 w3 => ∀ _ : Regs,
 Ok Try.prog 93 [(.pointer n0), (.bool d2.1)] w3 fun v16 w17 =>
 decI .i64 v16 fun n18 =>
 cond (n18 != 0)
 (K (.int .i64 n18) w17)
 (nn n0 fun p19 =>
 rdS w17 (p19.add 11) fun s20 =>
 ix s20.a s20.l die1 fun q21 =>
 rdS w17 (q21.add (die1.toNat * 1)) fun s22 =>
 ix s22.a s22.l block2 fun q23 =>
 rdI .i64 w17 (q23.add (block2.toNat * 3)) fun n24 =>
 ix s22.a s22.l block2 fun q25 =>
 wr w17 (q25.add (block2.toNat * 3)) (.int .i64 (IntKind.wrap .i64 (n24 + 1))) fun w26 =>
 nn n0 fun p27 =>
 rdI .i64 w26 (p27.add 3) fun n28 =>
 rdI .i64 w26 (p27.add 4) fun n29 =>
 rdI .i64 w26 (p27.add 5) fun n30 =>
 rdS w26 (p27.add 6) fun s31 =>
 Ok Try.prog 94 [(.agg #[(.int .i64 n28), (.int .i64 n29), (.int .i64 n30), (.slice s31.a s31.l s31.c)]), (.int .i64 die1), (.int .i64 block2), (.int .i64 page3)] w26 fun v32 w33 =>
 decP v32 fun p34 =>
 Ok Try.prog 95 [(.pointer n0)] w33 fun v35 w36 =>
 decB v35 fun b37 =>
 cond b37
 (nn n0 fun p38 =>
 rdS w36.drew (p38.add 13) fun s39 =>
 Ok Try.prog 87 [] w36.drew fun v40 w41 =>
 decS v40 fun s42 =>
 rdS w41 (p38.add 13) fun s43 =>
 ((.slice s43.a s43.l s43.c) : Value) = (.slice s39.a s39.l s39.c) ∧
 Ok Try.prog 96 [(.slice s42.a s42.l s42.c), (.slice b4.a b4.l b4.c), (.slice s39.a s39.l s39.c)] w41 fun v44 w45 =>
 decS v44 fun s46 =>
 nn p34 fun p47 =>
 wr w45 p47 (.slice s46.a s46.l s46.c) fun w48 =>
 K (.int .i64 8) w48)
 (Ok Try.prog 76 [(.slice b4.a b4.l b4.c)] w36 fun v49 w50 =>
 decS v49 fun s51 =>
 nn p34 fun p52 =>
 wr w50 p52 (.slice s51.a s51.l s51.c) fun w53 =>
 K (.int .i64 0) w53))
theorem e45 (n0 : Option Addr) (die1 : Int) (block2 : Int) (page3 : Int) (b4 : Sl) (w : World) (K : Value → World → Prop) : exF Try.prog a45 Try.f45 [(.pointer n0), (.int .i64 die1), (.int .i64 block2), (.int .i64 page3), (.slice b4.a b4.l b4.c)] w K = T45 n0 die1 block2 page3 b4 w K := by kernel_rfl
theorem b45 : hasB Try.prog 45 = true := by kernel_rfl
theorem f45 : fitsF Try.f45 5 = true := by kernel_rfl
theorem u45 {w : World} {K : Value → World → Prop} {n0 : Option Addr} {die1 : Int} {block2 : Int} {page3 : Int} {b4 : Sl} (h : T45 n0 die1 block2 page3 b4 w K) : Ok Try.prog 45 [(.pointer n0), (.int .i64 die1), (.int .i64 block2), (.int .i64 page3), (.slice b4.a b4.l b4.c)] w K :=
  Ok_eq a45 5 mixed Try.func45 b45 f45 rfl (e45 n0 die1 block2 page3 b4 w K) h

/-! 46: (*nand.Nand).Read -/
def a46 : Ann := { reg := [(1, [(10, (.one (.i .i64)))])], cnd := [], lop := [], blk := [], prm := [] }
def T46 (n0 : Option Addr) (die1 : Int) (block2 : Int) (page3 : Int) (w : World) (K : Value → World → Prop) : Prop :=
 joinT (D := Int × Unit) (fun k1 =>
 Ok Try.prog 91 [(.pointer n0), (.int .i64 die1), (.int .i64 block2), (.int .i64 page3)] w fun v4 w5 =>
 decB v4 fun b6 =>
 cond b6
 (Ok Try.prog 52 [(.pointer n0), (.int .i64 die1), (.int .i64 block2)] w5 fun v7 w8 =>
 decB v7 fun b9 =>
 Ok Try.prog 93 [(.pointer n0), (.bool (!b9))] w8 fun v10 w11 =>
 decI .i64 v10 fun n12 =>
 k1 (n12, ()) w11)
 (Ok Try.prog 93 [(.pointer n0), (.bool false)] w5 fun v13 w14 =>
 decI .i64 v13 fun n15 =>
 k1 (n15, ()) w14))
 fun d2 w3 => ∀ _ : Regs,
 cond (d2.1 != 0)
 (K (.tuple #[(.slice none 0 0), (.int .i64 d2.1)]) w3)
 (nn n0 fun p16 =>
 rdI .i64 w3.drew (p16.add 3) fun n17 =>
 rdI .i64 w3.drew (p16.add 4) fun n18 =>
 rdI .i64 w3.drew (p16.add 5) fun n19 =>
 rdS w3.drew (p16.add 6) fun s20 =>
 nn n0 fun p21 =>
 rdI .i64 w3.drew (p21.add 7) fun n22 =>
 rdI .i64 w3.drew (p21.add 8) fun n23 =>
 rdI .i64 w3.drew (p21.add 9) fun n24 =>
 rdS w3.drew (p21.add 10) fun s25 =>
 Ok Try.prog 94 [(.agg #[(.int .i64 n17), (.int .i64 n18), (.int .i64 n19), (.slice s20.a s20.l s20.c)]), (.int .i64 die1), (.int .i64 block2), (.int .i64 page3)] w3.drew fun v26 w27 =>
 decP v26 fun p28 =>
 rdI .i64 w27 (p21.add 7) fun n29 =>
 rdI .i64 w27 (p21.add 8) fun n30 =>
 rdI .i64 w27 (p21.add 9) fun n31 =>
 rdS w27 (p21.add 10) fun s32 =>
 ((.agg #[(.int .i64 n29), (.int .i64 n30), (.int .i64 n31), (.slice s32.a s32.l s32.c)]) : Value) = (.agg #[(.int .i64 n22), (.int .i64 n23), (.int .i64 n24), (.slice s25.a s25.l s25.c)]) ∧
 nn p28 fun p33 =>
 rdS w27 p33 fun s34 =>
 Ok Try.prog 92 [(.agg #[(.int .i64 n22), (.int .i64 n23), (.int .i64 n24), (.slice s25.a s25.l s25.c)]), (.int .i64 die1), (.int .i64 block2), (.int .i64 page3)] w27 fun v35 w36 =>
 decP v35 fun p37 =>
 rdS w36 p33 fun s38 =>
 ((.slice s38.a s38.l s38.c) : Value) = (.slice s34.a s34.l s34.c) ∧
 nn p37 fun p39 =>
 rdS w36 p39 fun s40 =>
 Ok Try.prog 24 [(.slice s34.a s34.l s34.c), (.slice s40.a s40.l s40.c)] w36 fun v41 w42 =>
 decS v41 fun s43 =>
 K (.tuple #[(.slice s43.a s43.l s43.c), (.int .i64 0)]) w42)
theorem e46 (n0 : Option Addr) (die1 : Int) (block2 : Int) (page3 : Int) (w : World) (K : Value → World → Prop) : exF Try.prog a46 Try.f46 [(.pointer n0), (.int .i64 die1), (.int .i64 block2), (.int .i64 page3)] w K = T46 n0 die1 block2 page3 w K := by kernel_rfl
theorem b46 : hasB Try.prog 46 = true := by kernel_rfl
theorem f46 : fitsF Try.f46 4 = true := by kernel_rfl
theorem u46 {w : World} {K : Value → World → Prop} {n0 : Option Addr} {die1 : Int} {block2 : Int} {page3 : Int} (h : T46 n0 die1 block2 page3 w K) : Ok Try.prog 46 [(.pointer n0), (.int .i64 die1), (.int .i64 block2), (.int .i64 page3)] w K :=
  Ok_eq a46 4 mixed Try.func46 b46 f46 rfl (e46 n0 die1 block2 page3 w K) h

/-! 47: ramekinref6.Flip -/
def a47 : Ann := { reg := [(5, [(30, (.one .b))])], cnd := [(30, [])], lop := [(3, [(6, (.one (.i .i64)))])], blk := [(0, [])], prm := [] }
def T47 (b0 : Sl) (l1 : Sl) (w : World) (K : Value → World → Prop) : Prop :=
 al w (.cells #[] 5) fun p1 w2 =>
 raw Try.prog (Builtin.append_ #[22, 22] 22 #[(.slice (some p1) 0 0), (.slice b0.a b0.l b0.c)]) w2 fun v3 w4 =>
 decS v3 fun s5 =>
 joinT (D := Unit) (fun k6 =>
 loopT (D := Int × Unit) (fun d9 w10 k11 => ∀ _ : Regs,
 cond (decide (d9.1 < ((l1.l : Nat) : Int)))
 (joinT (D := Bool × Unit) (fun k12 =>
 ix l1.a l1.l d9.1 fun q15 =>
 rdI .i64 w10 (q15.add (d9.1.toNat * 1)) fun n16 =>
 cond (decide (n16 ≥ 0))
 (ix l1.a l1.l d9.1 fun q17 =>
 rdI .i64 w10 (q17.add (d9.1.toNat * 1)) fun n18 =>
 ((8 : Int) ≠ 0) ∧
 k12 ((decide ((IntKind.wrap .i64 (Int.tdiv n18 8)) < ((b0.l : Nat) : Int))), ()) w10)
 (k12 (false, ()) w10))
 fun d13 w14 => ∀ _ : Regs,
 joinT (D := Unit) (fun k19 =>
 cond d13.1
 (ix l1.a l1.l d9.1 fun q22 =>
 rdI .i64 w14.drew (q22.add (d9.1.toNat * 1)) fun n23 =>
 ((8 : Int) ≠ 0) ∧
 ix l1.a l1.l d9.1 fun q24 =>
 rdI .i64 w14.drew (q24.add (d9.1.toNat * 1)) fun n25 =>
 ((8 : Int) ≠ 0) ∧
 ix s5.a s5.l (IntKind.wrap .i64 (Int.tdiv n25 8)) fun q26 =>
 rdI .u8 w14.drew (q26.add ((IntKind.wrap .i64 (Int.tdiv n25 8)).toNat * 1)) fun n27 =>
 ix l1.a l1.l d9.1 fun q28 =>
 rdI .i64 w14.drew (q28.add (d9.1.toNat * 1)) fun n29 =>
 ((8 : Int) ≠ 0) ∧
 (0 : Int) ≤ (IntKind.wrap .u64 (Int.tmod n29 8)) ∧
 ix s5.a s5.l (IntKind.wrap .i64 (Int.tdiv n23 8)) fun q30 =>
 wr w14.drew (q30.add ((IntKind.wrap .i64 (Int.tdiv n23 8)).toNat * 1)) (.int .u8 (bitI .xor .u8 n27 (IntKind.wrap .u8 ((1 : Int) * 2 ^ min (Int.toNat (IntKind.wrap .u64 (Int.tmod n29 8))) (IntKind.bits .u8))))) fun w31 =>
 k19 () w31)
 (k19 () w14))
 fun d20 w21 => ∀ _ : Regs,
 k11 ((IntKind.wrap .i64 (d9.1 + 1)), ()) w21)
 (k6 () w10))
 (0, ()) w4)
 fun d7 w8 => ∀ _ : Regs,
 K (.slice s5.a s5.l s5.c) w8
theorem e47 (b0 : Sl) (l1 : Sl) (w : World) (K : Value → World → Prop) : exF Try.prog a47 Try.f47 [(.slice b0.a b0.l b0.c), (.slice l1.a l1.l l1.c)] w K = T47 b0 l1 w K := by kernel_rfl
theorem b47 : hasB Try.prog 47 = true := by kernel_rfl
theorem f47 : fitsF Try.f47 2 = true := by kernel_rfl
theorem u47 {w : World} {K : Value → World → Prop} {b0 : Sl} {l1 : Sl} (h : T47 b0 l1 w K) : Ok Try.prog 47 [(.slice b0.a b0.l b0.c), (.slice l1.a l1.l l1.c)] w K :=
  Ok_eq a47 2 mixed Try.func47 b47 f47 rfl (e47 b0 l1 w K) h

/-! 48: (*nand.Nand).Erase -/
def a48 : Ann := { reg := [(1, [(7, (.one (.i .i64)))])], cnd := [(52, [])], lop := [], blk := [], prm := [(51, (.one .p))] }
def T48 (n0 : Option Addr) (die1 : Int) (block2 : Int) (w : World) (K : Value → World → Prop) : Prop :=
 al w (.cells #[(.pointer n0)] 47) fun p1 w2 =>
 joinT (D := Int × Unit) (fun k3 =>
 rdP w2.drew p1 fun p6 =>
 rdP w2.drew p1 fun p7 =>
 Ok Try.prog 88 [(.pointer p7), (.int .i64 die1), (.int .i64 block2)] w2.drew fun v8 w9 =>
 decB v8 fun b10 =>
 rdP w9 p1 fun p11 =>
 ((.pointer p11) : Value) = (.pointer p6) ∧
 cond b10
 (rdP w9 p1 fun p12 =>
 Ok Try.prog 52 [(.pointer p12), (.int .i64 die1), (.int .i64 block2)] w9 fun v13 w14 =>
 decB v13 fun b15 =>
 rdP w14 p1 fun p16 =>
 ((.pointer p16) : Value) = (.pointer p6) ∧
 Ok Try.prog 93 [(.pointer p6), (.bool (!b15))] w14 fun v17 w18 =>
 decI .i64 v17 fun n19 =>
 k3 (n19, ()) w18)
 (rdP w9 p1 fun p20 =>
 ((.pointer p20) : Value) = (.pointer p6) ∧
 Ok Try.prog 93 [(.pointer p6), (.bool false)] w9 fun v21 w22 =>
 decI .i64 v21 fun n23 =>
 k3 (n23, ()) w22))
 fun d4 w5 => ∀ _ : Regs,
 cond (d4.1 != 0)
 (K (.int .i64 d4.1) w5)
 (rdP w5 p1 fun p24 =>
 nn p24 fun p25 =>
 rdS w5 (p25.add 11) fun s26 =>
 ix s26.a s26.l die1 fun q27 =>
 rdS w5 (q27.add (die1.toNat * 1)) fun s28 =>
 ix s28.a s28.l block2 fun q29 =>
 rdI .i64 w5 ((q29.add (block2.toNat * 3)).add 1) fun n30 =>
 ix s28.a s28.l block2 fun q31 =>
 wr w5 ((q31.add (block2.toNat * 3)).add 1) (.int .i64 (IntKind.wrap .i64 (n30 + 1))) fun w32 =>
 rdP w32 p1 fun p33 =>
 Ok Try.prog 95 [(.pointer p33)] w32 fun v34 w35 =>
 decB v34 fun b36 =>
 al w35 (.cells #[(.bool false)] 4) fun p37 w38 =>
 wr w38 p37 (.bool b36) fun w39 =>
 rdP w39 p1 fun p40 =>
 nn p40 fun p41 =>
 rdI .i64 w39 (p41.add 3) fun n42 =>
 rdI .i64 w39 (p41.add 4) fun n43 =>
 rdI .i64 w39 (p41.add 5) fun n44 =>
 rdS w39 (p41.add 6) fun s45 =>
 Ok Try.prog 97 [(.agg #[(.int .i64 n42), (.int .i64 n43), (.int .i64 n44), (.slice s45.a s45.l s45.c)]), (.int .i64 die1), (.int .i64 block2)] w39 fun v46 w47 =>
 rangeX Try.prog none v46 w47 (fun l48 rdy49 bz50 args51 w52 k53 =>
 headL args51 fun x54 args55 =>
 headL args55 fun x56 args57 =>
 decP x56 fun p58 =>
 nilL args57 (
 w52.heap[l48]? = some rdy49 ∧
 rdB (w52.putObj l48 bz50) p37 fun b59 =>
 joinT (D := Unit) (fun k60 =>
 cond b59
 (nn p58 fun p63 =>
 rdS (w52.putObj l48 bz50).drew p63 fun s64 =>
 rdP (w52.putObj l48 bz50).drew p1 fun p65 =>
 nn p65 fun p66 =>
 rdS (w52.putObj l48 bz50).drew (p66.add 13) fun s67 =>
 Ok Try.prog 87 [] (w52.putObj l48 bz50).drew fun v68 w69 =>
 decS v68 fun s70 =>
 rdS w69 p63 fun s71 =>
 ((.slice s71.a s71.l s71.c) : Value) = (.slice s64.a s64.l s64.c) ∧
 rdP w69 p1 fun p72 =>
 ((.pointer p72) : Value) = (.pointer p65) ∧
 rdS w69 (p66.add 13) fun s73 =>
 ((.slice s73.a s73.l s73.c) : Value) = (.slice s67.a s67.l s67.c) ∧
 Ok Try.prog 96 [(.slice s64.a s64.l s64.c), (.slice s70.a s70.l s70.c), (.slice s67.a s67.l s67.c)] w69 fun v74 w75 =>
 decS v74 fun s76 =>
 nn p58 fun p77 =>
 wr w75 p77 (.slice s76.a s76.l s76.c) fun w78 =>
 k60 () w78)
 (Ok Try.prog 87 [] (w52.putObj l48 bz50) fun v79 w80 =>
 decS v79 fun s81 =>
 nn p58 fun p82 =>
 wr w80 p82 (.slice s81.a s81.l s81.c) fun w83 =>
 k60 () w83))
 fun d61 w62 => ∀ _ : Regs,
 k53 .normal w62))
 (fun D84 w85 =>
 rdB w85 p37 fun b86 =>
 cond b86
 (leaveD (D84 :: []) w85 fun w87 =>
 K (.int .i64 8) w87)
 (rdP w85 p1 fun p88 =>
 nn p88 fun p89 =>
 rdS w85 (p89.add 11) fun s90 =>
 ix s90.a s90.l die1 fun q91 =>
 rdS w85 (q91.add (die1.toNat * 1)) fun s92 =>
 ix s92.a s92.l block2 fun q93 =>
 wr w85 (q93.add (block2.toNat * 3)) (.int .i64 0) fun w94 =>
 leaveD (D84 :: []) w94 fun w95 =>
 K (.int .i64 0) w95))
 (fun _ _ => False)
 [])
theorem e48 (n0 : Option Addr) (die1 : Int) (block2 : Int) (w : World) (K : Value → World → Prop) : exF Try.prog a48 Try.f48 [(.pointer n0), (.int .i64 die1), (.int .i64 block2)] w K = T48 n0 die1 block2 w K := by kernel_rfl
theorem b48 : hasB Try.prog 48 = true := by kernel_rfl
theorem f48 : fitsF Try.f48 3 = true := by kernel_rfl
theorem u48 {w : World} {K : Value → World → Prop} {n0 : Option Addr} {die1 : Int} {block2 : Int} (h : T48 n0 die1 block2 w K) : Ok Try.prog 48 [(.pointer n0), (.int .i64 die1), (.int .i64 block2)] w K :=
  Ok_eq a48 3 mixed Try.func48 b48 f48 rfl (e48 n0 die1 block2 w K) h

/-! 49: (*nand.Nand).Stop -/
def a49 : Ann := { reg := [], cnd := [], lop := [], blk := [], prm := [] }
def T49 (n0 : Option Addr) (k1 : Int) (mask2 : Sl) (w : World) (K : Value → World → Prop) : Prop :=
 Ok Try.prog 76 [(.slice mask2.a mask2.l mask2.c)] w fun v1 w2 =>
 decS v1 fun s3 =>
 nn n0 fun p4 =>
 wr w2 (p4.add 12) (.int .i64 (if 0 > k1 then 0 else k1)) fun w5 =>
 nn n0 fun p6 =>
 wr w5 (p6.add 13) (.slice s3.a s3.l s3.c) fun w7 =>
 K (.tuple #[]) w7
theorem e49 (n0 : Option Addr) (k1 : Int) (mask2 : Sl) (w : World) (K : Value → World → Prop) : exF Try.prog a49 Try.f49 [(.pointer n0), (.int .i64 k1), (.slice mask2.a mask2.l mask2.c)] w K = T49 n0 k1 mask2 w K := by kernel_rfl
theorem b49 : hasB Try.prog 49 = true := by kernel_rfl
theorem f49 : fitsF Try.f49 3 = true := by kernel_rfl
theorem u49 {w : World} {K : Value → World → Prop} {n0 : Option Addr} {k1 : Int} {mask2 : Sl} (h : T49 n0 k1 mask2 w K) : Ok Try.prog 49 [(.pointer n0), (.int .i64 k1), (.slice mask2.a mask2.l mask2.c)] w K :=
  Ok_eq a49 3 mixed Try.func49 b49 f49 rfl (e49 n0 k1 mask2 w K) h

/-! 50: (*nand.Nand).Dead -/
def a50 : Ann := { reg := [], cnd := [], lop := [], blk := [], prm := [] }
def T50 (n0 : Option Addr) (w : World) (K : Value → World → Prop) : Prop :=
 nn n0 fun p1 =>
 rdB w (p1.add 14) fun b2 =>
 K (.bool b2) w
theorem e50 (n0 : Option Addr) (w : World) (K : Value → World → Prop) : exF Try.prog a50 Try.f50 [(.pointer n0)] w K = T50 n0 w K := by kernel_rfl
theorem b50 : hasB Try.prog 50 = true := by kernel_rfl
theorem f50 : fitsF Try.f50 1 = true := by kernel_rfl
theorem u50 {w : World} {K : Value → World → Prop} {n0 : Option Addr} (h : T50 n0 w K) : Ok Try.prog 50 [(.pointer n0)] w K :=
  Ok_eq a50 1 mixed Try.func50 b50 f50 rfl (e50 n0 w K) h

/-! 51: (*nand.Nand).Power -/
def a51 : Ann := { reg := [], cnd := [], lop := [], blk := [], prm := [] }
def T51 (n0 : Option Addr) (w : World) (K : Value → World → Prop) : Prop :=
 nn n0 fun p1 =>
 wr w (p1.add 12) (.int .i64 0) fun w2 =>
 nn n0 fun p3 =>
 wr w2 (p3.add 13) (.slice none 0 0) fun w4 =>
 nn n0 fun p5 =>
 wr w4 (p5.add 14) (.bool false) fun w6 =>
 K (.tuple #[]) w6
theorem e51 (n0 : Option Addr) (w : World) (K : Value → World → Prop) : exF Try.prog a51 Try.f51 [(.pointer n0)] w K = T51 n0 w K := by kernel_rfl
theorem b51 : hasB Try.prog 51 = true := by kernel_rfl
theorem f51 : fitsF Try.f51 1 = true := by kernel_rfl
theorem u51 {w : World} {K : Value → World → Prop} {n0 : Option Addr} (h : T51 n0 w K) : Ok Try.prog 51 [(.pointer n0)] w K :=
  Ok_eq a51 1 mixed Try.func51 b51 f51 rfl (e51 n0 w K) h

/-! 52: (*nand.Nand).IsBad -/
def a52 : Ann := { reg := [(1, [(6, (.one .b))])], cnd := [], lop := [], blk := [], prm := [] }
def T52 (n0 : Option Addr) (die1 : Int) (block2 : Int) (w : World) (K : Value → World → Prop) : Prop :=
 joinT (D := Bool × Unit) (fun k1 =>
 Ok Try.prog 88 [(.pointer n0), (.int .i64 die1), (.int .i64 block2)] w fun v4 w5 =>
 decB v4 fun b6 =>
 cond b6
 (nn n0 fun p7 =>
 rdS w5 (p7.add 11) fun s8 =>
 ix s8.a s8.l die1 fun q9 =>
 rdS w5 (q9.add (die1.toNat * 1)) fun s10 =>
 ix s10.a s10.l block2 fun q11 =>
 rdB w5 ((q11.add (block2.toNat * 3)).add 2) fun b12 =>
 k1 (b12, ()) w5)
 (k1 (false, ()) w5))
 fun d2 w3 => ∀ _ : Regs,
 K (.bool d2.1) w3
theorem e52 (n0 : Option Addr) (die1 : Int) (block2 : Int) (w : World) (K : Value → World → Prop) : exF Try.prog a52 Try.f52 [(.pointer n0), (.int .i64 die1), (.int .i64 block2)] w K = T52 n0 die1 block2 w K := by kernel_rfl
theorem b52 : hasB Try.prog 52 = true := by kernel_rfl
theorem f52 : fitsF Try.f52 3 = true := by kernel_rfl
theorem u52 {w : World} {K : Value → World → Prop} {n0 : Option Addr} {die1 : Int} {block2 : Int} (h : T52 n0 die1 block2 w K) : Ok Try.prog 52 [(.pointer n0), (.int .i64 die1), (.int .i64 block2)] w K :=
  Ok_eq a52 3 mixed Try.func52 b52 f52 rfl (e52 n0 die1 block2 w K) h

/-! 53: (*nand.Nand).Erases -/
def a53 : Ann := { reg := [], cnd := [], lop := [], blk := [], prm := [] }
def T53 (n0 : Option Addr) (die1 : Int) (block2 : Int) (w : World) (K : Value → World → Prop) : Prop :=
 Ok Try.prog 88 [(.pointer n0), (.int .i64 die1), (.int .i64 block2)] w fun v1 w2 =>
 decB v1 fun b3 =>
 cond (!b3)
 (K (.int .i64 0) w2)
 (nn n0 fun p4 =>
 rdS w2 (p4.add 11) fun s5 =>
 ix s5.a s5.l die1 fun q6 =>
 rdS w2 (q6.add (die1.toNat * 1)) fun s7 =>
 ix s7.a s7.l block2 fun q8 =>
 rdI .i64 w2 ((q8.add (block2.toNat * 3)).add 1) fun n9 =>
 K (.int .i64 n9) w2)
theorem e53 (n0 : Option Addr) (die1 : Int) (block2 : Int) (w : World) (K : Value → World → Prop) : exF Try.prog a53 Try.f53 [(.pointer n0), (.int .i64 die1), (.int .i64 block2)] w K = T53 n0 die1 block2 w K := by kernel_rfl
theorem b53 : hasB Try.prog 53 = true := by kernel_rfl
theorem f53 : fitsF Try.f53 3 = true := by kernel_rfl
theorem u53 {w : World} {K : Value → World → Prop} {n0 : Option Addr} {die1 : Int} {block2 : Int} (h : T53 n0 die1 block2 w K) : Ok Try.prog 53 [(.pointer n0), (.int .i64 die1), (.int .i64 block2)] w K :=
  Ok_eq a53 3 mixed Try.func53 b53 f53 rfl (e53 n0 die1 block2 w K) h

/-! 54: ramekinref6.Mix -/
def a54 : Ann := { reg := [(5, [(26, (.one .b))])], cnd := [], lop := [(5, [(8, (.one (.i .i64)))])], blk := [(0, [])], prm := [] }
def T54 (old0 : Sl) (now1 : Sl) (mask2 : Sl) (w : World) (K : Value → World → Prop) : Prop :=
 cond (((old0.l : Nat) : Int) != ((now1.l : Nat) : Int))
 (K (.slice none 0 0) w)
 (al w (.cells #[] 5) fun p1 w2 =>
 raw Try.prog (Builtin.append_ #[22, 22] 22 #[(.slice (some p1) 0 0), (.slice old0.a old0.l old0.c)]) w2 fun v3 w4 =>
 decS v3 fun s5 =>
 joinT (D := Unit) (fun k6 =>
 loopT (D := Int × Unit) (fun d9 w10 k11 => ∀ _ : Regs,
 joinT (D := Bool × Unit) (fun k12 =>
 cond (decide (d9.1 < ((s5.l : Nat) : Int)))
 (k12 ((decide (((mask2.l : Nat) : Int) > 0)), ()) w10)
 (k12 (false, ()) w10))
 fun d13 w14 => ∀ _ : Regs,
 cond d13.1
 ((((mask2.l : Nat) : Int) ≠ 0) ∧
 ix mask2.a mask2.l (Int.tmod d9.1 ((mask2.l : Nat) : Int)) fun q15 =>
 rdI .u8 w14 (q15.add ((Int.tmod d9.1 ((mask2.l : Nat) : Int)).toNat * 1)) fun n16 =>
 ix old0.a old0.l d9.1 fun q17 =>
 rdI .u8 w14.drew (q17.add (d9.1.toNat * 1)) fun n18 =>
 ix now1.a now1.l d9.1 fun q19 =>
 rdI .u8 w14.drew (q19.add (d9.1.toNat * 1)) fun n20 =>
 ix s5.a s5.l d9.1 fun q21 =>
 wr w14.drew (q21.add (d9.1.toNat * 1)) (.int .u8 (bitI .or .u8 (bitI .andNot .u8 n18 n16) (bitI .and .u8 n20 n16))) fun w22 =>
 k11 ((IntKind.wrap .i64 (d9.1 + 1)), ()) w22)
 (k6 () w14))
 (0, ()) w4)
 fun d7 w8 => ∀ _ : Regs,
 K (.slice s5.a s5.l s5.c) w8)
theorem e54 (old0 : Sl) (now1 : Sl) (mask2 : Sl) (w : World) (K : Value → World → Prop) : exF Try.prog a54 Try.f54 [(.slice old0.a old0.l old0.c), (.slice now1.a now1.l now1.c), (.slice mask2.a mask2.l mask2.c)] w K = T54 old0 now1 mask2 w K := by kernel_rfl
theorem b54 : hasB Try.prog 54 = true := by kernel_rfl
theorem f54 : fitsF Try.f54 3 = true := by kernel_rfl
theorem u54 {w : World} {K : Value → World → Prop} {old0 : Sl} {now1 : Sl} {mask2 : Sl} (h : T54 old0 now1 mask2 w K) : Ok Try.prog 54 [(.slice old0.a old0.l old0.c), (.slice now1.a now1.l now1.c), (.slice mask2.a mask2.l mask2.c)] w K :=
  Ok_eq a54 3 mixed Try.func54 b54 f54 rfl (e54 old0 now1 mask2 w K) h

/-! 55: ramekinlaw7.Few -/
def a55 : Ann := { reg := [(4, [(25, (.one .b))])], cnd := [], lop := [(2, [(3, (.one (.i .i64)))])], blk := [(0, [])], prm := [] }
def T55 (l0 : Sl) (w : World) (K : Value → World → Prop) : Prop :=
 joinT (D := Unit) (fun k1 =>
 loopT (D := Int × Unit) (fun d4 w5 k6 => ∀ _ : Regs,
 cond (decide (d4.1 < ((l0.l : Nat) : Int)))
 (joinT (D := Bool × Unit) (fun k7 =>
 ix l0.a l0.l d4.1 fun q10 =>
 rdS w5 ((q10.add (d4.1.toNat * 7)).add 5) fun s11 =>
 cond (decide (((s11.l : Nat) : Int) > 100))
 (k7 (true, ()) w5)
 (ix l0.a l0.l d4.1 fun q12 =>
 rdS w5 ((q12.add (d4.1.toNat * 7)).add 6) fun s13 =>
 k7 ((decide (((s13.l : Nat) : Int) > 20)), ()) w5))
 fun d8 w9 => ∀ _ : Regs,
 cond d8.1
 (K (.bool false) w9)
 (k6 ((IntKind.wrap .i64 (d4.1 + 1)), ()) w9))
 (k1 () w5))
 (0, ()) w)
 fun d2 w3 => ∀ _ : Regs,
 K (.bool (decide (((l0.l : Nat) : Int) ≤ 60))) w3
theorem e55 (l0 : Sl) (w : World) (K : Value → World → Prop) : exF Try.prog a55 Try.f55 [(.slice l0.a l0.l l0.c)] w K = T55 l0 w K := by kernel_rfl
theorem b55 : hasB Try.prog 55 = true := by kernel_rfl
theorem f55 : fitsF Try.f55 1 = true := by kernel_rfl
theorem u55 {w : World} {K : Value → World → Prop} {l0 : Sl} (h : T55 l0 w K) : Ok Try.prog 55 [(.slice l0.a l0.l l0.c)] w K :=
  Ok_eq a55 1 mixed Try.func55 b55 f55 rfl (e55 l0 w K) h

/-! 56: (ramekinlaw7.Act).Do -/
def a56 : Ann := { reg := [(14, [(82, (.one .b))]), (25, [(6, (.one .b))])], cnd := [(82, [(9, (.one (.i .i64)))]), (187, []), (128, [(128, (.one .b))]), (56, [(56, (.one .b))]), (29, [(8, (.one (.i .i64)))])], lop := [], blk := [], prm := [] }
def T56 (a0 : (Int × Int × Int × Int × Int × Sl × Sl × Unit)) (n1 : Option Addr) (x2 : Option Addr) (w : World) (K : Value → World → Prop) : Prop :=
 al w (.cells #[(.int .i64 a0.1), (.int .i64 a0.2.1), (.int .i64 a0.2.2.1), (.int .i64 a0.2.2.2.1), (.int .i64 a0.2.2.2.2.1), (.slice a0.2.2.2.2.2.1.a a0.2.2.2.2.2.1.l a0.2.2.2.2.2.1.c), (.slice a0.2.2.2.2.2.2.1.a a0.2.2.2.2.2.2.1.l a0.2.2.2.2.2.2.1.c)] 72) fun p1 w2 =>
 rdI .i64 w2.drew (p1.add 1) fun n3 =>
 nn x2 fun p4 =>
 rdI .i64 w2.drew p4 fun n5 =>
 rdI .i64 w2.drew (p1.add 2) fun n6 =>
 Ok Try.prog 38 [(.int .i64 n3), (.int .i64 (IntKind.wrap .i64 (n5 + 1)))] w2.drew fun v7 w8 =>
 decI .i64 v7 fun n9 =>
 rdI .i64 w8 (p1.add 2) fun n10 =>
 ((.int .i64 n10) : Value) = (.int .i64 n6) ∧
 Ok Try.prog 38 [(.int .i64 n6), (.int .i64 3)] w8 fun v11 w12 =>
 decI .i64 v11 fun n13 =>
 rdI .i64 w12 (p1.add 4) fun n14 =>
 ((7 : Int) ≠ 0) ∧
 joinT (D := Int × Unit) (fun k15 =>
 cond ((Int.tmod n14 7) == 0)
 (rdI .i64 w12.drew (p1.add 2) fun n18 =>
 nn x2 fun p19 =>
 rdI .i64 w12.drew (p19.add 1) fun n20 =>
 Ok Try.prog 38 [(.int .i64 n18), (.int .i64 (IntKind.wrap .i64 (n20 + 2)))] w12.drew fun v21 w22 =>
 decI .i64 v21 fun n23 =>
 k15 ((IntKind.wrap .i64 (n23 - 1)), ()) w22)
 (k15 (n13, ()) w12))
 fun d16 w17 => ∀ _ : Regs,
 rdI .i64 w17.drew (p1.add 3) fun n24 =>
 nn x2 fun p25 =>
 rdI .i64 w17.drew (p25.add 2) fun n26 =>
 Ok Try.prog 38 [(.int .i64 n24), (.int .i64 (IntKind.wrap .i64 (n26 + 1)))] w17.drew fun v27 w28 =>
 decI .i64 v27 fun n29 =>
 rdI .i64 w28 p1 fun n30 =>
 Ok Try.prog 38 [(.int .i64 n30), (.int .i64 13)] w28 fun v31 w32 =>
 decI .i64 v31 fun n33 =>
 joinT (D := Bool × Unit) (fun k34 =>
 cond (n33 == 0)
 (k34 ((n33 == 0), ()) w32)
 (joinT (D := Bool × Unit) (fun k37 =>
 cond (n33 == 1)
 (k37 ((n33 == 1), ()) w32)
 (joinT (D := Bool × Unit) (fun k40 =>
 cond (n33 == 2)
 (k40 ((n33 == 2), ()) w32)
 (joinT (D := Bool × Unit) (fun k43 =>
 cond (n33 == 3)
 (k43 ((n33 == 3), ()) w32)
 (joinT (D := Bool × Unit) (fun k46 =>
 cond (n33 == 4)
 (k46 ((n33 == 4), ()) w32)
 (k46 ((n33 == 5), ()) w32))
 fun d47 w48 => ∀ _ : Regs,
 k43 (d47.1, ()) w48))
 fun d44 w45 => ∀ _ : Regs,
 k40 (d44.1, ()) w45))
 fun d41 w42 => ∀ _ : Regs,
 k37 (d41.1, ()) w42))
 fun d38 w39 => ∀ _ : Regs,
 k34 (d38.1, ()) w39))
 fun d35 w36 => ∀ _ : Regs,
 joinT (D := Bool × Unit) (fun k49 =>
 cond d35.1
 (joinT (D := Bool × Unit) (fun k52 =>
 nn x2 fun p55 =>
 rdI .i64 w36 p55 fun n56 =>
 cond (decide (n9 < n56))
 (cond (decide (d16.1 ≥ 0))
 (nn x2 fun p57 =>
 rdI .i64 w36 (p57.add 1) fun n58 =>
 k52 ((decide (d16.1 < n58)), ()) w36)
 (k52 (false, ()) w36))
 (k52 (false, ()) w36))
 fun d53 w54 => ∀ _ : Regs,
 joinT (D := Int × Unit) (fun k59 =>
 cond d53.1
 (nn x2 fun p62 =>
 rdS w54 (p62.add 3) fun s63 =>
 ix s63.a s63.l n9 fun q64 =>
 rdS w54 (q64.add (n9.toNat * 1)) fun s65 =>
 ix s65.a s65.l d16.1 fun q66 =>
 rdI .i64 w54 ((q66.add (d16.1.toNat * 4)).add 1) fun n67 =>
 k59 (n67, ()) w54)
 (k59 (n29, ()) w54))
 fun d60 w61 => ∀ _ : Regs,
 rdS w61.drew (p1.add 5) fun s68 =>
 rdS w61.drew (p1.add 5) fun s69 =>
 Ok Try.prog 41 [(.slice s68.a s68.l s68.c), (.int .i64 60)] w61.drew fun v70 w71 =>
 decS v70 fun s72 =>
 rdS w71 (p1.add 5) fun s73 =>
 ((.slice s73.a s73.l s73.c) : Value) = (.slice s69.a s69.l s69.c) ∧
 Ok Try.prog 45 [(.pointer n1), (.int .i64 n9), (.int .i64 d16.1), (.int .i64 d60.1), (.slice s72.a s72.l s72.c)] w71 fun v74 w75 =>
 decI .i64 v74 fun n76 =>
 rdS w75 (p1.add 5) fun s77 =>
 ((.slice s77.a s77.l s77.c) : Value) = (.slice s69.a s69.l s69.c) ∧
 Ok Try.prog 41 [(.slice s69.a s69.l s69.c), (.int .i64 60)] w75 fun v78 w79 =>
 decS v78 fun s80 =>
 Ok Try.prog 98 [(.pointer x2), (.int .i64 n9), (.int .i64 d16.1), (.int .i64 d60.1), (.slice s80.a s80.l s80.c)] w79 fun v81 w82 =>
 decI .i64 v81 fun n83 =>
 K (.bool (n76 == n83)) w82)
 (cond (n33 == 6)
 (rdS w36.drew (p1.add 5) fun s84 =>
 rdS w36.drew (p1.add 5) fun s85 =>
 Ok Try.prog 45 [(.pointer n1), (.int .i64 n9), (.int .i64 d16.1), (.int .i64 n29), (.slice s84.a s84.l s84.c)] w36.drew fun v86 w87 =>
 decI .i64 v86 fun n88 =>
 rdS w87 (p1.add 5) fun s89 =>
 ((.slice s89.a s89.l s89.c) : Value) = (.slice s85.a s85.l s85.c) ∧
 Ok Try.prog 98 [(.pointer x2), (.int .i64 n9), (.int .i64 d16.1), (.int .i64 n29), (.slice s85.a s85.l s85.c)] w87 fun v90 w91 =>
 decI .i64 v90 fun n92 =>
 K (.bool (n88 == n92)) w91)
 (joinT (D := Bool × Unit) (fun k93 =>
 cond (n33 == 7)
 (k93 ((n33 == 7), ()) w36)
 (k93 ((n33 == 8), ()) w36))
 fun d94 w95 => ∀ _ : Regs,
 joinT (D := Bool × Unit) (fun k96 =>
 cond d94.1
 (Ok Try.prog 48 [(.pointer n1), (.int .i64 n9), (.int .i64 d16.1)] w95 fun v99 w100 =>
 decI .i64 v99 fun n101 =>
 Ok Try.prog 99 [(.pointer x2), (.int .i64 n9), (.int .i64 d16.1)] w100 fun v102 w103 =>
 decI .i64 v102 fun n104 =>
 K (.bool (n101 == n104)) w103)
 (cond (n33 == 9)
 (Ok Try.prog 46 [(.pointer n1), (.int .i64 n9), (.int .i64 d16.1), (.int .i64 n29)] w95 fun v105 w106 =>
 dec2 v105 fun v107 v108 =>
 decS v107 fun s109 =>
 decI .i64 v108 fun n110 =>
 Ok Try.prog 100 [(.pointer x2), (.int .i64 n9), (.int .i64 d16.1), (.int .i64 n29)] w106 fun v111 w112 =>
 dec2 v111 fun v113 v114 =>
 decS v113 fun s115 =>
 decI .i64 v114 fun n116 =>
 joinT (D := Bool × Unit) (fun k117 =>
 toStr Try.prog 22 9 (.slice s109.a s109.l s109.c) w112 fun str120 =>
 toStr Try.prog 22 9 (.slice s115.a s115.l s115.c) w112 fun str121 =>
 cond (ByteArray.toList str120 == ByteArray.toList str121)
 (k117 ((n110 == n116), ()) w112)
 (k117 (false, ()) w112))
 fun d118 w119 => ∀ _ : Regs,
 K (.bool d118.1) w119)
 (cond (n33 == 10)
 (rdS w95.drew (p1.add 6) fun s122 =>
 rdS w95.drew (p1.add 6) fun s123 =>
 al w95.drew (.cells #[] 3) fun p124 w125 =>
 rdS w125 (p1.add 6) fun s126 =>
 ((.slice s126.a s126.l s126.c) : Value) = (.slice s122.a s122.l s122.c) ∧
 rdS w125 (p1.add 6) fun s127 =>
 ((.slice s127.a s127.l s127.c) : Value) = (.slice s123.a s123.l s123.c) ∧
 raw Try.prog (Builtin.append_ #[23, 23] 23 #[(.slice (some p124) 0 0), (.slice s122.a s122.l s122.c)]) w125 fun v128 w129 =>
 decS v128 fun s130 =>
 rdS w129 (p1.add 6) fun s131 =>
 ((.slice s131.a s131.l s131.c) : Value) = (.slice s123.a s123.l s123.c) ∧
 Ok Try.prog 42 [(.pointer n1), (.int .i64 n9), (.int .i64 d16.1), (.int .i64 n29), (.slice s130.a s130.l s130.c)] w129 fun v132 w133 =>
 decI .i64 v132 fun n134 =>
 rdS w133 (p1.add 6) fun s135 =>
 ((.slice s135.a s135.l s135.c) : Value) = (.slice s123.a s123.l s123.c) ∧
 Ok Try.prog 101 [(.pointer x2), (.int .i64 n9), (.int .i64 d16.1), (.int .i64 n29), (.slice s123.a s123.l s123.c)] w133 fun v136 w137 =>
 decI .i64 v136 fun n138 =>
 K (.bool (n134 == n138)) w137)
 (joinT (D := Unit) (fun k139 =>
 cond (n33 == 11)
 (rdI .i64 w95.drew (p1.add 4) fun n142 =>
 rdS w95.drew (p1.add 5) fun s143 =>
 Ok Try.prog 38 [(.int .i64 n142), (.int .i64 9)] w95.drew fun v144 w145 =>
 decI .i64 v144 fun n146 =>
 rdS w145 (p1.add 5) fun s147 =>
 ((.slice s147.a s147.l s147.c) : Value) = (.slice s143.a s143.l s143.c) ∧
 Ok Try.prog 49 [(.pointer n1), (.int .i64 (IntKind.wrap .i64 (n146 - 1))), (.slice s143.a s143.l s143.c)] w145 fun v148 w149 =>
 rdI .i64 w149.drew (p1.add 4) fun n150 =>
 rdS w149.drew (p1.add 5) fun s151 =>
 Ok Try.prog 38 [(.int .i64 n150), (.int .i64 9)] w149.drew fun v152 w153 =>
 decI .i64 v152 fun n154 =>
 rdS w153 (p1.add 5) fun s155 =>
 ((.slice s155.a s155.l s155.c) : Value) = (.slice s151.a s151.l s151.c) ∧
 Ok Try.prog 102 [(.pointer x2), (.int .i64 (IntKind.wrap .i64 (n154 - 1))), (.slice s151.a s151.l s151.c)] w153 fun v156 w157 =>
 k139 () w157)
 (Ok Try.prog 51 [(.pointer n1)] w95 fun v158 w159 =>
 Ok Try.prog 58 [(.pointer x2)] w159 fun v160 w161 =>
 k139 () w161))
 fun d140 w141 => ∀ _ : Regs,
 k96 (d94.1, ()) w141))))
 fun d97 w98 => ∀ _ : Regs,
 k49 (d35.1, ()) w98)))
 fun d50 w51 => ∀ _ : Regs,
 K (.bool true) w51
theorem e56 (a0 : (Int × Int × Int × Int × Int × Sl × Sl × Unit)) (n1 : Option Addr) (x2 : Option Addr) (w : World) (K : Value → World → Prop) : exF Try.prog a56 Try.f56 [(.agg #[(.int .i64 a0.1), (.int .i64 a0.2.1), (.int .i64 a0.2.2.1), (.int .i64 a0.2.2.2.1), (.int .i64 a0.2.2.2.2.1), (.slice a0.2.2.2.2.2.1.a a0.2.2.2.2.2.1.l a0.2.2.2.2.2.1.c), (.slice a0.2.2.2.2.2.2.1.a a0.2.2.2.2.2.2.1.l a0.2.2.2.2.2.2.1.c)]), (.pointer n1), (.pointer x2)] w K = T56 a0 n1 x2 w K := by kernel_rfl
theorem b56 : hasB Try.prog 56 = true := by kernel_rfl
theorem f56 : fitsF Try.f56 3 = true := by kernel_rfl
theorem u56 {w : World} {K : Value → World → Prop} {a0 : (Int × Int × Int × Int × Int × Sl × Sl × Unit)} {n1 : Option Addr} {x2 : Option Addr} (h : T56 a0 n1 x2 w K) : Ok Try.prog 56 [(.agg #[(.int .i64 a0.1), (.int .i64 a0.2.1), (.int .i64 a0.2.2.1), (.int .i64 a0.2.2.2.1), (.int .i64 a0.2.2.2.2.1), (.slice a0.2.2.2.2.2.1.a a0.2.2.2.2.2.1.l a0.2.2.2.2.2.1.c), (.slice a0.2.2.2.2.2.2.1.a a0.2.2.2.2.2.2.1.l a0.2.2.2.2.2.2.1.c)]), (.pointer n1), (.pointer x2)] w K :=
  Ok_eq a56 3 mixed Try.func56 b56 f56 rfl (e56 a0 n1 x2 w K) h

/-! 57: ramekinlaw7.Same -/
def a57 : Ann := { reg := [(9, [(78, (.one .b))]), (1, [(40, (.one .b))])], cnd := [], lop := [(7, [(6, (.one (.i .i64)))]), (4, [(5, (.one (.i .i64)))])], blk := [(0, []), (2, [])], prm := [] }
def T57 (n0 : Option Addr) (x1 : Option Addr) (w : World) (K : Value → World → Prop) : Prop :=
 joinT (D := Bool × Unit) (fun k1 =>
 nn x1 fun p4 =>
 rdB w.drew (p4.add 7) fun b5 =>
 Ok Try.prog 50 [(.pointer n0)] w.drew fun v6 w7 =>
 decB v6 fun b8 =>
 rdB w7 (p4.add 7) fun b9 =>
 ((.bool b9) : Value) = (.bool b5) ∧
 cond (!(b8 == b5))
 (k1 (true, ()) w7)
 (nn x1 fun p10 =>
 rdI .i64 w7 (p10.add 9) fun n11 =>
 Ok Try.prog 43 [(.pointer n0)] w7 fun v12 w13 =>
 decI .i64 v12 fun n14 =>
 rdI .i64 w13 (p10.add 9) fun n15 =>
 ((.int .i64 n15) : Value) = (.int .i64 n11) ∧
 cond (n14 != n11)
 (k1 (true, ()) w13)
 (nn x1 fun p16 =>
 rdI .i64 w13 (p16.add 8) fun n17 =>
 Ok Try.prog 44 [(.pointer n0)] w13 fun v18 w19 =>
 decI .i64 v18 fun n20 =>
 rdI .i64 w19 (p16.add 8) fun n21 =>
 ((.int .i64 n21) : Value) = (.int .i64 n17) ∧
 cond (n20 != n17)
 (k1 (true, ()) w19)
 (nn x1 fun p22 =>
 rdI .i64 w19 p22 fun n23 =>
 rdI .i64 w19 (p22.add 1) fun n24 =>
 rdI .i64 w19 (p22.add 2) fun n25 =>
 Ok Try.prog 103 [(.pointer n0)] w19 fun v26 w27 =>
 decG [(.i .i64), (.i .i64), (.i .i64)] v26 fun g28 =>
 rdI .i64 w27 p22 fun n29 =>
 rdI .i64 w27 (p22.add 1) fun n30 =>
 rdI .i64 w27 (p22.add 2) fun n31 =>
 ((.agg #[(.int .i64 n29), (.int .i64 n30), (.int .i64 n31)]) : Value) = (.agg #[(.int .i64 n23), (.int .i64 n24), (.int .i64 n25)]) ∧
 k1 ((!((g28.1 == n23) && ((g28.2.1 == n24) && ((g28.2.2.1 == n25) && true)))), ()) w27))))
 fun d2 w3 => ∀ _ : Regs,
 cond d2.1
 (K (.bool false) w3)
 (joinT (D := Unit) (fun k32 =>
 loopT (D := Int × Unit) (fun d35 w36 k37 => ∀ _ : Regs,
 nn x1 fun p38 =>
 rdI .i64 w36 p38 fun n39 =>
 cond (decide (d35.1 < n39))
 (joinT (D := Unit) (fun k40 =>
 loopT (D := Int × Unit) (fun d43 w44 k45 => ∀ _ : Regs,
 nn x1 fun p46 =>
 rdI .i64 w44 (p46.add 1) fun n47 =>
 cond (decide (d43.1 < n47))
 (joinT (D := Bool × Unit) (fun k48 =>
 Ok Try.prog 53 [(.pointer n0), (.int .i64 d35.1), (.int .i64 d43.1)] w44 fun v51 w52 =>
 decI .i64 v51 fun n53 =>
 Ok Try.prog 104 [(.pointer x1), (.int .i64 d35.1), (.int .i64 d43.1)] w52 fun v54 w55 =>
 decI .i64 v54 fun n56 =>
 cond (n53 != n56)
 (k48 (true, ()) w55)
 (Ok Try.prog 52 [(.pointer n0), (.int .i64 d35.1), (.int .i64 d43.1)] w55 fun v57 w58 =>
 decB v57 fun b59 =>
 Ok Try.prog 105 [(.pointer x1), (.int .i64 d35.1), (.int .i64 d43.1)] w58 fun v60 w61 =>
 decB v60 fun b62 =>
 k48 ((!(b59 == b62)), ()) w61))
 fun d49 w50 => ∀ _ : Regs,
 cond d49.1
 (K (.bool false) w50)
 (k45 ((IntKind.wrap .i64 (d43.1 + 1)), ()) w50))
 (k40 () w44))
 (0, ()) w36)
 fun d41 w42 => ∀ _ : Regs,
 k37 ((IntKind.wrap .i64 (d35.1 + 1)), ()) w42)
 (k32 () w36))
 (0, ()) w3)
 fun d33 w34 => ∀ _ : Regs,
 K (.bool true) w34)
theorem e57 (n0 : Option Addr) (x1 : Option Addr) (w : World) (K : Value → World → Prop) : exF Try.prog a57 Try.f57 [(.pointer n0), (.pointer x1)] w K = T57 n0 x1 w K := by kernel_rfl
theorem b57 : hasB Try.prog 57 = true := by kernel_rfl
theorem f57 : fitsF Try.f57 2 = true := by kernel_rfl
theorem u57 {w : World} {K : Value → World → Prop} {n0 : Option Addr} {x1 : Option Addr} (h : T57 n0 x1 w K) : Ok Try.prog 57 [(.pointer n0), (.pointer x1)] w K :=
  Ok_eq a57 2 mixed Try.func57 b57 f57 rfl (e57 n0 x1 w K) h

/-! 58: (*ramekinref7.Nand).Power -/
def a58 : Ann := { reg := [], cnd := [], lop := [], blk := [], prm := [] }
def T58 (n0 : Option Addr) (w : World) (K : Value → World → Prop) : Prop :=
 nn n0 fun p1 =>
 wr w (p1.add 5) (.int .i64 0) fun w2 =>
 nn n0 fun p3 =>
 wr w2 (p3.add 7) (.bool false) fun w4 =>
 K (.tuple #[]) w4
theorem e58 (n0 : Option Addr) (w : World) (K : Value → World → Prop) : exF Try.prog a58 Try.f58 [(.pointer n0)] w K = T58 n0 w K := by kernel_rfl
theorem b58 : hasB Try.prog 58 = true := by kernel_rfl
theorem f58 : fitsF Try.f58 1 = true := by kernel_rfl
theorem u58 {w : World} {K : Value → World → Prop} {n0 : Option Addr} (h : T58 n0 w K) : Ok Try.prog 58 [(.pointer n0)] w K :=
  Ok_eq a58 1 mixed Try.func58 b58 f58 rfl (e58 n0 w K) h

/-! 59: ramekinlaw7.Pages -/
def a59 : Ann := { reg := [(12, [(64, (.one .b))])], cnd := [], lop := [(8, [(7, (.one (.i .i64)))]), (5, [(6, (.one (.i .i64)))]), (2, [(5, (.one (.i .i64)))])], blk := [(0, []), (2, []), (4, [])], prm := [] }
def T59 (n0 : Option Addr) (x1 : Option Addr) (w : World) (K : Value → World → Prop) : Prop :=
 joinT (D := Unit) (fun k1 =>
 loopT (D := Int × Unit) (fun d4 w5 k6 => ∀ _ : Regs,
 nn x1 fun p7 =>
 rdI .i64 w5 p7 fun n8 =>
 cond (decide (d4.1 < n8))
 (joinT (D := Unit) (fun k9 =>
 loopT (D := Int × Unit) (fun d12 w13 k14 => ∀ _ : Regs,
 nn x1 fun p15 =>
 rdI .i64 w13 (p15.add 1) fun n16 =>
 cond (decide (d12.1 < n16))
 (joinT (D := Unit) (fun k17 =>
 loopT (D := Int × Unit) (fun d20 w21 k22 => ∀ _ : Regs,
 nn x1 fun p23 =>
 rdI .i64 w21 (p23.add 2) fun n24 =>
 cond (decide (d20.1 < n24))
 (Ok Try.prog 46 [(.pointer n0), (.int .i64 d4.1), (.int .i64 d12.1), (.int .i64 d20.1)] w21 fun v25 w26 =>
 dec2 v25 fun v27 v28 =>
 decS v27 fun s29 =>
 decI .i64 v28 fun n30 =>
 Ok Try.prog 100 [(.pointer x1), (.int .i64 d4.1), (.int .i64 d12.1), (.int .i64 d20.1)] w26 fun v31 w32 =>
 dec2 v31 fun v33 v34 =>
 decS v33 fun s35 =>
 decI .i64 v34 fun n36 =>
 joinT (D := Bool × Unit) (fun k37 =>
 toStr Try.prog 22 9 (.slice s29.a s29.l s29.c) w32 fun str40 =>
 toStr Try.prog 22 9 (.slice s35.a s35.l s35.c) w32 fun str41 =>
 cond (!(ByteArray.toList str40 == ByteArray.toList str41))
 (k37 (true, ()) w32)
 (k37 ((n30 != n36), ()) w32))
 fun d38 w39 => ∀ _ : Regs,
 cond d38.1
 (K (.bool false) w39)
 (k22 ((IntKind.wrap .i64 (d20.1 + 1)), ()) w39))
 (k17 () w21))
 (0, ()) w13)
 fun d18 w19 => ∀ _ : Regs,
 k14 ((IntKind.wrap .i64 (d12.1 + 1)), ()) w19)
 (k9 () w13))
 (0, ()) w5)
 fun d10 w11 => ∀ _ : Regs,
 k6 ((IntKind.wrap .i64 (d4.1 + 1)), ()) w11)
 (k1 () w5))
 (0, ()) w)
 fun d2 w3 => ∀ _ : Regs,
 K (.bool true) w3
theorem e59 (n0 : Option Addr) (x1 : Option Addr) (w : World) (K : Value → World → Prop) : exF Try.prog a59 Try.f59 [(.pointer n0), (.pointer x1)] w K = T59 n0 x1 w K := by kernel_rfl
theorem b59 : hasB Try.prog 59 = true := by kernel_rfl
theorem f59 : fitsF Try.f59 2 = true := by kernel_rfl
theorem u59 {w : World} {K : Value → World → Prop} {n0 : Option Addr} {x1 : Option Addr} (h : T59 n0 x1 w K) : Ok Try.prog 59 [(.pointer n0), (.pointer x1)] w K :=
  Ok_eq a59 2 mixed Try.func59 b59 f59 rfl (e59 n0 x1 w K) h

/-! 84: nand.fits -/
def a84 : Ann := { reg := [(1, [(2, (.one .b))])], cnd := [], lop := [], blk := [], prm := [] }
def T84 (g0 : (Int × Int × Int × Unit)) (w : World) (K : Value → World → Prop) : Prop :=
 al w (.cells #[(.int .i64 g0.1), (.int .i64 g0.2.1), (.int .i64 g0.2.2.1)] 29) fun p1 w2 =>
 joinT (D := Bool × Unit) (fun k3 =>
 rdI .i64 w2 p1 fun n6 =>
 cond (decide (n6 ≥ 6))
 (rdI .i64 w2 p1 fun n7 =>
 cond (decide (n7 ≤ 8))
 (rdI .i64 w2 (p1.add 1) fun n8 =>
 cond (decide (n8 ≥ 8))
 (rdI .i64 w2 (p1.add 1) fun n9 =>
 cond (decide (n9 ≤ 12))
 (rdI .i64 w2 (p1.add 2) fun n10 =>
 cond (decide (n10 ≥ 4))
 (rdI .i64 w2 (p1.add 2) fun n11 =>
 k3 ((decide (n11 ≤ 8)), ()) w2)
 (k3 (false, ()) w2))
 (k3 (false, ()) w2))
 (k3 (false, ()) w2))
 (k3 (false, ()) w2))
 (k3 (false, ()) w2))
 fun d4 w5 => ∀ _ : Regs,
 K (.bool d4.1) w5
theorem e84 (g0 : (Int × Int × Int × Unit)) (w : World) (K : Value → World → Prop) : exF Try.prog a84 Try.f84 [(.agg #[(.int .i64 g0.1), (.int .i64 g0.2.1), (.int .i64 g0.2.2.1)])] w K = T84 g0 w K := by kernel_rfl
theorem b84 : hasB Try.prog 84 = true := by kernel_rfl
theorem f84 : fitsF Try.f84 1 = true := by kernel_rfl
theorem u84 {w : World} {K : Value → World → Prop} {g0 : (Int × Int × Int × Unit)} (h : T84 g0 w K) : Ok Try.prog 84 [(.agg #[(.int .i64 g0.1), (.int .i64 g0.2.1), (.int .i64 g0.2.2.1)])] w K :=
  Ok_eq a84 1 mixed Try.func84 b84 f84 rfl (e84 g0 w K) h

/-! 85: nand.none[[]byte] -/
def a85 : Ann := { reg := [], cnd := [], lop := [], blk := [], prm := [] }
def T85 (g0 : (Int × Int × Int × Unit)) (w : World) (K : Value → World → Prop) : Prop :=
 al w (.cells #[(.int .i64 g0.1), (.int .i64 g0.2.1), (.int .i64 g0.2.2.1)] 29) fun p1 w2 =>
 al w2 (.cells #[(.int .i64 0), (.int .i64 0), (.int .i64 0), (.slice none 0 0)] 104) fun p3 w4 =>
 rdI .i64 w4.drew p1 fun n5 =>
 rdI .i64 w4.drew (p1.add 1) fun n6 =>
 rdI .i64 w4.drew (p1.add 2) fun n7 =>
 rdI .i64 w4.drew p1 fun n8 =>
 rdI .i64 w4.drew (p1.add 1) fun n9 =>
 rdI .i64 w4.drew (p1.add 2) fun n10 =>
 (0 : Int) ≤ (IntKind.wrap .i64 ((IntKind.wrap .i64 (n8 * n9)) * n10)) ∧ (IntKind.wrap .i64 ((IntKind.wrap .i64 (n8 * n9)) * n10)) ≤ (IntKind.wrap .i64 ((IntKind.wrap .i64 (n8 * n9)) * n10)) ∧ ((24 : Nat) : Int) * (IntKind.wrap .i64 ((IntKind.wrap .i64 (n8 * n9)) * n10)) ≤ 281474976710656 ∧ (IntKind.wrap .i64 ((IntKind.wrap .i64 (n8 * n9)) * n10)) ≤ 281474976710656 ∧
 al w4.drew (.cells (zeroRow #[(.slice none 0 0)] ((Int.toNat (IntKind.wrap .i64 ((IntKind.wrap .i64 (n8 * n9)) * n10))) * 1)) 22) fun p11 w12 =>
 rdI .i64 w12 p1 fun n13 =>
 rdI .i64 w12 (p1.add 1) fun n14 =>
 rdI .i64 w12 (p1.add 2) fun n15 =>
 ((.agg #[(.int .i64 n13), (.int .i64 n14), (.int .i64 n15)]) : Value) = (.agg #[(.int .i64 n5), (.int .i64 n6), (.int .i64 n7)]) ∧
 wr w12 p3 (.int .i64 n5) fun w16 =>
 wr w16 (p3.add 1) (.int .i64 n6) fun w17 =>
 wr w17 (p3.add 2) (.int .i64 n7) fun w18 =>
 wr w18 (p3.add 3) (.slice (some p11) (Int.toNat (IntKind.wrap .i64 ((IntKind.wrap .i64 (n8 * n9)) * n10))) (Int.toNat (IntKind.wrap .i64 ((IntKind.wrap .i64 (n8 * n9)) * n10)))) fun w19 =>
 rdI .i64 w19 p3 fun n20 =>
 rdI .i64 w19 (p3.add 1) fun n21 =>
 rdI .i64 w19 (p3.add 2) fun n22 =>
 rdS w19 (p3.add 3) fun s23 =>
 K (.agg #[(.int .i64 n20), (.int .i64 n21), (.int .i64 n22), (.slice s23.a s23.l s23.c)]) w19
theorem e85 (g0 : (Int × Int × Int × Unit)) (w : World) (K : Value → World → Prop) : exF Try.prog a85 Try.f85 [(.agg #[(.int .i64 g0.1), (.int .i64 g0.2.1), (.int .i64 g0.2.2.1)])] w K = T85 g0 w K := by kernel_rfl
theorem b85 : hasB Try.prog 85 = true := by kernel_rfl
theorem f85 : fitsF Try.f85 1 = true := by kernel_rfl
theorem u85 {w : World} {K : Value → World → Prop} {g0 : (Int × Int × Int × Unit)} (h : T85 g0 w K) : Ok Try.prog 85 [(.agg #[(.int .i64 g0.1), (.int .i64 g0.2.1), (.int .i64 g0.2.2.1)])] w K :=
  Ok_eq a85 1 mixed Try.func85 b85 f85 rfl (e85 g0 w K) h

/-! 86: nand.none[[]int] -/
def a86 : Ann := { reg := [], cnd := [], lop := [], blk := [], prm := [] }
def T86 (g0 : (Int × Int × Int × Unit)) (w : World) (K : Value → World → Prop) : Prop :=
 al w (.cells #[(.int .i64 g0.1), (.int .i64 g0.2.1), (.int .i64 g0.2.2.1)] 29) fun p1 w2 =>
 al w2 (.cells #[(.int .i64 0), (.int .i64 0), (.int .i64 0), (.slice none 0 0)] 107) fun p3 w4 =>
 rdI .i64 w4.drew p1 fun n5 =>
 rdI .i64 w4.drew (p1.add 1) fun n6 =>
 rdI .i64 w4.drew (p1.add 2) fun n7 =>
 rdI .i64 w4.drew p1 fun n8 =>
 rdI .i64 w4.drew (p1.add 1) fun n9 =>
 rdI .i64 w4.drew (p1.add 2) fun n10 =>
 (0 : Int) ≤ (IntKind.wrap .i64 ((IntKind.wrap .i64 (n8 * n9)) * n10)) ∧ (IntKind.wrap .i64 ((IntKind.wrap .i64 (n8 * n9)) * n10)) ≤ (IntKind.wrap .i64 ((IntKind.wrap .i64 (n8 * n9)) * n10)) ∧ ((24 : Nat) : Int) * (IntKind.wrap .i64 ((IntKind.wrap .i64 (n8 * n9)) * n10)) ≤ 281474976710656 ∧ (IntKind.wrap .i64 ((IntKind.wrap .i64 (n8 * n9)) * n10)) ≤ 281474976710656 ∧
 al w4.drew (.cells (zeroRow #[(.slice none 0 0)] ((Int.toNat (IntKind.wrap .i64 ((IntKind.wrap .i64 (n8 * n9)) * n10))) * 1)) 23) fun p11 w12 =>
 rdI .i64 w12 p1 fun n13 =>
 rdI .i64 w12 (p1.add 1) fun n14 =>
 rdI .i64 w12 (p1.add 2) fun n15 =>
 ((.agg #[(.int .i64 n13), (.int .i64 n14), (.int .i64 n15)]) : Value) = (.agg #[(.int .i64 n5), (.int .i64 n6), (.int .i64 n7)]) ∧
 wr w12 p3 (.int .i64 n5) fun w16 =>
 wr w16 (p3.add 1) (.int .i64 n6) fun w17 =>
 wr w17 (p3.add 2) (.int .i64 n7) fun w18 =>
 wr w18 (p3.add 3) (.slice (some p11) (Int.toNat (IntKind.wrap .i64 ((IntKind.wrap .i64 (n8 * n9)) * n10))) (Int.toNat (IntKind.wrap .i64 ((IntKind.wrap .i64 (n8 * n9)) * n10)))) fun w19 =>
 rdI .i64 w19 p3 fun n20 =>
 rdI .i64 w19 (p3.add 1) fun n21 =>
 rdI .i64 w19 (p3.add 2) fun n22 =>
 rdS w19 (p3.add 3) fun s23 =>
 K (.agg #[(.int .i64 n20), (.int .i64 n21), (.int .i64 n22), (.slice s23.a s23.l s23.c)]) w19
theorem e86 (g0 : (Int × Int × Int × Unit)) (w : World) (K : Value → World → Prop) : exF Try.prog a86 Try.f86 [(.agg #[(.int .i64 g0.1), (.int .i64 g0.2.1), (.int .i64 g0.2.2.1)])] w K = T86 g0 w K := by kernel_rfl
theorem b86 : hasB Try.prog 86 = true := by kernel_rfl
theorem f86 : fitsF Try.f86 1 = true := by kernel_rfl
theorem u86 {w : World} {K : Value → World → Prop} {g0 : (Int × Int × Int × Unit)} (h : T86 g0 w K) : Ok Try.prog 86 [(.agg #[(.int .i64 g0.1), (.int .i64 g0.2.1), (.int .i64 g0.2.2.1)])] w K :=
  Ok_eq a86 1 mixed Try.func86 b86 f86 rfl (e86 g0 w K) h

/-! 87: nand.blank -/
def a87 : Ann := { reg := [], cnd := [], lop := [], blk := [], prm := [] }
def T87  (w : World) (K : Value → World → Prop) : Prop :=
 al w (.cells #[(.int .u8 255)] 5) fun p1 w2 =>
 Ok Try.prog 121 [(.slice (some p1) 1 1), (.int .i64 60)] w2 fun v3 w4 =>
 decS v3 fun s5 =>
 K (.slice s5.a s5.l s5.c) w4
theorem e87  (w : World) (K : Value → World → Prop) : exF Try.prog a87 Try.f87 [] w K = T87  w K := by kernel_rfl
theorem b87 : hasB Try.prog 87 = true := by kernel_rfl
theorem f87 : fitsF Try.f87 0 = true := by kernel_rfl
theorem u87 {w : World} {K : Value → World → Prop}  (h : T87  w K) : Ok Try.prog 87 [] w K :=
  Ok_eq a87 0 mixed Try.func87 b87 f87 rfl (e87  w K) h

/-! 88: (*nand.Nand).there -/
def a88 : Ann := { reg := [(1, [(6, (.one .b))])], cnd := [], lop := [], blk := [], prm := [] }
def T88 (n0 : Option Addr) (die1 : Int) (block2 : Int) (w : World) (K : Value → World → Prop) : Prop :=
 joinT (D := Bool × Unit) (fun k1 =>
 cond (decide (die1 ≥ 0))
 (nn n0 fun p4 =>
 rdI .i64 w p4 fun n5 =>
 cond (decide (die1 < n5))
 (cond (decide (block2 ≥ 0))
 (nn n0 fun p6 =>
 rdI .i64 w (p6.add 1) fun n7 =>
 k1 ((decide (block2 < n7)), ()) w)
 (k1 (false, ()) w))
 (k1 (false, ()) w))
 (k1 (false, ()) w))
 fun d2 w3 => ∀ _ : Regs,
 K (.bool d2.1) w3
theorem e88 (n0 : Option Addr) (die1 : Int) (block2 : Int) (w : World) (K : Value → World → Prop) : exF Try.prog a88 Try.f88 [(.pointer n0), (.int .i64 die1), (.int .i64 block2)] w K = T88 n0 die1 block2 w K := by kernel_rfl
theorem b88 : hasB Try.prog 88 = true := by kernel_rfl
theorem f88 : fitsF Try.f88 3 = true := by kernel_rfl
theorem u88 {w : World} {K : Value → World → Prop} {n0 : Option Addr} {die1 : Int} {block2 : Int} (h : T88 n0 die1 block2 w K) : Ok Try.prog 88 [(.pointer n0), (.int .i64 die1), (.int .i64 block2)] w K :=
  Ok_eq a88 3 mixed Try.func88 b88 f88 rfl (e88 n0 die1 block2 w K) h

/-! 89: ramekinref7.ones -/
def a89 : Ann := { reg := [], cnd := [], lop := [(3, [(2, (.one (.i .i64)))])], blk := [(0, [])], prm := [] }
def T89  (w : World) (K : Value → World → Prop) : Prop :=
 (0 : Int) ≤ 60 ∧ (60 : Int) ≤ 60 ∧ ((1 : Nat) : Int) * 60 ≤ 281474976710656 ∧ (60 : Int) ≤ 281474976710656 ∧
 al w (.cells (zeroRow #[(.int .u8 0)] (60 * 1)) 5) fun p1 w2 =>
 joinT (D := Unit) (fun k3 =>
 loopT (D := Int × Unit) (fun d6 w7 k8 => ∀ _ : Regs,
 cond (decide (d6.1 < 60))
 (ix (some p1) 60 d6.1 fun q9 =>
 wr w7 (q9.add (d6.1.toNat * 1)) (.int .u8 255) fun w10 =>
 k8 ((IntKind.wrap .i64 (d6.1 + 1)), ()) w10)
 (k3 () w7))
 (0, ()) w2)
 fun d4 w5 => ∀ _ : Regs,
 K (.slice (some p1) 60 60) w5
theorem e89  (w : World) (K : Value → World → Prop) : exF Try.prog a89 Try.f89 [] w K = T89  w K := by kernel_rfl
theorem b89 : hasB Try.prog 89 = true := by kernel_rfl
theorem f89 : fitsF Try.f89 0 = true := by kernel_rfl
theorem u89 {w : World} {K : Value → World → Prop}  (h : T89  w K) : Ok Try.prog 89 [] w K :=
  Ok_eq a89 0 mixed Try.func89 b89 f89 rfl (e89  w K) h

/-! 90: (*ramekinref7.Nand).there -/
def a90 : Ann := { reg := [(1, [(6, (.one .b))])], cnd := [], lop := [], blk := [], prm := [] }
def T90 (n0 : Option Addr) (die1 : Int) (block2 : Int) (w : World) (K : Value → World → Prop) : Prop :=
 joinT (D := Bool × Unit) (fun k1 =>
 cond (decide (die1 ≥ 0))
 (nn n0 fun p4 =>
 rdI .i64 w p4 fun n5 =>
 cond (decide (die1 < n5))
 (cond (decide (block2 ≥ 0))
 (nn n0 fun p6 =>
 rdI .i64 w (p6.add 1) fun n7 =>
 k1 ((decide (block2 < n7)), ()) w)
 (k1 (false, ()) w))
 (k1 (false, ()) w))
 (k1 (false, ()) w))
 fun d2 w3 => ∀ _ : Regs,
 K (.bool d2.1) w3
theorem e90 (n0 : Option Addr) (die1 : Int) (block2 : Int) (w : World) (K : Value → World → Prop) : exF Try.prog a90 Try.f90 [(.pointer n0), (.int .i64 die1), (.int .i64 block2)] w K = T90 n0 die1 block2 w K := by kernel_rfl
theorem b90 : hasB Try.prog 90 = true := by kernel_rfl
theorem f90 : fitsF Try.f90 3 = true := by kernel_rfl
theorem u90 {w : World} {K : Value → World → Prop} {n0 : Option Addr} {die1 : Int} {block2 : Int} (h : T90 n0 die1 block2 w K) : Ok Try.prog 90 [(.pointer n0), (.int .i64 die1), (.int .i64 block2)] w K :=
  Ok_eq a90 3 mixed Try.func90 b90 f90 rfl (e90 n0 die1 block2 w K) h

/-! 91: (*nand.Nand).page -/
def a91 : Ann := { reg := [(1, [(8, (.one .b))])], cnd := [], lop := [], blk := [], prm := [] }
def T91 (n0 : Option Addr) (die1 : Int) (block2 : Int) (page3 : Int) (w : World) (K : Value → World → Prop) : Prop :=
 joinT (D := Bool × Unit) (fun k1 =>
 Ok Try.prog 88 [(.pointer n0), (.int .i64 die1), (.int .i64 block2)] w fun v4 w5 =>
 decB v4 fun b6 =>
 cond b6
 (cond (decide (page3 ≥ 0))
 (nn n0 fun p7 =>
 rdI .i64 w5 (p7.add 2) fun n8 =>
 k1 ((decide (page3 < n8)), ()) w5)
 (k1 (false, ()) w5))
 (k1 (false, ()) w5))
 fun d2 w3 => ∀ _ : Regs,
 K (.bool d2.1) w3
theorem e91 (n0 : Option Addr) (die1 : Int) (block2 : Int) (page3 : Int) (w : World) (K : Value → World → Prop) : exF Try.prog a91 Try.f91 [(.pointer n0), (.int .i64 die1), (.int .i64 block2), (.int .i64 page3)] w K = T91 n0 die1 block2 page3 w K := by kernel_rfl
theorem b91 : hasB Try.prog 91 = true := by kernel_rfl
theorem f91 : fitsF Try.f91 4 = true := by kernel_rfl
theorem u91 {w : World} {K : Value → World → Prop} {n0 : Option Addr} {die1 : Int} {block2 : Int} {page3 : Int} (h : T91 n0 die1 block2 page3 w K) : Ok Try.prog 91 [(.pointer n0), (.int .i64 die1), (.int .i64 block2), (.int .i64 page3)] w K :=
  Ok_eq a91 4 mixed Try.func91 b91 f91 rfl (e91 n0 die1 block2 page3 w K) h

/-! 92: (nand.cells[[]int]).at -/
def a92 : Ann := { reg := [], cnd := [], lop := [], blk := [], prm := [] }
def T92 (c0 : (Int × Int × Int × Sl × Unit)) (die1 : Int) (block2 : Int) (page3 : Int) (w : World) (K : Value → World → Prop) : Prop :=
 al w (.cells #[(.int .i64 c0.1), (.int .i64 c0.2.1), (.int .i64 c0.2.2.1), (.slice c0.2.2.2.1.a c0.2.2.2.1.l c0.2.2.2.1.c)] 107) fun p1 w2 =>
 rdS w2 (p1.add 3) fun s3 =>
 rdI .i64 w2 (p1.add 1) fun n4 =>
 rdI .i64 w2 (p1.add 2) fun n5 =>
 ix s3.a s3.l (IntKind.wrap .i64 ((IntKind.wrap .i64 ((IntKind.wrap .i64 ((IntKind.wrap .i64 (die1 * n4)) + block2)) * n5)) + page3)) fun q6 =>
 K (.pointer (some (q6.add ((IntKind.wrap .i64 ((IntKind.wrap .i64 ((IntKind.wrap .i64 ((IntKind.wrap .i64 (die1 * n4)) + block2)) * n5)) + page3)).toNat * 1)))) w2
theorem e92 (c0 : (Int × Int × Int × Sl × Unit)) (die1 : Int) (block2 : Int) (page3 : Int) (w : World) (K : Value → World → Prop) : exF Try.prog a92 Try.f92 [(.agg #[(.int .i64 c0.1), (.int .i64 c0.2.1), (.int .i64 c0.2.2.1), (.slice c0.2.2.2.1.a c0.2.2.2.1.l c0.2.2.2.1.c)]), (.int .i64 die1), (.int .i64 block2), (.int .i64 page3)] w K = T92 c0 die1 block2 page3 w K := by kernel_rfl
theorem b92 : hasB Try.prog 92 = true := by kernel_rfl
theorem f92 : fitsF Try.f92 4 = true := by kernel_rfl
theorem u92 {w : World} {K : Value → World → Prop} {c0 : (Int × Int × Int × Sl × Unit)} {die1 : Int} {block2 : Int} {page3 : Int} (h : T92 c0 die1 block2 page3 w K) : Ok Try.prog 92 [(.agg #[(.int .i64 c0.1), (.int .i64 c0.2.1), (.int .i64 c0.2.2.1), (.slice c0.2.2.2.1.a c0.2.2.2.1.l c0.2.2.2.1.c)]), (.int .i64 die1), (.int .i64 block2), (.int .i64 page3)] w K :=
  Ok_eq a92 4 mixed Try.func92 b92 f92 rfl (e92 c0 die1 block2 page3 w K) h

/-! 93: (*nand.Nand).ask -/
def a93 : Ann := { reg := [], cnd := [], lop := [], blk := [], prm := [] }
def T93 (n0 : Option Addr) (fine1 : Bool) (w : World) (K : Value → World → Prop) : Prop :=
 nn n0 fun p1 =>
 rdB w (p1.add 14) fun b2 =>
 cond b2
 (K (.int .i64 8) w)
 (cond (!fine1)
 (nn n0 fun p3 =>
 rdI .i64 w (p3.add 16) fun n4 =>
 nn n0 fun p5 =>
 wr w (p5.add 16) (.int .i64 (IntKind.wrap .i64 (n4 + 1))) fun w6 =>
 K (.int .i64 1) w6)
 (nn n0 fun p7 =>
 rdI .i64 w (p7.add 15) fun n8 =>
 nn n0 fun p9 =>
 wr w (p9.add 15) (.int .i64 (IntKind.wrap .i64 (n8 + 1))) fun w10 =>
 K (.int .i64 0) w10))
theorem e93 (n0 : Option Addr) (fine1 : Bool) (w : World) (K : Value → World → Prop) : exF Try.prog a93 Try.f93 [(.pointer n0), (.bool fine1)] w K = T93 n0 fine1 w K := by kernel_rfl
theorem b93 : hasB Try.prog 93 = true := by kernel_rfl
theorem f93 : fitsF Try.f93 2 = true := by kernel_rfl
theorem u93 {w : World} {K : Value → World → Prop} {n0 : Option Addr} {fine1 : Bool} (h : T93 n0 fine1 w K) : Ok Try.prog 93 [(.pointer n0), (.bool fine1)] w K :=
  Ok_eq a93 2 mixed Try.func93 b93 f93 rfl (e93 n0 fine1 w K) h

/-! 94: (nand.cells[[]byte]).at -/
def a94 : Ann := { reg := [], cnd := [], lop := [], blk := [], prm := [] }
def T94 (c0 : (Int × Int × Int × Sl × Unit)) (die1 : Int) (block2 : Int) (page3 : Int) (w : World) (K : Value → World → Prop) : Prop :=
 al w (.cells #[(.int .i64 c0.1), (.int .i64 c0.2.1), (.int .i64 c0.2.2.1), (.slice c0.2.2.2.1.a c0.2.2.2.1.l c0.2.2.2.1.c)] 104) fun p1 w2 =>
 rdS w2 (p1.add 3) fun s3 =>
 rdI .i64 w2 (p1.add 1) fun n4 =>
 rdI .i64 w2 (p1.add 2) fun n5 =>
 ix s3.a s3.l (IntKind.wrap .i64 ((IntKind.wrap .i64 ((IntKind.wrap .i64 ((IntKind.wrap .i64 (die1 * n4)) + block2)) * n5)) + page3)) fun q6 =>
 K (.pointer (some (q6.add ((IntKind.wrap .i64 ((IntKind.wrap .i64 ((IntKind.wrap .i64 ((IntKind.wrap .i64 (die1 * n4)) + block2)) * n5)) + page3)).toNat * 1)))) w2
theorem e94 (c0 : (Int × Int × Int × Sl × Unit)) (die1 : Int) (block2 : Int) (page3 : Int) (w : World) (K : Value → World → Prop) : exF Try.prog a94 Try.f94 [(.agg #[(.int .i64 c0.1), (.int .i64 c0.2.1), (.int .i64 c0.2.2.1), (.slice c0.2.2.2.1.a c0.2.2.2.1.l c0.2.2.2.1.c)]), (.int .i64 die1), (.int .i64 block2), (.int .i64 page3)] w K = T94 c0 die1 block2 page3 w K := by kernel_rfl
theorem b94 : hasB Try.prog 94 = true := by kernel_rfl
theorem f94 : fitsF Try.f94 4 = true := by kernel_rfl
theorem u94 {w : World} {K : Value → World → Prop} {c0 : (Int × Int × Int × Sl × Unit)} {die1 : Int} {block2 : Int} {page3 : Int} (h : T94 c0 die1 block2 page3 w K) : Ok Try.prog 94 [(.agg #[(.int .i64 c0.1), (.int .i64 c0.2.1), (.int .i64 c0.2.2.1), (.slice c0.2.2.2.1.a c0.2.2.2.1.l c0.2.2.2.1.c)]), (.int .i64 die1), (.int .i64 block2), (.int .i64 page3)] w K :=
  Ok_eq a94 4 mixed Try.func94 b94 f94 rfl (e94 c0 die1 block2 page3 w K) h

/-! 95: (*nand.Nand).goes -/
def a95 : Ann := { reg := [], cnd := [], lop := [], blk := [], prm := [] }
def T95 (n0 : Option Addr) (w : World) (K : Value → World → Prop) : Prop :=
 nn n0 fun p1 =>
 rdI .i64 w (p1.add 12) fun n2 =>
 cond (decide (n2 < 1))
 (K (.bool false) w)
 (nn n0 fun p3 =>
 rdI .i64 w (p3.add 12) fun n4 =>
 nn n0 fun p5 =>
 wr w (p5.add 12) (.int .i64 (IntKind.wrap .i64 (n4 - 1))) fun w6 =>
 nn n0 fun p7 =>
 rdI .i64 w6 (p7.add 12) fun n8 =>
 nn n0 fun p9 =>
 wr w6 (p9.add 14) (.bool (n8 == 0)) fun w10 =>
 nn n0 fun p11 =>
 rdB w10 (p11.add 14) fun b12 =>
 K (.bool b12) w10)
theorem e95 (n0 : Option Addr) (w : World) (K : Value → World → Prop) : exF Try.prog a95 Try.f95 [(.pointer n0)] w K = T95 n0 w K := by kernel_rfl
theorem b95 : hasB Try.prog 95 = true := by kernel_rfl
theorem f95 : fitsF Try.f95 1 = true := by kernel_rfl
theorem u95 {w : World} {K : Value → World → Prop} {n0 : Option Addr} (h : T95 n0 w K) : Ok Try.prog 95 [(.pointer n0)] w K :=
  Ok_eq a95 1 mixed Try.func95 b95 f95 rfl (e95 n0 w K) h

/-! 96: bits.Mix -/
def a96 : Ann := { reg := [], cnd := [(24, [])], lop := [(5, [(19, (.one (.i .i64)))])], blk := [(0, [])], prm := [] }
def T96 (old0 : Sl) (now1 : Sl) (mask2 : Sl) (w : World) (K : Value → World → Prop) : Prop :=
 cond (((old0.l : Nat) : Int) != ((now1.l : Nat) : Int))
 (K (.slice none 0 0) w)
 (Ok Try.prog 76 [(.slice old0.a old0.l old0.c)] w fun v1 w2 =>
 decS v1 fun s3 =>
 joinT (D := Unit) (fun k4 =>
 loopT (D := Int × Unit) (fun d7 w8 k9 => ∀ _ : Regs,
 cond (decide (d7.1 < ((s3.l : Nat) : Int)))
 (joinT (D := Unit) (fun k10 =>
 cond (decide (((mask2.l : Nat) : Int) > 0))
 ((((mask2.l : Nat) : Int) ≠ 0) ∧
 ix mask2.a mask2.l (Int.tmod d7.1 ((mask2.l : Nat) : Int)) fun q13 =>
 rdI .u8 w8 (q13.add ((Int.tmod d7.1 ((mask2.l : Nat) : Int)).toNat * 1)) fun n14 =>
 ix old0.a old0.l d7.1 fun q15 =>
 rdI .u8 w8.drew (q15.add (d7.1.toNat * 1)) fun n16 =>
 ix now1.a now1.l d7.1 fun q17 =>
 rdI .u8 w8.drew (q17.add (d7.1.toNat * 1)) fun n18 =>
 ix s3.a s3.l d7.1 fun q19 =>
 wr w8.drew (q19.add (d7.1.toNat * 1)) (.int .u8 (bitI .or .u8 (bitI .andNot .u8 n16 n14) (bitI .and .u8 n18 n14))) fun w20 =>
 k10 () w20)
 (k10 () w8))
 fun d11 w12 => ∀ _ : Regs,
 k9 ((IntKind.wrap .i64 (d7.1 + 1)), ()) w12)
 (k4 () w8))
 (0, ()) w2)
 fun d5 w6 => ∀ _ : Regs,
 Ok Try.prog 76 [(.slice s3.a s3.l s3.c)] w6 fun v21 w22 =>
 decS v21 fun s23 =>
 K (.slice s23.a s23.l s23.c) w22)
theorem e96 (old0 : Sl) (now1 : Sl) (mask2 : Sl) (w : World) (K : Value → World → Prop) : exF Try.prog a96 Try.f96 [(.slice old0.a old0.l old0.c), (.slice now1.a now1.l now1.c), (.slice mask2.a mask2.l mask2.c)] w K = T96 old0 now1 mask2 w K := by kernel_rfl
theorem b96 : hasB Try.prog 96 = true := by kernel_rfl
theorem f96 : fitsF Try.f96 3 = true := by kernel_rfl
theorem u96 {w : World} {K : Value → World → Prop} {old0 : Sl} {now1 : Sl} {mask2 : Sl} (h : T96 old0 now1 mask2 w K) : Ok Try.prog 96 [(.slice old0.a old0.l old0.c), (.slice now1.a now1.l now1.c), (.slice mask2.a mask2.l mask2.c)] w K :=
  Ok_eq a96 3 mixed Try.func96 b96 f96 rfl (e96 old0 now1 mask2 w K) h

/-! 97: (nand.cells[[]byte]).block -/
def a97 : Ann := { reg := [], cnd := [], lop := [], blk := [], prm := [] }
def T97 (c0 : (Int × Int × Int × Sl × Unit)) (die1 : Int) (block2 : Int) (w : World) (K : Value → World → Prop) : Prop :=
 al w (.cells #[(.int .i64 c0.1), (.int .i64 c0.2.1), (.int .i64 c0.2.2.1), (.slice c0.2.2.2.1.a c0.2.2.2.1.l c0.2.2.2.1.c)] 104) fun p1 w2 =>
 al w2 (.cells #[(.int .i64 die1)] 3) fun p3 w4 =>
 al w4 (.cells #[(.int .i64 block2)] 3) fun p5 w6 =>
 K (.func (.func 122) #[] #[(.pointer (some p1)), (.pointer (some p3)), (.pointer (some p5))]) w6
theorem e97 (c0 : (Int × Int × Int × Sl × Unit)) (die1 : Int) (block2 : Int) (w : World) (K : Value → World → Prop) : exF Try.prog a97 Try.f97 [(.agg #[(.int .i64 c0.1), (.int .i64 c0.2.1), (.int .i64 c0.2.2.1), (.slice c0.2.2.2.1.a c0.2.2.2.1.l c0.2.2.2.1.c)]), (.int .i64 die1), (.int .i64 block2)] w K = T97 c0 die1 block2 w K := by kernel_rfl
theorem b97 : hasB Try.prog 97 = true := by kernel_rfl
theorem f97 : fitsF Try.f97 3 = true := by kernel_rfl
theorem u97 {w : World} {K : Value → World → Prop} {c0 : (Int × Int × Int × Sl × Unit)} {die1 : Int} {block2 : Int} (h : T97 c0 die1 block2 w K) : Ok Try.prog 97 [(.agg #[(.int .i64 c0.1), (.int .i64 c0.2.1), (.int .i64 c0.2.2.1), (.slice c0.2.2.2.1.a c0.2.2.2.1.l c0.2.2.2.1.c)]), (.int .i64 die1), (.int .i64 block2)] w K :=
  Ok_eq a97 3 mixed Try.func97 b97 f97 rfl (e97 c0 die1 block2 w K) h

/-! 98: (*ramekinref7.Nand).Program -/
def a98 : Ann := { reg := [(1, [(11, (.one .b))])], cnd := [], lop := [], blk := [], prm := [] }
def T98 (n0 : Option Addr) (die1 : Int) (block2 : Int) (page3 : Int) (b4 : Sl) (w : World) (K : Value → World → Prop) : Prop :=
 joinT (D := Bool × Unit) (fun k1 =>
 Ok Try.prog 90 [(.pointer n0), (.int .i64 die1), (.int .i64 block2)] w fun v4 w5 =>
 decB v4 fun b6 =>
 cond b6
 (nn n0 fun p7 =>
 rdS w5 (p7.add 3) fun s8 =>
 ix s8.a s8.l die1 fun q9 =>
 rdS w5 (q9.add (die1.toNat * 1)) fun s10 =>
 ix s10.a s10.l block2 fun q11 =>
 rdI .i64 w5 ((q11.add (block2.toNat * 4)).add 1) fun n12 =>
 cond (n12 == page3)
 (k1 ((((b4.l : Nat) : Int) == 60), ()) w5)
 (k1 (false, ()) w5))
 (k1 (false, ()) w5))
 fun d2 w3 => ∀ _ : Regs,
 Ok Try.prog 123 [(.pointer n0), (.int .i64 die1), (.int .i64 block2), (.int .i64 page3), (.bool d2.1)] w3 fun v13 w14 =>
 decI .i64 v13 fun n15 =>
 cond (n15 != 0)
 (K (.int .i64 n15) w14)
 (nn n0 fun p16 =>
 rdS w14 (p16.add 3) fun s17 =>
 ix s17.a s17.l die1 fun q18 =>
 rdS w14 (q18.add (die1.toNat * 1)) fun s19 =>
 ix s19.a s19.l block2 fun q20 =>
 nn (some (q20.add (block2.toNat * 4))) fun p21 =>
 rdI .i64 w14 (p21.add 1) fun n22 =>
 nn (some (q20.add (block2.toNat * 4))) fun p23 =>
 wr w14 (p23.add 1) (.int .i64 (IntKind.wrap .i64 (n22 + 1))) fun w24 =>
 Ok Try.prog 124 [(.pointer n0)] w24 fun v25 w26 =>
 decB v25 fun b27 =>
 cond b27
 (nn (some (q20.add (block2.toNat * 4))) fun p28 =>
 rdS w26.drew p28 fun s29 =>
 nn n0 fun p30 =>
 rdS w26.drew (p30.add 6) fun s31 =>
 Ok Try.prog 89 [] w26.drew fun v32 w33 =>
 decS v32 fun s34 =>
 rdS w33 p28 fun s35 =>
 ((.slice s35.a s35.l s35.c) : Value) = (.slice s29.a s29.l s29.c) ∧
 rdS w33 (p30.add 6) fun s36 =>
 ((.slice s36.a s36.l s36.c) : Value) = (.slice s31.a s31.l s31.c) ∧
 Ok Try.prog 54 [(.slice s34.a s34.l s34.c), (.slice b4.a b4.l b4.c), (.slice s31.a s31.l s31.c)] w33 fun v37 w38 =>
 decS v37 fun s39 =>
 rdS w38 p28 fun s40 =>
 ((.slice s40.a s40.l s40.c) : Value) = (.slice s29.a s29.l s29.c) ∧
 ix s29.a s29.l page3 fun q41 =>
 wr w38 (q41.add (page3.toNat * 1)) (.slice s39.a s39.l s39.c) fun w42 =>
 K (.int .i64 8) w42)
 (nn (some (q20.add (block2.toNat * 4))) fun p43 =>
 rdS w26.drew p43 fun s44 =>
 al w26.drew (.cells #[] 5) fun p45 w46 =>
 rdS w46 p43 fun s47 =>
 ((.slice s47.a s47.l s47.c) : Value) = (.slice s44.a s44.l s44.c) ∧
 raw Try.prog (Builtin.append_ #[22, 22] 22 #[(.slice (some p45) 0 0), (.slice b4.a b4.l b4.c)]) w46 fun v48 w49 =>
 decS v48 fun s50 =>
 rdS w49 p43 fun s51 =>
 ((.slice s51.a s51.l s51.c) : Value) = (.slice s44.a s44.l s44.c) ∧
 ix s44.a s44.l page3 fun q52 =>
 wr w49 (q52.add (page3.toNat * 1)) (.slice s50.a s50.l s50.c) fun w53 =>
 K (.int .i64 0) w53))
theorem e98 (n0 : Option Addr) (die1 : Int) (block2 : Int) (page3 : Int) (b4 : Sl) (w : World) (K : Value → World → Prop) : exF Try.prog a98 Try.f98 [(.pointer n0), (.int .i64 die1), (.int .i64 block2), (.int .i64 page3), (.slice b4.a b4.l b4.c)] w K = T98 n0 die1 block2 page3 b4 w K := by kernel_rfl
theorem b98 : hasB Try.prog 98 = true := by kernel_rfl
theorem f98 : fitsF Try.f98 5 = true := by kernel_rfl
theorem u98 {w : World} {K : Value → World → Prop} {n0 : Option Addr} {die1 : Int} {block2 : Int} {page3 : Int} {b4 : Sl} (h : T98 n0 die1 block2 page3 b4 w K) : Ok Try.prog 98 [(.pointer n0), (.int .i64 die1), (.int .i64 block2), (.int .i64 page3), (.slice b4.a b4.l b4.c)] w K :=
  Ok_eq a98 5 mixed Try.func98 b98 f98 rfl (e98 n0 die1 block2 page3 b4 w K) h

/-! 99: (*ramekinref7.Nand).Erase -/
def a99 : Ann := { reg := [], cnd := [(45, [])], lop := [(8, [(10, (.one (.i .i64)))])], blk := [(0, [])], prm := [] }
def T99 (n0 : Option Addr) (die1 : Int) (block2 : Int) (w : World) (K : Value → World → Prop) : Prop :=
 Ok Try.prog 123 [(.pointer n0), (.int .i64 die1), (.int .i64 block2), (.int .i64 0), (.bool true)] w fun v1 w2 =>
 decI .i64 v1 fun n3 =>
 cond (n3 != 0)
 (K (.int .i64 n3) w2)
 (nn n0 fun p4 =>
 rdS w2 (p4.add 3) fun s5 =>
 ix s5.a s5.l die1 fun q6 =>
 rdS w2 (q6.add (die1.toNat * 1)) fun s7 =>
 ix s7.a s7.l block2 fun q8 =>
 nn (some (q8.add (block2.toNat * 4))) fun p9 =>
 rdI .i64 w2 (p9.add 2) fun n10 =>
 nn (some (q8.add (block2.toNat * 4))) fun p11 =>
 wr w2 (p11.add 2) (.int .i64 (IntKind.wrap .i64 (n10 + 1))) fun w12 =>
 Ok Try.prog 124 [(.pointer n0)] w12 fun v13 w14 =>
 decB v13 fun b15 =>
 joinT (D := Unit) (fun k16 =>
 loopT (D := Int × Unit) (fun d19 w20 k21 => ∀ _ : Regs,
 nn n0 fun p22 =>
 rdI .i64 w20 (p22.add 2) fun n23 =>
 cond (decide (d19.1 < n23))
 (joinT (D := Unit) (fun k24 =>
 cond b15
 (nn (some (q8.add (block2.toNat * 4))) fun p27 =>
 rdS w20.drew p27 fun s28 =>
 nn (some (q8.add (block2.toNat * 4))) fun p29 =>
 rdS w20.drew p29 fun s30 =>
 ix s30.a s30.l d19.1 fun q31 =>
 rdS w20.drew (q31.add (d19.1.toNat * 1)) fun s32 =>
 nn n0 fun p33 =>
 rdS w20.drew (p33.add 6) fun s34 =>
 Ok Try.prog 89 [] w20.drew fun v35 w36 =>
 decS v35 fun s37 =>
 rdS w36 p27 fun s38 =>
 ((.slice s38.a s38.l s38.c) : Value) = (.slice s28.a s28.l s28.c) ∧
 rdS w36 p29 fun s39 =>
 ((.slice s39.a s39.l s39.c) : Value) = (.slice s30.a s30.l s30.c) ∧
 rdS w36 (q31.add (d19.1.toNat * 1)) fun s40 =>
 ((.slice s40.a s40.l s40.c) : Value) = (.slice s32.a s32.l s32.c) ∧
 rdS w36 (p33.add 6) fun s41 =>
 ((.slice s41.a s41.l s41.c) : Value) = (.slice s34.a s34.l s34.c) ∧
 Ok Try.prog 54 [(.slice s32.a s32.l s32.c), (.slice s37.a s37.l s37.c), (.slice s34.a s34.l s34.c)] w36 fun v42 w43 =>
 decS v42 fun s44 =>
 rdS w43 p27 fun s45 =>
 ((.slice s45.a s45.l s45.c) : Value) = (.slice s28.a s28.l s28.c) ∧
 ix s28.a s28.l d19.1 fun q46 =>
 wr w43 (q46.add (d19.1.toNat * 1)) (.slice s44.a s44.l s44.c) fun w47 =>
 k24 () w47)
 (nn (some (q8.add (block2.toNat * 4))) fun p48 =>
 rdS w20.drew p48 fun s49 =>
 Ok Try.prog 89 [] w20.drew fun v50 w51 =>
 decS v50 fun s52 =>
 rdS w51 p48 fun s53 =>
 ((.slice s53.a s53.l s53.c) : Value) = (.slice s49.a s49.l s49.c) ∧
 ix s49.a s49.l d19.1 fun q54 =>
 wr w51 (q54.add (d19.1.toNat * 1)) (.slice s52.a s52.l s52.c) fun w55 =>
 k24 () w55))
 fun d25 w26 => ∀ _ : Regs,
 k21 ((IntKind.wrap .i64 (d19.1 + 1)), ()) w26)
 (k16 () w20))
 (0, ()) w14)
 fun d17 w18 => ∀ _ : Regs,
 cond b15
 (K (.int .i64 8) w18)
 (nn (some (q8.add (block2.toNat * 4))) fun p56 =>
 wr w18 (p56.add 1) (.int .i64 0) fun w57 =>
 K (.int .i64 0) w57))
theorem e99 (n0 : Option Addr) (die1 : Int) (block2 : Int) (w : World) (K : Value → World → Prop) : exF Try.prog a99 Try.f99 [(.pointer n0), (.int .i64 die1), (.int .i64 block2)] w K = T99 n0 die1 block2 w K := by kernel_rfl
theorem b99 : hasB Try.prog 99 = true := by kernel_rfl
theorem f99 : fitsF Try.f99 3 = true := by kernel_rfl
theorem u99 {w : World} {K : Value → World → Prop} {n0 : Option Addr} {die1 : Int} {block2 : Int} (h : T99 n0 die1 block2 w K) : Ok Try.prog 99 [(.pointer n0), (.int .i64 die1), (.int .i64 block2)] w K :=
  Ok_eq a99 3 mixed Try.func99 b99 f99 rfl (e99 n0 die1 block2 w K) h

/-! 100: (*ramekinref7.Nand).Read -/
def a100 : Ann := { reg := [], cnd := [], lop := [], blk := [], prm := [] }
def T100 (n0 : Option Addr) (die1 : Int) (block2 : Int) (page3 : Int) (w : World) (K : Value → World → Prop) : Prop :=
 Ok Try.prog 123 [(.pointer n0), (.int .i64 die1), (.int .i64 block2), (.int .i64 page3), (.bool true)] w fun v1 w2 =>
 decI .i64 v1 fun n3 =>
 cond (n3 != 0)
 (K (.tuple #[(.slice none 0 0), (.int .i64 n3)]) w2)
 (nn n0 fun p4 =>
 rdI .i64 w2 (p4.add 8) fun n5 =>
 nn n0 fun p6 =>
 wr w2 (p6.add 8) (.int .i64 (IntKind.wrap .i64 (n5 + 1))) fun w7 =>
 nn n0 fun p8 =>
 rdS w7.drew (p8.add 3) fun s9 =>
 ix s9.a s9.l die1 fun q10 =>
 rdS w7.drew (q10.add (die1.toNat * 1)) fun s11 =>
 ix s11.a s11.l block2 fun q12 =>
 rdS w7.drew (q12.add (block2.toNat * 4)) fun s13 =>
 ix s13.a s13.l page3 fun q14 =>
 rdS w7.drew (q14.add (page3.toNat * 1)) fun s15 =>
 nn n0 fun p16 =>
 rdS w7.drew (p16.add 4) fun s17 =>
 ix s17.a s17.l die1 fun q18 =>
 rdS w7.drew (q18.add (die1.toNat * 1)) fun s19 =>
 ix s19.a s19.l block2 fun q20 =>
 rdS w7.drew (q20.add (block2.toNat * 1)) fun s21 =>
 ix s21.a s21.l page3 fun q22 =>
 rdS w7.drew (q22.add (page3.toNat * 1)) fun s23 =>
 Ok Try.prog 47 [(.slice s15.a s15.l s15.c), (.slice s23.a s23.l s23.c)] w7.drew fun v24 w25 =>
 decS v24 fun s26 =>
 K (.tuple #[(.slice s26.a s26.l s26.c), (.int .i64 0)]) w25)
theorem e100 (n0 : Option Addr) (die1 : Int) (block2 : Int) (page3 : Int) (w : World) (K : Value → World → Prop) : exF Try.prog a100 Try.f100 [(.pointer n0), (.int .i64 die1), (.int .i64 block2), (.int .i64 page3)] w K = T100 n0 die1 block2 page3 w K := by kernel_rfl
theorem b100 : hasB Try.prog 100 = true := by kernel_rfl
theorem f100 : fitsF Try.f100 4 = true := by kernel_rfl
theorem u100 {w : World} {K : Value → World → Prop} {n0 : Option Addr} {die1 : Int} {block2 : Int} {page3 : Int} (h : T100 n0 die1 block2 page3 w K) : Ok Try.prog 100 [(.pointer n0), (.int .i64 die1), (.int .i64 block2), (.int .i64 page3)] w K :=
  Ok_eq a100 4 mixed Try.func100 b100 f100 rfl (e100 n0 die1 block2 page3 w K) h

/-! 101: (*ramekinref7.Nand).Noise -/
def a101 : Ann := { reg := [(1, [(28, (.one .b))])], cnd := [], lop := [], blk := [], prm := [] }
def T101 (n0 : Option Addr) (die1 : Int) (block2 : Int) (page3 : Int) (l4 : Sl) (w : World) (K : Value → World → Prop) : Prop :=
 joinT (D := Bool × Unit) (fun k1 =>
 Ok Try.prog 90 [(.pointer n0), (.int .i64 die1), (.int .i64 block2)] w fun v4 w5 =>
 decB v4 fun b6 =>
 cond (!b6)
 (k1 (true, ()) w5)
 (cond (decide (page3 < 0))
 (k1 (true, ()) w5)
 (nn n0 fun p7 =>
 rdI .i64 w5 (p7.add 2) fun n8 =>
 k1 ((decide (page3 ≥ n8)), ()) w5)))
 fun d2 w3 => ∀ _ : Regs,
 cond d2.1
 (K (.int .i64 1) w3)
 (nn n0 fun p9 =>
 rdS w3.drew (p9.add 4) fun s10 =>
 ix s10.a s10.l die1 fun q11 =>
 rdS w3.drew (q11.add (die1.toNat * 1)) fun s12 =>
 ix s12.a s12.l block2 fun q13 =>
 rdS w3.drew (q13.add (block2.toNat * 1)) fun s14 =>
 al w3.drew (.cells #[] 3) fun p15 w16 =>
 rdS w16 (p9.add 4) fun s17 =>
 ((.slice s17.a s17.l s17.c) : Value) = (.slice s10.a s10.l s10.c) ∧
 rdS w16 (q11.add (die1.toNat * 1)) fun s18 =>
 ((.slice s18.a s18.l s18.c) : Value) = (.slice s12.a s12.l s12.c) ∧
 rdS w16 (q13.add (block2.toNat * 1)) fun s19 =>
 ((.slice s19.a s19.l s19.c) : Value) = (.slice s14.a s14.l s14.c) ∧
 raw Try.prog (Builtin.append_ #[23, 23] 23 #[(.slice (some p15) 0 0), (.slice l4.a l4.l l4.c)]) w16 fun v20 w21 =>
 decS v20 fun s22 =>
 rdS w21 (p9.add 4) fun s23 =>
 ((.slice s23.a s23.l s23.c) : Value) = (.slice s10.a s10.l s10.c) ∧
 rdS w21 (q11.add (die1.toNat * 1)) fun s24 =>
 ((.slice s24.a s24.l s24.c) : Value) = (.slice s12.a s12.l s12.c) ∧
 rdS w21 (q13.add (block2.toNat * 1)) fun s25 =>
 ((.slice s25.a s25.l s25.c) : Value) = (.slice s14.a s14.l s14.c) ∧
 ix s14.a s14.l page3 fun q26 =>
 wr w21 (q26.add (page3.toNat * 1)) (.slice s22.a s22.l s22.c) fun w27 =>
 K (.int .i64 0) w27)
theorem e101 (n0 : Option Addr) (die1 : Int) (block2 : Int) (page3 : Int) (l4 : Sl) (w : World) (K : Value → World → Prop) : exF Try.prog a101 Try.f101 [(.pointer n0), (.int .i64 die1), (.int .i64 block2), (.int .i64 page3), (.slice l4.a l4.l l4.c)] w K = T101 n0 die1 block2 page3 l4 w K := by kernel_rfl
theorem b101 : hasB Try.prog 101 = true := by kernel_rfl
theorem f101 : fitsF Try.f101 5 = true := by kernel_rfl
theorem u101 {w : World} {K : Value → World → Prop} {n0 : Option Addr} {die1 : Int} {block2 : Int} {page3 : Int} {l4 : Sl} (h : T101 n0 die1 block2 page3 l4 w K) : Ok Try.prog 101 [(.pointer n0), (.int .i64 die1), (.int .i64 block2), (.int .i64 page3), (.slice l4.a l4.l l4.c)] w K :=
  Ok_eq a101 5 mixed Try.func101 b101 f101 rfl (e101 n0 die1 block2 page3 l4 w K) h

/-! 102: (*ramekinref7.Nand).Stop -/
def a102 : Ann := { reg := [], cnd := [], lop := [], blk := [], prm := [] }
def T102 (n0 : Option Addr) (k1 : Int) (mask2 : Sl) (w : World) (K : Value → World → Prop) : Prop :=
 al w (.cells #[] 5) fun p1 w2 =>
 raw Try.prog (Builtin.append_ #[22, 22] 22 #[(.slice (some p1) 0 0), (.slice mask2.a mask2.l mask2.c)]) w2 fun v3 w4 =>
 decS v3 fun s5 =>
 nn n0 fun p6 =>
 wr w4 (p6.add 5) (.int .i64 (if 0 > k1 then 0 else k1)) fun w7 =>
 nn n0 fun p8 =>
 wr w7 (p8.add 6) (.slice s5.a s5.l s5.c) fun w9 =>
 K (.tuple #[]) w9
theorem e102 (n0 : Option Addr) (k1 : Int) (mask2 : Sl) (w : World) (K : Value → World → Prop) : exF Try.prog a102 Try.f102 [(.pointer n0), (.int .i64 k1), (.slice mask2.a mask2.l mask2.c)] w K = T102 n0 k1 mask2 w K := by kernel_rfl
theorem b102 : hasB Try.prog 102 = true := by kernel_rfl
theorem f102 : fitsF Try.f102 3 = true := by kernel_rfl
theorem u102 {w : World} {K : Value → World → Prop} {n0 : Option Addr} {k1 : Int} {mask2 : Sl} (h : T102 n0 k1 mask2 w K) : Ok Try.prog 102 [(.pointer n0), (.int .i64 k1), (.slice mask2.a mask2.l mask2.c)] w K :=
  Ok_eq a102 3 mixed Try.func102 b102 f102 rfl (e102 n0 k1 mask2 w K) h

/-! 103: (*nand.Nand).Geometry -/
def a103 : Ann := { reg := [], cnd := [], lop := [], blk := [], prm := [] }
def T103 (n0 : Option Addr) (w : World) (K : Value → World → Prop) : Prop :=
 al w (.cells #[(.int .i64 0), (.int .i64 0), (.int .i64 0)] 29) fun p1 w2 =>
 nn n0 fun p3 =>
 rdI .i64 w2 p3 fun n4 =>
 rdI .i64 w2 (p3.add 1) fun n5 =>
 rdI .i64 w2 (p3.add 2) fun n6 =>
 wr w2 p1 (.int .i64 n4) fun w7 =>
 wr w7 (p1.add 1) (.int .i64 n5) fun w8 =>
 wr w8 (p1.add 2) (.int .i64 n6) fun w9 =>
 rdI .i64 w9 p1 fun n10 =>
 rdI .i64 w9 (p1.add 1) fun n11 =>
 rdI .i64 w9 (p1.add 2) fun n12 =>
 K (.agg #[(.int .i64 n10), (.int .i64 n11), (.int .i64 n12)]) w9
theorem e103 (n0 : Option Addr) (w : World) (K : Value → World → Prop) : exF Try.prog a103 Try.f103 [(.pointer n0)] w K = T103 n0 w K := by kernel_rfl
theorem b103 : hasB Try.prog 103 = true := by kernel_rfl
theorem f103 : fitsF Try.f103 1 = true := by kernel_rfl
theorem u103 {w : World} {K : Value → World → Prop} {n0 : Option Addr} (h : T103 n0 w K) : Ok Try.prog 103 [(.pointer n0)] w K :=
  Ok_eq a103 1 mixed Try.func103 b103 f103 rfl (e103 n0 w K) h

/-! 104: (*ramekinref7.Nand).Erases -/
def a104 : Ann := { reg := [], cnd := [], lop := [], blk := [], prm := [] }
def T104 (n0 : Option Addr) (die1 : Int) (block2 : Int) (w : World) (K : Value → World → Prop) : Prop :=
 Ok Try.prog 90 [(.pointer n0), (.int .i64 die1), (.int .i64 block2)] w fun v1 w2 =>
 decB v1 fun b3 =>
 cond (!b3)
 (K (.int .i64 0) w2)
 (nn n0 fun p4 =>
 rdS w2 (p4.add 3) fun s5 =>
 ix s5.a s5.l die1 fun q6 =>
 rdS w2 (q6.add (die1.toNat * 1)) fun s7 =>
 ix s7.a s7.l block2 fun q8 =>
 rdI .i64 w2 ((q8.add (block2.toNat * 4)).add 2) fun n9 =>
 K (.int .i64 n9) w2)
theorem e104 (n0 : Option Addr) (die1 : Int) (block2 : Int) (w : World) (K : Value → World → Prop) : exF Try.prog a104 Try.f104 [(.pointer n0), (.int .i64 die1), (.int .i64 block2)] w K = T104 n0 die1 block2 w K := by kernel_rfl
theorem b104 : hasB Try.prog 104 = true := by kernel_rfl
theorem f104 : fitsF Try.f104 3 = true := by kernel_rfl
theorem u104 {w : World} {K : Value → World → Prop} {n0 : Option Addr} {die1 : Int} {block2 : Int} (h : T104 n0 die1 block2 w K) : Ok Try.prog 104 [(.pointer n0), (.int .i64 die1), (.int .i64 block2)] w K :=
  Ok_eq a104 3 mixed Try.func104 b104 f104 rfl (e104 n0 die1 block2 w K) h

/-! 105: (*ramekinref7.Nand).IsBad -/
def a105 : Ann := { reg := [(1, [(6, (.one .b))])], cnd := [], lop := [], blk := [], prm := [] }
def T105 (n0 : Option Addr) (die1 : Int) (block2 : Int) (w : World) (K : Value → World → Prop) : Prop :=
 joinT (D := Bool × Unit) (fun k1 =>
 Ok Try.prog 90 [(.pointer n0), (.int .i64 die1), (.int .i64 block2)] w fun v4 w5 =>
 decB v4 fun b6 =>
 cond b6
 (nn n0 fun p7 =>
 rdS w5 (p7.add 3) fun s8 =>
 ix s8.a s8.l die1 fun q9 =>
 rdS w5 (q9.add (die1.toNat * 1)) fun s10 =>
 ix s10.a s10.l block2 fun q11 =>
 rdB w5 ((q11.add (block2.toNat * 4)).add 3) fun b12 =>
 k1 (b12, ()) w5)
 (k1 (false, ()) w5))
 fun d2 w3 => ∀ _ : Regs,
 K (.bool d2.1) w3
theorem e105 (n0 : Option Addr) (die1 : Int) (block2 : Int) (w : World) (K : Value → World → Prop) : exF Try.prog a105 Try.f105 [(.pointer n0), (.int .i64 die1), (.int .i64 block2)] w K = T105 n0 die1 block2 w K := by kernel_rfl
theorem b105 : hasB Try.prog 105 = true := by kernel_rfl
theorem f105 : fitsF Try.f105 3 = true := by kernel_rfl
theorem u105 {w : World} {K : Value → World → Prop} {n0 : Option Addr} {die1 : Int} {block2 : Int} (h : T105 n0 die1 block2 w K) : Ok Try.prog 105 [(.pointer n0), (.int .i64 die1), (.int .i64 block2)] w K :=
  Ok_eq a105 3 mixed Try.func105 b105 f105 rfl (e105 n0 die1 block2 w K) h

/-! 121: slices.Repeat[[]byte,byte] -/
def a121 : Ann := { reg := [(4, [(26, (.one .b))])], cnd := [(26, []), (10, [])], lop := [(8, [(8, (.one (.i .i64)))])], blk := [(0, [])], prm := [] }
def T121 (x0 : Sl) (count1 : Int) (w : World) (K : Value → World → Prop) : Prop :=
 joinT (D := Unit) (fun k1 =>
 cond (decide (count1 < 0))
 (False)
 (k1 () w))
 fun d2 w3 => ∀ _ : Regs,
 Ok Try.prog 144 [(.int .u64 (IntKind.wrap .u64 ((x0.l : Nat) : Int))), (.int .u64 (IntKind.wrap .u64 count1))] w3 fun v4 w5 =>
 dec2 v4 fun v6 v7 =>
 decI .u64 v6 fun n8 =>
 decI .u64 v7 fun n9 =>
 joinT (D := Bool × Unit) (fun k10 =>
 cond (decide (n8 > 0))
 (k10 (true, ()) w5)
 (k10 ((decide (n9 > 9223372036854775807)), ()) w5))
 fun d11 w12 => ∀ _ : Regs,
 joinT (D := Unit) (fun k13 =>
 cond d11.1
 (False)
 (k13 () w12))
 fun d14 w15 => ∀ _ : Regs,
 (0 : Int) ≤ (IntKind.wrap .i64 n9) ∧ (IntKind.wrap .i64 n9) ≤ (IntKind.wrap .i64 n9) ∧ ((1 : Nat) : Int) * (IntKind.wrap .i64 n9) ≤ 281474976710656 ∧ (IntKind.wrap .i64 n9) ≤ 281474976710656 ∧
 al w15 (.cells (zeroRow #[(.int .u8 0)] ((Int.toNat (IntKind.wrap .i64 n9)) * 1)) 5) fun p16 w17 =>
 raw Try.prog (Builtin.copy_ #[22, 22] 3 #[(.slice (some p16) (Int.toNat (IntKind.wrap .i64 n9)) (Int.toNat (IntKind.wrap .i64 n9))), (.slice x0.a x0.l x0.c)]) w17 fun v18 w19 =>
 decI .i64 v18 fun n20 =>
 joinT (D := Unit) (fun k21 =>
 loopT (D := Int × Unit) (fun d24 w25 k26 => ∀ _ : Regs,
 cond (decide (d24.1 < (((Int.toNat (IntKind.wrap .i64 n9)) : Nat) : Int)))
 (slc (some p16) (Int.toNat (IntKind.wrap .i64 n9)) (Int.toNat (IntKind.wrap .i64 n9)) (some d24.1) none 1 fun s27 =>
 slc (some p16) (Int.toNat (IntKind.wrap .i64 n9)) (Int.toNat (IntKind.wrap .i64 n9)) none (some d24.1) 1 fun s28 =>
 raw Try.prog (Builtin.copy_ #[22, 22] 3 #[(.slice s27.a s27.l s27.c), (.slice s28.a s28.l s28.c)]) w25.drew fun v29 w30 =>
 decI .i64 v29 fun n31 =>
 k26 ((IntKind.wrap .i64 (d24.1 + n31)), ()) w30)
 (k21 () w25))
 (n20, ()) w19)
 fun d22 w23 => ∀ _ : Regs,
 K (.slice (some p16) (Int.toNat (IntKind.wrap .i64 n9)) (Int.toNat (IntKind.wrap .i64 n9))) w23
theorem e121 (x0 : Sl) (count1 : Int) (w : World) (K : Value → World → Prop) : exF Try.prog a121 Try.f121 [(.slice x0.a x0.l x0.c), (.int .i64 count1)] w K = T121 x0 count1 w K := by kernel_rfl
theorem b121 : hasB Try.prog 121 = true := by kernel_rfl
theorem f121 : fitsF Try.f121 2 = true := by kernel_rfl
theorem u121 {w : World} {K : Value → World → Prop} {x0 : Sl} {count1 : Int} (h : T121 x0 count1 w K) : Ok Try.prog 121 [(.slice x0.a x0.l x0.c), (.int .i64 count1)] w K :=
  Ok_eq a121 2 mixed Try.func121 b121 f121 rfl (e121 x0 count1 w K) h

/-! 122: (nand.cells[[]byte]).block$1 -/
def a122 : Ann := { reg := [], cnd := [], lop := [(1, [(9, (.one (.i .i64)))])], blk := [(0, [])], prm := [] }
def T122 (yield0 : Nat) (c1 : Addr) (c2 : Addr) (c3 : Addr) (w : World) (K : Value → World → Prop) : Prop :=
 rdI .i64 w (c1.add 2) fun n1 =>
 joinT (D := Unit) (fun k2 =>
 loopT (D := Int × Unit) (fun d5 w6 k7 => ∀ _ : Regs,
 cond (decide (d5.1 < n1))
 (rdI .i64 w6 c1 fun n8 =>
 rdI .i64 w6 (c1.add 1) fun n9 =>
 rdI .i64 w6 (c1.add 2) fun n10 =>
 rdS w6 (c1.add 3) fun s11 =>
 rdI .i64 w6 c2 fun n12 =>
 rdI .i64 w6 c3 fun n13 =>
 Ok Try.prog 94 [(.agg #[(.int .i64 n8), (.int .i64 n9), (.int .i64 n10), (.slice s11.a s11.l s11.c)]), (.int .i64 n12), (.int .i64 n13), (.int .i64 d5.1)] w6 fun v14 w15 =>
 decP v14 fun p16 =>
 OkY Try.prog yield0 [(.int .i64 d5.1), (.pointer p16)] w15 fun v17 w18 =>
 decB v17 fun b19 =>
 cond (!b19)
 (K (.tuple #[]) w18)
 (k7 ((IntKind.wrap .i64 (d5.1 + 1)), ()) w18))
 (k2 () w6))
 (0, ()) w)
 fun d3 w4 => ∀ _ : Regs,
 K (.tuple #[]) w4
theorem e122 (yield0 : Nat) (c1 : Addr) (c2 : Addr) (c3 : Addr) (w : World) (K : Value → World → Prop) : exF Try.prog a122 Try.f122 [(.func (.yield yield0) #[] #[]), (.pointer (some c1)), (.pointer (some c2)), (.pointer (some c3))] w K = T122 yield0 c1 c2 c3 w K := by kernel_rfl
theorem b122 : hasB Try.prog 122 = true := by kernel_rfl
theorem f122 : fitsF Try.f122 4 = true := by kernel_rfl
theorem u122 {w : World} {K : Value → World → Prop} {yield0 : Nat} {c1 : Addr} {c2 : Addr} {c3 : Addr} (h : T122 yield0 c1 c2 c3 w K) : Ok Try.prog 122 [(.func (.yield yield0) #[] #[]), (.pointer (some c1)), (.pointer (some c2)), (.pointer (some c3))] w K :=
  Ok_eq a122 4 mixed Try.func122 b122 f122 rfl (e122 yield0 c1 c2 c3 w K) h

/-! 123: (*ramekinref7.Nand).may -/
def a123 : Ann := { reg := [(3, [(49, (.one .b))])], cnd := [], lop := [], blk := [], prm := [] }
def T123 (n0 : Option Addr) (die1 : Int) (block2 : Int) (page3 : Int) (fine4 : Bool) (w : World) (K : Value → World → Prop) : Prop :=
 nn n0 fun p1 =>
 rdB w (p1.add 7) fun b2 =>
 cond b2
 (K (.int .i64 8) w)
 (joinT (D := Bool × Unit) (fun k3 =>
 Ok Try.prog 90 [(.pointer n0), (.int .i64 die1), (.int .i64 block2)] w fun v6 w7 =>
 decB v6 fun b8 =>
 cond (!b8)
 (k3 (true, ()) w7)
 (nn n0 fun p9 =>
 rdS w7 (p9.add 3) fun s10 =>
 ix s10.a s10.l die1 fun q11 =>
 rdS w7 (q11.add (die1.toNat * 1)) fun s12 =>
 ix s12.a s12.l block2 fun q13 =>
 rdB w7 ((q13.add (block2.toNat * 4)).add 3) fun b14 =>
 cond b14
 (k3 (true, ()) w7)
 (cond (decide (page3 < 0))
 (k3 (true, ()) w7)
 (nn n0 fun p15 =>
 rdI .i64 w7 (p15.add 2) fun n16 =>
 cond (decide (page3 ≥ n16))
 (k3 (true, ()) w7)
 (k3 ((!fine4), ()) w7)))))
 fun d4 w5 => ∀ _ : Regs,
 cond d4.1
 (nn n0 fun p17 =>
 rdI .i64 w5 (p17.add 9) fun n18 =>
 nn n0 fun p19 =>
 wr w5 (p19.add 9) (.int .i64 (IntKind.wrap .i64 (n18 + 1))) fun w20 =>
 K (.int .i64 1) w20)
 (K (.int .i64 0) w5))
theorem e123 (n0 : Option Addr) (die1 : Int) (block2 : Int) (page3 : Int) (fine4 : Bool) (w : World) (K : Value → World → Prop) : exF Try.prog a123 Try.f123 [(.pointer n0), (.int .i64 die1), (.int .i64 block2), (.int .i64 page3), (.bool fine4)] w K = T123 n0 die1 block2 page3 fine4 w K := by kernel_rfl
theorem b123 : hasB Try.prog 123 = true := by kernel_rfl
theorem f123 : fitsF Try.f123 5 = true := by kernel_rfl
theorem u123 {w : World} {K : Value → World → Prop} {n0 : Option Addr} {die1 : Int} {block2 : Int} {page3 : Int} {fine4 : Bool} (h : T123 n0 die1 block2 page3 fine4 w K) : Ok Try.prog 123 [(.pointer n0), (.int .i64 die1), (.int .i64 block2), (.int .i64 page3), (.bool fine4)] w K :=
  Ok_eq a123 5 mixed Try.func123 b123 f123 rfl (e123 n0 die1 block2 page3 fine4 w K) h

/-! 124: (*ramekinref7.Nand).stops -/
def a124 : Ann := { reg := [], cnd := [(14, [])], lop := [], blk := [], prm := [] }
def T124 (n0 : Option Addr) (w : World) (K : Value → World → Prop) : Prop :=
 nn n0 fun p1 =>
 rdI .i64 w (p1.add 8) fun n2 =>
 nn n0 fun p3 =>
 wr w (p3.add 8) (.int .i64 (IntKind.wrap .i64 (n2 + 1))) fun w4 =>
 nn n0 fun p5 =>
 rdI .i64 w4 (p5.add 5) fun n6 =>
 joinT (D := Unit) (fun k7 =>
 cond (decide (n6 > 0))
 (nn n0 fun p10 =>
 rdI .i64 w4 (p10.add 5) fun n11 =>
 nn n0 fun p12 =>
 wr w4 (p12.add 5) (.int .i64 (IntKind.wrap .i64 (n11 - 1))) fun w13 =>
 nn n0 fun p14 =>
 rdI .i64 w13 (p14.add 5) fun n15 =>
 nn n0 fun p16 =>
 wr w13 (p16.add 7) (.bool (n15 == 0)) fun w17 =>
 k7 () w17)
 (k7 () w4))
 fun d8 w9 => ∀ _ : Regs,
 nn n0 fun p18 =>
 rdB w9 (p18.add 7) fun b19 =>
 K (.bool b19) w9
theorem e124 (n0 : Option Addr) (w : World) (K : Value → World → Prop) : exF Try.prog a124 Try.f124 [(.pointer n0)] w K = T124 n0 w K := by kernel_rfl
theorem b124 : hasB Try.prog 124 = true := by kernel_rfl
theorem f124 : fitsF Try.f124 1 = true := by kernel_rfl
theorem u124 {w : World} {K : Value → World → Prop} {n0 : Option Addr} (h : T124 n0 w K) : Ok Try.prog 124 [(.pointer n0)] w K :=
  Ok_eq a124 1 mixed Try.func124 b124 f124 rfl (e124 n0 w K) h

/-! 144: math/bits.Mul -/
def a144 : Ann := { reg := [], cnd := [], lop := [], blk := [], prm := [] }
def T144 (x0 : Int) (y1 : Int) (w : World) (K : Value → World → Prop) : Prop :=
 Ok Try.prog 163 [(.int .u64 x0), (.int .u64 y1)] w fun v1 w2 =>
 dec2 v1 fun v3 v4 =>
 decI .u64 v3 fun n5 =>
 decI .u64 v4 fun n6 =>
 K (.tuple #[(.int .u64 n5), (.int .u64 n6)]) w2
theorem e144 (x0 : Int) (y1 : Int) (w : World) (K : Value → World → Prop) : exF Try.prog a144 Try.f144 [(.int .u64 x0), (.int .u64 y1)] w K = T144 x0 y1 w K := by kernel_rfl
theorem b144 : hasB Try.prog 144 = true := by kernel_rfl
theorem f144 : fitsF Try.f144 2 = true := by kernel_rfl
theorem u144 {w : World} {K : Value → World → Prop} {x0 : Int} {y1 : Int} (h : T144 x0 y1 w K) : Ok Try.prog 144 [(.int .u64 x0), (.int .u64 y1)] w K :=
  Ok_eq a144 2 mixed Try.func144 b144 f144 rfl (e144 x0 y1 w K) h

/-! 163: math/bits.Mul64 -/
def a163 : Ann := { reg := [], cnd := [], lop := [], blk := [], prm := [] }
def T163 (x0 : Int) (y1 : Int) (w : World) (K : Value → World → Prop) : Prop :=
 (0 : Int) ≤ 32 ∧
 (0 : Int) ≤ 32 ∧
 (0 : Int) ≤ 32 ∧
 (0 : Int) ≤ 32 ∧
 (0 : Int) ≤ 32 ∧
 K (.tuple #[(.int .u64 (IntKind.wrap .u64 ((IntKind.wrap .u64 ((IntKind.wrap .u64 ((Int.fdiv x0 (2 ^ min (Int.toNat 32) (IntKind.bits .u64))) * (Int.fdiv y1 (2 ^ min (Int.toNat 32) (IntKind.bits .u64))))) + (Int.fdiv (IntKind.wrap .u64 ((IntKind.wrap .u64 ((Int.fdiv x0 (2 ^ min (Int.toNat 32) (IntKind.bits .u64))) * (bitI .and .u64 y1 4294967295))) + (Int.fdiv (IntKind.wrap .u64 ((bitI .and .u64 x0 4294967295) * (bitI .and .u64 y1 4294967295))) (2 ^ min (Int.toNat 32) (IntKind.bits .u64))))) (2 ^ min (Int.toNat 32) (IntKind.bits .u64))))) + (Int.fdiv (IntKind.wrap .u64 ((bitI .and .u64 (IntKind.wrap .u64 ((IntKind.wrap .u64 ((Int.fdiv x0 (2 ^ min (Int.toNat 32) (IntKind.bits .u64))) * (bitI .and .u64 y1 4294967295))) + (Int.fdiv (IntKind.wrap .u64 ((bitI .and .u64 x0 4294967295) * (bitI .and .u64 y1 4294967295))) (2 ^ min (Int.toNat 32) (IntKind.bits .u64))))) 4294967295) + (IntKind.wrap .u64 ((bitI .and .u64 x0 4294967295) * (Int.fdiv y1 (2 ^ min (Int.toNat 32) (IntKind.bits .u64))))))) (2 ^ min (Int.toNat 32) (IntKind.bits .u64)))))), (.int .u64 (IntKind.wrap .u64 (x0 * y1)))]) w
theorem e163 (x0 : Int) (y1 : Int) (w : World) (K : Value → World → Prop) : exF Try.prog a163 Try.f163 [(.int .u64 x0), (.int .u64 y1)] w K = T163 x0 y1 w K := by kernel_rfl
theorem b163 : hasB Try.prog 163 = true := by kernel_rfl
theorem f163 : fitsF Try.f163 2 = true := by kernel_rfl
theorem u163 {w : World} {K : Value → World → Prop} {x0 : Int} {y1 : Int} (h : T163 x0 y1 w K) : Ok Try.prog 163 [(.int .u64 x0), (.int .u64 y1)] w K :=
  Ok_eq a163 2 mixed Try.func163 b163 f163 rfl (e163 x0 y1 w K) h

end Go.Proofs.Ytppfnkedbpmliaa
