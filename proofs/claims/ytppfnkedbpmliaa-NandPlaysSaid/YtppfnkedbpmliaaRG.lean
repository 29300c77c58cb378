/- Nothing is proved here but readings: what the loaded code of some functions reads as. Written by a program of this work (wip/gen). -/
import Derived.Test.YtppfnkedbpmliaaR0
set_option linter.unusedVariables false
namespace Go.Proofs.Ytppfnkedbpmliaa
open Go.Rk
/-! 25: ramekinlaw9.known -/
def a25 : Ann := { reg := [(2, [(0, (.one .b))])], cnd := [], lop := [], blk := [], prm := [] }
def T25  (w : World) (K : Value → World → Prop) : Prop :=
 al w (.cells #[(.int .i64 0), (.int .i64 0), (.int .i64 0)] 29) fun p1 w2 =>
 wr w2 p1 (.int .i64 6) fun w3 =>
 wr w3 (p1.add 1) (.int .i64 8) fun w4 =>
 wr w4 (p1.add 2) (.int .i64 4) fun w5 =>
 joinT (D := Bool × Unit) (fun k6 =>
 rdI .i64 w5 p1 fun n9 =>
 rdI .i64 w5 (p1.add 1) fun n10 =>
 rdI .i64 w5 (p1.add 2) fun n11 =>
 Ok Try.prog 30 [(.agg #[(.int .i64 n9), (.int .i64 n10), (.int .i64 n11)])] w5 fun v12 w13 =>
 decI .i64 v12 fun n14 =>
 cond (n14 == 0)
 (rdI .i64 w13 p1 fun n15 =>
 rdI .i64 w13 (p1.add 1) fun n16 =>
 rdI .i64 w13 (p1.add 2) fun n17 =>
 Ok Try.prog 34 [(.agg #[(.int .i64 n15), (.int .i64 n16), (.int .i64 n17)]), (.int .i64 8)] w13 fun v18 w19 =>
 decI .i64 v18 fun n20 =>
 cond (n20 == 8)
 (rdI .i64 w19 p1 fun n21 =>
 rdI .i64 w19 (p1.add 1) fun n22 =>
 rdI .i64 w19 (p1.add 2) fun n23 =>
 Ok Try.prog 32 [(.agg #[(.int .i64 n21), (.int .i64 n22), (.int .i64 n23)])] w19 fun v24 w25 =>
 decI .i64 v24 fun n26 =>
 k6 ((n26 == 4), ()) w25)
 (k6 (false, ()) w19))
 (k6 (false, ()) w13))
 fun d7 w8 => ∀ _ : Regs,
 K (.bool d7.1) w8
theorem e25  (w : World) (K : Value → World → Prop) : exF Try.prog a25 Try.f25 [] w K = T25  w K := by kernel_rfl
theorem b25 : hasB Try.prog 25 = true := by kernel_rfl
theorem f25 : fitsF Try.f25 0 = true := by kernel_rfl
theorem u25 {w : World} {K : Value → World → Prop}  (h : T25  w K) : Ok Try.prog 25 [] w K :=
  Ok_eq a25 0 mixed Try.func25 b25 f25 rfl (e25  w K) h

/-! 26: ramekinlaw7.Make -/
def a26 : Ann := { reg := [], cnd := [], lop := [], blk := [], prm := [] }
def T26 (g0 : (Int × Int × Int × Unit)) (w : World) (K : Value → World → Prop) : Prop :=
 al w (.cells #[(.int .i64 g0.1), (.int .i64 g0.2.1), (.int .i64 g0.2.2.1)] 29) fun p1 w2 =>
 al w2 (.cells #[(.int .i64 0), (.int .i64 0), (.int .i64 0)] 29) fun p3 w4 =>
 rdI .i64 w4.drew p1 fun n5 =>
 rdI .i64 w4.drew (p1.add 1) fun n6 =>
 rdI .i64 w4.drew (p1.add 2) fun n7 =>
 Ok Try.prog 38 [(.int .i64 n5), (.int .i64 3)] w4.drew fun v8 w9 =>
 decI .i64 v8 fun n10 =>
 rdI .i64 w9 (p1.add 1) fun n11 =>
 ((.int .i64 n11) : Value) = (.int .i64 n6) ∧
 rdI .i64 w9 (p1.add 2) fun n12 =>
 ((.int .i64 n12) : Value) = (.int .i64 n7) ∧
 Ok Try.prog 38 [(.int .i64 n6), (.int .i64 5)] w9 fun v13 w14 =>
 decI .i64 v13 fun n15 =>
 rdI .i64 w14 (p1.add 2) fun n16 =>
 ((.int .i64 n16) : Value) = (.int .i64 n7) ∧
 Ok Try.prog 38 [(.int .i64 n7), (.int .i64 5)] w14 fun v17 w18 =>
 decI .i64 v17 fun n19 =>
 wr w18 p3 (.int .i64 (IntKind.wrap .i64 ((6 : Int) + n10))) fun w20 =>
 wr w20 (p3.add 1) (.int .i64 (IntKind.wrap .i64 ((8 : Int) + n15))) fun w21 =>
 wr w21 (p3.add 2) (.int .i64 (IntKind.wrap .i64 ((4 : Int) + n19))) fun w22 =>
 rdI .i64 w22 p3 fun n23 =>
 rdI .i64 w22 (p3.add 1) fun n24 =>
 rdI .i64 w22 (p3.add 2) fun n25 =>
 K (.agg #[(.int .i64 n23), (.int .i64 n24), (.int .i64 n25)]) w22
theorem e26 (g0 : (Int × Int × Int × Unit)) (w : World) (K : Value → World → Prop) : exF Try.prog a26 Try.f26 [(.agg #[(.int .i64 g0.1), (.int .i64 g0.2.1), (.int .i64 g0.2.2.1)])] w K = T26 g0 w K := by kernel_rfl
theorem b26 : hasB Try.prog 26 = true := by kernel_rfl
theorem f26 : fitsF Try.f26 1 = true := by kernel_rfl
theorem u26 {w : World} {K : Value → World → Prop} {g0 : (Int × Int × Int × Unit)} (h : T26 g0 w K) : Ok Try.prog 26 [(.agg #[(.int .i64 g0.1), (.int .i64 g0.2.1), (.int .i64 g0.2.2.1)])] w K :=
  Ok_eq a26 1 mixed Try.func26 b26 f26 rfl (e26 g0 w K) h

/-! 27: ramekinlaw7.Spoil -/
def a27 : Ann := { reg := [(3, [(17, (.one .b))])], cnd := [(31, [(5, (.one .s))])], lop := [(3, [(5, (.one .s)), (6, (.one (.i .i64)))])], blk := [(0, [(5, (.one .s))])], prm := [] }
def T27 (g0 : (Int × Int × Int × Unit)) (l1 : Sl) (w : World) (K : Value → World → Prop) : Prop :=
 al w (.cells #[(.int .i64 g0.1), (.int .i64 g0.2.1), (.int .i64 g0.2.2.1)] 29) fun p1 w2 =>
 joinT (D := Sl × Unit) (fun k3 =>
 loopT (D := Sl × Int × Unit) (fun d6 w7 k8 => ∀ _ : Regs,
 joinT (D := Bool × Unit) (fun k9 =>
 cond (decide (d6.2.1 < ((l1.l : Nat) : Int)))
 (rdI .i64 w7 p1 fun n12 =>
 k9 ((decide (d6.2.1 < n12)), ()) w7)
 (k9 (false, ()) w7))
 fun d10 w11 => ∀ _ : Regs,
 cond d10.1
 (ix l1.a l1.l d6.2.1 fun q13 =>
 rdI .i64 w11.drew (q13.add (d6.2.1.toNat * 1)) fun n14 =>
 rdI .i64 w11.drew (p1.add 1) fun n15 =>
 Ok Try.prog 38 [(.int .i64 n14), (.int .i64 (IntKind.wrap .i64 ((2 : Int) * n15)))] w11.drew fun v16 w17 =>
 decI .i64 v16 fun n18 =>
 rdI .i64 w17 (p1.add 1) fun n19 =>
 joinT (D := Sl × Unit) (fun k20 =>
 cond (decide (n18 < n19))
 (al w17 (.cells #[(.int .i64 d6.2.1), (.int .i64 n18)] 42) fun p23 w24 =>
 raw Try.prog (Builtin.append_ #[30, 30] 30 #[(.slice d6.1.a d6.1.l d6.1.c), (.slice (some p23) 1 1)]) w24 fun v25 w26 =>
 decS v25 fun s27 =>
 k20 (s27, ()) w26)
 (k20 (d6.1, ()) w17))
 fun d21 w22 => ∀ _ : Regs,
 k8 (d21.1, (IntKind.wrap .i64 (d6.2.1 + 1)), ()) w22)
 (k3 (d6.1, ()) w11))
 (⟨none, 0, 0⟩, 0, ()) w2)
 fun d4 w5 => ∀ _ : Regs,
 K (.slice d4.1.a d4.1.l d4.1.c) w5
theorem e27 (g0 : (Int × Int × Int × Unit)) (l1 : Sl) (w : World) (K : Value → World → Prop) : exF Try.prog a27 Try.f27 [(.agg #[(.int .i64 g0.1), (.int .i64 g0.2.1), (.int .i64 g0.2.2.1)]), (.slice l1.a l1.l l1.c)] w K = T27 g0 l1 w K := by kernel_rfl
theorem b27 : hasB Try.prog 27 = true := by kernel_rfl
theorem f27 : fitsF Try.f27 2 = true := by kernel_rfl
theorem u27 {w : World} {K : Value → World → Prop} {g0 : (Int × Int × Int × Unit)} {l1 : Sl} (h : T27 g0 l1 w K) : Ok Try.prog 27 [(.agg #[(.int .i64 g0.1), (.int .i64 g0.2.1), (.int .i64 g0.2.2.1)]), (.slice l1.a l1.l l1.c)] w K :=
  Ok_eq a27 2 mixed Try.func27 b27 f27 rfl (e27 g0 l1 w K) h

/-! 28: geom.Supers -/
def a28 : Ann := { reg := [], cnd := [], lop := [(19, [(51, (.one (.i .i64)))]), (16, [(46, (.one (.i .i64)))]), (6, [(5, (.one .s)), (6, (.one (.i .i64))), (21, (.one (.i .i64)))])], blk := [(4, []), (6, [])], prm := [(28, (.one (.i .i64)))] }
def T28 (g0 : (Int × Int × Int × Unit)) (bad1 : Sl) (w : World) (K : Value → World → Prop) : Prop :=
 al w (.cells #[(.int .i64 g0.1), (.int .i64 g0.2.1), (.int .i64 g0.2.2.1)] 29) fun p1 w2 =>
 al w2 (.cells #[(.slice bad1.a bad1.l bad1.c)] 30) fun p3 w4 =>
 rdI .i64 w4 p1 fun n5 =>
 rdI .i64 w4 (p1.add 1) fun n6 =>
 rdI .i64 w4 (p1.add 2) fun n7 =>
 Ok Try.prog 77 [(.agg #[(.int .i64 n5), (.int .i64 n6), (.int .i64 n7)])] w4 fun v8 w9 =>
 decB v8 fun b10 =>
 cond (!b10)
 (K (.slice none 0 0) w9)
 (rdI .i64 w9 (p1.add 1) fun n11 =>
 rdI .i64 w9 p1 fun n12 =>
 loopT (D := (Sl × Int × Int × Unit) × List Nat) (fun d13 w14 k15 => ∀ _ : Regs,
 cond (decide (d13.1.2.2.1 < n12))
 (al w14 (.cells #[(.int .i64 0)] 3) fun p16 w17 =>
 wr w17 p16 (.int .i64 d13.1.2.2.1) fun w18 =>
 al w18 (.cells #[(.slice none 0 0)] 23) fun p19 w20 =>
 rdI .i64 w20 (p1.add 1) fun n21 =>
 Ok Try.prog 78 [(.int .i64 n21), (.func (.func 79) #[] #[(.pointer (some p3)), (.pointer (some p16))])] w20 fun v22 w23 =>
 rangeX Try.prog none v22 w23 (fun l24 rdy25 bz26 args27 w28 k29 =>
 headL args27 fun x30 args31 =>
 decI .i64 x30 fun n32 =>
 nilL args31 (
 w28.heap[l24]? = some rdy25 ∧
 rdS (w28.putObj l24 bz26) p19 fun s33 =>
 al (w28.putObj l24 bz26) (.cells #[(.int .i64 n32)] 3) fun p34 w35 =>
 raw Try.prog (Builtin.append_ #[23, 23] 23 #[(.slice s33.a s33.l s33.c), (.slice (some p34) 1 1)]) w35 fun v36 w37 =>
 decS v36 fun s38 =>
 wr w37 p19 (.slice s38.a s38.l s38.c) fun w39 =>
 k29 .normal w39))
 (fun D40 w41 =>
 rdS w41.drew p19 fun s42 =>
 rdS w41.drew p19 fun s43 =>
 al w41.drew (.cells #[(.slice s42.a s42.l s42.c)] 23) fun p44 w45 =>
 rdS w45 p19 fun s46 =>
 ((.slice s46.a s46.l s46.c) : Value) = (.slice s43.a s43.l s43.c) ∧
 raw Try.prog (Builtin.append_ #[35, 35] 35 #[(.slice d13.1.1.a d13.1.1.l d13.1.1.c), (.slice (some p44) 1 1)]) w45 fun v47 w48 =>
 decS v47 fun s49 =>
 rdS w48 p19 fun s50 =>
 ((.slice s50.a s50.l s50.c) : Value) = (.slice s43.a s43.l s43.c) ∧
 k15 ((s49, (if ((s43.l : Nat) : Int) < d13.1.2.1 then ((s43.l : Nat) : Int) else d13.1.2.1), (IntKind.wrap .i64 (d13.1.2.2.1 + 1)), ()), (D40 :: d13.2)) w48)
 (fun _ _ => False)
 [])
 ((0 : Int) ≤ d13.1.2.1 ∧ d13.1.2.1 ≤ d13.1.2.1 ∧ ((24 : Nat) : Int) * d13.1.2.1 ≤ 281474976710656 ∧ d13.1.2.1 ≤ 281474976710656 ∧
 al w14 (.cells (zeroRow #[(.slice none 0 0)] ((Int.toNat d13.1.2.1) * 1)) 23) fun p51 w52 =>
 joinT (D := Unit) (fun k53 =>
 loopT (D := Int × Unit) (fun d56 w57 k58 => ∀ _ : Regs,
 cond (decide (d56.1 < (((Int.toNat d13.1.2.1) : Nat) : Int)))
 (joinT (D := Unit) (fun k59 =>
 loopT (D := Int × Unit) (fun d62 w63 k64 => ∀ _ : Regs,
 cond (decide (d62.1 < ((d13.1.1.l : Nat) : Int)))
 (ix d13.1.1.a d13.1.1.l d62.1 fun q65 =>
 rdS w63 (q65.add (d62.1.toNat * 1)) fun s66 =>
 ix (some p51) (Int.toNat d13.1.2.1) d56.1 fun q67 =>
 rdS w63.drew (q67.add (d56.1.toNat * 1)) fun s68 =>
 ix s66.a s66.l d56.1 fun q69 =>
 rdI .i64 w63.drew (q69.add (d56.1.toNat * 1)) fun n70 =>
 al w63.drew (.cells #[(.int .i64 n70)] 3) fun p71 w72 =>
 rdS w72 (q67.add (d56.1.toNat * 1)) fun s73 =>
 ((.slice s73.a s73.l s73.c) : Value) = (.slice s68.a s68.l s68.c) ∧
 raw Try.prog (Builtin.append_ #[23, 23] 23 #[(.slice s68.a s68.l s68.c), (.slice (some p71) 1 1)]) w72 fun v74 w75 =>
 decS v74 fun s76 =>
 ix (some p51) (Int.toNat d13.1.2.1) d56.1 fun q77 =>
 wr w75 (q77.add (d56.1.toNat * 1)) (.slice s76.a s76.l s76.c) fun w78 =>
 k64 ((IntKind.wrap .i64 (d62.1 + 1)), ()) w78)
 (k59 () w63))
 (0, ()) w57)
 fun d60 w61 => ∀ _ : Regs,
 ix (some p51) (Int.toNat d13.1.2.1) d56.1 fun q79 =>
 rdS w61 (q79.add (d56.1.toNat * 1)) fun s80 =>
 Ok Try.prog 81 [(.slice s80.a s80.l s80.c)] w61 fun v81 w82 =>
 decS v81 fun s83 =>
 ix (some p51) (Int.toNat d13.1.2.1) d56.1 fun q84 =>
 wr w82 (q84.add (d56.1.toNat * 1)) (.slice s83.a s83.l s83.c) fun w85 =>
 k58 ((IntKind.wrap .i64 (d56.1 + 1)), ()) w85)
 (k53 () w57))
 (0, ()) w52)
 fun d54 w55 => ∀ _ : Regs,
 leaveD d13.2 w55 fun w86 =>
 K (.slice (some p51) (Int.toNat d13.1.2.1) (Int.toNat d13.1.2.1)) w86))
 ((⟨none, 0, 0⟩, n11, 0, ()), []) w9)
theorem e28 (g0 : (Int × Int × Int × Unit)) (bad1 : Sl) (w : World) (K : Value → World → Prop) : exF Try.prog a28 Try.f28 [(.agg #[(.int .i64 g0.1), (.int .i64 g0.2.1), (.int .i64 g0.2.2.1)]), (.slice bad1.a bad1.l bad1.c)] w K = T28 g0 bad1 w K := by kernel_rfl
theorem b28 : hasB Try.prog 28 = true := by kernel_rfl
theorem f28 : fitsF Try.f28 2 = true := by kernel_rfl
theorem u28 {w : World} {K : Value → World → Prop} {g0 : (Int × Int × Int × Unit)} {bad1 : Sl} (h : T28 g0 bad1 w K) : Ok Try.prog 28 [(.agg #[(.int .i64 g0.1), (.int .i64 g0.2.1), (.int .i64 g0.2.2.1)]), (.slice bad1.a bad1.l bad1.c)] w K :=
  Ok_eq a28 2 mixed Try.func28 b28 f28 rfl (e28 g0 bad1 w K) h

/-! 29: ramekinref9.Supers -/
def a29 : Ann := { reg := [(16, [(10, (.one .b))])], cnd := [(50, [(8, (.one .s))])], lop := [(27, [(14, (.one .s)), (15, (.one (.i .i64)))]), (23, [(12, (.one .s)), (13, (.one (.i .i64)))]), (14, [(10, (.one .b)), (11, (.one (.i .i64)))]), (10, [(8, (.one .s)), (9, (.one (.i .i64)))]), (6, [(5, (.one .s)), (6, (.one (.i .i64))), (7, (.one (.i .i64)))])], blk := [(6, [(12, (.one .s))]), (8, [(14, (.one .s))]), (0, [(5, (.one .s)), (6, (.one (.i .i64)))]), (2, [(8, (.one .s))]), (4, [(10, (.one .b))])], prm := [] }
def T29 (g0 : (Int × Int × Int × Unit)) (bad1 : Sl) (w : World) (K : Value → World → Prop) : Prop :=
 al w (.cells #[(.int .i64 g0.1), (.int .i64 g0.2.1), (.int .i64 g0.2.2.1)] 29) fun p1 w2 =>
 rdI .i64 w2 p1 fun n3 =>
 rdI .i64 w2 (p1.add 1) fun n4 =>
 rdI .i64 w2 (p1.add 2) fun n5 =>
 Ok Try.prog 31 [(.agg #[(.int .i64 n3), (.int .i64 n4), (.int .i64 n5)])] w2 fun v6 w7 =>
 decI .i64 v6 fun n8 =>
 cond (n8 != 0)
 (K (.slice none 0 0) w7)
 (rdI .i64 w7 (p1.add 1) fun n9 =>
 joinT (D := Sl × Int × Unit) (fun k10 =>
 loopT (D := Sl × Int × Int × Unit) (fun d13 w14 k15 => ∀ _ : Regs,
 rdI .i64 w14 p1 fun n16 =>
 cond (decide (d13.2.2.1 < n16))
 (joinT (D := Sl × Unit) (fun k17 =>
 loopT (D := Sl × Int × Unit) (fun d20 w21 k22 => ∀ _ : Regs,
 rdI .i64 w21 (p1.add 1) fun n23 =>
 cond (decide (d20.2.1 < n23))
 (joinT (D := Bool × Unit) (fun k24 =>
 loopT (D := Bool × Int × Unit) (fun d27 w28 k29 => ∀ _ : Regs,
 cond (decide (d27.2.1 < ((bad1.l : Nat) : Int)))
 (joinT (D := Bool × Unit) (fun k30 =>
 cond d27.1
 (ix bad1.a bad1.l d27.2.1 fun q33 =>
 rdI .i64 w28 (q33.add (d27.2.1.toNat * 2)) fun n34 =>
 rdI .i64 w28 ((q33.add (d27.2.1.toNat * 2)).add 1) fun n35 =>
 k30 ((!((n34 == d13.2.2.1) && ((n35 == d20.2.1) && true))), ()) w28)
 (k30 (false, ()) w28))
 fun d31 w32 => ∀ _ : Regs,
 k29 (d31.1, (IntKind.wrap .i64 (d27.2.1 + 1)), ()) w32)
 (k24 (d27.1, ()) w28))
 (true, 0, ()) w21)
 fun d25 w26 => ∀ _ : Regs,
 joinT (D := Sl × Unit) (fun k36 =>
 cond d25.1
 (al w26 (.cells #[(.int .i64 d20.2.1)] 3) fun p39 w40 =>
 raw Try.prog (Builtin.append_ #[23, 23] 23 #[(.slice d20.1.a d20.1.l d20.1.c), (.slice (some p39) 1 1)]) w40 fun v41 w42 =>
 decS v41 fun s43 =>
 k36 (s43, ()) w42)
 (k36 (d20.1, ()) w26))
 fun d37 w38 => ∀ _ : Regs,
 k22 (d37.1, (IntKind.wrap .i64 (d20.2.1 + 1)), ()) w38)
 (k17 (d20.1, ()) w21))
 (⟨none, 0, 0⟩, 0, ()) w14)
 fun d18 w19 => ∀ _ : Regs,
 al w19 (.cells #[(.slice d18.1.a d18.1.l d18.1.c)] 23) fun p44 w45 =>
 raw Try.prog (Builtin.append_ #[35, 35] 35 #[(.slice d13.1.a d13.1.l d13.1.c), (.slice (some p44) 1 1)]) w45 fun v46 w47 =>
 decS v46 fun s48 =>
 k15 (s48, (if ((d18.1.l : Nat) : Int) < d13.2.1 then ((d18.1.l : Nat) : Int) else d13.2.1), (IntKind.wrap .i64 (d13.2.2.1 + 1)), ()) w47)
 (k10 (d13.1, d13.2.1, ()) w14))
 (⟨none, 0, 0⟩, n9, 0, ()) w7)
 fun d11 w12 => ∀ _ : Regs,
 joinT (D := Sl × Unit) (fun k49 =>
 loopT (D := Sl × Int × Unit) (fun d52 w53 k54 => ∀ _ : Regs,
 cond (decide (d52.2.1 < d11.2.1))
 (joinT (D := Sl × Unit) (fun k55 =>
 loopT (D := Sl × Int × Unit) (fun d58 w59 k60 => ∀ _ : Regs,
 rdI .i64 w59 p1 fun n61 =>
 cond (decide (d58.2.1 < n61))
 (ix d11.1.a d11.1.l d58.2.1 fun q62 =>
 rdS w59 (q62.add (d58.2.1.toNat * 1)) fun s63 =>
 ix s63.a s63.l d52.2.1 fun q64 =>
 rdI .i64 w59 (q64.add (d52.2.1.toNat * 1)) fun n65 =>
 al w59 (.cells #[(.int .i64 n65)] 3) fun p66 w67 =>
 raw Try.prog (Builtin.append_ #[23, 23] 23 #[(.slice d58.1.a d58.1.l d58.1.c), (.slice (some p66) 1 1)]) w67 fun v68 w69 =>
 decS v68 fun s70 =>
 k60 (s70, (IntKind.wrap .i64 (d58.2.1 + 1)), ()) w69)
 (k55 (d58.1, ()) w59))
 (⟨none, 0, 0⟩, 0, ()) w53)
 fun d56 w57 => ∀ _ : Regs,
 al w57 (.cells #[(.slice d56.1.a d56.1.l d56.1.c)] 23) fun p71 w72 =>
 raw Try.prog (Builtin.append_ #[35, 35] 35 #[(.slice d52.1.a d52.1.l d52.1.c), (.slice (some p71) 1 1)]) w72 fun v73 w74 =>
 decS v73 fun s75 =>
 k54 (s75, (IntKind.wrap .i64 (d52.2.1 + 1)), ()) w74)
 (k49 (d52.1, ()) w53))
 (⟨none, 0, 0⟩, 0, ()) w12)
 fun d50 w51 => ∀ _ : Regs,
 K (.slice d50.1.a d50.1.l d50.1.c) w51)
theorem e29 (g0 : (Int × Int × Int × Unit)) (bad1 : Sl) (w : World) (K : Value → World → Prop) : exF Try.prog a29 Try.f29 [(.agg #[(.int .i64 g0.1), (.int .i64 g0.2.1), (.int .i64 g0.2.2.1)]), (.slice bad1.a bad1.l bad1.c)] w K = T29 g0 bad1 w K := by kernel_rfl
theorem b29 : hasB Try.prog 29 = true := by kernel_rfl
theorem f29 : fitsF Try.f29 2 = true := by kernel_rfl
theorem u29 {w : World} {K : Value → World → Prop} {g0 : (Int × Int × Int × Unit)} {bad1 : Sl} (h : T29 g0 bad1 w K) : Ok Try.prog 29 [(.agg #[(.int .i64 g0.1), (.int .i64 g0.2.1), (.int .i64 g0.2.2.1)]), (.slice bad1.a bad1.l bad1.c)] w K :=
  Ok_eq a29 2 mixed Try.func29 b29 f29 rfl (e29 g0 bad1 w K) h

/-! 30: geom.Check -/
def a30 : Ann := { reg := [], cnd := [], lop := [], blk := [], prm := [] }
def T30 (g0 : (Int × Int × Int × Unit)) (w : World) (K : Value → World → Prop) : Prop :=
 al w (.cells #[(.int .i64 g0.1), (.int .i64 g0.2.1), (.int .i64 g0.2.2.1)] 29) fun p1 w2 =>
 rdI .i64 w2 p1 fun n3 =>
 rdI .i64 w2 (p1.add 1) fun n4 =>
 rdI .i64 w2 (p1.add 2) fun n5 =>
 Ok Try.prog 77 [(.agg #[(.int .i64 n3), (.int .i64 n4), (.int .i64 n5)])] w2 fun v6 w7 =>
 decB v6 fun b8 =>
 cond (!b8)
 (K (.int .i64 1) w7)
 (K (.int .i64 0) w7)
theorem e30 (g0 : (Int × Int × Int × Unit)) (w : World) (K : Value → World → Prop) : exF Try.prog a30 Try.f30 [(.agg #[(.int .i64 g0.1), (.int .i64 g0.2.1), (.int .i64 g0.2.2.1)])] w K = T30 g0 w K := by kernel_rfl
theorem b30 : hasB Try.prog 30 = true := by kernel_rfl
theorem f30 : fitsF Try.f30 1 = true := by kernel_rfl
theorem u30 {w : World} {K : Value → World → Prop} {g0 : (Int × Int × Int × Unit)} (h : T30 g0 w K) : Ok Try.prog 30 [(.agg #[(.int .i64 g0.1), (.int .i64 g0.2.1), (.int .i64 g0.2.2.1)])] w K :=
  Ok_eq a30 1 mixed Try.func30 b30 f30 rfl (e30 g0 w K) h

/-! 31: ramekinref9.Check -/
def a31 : Ann := { reg := [], cnd := [], lop := [], blk := [], prm := [] }
def T31 (g0 : (Int × Int × Int × Unit)) (w : World) (K : Value → World → Prop) : Prop :=
 al w (.cells #[(.int .i64 g0.1), (.int .i64 g0.2.1), (.int .i64 g0.2.2.1)] 29) fun p1 w2 =>
 rdI .i64 w2 p1 fun n3 =>
 rdI .i64 w2 (p1.add 1) fun n4 =>
 rdI .i64 w2 (p1.add 2) fun n5 =>
 Ok Try.prog 82 [(.agg #[(.int .i64 n3), (.int .i64 n4), (.int .i64 n5)])] w2 fun v6 w7 =>
 decB v6 fun b8 =>
 cond b8
 (K (.int .i64 0) w7)
 (K (.int .i64 1) w7)
theorem e31 (g0 : (Int × Int × Int × Unit)) (w : World) (K : Value → World → Prop) : exF Try.prog a31 Try.f31 [(.agg #[(.int .i64 g0.1), (.int .i64 g0.2.1), (.int .i64 g0.2.2.1)])] w K = T31 g0 w K := by kernel_rfl
theorem b31 : hasB Try.prog 31 = true := by kernel_rfl
theorem f31 : fitsF Try.f31 1 = true := by kernel_rfl
theorem u31 {w : World} {K : Value → World → Prop} {g0 : (Int × Int × Int × Unit)} (h : T31 g0 w K) : Ok Try.prog 31 [(.agg #[(.int .i64 g0.1), (.int .i64 g0.2.1), (.int .i64 g0.2.2.1)])] w K :=
  Ok_eq a31 1 mixed Try.func31 b31 f31 rfl (e31 g0 w K) h

/-! 32: geom.Slots -/
def a32 : Ann := { reg := [], cnd := [], lop := [], blk := [], prm := [] }
def T32 (g0 : (Int × Int × Int × Unit)) (w : World) (K : Value → World → Prop) : Prop :=
 al w (.cells #[(.int .i64 g0.1), (.int .i64 g0.2.1), (.int .i64 g0.2.2.1)] 29) fun p1 w2 =>
 rdI .i64 w2 p1 fun n3 =>
 rdI .i64 w2 (p1.add 1) fun n4 =>
 rdI .i64 w2 (p1.add 2) fun n5 =>
 Ok Try.prog 77 [(.agg #[(.int .i64 n3), (.int .i64 n4), (.int .i64 n5)])] w2 fun v6 w7 =>
 decB v6 fun b8 =>
 cond (!b8)
 (K (.int .i64 0) w7)
 (rdI .i64 w7 p1 fun n9 =>
 K (.int .i64 (IntKind.wrap .i64 (n9 - 2))) w7)
theorem e32 (g0 : (Int × Int × Int × Unit)) (w : World) (K : Value → World → Prop) : exF Try.prog a32 Try.f32 [(.agg #[(.int .i64 g0.1), (.int .i64 g0.2.1), (.int .i64 g0.2.2.1)])] w K = T32 g0 w K := by kernel_rfl
theorem b32 : hasB Try.prog 32 = true := by kernel_rfl
theorem f32 : fitsF Try.f32 1 = true := by kernel_rfl
theorem u32 {w : World} {K : Value → World → Prop} {g0 : (Int × Int × Int × Unit)} (h : T32 g0 w K) : Ok Try.prog 32 [(.agg #[(.int .i64 g0.1), (.int .i64 g0.2.1), (.int .i64 g0.2.2.1)])] w K :=
  Ok_eq a32 1 mixed Try.func32 b32 f32 rfl (e32 g0 w K) h

/-! 33: ramekinref9.Slots -/
def a33 : Ann := { reg := [], cnd := [], lop := [], blk := [], prm := [] }
def T33 (g0 : (Int × Int × Int × Unit)) (w : World) (K : Value → World → Prop) : Prop :=
 al w (.cells #[(.int .i64 g0.1), (.int .i64 g0.2.1), (.int .i64 g0.2.2.1)] 29) fun p1 w2 =>
 rdI .i64 w2 p1 fun n3 =>
 rdI .i64 w2 (p1.add 1) fun n4 =>
 rdI .i64 w2 (p1.add 2) fun n5 =>
 Ok Try.prog 31 [(.agg #[(.int .i64 n3), (.int .i64 n4), (.int .i64 n5)])] w2 fun v6 w7 =>
 decI .i64 v6 fun n8 =>
 cond (n8 != 0)
 (K (.int .i64 0) w7)
 (rdI .i64 w7 p1 fun n9 =>
 K (.int .i64 (IntKind.wrap .i64 (n9 - 2))) w7)
theorem e33 (g0 : (Int × Int × Int × Unit)) (w : World) (K : Value → World → Prop) : exF Try.prog a33 Try.f33 [(.agg #[(.int .i64 g0.1), (.int .i64 g0.2.1), (.int .i64 g0.2.2.1)])] w K = T33 g0 w K := by kernel_rfl
theorem b33 : hasB Try.prog 33 = true := by kernel_rfl
theorem f33 : fitsF Try.f33 1 = true := by kernel_rfl
theorem u33 {w : World} {K : Value → World → Prop} {g0 : (Int × Int × Int × Unit)} (h : T33 g0 w K) : Ok Try.prog 33 [(.agg #[(.int .i64 g0.1), (.int .i64 g0.2.1), (.int .i64 g0.2.2.1)])] w K :=
  Ok_eq a33 1 mixed Try.func33 b33 f33 rfl (e33 g0 w K) h

/-! 34: geom.Sectors -/
def a34 : Ann := { reg := [(1, [(14, (.one .b))])], cnd := [], lop := [], blk := [], prm := [] }
def T34 (g0 : (Int × Int × Int × Unit)) (supers1 : Int) (w : World) (K : Value → World → Prop) : Prop :=
 al w (.cells #[(.int .i64 g0.1), (.int .i64 g0.2.1), (.int .i64 g0.2.2.1)] 29) fun p1 w2 =>
 joinT (D := Bool × Unit) (fun k3 =>
 rdI .i64 w2 p1 fun n6 =>
 rdI .i64 w2 (p1.add 1) fun n7 =>
 rdI .i64 w2 (p1.add 2) fun n8 =>
 Ok Try.prog 77 [(.agg #[(.int .i64 n6), (.int .i64 n7), (.int .i64 n8)])] w2 fun v9 w10 =>
 decB v9 fun b11 =>
 cond (!b11)
 (k3 (true, ()) w10)
 (rdI .i64 w10 (p1.add 1) fun n12 =>
 Ok Try.prog 83 [(.int .i64 supers1), (.int .i64 7), (.int .i64 n12)] w10 fun v13 w14 =>
 decB v13 fun b15 =>
 k3 ((!b15), ()) w14))
 fun d4 w5 => ∀ _ : Regs,
 cond d4.1
 (K (.int .i64 0) w5)
 (rdI .i64 w5 (p1.add 2) fun n16 =>
 rdI .i64 w5 p1 fun n17 =>
 ((4 : Int) ≠ 0) ∧
 K (.int .i64 (IntKind.wrap .i64 (Int.tdiv (IntKind.wrap .i64 ((IntKind.wrap .i64 ((IntKind.wrap .i64 (supers1 - 4)) * (IntKind.wrap .i64 (n16 - 2)))) * (IntKind.wrap .i64 (n17 - 2)))) 4))) w5)
theorem e34 (g0 : (Int × Int × Int × Unit)) (supers1 : Int) (w : World) (K : Value → World → Prop) : exF Try.prog a34 Try.f34 [(.agg #[(.int .i64 g0.1), (.int .i64 g0.2.1), (.int .i64 g0.2.2.1)]), (.int .i64 supers1)] w K = T34 g0 supers1 w K := by kernel_rfl
theorem b34 : hasB Try.prog 34 = true := by kernel_rfl
theorem f34 : fitsF Try.f34 2 = true := by kernel_rfl
theorem u34 {w : World} {K : Value → World → Prop} {g0 : (Int × Int × Int × Unit)} {supers1 : Int} (h : T34 g0 supers1 w K) : Ok Try.prog 34 [(.agg #[(.int .i64 g0.1), (.int .i64 g0.2.1), (.int .i64 g0.2.2.1)]), (.int .i64 supers1)] w K :=
  Ok_eq a34 2 mixed Try.func34 b34 f34 rfl (e34 g0 supers1 w K) h

/-! 35: ramekinref9.Sectors -/
def a35 : Ann := { reg := [(1, [(17, (.one .b))])], cnd := [], lop := [], blk := [], prm := [] }
def T35 (g0 : (Int × Int × Int × Unit)) (supers1 : Int) (w : World) (K : Value → World → Prop) : Prop :=
 al w (.cells #[(.int .i64 g0.1), (.int .i64 g0.2.1), (.int .i64 g0.2.2.1)] 29) fun p1 w2 =>
 joinT (D := Bool × Unit) (fun k3 =>
 rdI .i64 w2 p1 fun n6 =>
 rdI .i64 w2 (p1.add 1) fun n7 =>
 rdI .i64 w2 (p1.add 2) fun n8 =>
 Ok Try.prog 31 [(.agg #[(.int .i64 n6), (.int .i64 n7), (.int .i64 n8)])] w2 fun v9 w10 =>
 decI .i64 v9 fun n11 =>
 cond (n11 != 0)
 (k3 (true, ()) w10)
 (cond (decide (supers1 < 7))
 (k3 (true, ()) w10)
 (rdI .i64 w10 (p1.add 1) fun n12 =>
 k3 ((decide (supers1 > n12)), ()) w10)))
 fun d4 w5 => ∀ _ : Regs,
 cond d4.1
 (K (.int .i64 0) w5)
 (rdI .i64 w5 (p1.add 2) fun n13 =>
 rdI .i64 w5 p1 fun n14 =>
 ((4 : Int) ≠ 0) ∧
 K (.int .i64 (IntKind.wrap .i64 (Int.tdiv (IntKind.wrap .i64 ((IntKind.wrap .i64 ((IntKind.wrap .i64 (supers1 - 4)) * (IntKind.wrap .i64 (n13 - 2)))) * (IntKind.wrap .i64 (n14 - 2)))) 4))) w5)
theorem e35 (g0 : (Int × Int × Int × Unit)) (supers1 : Int) (w : World) (K : Value → World → Prop) : exF Try.prog a35 Try.f35 [(.agg #[(.int .i64 g0.1), (.int .i64 g0.2.1), (.int .i64 g0.2.2.1)]), (.int .i64 supers1)] w K = T35 g0 supers1 w K := by kernel_rfl
theorem b35 : hasB Try.prog 35 = true := by kernel_rfl
theorem f35 : fitsF Try.f35 2 = true := by kernel_rfl
theorem u35 {w : World} {K : Value → World → Prop} {g0 : (Int × Int × Int × Unit)} {supers1 : Int} (h : T35 g0 supers1 w K) : Ok Try.prog 35 [(.agg #[(.int .i64 g0.1), (.int .i64 g0.2.1), (.int .i64 g0.2.2.1)]), (.int .i64 supers1)] w K :=
  Ok_eq a35 2 mixed Try.func35 b35 f35 rfl (e35 g0 supers1 w K) h

/-! 36: ramekinlaw9.within -/
def a36 : Ann := { reg := [], cnd := [(10, [(5, (.one (.i .i64)))])], lop := [], blk := [], prm := [] }
def T36 (at0 : Int) (n1 : Int) (w : World) (K : Value → World → Prop) : Prop :=
 (n1 ≠ 0) ∧
 joinT (D := Int × Unit) (fun k1 =>
 cond (decide ((Int.tmod at0 n1) < 0))
 (k1 ((IntKind.wrap .i64 ((Int.tmod at0 n1) + n1)), ()) w)
 (k1 ((Int.tmod at0 n1), ()) w))
 fun d2 w3 => ∀ _ : Regs,
 K (.int .i64 d2.1) w3
theorem e36 (at0 : Int) (n1 : Int) (w : World) (K : Value → World → Prop) : exF Try.prog a36 Try.f36 [(.int .i64 at0), (.int .i64 n1)] w K = T36 at0 n1 w K := by kernel_rfl
theorem b36 : hasB Try.prog 36 = true := by kernel_rfl
theorem f36 : fitsF Try.f36 2 = true := by kernel_rfl
theorem u36 {w : World} {K : Value → World → Prop} {at0 : Int} {n1 : Int} (h : T36 at0 n1 w K) : Ok Try.prog 36 [(.int .i64 at0), (.int .i64 n1)] w K :=
  Ok_eq a36 2 mixed Try.func36 b36 f36 rfl (e36 at0 n1 w K) h

/-! 38: ramekinlaw7.within -/
def a38 : Ann := { reg := [], cnd := [(10, [(5, (.one (.i .i64)))])], lop := [], blk := [], prm := [] }
def T38 (at0 : Int) (n1 : Int) (w : World) (K : Value → World → Prop) : Prop :=
 (n1 ≠ 0) ∧
 joinT (D := Int × Unit) (fun k1 =>
 cond (decide ((Int.tmod at0 n1) < 0))
 (k1 ((IntKind.wrap .i64 ((Int.tmod at0 n1) + n1)), ()) w)
 (k1 ((Int.tmod at0 n1), ()) w))
 fun d2 w3 => ∀ _ : Regs,
 K (.int .i64 d2.1) w3
theorem e38 (at0 : Int) (n1 : Int) (w : World) (K : Value → World → Prop) : exF Try.prog a38 Try.f38 [(.int .i64 at0), (.int .i64 n1)] w K = T38 at0 n1 w K := by kernel_rfl
theorem b38 : hasB Try.prog 38 = true := by kernel_rfl
theorem f38 : fitsF Try.f38 2 = true := by kernel_rfl
theorem u38 {w : World} {K : Value → World → Prop} {at0 : Int} {n1 : Int} (h : T38 at0 n1 w K) : Ok Try.prog 38 [(.int .i64 at0), (.int .i64 n1)] w K :=
  Ok_eq a38 2 mixed Try.func38 b38 f38 rfl (e38 at0 n1 w K) h

/-! 77: geom.fits -/
def a77 : Ann := { reg := [(1, [(2, (.one .b))])], cnd := [], lop := [], blk := [], prm := [] }
def T77 (g0 : (Int × Int × Int × Unit)) (w : World) (K : Value → World → Prop) : Prop :=
 al w (.cells #[(.int .i64 g0.1), (.int .i64 g0.2.1), (.int .i64 g0.2.2.1)] 29) fun p1 w2 =>
 joinT (D := Bool × Unit) (fun k3 =>
 rdI .i64 w2 p1 fun n6 =>
 Ok Try.prog 83 [(.int .i64 n6), (.int .i64 6), (.int .i64 8)] w2 fun v7 w8 =>
 decB v7 fun b9 =>
 cond b9
 (rdI .i64 w8 (p1.add 1) fun n10 =>
 Ok Try.prog 83 [(.int .i64 n10), (.int .i64 8), (.int .i64 12)] w8 fun v11 w12 =>
 decB v11 fun b13 =>
 cond b13
 (rdI .i64 w12 (p1.add 2) fun n14 =>
 Ok Try.prog 83 [(.int .i64 n14), (.int .i64 4), (.int .i64 8)] w12 fun v15 w16 =>
 decB v15 fun b17 =>
 k3 (b17, ()) w16)
 (k3 (false, ()) w12))
 (k3 (false, ()) w8))
 fun d4 w5 => ∀ _ : Regs,
 K (.bool d4.1) w5
theorem e77 (g0 : (Int × Int × Int × Unit)) (w : World) (K : Value → World → Prop) : exF Try.prog a77 Try.f77 [(.agg #[(.int .i64 g0.1), (.int .i64 g0.2.1), (.int .i64 g0.2.2.1)])] w K = T77 g0 w K := by kernel_rfl
theorem b77 : hasB Try.prog 77 = true := by kernel_rfl
theorem f77 : fitsF Try.f77 1 = true := by kernel_rfl
theorem u77 {w : World} {K : Value → World → Prop} {g0 : (Int × Int × Int × Unit)} (h : T77 g0 w K) : Ok Try.prog 77 [(.agg #[(.int .i64 g0.1), (.int .i64 g0.2.1), (.int .i64 g0.2.2.1)])] w K :=
  Ok_eq a77 1 mixed Try.func77 b77 f77 rfl (e77 g0 w K) h

/-! 78: geom.but[int] -/
def a78 : Ann := { reg := [], cnd := [], lop := [], blk := [], prm := [] }
def T78 (n0 : Int) (is1 : Nat) (is1c : Array Value) (w : World) (K : Value → World → Prop) : Prop :=
 al w (.cells #[(.int .i64 n0)] 3) fun p1 w2 =>
 al w2 (.cells #[(.func (.func is1) #[] is1c)] 100) fun p3 w4 =>
 K (.func (.func 119) #[] #[(.pointer (some p1)), (.pointer (some p3))]) w4
theorem e78 (n0 : Int) (is1 : Nat) (is1c : Array Value) (w : World) (K : Value → World → Prop) : exF Try.prog a78 Try.f78 [(.int .i64 n0), (.func (.func is1) #[] is1c)] w K = T78 n0 is1 is1c w K := by kernel_rfl
theorem b78 : hasB Try.prog 78 = true := by kernel_rfl
theorem f78 : fitsF Try.f78 2 = true := by kernel_rfl
theorem u78 {w : World} {K : Value → World → Prop} {n0 : Int} {is1 : Nat} {is1c : Array Value} (h : T78 n0 is1 is1c w K) : Ok Try.prog 78 [(.int .i64 n0), (.func (.func is1) #[] is1c)] w K :=
  Ok_eq a78 2 mixed Try.func78 b78 f78 rfl (e78 n0 is1 is1c w K) h

/-! 79: geom.Supers$1 -/
def a79 : Ann := { reg := [], cnd := [], lop := [], blk := [], prm := [] }
def T79 (b0 : Int) (c1 : Addr) (c2 : Addr) (w : World) (K : Value → World → Prop) : Prop :=
 rdS w c1 fun s1 =>
 rdI .i64 w c2 fun n2 =>
 Ok Try.prog 80 [(.slice s1.a s1.l s1.c), (.agg #[(.int .i64 n2), (.int .i64 b0)])] w fun v3 w4 =>
 decB v3 fun b5 =>
 K (.bool b5) w4
theorem e79 (b0 : Int) (c1 : Addr) (c2 : Addr) (w : World) (K : Value → World → Prop) : exF Try.prog a79 Try.f79 [(.int .i64 b0), (.pointer (some c1)), (.pointer (some c2))] w K = T79 b0 c1 c2 w K := by kernel_rfl
theorem b79 : hasB Try.prog 79 = true := by kernel_rfl
theorem f79 : fitsF Try.f79 3 = true := by kernel_rfl
theorem u79 {w : World} {K : Value → World → Prop} {b0 : Int} {c1 : Addr} {c2 : Addr} (h : T79 b0 c1 c2 w K) : Ok Try.prog 79 [(.int .i64 b0), (.pointer (some c1)), (.pointer (some c2))] w K :=
  Ok_eq a79 3 mixed Try.func79 b79 f79 rfl (e79 b0 c1 c2 w K) h

/-! 80: slices.Contains[[][2]int,[2]int] -/
def a80 : Ann := { reg := [], cnd := [], lop := [], blk := [], prm := [] }
def T80 (s0 : Sl) (v1 : (Int × Int × Unit)) (w : World) (K : Value → World → Prop) : Prop :=
 al w (.cells #[(.int .i64 v1.1), (.int .i64 v1.2.1)] 42) fun p1 w2 =>
 rdI .i64 w2 p1 fun n3 =>
 rdI .i64 w2 (p1.add 1) fun n4 =>
 Ok Try.prog 120 [(.slice s0.a s0.l s0.c), (.agg #[(.int .i64 n3), (.int .i64 n4)])] w2 fun v5 w6 =>
 decI .i64 v5 fun n7 =>
 K (.bool (decide (n7 ≥ 0))) w6
theorem e80 (s0 : Sl) (v1 : (Int × Int × Unit)) (w : World) (K : Value → World → Prop) : exF Try.prog a80 Try.f80 [(.slice s0.a s0.l s0.c), (.agg #[(.int .i64 v1.1), (.int .i64 v1.2.1)])] w K = T80 s0 v1 w K := by kernel_rfl
theorem b80 : hasB Try.prog 80 = true := by kernel_rfl
theorem f80 : fitsF Try.f80 2 = true := by kernel_rfl
theorem u80 {w : World} {K : Value → World → Prop} {s0 : Sl} {v1 : (Int × Int × Unit)} (h : T80 s0 v1 w K) : Ok Try.prog 80 [(.slice s0.a s0.l s0.c), (.agg #[(.int .i64 v1.1), (.int .i64 v1.2.1)])] w K :=
  Ok_eq a80 2 mixed Try.func80 b80 f80 rfl (e80 s0 v1 w K) h

/-! 81: slices.Clone[[]int,int] -/
def a81 : Ann := { reg := [], cnd := [], lop := [], blk := [], prm := [] }
def T81 (s0 : Sl) (w : World) (K : Value → World → Prop) : Prop :=
 cond (Option.isNone s0.a)
 (K (.slice none 0 0) w)
 (al w (.cells #[] 3) fun p1 w2 =>
 raw Try.prog (Builtin.append_ #[23, 23] 23 #[(.slice (some p1) 0 0), (.slice s0.a s0.l s0.c)]) w2 fun v3 w4 =>
 decS v3 fun s5 =>
 K (.slice s5.a s5.l s5.c) w4)
theorem e81 (s0 : Sl) (w : World) (K : Value → World → Prop) : exF Try.prog a81 Try.f81 [(.slice s0.a s0.l s0.c)] w K = T81 s0 w K := by kernel_rfl
theorem b81 : hasB Try.prog 81 = true := by kernel_rfl
theorem f81 : fitsF Try.f81 1 = true := by kernel_rfl
theorem u81 {w : World} {K : Value → World → Prop} {s0 : Sl} (h : T81 s0 w K) : Ok Try.prog 81 [(.slice s0.a s0.l s0.c)] w K :=
  Ok_eq a81 1 mixed Try.func81 b81 f81 rfl (e81 s0 w K) h

/-! 82: ramekinref7.Check -/
def a82 : Ann := { reg := [(1, [(2, (.one .b))])], cnd := [], lop := [], blk := [], prm := [] }
def T82 (g0 : (Int × Int × Int × Unit)) (w : World) (K : Value → World → Prop) : Prop :=
 al w (.cells #[(.int .i64 g0.1), (.int .i64 g0.2.1), (.int .i64 g0.2.2.1)] 29) fun p1 w2 =>
 joinT (D := Bool × Unit) (fun k3 =>
 rdI .i64 w2 p1 fun n6 =>
 cond (decide (n6 ≥ 6))
 (rdI .i64 w2 p1 fun n7 =>
 cond (decide (n7 ≤ 8))
 (rdI .i64 w2 (p1.add 1) fun n8 =>
 cond (decide (n8 ≥ 8))
 (rdI .i64 w2 (p1.add 1) fun n9 =>
 cond (decide (n9 ≤ 12))
 (rdI .i64 w2 (p1.add 2) fun n10 =>
 cond (decide (n10 ≥ 4))
 (rdI .i64 w2 (p1.add 2) fun n11 =>
 k3 ((decide (n11 ≤ 8)), ()) w2)
 (k3 (false, ()) w2))
 (k3 (false, ()) w2))
 (k3 (false, ()) w2))
 (k3 (false, ()) w2))
 (k3 (false, ()) w2))
 fun d4 w5 => ∀ _ : Regs,
 K (.bool d4.1) w5
theorem e82 (g0 : (Int × Int × Int × Unit)) (w : World) (K : Value → World → Prop) : exF Try.prog a82 Try.f82 [(.agg #[(.int .i64 g0.1), (.int .i64 g0.2.1), (.int .i64 g0.2.2.1)])] w K = T82 g0 w K := by kernel_rfl
theorem b82 : hasB Try.prog 82 = true := by kernel_rfl
theorem f82 : fitsF Try.f82 1 = true := by kernel_rfl
theorem u82 {w : World} {K : Value → World → Prop} {g0 : (Int × Int × Int × Unit)} (h : T82 g0 w K) : Ok Try.prog 82 [(.agg #[(.int .i64 g0.1), (.int .i64 g0.2.1), (.int .i64 g0.2.2.1)])] w K :=
  Ok_eq a82 1 mixed Try.func82 b82 f82 rfl (e82 g0 w K) h

/-! 83: geom.within -/
def a83 : Ann := { reg := [(1, [(6, (.one .b))])], cnd := [], lop := [], blk := [], prm := [] }
def T83 (n0 : Int) (from1 : Int) (to2 : Int) (w : World) (K : Value → World → Prop) : Prop :=
 joinT (D := Bool × Unit) (fun k1 =>
 cond (decide (n0 ≥ from1))
 (k1 ((decide (n0 ≤ to2)), ()) w)
 (k1 (false, ()) w))
 fun d2 w3 => ∀ _ : Regs,
 K (.bool d2.1) w3
theorem e83 (n0 : Int) (from1 : Int) (to2 : Int) (w : World) (K : Value → World → Prop) : exF Try.prog a83 Try.f83 [(.int .i64 n0), (.int .i64 from1), (.int .i64 to2)] w K = T83 n0 from1 to2 w K := by kernel_rfl
theorem b83 : hasB Try.prog 83 = true := by kernel_rfl
theorem f83 : fitsF Try.f83 3 = true := by kernel_rfl
theorem u83 {w : World} {K : Value → World → Prop} {n0 : Int} {from1 : Int} {to2 : Int} (h : T83 n0 from1 to2 w K) : Ok Try.prog 83 [(.int .i64 n0), (.int .i64 from1), (.int .i64 to2)] w K :=
  Ok_eq a83 3 mixed Try.func83 b83 f83 rfl (e83 n0 from1 to2 w K) h

/-! 119: geom.but[int]$1 -/
def a119 : Ann := { reg := [(3, [(18, (.one .b))])], cnd := [], lop := [(1, [(6, (.one (.i .i64)))])], blk := [(0, [])], prm := [] }
def T119 (yield0 : Nat) (c1 : Addr) (c2 : Addr) (w : World) (K : Value → World → Prop) : Prop :=
 rdI .i64 w c1 fun n1 =>
 joinT (D := Unit) (fun k2 =>
 loopT (D := Int × Unit) (fun d5 w6 k7 => ∀ _ : Regs,
 cond (decide (d5.1 < n1))
 (joinT (D := Bool × Unit) (fun k8 =>
 rdV w6 c2 fun v11 =>
 OkV Try.prog v11 [(.int .i64 d5.1)] w6 fun v12 w13 =>
 decB v12 fun b14 =>
 cond (!b14)
 (OkY Try.prog yield0 [(.int .i64 d5.1)] w13 fun v15 w16 =>
 decB v15 fun b17 =>
 k8 ((!b17), ()) w16)
 (k8 (false, ()) w13))
 fun d9 w10 => ∀ _ : Regs,
 cond d9.1
 (K (.tuple #[]) w10)
 (k7 ((IntKind.wrap .i64 (d5.1 + 1)), ()) w10))
 (k2 () w6))
 (0, ()) w)
 fun d3 w4 => ∀ _ : Regs,
 K (.tuple #[]) w4
theorem e119 (yield0 : Nat) (c1 : Addr) (c2 : Addr) (w : World) (K : Value → World → Prop) : exF Try.prog a119 Try.f119 [(.func (.yield yield0) #[] #[]), (.pointer (some c1)), (.pointer (some c2))] w K = T119 yield0 c1 c2 w K := by kernel_rfl
theorem b119 : hasB Try.prog 119 = true := by kernel_rfl
theorem f119 : fitsF Try.f119 3 = true := by kernel_rfl
theorem u119 {w : World} {K : Value → World → Prop} {yield0 : Nat} {c1 : Addr} {c2 : Addr} (h : T119 yield0 c1 c2 w K) : Ok Try.prog 119 [(.func (.yield yield0) #[] #[]), (.pointer (some c1)), (.pointer (some c2))] w K :=
  Ok_eq a119 3 mixed Try.func119 b119 f119 rfl (e119 yield0 c1 c2 w K) h

/-! 120: slices.Index[[][2]int,[2]int] -/
def a120 : Ann := { reg := [], cnd := [], lop := [(2, [(8, (.one (.i .i64)))])], blk := [(0, [])], prm := [] }
def T120 (s0 : Sl) (v1 : (Int × Int × Unit)) (w : World) (K : Value → World → Prop) : Prop :=
 al w (.cells #[(.int .i64 v1.1), (.int .i64 v1.2.1)] 42) fun p1 w2 =>
 joinT (D := Unit) (fun k3 =>
 loopT (D := Int × Unit) (fun d6 w7 k8 => ∀ _ : Regs,
 cond (decide (d6.1 < ((s0.l : Nat) : Int)))
 (rdI .i64 w7.drew p1 fun n9 =>
 rdI .i64 w7.drew (p1.add 1) fun n10 =>
 ix s0.a s0.l d6.1 fun q11 =>
 rdI .i64 w7.drew (q11.add (d6.1.toNat * 2)) fun n12 =>
 rdI .i64 w7.drew ((q11.add (d6.1.toNat * 2)).add 1) fun n13 =>
 cond ((n9 == n12) && ((n10 == n13) && true))
 (K (.int .i64 d6.1) w7.drew)
 (k8 ((IntKind.wrap .i64 (d6.1 + 1)), ()) w7.drew))
 (k3 () w7))
 (0, ()) w2)
 fun d4 w5 => ∀ _ : Regs,
 K (.int .i64 (-1)) w5
theorem e120 (s0 : Sl) (v1 : (Int × Int × Unit)) (w : World) (K : Value → World → Prop) : exF Try.prog a120 Try.f120 [(.slice s0.a s0.l s0.c), (.agg #[(.int .i64 v1.1), (.int .i64 v1.2.1)])] w K = T120 s0 v1 w K := by kernel_rfl
theorem b120 : hasB Try.prog 120 = true := by kernel_rfl
theorem f120 : fitsF Try.f120 2 = true := by kernel_rfl
theorem u120 {w : World} {K : Value → World → Prop} {s0 : Sl} {v1 : (Int × Int × Unit)} (h : T120 s0 v1 w K) : Ok Try.prog 120 [(.slice s0.a s0.l s0.c), (.agg #[(.int .i64 v1.1), (.int .i64 v1.2.1)])] w K :=
  Ok_eq a120 2 mixed Try.func120 b120 f120 rfl (e120 s0 v1 w K) h

end Go.Proofs.Ytppfnkedbpmliaa
