/- Nothing is proved here but readings: what the loaded code of some functions reads as. Written by a program of this work (wip/gen). -/
import Derived.Test.YtppfnkedbpmliaaR0
set_option linter.unusedVariables false
namespace Go.Proofs.Ytppfnkedbpmliaa
open Go.Rk
/-! 8: ramekinlaw7.NandMakes -/
def a8 : Ann := { reg := [(27, [(8, (.one .b))])], cnd := [(30, []), (35, []), (40, []), (45, []), (50, []), (55, []), (26, [(9, (.one (.i .i64)))])], lop := [], blk := [], prm := [] }
def T8 (g0 : (Int × Int × Int × Unit)) (bad1 : Sl) (which2 : Int) (above3 : Bool) (w : World) (K : Value → World → Prop) : Prop :=
 al w (.cells #[(.int .i64 g0.1), (.int .i64 g0.2.1), (.int .i64 g0.2.2.1)] 29) fun p1 w2 =>
 Ok Try.prog 37 [] w2 fun v3 w4 =>
 decB v3 fun b5 =>
 cond (!b5)
 (K (.bool false) w4)
 (cond (decide (((bad1.l : Nat) : Int) > 30))
 (K (.bool true) w4)
 (joinT (D := Int × Unit) (fun k6 =>
 cond above3
 (k6 (1, ()) w4)
 (k6 (0, ()) w4))
 fun d7 w8 => ∀ _ : Regs,
 al w8 (.cells #[(.int .i64 0), (.int .i64 0), (.int .i64 0)] 29) fun p9 w10 =>
 wr w10 p9 (.int .i64 7) fun w11 =>
 wr w11 (p9.add 1) (.int .i64 9) fun w12 =>
 wr w12 (p9.add 2) (.int .i64 5) fun w13 =>
 Ok Try.prog 38 [(.int .i64 which2), (.int .i64 6)] w13 fun v14 w15 =>
 decI .i64 v14 fun n16 =>
 joinT (D := Unit) (fun k17 =>
 cond (n16 == 0)
 (wr w15 p9 (.int .i64 (IntKind.wrap .i64 ((8 : Int) + d7.1))) fun w20 =>
 k17 () w20)
 (joinT (D := Unit) (fun k21 =>
 cond (n16 == 1)
 (wr w15 p9 (.int .i64 (IntKind.wrap .i64 ((6 : Int) - d7.1))) fun w24 =>
 k21 () w24)
 (joinT (D := Unit) (fun k25 =>
 cond (n16 == 2)
 (wr w15 (p9.add 1) (.int .i64 (IntKind.wrap .i64 ((12 : Int) + d7.1))) fun w28 =>
 k25 () w28)
 (joinT (D := Unit) (fun k29 =>
 cond (n16 == 3)
 (wr w15 (p9.add 1) (.int .i64 (IntKind.wrap .i64 ((8 : Int) - d7.1))) fun w32 =>
 k29 () w32)
 (joinT (D := Unit) (fun k33 =>
 cond (n16 == 4)
 (wr w15 (p9.add 2) (.int .i64 (IntKind.wrap .i64 ((8 : Int) + d7.1))) fun w36 =>
 k33 () w36)
 (joinT (D := Unit) (fun k37 =>
 cond (n16 == 5)
 (wr w15 (p9.add 2) (.int .i64 (IntKind.wrap .i64 ((4 : Int) - d7.1))) fun w40 =>
 k37 () w40)
 (k37 () w15))
 fun d38 w39 => ∀ _ : Regs,
 k33 () w39))
 fun d34 w35 => ∀ _ : Regs,
 k29 () w35))
 fun d30 w31 => ∀ _ : Regs,
 k25 () w31))
 fun d26 w27 => ∀ _ : Regs,
 k21 () w27))
 fun d22 w23 => ∀ _ : Regs,
 k17 () w23))
 fun d18 w19 => ∀ _ : Regs,
 rdI .i64 w19 p1 fun n41 =>
 rdI .i64 w19 (p1.add 1) fun n42 =>
 rdI .i64 w19 (p1.add 2) fun n43 =>
 Ok Try.prog 39 [(.agg #[(.int .i64 n41), (.int .i64 n42), (.int .i64 n43)]), (.slice bad1.a bad1.l bad1.c)] w19 fun v44 w45 =>
 dec2 v44 fun v46 v47 =>
 decP v46 fun p48 =>
 decI .i64 v47 fun n49 =>
 rdI .i64 w45 p1 fun n50 =>
 rdI .i64 w45 (p1.add 1) fun n51 =>
 rdI .i64 w45 (p1.add 2) fun n52 =>
 Ok Try.prog 40 [(.agg #[(.int .i64 n50), (.int .i64 n51), (.int .i64 n52)]), (.slice bad1.a bad1.l bad1.c)] w45 fun v53 w54 =>
 dec2 v53 fun v55 v56 =>
 decP v55 fun p57 =>
 decI .i64 v56 fun n58 =>
 rdI .i64 w54 p9 fun n59 =>
 rdI .i64 w54 (p9.add 1) fun n60 =>
 rdI .i64 w54 (p9.add 2) fun n61 =>
 Ok Try.prog 39 [(.agg #[(.int .i64 n59), (.int .i64 n60), (.int .i64 n61)]), (.slice none 0 0)] w54 fun v62 w63 =>
 dec2 v62 fun v64 v65 =>
 decP v64 fun p66 =>
 decI .i64 v65 fun n67 =>
 rdI .i64 w63 p1 fun n68 =>
 rdI .i64 w63 (p1.add 1) fun n69 =>
 rdI .i64 w63 (p1.add 2) fun n70 =>
 Ok Try.prog 26 [(.agg #[(.int .i64 n68), (.int .i64 n69), (.int .i64 n70)])] w63 fun v71 w72 =>
 decG [(.i .i64), (.i .i64), (.i .i64)] v71 fun g73 =>
 Ok Try.prog 39 [(.agg #[(.int .i64 g73.1), (.int .i64 g73.2.1), (.int .i64 g73.2.2.1)]), (.slice bad1.a bad1.l bad1.c)] w72 fun v74 w75 =>
 dec2 v74 fun v76 v77 =>
 decP v76 fun p78 =>
 decI .i64 v77 fun n79 =>
 rdI .i64 w75 p1 fun n80 =>
 rdI .i64 w75 (p1.add 1) fun n81 =>
 rdI .i64 w75 (p1.add 2) fun n82 =>
 Ok Try.prog 26 [(.agg #[(.int .i64 n80), (.int .i64 n81), (.int .i64 n82)])] w75 fun v83 w84 =>
 decG [(.i .i64), (.i .i64), (.i .i64)] v83 fun g85 =>
 Ok Try.prog 40 [(.agg #[(.int .i64 g85.1), (.int .i64 g85.2.1), (.int .i64 g85.2.2.1)]), (.slice bad1.a bad1.l bad1.c)] w84 fun v86 w87 =>
 dec2 v86 fun v88 v89 =>
 decP v88 fun p90 =>
 decI .i64 v89 fun n91 =>
 joinT (D := Bool × Unit) (fun k92 =>
 cond (n49 == n58)
 (cond (n79 == n91)
 (cond ((n67 == 0) == (!above3))
 (cond (!above3)
 (k92 (true, ()) w87)
 (k92 ((n67 == 1), ()) w87))
 (k92 (false, ()) w87))
 (k92 (false, ()) w87))
 (k92 (false, ()) w87))
 fun d93 w94 => ∀ _ : Regs,
 K (.bool d93.1) w94))
theorem e8 (g0 : (Int × Int × Int × Unit)) (bad1 : Sl) (which2 : Int) (above3 : Bool) (w : World) (K : Value → World → Prop) : exF Try.prog a8 Try.f8 [(.agg #[(.int .i64 g0.1), (.int .i64 g0.2.1), (.int .i64 g0.2.2.1)]), (.slice bad1.a bad1.l bad1.c), (.int .i64 which2), (.bool above3)] w K = T8 g0 bad1 which2 above3 w K := by kernel_rfl
theorem b8 : hasB Try.prog 8 = true := by kernel_rfl
theorem f8 : fitsF Try.f8 4 = true := by kernel_rfl
theorem u8 {w : World} {K : Value → World → Prop} {g0 : (Int × Int × Int × Unit)} {bad1 : Sl} {which2 : Int} {above3 : Bool} (h : T8 g0 bad1 which2 above3 w K) : Ok Try.prog 8 [(.agg #[(.int .i64 g0.1), (.int .i64 g0.2.1), (.int .i64 g0.2.2.1)]), (.slice bad1.a bad1.l bad1.c), (.int .i64 which2), (.bool above3)] w K :=
  Ok_eq a8 4 mixed Try.func8 b8 f8 rfl (e8 g0 bad1 which2 above3 w K) h

/-! 9: ramekinlaw7.NandNoise -/
def a9 : Ann := { reg := [(30, [(8, (.one .b))]), (24, [(115, (.one .b))]), (10, [(80, (.one .b))]), (3, [(30, (.one .b))])], cnd := [(103, [(16, (.one .s))])], lop := [(18, [(13, (.one (.i .i64)))]), (13, [(12, (.one (.i .i64)))])], blk := [(2, []), (0, [])], prm := [] }
def T9 (b0 : Sl) (l1 : Sl) (m2 : Sl) (page3 : Int) (w : World) (K : Value → World → Prop) : Prop :=
 Ok Try.prog 37 [] w fun v1 w2 =>
 decB v1 fun b3 =>
 cond (!b3)
 (K (.bool false) w2)
 (joinT (D := Bool × Unit) (fun k4 =>
 cond (decide (((l1.l : Nat) : Int) > 20))
 (k4 (true, ()) w2)
 (k4 ((decide (((m2.l : Nat) : Int) > 20)), ()) w2))
 fun d5 w6 => ∀ _ : Regs,
 cond d5.1
 (K (.bool true) w6)
 (Ok Try.prog 39 [(.agg #[(.int .i64 6), (.int .i64 8), (.int .i64 4)]), (.slice none 0 0)] w6 fun v7 w8 =>
 dec2 v7 fun v9 v10 =>
 decP v9 fun p11 =>
 decI .i64 v10 fun n12 =>
 cond (n12 != 0)
 (K (.bool false) w8)
 (Ok Try.prog 38 [(.int .i64 page3), (.int .i64 4)] w8 fun v13 w14 =>
 decI .i64 v13 fun n15 =>
 Ok Try.prog 41 [(.slice b0.a b0.l b0.c), (.int .i64 60)] w14 fun v16 w17 =>
 decS v16 fun s18 =>
 joinT (D := Bool × Unit) (fun k19 =>
 Ok Try.prog 42 [(.pointer p11), (.int .i64 1), (.int .i64 1), (.int .i64 n15), (.slice l1.a l1.l l1.c)] w17 fun v22 w23 =>
 decI .i64 v22 fun n24 =>
 cond (n24 != 0)
 (k19 (true, ()) w23)
 (Ok Try.prog 42 [(.pointer p11), (.int .i64 6), (.int .i64 0), (.int .i64 0), (.slice l1.a l1.l l1.c)] w23 fun v25 w26 =>
 decI .i64 v25 fun n27 =>
 cond (n27 != 1)
 (k19 (true, ()) w26)
 (Ok Try.prog 42 [(.pointer p11), (.int .i64 0), (.int .i64 8), (.int .i64 0), (.slice l1.a l1.l l1.c)] w26 fun v28 w29 =>
 decI .i64 v28 fun n30 =>
 cond (n30 != 1)
 (k19 (true, ()) w29)
 (Ok Try.prog 42 [(.pointer p11), (.int .i64 0), (.int .i64 0), (.int .i64 4), (.slice l1.a l1.l l1.c)] w29 fun v31 w32 =>
 decI .i64 v31 fun n33 =>
 cond (n33 != 1)
 (k19 (true, ()) w32)
 (Ok Try.prog 42 [(.pointer p11), (.int .i64 0), (.int .i64 0), (.int .i64 (-1)), (.slice l1.a l1.l l1.c)] w32 fun v34 w35 =>
 decI .i64 v34 fun n36 =>
 cond (n36 != 1)
 (k19 (true, ()) w35)
 (Ok Try.prog 43 [(.pointer p11)] w35 fun v37 w38 =>
 decI .i64 v37 fun n39 =>
 cond (n39 != 0)
 (k19 (true, ()) w38)
 (Ok Try.prog 44 [(.pointer p11)] w38 fun v40 w41 =>
 decI .i64 v40 fun n42 =>
 k19 ((n42 != 0), ()) w41)))))))
 fun d20 w21 => ∀ _ : Regs,
 cond d20.1
 (K (.bool false) w21)
 (joinT (D := Unit) (fun k43 =>
 loopT (D := Int × Unit) (fun d46 w47 k48 => ∀ _ : Regs,
 cond (decide (d46.1 < 4))
 (Ok Try.prog 45 [(.pointer p11), (.int .i64 1), (.int .i64 1), (.int .i64 d46.1), (.slice s18.a s18.l s18.c)] w47 fun v49 w50 =>
 decI .i64 v49 fun n51 =>
 cond (n51 != 0)
 (K (.bool false) w50)
 (k48 ((IntKind.wrap .i64 (d46.1 + 1)), ()) w50))
 (k43 () w47))
 (0, ()) w21)
 fun d44 w45 => ∀ _ : Regs,
 joinT (D := Unit) (fun k52 =>
 loopT (D := Int × Unit) (fun d55 w56 k57 => ∀ _ : Regs,
 cond (decide (d55.1 < 4))
 (Ok Try.prog 46 [(.pointer p11), (.int .i64 1), (.int .i64 1), (.int .i64 d55.1)] w56 fun v58 w59 =>
 dec2 v58 fun v60 v61 =>
 decS v60 fun s62 =>
 decI .i64 v61 fun n63 =>
 joinT (D := Sl × Unit) (fun k64 =>
 cond (d55.1 == n15)
 (Ok Try.prog 47 [(.slice s18.a s18.l s18.c), (.slice l1.a l1.l l1.c)] w59 fun v67 w68 =>
 decS v67 fun s69 =>
 k64 (s69, ()) w68)
 (k64 (s18, ()) w59))
 fun d65 w66 => ∀ _ : Regs,
 joinT (D := Bool × Unit) (fun k70 =>
 cond (n63 != 0)
 (k70 (true, ()) w66)
 (toStr Try.prog 22 9 (.slice s62.a s62.l s62.c) w66 fun str73 =>
 toStr Try.prog 22 9 (.slice d65.1.a d65.1.l d65.1.c) w66 fun str74 =>
 k70 ((!(ByteArray.toList str73 == ByteArray.toList str74)), ()) w66))
 fun d71 w72 => ∀ _ : Regs,
 cond d71.1
 (K (.bool false) w72)
 (k57 ((IntKind.wrap .i64 (d55.1 + 1)), ()) w72))
 (k52 () w56))
 (0, ()) w45)
 fun d53 w54 => ∀ _ : Regs,
 Ok Try.prog 42 [(.pointer p11), (.int .i64 1), (.int .i64 1), (.int .i64 n15), (.slice m2.a m2.l m2.c)] w54 fun v75 w76 =>
 decI .i64 v75 fun n77 =>
 Ok Try.prog 46 [(.pointer p11), (.int .i64 1), (.int .i64 1), (.int .i64 n15)] w76 fun v78 w79 =>
 dec2 v78 fun v80 v81 =>
 decS v80 fun s82 =>
 decI .i64 v81 fun n83 =>
 Ok Try.prog 42 [(.pointer p11), (.int .i64 1), (.int .i64 1), (.int .i64 n15), (.slice none 0 0)] w79 fun v84 w85 =>
 decI .i64 v84 fun n86 =>
 Ok Try.prog 46 [(.pointer p11), (.int .i64 1), (.int .i64 1), (.int .i64 n15)] w85 fun v87 w88 =>
 dec2 v87 fun v89 v90 =>
 decS v89 fun s91 =>
 decI .i64 v90 fun n92 =>
 joinT (D := Bool × Unit) (fun k93 =>
 cond (n83 == 0)
 (cond (n92 == 0)
 (toStr Try.prog 22 9 (.slice s82.a s82.l s82.c) w88.drew fun str96 =>
 Ok Try.prog 47 [(.slice s18.a s18.l s18.c), (.slice m2.a m2.l m2.c)] w88.drew fun v97 w98 =>
 decS v97 fun s99 =>
 toStr Try.prog 22 9 (.slice s82.a s82.l s82.c) w98 fun str100 =>
 ((.string str100) : Value) = (.string str96) ∧
 toStr Try.prog 22 9 (.slice s99.a s99.l s99.c) w98 fun str101 =>
 cond (ByteArray.toList str96 == ByteArray.toList str101)
 (toStr Try.prog 22 9 (.slice s91.a s91.l s91.c) w98 fun str102 =>
 toStr Try.prog 22 9 (.slice s18.a s18.l s18.c) w98 fun str103 =>
 k93 ((ByteArray.toList str102 == ByteArray.toList str103), ()) w98)
 (k93 (false, ()) w98))
 (k93 (false, ()) w88.drew))
 (k93 (false, ()) w88.drew))
 fun d94 w95 => ∀ _ : Regs,
 K (.bool d94.1) w95))))
theorem e9 (b0 : Sl) (l1 : Sl) (m2 : Sl) (page3 : Int) (w : World) (K : Value → World → Prop) : exF Try.prog a9 Try.f9 [(.slice b0.a b0.l b0.c), (.slice l1.a l1.l l1.c), (.slice m2.a m2.l m2.c), (.int .i64 page3)] w K = T9 b0 l1 m2 page3 w K := by kernel_rfl
theorem b9 : hasB Try.prog 9 = true := by kernel_rfl
theorem f9 : fitsF Try.f9 4 = true := by kernel_rfl
theorem u9 {w : World} {K : Value → World → Prop} {b0 : Sl} {l1 : Sl} {m2 : Sl} {page3 : Int} (h : T9 b0 l1 m2 page3 w K) : Ok Try.prog 9 [(.slice b0.a b0.l b0.c), (.slice l1.a l1.l l1.c), (.slice m2.a m2.l m2.c), (.int .i64 page3)] w K :=
  Ok_eq a9 4 mixed Try.func9 b9 f9 rfl (e9 b0 l1 m2 page3 w K) h

/-! 10: ramekinlaw7.NandOrder -/
def a10 : Ann := { reg := [(28, [(121, (.one .b))]), (16, [(57, (.one .b))]), (8, [(33, (.one .b))])], cnd := [(57, [(7, (.one (.i .i64))), (8, (.one (.i .i64)))])], lop := [(24, [(12, (.one (.i .i64)))]), (8, [(7, (.one (.i .i64))), (8, (.one (.i .i64))), (9, (.one (.i .i64)))])], blk := [(2, []), (0, [(7, (.one (.i .i64))), (8, (.one (.i .i64)))]), (1, [(7, (.one (.i .i64))), (8, (.one (.i .i64)))])], prm := [] }
def T10 (pages0 : Sl) (b1 : Sl) (w : World) (K : Value → World → Prop) : Prop :=
 Ok Try.prog 37 [] w fun v1 w2 =>
 decB v1 fun b3 =>
 cond (!b3)
 (K (.bool false) w2)
 (Ok Try.prog 39 [(.agg #[(.int .i64 6), (.int .i64 8), (.int .i64 8)]), (.slice none 0 0)] w2 fun v4 w5 =>
 dec2 v4 fun v6 v7 =>
 decP v6 fun p8 =>
 decI .i64 v7 fun n9 =>
 cond (n9 != 0)
 (K (.bool false) w5)
 (joinT (D := Int × Int × Unit) (fun k10 =>
 loopT (D := Int × Int × Int × Unit) (fun d13 w14 k15 => ∀ _ : Regs,
 joinT (D := Bool × Unit) (fun k16 =>
 cond (decide (d13.2.2.1 < ((pages0.l : Nat) : Int)))
 (k16 ((decide (d13.2.2.1 < 30)), ()) w14)
 (k16 (false, ()) w14))
 fun d17 w18 => ∀ _ : Regs,
 cond d17.1
 (joinT (D := Int × Int × Unit) (fun k19 =>
 ix pages0.a pages0.l d13.2.2.1 fun q22 =>
 rdI .i64 w18 (q22.add (d13.2.2.1.toNat * 1)) fun n23 =>
 Ok Try.prog 38 [(.int .i64 n23), (.int .i64 10)] w18 fun v24 w25 =>
 decI .i64 v24 fun n26 =>
 cond (n26 == 9)
 (Ok Try.prog 48 [(.pointer p8), (.int .i64 1), (.int .i64 2)] w25 fun v27 w28 =>
 decI .i64 v27 fun n29 =>
 cond (n29 != 0)
 (K (.bool false) w28)
 (k19 (0, d13.2.1, ()) w28))
 (Ok Try.prog 41 [(.slice b1.a b1.l b1.c), (.int .i64 60)] w25 fun v30 w31 =>
 decS v30 fun s32 =>
 Ok Try.prog 45 [(.pointer p8), (.int .i64 1), (.int .i64 2), (.int .i64 n26), (.slice s32.a s32.l s32.c)] w31 fun v33 w34 =>
 decI .i64 v33 fun n35 =>
 joinT (D := Bool × Unit) (fun k36 =>
 cond (n26 == d13.1)
 (k36 ((decide (n26 < 8)), ()) w34)
 (k36 (false, ()) w34))
 fun d37 w38 => ∀ _ : Regs,
 joinT (D := Int × Int × Unit) (fun k39 =>
 cond d37.1
 (cond (n35 != 0)
 (K (.bool false) w38)
 (k39 ((IntKind.wrap .i64 (d13.1 + 1)), d13.2.1, ()) w38))
 (cond (n35 != 1)
 (K (.bool false) w38)
 (k39 (d13.1, (IntKind.wrap .i64 (d13.2.1 + 1)), ()) w38)))
 fun d40 w41 => ∀ _ : Regs,
 k19 (d40.1, d40.2.1, ()) w41))
 fun d20 w21 => ∀ _ : Regs,
 k15 (d20.1, d20.2.1, (IntKind.wrap .i64 (d13.2.2.1 + 1)), ()) w21)
 (k10 (d13.1, d13.2.1, ()) w18))
 (0, 0, 0, ()) w5)
 fun d11 w12 => ∀ _ : Regs,
 joinT (D := Unit) (fun k42 =>
 loopT (D := Int × Unit) (fun d45 w46 k47 => ∀ _ : Regs,
 cond (decide (d45.1 < 8))
 (Ok Try.prog 46 [(.pointer p8), (.int .i64 1), (.int .i64 2), (.int .i64 d45.1)] w46 fun v48 w49 =>
 dec2 v48 fun v50 v51 =>
 decS v50 fun s52 =>
 decI .i64 v51 fun n53 =>
 Ok Try.prog 46 [(.pointer p8), (.int .i64 1), (.int .i64 3), (.int .i64 d45.1)] w49 fun v54 w55 =>
 dec2 v54 fun v56 v57 =>
 decS v56 fun s58 =>
 decI .i64 v57 fun n59 =>
 joinT (D := Bool × Unit) (fun k60 =>
 cond (n53 != 0)
 (k60 (true, ()) w55.drew)
 (cond (n59 != 0)
 (k60 (true, ()) w55.drew)
 (cond (decide (d45.1 < d11.1))
 (toStr Try.prog 22 9 (.slice s52.a s52.l s52.c) w55.drew fun str63 =>
 Ok Try.prog 41 [(.slice b1.a b1.l b1.c), (.int .i64 60)] w55.drew fun v64 w65 =>
 decS v64 fun s66 =>
 toStr Try.prog 22 9 (.slice s52.a s52.l s52.c) w65 fun str67 =>
 ((.string str67) : Value) = (.string str63) ∧
 toStr Try.prog 22 9 (.slice s66.a s66.l s66.c) w65 fun str68 =>
 cond (!(ByteArray.toList str63 == ByteArray.toList str68))
 (k60 (true, ()) w65)
 (cond (decide (d45.1 ≥ d11.1))
 (toStr Try.prog 22 9 (.slice s52.a s52.l s52.c) w65 fun str69 =>
 al w65 (.cells #[(.int .u8 255)] 5) fun p70 w71 =>
 toStr Try.prog 22 9 (.slice s52.a s52.l s52.c) w71 fun str72 =>
 ((.string str72) : Value) = (.string str69) ∧
 Ok Try.prog 41 [(.slice (some p70) 1 1), (.int .i64 60)] w71 fun v73 w74 =>
 decS v73 fun s75 =>
 toStr Try.prog 22 9 (.slice s52.a s52.l s52.c) w74 fun str76 =>
 ((.string str76) : Value) = (.string str69) ∧
 toStr Try.prog 22 9 (.slice s75.a s75.l s75.c) w74 fun str77 =>
 cond (!(ByteArray.toList str69 == ByteArray.toList str77))
 (k60 (true, ()) w74)
 (toStr Try.prog 22 9 (.slice s58.a s58.l s58.c) w74 fun str78 =>
 al w74 (.cells #[(.int .u8 255)] 5) fun p79 w80 =>
 toStr Try.prog 22 9 (.slice s58.a s58.l s58.c) w80 fun str81 =>
 ((.string str81) : Value) = (.string str78) ∧
 Ok Try.prog 41 [(.slice (some p79) 1 1), (.int .i64 60)] w80 fun v82 w83 =>
 decS v82 fun s84 =>
 toStr Try.prog 22 9 (.slice s58.a s58.l s58.c) w83 fun str85 =>
 ((.string str85) : Value) = (.string str78) ∧
 toStr Try.prog 22 9 (.slice s84.a s84.l s84.c) w83 fun str86 =>
 k60 ((!(ByteArray.toList str78 == ByteArray.toList str86)), ()) w83))
 (toStr Try.prog 22 9 (.slice s58.a s58.l s58.c) w65 fun str87 =>
 al w65 (.cells #[(.int .u8 255)] 5) fun p88 w89 =>
 toStr Try.prog 22 9 (.slice s58.a s58.l s58.c) w89 fun str90 =>
 ((.string str90) : Value) = (.string str87) ∧
 Ok Try.prog 41 [(.slice (some p88) 1 1), (.int .i64 60)] w89 fun v91 w92 =>
 decS v91 fun s93 =>
 toStr Try.prog 22 9 (.slice s58.a s58.l s58.c) w92 fun str94 =>
 ((.string str94) : Value) = (.string str87) ∧
 toStr Try.prog 22 9 (.slice s93.a s93.l s93.c) w92 fun str95 =>
 k60 ((!(ByteArray.toList str87 == ByteArray.toList str95)), ()) w92)))
 (cond (decide (d45.1 ≥ d11.1))
 (toStr Try.prog 22 9 (.slice s52.a s52.l s52.c) w55.drew fun str96 =>
 al w55.drew (.cells #[(.int .u8 255)] 5) fun p97 w98 =>
 toStr Try.prog 22 9 (.slice s52.a s52.l s52.c) w98 fun str99 =>
 ((.string str99) : Value) = (.string str96) ∧
 Ok Try.prog 41 [(.slice (some p97) 1 1), (.int .i64 60)] w98 fun v100 w101 =>
 decS v100 fun s102 =>
 toStr Try.prog 22 9 (.slice s52.a s52.l s52.c) w101 fun str103 =>
 ((.string str103) : Value) = (.string str96) ∧
 toStr Try.prog 22 9 (.slice s102.a s102.l s102.c) w101 fun str104 =>
 cond (!(ByteArray.toList str96 == ByteArray.toList str104))
 (k60 (true, ()) w101)
 (toStr Try.prog 22 9 (.slice s58.a s58.l s58.c) w101 fun str105 =>
 al w101 (.cells #[(.int .u8 255)] 5) fun p106 w107 =>
 toStr Try.prog 22 9 (.slice s58.a s58.l s58.c) w107 fun str108 =>
 ((.string str108) : Value) = (.string str105) ∧
 Ok Try.prog 41 [(.slice (some p106) 1 1), (.int .i64 60)] w107 fun v109 w110 =>
 decS v109 fun s111 =>
 toStr Try.prog 22 9 (.slice s58.a s58.l s58.c) w110 fun str112 =>
 ((.string str112) : Value) = (.string str105) ∧
 toStr Try.prog 22 9 (.slice s111.a s111.l s111.c) w110 fun str113 =>
 k60 ((!(ByteArray.toList str105 == ByteArray.toList str113)), ()) w110))
 (toStr Try.prog 22 9 (.slice s58.a s58.l s58.c) w55.drew fun str114 =>
 al w55.drew (.cells #[(.int .u8 255)] 5) fun p115 w116 =>
 toStr Try.prog 22 9 (.slice s58.a s58.l s58.c) w116 fun str117 =>
 ((.string str117) : Value) = (.string str114) ∧
 Ok Try.prog 41 [(.slice (some p115) 1 1), (.int .i64 60)] w116 fun v118 w119 =>
 decS v118 fun s120 =>
 toStr Try.prog 22 9 (.slice s58.a s58.l s58.c) w119 fun str121 =>
 ((.string str121) : Value) = (.string str114) ∧
 toStr Try.prog 22 9 (.slice s120.a s120.l s120.c) w119 fun str122 =>
 k60 ((!(ByteArray.toList str114 == ByteArray.toList str122)), ()) w119)))))
 fun d61 w62 => ∀ _ : Regs,
 cond d61.1
 (K (.bool false) w62)
 (k47 ((IntKind.wrap .i64 (d45.1 + 1)), ()) w62))
 (k42 () w46))
 (0, ()) w12)
 fun d43 w44 => ∀ _ : Regs,
 Ok Try.prog 43 [(.pointer p8)] w44 fun v123 w124 =>
 decI .i64 v123 fun n125 =>
 K (.bool (n125 == d11.2.1)) w124))
theorem e10 (pages0 : Sl) (b1 : Sl) (w : World) (K : Value → World → Prop) : exF Try.prog a10 Try.f10 [(.slice pages0.a pages0.l pages0.c), (.slice b1.a b1.l b1.c)] w K = T10 pages0 b1 w K := by kernel_rfl
theorem b10 : hasB Try.prog 10 = true := by kernel_rfl
theorem f10 : fitsF Try.f10 2 = true := by kernel_rfl
theorem u10 {w : World} {K : Value → World → Prop} {pages0 : Sl} {b1 : Sl} (h : T10 pages0 b1 w K) : Ok Try.prog 10 [(.slice pages0.a pages0.l pages0.c), (.slice b1.a b1.l b1.c)] w K :=
  Ok_eq a10 2 mixed Try.func10 b10 f10 rfl (e10 pages0 b1 w K) h

/-! 11: ramekinlaw7.NandTorn -/
def a11 : Ann := { reg := [(32, [(6, (.one .b))]), (22, [(95, (.one .b))]), (18, [(79, (.one .b))]), (15, [(62, (.one .b))])], cnd := [(102, [(17, (.one (.i .u8)))])], lop := [(25, [(16, (.one (.i .i64)))]), (12, [(10, (.one (.i .i64)))])], blk := [(2, []), (0, [])], prm := [] }
def T11 (b0 : Sl) (mask1 : Sl) (k2 : Int) (w : World) (K : Value → World → Prop) : Prop :=
 Ok Try.prog 37 [] w fun v1 w2 =>
 decB v1 fun b3 =>
 cond (!b3)
 (K (.bool false) w2)
 (cond (decide (((mask1.l : Nat) : Int) > 60))
 (K (.bool true) w2)
 (Ok Try.prog 39 [(.agg #[(.int .i64 6), (.int .i64 8), (.int .i64 8)]), (.slice none 0 0)] w2 fun v4 w5 =>
 dec2 v4 fun v6 v7 =>
 decP v6 fun p8 =>
 decI .i64 v7 fun n9 =>
 cond (n9 != 0)
 (K (.bool false) w5)
 (Ok Try.prog 38 [(.int .i64 k2), (.int .i64 8)] w5 fun v10 w11 =>
 decI .i64 v10 fun n12 =>
 Ok Try.prog 49 [(.pointer p8), (.int .i64 (IntKind.wrap .i64 ((1 : Int) + n12))), (.slice mask1.a mask1.l mask1.c)] w11 fun v13 w14 =>
 Ok Try.prog 41 [(.slice b0.a b0.l b0.c), (.int .i64 60)] w14 fun v15 w16 =>
 decS v15 fun s17 =>
 joinT (D := Unit) (fun k18 =>
 loopT (D := Int × Unit) (fun d21 w22 k23 => ∀ _ : Regs,
 cond (decide (d21.1 < (IntKind.wrap .i64 ((1 : Int) + n12))))
 (Ok Try.prog 45 [(.pointer p8), (.int .i64 0), (.int .i64 0), (.int .i64 d21.1), (.slice s17.a s17.l s17.c)] w22 fun v24 w25 =>
 decI .i64 v24 fun n26 =>
 joinT (D := Bool × Unit) (fun k27 =>
 cond (!((n26 == 0) == (decide ((IntKind.wrap .i64 (d21.1 + 1)) < (IntKind.wrap .i64 ((1 : Int) + n12))))))
 (k27 (true, ()) w25)
 (cond (n26 != 0)
 (k27 ((n26 != 8), ()) w25)
 (k27 (false, ()) w25)))
 fun d28 w29 => ∀ _ : Regs,
 cond d28.1
 (K (.bool false) w29)
 (k23 ((IntKind.wrap .i64 (d21.1 + 1)), ()) w29))
 (k18 () w22))
 (0, ()) w16)
 fun d19 w20 => ∀ _ : Regs,
 Ok Try.prog 46 [(.pointer p8), (.int .i64 0), (.int .i64 0), (.int .i64 0)] w20 fun v30 w31 =>
 dec2 v30 fun v32 v33 =>
 decS v32 fun s34 =>
 decI .i64 v33 fun n35 =>
 joinT (D := Bool × Unit) (fun k36 =>
 cond (n35 != 8)
 (k36 (true, ()) w31)
 (Ok Try.prog 48 [(.pointer p8), (.int .i64 0), (.int .i64 0)] w31 fun v39 w40 =>
 decI .i64 v39 fun n41 =>
 cond (n41 != 8)
 (k36 (true, ()) w40)
 (Ok Try.prog 50 [(.pointer p8)] w40 fun v42 w43 =>
 decB v42 fun b44 =>
 k36 ((!b44), ()) w43)))
 fun d37 w38 => ∀ _ : Regs,
 cond d37.1
 (K (.bool false) w38)
 (Ok Try.prog 51 [(.pointer p8)] w38 fun v45 w46 =>
 Ok Try.prog 46 [(.pointer p8), (.int .i64 0), (.int .i64 0), (.int .i64 (IntKind.wrap .i64 ((IntKind.wrap .i64 ((1 : Int) + n12)) - 1)))] w46 fun v47 w48 =>
 dec2 v47 fun v49 v50 =>
 decS v49 fun s51 =>
 decI .i64 v50 fun n52 =>
 joinT (D := Bool × Unit) (fun k53 =>
 cond (n52 != 0)
 (k53 (true, ()) w48)
 (k53 ((((s51.l : Nat) : Int) != 60), ()) w48))
 fun d54 w55 => ∀ _ : Regs,
 cond d54.1
 (K (.bool false) w55)
 (joinT (D := Unit) (fun k56 =>
 loopT (D := Int × Unit) (fun d59 w60 k61 => ∀ _ : Regs,
 cond (decide (d59.1 < 60))
 (joinT (D := Int × Unit) (fun k62 =>
 cond (decide (((mask1.l : Nat) : Int) > 0))
 ((((mask1.l : Nat) : Int) ≠ 0) ∧
 ix mask1.a mask1.l (Int.tmod d59.1 ((mask1.l : Nat) : Int)) fun q65 =>
 rdI .u8 w60 (q65.add ((Int.tmod d59.1 ((mask1.l : Nat) : Int)).toNat * 1)) fun n66 =>
 k62 (n66, ()) w60)
 (k62 (0, ()) w60))
 fun d63 w64 => ∀ _ : Regs,
 ix s51.a s51.l d59.1 fun q67 =>
 rdI .u8 w64.drew (q67.add (d59.1.toNat * 1)) fun n68 =>
 ix s17.a s17.l d59.1 fun q69 =>
 rdI .u8 w64.drew (q69.add (d59.1.toNat * 1)) fun n70 =>
 cond (n68 != (bitI .or .u8 (bitI .andNot .u8 255 d63.1) (bitI .and .u8 n70 d63.1)))
 (K (.bool false) w64.drew)
 (k61 ((IntKind.wrap .i64 (d59.1 + 1)), ()) w64.drew))
 (k56 () w60))
 (0, ()) w55)
 fun d57 w58 => ∀ _ : Regs,
 joinT (D := Bool × Unit) (fun k71 =>
 Ok Try.prog 45 [(.pointer p8), (.int .i64 0), (.int .i64 0), (.int .i64 (IntKind.wrap .i64 ((IntKind.wrap .i64 ((1 : Int) + n12)) - 1))), (.slice s17.a s17.l s17.c)] w58 fun v74 w75 =>
 decI .i64 v74 fun n76 =>
 cond (n76 == 1)
 (Ok Try.prog 50 [(.pointer p8)] w75 fun v77 w78 =>
 decB v77 fun b79 =>
 k71 ((!b79), ()) w78)
 (k71 (false, ()) w75))
 fun d72 w73 => ∀ _ : Regs,
 K (.bool d72.1) w73)))))
theorem e11 (b0 : Sl) (mask1 : Sl) (k2 : Int) (w : World) (K : Value → World → Prop) : exF Try.prog a11 Try.f11 [(.slice b0.a b0.l b0.c), (.slice mask1.a mask1.l mask1.c), (.int .i64 k2)] w K = T11 b0 mask1 k2 w K := by kernel_rfl
theorem b11 : hasB Try.prog 11 = true := by kernel_rfl
theorem f11 : fitsF Try.f11 3 = true := by kernel_rfl
theorem u11 {w : World} {K : Value → World → Prop} {b0 : Sl} {mask1 : Sl} {k2 : Int} (h : T11 b0 mask1 k2 w K) : Ok Try.prog 11 [(.slice b0.a b0.l b0.c), (.slice mask1.a mask1.l mask1.c), (.int .i64 k2)] w K :=
  Ok_eq a11 3 mixed Try.func11 b11 f11 rfl (e11 b0 mask1 k2 w K) h

/-! 13: ramekinlaw7.NandBad -/
def a13 : Ann := { reg := [(16, [(8, (.one .b))]), (13, [(74, (.one .b))])], cnd := [], lop := [(10, [(14, (.one (.i .i64)))])], blk := [(0, [])], prm := [] }
def T13 (g0 : (Int × Int × Int × Unit)) (die1 : Int) (block2 : Int) (n3 : Int) (w : World) (K : Value → World → Prop) : Prop :=
 al w (.cells #[(.int .i64 g0.1), (.int .i64 g0.2.1), (.int .i64 g0.2.2.1)] 29) fun p1 w2 =>
 Ok Try.prog 37 [] w2 fun v3 w4 =>
 decB v3 fun b5 =>
 cond (!b5)
 (K (.bool false) w4)
 (rdI .i64 w4 p1 fun n6 =>
 rdI .i64 w4 (p1.add 1) fun n7 =>
 rdI .i64 w4 (p1.add 2) fun n8 =>
 Ok Try.prog 26 [(.agg #[(.int .i64 n6), (.int .i64 n7), (.int .i64 n8)])] w4 fun v9 w10 =>
 decG [(.i .i64), (.i .i64), (.i .i64)] v9 fun g11 =>
 al w10 (.cells #[(.int .i64 0), (.int .i64 0), (.int .i64 0)] 29) fun p12 w13 =>
 wr w13 p12 (.int .i64 g11.1) fun w14 =>
 wr w14 (p12.add 1) (.int .i64 g11.2.1) fun w15 =>
 wr w15 (p12.add 2) (.int .i64 g11.2.2.1) fun w16 =>
 rdI .i64 w16.drew p12 fun n17 =>
 rdI .i64 w16.drew (p12.add 1) fun n18 =>
 Ok Try.prog 38 [(.int .i64 die1), (.int .i64 n17)] w16.drew fun v19 w20 =>
 decI .i64 v19 fun n21 =>
 rdI .i64 w20 (p12.add 1) fun n22 =>
 ((.int .i64 n22) : Value) = (.int .i64 n18) ∧
 Ok Try.prog 38 [(.int .i64 block2), (.int .i64 n18)] w20 fun v23 w24 =>
 decI .i64 v23 fun n25 =>
 rdI .i64 w24 p12 fun n26 =>
 rdI .i64 w24 (p12.add 1) fun n27 =>
 rdI .i64 w24 (p12.add 2) fun n28 =>
 al w24 (.cells #[(.int .i64 n21), (.int .i64 n25), (.int .i64 n21), (.int .i64 n25)] 42) fun p29 w30 =>
 Ok Try.prog 39 [(.agg #[(.int .i64 n26), (.int .i64 n27), (.int .i64 n28)]), (.slice (some p29) 2 2)] w30 fun v31 w32 =>
 dec2 v31 fun v33 v34 =>
 decP v33 fun p35 =>
 decI .i64 v34 fun n36 =>
 cond (n36 != 0)
 (K (.bool false) w32)
 (Ok Try.prog 38 [(.int .i64 n3), (.int .i64 9)] w32 fun v37 w38 =>
 decI .i64 v37 fun n39 =>
 joinT (D := Unit) (fun k40 =>
 loopT (D := Int × Unit) (fun d43 w44 k45 => ∀ _ : Regs,
 cond (decide (d43.1 < n39))
 (Ok Try.prog 46 [(.pointer p35), (.int .i64 n21), (.int .i64 n25), (.int .i64 0)] w44 fun v46 w47 =>
 dec2 v46 fun v48 v49 =>
 decS v48 fun s50 =>
 decI .i64 v49 fun n51 =>
 joinT (D := Bool × Unit) (fun k52 =>
 cond (n51 != 1)
 (k52 (true, ()) w47)
 ((0 : Int) ≤ 60 ∧ (60 : Int) ≤ 60 ∧ ((1 : Nat) : Int) * 60 ≤ 281474976710656 ∧ (60 : Int) ≤ 281474976710656 ∧
 al w47 (.cells (zeroRow #[(.int .u8 0)] (60 * 1)) 5) fun p55 w56 =>
 Ok Try.prog 45 [(.pointer p35), (.int .i64 n21), (.int .i64 n25), (.int .i64 0), (.slice (some p55) 60 60)] w56 fun v57 w58 =>
 decI .i64 v57 fun n59 =>
 cond (n59 != 1)
 (k52 (true, ()) w58)
 (Ok Try.prog 48 [(.pointer p35), (.int .i64 n21), (.int .i64 n25)] w58 fun v60 w61 =>
 decI .i64 v60 fun n62 =>
 k52 ((n62 != 1), ()) w61)))
 fun d53 w54 => ∀ _ : Regs,
 cond d53.1
 (K (.bool false) w54)
 (k45 ((IntKind.wrap .i64 (d43.1 + 1)), ()) w54))
 (k40 () w44))
 (0, ()) w38)
 fun d41 w42 => ∀ _ : Regs,
 rdI .i64 w42 (p12.add 1) fun n63 =>
 (n63 ≠ 0) ∧
 joinT (D := Bool × Unit) (fun k64 =>
 Ok Try.prog 52 [(.pointer p35), (.int .i64 n21), (.int .i64 n25)] w42 fun v67 w68 =>
 decB v67 fun b69 =>
 cond b69
 (Ok Try.prog 52 [(.pointer p35), (.int .i64 n21), (.int .i64 (Int.tmod (IntKind.wrap .i64 (n25 + 1)) n63))] w68 fun v70 w71 =>
 decB v70 fun b72 =>
 cond (!b72)
 (rdI .i64 w71 p12 fun n73 =>
 (n73 ≠ 0) ∧
 Ok Try.prog 52 [(.pointer p35), (.int .i64 (Int.tmod (IntKind.wrap .i64 (n21 + 1)) n73)), (.int .i64 n25)] w71 fun v74 w75 =>
 decB v74 fun b76 =>
 cond (!b76)
 (Ok Try.prog 52 [(.pointer p35), (.int .i64 (-1)), (.int .i64 0)] w75 fun v77 w78 =>
 decB v77 fun b79 =>
 cond (!b79)
 (rdI .i64 w78 (p12.add 1) fun n80 =>
 Ok Try.prog 52 [(.pointer p35), (.int .i64 0), (.int .i64 n80)] w78 fun v81 w82 =>
 decB v81 fun b83 =>
 cond (!b83)
 (Ok Try.prog 43 [(.pointer p35)] w82 fun v84 w85 =>
 decI .i64 v84 fun n86 =>
 cond (n86 == (IntKind.wrap .i64 ((3 : Int) * n39)))
 (Ok Try.prog 44 [(.pointer p35)] w85 fun v87 w88 =>
 decI .i64 v87 fun n89 =>
 cond (n89 == 0)
 (Ok Try.prog 53 [(.pointer p35), (.int .i64 n21), (.int .i64 n25)] w88 fun v90 w91 =>
 decI .i64 v90 fun n92 =>
 cond (n92 == 0)
 ((0 : Int) ≤ 60 ∧ (60 : Int) ≤ 60 ∧ ((1 : Nat) : Int) * 60 ≤ 281474976710656 ∧ (60 : Int) ≤ 281474976710656 ∧
 al w91 (.cells (zeroRow #[(.int .u8 0)] (60 * 1)) 5) fun p93 w94 =>
 Ok Try.prog 45 [(.pointer p35), (.int .i64 n21), (.int .i64 (Int.tmod (IntKind.wrap .i64 (n25 + 1)) n63)), (.int .i64 0), (.slice (some p93) 60 60)] w94 fun v95 w96 =>
 decI .i64 v95 fun n97 =>
 k64 ((n97 == 0), ()) w96)
 (k64 (false, ()) w91))
 (k64 (false, ()) w88))
 (k64 (false, ()) w85))
 (k64 (false, ()) w82))
 (k64 (false, ()) w78))
 (k64 (false, ()) w75))
 (k64 (false, ()) w71))
 (k64 (false, ()) w68))
 fun d65 w66 => ∀ _ : Regs,
 K (.bool d65.1) w66))
theorem e13 (g0 : (Int × Int × Int × Unit)) (die1 : Int) (block2 : Int) (n3 : Int) (w : World) (K : Value → World → Prop) : exF Try.prog a13 Try.f13 [(.agg #[(.int .i64 g0.1), (.int .i64 g0.2.1), (.int .i64 g0.2.2.1)]), (.int .i64 die1), (.int .i64 block2), (.int .i64 n3)] w K = T13 g0 die1 block2 n3 w K := by kernel_rfl
theorem b13 : hasB Try.prog 13 = true := by kernel_rfl
theorem f13 : fitsF Try.f13 4 = true := by kernel_rfl
theorem u13 {w : World} {K : Value → World → Prop} {g0 : (Int × Int × Int × Unit)} {die1 : Int} {block2 : Int} {n3 : Int} (h : T13 g0 die1 block2 n3 w K) : Ok Try.prog 13 [(.agg #[(.int .i64 g0.1), (.int .i64 g0.2.1), (.int .i64 g0.2.2.1)]), (.int .i64 die1), (.int .i64 block2), (.int .i64 n3)] w K :=
  Ok_eq a13 4 mixed Try.func13 b13 f13 rfl (e13 g0 die1 block2 n3 w K) h

/-! 14: ramekinlaw7.NandErase -/
def a14 : Ann := { reg := [(31, [(6, (.one .b))]), (27, [(81, (.one .b))])], cnd := [(68, [(15, (.one .s))])], lop := [(21, [(12, (.one (.i .i64)))]), (11, [(10, (.one (.i .i64)))])], blk := [(2, []), (0, [])], prm := [] }
def T14 (b0 : Sl) (mask1 : Sl) (n2 : Int) (w : World) (K : Value → World → Prop) : Prop :=
 Ok Try.prog 37 [] w fun v1 w2 =>
 decB v1 fun b3 =>
 cond (!b3)
 (K (.bool false) w2)
 (cond (decide (((mask1.l : Nat) : Int) > 60))
 (K (.bool true) w2)
 (Ok Try.prog 39 [(.agg #[(.int .i64 6), (.int .i64 8), (.int .i64 5)]), (.slice none 0 0)] w2 fun v4 w5 =>
 dec2 v4 fun v6 v7 =>
 decP v6 fun p8 =>
 decI .i64 v7 fun n9 =>
 cond (n9 != 0)
 (K (.bool false) w5)
 (Ok Try.prog 38 [(.int .i64 n2), (.int .i64 5)] w5 fun v10 w11 =>
 decI .i64 v10 fun n12 =>
 Ok Try.prog 41 [(.slice b0.a b0.l b0.c), (.int .i64 60)] w11 fun v13 w14 =>
 decS v13 fun s15 =>
 joinT (D := Unit) (fun k16 =>
 loopT (D := Int × Unit) (fun d19 w20 k21 => ∀ _ : Regs,
 cond (decide (d19.1 < (IntKind.wrap .i64 ((1 : Int) + n12))))
 (Ok Try.prog 45 [(.pointer p8), (.int .i64 2), (.int .i64 3), (.int .i64 d19.1), (.slice s15.a s15.l s15.c)] w20 fun v22 w23 =>
 decI .i64 v22 fun n24 =>
 cond (n24 != 0)
 (K (.bool false) w23)
 (k21 ((IntKind.wrap .i64 (d19.1 + 1)), ()) w23))
 (k16 () w20))
 (0, ()) w14)
 fun d17 w18 => ∀ _ : Regs,
 Ok Try.prog 49 [(.pointer p8), (.int .i64 1), (.slice mask1.a mask1.l mask1.c)] w18 fun v25 w26 =>
 Ok Try.prog 48 [(.pointer p8), (.int .i64 2), (.int .i64 3)] w26 fun v27 w28 =>
 decI .i64 v27 fun n29 =>
 cond (n29 != 8)
 (K (.bool false) w28)
 (Ok Try.prog 51 [(.pointer p8)] w28 fun v30 w31 =>
 al w31 (.cells #[(.int .u8 255)] 5) fun p32 w33 =>
 Ok Try.prog 41 [(.slice (some p32) 1 1), (.int .i64 60)] w33 fun v34 w35 =>
 decS v34 fun s36 =>
 joinT (D := Unit) (fun k37 =>
 loopT (D := Int × Unit) (fun d40 w41 k42 => ∀ _ : Regs,
 cond (decide (d40.1 < 5))
 (Ok Try.prog 46 [(.pointer p8), (.int .i64 2), (.int .i64 3), (.int .i64 d40.1)] w41 fun v43 w44 =>
 dec2 v43 fun v45 v46 =>
 decS v45 fun s47 =>
 decI .i64 v46 fun n48 =>
 joinT (D := Sl × Unit) (fun k49 =>
 cond (decide (d40.1 < (IntKind.wrap .i64 ((1 : Int) + n12))))
 (Ok Try.prog 54 [(.slice s15.a s15.l s15.c), (.slice s36.a s36.l s36.c), (.slice mask1.a mask1.l mask1.c)] w44 fun v52 w53 =>
 decS v52 fun s54 =>
 k49 (s54, ()) w53)
 (k49 (s36, ()) w44))
 fun d50 w51 => ∀ _ : Regs,
 joinT (D := Bool × Unit) (fun k55 =>
 cond (n48 != 0)
 (k55 (true, ()) w51)
 (toStr Try.prog 22 9 (.slice s47.a s47.l s47.c) w51 fun str58 =>
 toStr Try.prog 22 9 (.slice d50.1.a d50.1.l d50.1.c) w51 fun str59 =>
 k55 ((!(ByteArray.toList str58 == ByteArray.toList str59)), ()) w51))
 fun d56 w57 => ∀ _ : Regs,
 cond d56.1
 (K (.bool false) w57)
 (k42 ((IntKind.wrap .i64 (d40.1 + 1)), ()) w57))
 (k37 () w41))
 (0, ()) w35)
 fun d38 w39 => ∀ _ : Regs,
 Ok Try.prog 45 [(.pointer p8), (.int .i64 2), (.int .i64 3), (.int .i64 0), (.slice s15.a s15.l s15.c)] w39 fun v60 w61 =>
 decI .i64 v60 fun n62 =>
 Ok Try.prog 48 [(.pointer p8), (.int .i64 2), (.int .i64 3)] w61 fun v63 w64 =>
 decI .i64 v63 fun n65 =>
 joinT (D := Bool × Unit) (fun k66 =>
 cond (n62 == 1)
 (cond (n65 == 0)
 (Ok Try.prog 53 [(.pointer p8), (.int .i64 2), (.int .i64 3)] w64 fun v69 w70 =>
 decI .i64 v69 fun n71 =>
 cond (n71 == 2)
 (Ok Try.prog 45 [(.pointer p8), (.int .i64 2), (.int .i64 3), (.int .i64 0), (.slice s15.a s15.l s15.c)] w70 fun v72 w73 =>
 decI .i64 v72 fun n74 =>
 k66 ((n74 == 0), ()) w73)
 (k66 (false, ()) w70))
 (k66 (false, ()) w64))
 (k66 (false, ()) w64))
 fun d67 w68 => ∀ _ : Regs,
 K (.bool d67.1) w68))))
theorem e14 (b0 : Sl) (mask1 : Sl) (n2 : Int) (w : World) (K : Value → World → Prop) : exF Try.prog a14 Try.f14 [(.slice b0.a b0.l b0.c), (.slice mask1.a mask1.l mask1.c), (.int .i64 n2)] w K = T14 b0 mask1 n2 w K := by kernel_rfl
theorem b14 : hasB Try.prog 14 = true := by kernel_rfl
theorem f14 : fitsF Try.f14 3 = true := by kernel_rfl
theorem u14 {w : World} {K : Value → World → Prop} {b0 : Sl} {mask1 : Sl} {n2 : Int} (h : T14 b0 mask1 n2 w K) : Ok Try.prog 14 [(.slice b0.a b0.l b0.c), (.slice mask1.a mask1.l mask1.c), (.int .i64 n2)] w K :=
  Ok_eq a14 3 mixed Try.func14 b14 f14 rfl (e14 b0 mask1 n2 w K) h

/-! 15: ramekinlaw7.NandPlays -/
def a15 : Ann := { reg := [(17, [(6, (.one .b))]), (13, [(62, (.one .b))]), (8, [(42, (.one .b))])], cnd := [], lop := [(11, [(12, (.one (.i .i64)))])], blk := [(0, [])], prm := [] }
def T15 (g0 : (Int × Int × Int × Unit)) (bad1 : Sl) (l2 : Sl) (w : World) (K : Value → World → Prop) : Prop :=
 al w (.cells #[(.int .i64 g0.1), (.int .i64 g0.2.1), (.int .i64 g0.2.2.1)] 29) fun p1 w2 =>
 Ok Try.prog 37 [] w2 fun v3 w4 =>
 decB v3 fun b5 =>
 cond (!b5)
 (K (.bool false) w4)
 (Ok Try.prog 55 [(.slice l2.a l2.l l2.c)] w4 fun v6 w7 =>
 decB v6 fun b8 =>
 cond (!b8)
 (K (.bool true) w7)
 (rdI .i64 w7 p1 fun n9 =>
 rdI .i64 w7 (p1.add 1) fun n10 =>
 rdI .i64 w7 (p1.add 2) fun n11 =>
 Ok Try.prog 26 [(.agg #[(.int .i64 n9), (.int .i64 n10), (.int .i64 n11)])] w7 fun v12 w13 =>
 decG [(.i .i64), (.i .i64), (.i .i64)] v12 fun g14 =>
 al w13 (.cells #[(.int .i64 0), (.int .i64 0), (.int .i64 0)] 29) fun p15 w16 =>
 wr w16 p15 (.int .i64 g14.1) fun w17 =>
 wr w17 (p15.add 1) (.int .i64 g14.2.1) fun w18 =>
 wr w18 (p15.add 2) (.int .i64 g14.2.2.1) fun w19 =>
 rdI .i64 w19.drew p15 fun n20 =>
 rdI .i64 w19.drew (p15.add 1) fun n21 =>
 rdI .i64 w19.drew (p15.add 2) fun n22 =>
 rdI .i64 w19.drew p15 fun n23 =>
 rdI .i64 w19.drew (p15.add 1) fun n24 =>
 rdI .i64 w19.drew (p15.add 2) fun n25 =>
 Ok Try.prog 27 [(.agg #[(.int .i64 n23), (.int .i64 n24), (.int .i64 n25)]), (.slice bad1.a bad1.l bad1.c)] w19.drew fun v26 w27 =>
 decS v26 fun s28 =>
 rdI .i64 w27 p15 fun n29 =>
 rdI .i64 w27 (p15.add 1) fun n30 =>
 rdI .i64 w27 (p15.add 2) fun n31 =>
 ((.agg #[(.int .i64 n29), (.int .i64 n30), (.int .i64 n31)]) : Value) = (.agg #[(.int .i64 n20), (.int .i64 n21), (.int .i64 n22)]) ∧
 Ok Try.prog 39 [(.agg #[(.int .i64 n20), (.int .i64 n21), (.int .i64 n22)]), (.slice s28.a s28.l s28.c)] w27 fun v32 w33 =>
 dec2 v32 fun v34 v35 =>
 decP v34 fun p36 =>
 decI .i64 v35 fun n37 =>
 rdI .i64 w33.drew p15 fun n38 =>
 rdI .i64 w33.drew (p15.add 1) fun n39 =>
 rdI .i64 w33.drew (p15.add 2) fun n40 =>
 rdI .i64 w33.drew p15 fun n41 =>
 rdI .i64 w33.drew (p15.add 1) fun n42 =>
 rdI .i64 w33.drew (p15.add 2) fun n43 =>
 Ok Try.prog 27 [(.agg #[(.int .i64 n41), (.int .i64 n42), (.int .i64 n43)]), (.slice bad1.a bad1.l bad1.c)] w33.drew fun v44 w45 =>
 decS v44 fun s46 =>
 rdI .i64 w45 p15 fun n47 =>
 rdI .i64 w45 (p15.add 1) fun n48 =>
 rdI .i64 w45 (p15.add 2) fun n49 =>
 ((.agg #[(.int .i64 n47), (.int .i64 n48), (.int .i64 n49)]) : Value) = (.agg #[(.int .i64 n38), (.int .i64 n39), (.int .i64 n40)]) ∧
 Ok Try.prog 40 [(.agg #[(.int .i64 n38), (.int .i64 n39), (.int .i64 n40)]), (.slice s46.a s46.l s46.c)] w45 fun v50 w51 =>
 dec2 v50 fun v52 v53 =>
 decP v52 fun p54 =>
 decI .i64 v53 fun n55 =>
 joinT (D := Bool × Unit) (fun k56 =>
 cond (n37 != n55)
 (k56 (true, ()) w51)
 (k56 ((n37 != 0), ()) w51))
 fun d57 w58 => ∀ _ : Regs,
 cond d57.1
 (K (.bool false) w58)
 (joinT (D := Unit) (fun k59 =>
 loopT (D := Int × Unit) (fun d62 w63 k64 => ∀ _ : Regs,
 cond (decide (d62.1 < ((l2.l : Nat) : Int)))
 (joinT (D := Bool × Unit) (fun k65 =>
 ix l2.a l2.l d62.1 fun q68 =>
 rdI .i64 w63 (q68.add (d62.1.toNat * 7)) fun n69 =>
 rdI .i64 w63 ((q68.add (d62.1.toNat * 7)).add 1) fun n70 =>
 rdI .i64 w63 ((q68.add (d62.1.toNat * 7)).add 2) fun n71 =>
 rdI .i64 w63 ((q68.add (d62.1.toNat * 7)).add 3) fun n72 =>
 rdI .i64 w63 ((q68.add (d62.1.toNat * 7)).add 4) fun n73 =>
 rdS w63 ((q68.add (d62.1.toNat * 7)).add 5) fun s74 =>
 rdS w63 ((q68.add (d62.1.toNat * 7)).add 6) fun s75 =>
 Ok Try.prog 56 [(.agg #[(.int .i64 n69), (.int .i64 n70), (.int .i64 n71), (.int .i64 n72), (.int .i64 n73), (.slice s74.a s74.l s74.c), (.slice s75.a s75.l s75.c)]), (.pointer p36), (.pointer p54)] w63 fun v76 w77 =>
 decB v76 fun b78 =>
 cond (!b78)
 (k65 (true, ()) w77)
 (Ok Try.prog 57 [(.pointer p36), (.pointer p54)] w77 fun v79 w80 =>
 decB v79 fun b81 =>
 k65 ((!b81), ()) w80))
 fun d66 w67 => ∀ _ : Regs,
 cond d66.1
 (K (.bool false) w67)
 (k64 ((IntKind.wrap .i64 (d62.1 + 1)), ()) w67))
 (k59 () w63))
 (0, ()) w58)
 fun d60 w61 => ∀ _ : Regs,
 Ok Try.prog 51 [(.pointer p36)] w61 fun v82 w83 =>
 Ok Try.prog 58 [(.pointer p54)] w83 fun v84 w85 =>
 joinT (D := Bool × Unit) (fun k86 =>
 Ok Try.prog 59 [(.pointer p36), (.pointer p54)] w85 fun v89 w90 =>
 decB v89 fun b91 =>
 cond b91
 (Ok Try.prog 57 [(.pointer p36), (.pointer p54)] w90 fun v92 w93 =>
 decB v92 fun b94 =>
 k86 (b94, ()) w93)
 (k86 (false, ()) w90))
 fun d87 w88 => ∀ _ : Regs,
 K (.bool d87.1) w88)))
theorem e15 (g0 : (Int × Int × Int × Unit)) (bad1 : Sl) (l2 : Sl) (w : World) (K : Value → World → Prop) : exF Try.prog a15 Try.f15 [(.agg #[(.int .i64 g0.1), (.int .i64 g0.2.1), (.int .i64 g0.2.2.1)]), (.slice bad1.a bad1.l bad1.c), (.slice l2.a l2.l l2.c)] w K = T15 g0 bad1 l2 w K := by kernel_rfl
theorem b15 : hasB Try.prog 15 = true := by kernel_rfl
theorem f15 : fitsF Try.f15 3 = true := by kernel_rfl
theorem u15 {w : World} {K : Value → World → Prop} {g0 : (Int × Int × Int × Unit)} {bad1 : Sl} {l2 : Sl} (h : T15 g0 bad1 l2 w K) : Ok Try.prog 15 [(.agg #[(.int .i64 g0.1), (.int .i64 g0.2.1), (.int .i64 g0.2.2.1)]), (.slice bad1.a bad1.l bad1.c), (.slice l2.a l2.l l2.c)] w K :=
  Ok_eq a15 3 mixed Try.func15 b15 f15 rfl (e15 g0 bad1 l2 w K) h

end Go.Proofs.Ytppfnkedbpmliaa
