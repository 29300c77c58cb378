/- Nothing is proved here but readings: what the loaded code of some functions reads as. Written by a program of this work (wip/gen). -/
import Derived.Test.YtppfnkedbpmliaaR0
set_option linter.unusedVariables false
namespace Go.Proofs.Ytppfnkedbpmliaa
open Go.Rk
/-! 4: ramekinlaw9.GeomAll -/
def a4 : Ann := { reg := [(24, [(157, (.one .b))]), (12, [(86, (.one .b))])], cnd := [], lop := [(20, [(16, (.one (.i .i64)))]), (15, [(15, (.one (.i .i64)))]), (9, [(12, (.one (.i .i64)))])], blk := [(0, []), (2, []), (4, [])], prm := [] }
def T4 (g0 : (Int × Int × Int × Unit)) (bad1 : Sl) (supers2 : Int) (ns3 : Sl) (w : World) (K : Value → World → Prop) : Prop :=
 al w (.cells #[(.int .i64 g0.1), (.int .i64 g0.2.1), (.int .i64 g0.2.2.1)] 29) fun p1 w2 =>
 Ok Try.prog 25 [] w2 fun v3 w4 =>
 decB v3 fun b5 =>
 cond (!b5)
 (K (.bool false) w4)
 (cond (decide (((bad1.l : Nat) : Int) > 40))
 (K (.bool true) w4)
 (rdI .i64 w4 p1 fun n6 =>
 rdI .i64 w4 (p1.add 1) fun n7 =>
 rdI .i64 w4 (p1.add 2) fun n8 =>
 Ok Try.prog 26 [(.agg #[(.int .i64 n6), (.int .i64 n7), (.int .i64 n8)])] w4 fun v9 w10 =>
 decG [(.i .i64), (.i .i64), (.i .i64)] v9 fun g11 =>
 al w10 (.cells #[(.int .i64 0), (.int .i64 0), (.int .i64 0)] 29) fun p12 w13 =>
 wr w13 p12 (.int .i64 g11.1) fun w14 =>
 wr w14 (p12.add 1) (.int .i64 g11.2.1) fun w15 =>
 wr w15 (p12.add 2) (.int .i64 g11.2.2.1) fun w16 =>
 rdI .i64 w16 p1 fun n17 =>
 rdI .i64 w16 (p1.add 1) fun n18 =>
 rdI .i64 w16 (p1.add 2) fun n19 =>
 rdI .i64 w16 p12 fun n20 =>
 rdI .i64 w16 (p12.add 1) fun n21 =>
 rdI .i64 w16 (p12.add 2) fun n22 =>
 rdI .i64 w16 p12 fun n23 =>
 rdI .i64 w16 (p12.add 1) fun n24 =>
 rdI .i64 w16 (p12.add 2) fun n25 =>
 al w16 (.cells #[(.int .i64 n17), (.int .i64 n18), (.int .i64 n19), (.int .i64 n20), (.int .i64 n21), (.int .i64 n22), (.int .i64 n23), (.int .i64 n24), (.int .i64 n25)] 29) fun p26 w27 =>
 rdI .i64 w27 p12 fun n28 =>
 rdI .i64 w27 (p12.add 1) fun n29 =>
 rdI .i64 w27 (p12.add 2) fun n30 =>
 Ok Try.prog 27 [(.agg #[(.int .i64 n28), (.int .i64 n29), (.int .i64 n30)]), (.slice ns3.a ns3.l ns3.c)] w27 fun v31 w32 =>
 decS v31 fun s33 =>
 al w32 (.cells #[(.slice bad1.a bad1.l bad1.c), (.slice bad1.a bad1.l bad1.c), (.slice s33.a s33.l s33.c)] 30) fun p34 w35 =>
 joinT (D := Unit) (fun k36 =>
 loopT (D := Int × Unit) (fun d39 w40 k41 => ∀ _ : Regs,
 cond (decide (d39.1 < 3))
 (ix (some p26) 3 d39.1 fun q42 =>
 rdI .i64 w40.drew (q42.add (d39.1.toNat * 3)) fun n43 =>
 rdI .i64 w40.drew ((q42.add (d39.1.toNat * 3)).add 1) fun n44 =>
 rdI .i64 w40.drew ((q42.add (d39.1.toNat * 3)).add 2) fun n45 =>
 ix (some p34) 3 d39.1 fun q46 =>
 rdS w40.drew (q46.add (d39.1.toNat * 1)) fun s47 =>
 ix (some p26) 3 d39.1 fun q48 =>
 rdI .i64 w40.drew (q48.add (d39.1.toNat * 3)) fun n49 =>
 rdI .i64 w40.drew ((q48.add (d39.1.toNat * 3)).add 1) fun n50 =>
 rdI .i64 w40.drew ((q48.add (d39.1.toNat * 3)).add 2) fun n51 =>
 ix (some p34) 3 d39.1 fun q52 =>
 rdS w40.drew (q52.add (d39.1.toNat * 1)) fun s53 =>
 Ok Try.prog 28 [(.agg #[(.int .i64 n43), (.int .i64 n44), (.int .i64 n45)]), (.slice s47.a s47.l s47.c)] w40.drew fun v54 w55 =>
 decS v54 fun s56 =>
 rdI .i64 w55 (q48.add (d39.1.toNat * 3)) fun n57 =>
 rdI .i64 w55 ((q48.add (d39.1.toNat * 3)).add 1) fun n58 =>
 rdI .i64 w55 ((q48.add (d39.1.toNat * 3)).add 2) fun n59 =>
 ((.agg #[(.int .i64 n57), (.int .i64 n58), (.int .i64 n59)]) : Value) = (.agg #[(.int .i64 n49), (.int .i64 n50), (.int .i64 n51)]) ∧
 rdS w55 (q52.add (d39.1.toNat * 1)) fun s60 =>
 ((.slice s60.a s60.l s60.c) : Value) = (.slice s53.a s53.l s53.c) ∧
 Ok Try.prog 29 [(.agg #[(.int .i64 n49), (.int .i64 n50), (.int .i64 n51)]), (.slice s53.a s53.l s53.c)] w55 fun v61 w62 =>
 decS v61 fun s63 =>
 joinT (D := Bool × Unit) (fun k64 =>
 cond (((s56.l : Nat) : Int) != ((s63.l : Nat) : Int))
 (k64 (true, ()) w62.drew)
 (ix (some p26) 3 d39.1 fun q67 =>
 rdI .i64 w62.drew (q67.add (d39.1.toNat * 3)) fun n68 =>
 rdI .i64 w62.drew ((q67.add (d39.1.toNat * 3)).add 1) fun n69 =>
 rdI .i64 w62.drew ((q67.add (d39.1.toNat * 3)).add 2) fun n70 =>
 ix (some p26) 3 d39.1 fun q71 =>
 rdI .i64 w62.drew (q71.add (d39.1.toNat * 3)) fun n72 =>
 rdI .i64 w62.drew ((q71.add (d39.1.toNat * 3)).add 1) fun n73 =>
 rdI .i64 w62.drew ((q71.add (d39.1.toNat * 3)).add 2) fun n74 =>
 Ok Try.prog 30 [(.agg #[(.int .i64 n68), (.int .i64 n69), (.int .i64 n70)])] w62.drew fun v75 w76 =>
 decI .i64 v75 fun n77 =>
 rdI .i64 w76 (q71.add (d39.1.toNat * 3)) fun n78 =>
 rdI .i64 w76 ((q71.add (d39.1.toNat * 3)).add 1) fun n79 =>
 rdI .i64 w76 ((q71.add (d39.1.toNat * 3)).add 2) fun n80 =>
 ((.agg #[(.int .i64 n78), (.int .i64 n79), (.int .i64 n80)]) : Value) = (.agg #[(.int .i64 n72), (.int .i64 n73), (.int .i64 n74)]) ∧
 Ok Try.prog 31 [(.agg #[(.int .i64 n72), (.int .i64 n73), (.int .i64 n74)])] w76 fun v81 w82 =>
 decI .i64 v81 fun n83 =>
 cond (n77 != n83)
 (k64 (true, ()) w82)
 (ix (some p26) 3 d39.1 fun q84 =>
 rdI .i64 w82 (q84.add (d39.1.toNat * 3)) fun n85 =>
 rdI .i64 w82 ((q84.add (d39.1.toNat * 3)).add 1) fun n86 =>
 rdI .i64 w82 ((q84.add (d39.1.toNat * 3)).add 2) fun n87 =>
 ix (some p26) 3 d39.1 fun q88 =>
 rdI .i64 w82 (q88.add (d39.1.toNat * 3)) fun n89 =>
 rdI .i64 w82 ((q88.add (d39.1.toNat * 3)).add 1) fun n90 =>
 rdI .i64 w82 ((q88.add (d39.1.toNat * 3)).add 2) fun n91 =>
 Ok Try.prog 32 [(.agg #[(.int .i64 n85), (.int .i64 n86), (.int .i64 n87)])] w82 fun v92 w93 =>
 decI .i64 v92 fun n94 =>
 rdI .i64 w93 (q88.add (d39.1.toNat * 3)) fun n95 =>
 rdI .i64 w93 ((q88.add (d39.1.toNat * 3)).add 1) fun n96 =>
 rdI .i64 w93 ((q88.add (d39.1.toNat * 3)).add 2) fun n97 =>
 ((.agg #[(.int .i64 n95), (.int .i64 n96), (.int .i64 n97)]) : Value) = (.agg #[(.int .i64 n89), (.int .i64 n90), (.int .i64 n91)]) ∧
 Ok Try.prog 33 [(.agg #[(.int .i64 n89), (.int .i64 n90), (.int .i64 n91)])] w93 fun v98 w99 =>
 decI .i64 v98 fun n100 =>
 k64 ((n94 != n100), ()) w99)))
 fun d65 w66 => ∀ _ : Regs,
 cond d65.1
 (K (.bool false) w66)
 (joinT (D := Unit) (fun k101 =>
 loopT (D := Int × Unit) (fun d104 w105 k106 => ∀ _ : Regs,
 cond (decide (d104.1 < ((s56.l : Nat) : Int)))
 (ix s56.a s56.l d104.1 fun q107 =>
 rdS w105.drew (q107.add (d104.1.toNat * 1)) fun s108 =>
 ix s63.a s63.l d104.1 fun q109 =>
 rdS w105.drew (q109.add (d104.1.toNat * 1)) fun s110 =>
 cond (((s108.l : Nat) : Int) != ((s110.l : Nat) : Int))
 (K (.bool false) w105.drew)
 (joinT (D := Unit) (fun k111 =>
 loopT (D := Int × Unit) (fun d114 w115 k116 => ∀ _ : Regs,
 ix s56.a s56.l d104.1 fun q117 =>
 rdS w115 (q117.add (d104.1.toNat * 1)) fun s118 =>
 cond (decide (d114.1 < ((s118.l : Nat) : Int)))
 (ix s56.a s56.l d104.1 fun q119 =>
 rdS w115.drew (q119.add (d104.1.toNat * 1)) fun s120 =>
 ix s120.a s120.l d114.1 fun q121 =>
 rdI .i64 w115.drew (q121.add (d114.1.toNat * 1)) fun n122 =>
 ix s63.a s63.l d104.1 fun q123 =>
 rdS w115.drew (q123.add (d104.1.toNat * 1)) fun s124 =>
 ix s124.a s124.l d114.1 fun q125 =>
 rdI .i64 w115.drew (q125.add (d114.1.toNat * 1)) fun n126 =>
 cond (n122 != n126)
 (K (.bool false) w115.drew)
 (k116 ((IntKind.wrap .i64 (d114.1 + 1)), ()) w115.drew))
 (k111 () w115))
 (0, ()) w105.drew)
 fun d112 w113 => ∀ _ : Regs,
 k106 ((IntKind.wrap .i64 (d104.1 + 1)), ()) w113))
 (k101 () w105))
 (0, ()) w66)
 fun d102 w103 => ∀ _ : Regs,
 joinT (D := Bool × Unit) (fun k127 =>
 ix (some p26) 3 d39.1 fun q130 =>
 rdI .i64 w103.drew (q130.add (d39.1.toNat * 3)) fun n131 =>
 rdI .i64 w103.drew ((q130.add (d39.1.toNat * 3)).add 1) fun n132 =>
 rdI .i64 w103.drew ((q130.add (d39.1.toNat * 3)).add 2) fun n133 =>
 ix (some p26) 3 d39.1 fun q134 =>
 rdI .i64 w103.drew (q134.add (d39.1.toNat * 3)) fun n135 =>
 rdI .i64 w103.drew ((q134.add (d39.1.toNat * 3)).add 1) fun n136 =>
 rdI .i64 w103.drew ((q134.add (d39.1.toNat * 3)).add 2) fun n137 =>
 Ok Try.prog 34 [(.agg #[(.int .i64 n131), (.int .i64 n132), (.int .i64 n133)]), (.int .i64 supers2)] w103.drew fun v138 w139 =>
 decI .i64 v138 fun n140 =>
 rdI .i64 w139 (q134.add (d39.1.toNat * 3)) fun n141 =>
 rdI .i64 w139 ((q134.add (d39.1.toNat * 3)).add 1) fun n142 =>
 rdI .i64 w139 ((q134.add (d39.1.toNat * 3)).add 2) fun n143 =>
 ((.agg #[(.int .i64 n141), (.int .i64 n142), (.int .i64 n143)]) : Value) = (.agg #[(.int .i64 n135), (.int .i64 n136), (.int .i64 n137)]) ∧
 Ok Try.prog 35 [(.agg #[(.int .i64 n135), (.int .i64 n136), (.int .i64 n137)]), (.int .i64 supers2)] w139 fun v144 w145 =>
 decI .i64 v144 fun n146 =>
 cond (n140 != n146)
 (k127 (true, ()) w145)
 (ix (some p26) 3 d39.1 fun q147 =>
 rdI .i64 w145 (q147.add (d39.1.toNat * 3)) fun n148 =>
 rdI .i64 w145 ((q147.add (d39.1.toNat * 3)).add 1) fun n149 =>
 rdI .i64 w145 ((q147.add (d39.1.toNat * 3)).add 2) fun n150 =>
 ix (some p26) 3 d39.1 fun q151 =>
 rdI .i64 w145 (q151.add (d39.1.toNat * 3)) fun n152 =>
 rdI .i64 w145 ((q151.add (d39.1.toNat * 3)).add 1) fun n153 =>
 rdI .i64 w145 ((q151.add (d39.1.toNat * 3)).add 2) fun n154 =>
 Ok Try.prog 36 [(.int .i64 supers2), (.int .i64 14)] w145 fun v155 w156 =>
 decI .i64 v155 fun n157 =>
 rdI .i64 w156 (q147.add (d39.1.toNat * 3)) fun n158 =>
 rdI .i64 w156 ((q147.add (d39.1.toNat * 3)).add 1) fun n159 =>
 rdI .i64 w156 ((q147.add (d39.1.toNat * 3)).add 2) fun n160 =>
 ((.agg #[(.int .i64 n158), (.int .i64 n159), (.int .i64 n160)]) : Value) = (.agg #[(.int .i64 n148), (.int .i64 n149), (.int .i64 n150)]) ∧
 rdI .i64 w156 (q151.add (d39.1.toNat * 3)) fun n161 =>
 rdI .i64 w156 ((q151.add (d39.1.toNat * 3)).add 1) fun n162 =>
 rdI .i64 w156 ((q151.add (d39.1.toNat * 3)).add 2) fun n163 =>
 ((.agg #[(.int .i64 n161), (.int .i64 n162), (.int .i64 n163)]) : Value) = (.agg #[(.int .i64 n152), (.int .i64 n153), (.int .i64 n154)]) ∧
 Ok Try.prog 34 [(.agg #[(.int .i64 n148), (.int .i64 n149), (.int .i64 n150)]), (.int .i64 n157)] w156 fun v164 w165 =>
 decI .i64 v164 fun n166 =>
 rdI .i64 w165 (q151.add (d39.1.toNat * 3)) fun n167 =>
 rdI .i64 w165 ((q151.add (d39.1.toNat * 3)).add 1) fun n168 =>
 rdI .i64 w165 ((q151.add (d39.1.toNat * 3)).add 2) fun n169 =>
 ((.agg #[(.int .i64 n167), (.int .i64 n168), (.int .i64 n169)]) : Value) = (.agg #[(.int .i64 n152), (.int .i64 n153), (.int .i64 n154)]) ∧
 Ok Try.prog 36 [(.int .i64 supers2), (.int .i64 14)] w165 fun v170 w171 =>
 decI .i64 v170 fun n172 =>
 rdI .i64 w171 (q151.add (d39.1.toNat * 3)) fun n173 =>
 rdI .i64 w171 ((q151.add (d39.1.toNat * 3)).add 1) fun n174 =>
 rdI .i64 w171 ((q151.add (d39.1.toNat * 3)).add 2) fun n175 =>
 ((.agg #[(.int .i64 n173), (.int .i64 n174), (.int .i64 n175)]) : Value) = (.agg #[(.int .i64 n152), (.int .i64 n153), (.int .i64 n154)]) ∧
 Ok Try.prog 35 [(.agg #[(.int .i64 n152), (.int .i64 n153), (.int .i64 n154)]), (.int .i64 n172)] w171 fun v176 w177 =>
 decI .i64 v176 fun n178 =>
 k127 ((n166 != n178), ()) w177))
 fun d128 w129 => ∀ _ : Regs,
 cond d128.1
 (K (.bool false) w129)
 (k41 ((IntKind.wrap .i64 (d39.1 + 1)), ()) w129)))
 (k36 () w40))
 (0, ()) w35)
 fun d37 w38 => ∀ _ : Regs,
 K (.bool true) w38))
theorem e4 (g0 : (Int × Int × Int × Unit)) (bad1 : Sl) (supers2 : Int) (ns3 : Sl) (w : World) (K : Value → World → Prop) : exF Try.prog a4 Try.f4 [(.agg #[(.int .i64 g0.1), (.int .i64 g0.2.1), (.int .i64 g0.2.2.1)]), (.slice bad1.a bad1.l bad1.c), (.int .i64 supers2), (.slice ns3.a ns3.l ns3.c)] w K = T4 g0 bad1 supers2 ns3 w K := by kernel_rfl
theorem b4 : hasB Try.prog 4 = true := by kernel_rfl
theorem f4 : fitsF Try.f4 4 = true := by kernel_rfl
theorem u4 {w : World} {K : Value → World → Prop} {g0 : (Int × Int × Int × Unit)} {bad1 : Sl} {supers2 : Int} {ns3 : Sl} (h : T4 g0 bad1 supers2 ns3 w K) : Ok Try.prog 4 [(.agg #[(.int .i64 g0.1), (.int .i64 g0.2.1), (.int .i64 g0.2.2.1)]), (.slice bad1.a bad1.l bad1.c), (.int .i64 supers2), (.slice ns3.a ns3.l ns3.c)] w K :=
  Ok_eq a4 4 mixed Try.func4 b4 f4 rfl (e4 g0 bad1 supers2 ns3 w K) h

/-! 5: ramekinlaw9.GeomOnce -/
def a5 : Ann := { reg := [(21, [(4, (.one .b))]), (14, [(82, (.one .b))])], cnd := [], lop := [(17, [(10, (.one (.i .i64)))]), (12, [(9, (.one (.i .i64)))]), (7, [(8, (.one (.i .i64)))])], blk := [(0, []), (2, []), (4, [])], prm := [] }
def T5 (g0 : (Int × Int × Int × Unit)) (ns1 : Sl) (w : World) (K : Value → World → Prop) : Prop :=
 al w (.cells #[(.int .i64 g0.1), (.int .i64 g0.2.1), (.int .i64 g0.2.2.1)] 29) fun p1 w2 =>
 Ok Try.prog 25 [] w2 fun v3 w4 =>
 decB v3 fun b5 =>
 cond (!b5)
 (K (.bool false) w4)
 (rdI .i64 w4 p1 fun n6 =>
 rdI .i64 w4 (p1.add 1) fun n7 =>
 rdI .i64 w4 (p1.add 2) fun n8 =>
 Ok Try.prog 26 [(.agg #[(.int .i64 n6), (.int .i64 n7), (.int .i64 n8)])] w4 fun v9 w10 =>
 decG [(.i .i64), (.i .i64), (.i .i64)] v9 fun g11 =>
 al w10 (.cells #[(.int .i64 0), (.int .i64 0), (.int .i64 0)] 29) fun p12 w13 =>
 wr w13 p12 (.int .i64 g11.1) fun w14 =>
 wr w14 (p12.add 1) (.int .i64 g11.2.1) fun w15 =>
 wr w15 (p12.add 2) (.int .i64 g11.2.2.1) fun w16 =>
 rdI .i64 w16 p12 fun n17 =>
 rdI .i64 w16 (p12.add 1) fun n18 =>
 rdI .i64 w16 (p12.add 2) fun n19 =>
 Ok Try.prog 27 [(.agg #[(.int .i64 n17), (.int .i64 n18), (.int .i64 n19)]), (.slice ns1.a ns1.l ns1.c)] w16 fun v20 w21 =>
 decS v20 fun s22 =>
 rdI .i64 w21 p12 fun n23 =>
 rdI .i64 w21 (p12.add 1) fun n24 =>
 rdI .i64 w21 (p12.add 2) fun n25 =>
 Ok Try.prog 28 [(.agg #[(.int .i64 n23), (.int .i64 n24), (.int .i64 n25)]), (.slice s22.a s22.l s22.c)] w21 fun v26 w27 =>
 decS v26 fun s28 =>
 joinT (D := Unit) (fun k29 =>
 loopT (D := Int × Unit) (fun d32 w33 k34 => ∀ _ : Regs,
 cond (decide (d32.1 < ((s28.l : Nat) : Int)))
 (ix s28.a s28.l d32.1 fun q35 =>
 rdS w33.drew (q35.add (d32.1.toNat * 1)) fun s36 =>
 rdI .i64 w33.drew p12 fun n37 =>
 cond (((s36.l : Nat) : Int) != n37)
 (K (.bool false) w33.drew)
 (joinT (D := Unit) (fun k38 =>
 loopT (D := Int × Unit) (fun d41 w42 k43 => ∀ _ : Regs,
 rdI .i64 w42 p12 fun n44 =>
 cond (decide (d41.1 < n44))
 (joinT (D := Bool × Unit) (fun k45 =>
 ix s28.a s28.l d32.1 fun q48 =>
 rdS w42.drew (q48.add (d32.1.toNat * 1)) fun s49 =>
 ix s49.a s49.l d41.1 fun q50 =>
 rdI .i64 w42.drew (q50.add (d41.1.toNat * 1)) fun n51 =>
 cond (decide (n51 < 0))
 (k45 (true, ()) w42.drew)
 (ix s28.a s28.l d32.1 fun q52 =>
 rdS w42.drew (q52.add (d32.1.toNat * 1)) fun s53 =>
 ix s53.a s53.l d41.1 fun q54 =>
 rdI .i64 w42.drew (q54.add (d41.1.toNat * 1)) fun n55 =>
 rdI .i64 w42.drew (p12.add 1) fun n56 =>
 cond (decide (n55 ≥ n56))
 (k45 (true, ()) w42.drew)
 (cond (decide (d32.1 > 0))
 (ix s28.a s28.l d32.1 fun q57 =>
 rdS w42.drew (q57.add (d32.1.toNat * 1)) fun s58 =>
 ix s58.a s58.l d41.1 fun q59 =>
 rdI .i64 w42.drew (q59.add (d41.1.toNat * 1)) fun n60 =>
 ix s28.a s28.l (IntKind.wrap .i64 (d32.1 - 1)) fun q61 =>
 rdS w42.drew (q61.add ((IntKind.wrap .i64 (d32.1 - 1)).toNat * 1)) fun s62 =>
 ix s62.a s62.l d41.1 fun q63 =>
 rdI .i64 w42.drew (q63.add (d41.1.toNat * 1)) fun n64 =>
 k45 ((decide (n60 ≤ n64)), ()) w42.drew)
 (k45 (false, ()) w42.drew))))
 fun d46 w47 => ∀ _ : Regs,
 cond d46.1
 (K (.bool false) w47)
 (joinT (D := Unit) (fun k65 =>
 loopT (D := Int × Unit) (fun d68 w69 k70 => ∀ _ : Regs,
 cond (decide (d68.1 < ((s22.l : Nat) : Int)))
 (ix s22.a s22.l d68.1 fun q71 =>
 rdI .i64 w69.drew (q71.add (d68.1.toNat * 2)) fun n72 =>
 rdI .i64 w69.drew ((q71.add (d68.1.toNat * 2)).add 1) fun n73 =>
 ix s28.a s28.l d32.1 fun q74 =>
 rdS w69.drew (q74.add (d32.1.toNat * 1)) fun s75 =>
 ix s75.a s75.l d41.1 fun q76 =>
 rdI .i64 w69.drew (q76.add (d41.1.toNat * 1)) fun n77 =>
 cond ((n72 == d41.1) && ((n73 == n77) && true))
 (K (.bool false) w69.drew)
 (k70 ((IntKind.wrap .i64 (d68.1 + 1)), ()) w69.drew))
 (k65 () w69))
 (0, ()) w47)
 fun d66 w67 => ∀ _ : Regs,
 k43 ((IntKind.wrap .i64 (d41.1 + 1)), ()) w67))
 (k38 () w42))
 (0, ()) w33.drew)
 fun d39 w40 => ∀ _ : Regs,
 k34 ((IntKind.wrap .i64 (d32.1 + 1)), ()) w40))
 (k29 () w33))
 (0, ()) w27)
 fun d30 w31 => ∀ _ : Regs,
 joinT (D := Bool × Unit) (fun k78 =>
 rdI .i64 w31 (p12.add 1) fun n81 =>
 cond (decide (((s28.l : Nat) : Int) ≥ (IntKind.wrap .i64 (n81 - 1))))
 (rdI .i64 w31 (p12.add 1) fun n82 =>
 k78 ((decide (((s28.l : Nat) : Int) ≤ n82)), ()) w31)
 (k78 (false, ()) w31))
 fun d79 w80 => ∀ _ : Regs,
 K (.bool d79.1) w80)
theorem e5 (g0 : (Int × Int × Int × Unit)) (ns1 : Sl) (w : World) (K : Value → World → Prop) : exF Try.prog a5 Try.f5 [(.agg #[(.int .i64 g0.1), (.int .i64 g0.2.1), (.int .i64 g0.2.2.1)]), (.slice ns1.a ns1.l ns1.c)] w K = T5 g0 ns1 w K := by kernel_rfl
theorem b5 : hasB Try.prog 5 = true := by kernel_rfl
theorem f5 : fitsF Try.f5 2 = true := by kernel_rfl
theorem u5 {w : World} {K : Value → World → Prop} {g0 : (Int × Int × Int × Unit)} {ns1 : Sl} (h : T5 g0 ns1 w K) : Ok Try.prog 5 [(.agg #[(.int .i64 g0.1), (.int .i64 g0.2.1), (.int .i64 g0.2.2.1)]), (.slice ns1.a ns1.l ns1.c)] w K :=
  Ok_eq a5 2 mixed Try.func5 b5 f5 rfl (e5 g0 ns1 w K) h

/-! 6: ramekinlaw9.GeomBounds -/
def a6 : Ann := { reg := [(22, [(6, (.one .b))]), (21, [(6, (.one .b))])], cnd := [(18, []), (23, []), (28, []), (33, []), (38, []), (43, []), (11, [(7, (.one (.i .i64)))])], lop := [], blk := [], prm := [] }
def T6 (which0 : Int) (above1 : Bool) (far2 : Int) (w : World) (K : Value → World → Prop) : Prop :=
 Ok Try.prog 25 [] w fun v1 w2 =>
 decB v1 fun b3 =>
 cond (!b3)
 (K (.bool false) w2)
 (joinT (D := Int × Unit) (fun k4 =>
 cond above1
 (Ok Try.prog 36 [(.int .i64 far2), (.int .i64 1000)] w2 fun v7 w8 =>
 decI .i64 v7 fun n9 =>
 k4 ((IntKind.wrap .i64 ((1 : Int) + n9)), ()) w8)
 (k4 (0, ()) w2))
 fun d5 w6 => ∀ _ : Regs,
 al w6 (.cells #[(.int .i64 0), (.int .i64 0), (.int .i64 0)] 29) fun p10 w11 =>
 wr w11 p10 (.int .i64 7) fun w12 =>
 wr w12 (p10.add 1) (.int .i64 10) fun w13 =>
 wr w13 (p10.add 2) (.int .i64 6) fun w14 =>
 Ok Try.prog 36 [(.int .i64 which0), (.int .i64 6)] w14 fun v15 w16 =>
 decI .i64 v15 fun n17 =>
 joinT (D := Unit) (fun k18 =>
 cond (n17 == 0)
 (wr w16 p10 (.int .i64 (IntKind.wrap .i64 ((8 : Int) + d5.1))) fun w21 =>
 k18 () w21)
 (joinT (D := Unit) (fun k22 =>
 cond (n17 == 1)
 (wr w16 p10 (.int .i64 (IntKind.wrap .i64 ((6 : Int) - d5.1))) fun w25 =>
 k22 () w25)
 (joinT (D := Unit) (fun k26 =>
 cond (n17 == 2)
 (wr w16 (p10.add 1) (.int .i64 (IntKind.wrap .i64 ((12 : Int) + d5.1))) fun w29 =>
 k26 () w29)
 (joinT (D := Unit) (fun k30 =>
 cond (n17 == 3)
 (wr w16 (p10.add 1) (.int .i64 (IntKind.wrap .i64 ((8 : Int) - d5.1))) fun w33 =>
 k30 () w33)
 (joinT (D := Unit) (fun k34 =>
 cond (n17 == 4)
 (wr w16 (p10.add 2) (.int .i64 (IntKind.wrap .i64 ((8 : Int) + d5.1))) fun w37 =>
 k34 () w37)
 (joinT (D := Unit) (fun k38 =>
 cond (n17 == 5)
 (wr w16 (p10.add 2) (.int .i64 (IntKind.wrap .i64 ((4 : Int) - d5.1))) fun w41 =>
 k38 () w41)
 (k38 () w16))
 fun d39 w40 => ∀ _ : Regs,
 k34 () w40))
 fun d35 w36 => ∀ _ : Regs,
 k30 () w36))
 fun d31 w32 => ∀ _ : Regs,
 k26 () w32))
 fun d27 w28 => ∀ _ : Regs,
 k22 () w28))
 fun d23 w24 => ∀ _ : Regs,
 k18 () w24))
 fun d19 w20 => ∀ _ : Regs,
 cond above1
 (joinT (D := Bool × Unit) (fun k42 =>
 rdI .i64 w20 p10 fun n45 =>
 rdI .i64 w20 (p10.add 1) fun n46 =>
 rdI .i64 w20 (p10.add 2) fun n47 =>
 Ok Try.prog 30 [(.agg #[(.int .i64 n45), (.int .i64 n46), (.int .i64 n47)])] w20 fun v48 w49 =>
 decI .i64 v48 fun n50 =>
 cond (n50 == 1)
 (rdI .i64 w49 p10 fun n51 =>
 rdI .i64 w49 (p10.add 1) fun n52 =>
 rdI .i64 w49 (p10.add 2) fun n53 =>
 Ok Try.prog 28 [(.agg #[(.int .i64 n51), (.int .i64 n52), (.int .i64 n53)]), (.slice none 0 0)] w49 fun v54 w55 =>
 decS v54 fun s56 =>
 cond (((s56.l : Nat) : Int) == 0)
 (rdI .i64 w55 p10 fun n57 =>
 rdI .i64 w55 (p10.add 1) fun n58 =>
 rdI .i64 w55 (p10.add 2) fun n59 =>
 Ok Try.prog 34 [(.agg #[(.int .i64 n57), (.int .i64 n58), (.int .i64 n59)]), (.int .i64 8)] w55 fun v60 w61 =>
 decI .i64 v60 fun n62 =>
 cond (n62 == 0)
 (rdI .i64 w61 p10 fun n63 =>
 rdI .i64 w61 (p10.add 1) fun n64 =>
 rdI .i64 w61 (p10.add 2) fun n65 =>
 Ok Try.prog 32 [(.agg #[(.int .i64 n63), (.int .i64 n64), (.int .i64 n65)])] w61 fun v66 w67 =>
 decI .i64 v66 fun n68 =>
 k42 ((n68 == 0), ()) w67)
 (k42 (false, ()) w61))
 (k42 (false, ()) w55))
 (k42 (false, ()) w49))
 fun d43 w44 => ∀ _ : Regs,
 K (.bool d43.1) w44)
 (joinT (D := Bool × Unit) (fun k69 =>
 rdI .i64 w20.drew p10 fun n72 =>
 rdI .i64 w20.drew (p10.add 1) fun n73 =>
 rdI .i64 w20.drew (p10.add 2) fun n74 =>
 Ok Try.prog 30 [(.agg #[(.int .i64 n72), (.int .i64 n73), (.int .i64 n74)])] w20.drew fun v75 w76 =>
 decI .i64 v75 fun n77 =>
 cond (n77 == 0)
 (rdI .i64 w76 p10 fun n78 =>
 rdI .i64 w76 (p10.add 1) fun n79 =>
 rdI .i64 w76 (p10.add 2) fun n80 =>
 rdI .i64 w76 (p10.add 1) fun n81 =>
 Ok Try.prog 28 [(.agg #[(.int .i64 n78), (.int .i64 n79), (.int .i64 n80)]), (.slice none 0 0)] w76 fun v82 w83 =>
 decS v82 fun s84 =>
 rdI .i64 w83 (p10.add 1) fun n85 =>
 ((.int .i64 n85) : Value) = (.int .i64 n81) ∧
 cond (((s84.l : Nat) : Int) == n81)
 (rdI .i64 w83 p10 fun n86 =>
 rdI .i64 w83 (p10.add 1) fun n87 =>
 rdI .i64 w83 (p10.add 2) fun n88 =>
 rdI .i64 w83 p10 fun n89 =>
 Ok Try.prog 32 [(.agg #[(.int .i64 n86), (.int .i64 n87), (.int .i64 n88)])] w83 fun v90 w91 =>
 decI .i64 v90 fun n92 =>
 rdI .i64 w91 p10 fun n93 =>
 ((.int .i64 n93) : Value) = (.int .i64 n89) ∧
 k69 ((n92 == (IntKind.wrap .i64 (n89 - 2))), ()) w91)
 (k69 (false, ()) w83))
 (k69 (false, ()) w76))
 fun d70 w71 => ∀ _ : Regs,
 K (.bool d70.1) w71))
theorem e6 (which0 : Int) (above1 : Bool) (far2 : Int) (w : World) (K : Value → World → Prop) : exF Try.prog a6 Try.f6 [(.int .i64 which0), (.bool above1), (.int .i64 far2)] w K = T6 which0 above1 far2 w K := by kernel_rfl
theorem b6 : hasB Try.prog 6 = true := by kernel_rfl
theorem f6 : fitsF Try.f6 3 = true := by kernel_rfl
theorem u6 {w : World} {K : Value → World → Prop} {which0 : Int} {above1 : Bool} {far2 : Int} (h : T6 which0 above1 far2 w K) : Ok Try.prog 6 [(.int .i64 which0), (.bool above1), (.int .i64 far2)] w K :=
  Ok_eq a6 3 mixed Try.func6 b6 f6 rfl (e6 which0 above1 far2 w K) h

/-! 7: ramekinlaw9.GeomBad -/
def a7 : Ann := { reg := [(30, [(131, (.one .b))]), (11, [(33, (.one .b))])], cnd := [(50, [(11, (.one (.i .i64)))])], lop := [(27, [(16, (.one (.i .i64))), (17, (.one (.i .i64)))]), (19, [(9, (.one .s)), (14, (.one (.i .i64)))]), (11, [(9, (.one .s)), (11, (.one (.i .i64))), (12, (.one (.i .i64)))])], blk := [(4, [(16, (.one (.i .i64)))]), (5, [(16, (.one (.i .i64)))]), (2, [(9, (.one .s))]), (0, [(9, (.one .s)), (11, (.one (.i .i64)))])], prm := [] }
def T7 (die0 : Int) (l1 : Sl) (none2 : Sl) (w : World) (K : Value → World → Prop) : Prop :=
 Ok Try.prog 25 [] w fun v1 w2 =>
 decB v1 fun b3 =>
 cond (!b3)
 (K (.bool false) w2)
 (cond (decide (((none2.l : Nat) : Int) > 20))
 (K (.bool true) w2)
 (al w2 (.cells #[(.int .i64 0), (.int .i64 0), (.int .i64 0)] 29) fun p4 w5 =>
 wr w5 p4 (.int .i64 6) fun w6 =>
 wr w6 (p4.add 1) (.int .i64 12) fun w7 =>
 wr w7 (p4.add 2) (.int .i64 4) fun w8 =>
 Ok Try.prog 36 [(.int .i64 die0), (.int .i64 6)] w8 fun v9 w10 =>
 decI .i64 v9 fun n11 =>
 al w10 (.cells #[(.bool false), (.bool false), (.bool false), (.bool false), (.bool false), (.bool false), (.bool false), (.bool false), (.bool false), (.bool false), (.bool false), (.bool false)] 45) fun p12 w13 =>
 joinT (D := Sl × Int × Unit) (fun k14 =>
 loopT (D := Sl × Int × Int × Unit) (fun d17 w18 k19 => ∀ _ : Regs,
 joinT (D := Bool × Unit) (fun k20 =>
 cond (decide (d17.2.2.1 < ((l1.l : Nat) : Int)))
 (k20 ((decide (d17.2.2.1 < 20)), ()) w18)
 (k20 (false, ()) w18))
 fun d21 w22 => ∀ _ : Regs,
 cond d21.1
 (ix l1.a l1.l d17.2.2.1 fun q23 =>
 rdI .i64 w22 (q23.add (d17.2.2.1.toNat * 1)) fun n24 =>
 Ok Try.prog 36 [(.int .i64 n24), (.int .i64 12)] w22 fun v25 w26 =>
 decI .i64 v25 fun n27 =>
 al w26 (.cells #[(.int .i64 n11), (.int .i64 n27)] 42) fun p28 w29 =>
 raw Try.prog (Builtin.append_ #[30, 30] 30 #[(.slice d17.1.a d17.1.l d17.1.c), (.slice (some p28) 1 1)]) w29 fun v30 w31 =>
 decS v30 fun s32 =>
 ixA 12 n27 (
 rdB w31 (p12.add (n27.toNat * 1)) fun b33 =>
 joinT (D := Int × Unit) (fun k34 =>
 cond (!b33)
 (ixA 12 n27 (
 wr w31 (p12.add (n27.toNat * 1)) (.bool true) fun w37 =>
 k34 ((IntKind.wrap .i64 (d17.2.1 + 1)), ()) w37))
 (k34 (d17.2.1, ()) w31))
 fun d35 w36 => ∀ _ : Regs,
 k19 (s32, d35.1, (IntKind.wrap .i64 (d17.2.2.1 + 1)), ()) w36))
 (k14 (d17.1, d17.2.1, ()) w22))
 (⟨none, 0, 0⟩, 0, 0, ()) w13)
 fun d15 w16 => ∀ _ : Regs,
 joinT (D := Sl × Unit) (fun k38 =>
 loopT (D := Sl × Int × Unit) (fun d41 w42 k43 => ∀ _ : Regs,
 cond (decide (d41.2.1 < ((none2.l : Nat) : Int)))
 (ix none2.a none2.l d41.2.1 fun q44 =>
 ixA 2 0 (
 rdI .i64 w42.drew (q44.add (d41.2.1.toNat * 2)) fun n45 =>
 ix none2.a none2.l d41.2.1 fun q46 =>
 ixA 2 1 (
 rdI .i64 w42.drew ((q46.add (d41.2.1.toNat * 2)).add 1) fun n47 =>
 ix none2.a none2.l d41.2.1 fun q48 =>
 ixA 2 1 (
 rdI .i64 w42.drew ((q48.add (d41.2.1.toNat * 2)).add 1) fun n49 =>
 Ok Try.prog 36 [(.int .i64 n45), (.int .i64 9)] w42.drew fun v50 w51 =>
 decI .i64 v50 fun n52 =>
 rdI .i64 w51 ((q46.add (d41.2.1.toNat * 2)).add 1) fun n53 =>
 ((.int .i64 n53) : Value) = (.int .i64 n47) ∧
 rdI .i64 w51 ((q48.add (d41.2.1.toNat * 2)).add 1) fun n54 =>
 ((.int .i64 n54) : Value) = (.int .i64 n49) ∧
 Ok Try.prog 36 [(.int .i64 n49), (.int .i64 9)] w51 fun v55 w56 =>
 decI .i64 v55 fun n57 =>
 rdI .i64 w56 ((q46.add (d41.2.1.toNat * 2)).add 1) fun n58 =>
 ((.int .i64 n58) : Value) = (.int .i64 n47) ∧
 al w56 (.cells #[(.int .i64 (IntKind.wrap .i64 ((6 : Int) + n52))), (.int .i64 n47), (.int .i64 n11), (.int .i64 (IntKind.wrap .i64 ((12 : Int) + n57))), (.int .i64 (-1)), (.int .i64 0)] 42) fun p59 w60 =>
 raw Try.prog (Builtin.append_ #[30, 30] 30 #[(.slice d41.1.a d41.1.l d41.1.c), (.slice (some p59) 3 3)]) w60 fun v61 w62 =>
 decS v61 fun s63 =>
 k43 (s63, (IntKind.wrap .i64 (d41.2.1 + 1)), ()) w62))))
 (k38 (d41.1, ()) w42))
 (d15.1, 0, ()) w16)
 fun d39 w40 => ∀ _ : Regs,
 rdI .i64 w40 p4 fun n64 =>
 rdI .i64 w40 (p4.add 1) fun n65 =>
 rdI .i64 w40 (p4.add 2) fun n66 =>
 Ok Try.prog 28 [(.agg #[(.int .i64 n64), (.int .i64 n65), (.int .i64 n66)]), (.slice d39.1.a d39.1.l d39.1.c)] w40 fun v67 w68 =>
 decS v67 fun s69 =>
 cond (((s69.l : Nat) : Int) != (IntKind.wrap .i64 ((12 : Int) - d15.2.1)))
 (K (.bool false) w68)
 (joinT (D := Int × Unit) (fun k70 =>
 loopT (D := Int × Int × Unit) (fun d73 w74 k75 => ∀ _ : Regs,
 cond (decide (d73.2.1 < 12))
 (joinT (D := Int × Unit) (fun k76 =>
 ixA 12 d73.2.1 (
 rdB w74 (p12.add (d73.2.1.toNat * 1)) fun b79 =>
 cond b79
 (k76 (d73.1, ()) w74)
 (joinT (D := Bool × Unit) (fun k80 =>
 ix s69.a s69.l d73.1 fun q83 =>
 rdS w74 (q83.add (d73.1.toNat * 1)) fun s84 =>
 cond (((s84.l : Nat) : Int) != 6)
 (k80 (true, ()) w74)
 (ix s69.a s69.l d73.1 fun q85 =>
 rdS w74 (q85.add (d73.1.toNat * 1)) fun s86 =>
 ix s86.a s86.l n11 fun q87 =>
 rdI .i64 w74 (q87.add (n11.toNat * 1)) fun n88 =>
 cond (n88 != d73.2.1)
 (k80 (true, ()) w74)
 (ix s69.a s69.l d73.1 fun q89 =>
 rdS w74 (q89.add (d73.1.toNat * 1)) fun s90 =>
 ((6 : Int) ≠ 0) ∧
 ix s90.a s90.l (Int.tmod (IntKind.wrap .i64 (n11 + 1)) 6) fun q91 =>
 rdI .i64 w74 (q91.add ((Int.tmod (IntKind.wrap .i64 (n11 + 1)) 6).toNat * 1)) fun n92 =>
 k80 ((n92 != d73.1), ()) w74)))
 fun d81 w82 => ∀ _ : Regs,
 cond d81.1
 (K (.bool false) w82)
 (k76 ((IntKind.wrap .i64 (d73.1 + 1)), ()) w82))))
 fun d77 w78 => ∀ _ : Regs,
 k75 (d77.1, (IntKind.wrap .i64 (d73.2.1 + 1)), ()) w78)
 (k70 (d73.1, ()) w74))
 (0, 0, ()) w68)
 fun d71 w72 => ∀ _ : Regs,
 rdI .i64 w72 p4 fun n93 =>
 rdI .i64 w72 (p4.add 1) fun n94 =>
 rdI .i64 w72 (p4.add 2) fun n95 =>
 Ok Try.prog 29 [(.agg #[(.int .i64 n93), (.int .i64 n94), (.int .i64 n95)]), (.slice d39.1.a d39.1.l d39.1.c)] w72 fun v96 w97 =>
 decS v96 fun s98 =>
 K (.bool (((s98.l : Nat) : Int) == d71.1)) w97)))
theorem e7 (die0 : Int) (l1 : Sl) (none2 : Sl) (w : World) (K : Value → World → Prop) : exF Try.prog a7 Try.f7 [(.int .i64 die0), (.slice l1.a l1.l l1.c), (.slice none2.a none2.l none2.c)] w K = T7 die0 l1 none2 w K := by kernel_rfl
theorem b7 : hasB Try.prog 7 = true := by kernel_rfl
theorem f7 : fitsF Try.f7 3 = true := by kernel_rfl
theorem u7 {w : World} {K : Value → World → Prop} {die0 : Int} {l1 : Sl} {none2 : Sl} (h : T7 die0 l1 none2 w K) : Ok Try.prog 7 [(.int .i64 die0), (.slice l1.a l1.l l1.c), (.slice none2.a none2.l none2.c)] w K :=
  Ok_eq a7 3 mixed Try.func7 b7 f7 rfl (e7 die0 l1 none2 w K) h

end Go.Proofs.Ytppfnkedbpmliaa
