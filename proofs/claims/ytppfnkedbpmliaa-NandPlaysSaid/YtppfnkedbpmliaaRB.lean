/- Nothing is proved here but readings: what the loaded code of some functions reads as. Written by a program of this work (wip/gen). -/
import Derived.Test.YtppfnkedbpmliaaR0
set_option linter.unusedVariables false
namespace Go.Proofs.Ytppfnkedbpmliaa
open Go.Rk
/-! 22: ramekinlaw6.known -/
def a22 : Ann := { reg := [(2, [(0, (.one .b))])], cnd := [], lop := [], blk := [], prm := [] }
def T22  (w : World) (K : Value → World → Prop) : Prop :=
 al w (.cells #[(.int .u8 1)] 5) fun p1 w2 =>
 al w2 (.cells #[(.int .u8 2)] 5) fun p3 w4 =>
 Ok Try.prog 75 [(.slice (some p1) 1 1), (.slice (some p3) 1 1)] w4 fun v5 w6 =>
 decS v5 fun s7 =>
 joinT (D := Bool × Unit) (fun k8 =>
 cond (((s7.l : Nat) : Int) == 2)
 (ix s7.a s7.l 0 fun q11 =>
 rdI .i64 w6 q11 fun n12 =>
 cond (n12 == 0)
 (ix s7.a s7.l 1 fun q13 =>
 rdI .i64 w6 (q13.add 1) fun n14 =>
 k8 ((n14 == 1), ()) w6)
 (k8 (false, ()) w6))
 (k8 (false, ()) w6))
 fun d9 w10 => ∀ _ : Regs,
 K (.bool d9.1) w10
theorem e22  (w : World) (K : Value → World → Prop) : exF Try.prog a22 Try.f22 [] w K = T22  w K := by kernel_rfl
theorem b22 : hasB Try.prog 22 = true := by kernel_rfl
theorem f22 : fitsF Try.f22 0 = true := by kernel_rfl
theorem u22 {w : World} {K : Value → World → Prop}  (h : T22  w K) : Ok Try.prog 22 [] w K :=
  Ok_eq a22 0 mixed Try.func22 b22 f22 rfl (e22  w K) h

/-! 23: ramekinlaw6.within -/
def a23 : Ann := { reg := [], cnd := [(10, [(5, (.one (.i .i64)))])], lop := [], blk := [], prm := [] }
def T23 (at0 : Int) (n1 : Int) (w : World) (K : Value → World → Prop) : Prop :=
 (n1 ≠ 0) ∧
 joinT (D := Int × Unit) (fun k1 =>
 cond (decide ((Int.tmod at0 n1) < 0))
 (k1 ((IntKind.wrap .i64 ((Int.tmod at0 n1) + n1)), ()) w)
 (k1 ((Int.tmod at0 n1), ()) w))
 fun d2 w3 => ∀ _ : Regs,
 K (.int .i64 d2.1) w3
theorem e23 (at0 : Int) (n1 : Int) (w : World) (K : Value → World → Prop) : exF Try.prog a23 Try.f23 [(.int .i64 at0), (.int .i64 n1)] w K = T23 at0 n1 w K := by kernel_rfl
theorem b23 : hasB Try.prog 23 = true := by kernel_rfl
theorem f23 : fitsF Try.f23 2 = true := by kernel_rfl
theorem u23 {w : World} {K : Value → World → Prop} {at0 : Int} {n1 : Int} (h : T23 at0 n1 w K) : Ok Try.prog 23 [(.int .i64 at0), (.int .i64 n1)] w K :=
  Ok_eq a23 2 mixed Try.func23 b23 f23 rfl (e23 at0 n1 w K) h

/-! 24: bits.Flip -/
def a24 : Ann := { reg := [(5, [(24, (.one .b))])], cnd := [(24, [])], lop := [(3, [(12, (.one (.i .i64)))])], blk := [(0, [])], prm := [] }
def T24 (b0 : Sl) (l1 : Sl) (w : World) (K : Value → World → Prop) : Prop :=
 Ok Try.prog 76 [(.slice b0.a b0.l b0.c)] w fun v1 w2 =>
 decS v1 fun s3 =>
 joinT (D := Unit) (fun k4 =>
 loopT (D := Int × Unit) (fun d7 w8 k9 => ∀ _ : Regs,
 cond (decide (d7.1 < ((l1.l : Nat) : Int)))
 (ix l1.a l1.l d7.1 fun q10 =>
 rdI .i64 w8 (q10.add (d7.1.toNat * 1)) fun n11 =>
 joinT (D := Bool × Unit) (fun k12 =>
 cond (decide (n11 ≥ 0))
 (k12 ((decide (n11 < (IntKind.wrap .i64 ((8 : Int) * ((s3.l : Nat) : Int))))), ()) w8)
 (k12 (false, ()) w8))
 fun d13 w14 => ∀ _ : Regs,
 joinT (D := Unit) (fun k15 =>
 cond d13.1
 (((8 : Int) ≠ 0) ∧
 ix s3.a s3.l (IntKind.wrap .i64 (Int.tdiv n11 8)) fun q18 =>
 rdI .u8 w14.drew (q18.add ((IntKind.wrap .i64 (Int.tdiv n11 8)).toNat * 1)) fun n19 =>
 ((8 : Int) ≠ 0) ∧
 (0 : Int) ≤ (Int.tmod n11 8) ∧
 ix s3.a s3.l (IntKind.wrap .i64 (Int.tdiv n11 8)) fun q20 =>
 wr w14.drew (q20.add ((IntKind.wrap .i64 (Int.tdiv n11 8)).toNat * 1)) (.int .u8 (bitI .xor .u8 n19 (IntKind.wrap .u8 ((1 : Int) * 2 ^ min (Int.toNat (Int.tmod n11 8)) (IntKind.bits .u8))))) fun w21 =>
 k15 () w21)
 (k15 () w14))
 fun d16 w17 => ∀ _ : Regs,
 k9 ((IntKind.wrap .i64 (d7.1 + 1)), ()) w17)
 (k4 () w8))
 (0, ()) w2)
 fun d5 w6 => ∀ _ : Regs,
 Ok Try.prog 76 [(.slice s3.a s3.l s3.c)] w6 fun v22 w23 =>
 decS v22 fun s24 =>
 K (.slice s24.a s24.l s24.c) w23
theorem e24 (b0 : Sl) (l1 : Sl) (w : World) (K : Value → World → Prop) : exF Try.prog a24 Try.f24 [(.slice b0.a b0.l b0.c), (.slice l1.a l1.l l1.c)] w K = T24 b0 l1 w K := by kernel_rfl
theorem b24 : hasB Try.prog 24 = true := by kernel_rfl
theorem f24 : fitsF Try.f24 2 = true := by kernel_rfl
theorem u24 {w : World} {K : Value → World → Prop} {b0 : Sl} {l1 : Sl} (h : T24 b0 l1 w K) : Ok Try.prog 24 [(.slice b0.a b0.l b0.c), (.slice l1.a l1.l l1.c)] w K :=
  Ok_eq a24 2 mixed Try.func24 b24 f24 rfl (e24 b0 l1 w K) h

/-! 75: bits.Apart -/
def a75 : Ann := { reg := [], cnd := [], lop := [(5, [(17, (.one (.i .i64)))])], blk := [(0, [])], prm := [] }
def T75 (a0 : Sl) (b1 : Sl) (w : World) (K : Value → World → Prop) : Prop :=
 cond (((a0.l : Nat) : Int) != ((b1.l : Nat) : Int))
 (K (.slice none 0 0) w)
 (Ok Try.prog 76 [(.slice a0.a a0.l a0.c)] w fun v1 w2 =>
 decS v1 fun s3 =>
 joinT (D := Unit) (fun k4 =>
 loopT (D := Int × Unit) (fun d7 w8 k9 => ∀ _ : Regs,
 cond (decide (d7.1 < ((b1.l : Nat) : Int)))
 (ix b1.a b1.l d7.1 fun q10 =>
 rdI .u8 w8 (q10.add (d7.1.toNat * 1)) fun n11 =>
 ix s3.a s3.l d7.1 fun q12 =>
 rdI .u8 w8 (q12.add (d7.1.toNat * 1)) fun n13 =>
 ix s3.a s3.l d7.1 fun q14 =>
 wr w8 (q14.add (d7.1.toNat * 1)) (.int .u8 (bitI .xor .u8 n13 n11)) fun w15 =>
 k9 ((IntKind.wrap .i64 (d7.1 + 1)), ()) w15)
 (k4 () w8))
 (0, ()) w2)
 fun d5 w6 => ∀ _ : Regs,
 Ok Try.prog 118 [(.slice s3.a s3.l s3.c)] w6 fun v16 w17 =>
 Ok Try.prog 117 [v16] w17 fun v18 w19 =>
 decS v18 fun s20 =>
 K (.slice s20.a s20.l s20.c) w19)
theorem e75 (a0 : Sl) (b1 : Sl) (w : World) (K : Value → World → Prop) : exF Try.prog a75 Try.f75 [(.slice a0.a a0.l a0.c), (.slice b1.a b1.l b1.c)] w K = T75 a0 b1 w K := by kernel_rfl
theorem b75 : hasB Try.prog 75 = true := by kernel_rfl
theorem f75 : fitsF Try.f75 2 = true := by kernel_rfl
theorem u75 {w : World} {K : Value → World → Prop} {a0 : Sl} {b1 : Sl} (h : T75 a0 b1 w K) : Ok Try.prog 75 [(.slice a0.a a0.l a0.c), (.slice b1.a b1.l b1.c)] w K :=
  Ok_eq a75 2 mixed Try.func75 b75 f75 rfl (e75 a0 b1 w K) h

/-! 76: slices.Clone[[]byte,byte] -/
def a76 : Ann := { reg := [], cnd := [], lop := [], blk := [], prm := [] }
def T76 (s0 : Sl) (w : World) (K : Value → World → Prop) : Prop :=
 cond (Option.isNone s0.a)
 (K (.slice none 0 0) w)
 (al w (.cells #[] 5) fun p1 w2 =>
 raw Try.prog (Builtin.append_ #[22, 22] 22 #[(.slice (some p1) 0 0), (.slice s0.a s0.l s0.c)]) w2 fun v3 w4 =>
 decS v3 fun s5 =>
 K (.slice s5.a s5.l s5.c) w4)
theorem e76 (s0 : Sl) (w : World) (K : Value → World → Prop) : exF Try.prog a76 Try.f76 [(.slice s0.a s0.l s0.c)] w K = T76 s0 w K := by kernel_rfl
theorem b76 : hasB Try.prog 76 = true := by kernel_rfl
theorem f76 : fitsF Try.f76 1 = true := by kernel_rfl
theorem u76 {w : World} {K : Value → World → Prop} {s0 : Sl} (h : T76 s0 w K) : Ok Try.prog 76 [(.slice s0.a s0.l s0.c)] w K :=
  Ok_eq a76 1 mixed Try.func76 b76 f76 rfl (e76 s0 w K) h

/-! 117: slices.Collect[int] -/
def a117 : Ann := { reg := [], cnd := [], lop := [], blk := [], prm := [] }
def T117 (seq0 : Nat) (seq0c : Array Value) (w : World) (K : Value → World → Prop) : Prop :=
 Ok Try.prog 142 [(.slice none 0 0), (.func (.func seq0) #[] seq0c)] w fun v1 w2 =>
 decS v1 fun s3 =>
 K (.slice s3.a s3.l s3.c) w2
theorem e117 (seq0 : Nat) (seq0c : Array Value) (w : World) (K : Value → World → Prop) : exF Try.prog a117 Try.f117 [(.func (.func seq0) #[] seq0c)] w K = T117 seq0 seq0c w K := by kernel_rfl
theorem b117 : hasB Try.prog 117 = true := by kernel_rfl
theorem f117 : fitsF Try.f117 1 = true := by kernel_rfl
theorem u117 {w : World} {K : Value → World → Prop} {seq0 : Nat} {seq0c : Array Value} (h : T117 seq0 seq0c w K) : Ok Try.prog 117 [(.func (.func seq0) #[] seq0c)] w K :=
  Ok_eq a117 1 mixed Try.func117 b117 f117 rfl (e117 seq0 seq0c w K) h

/-! 118: bits.ones -/
def a118 : Ann := { reg := [], cnd := [], lop := [], blk := [], prm := [] }
def T118 (b0 : Sl) (w : World) (K : Value → World → Prop) : Prop :=
 al w (.cells #[(.slice b0.a b0.l b0.c)] 22) fun p1 w2 =>
 K (.func (.func 143) #[] #[(.pointer (some p1))]) w2
theorem e118 (b0 : Sl) (w : World) (K : Value → World → Prop) : exF Try.prog a118 Try.f118 [(.slice b0.a b0.l b0.c)] w K = T118 b0 w K := by kernel_rfl
theorem b118 : hasB Try.prog 118 = true := by kernel_rfl
theorem f118 : fitsF Try.f118 1 = true := by kernel_rfl
theorem u118 {w : World} {K : Value → World → Prop} {b0 : Sl} (h : T118 b0 w K) : Ok Try.prog 118 [(.slice b0.a b0.l b0.c)] w K :=
  Ok_eq a118 1 mixed Try.func118 b118 f118 rfl (e118 b0 w K) h

/-! 142: slices.AppendSeq[[]int,int] -/
def a142 : Ann := { reg := [], cnd := [], lop := [], blk := [], prm := [(7, (.one (.i .i64)))] }
def T142 (s0 : Sl) (seq1 : Nat) (seq1c : Array Value) (w : World) (K : Value → World → Prop) : Prop :=
 al w (.cells #[(.slice s0.a s0.l s0.c)] 23) fun p1 w2 =>
 rangeX Try.prog none (.func (.func seq1) #[] seq1c) w2 (fun l3 rdy4 bz5 args6 w7 k8 =>
 headL args6 fun x9 args10 =>
 decI .i64 x9 fun n11 =>
 nilL args10 (
 w7.heap[l3]? = some rdy4 ∧
 rdS (w7.putObj l3 bz5) p1 fun s12 =>
 al (w7.putObj l3 bz5) (.cells #[(.int .i64 n11)] 3) fun p13 w14 =>
 raw Try.prog (Builtin.append_ #[23, 23] 23 #[(.slice s12.a s12.l s12.c), (.slice (some p13) 1 1)]) w14 fun v15 w16 =>
 decS v15 fun s17 =>
 wr w16 p1 (.slice s17.a s17.l s17.c) fun w18 =>
 k8 .normal w18))
 (fun D19 w20 =>
 rdS w20 p1 fun s21 =>
 leaveD (D19 :: []) w20 fun w22 =>
 K (.slice s21.a s21.l s21.c) w22)
 (fun _ _ => False)
 []
theorem e142 (s0 : Sl) (seq1 : Nat) (seq1c : Array Value) (w : World) (K : Value → World → Prop) : exF Try.prog a142 Try.f142 [(.slice s0.a s0.l s0.c), (.func (.func seq1) #[] seq1c)] w K = T142 s0 seq1 seq1c w K := by kernel_rfl
theorem b142 : hasB Try.prog 142 = true := by kernel_rfl
theorem f142 : fitsF Try.f142 2 = true := by kernel_rfl
theorem u142 {w : World} {K : Value → World → Prop} {s0 : Sl} {seq1 : Nat} {seq1c : Array Value} (h : T142 s0 seq1 seq1c w K) : Ok Try.prog 142 [(.slice s0.a s0.l s0.c), (.func (.func seq1) #[] seq1c)] w K :=
  Ok_eq a142 2 mixed Try.func142 b142 f142 rfl (e142 s0 seq1 seq1c w K) h

/-! 143: bits.ones$1 -/
def a143 : Ann := { reg := [(6, [(29, (.one .b))])], cnd := [], lop := [(4, [(13, (.one (.i .i64)))]), (1, [(8, (.one (.i .i64)))])], blk := [(0, []), (2, [])], prm := [] }
def T143 (yield0 : Nat) (c1 : Addr) (w : World) (K : Value → World → Prop) : Prop :=
 rdS w c1 fun s1 =>
 joinT (D := Unit) (fun k2 =>
 loopT (D := Int × Unit) (fun d5 w6 k7 => ∀ _ : Regs,
 cond (decide (d5.1 < ((s1.l : Nat) : Int)))
 (ix s1.a s1.l d5.1 fun q8 =>
 rdI .u8 w6 (q8.add (d5.1.toNat * 1)) fun n9 =>
 joinT (D := Unit) (fun k10 =>
 loopT (D := Int × Unit) (fun d13 w14 k15 => ∀ _ : Regs,
 cond (decide (d13.1 < 8))
 (joinT (D := Bool × Unit) (fun k16 =>
 (0 : Int) ≤ d13.1 ∧
 cond ((bitI .and .u8 (Int.fdiv n9 (2 ^ min (Int.toNat d13.1) (IntKind.bits .u8))) 1) == 1)
 (OkY Try.prog yield0 [(.int .i64 (IntKind.wrap .i64 ((IntKind.wrap .i64 ((8 : Int) * d5.1)) + d13.1)))] w14 fun v19 w20 =>
 decB v19 fun b21 =>
 k16 ((!b21), ()) w20)
 (k16 (false, ()) w14))
 fun d17 w18 => ∀ _ : Regs,
 cond d17.1
 (K (.tuple #[]) w18)
 (k15 ((IntKind.wrap .i64 (d13.1 + 1)), ()) w18))
 (k10 () w14))
 (0, ()) w6)
 fun d11 w12 => ∀ _ : Regs,
 k7 ((IntKind.wrap .i64 (d5.1 + 1)), ()) w12)
 (k2 () w6))
 (0, ()) w)
 fun d3 w4 => ∀ _ : Regs,
 K (.tuple #[]) w4
theorem e143 (yield0 : Nat) (c1 : Addr) (w : World) (K : Value → World → Prop) : exF Try.prog a143 Try.f143 [(.func (.yield yield0) #[] #[]), (.pointer (some c1))] w K = T143 yield0 c1 w K := by kernel_rfl
theorem b143 : hasB Try.prog 143 = true := by kernel_rfl
theorem f143 : fitsF Try.f143 2 = true := by kernel_rfl
theorem u143 {w : World} {K : Value → World → Prop} {yield0 : Nat} {c1 : Addr} (h : T143 yield0 c1 w K) : Ok Try.prog 143 [(.func (.yield yield0) #[] #[]), (.pointer (some c1))] w K :=
  Ok_eq a143 2 mixed Try.func143 b143 f143 rfl (e143 yield0 c1 w K) h

end Go.Proofs.Ytppfnkedbpmliaa
