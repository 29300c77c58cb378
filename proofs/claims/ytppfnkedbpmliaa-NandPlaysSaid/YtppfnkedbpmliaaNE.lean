/- What the program's own flash computes in its calls: a blank page, Mix, Geometry, Stop, Noise, Read, Program. -/
import Derived.Test.YtppfnkedbpmliaaNC
import Derived.Laws.CopyRow
set_option linter.unusedVariables false
set_option linter.unusedSimpArgs false
namespace Go.Proofs.Ytppfnkedbpmliaa
open Go Go.Rk
open Go.RowKit (Below)

/-- copy into a block of the call's own. -/
theorem raw_copy {P : Program} {dT sT ty elem : TypeId} (hu : P.underlying dT = some (.slice elem)) (hs : (P.info? elem).map (·.size) = some 1) {w : World} {g o dl dc sl sc : Nat} {e : TypeId} {a : Addr} {cells cs : List Value} {K : Value → World → Prop}
    (hb : Blk w g e cells) (hn : cs.length = min sl dl) (hsrc : ∀ j v, cs[j]? = some v → w.cell? (a.add j) = some v) (hfit : o + cs.length ≤ cells.length) (h1 : ∀ v ∈ cs, v.oneCell' = true)
    (k : ∀ W, Blk W g e (cells.take o ++ cs ++ cells.drop (o + cs.length)) → Chg (· = g) w W → K (.int .i64 (cs.length : Int)) W) :
    raw P (Builtin.copy_ #[dT, sT] ty #[.slice (some ⟨g, o, none⟩) dl dc, .slice (some a) sl sc]) w K := by
  refine ⟨_, _, run_copy_row (P := P) w dT sT ty elem g o dl dc a sl sc cells.toArray e cs hu hs hb hn hsrc (by simpa using hfit) h1, ?_⟩
  refine k _ ?_ ?_
  · exact setRow_heap w g _ _ e _ hb
  · refine ⟨rfl, rfl, rfl, by simp [World.setRow], fun x hx hne => ?_⟩
    simp only [World.setRow, Array.getElem?_modify]
    rw [if_neg (fun e => hne e.symm)]

/-- An element of the call's own is written. -/
theorem _root_.Go.Rk.Mine.wrE {α : Type} {enc : α → Value} {e : TypeId} {base : Nat} {w : World} {s : Sl} {xs : List α} (h : Mine enc e base w s xs) {i : Nat} (hi : i < xs.length) (x : α) {K : World → Prop}
    (k : ∀ W, Mine enc e base W s (xs.set i x) → Chg (fun b => base ≤ b) w W → K W) : ix s.a s.l (i : Int) fun q => wr w (q.add ((i : Int).toNat * 1)) (enc x) K := by
  refine h.row.ix hi fun b hb hc => ?_
  obtain ⟨p1, p2, p3, p4, p5⟩ := h.put hi x hb
  have hlt := h.lt hb
  exact ⟨p1, p2, k _ p3 (Chg.of_grown p5 fun k hk => by cases hk; exact hlt.1)⟩
theorem u22' : Try.prog.underlying 22 = some (.slice 5) := by kernel_rfl
theorem s5 : (Try.prog.info? 5).map (·.size) = some 1 := by kernel_rfl
theorem mul64_ok {w : World} : Ok Try.prog 144 [.int .u64 1, .int .u64 60] w fun v w' => v = .tuple #[.int .u64 0, .int .u64 60] ∧ w' = w := by
  apply u144
  unfold T144
  apply u163
  unfold T163
  refine ⟨by decide, by decide, by decide, by decide, by decide, ?_⟩
  have e1 : IntKind.wrap .u64 ((1 : Int) * 60) = 60 := by decide +kernel
  simp only [dec2, decI_int, e1]
  refine ⟨?_, by trivial⟩
  congr 3
theorem repeat_ok {w : World} {a : Addr} (hc : w.cell? a = some (.int .u8 255)) : Ok Try.prog 121 [.slice (some a) 1 1, .int .i64 60] w fun v w' => ∃ s : Sl, v = s.v ∧ Kept w w' ∧ Mine eB 5 w.heap.size w' s blankL := by
  apply u121 (x0 := ⟨some a, 1, 1⟩)
  unfold T121
  refine joinT_thru (cond_f (by decide) ?_)
  intro _
  have e1 : IntKind.wrap .u64 (((1 : Nat) : Int)) = 1 := by decide
  have e2 : IntKind.wrap .u64 60 = 60 := by decide
  simp only [e1, e2]
  refine mul64_ok.mono ?_
  rintro v w1 ⟨rfl, rfl⟩
  have e3 : IntKind.wrap .i64 60 = 60 := by decide
  simp only [dec2, decI_int, e3]
  refine joinT_thru (cond_f (by decide) ?_)
  intro _
  refine joinT_thru (cond_f (by decide) ?_)
  intro _
  refine ⟨by decide, by decide, by decide, by decide, ?_⟩
  simp only [show Int.toNat 60 = 60 from rfl, zeroRow_one]
  refine alW (cs := List.replicate 60 (.int .u8 0)) fun W hb k hlt => ?_
  refine raw_copy (cs := [.int .u8 255]) u22' s5 hb rfl (fun j v hj => ?_) (by simp) (by simp [Value.oneCell']) fun W1 hb1 c1 => ?_
  · cases j with
    | zero => simp at hj; subst hj; exact cell_kept hc k
    | succ j => simp at hj
  have k1 : Kept w1 W1 := k.then c1 fun x hx => by omega
  simp only [decI_int, List.length_singleton]
  refine joinT_of (fun _ W' => Kept w1 W' ∧ Blk W' w1.heap.size 5 (List.replicate 60 (.int .u8 255))) ?_ ?_
  · refine loopT_of (fun d W' => ∃ m : Nat, d = ((m : Int), ()) ∧ 1 ≤ m ∧ m ≤ 60 ∧ Kept w1 W' ∧ Blk W' w1.heap.size 5 (List.replicate m (.int .u8 255) ++ List.replicate (60 - m) (.int .u8 0))) (fun d _ => 60 - d.1.toNat) ⟨1, rfl, by omega, by omega, k1, by simpa using hb1⟩ ?_
    rintro d W2 ⟨m, rfl, h1, h2, k2, hb2⟩ _
    refine cond_of (fun hc => ?_) fun hc => ?_
    · simp at hc
      refine ⟨by omega, by omega, by omega, by omega, ?_⟩
      have hne : ¬ 60 = m := by omega
      simp only [sub, Int.toNat_natCast, Nat.mul_one, hne, if_false, Option.map_some, Nat.sub_zero, addN, Nat.zero_add, Nat.zero_mul, show ¬ 60 = 0 by omega]
      refine raw_copy (cs := List.replicate (min m (60 - m)) (.int .u8 255)) u22' s5 (hb2.kept (kept_drew W2)) (by simp) (fun j v hj => ?_) (by simp; omega) (fun v hv => by simp at hv; rw [hv.2]; rfl) fun W3 hb3 c3 => ?_
      · obtain ⟨hj1, hj2⟩ := List.getElem?_eq_some_iff.1 hj
        simp at hj1 hj2
        subst hj2
        rw [addN]
        refine (hb2.kept (kept_drew W2)).at _ ?_
        have hjm : j < m := by omega
        rw [List.getElem?_append_left (by simpa using hjm)]
        simp [hjm]
      simp only [decI_int, List.length_replicate]
      rw [w64 (by omega) (by omega)]
      refine ⟨⟨m + min m (60 - m), rfl, by omega, by omega, (k2.trans (kept_drew W2)).then c3 fun x hx => by omega, ?_⟩, by omega⟩
      have e : (List.replicate m (Value.int .u8 255) ++ List.replicate (60 - m) (Value.int .u8 0)).take m ++ List.replicate (min m (60 - m)) (Value.int .u8 255) ++ (List.replicate m (Value.int .u8 255) ++ List.replicate (60 - m) (Value.int .u8 0)).drop (m + (List.replicate (min m (60 - m)) (Value.int .u8 255)).length) =
          List.replicate (m + min m (60 - m)) (Value.int .u8 255) ++ List.replicate (60 - (m + min m (60 - m))) (Value.int .u8 0) := by
        rw [List.take_left' (by simp), List.length_replicate, List.drop_append, List.length_replicate, List.drop_eq_nil_of_le (by simp), List.nil_append, List.drop_replicate, List.replicate_append_replicate]
        congr 2
        omega
      rw [e] at hb3
      exact hb3
    · simp at hc
      have : m = 60 := by omega
      subst this
      exact ⟨k2, by simpa using hb2⟩
  · rintro _ W2 ⟨k2, hb2⟩ _
    refine ⟨⟨some ⟨w1.heap.size, 0, none⟩, 60, 60⟩, rfl, k2, ?_⟩
    have e : List.replicate 60 (Value.int .u8 255) = blankL.map eB := by simp [blankL, eB]
    rw [e] at hb2
    exact hb2.mine (Nat.le_refl _) (by decide)
theorem blank_ok {w : World} : Ok Try.prog 87 [] w fun v w' => ∃ s : Sl, v = s.v ∧ Kept w w' ∧ Mine eB 5 w.heap.size w' s blankL := by
  apply u87
  unfold T87
  refine alW (cs := [.int .u8 255]) fun W hb k hlt => ?_
  refine (repeat_ok (hb.at 0 rfl)).mono ?_
  rintro v w1 ⟨s, rfl, k1, m⟩
  simp only [decS_sl]
  exact ⟨s, rfl, k.trans k1, m.mono (by omega)⟩
theorem tmod_nat (i n : Nat) : Int.tmod (i : Int) (n : Int) = ((i % n : Nat) : Int) := by simp [Int.tmod]
theorem mix_bit (x y m : BitVec 8) : bitI .or .u8 (bitI .andNot .u8 (x.toNat : Int) (m.toNat : Int)) (bitI .and .u8 (y.toNat : Int) (m.toNat : Int)) = ((mixB x y m).toNat : Int) := by
  have h2 : ∀ z : BitVec 8, BitVec.ofInt 8 (z.toNat : Int) = z := fun z => by simp
  have h3 : ∀ z : BitVec 8, IntKind.wrap .u8 (z.toNat : Int) = (z.toNat : Int) := fun z => wu8 (by omega) (by have := z.isLt; omega)
  have a1 : bitI .andNot .u8 (x.toNat : Int) (m.toNat : Int) = ((x &&& ~~~m).toNat : Int) := by
    show IntKind.wrap .u8 (((BitVec.ofInt 8 (x.toNat : Int) &&& ~~~BitVec.ofInt 8 (m.toNat : Int)).toNat : Int)) = _
    rw [h2, h2, h3]
  have a2 : bitI .and .u8 (y.toNat : Int) (m.toNat : Int) = ((y &&& m).toNat : Int) := by
    show IntKind.wrap .u8 (((BitVec.ofInt 8 (y.toNat : Int) &&& BitVec.ofInt 8 (m.toNat : Int)).toNat : Int)) = _
    rw [h2, h2, h3]
  rw [a1, a2]
  show IntKind.wrap .u8 (((BitVec.ofInt 8 ((x &&& ~~~m).toNat : Int) ||| BitVec.ofInt 8 ((y &&& m).toNat : Int)).toNat : Int)) = _
  rw [h2, h2, h3]
  rfl
theorem mixL_get {a b m : List Byt} (h : a.length = b.length) (hm : m.length ≠ 0) {i : Nat} (hi : i < a.length) : (mixL a b m)[i]'(by rw [mixL_len h]; exact hi) = mixB a[i] (b[i]'(by omega)) (m.getD (i % m.length) 0#8) := by
  have hb : i < b.length := by omega
  simp only [mixL, h, if_true, hm, if_false, List.getElem_mapIdx]
  simp [List.getD, List.getElem?_eq_getElem hb]
/-- bits.Mix. -/
theorem mix_ok {w : World} {a b m : Sl} {xs ys ms : List Byt} (ha : Row eB w a xs) (hb : Row eB w b ys) (hm : Row eB w m ms) (hl : xs.length ≤ 100000000) (hml : ms.length ≤ 1000000000) :
    Ok Try.prog 96 [a.v, b.v, m.v] w fun v w' => ∃ s : Sl, v = s.v ∧ Kept w w' ∧ Mine eB 5 w.heap.size w' s (mixL xs ys ms) := by
  have hal := ha.len
  have hbl := hb.len
  have hmll := hm.len
  apply u96
  unfold T96
  refine cond_of (fun hc => ?_) fun hc => ?_
  · simp [hal, hbl] at hc
    refine ⟨⟨none, 0, 0⟩, rfl, kept_refl _, ?_⟩
    have : mixL xs ys ms = [] := by unfold mixL; rw [if_neg (by omega)]
    rw [this]
    exact Mine.nil
  simp [hal, hbl] at hc
  replace hc : xs.length = ys.length := by omega
  refine (clone_ok ha (by omega)).mono ?_
  rintro v w1 ⟨s, rfl, k1, m1, _⟩
  simp only [decS_sl]
  have hsl := m1.len
  refine joinT_of (fun _ W => Kept w W ∧ Mine eB 5 w.heap.size W s (mixL xs ys ms)) ?_ ?_
  · by_cases h0 : ms.length = 0
    · have hx : mixL xs ys ms = xs := by unfold mixL; rw [if_pos (by omega), if_pos h0]
      rw [hx]
      refine loopT_of (fun d W => ∃ i : Nat, d = ((i : Int), ()) ∧ i ≤ xs.length ∧ W = w1) (fun d _ => xs.length - d.1.toNat) ⟨0, rfl, by omega, rfl⟩ ?_
      rintro d W ⟨i, rfl, hi, rfl⟩ _
      refine cond_of (fun hc2 => ?_) fun hc2 => ?_
      · simp [hsl] at hc2
        refine joinT_thru (cond_f (by simp [hmll, h0]) ?_)
        intro _
        rw [int_next (by omega)]
        exact ⟨⟨i + 1, rfl, by omega, rfl⟩, by simp; omega⟩
      · exact ⟨k1, m1⟩
    · refine loopT_of (fun d W => ∃ (i : Nat), d = ((i : Int), ()) ∧ i ≤ xs.length ∧ Kept w W ∧ Mine eB 5 w.heap.size W s ((mixL xs ys ms).take i ++ xs.drop i)) (fun d _ => xs.length - d.1.toNat) ⟨0, rfl, by omega, k1, by simpa using m1⟩ ?_
      rintro d W ⟨i, rfl, hi, k2, m2⟩ _
      refine cond_of (fun hc2 => ?_) fun hc2 => ?_
      · simp [hsl] at hc2
        have hsl2 := m2.len
        refine joinT_of (fun _ W => Kept w W ∧ Mine eB 5 w.heap.size W s ((mixL xs ys ms).take (i + 1) ++ xs.drop (i + 1))) ?_ ?_
        · refine cond_t (by simp [hmll]; omega) ⟨by omega, ?_⟩
          rw [hmll, tmod_nat]
          have him : i % ms.length < ms.length := Nat.mod_lt _ (by omega)
          refine (hm.kept k2).ixn him fun q hq c1 => rdI_of c1 ?_
          have kd := k2.trans (kept_drew W)
          refine (ha.kept kd).ix hc2 fun q2 hq2 c2 => rdI_of c2 ?_
          refine (hb.kept kd).ix (show i < ys.length by omega) fun q3 hq3 c3 => rdI_of c3 ?_
          rw [mix_bit]
          have hlen : ((mixL xs ys ms).take i ++ xs.drop i).length = xs.length := by
            rw [List.length_append, List.length_take, mixL_len hc, List.length_drop]; omega
          have hi2 : i < ((mixL xs ys ms).take i ++ xs.drop i).length := by omega
          refine (m2.kept (kept_drew W)).wrE hi2 (mixB xs[i] ys[i] ms[i % ms.length]) fun W4 m4 c4 => ⟨kd.then c4 fun x hx => by omega, ?_⟩
          have e : ((mixL xs ys ms).take i ++ xs.drop i).set i (mixB xs[i] ys[i] ms[i % ms.length]) = (mixL xs ys ms).take (i + 1) ++ xs.drop (i + 1) := by
            rw [List.set_append_right _ _ (by rw [List.length_take]; omega)]
            have hli : (List.take i (mixL xs ys ms)).length = i := by rw [List.length_take, mixL_len hc]; omega
            rw [hli, Nat.sub_self, List.drop_eq_getElem_cons hc2, List.set_cons_zero]
            have hmi : i < (mixL xs ys ms).length := by rw [mixL_len hc]; exact hc2
            rw [← List.take_append_getElem hmi, List.append_assoc, List.singleton_append]
            congr 2
            rw [mixL_get hc h0 hc2]
            simp [List.getD, List.getElem?_eq_getElem him]
          rw [e] at m4
          exact m4
        · rintro _ W3 ⟨k3, m3⟩ _
          rw [int_next (by omega)]
          exact ⟨⟨i + 1, rfl, by omega, k3, m3⟩, by simp; omega⟩
      · simp [hsl] at hc2
        have : i = xs.length := by omega
        subst this
        rw [List.drop_length, List.append_nil, List.take_of_length_le (by rw [mixL_len hc]; exact Nat.le_refl _)] at m2
        exact ⟨k2, m2⟩
  · rintro _ W ⟨k2, m2⟩ _
    refine (clone_ok m2.row (by rw [mixL_len hc]; omega)).mono ?_
    rintro v w3 ⟨s3, rfl, k3, m3, _⟩
    simp only [decS_sl]
    exact ⟨s3, rfl, k2.trans k3, m3.mono k2.size⟩

theorem geo_same (g : Geo) : (g.1, g.2.1, g.2.2.1, ()) = g := rfl
section
variable {base : Nat} {w w' : World} {L : NLay} {st : Nd}
theorem NRest.die_ne {w : World} {cap : Nat} {mk : Sl} (hr : NRest base w L cap mk st) {cs : List Value} (hb : Blk w L.pn 111 cs) {d : Nat} (hd : d < st.g.1.toNat) : L.pn ≠ L.ps d := hb.ne (hr.ss d hd) (by decide)
theorem NRest.dat_ne {w : World} {cap : Nat} {mk : Sl} (hr : NRest base w L cap mk st) {cs : List Value} (hb : Blk w L.pn 111 cs) : L.pn ≠ L.pd := by
  obtain ⟨ds, d1, _⟩ := hr.dd
  exact hb.ne d1 (by decide)
theorem NRest.noi_ne {w : World} {cap : Nat} {mk : Sl} (hr : NRest base w L cap mk st) {cs : List Value} (hb : Blk w L.pn 111 cs) : L.pn ≠ L.pz := by
  obtain ⟨ds, d1, _⟩ := hr.zz
  exact hb.ne d1 (by decide)
theorem NandAt.mut_die (h : NandAt base w L st) {d : Nat} (hd : d < st.g.1.toNat) : L.mut (L.ps d) := by
  obtain ⟨cap, mk, hb, hr⟩ := h.at_
  exact .inr (.inr (.inr ⟨d, by rw [hr.n]; exact hd, rfl⟩))
/-- (*Nand).Geometry -/
theorem geometry_ok (h : NandAt base w L st) : Ok Try.prog 103 [pv L.pn] w fun v w' => v = gv st.g ∧ Kept w w' := by
  obtain ⟨cap, mk, hb, hr⟩ := h.at_
  apply u103
  unfold T103
  refine alW (cs := [.int .i64 0, .int .i64 0, .int .i64 0]) fun W hB k hlt => nn_of ?_
  replace hb := hb.kept k
  refine rdI_of (hb.at 0 rfl) (rdI_of (hb.ad 1 rfl) (rdI_of (hb.ad 2 rfl) ?_))
  refine wr0 hB (by simp) fun W1 hb1 c1 => wrW hb1 1 (by simp) fun W2 hb2 c2 => wrW hb2 2 (by simp) fun W3 hb3 c3 => ?_
  refine rdI_of (hb3.at 0 rfl) (rdI_of (hb3.ad 1 rfl) (rdI_of (hb3.ad 2 rfl) ⟨rfl, ?_⟩))
  exact k.then ((c1.trans c2).trans c3) fun x hx => by omega
/-- (*Nand).Stop -/
theorem stop_ok (h : NandAt base w L st) {k : Int} {m : Sl} {ms : List Byt} (hm : Row eB w m ms) (hl : ms.length ≤ 1000000000) (hbase : base ≤ w.heap.size) :
    Ok Try.prog 49 [pv L.pn, .int .i64 k, m.v] w fun v w' => NandAt base w' L (st.setStop k ms) ∧ Chg L.mut w w' := by
  apply u49
  unfold T49
  refine (clone_ok hm hl).mono ?_
  rintro v w1 ⟨s, rfl, k1, m1, _⟩
  simp only [decS_sl]
  obtain ⟨cap, mk, hb, hr⟩ := (h.kept k1).at_
  refine nn_of (wrW hb 12 (by simp [nandCells]) fun W1 hb1 c1 => nn_of (wrW hb1 13 (by simp [nandCells]) fun W2 hb2 c2 => ?_))
  have c := c1.trans c2
  have hr3 := hr.own hb c
  have hmm : Mine eB 5 base W2 s ms := (m1.mono hbase).chg c (hb.mine_ne m1 (by decide))
  have hk : (if 0 > k then 0 else k) = max k 0 := by split <;> omega
  rw [hk] at hb2
  refine ⟨⟨h.ok.setStop hl, cap, s, hb2, ?_⟩, (Kept.chg k1).trans (c.mono fun k _ hk => .inl hk)⟩
  obtain ⟨a1, a2, a3, a4, a5, a6, a7, a8⟩ := hr3
  exact ⟨a1, a2, a3, a4, a5, a6, a7, hmm⟩
/-- (*Nand).Noise -/
theorem noise_ok (h : NandAt base w L st) {d b p : Int} {l : Sl} {ns : List Int} (hm : Row eI w l ns) (hl : Few ns) (hbase : base ≤ w.heap.size) :
    Ok Try.prog 42 [pv L.pn, .int .i64 d, .int .i64 b, .int .i64 p, l.v] w fun v w' => v = .int .i64 (st.noiseE d b p) ∧ NandAt base w' L (st.setNoise d b p ns) ∧ Chg L.mut w w' := by
  apply u42
  unfold T42
  refine (page_ok h).mono ?_
  rintro v w1 ⟨rfl, rfl⟩
  simp only [decB_bool]
  refine cond_of (fun hc => ?_) fun hc => ?_
  · simp at hc
    exact ⟨by simp [Nd.noiseE, hc], by simpa [Nd.setNoise, hc] using h, Chg.refl _ _⟩
  simp at hc
  obtain ⟨ht, hp0, hp1⟩ := Nd.page_iff.1 hc
  obtain ⟨hd0, hd1, hb0, hb1⟩ := Nd.there_iff.1 ht
  obtain ⟨dn, rfl⟩ := nat_of hd0
  obtain ⟨bn, rfl⟩ := nat_of hb0
  obtain ⟨pn, rfl⟩ := nat_of hp0
  have hg := h.ok.bounds
  obtain ⟨cap, mk, hb, hr⟩ := h.at_
  refine nn_of (rdI_of (hb.ad 7 rfl) (rdI_of (hb.ad 8 rfl) (rdI_of (hb.ad 9 rfl) (rdS_of (s := ⟨some ⟨L.pz, 0, none⟩, pages st.g, pages st.g⟩) (hb.ad 10 rfl) ?_))))
  refine (atI_ok h.ok.geo (show dn < _ by omega) (show bn < _ by omega) (show pn < _ by omega)).mono ?_
  rintro v w2 ⟨rfl, k2⟩
  simp only [decP_ptr]
  refine (cloneI_ok (hm.kept k2) (by have := hl.1; omega)).mono ?_
  rintro v w3 ⟨s, rfl, k3, m3, _⟩
  simp only [decS_sl]
  have k23 := k2.trans k3
  replace hb := hb.kept k23
  replace hr := hr.kept k23
  refine nn_of (hr.wrNoise h.ok.geo (by omega) (by omega) (by omega) (m3.mono (Nat.le_trans hbase k2.size)) fun W hr' c => ?_)
  have hst : st.setNoise (dn : Int) (bn : Int) (pn : Int) ns = { st with noise := upd3 st.noise dn bn pn ns } := by simp [Nd.setNoise, hc]
  refine ⟨by simp [Nd.noiseE, hc], ⟨h.ok.setNoise hl, cap, mk, ?_, ?_⟩, (Kept.chg k23).trans (c.mono fun k _ hk => .inr (.inr (.inl hk)))⟩
  · rw [hst]
    exact hb.chg c (hr.noi_ne hb)
  · rw [hst]
    exact hr'
/-- A page's bytes, and its noise. -/
theorem NRest.dataCell {w : World} {cap : Nat} {mk : Sl} (hr : NRest base w L cap mk st) {d b p : Nat} (hd : d < st.g.1.toNat) (hb : b < st.g.2.1.toNat) (hp : p < st.g.2.2.1.toNat) :
    ∃ s : Sl, w.cell? ⟨L.pd, pix st.g d b p, none⟩ = some s.v ∧ Mine eB 5 base w s (st.data d b p) := by
  obtain ⟨ds, d1, d2⟩ := hr.dd
  exact ⟨_, Arr.cell d1 (pix_lt hd hb hp), d2 d b p hd hb hp⟩
theorem NRest.noiseCell {w : World} {cap : Nat} {mk : Sl} (hr : NRest base w L cap mk st) {d b p : Nat} (hd : d < st.g.1.toNat) (hb : b < st.g.2.1.toNat) (hp : p < st.g.2.2.1.toNat) :
    ∃ s : Sl, w.cell? ⟨L.pz, pix st.g d b p, none⟩ = some s.v ∧ Mine eI 3 base w s (st.noise d b p) := by
  obtain ⟨ds, d1, d2⟩ := hr.zz
  exact ⟨_, Arr.cell d1 (pix_lt hd hb hp), d2 d b p hd hb hp⟩
theorem ask_fields (st : Nd) (f : Bool) : (st.ask f).g = st.g ∧ (st.ask f).data = st.data ∧ (st.ask f).noise = st.noise ∧ (st.ask f).next = st.next ∧ (st.ask f).era = st.era ∧ (st.ask f).bad = st.bad ∧ (st.ask f).mask = st.mask ∧ (st.ask f).stop = st.stop ∧ (st.ask f).dead = st.dead := by
  unfold Nd.ask
  split <;> (try split) <;> simp
/-- (*Nand).Read -/
theorem read_ok (h : NandAt base w L st) {d b p : Int} (hbase : base ≤ w.heap.size) :
    Ok Try.prog 46 [pv L.pn, .int .i64 d, .int .i64 b, .int .i64 p] w fun v w' => ∃ s : Sl, v = .tuple #[s.v, .int .i64 (st.readE d b p)] ∧ Row eB w' s (st.readB d b p) ∧ (∀ a, s.a = some a → w.heap.size ≤ a.block) ∧ NandAt base w' L (st.readS d b p) ∧ Chg L.mut w w' := by
  apply u46
  unfold T46
  refine joinT_of (fun e W => e.1 = st.readE d b p ∧ NandAt base W L (st.readS d b p) ∧ Chg L.mut w W) ?_ ?_
  · refine (page_ok h).mono ?_
    rintro v w1 ⟨rfl, rfl⟩
    simp only [decB_bool]
    refine cond_of (fun hc => ?_) fun hc => ?_
    · refine (isBad_ok' h).mono ?_
      rintro v w2 ⟨rfl, rfl⟩
      simp only [decB_bool]
      refine (ask_ok h).mono ?_
      rintro v w3 ⟨rfl, h3, c3⟩
      simp only [decI_int]
      have : st.readFine d b p = !st.isBad d b := by simp [Nd.readFine, hc]
      rw [← this] at h3 ⊢
      exact ⟨rfl, h3, c3⟩
    · refine (ask_ok h).mono ?_
      rintro v w3 ⟨rfl, h3, c3⟩
      simp only [decI_int]
      have : st.readFine d b p = false := by simp [Nd.readFine, hc]
      rw [← this] at h3 ⊢
      exact ⟨rfl, h3, c3⟩
  · rintro ⟨e, _⟩ W ⟨he, h1, c1⟩ _
    simp only at he
    subst he
    refine cond_of (fun hc => ?_) fun hc => ?_
    · simp at hc
      exact ⟨⟨none, 0, 0⟩, rfl, by simp only [Nd.readB, hc, if_false]; exact Row.nil _ _ (fun _ => rfl), by simp, h1, c1⟩
    simp at hc
    obtain ⟨hdead, hfine⟩ := Nd.askE_zero.1 hc
    have hpg : st.page d b p = true := by simp [Nd.readFine] at hfine; exact hfine.1
    obtain ⟨ht, hp0, hp1⟩ := Nd.page_iff.1 hpg
    obtain ⟨hd0, hd1, hb0, hb1⟩ := Nd.there_iff.1 ht
    obtain ⟨dn, rfl⟩ := nat_of hd0
    obtain ⟨bn, rfl⟩ := nat_of hb0
    obtain ⟨pn, rfl⟩ := nat_of hp0
    have hg := h.ok.bounds
    have hf := ask_fields st (st.readFine (dn : Int) (bn : Int) (pn : Int))
    have hsg : (st.readS (dn : Int) (bn : Int) (pn : Int)).g = st.g := hf.1
    replace h1 := h1.kept (kept_drew W)
    obtain ⟨cap, mk, hb, hr⟩ := h1.at_
    have hlt : dn < (st.readS (dn : Int) (bn : Int) (pn : Int)).g.1.toNat ∧ bn < (st.readS (dn : Int) (bn : Int) (pn : Int)).g.2.1.toNat ∧ pn < (st.readS (dn : Int) (bn : Int) (pn : Int)).g.2.2.1.toNat := by rw [hsg]; omega
    have hgok := h1.ok.geo
    have e1 : st.readB (dn : Int) (bn : Int) (pn : Int) = flips ((st.readS (dn : Int) (bn : Int) (pn : Int)).data dn bn pn) ((st.readS (dn : Int) (bn : Int) (pn : Int)).noise dn bn pn) := by
      have e2 : (st.readS (dn : Int) (bn : Int) (pn : Int)).data = st.data := hf.2.1
      have e3 : (st.readS (dn : Int) (bn : Int) (pn : Int)).noise = st.noise := hf.2.2.1
      rw [e2, e3]
      simp only [Nd.readB, hc, if_true, Int.toNat_natCast]
    rw [e1]
    have hpl := h1.ok.page dn bn pn
    have hnl := (h1.ok.noise dn bn pn).1
    generalize st.readS (dn : Int) (bn : Int) (pn : Int) = s1 at *
    obtain ⟨hl1, hl2, hl3⟩ := hlt
    refine nn_of (rdI_of (hb.ad 3 rfl) (rdI_of (hb.ad 4 rfl) (rdI_of (hb.ad 5 rfl) (rdS_of (s := ⟨some ⟨L.pd, 0, none⟩, pages s1.g, pages s1.g⟩) (hb.ad 6 rfl) ?_))))
    refine nn_of (rdI_of (hb.ad 7 rfl) (rdI_of (hb.ad 8 rfl) (rdI_of (hb.ad 9 rfl) (rdS_of (s := ⟨some ⟨L.pz, 0, none⟩, pages s1.g, pages s1.g⟩) (hb.ad 10 rfl) ?_))))
    refine (atB_ok hgok hl1 hl2 hl3).mono ?_
    rintro v w2 ⟨rfl, k2⟩
    simp only [decP_ptr]
    replace hb := hb.kept k2
    replace hr := hr.kept k2
    refine rdI_of (hb.ad 7 rfl) (rdI_of (hb.ad 8 rfl) (rdI_of (hb.ad 9 rfl) (rdS_of (s := ⟨some ⟨L.pz, 0, none⟩, pages s1.g, pages s1.g⟩) (hb.ad 10 rfl) ⟨rfl, ?_⟩)))
    obtain ⟨sd, cd, md⟩ := hr.dataCell hl1 hl2 hl3
    refine nn_of (rdS_of cd ?_)
    refine (atI_ok hgok hl1 hl2 hl3).mono ?_
    rintro v w3 ⟨rfl, k3⟩
    simp only [decP_ptr]
    replace hr := hr.kept k3
    obtain ⟨sn, cn, mn⟩ := hr.noiseCell hl1 hl2 hl3
    refine rdS_of (cell_kept cd k3) ⟨rfl, nn_of (rdS_of cn ?_)⟩
    refine (flip_ok (md.kept k3).row mn.row (by omega) hnl).mono ?_
    rintro v w4 ⟨s4, rfl, k4, m4, _⟩
    simp only [decS_sl]
    have kk := k2.trans (k3.trans k4)
    refine ⟨s4, by rw [hc], m4.row, fun a ha => ?_, h1.kept kk, (c1.trans (Kept.chg (kept_drew W))).trans (Kept.chg kk)⟩
    have h5 := (m4.lt ha).1
    have h6 := c1.size
    have h7 := k2.size
    have h8 := k3.size
    have h9 : W.drew.heap.size = W.heap.size := rfl
    omega
end
end Go.Proofs.Ytppfnkedbpmliaa
