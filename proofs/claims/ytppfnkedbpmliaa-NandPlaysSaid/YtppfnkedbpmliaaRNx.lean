/- What ramekinref7.New computes. -/
import Derived.Test.YtppfnkedbpmliaaRNw
set_option linter.unusedVariables false
set_option linter.unusedSimpArgs false
namespace Go.Proofs.Ytppfnkedbpmliaa
open Go Go.Rk
open Go.RowKit (Below)

abbrev rcells (g : Geo) (so sl : Sl) : List Value := [.int .i64 g.1, .int .i64 g.2.1, .int .i64 g.2.2.1, .slice so.a so.l so.c, .slice sl.a sl.l sl.c, .int .i64 0, .slice none 0 0, .bool false, .int .i64 0, .int .i64 0]
/-- The dies so far, and the struct. -/
structure Top (B0 : Nat) (W : World) (p1 pn : Nat) (g : Geo) (PN BN i : Nat) (bs cr : Nat → Nat) (rs : Nat → Sl) (pp ll cp : Nat → Nat → Nat) (ds : Nat → Nat → Nat → Sl) (cso csl so sl : Sl) (n1 n2 : Nat) : Prop where
  geo : GeoAt W ⟨p1, 0, none⟩ g
  gp : p1 < B0 ∧ pn < B0
  st : Blk W pn 119 (rcells g cso csl)
  so : Mine eS 120 B0 W so ((List.range n1).map fun d => ⟨some ⟨bs d, 0, none⟩, BN, cr d⟩)
  sl : Mine eS 121 B0 W sl ((List.range n2).map rs)
  die : ∀ d, d < i → DieF B0 W PN BN (bs d) (cr d) (rs d) (pp d) (ll d) (cp d) (ds d)
section
variable {B0 : Nat} {W W' : World} {p1 pn : Nat} {g : Geo} {PN BN i : Nat} {bs cr : Nat → Nat} {rs : Nat → Sl} {pp ll cp : Nat → Nat → Nat} {ds : Nat → Nat → Nat → Sl} {cso csl so sl : Sl} {n1 n2 : Nat}
theorem Top.kept (h : Top B0 W p1 pn g PN BN i bs cr rs pp ll cp ds cso csl so sl n1 n2) (k : Kept W W') : Top B0 W' p1 pn g PN BN i bs cr rs pp ll cp ds cso csl so sl n1 n2 :=
  ⟨h.geo.kept k, h.gp, h.st.kept k, h.so.kept k, h.sl.kept k, fun d hd => (h.die d hd).kept k⟩
theorem Top.appB (h : Top B0 W p1 pn g PN BN i bs cr rs pp ll cp ds cso csl so sl n1 n2) {a : Nat} {ty : TypeId} (hA : Blk W a 120 [.slice (some ⟨bs n1, 0, none⟩) BN (cr n1)]) (hB : B0 ≤ W.heap.size) (hn : n1 ≤ 1000) {K : Value → World → Prop}
    (k : ∀ s' W', Top B0 W' p1 pn g PN BN i bs cr rs pp ll cp ds cso csl s' sl (n1 + 1) n2 → Chg (ownF so) W W' → Below B0 W W' → OwnTy W so 120 → K s'.v W') : raw Try.prog (Builtin.append_ #[116, 116] ty #[.slice so.a so.l so.c, .slice (some ⟨a, 0, none⟩) 1 1]) W K := by
  refine raw_push szSo (enc := eS) (fun _ => rfl) (s := so) (x := ⟨some ⟨bs n1, 0, none⟩, BN, cr n1⟩) h.so hA hB (by simp; omega) fun s' W' g1 c g3 => ?_
  have o : OwnTy W so 120 := Mine.own_ty h.so
  refine k s' W' ⟨h.geo.below g3 h.gp.1, h.gp, h.st.chg c (o.blk h.st (by decide)), ?_, h.sl.chg c (o.mine h.sl (by decide)), fun d hd => (h.die d hd).own o (by decide) c⟩ c g3 o
  rw [List.range_succ, List.map_append]
  exact g1
theorem Top.appD (h : Top B0 W p1 pn g PN BN i bs cr rs pp ll cp ds cso csl so sl n1 n2) {a : Nat} {ty : TypeId} (hA : Blk W a 121 [.slice (rs n2).a (rs n2).l (rs n2).c]) (hB : B0 ≤ W.heap.size) (hn : n2 ≤ 1000) {K : Value → World → Prop}
    (k : ∀ s' W', Top B0 W' p1 pn g PN BN i bs cr rs pp ll cp ds cso csl so s' n1 (n2 + 1) → Below B0 W W' → K s'.v W') : raw Try.prog (Builtin.append_ #[117, 117] ty #[.slice sl.a sl.l sl.c, .slice (some ⟨a, 0, none⟩) 1 1]) W K := by
  refine raw_push szSl (enc := eS) (fun _ => rfl) (s := sl) (x := rs n2) h.sl hA hB (by simp; omega) fun s' W' g1 c g3 => ?_
  have o : OwnTy W sl 121 := Mine.own_ty h.sl
  refine k s' W' ⟨h.geo.below g3 h.gp.1, h.gp, h.st.chg c (o.blk h.st (by decide)), h.so.chg c (o.mine h.so (by decide)), ?_, fun d hd => (h.die d hd).own o (by decide) c⟩ g3
  rw [List.range_succ, List.map_append]
  exact g1
end
/-- ramekinref7.New -/
theorem rnew_ok {w : World} {g : Geo} {bad : Sl} {xs : List (Int × Int)} (hbad : Row2 w bad xs) (hl : xs.length ≤ 1000000000) :
    Ok Try.prog 40 [gv g, bad.v] w fun v w' => Kept w w' ∧ ((newE g xs = 0 ∧ ∃ R, v = .tuple #[pv R.pn, .int .i64 0] ∧ RefAt w.heap.size w' R (Nd.new g xs)) ∨ (newE g xs = 1 ∧ v = .tuple #[.pointer none, .int .i64 1])) := by
  have hbl := hbad.len
  apply u40
  unfold T40
  refine alGeo fun W0 hg k0 => rdGeo hg (refFits_ok.mono ?_)
  rintro v w1 ⟨rfl, k1⟩
  simp only [decB_bool]
  have kw1 := k0.trans k1
  refine cond_of (fun hc => ?_) fun hc => ?_
  · simp at hc
    exact ⟨kw1, .inr ⟨by simp [newE, hc], by trivial⟩⟩
  simp at hc
  obtain ⟨a1, a2, a3, a4, a5, a6⟩ := fits_bounds hc
  obtain ⟨DN, hDN⟩ := nat_of (a := g.1) (by omega)
  obtain ⟨BN, hBN⟩ := nat_of (a := g.2.1) (by omega)
  obtain ⟨PN, hPN⟩ := nat_of (a := g.2.2.1) (by omega)
  refine rdGeo (hg.kept k1) ?_
  refine alW (cs := [.int .i64 g.1, .int .i64 g.2.1, .int .i64 g.2.2.1, .slice none 0 0, .slice none 0 0, .int .i64 0, .slice none 0 0, .bool false, .int .i64 0, .int .i64 0]) fun w2 hs2 k2 hlt2 => ?_
  have kw2 := kw1.trans k2
  have hg2 := (hg.kept k1).kept k2
  have hp1 : w.heap.size < w1.heap.size := World.block_lt_of_cell? _ _ (hg.kept k1).1
  generalize hpn : w1.heap.size = pn at hs2 hlt2 hp1 ⊢
  have hz2 : pn < w2.heap.size := hlt2
  -- the dies
  refine joinT_of (fun _ W => ∃ bs cr rs pp ll cp ds so sl, Top w2.heap.size W w.heap.size pn g PN BN DN bs cr rs pp ll cp ds so sl so sl DN DN ∧ Chg (· = pn) w2 W ∧ (∀ d d', d < d' → d' < DN → ∀ b b', b < BN → b' < BN → bs d < bs d' ∧ pp d b < pp d' b' ∧ ll d b < ll d' b') ∧ ∀ d b b', d < DN → b < b' → b' < BN → pp d b < pp d b' ∧ ll d b < ll d b') ?_ ?_
  · refine loopT_of (fun e W => ∃ (i : Nat) (bs cr : Nat → Nat) (rs : Nat → Sl) (pp ll cp : Nat → Nat → Nat) (ds : Nat → Nat → Nat → Sl) (so sl : Sl), e = ((i : Int), ()) ∧ i ≤ DN ∧ Top w2.heap.size W w.heap.size pn g PN BN i bs cr rs pp ll cp ds so sl so sl i i ∧ Chg (· = pn) w2 W ∧
        (∀ d d', d < d' → d' < i → ∀ b b', b < BN → b' < BN → bs d < bs d' ∧ pp d b < pp d' b' ∧ ll d b < ll d' b') ∧ ∀ d b b', d < i → b < b' → b' < BN → pp d b < pp d b' ∧ ll d b < ll d b') (fun e _ => DN - e.1.toNat)
      ⟨0, fun _ => 0, fun _ => 0, fun _ => nilS, fun _ _ => 0, fun _ _ => 0, fun _ _ => 0, fun _ _ _ => nilS, nilS, nilS, rfl, by omega, ⟨hg2, ⟨by omega, hz2⟩, hs2, Mine.nil, Mine.nil, by omega⟩, Chg.refl _ _, by omega, by omega⟩ ?_
    rintro e W ⟨i, bs, cr, rs, pp, ll, cp, ds, so, sl, rfl, hi, T, cW, hinj, hinj2⟩ _
    refine rdI_of T.geo.1 ?_
    rw [hDN]
    refine cond_of (fun hc2 => ?_) fun hc2 => ?_
    rotate_left
    · simp only [decide_eq_false_iff_not] at hc2
      have : i = DN := by omega
      subst this
      exact ⟨bs, cr, rs, pp, ll, cp, ds, so, sl, T, cW, hinj, hinj2⟩
    simp only [decide_eq_true_eq] at hc2
    have hiD : i < DN := by omega
    have hzW := cW.size
    refine rnewDie hc T.geo hPN hBN fun V bb cc rr pq lq cq dq kV hD hord => ?_
    intro _
    have hold : ∀ d, d < i → bs d < W.heap.size ∧ ∀ b, b < BN → pp d b < W.heap.size ∧ ll d b < W.heap.size := fun d hd => by
      have hF := T.die d hd
      exact ⟨(hF.row.lt (b := ⟨bs d, 0, none⟩) rfl).2, fun b hb => ⟨((hF.old.pag b hb).lt (b := ⟨pp d b, 0, none⟩) rfl).2, ((hF.old.noi b hb).lt (b := ⟨ll d b, 0, none⟩) rfl).2⟩⟩
    have hnew : W.heap.size ≤ bb ∧ ∀ b, b < BN → W.heap.size ≤ pq b ∧ W.heap.size ≤ lq b :=
      ⟨(hD.row.lt (b := ⟨bb, 0, none⟩) rfl).1, fun b hb => ⟨((hD.old.pag b hb).lt (b := ⟨pq b, 0, none⟩) rfl).1, ((hD.old.noi b hb).lt (b := ⟨lq b, 0, none⟩) rfl).1⟩⟩
    have T1 : Top w2.heap.size V w.heap.size pn g PN BN (i + 1) (fun d => if d = i then bb else bs d) (fun d => if d = i then cc else cr d) (fun d => if d = i then rr else rs d) (fun d => if d = i then pq else pp d) (fun d => if d = i then lq else ll d) (fun d => if d = i then cq else cp d) (fun d => if d = i then dq else ds d) so sl so sl i i := by
      have TV := T.kept kV
      refine ⟨TV.geo, TV.gp, TV.st, TV.so.cast (List.map_congr_left fun d hd => ?_), TV.sl.cast (List.map_congr_left fun d hd => ?_), fun d hd => ?_⟩
      · have := List.mem_range.1 hd
        simp [show ¬ d = i by omega]
      · have := List.mem_range.1 hd
        simp [show ¬ d = i by omega]
      · by_cases hdi : d = i
        · subst hdi
          simp only [if_true]
          exact hD.mono hzW
        · simp only [hdi, if_false]
          exact TV.die d (by omega)
    have cV : Chg (· = pn) w2 V := cW.keep kV
    have hinj' : ∀ d d', d < d' → d' < i + 1 → ∀ b b', b < BN → b' < BN → (if d = i then bb else bs d) < (if d' = i then bb else bs d') ∧ (if d = i then pq else pp d) b < (if d' = i then pq else pp d') b' ∧ (if d = i then lq else ll d) b < (if d' = i then lq else ll d') b' := by
      intro d d' hdd hd' b b' hb hb'
      have h1 : ¬ d = i := by omega
      by_cases h2 : d' = i
      · simp only [h1, h2, if_true, if_false]
        have q1 := hold d (by omega)
        have q2 := q1.2 b hb
        have q3 := hnew.2 b' hb'
        exact ⟨by omega, by omega, by omega⟩
      · simp only [h1, h2, if_false]
        exact hinj d d' hdd (by omega) b b' hb hb'
    have hinj2' : ∀ d b b', d < i + 1 → b < b' → b' < BN → (if d = i then pq else pp d) b < (if d = i then pq else pp d) b' ∧ (if d = i then lq else ll d) b < (if d = i then lq else ll d) b' := by
      intro d b b' hd hbb hb'
      by_cases h1 : d = i
      · simp only [h1, if_true]
        exact hord b b' hbb hb'
      · simp only [h1, if_false]
        exact hinj2 d b b' (by omega) hbb hb'
    obtain ⟨bs1, cr1, rs1, pp1, ll1, cp1, ds1, T, hinj1, hinj3, hbi, hci, hri⟩ : ∃ (bs1 cr1 : Nat → Nat) (rs1 : Nat → Sl) (pp1 ll1 cp1 : Nat → Nat → Nat) (ds1 : Nat → Nat → Nat → Sl), Top w2.heap.size V w.heap.size pn g PN BN (i + 1) bs1 cr1 rs1 pp1 ll1 cp1 ds1 so sl so sl i i ∧
        (∀ d d', d < d' → d' < i + 1 → ∀ b b', b < BN → b' < BN → bs1 d < bs1 d' ∧ pp1 d b < pp1 d' b' ∧ ll1 d b < ll1 d' b') ∧ (∀ d b b', d < i + 1 → b < b' → b' < BN → pp1 d b < pp1 d b' ∧ ll1 d b < ll1 d b') ∧ bs1 i = bb ∧ cr1 i = cc ∧ rs1 i = rr :=
      ⟨_, _, _, _, _, _, _, T1, hinj', hinj2', by simp, by simp, by simp⟩
    clear T1 hinj' hinj2' hold hnew
    have hzV := kV.size
    have hzd : V.drew.heap.size = V.heap.size := rfl
    replace T := T.kept (kept_drew V)
    have cX : Chg (· = pn) w2 V.drew := cV.keep (kept_drew V)
    have fin : ∀ (s1 s2 : Sl) (X : World), Top w2.heap.size X w.heap.size pn g PN BN (i + 1) bs1 cr1 rs1 pp1 ll1 cp1 ds1 so sl s1 s2 (i + 1) (i + 1) → Chg (· = pn) w2 X → nn (some ⟨pn, 0, none⟩) fun p216 => wr X (p216.add 3) (.slice s1.a s1.l s1.c) fun w217 => nn (some ⟨pn, 0, none⟩) fun p218 => wr w217 (p218.add 4) (.slice s2.a s2.l s2.c) fun w219 =>
        (fun (e : Int × Unit) W => ∃ (i : Nat) (bs cr : Nat → Nat) (rs : Nat → Sl) (pp ll cp : Nat → Nat → Nat) (ds : Nat → Nat → Nat → Sl) (so sl : Sl), e = ((i : Int), ()) ∧ i ≤ DN ∧ Top w2.heap.size W w.heap.size pn g PN BN i bs cr rs pp ll cp ds so sl so sl i i ∧ Chg (· = pn) w2 W ∧
        (∀ d d', d < d' → d' < i → ∀ b b', b < BN → b' < BN → bs d < bs d' ∧ pp d b < pp d' b' ∧ ll d b < ll d' b') ∧ ∀ d b b', d < i → b < b' → b' < BN → pp d b < pp d b' ∧ ll d b < ll d b') (IntKind.wrap .i64 ((i : Int) + 1), ()) w219 ∧ DN - ((IntKind.wrap .i64 ((i : Int) + 1), ()) : Int × Unit).1.toNat < DN - (((i : Int), ()) : Int × Unit).1.toNat := by
      intro s1 s2 X hT hX
      refine nn_of (wrW hT.st 3 (by simp [rcells]) fun W3 h3 c3 => nn_of (wrW h3 4 (by simp [rcells]) fun W4 h4 c4 => ?_))
      have c := c3.trans c4
      rw [int_next (by omega)]
      refine ⟨⟨i + 1, bs1, cr1, rs1, pp1, ll1, cp1, ds1, s1, s2, rfl, by omega, ⟨hT.geo.chg c (by show ¬ w.heap.size = pn; omega), hT.gp, h4, hT.so.chg c (hT.st.mine_ne hT.so (by decide)), hT.sl.chg c (hT.st.mine_ne hT.sl (by decide)), fun d hd => (hT.die d hd).one hT.st c⟩, hX.trans c, hinj1, hinj3⟩, by simp; omega⟩
    refine nn_of (rdS_of (s := so) (T.st.ad 3 rfl) (nn_of (rdS_of (s := sl) (T.st.ad 4 rfl) ?_)))
    refine ⟨?_, ?_⟩
    · refine alW (cs := [.slice (some ⟨bb, 0, none⟩) BN cc]) fun WA hA kA _ => ?_
      replace T := T.kept kA
      replace cX := cX.keep kA
      have zA := kA.size
      refine rdS_of (s := so) (T.st.ad 3 rfl) ⟨rfl, rdS_of (s := sl) (T.st.ad 4 rfl) ⟨rfl, ?_⟩⟩
      refine ⟨?_, ?_⟩
      · refine T.appB (hA.cast (by rw [hbi, hci])) (by omega) (by omega) fun s1 WB TB cB gB oB => ?_
        simp only [decS_sl]
        have zB := gB.size
        replace T := TB
        replace cX := cX.then_below gB (Nat.le_refl _)
        refine rdS_of (s := sl) (T.st.ad 4 rfl) ⟨rfl, ?_⟩
        refine alW (cs := [.slice rr.a rr.l rr.c]) fun WC hC kC _ => ?_
        replace T := T.kept kC
        replace cX := cX.keep kC
        have zC := kC.size
        refine rdS_of (s := so) (T.st.ad 3 rfl) ⟨rfl, rdS_of (s := sl) (T.st.ad 4 rfl) ⟨rfl, ?_⟩⟩
        refine T.appD (hC.cast (by rw [hri])) (by omega) (by omega) fun s2 WD TD gD => ?_
        simp only [decS_sl]
        exact fin s1 s2 WD TD (cX.then_below gD (Nat.le_refl _))
      · refine alW (cs := [.slice rr.a rr.l rr.c]) fun WC hC kC _ => ?_
        replace T := T.kept kC
        replace cX := cX.keep kC
        have zC := kC.size
        replace hA := hA.kept kC
        refine rdS_of (s := so) (T.st.ad 3 rfl) ⟨rfl, rdS_of (s := sl) (T.st.ad 4 rfl) ⟨rfl, ?_⟩⟩
        refine T.appB (hA.cast (by rw [hbi, hci])) (by omega) (by omega) fun s1 WB TB cB gB oB => ?_
        simp only [decS_sl]
        have zB := gB.size
        replace hC := hC.chg cB (oB.blk hC (by decide))
        replace T := TB
        replace cX := cX.then_below gB (Nat.le_refl _)
        refine rdS_of (s := sl) (T.st.ad 4 rfl) ⟨rfl, ?_⟩
        refine T.appD (hC.cast (by rw [hri])) (by omega) (by omega) fun s2 WD TD gD => ?_
        simp only [decS_sl]
        exact fin s1 s2 WD TD (cX.then_below gD (Nat.le_refl _))
    · refine alW (cs := [.slice rr.a rr.l rr.c]) fun WC hC kC _ => ?_
      replace T := T.kept kC
      replace cX := cX.keep kC
      have zC := kC.size
      refine rdS_of (s := so) (T.st.ad 3 rfl) ⟨rfl, rdS_of (s := sl) (T.st.ad 4 rfl) ⟨rfl, ?_⟩⟩
      refine alW (cs := [.slice (some ⟨bb, 0, none⟩) BN cc]) fun WA hA kA _ => ?_
      replace T := T.kept kA
      replace cX := cX.keep kA
      have zA := kA.size
      replace hC := hC.kept kA
      refine rdS_of (s := so) (T.st.ad 3 rfl) ⟨rfl, rdS_of (s := sl) (T.st.ad 4 rfl) ⟨rfl, ?_⟩⟩
      refine T.appB (hA.cast (by rw [hbi, hci])) (by omega) (by omega) fun s1 WB TB cB gB oB => ?_
      simp only [decS_sl]
      have zB := gB.size
      replace hC := hC.chg cB (oB.blk hC (by decide))
      replace T := TB
      replace cX := cX.then_below gB (Nat.le_refl _)
      refine rdS_of (s := sl) (T.st.ad 4 rfl) ⟨rfl, ?_⟩
      refine T.appD (hC.cast (by rw [hri])) (by omega) (by omega) fun s2 WD TD gD => ?_
      simp only [decS_sl]
      exact fin s1 s2 WD TD (cX.then_below gD (Nat.le_refl _))
  rintro _ w6 ⟨bs, cr, rs, pp, ll, cp, ds, so, sl, T, c6, hinj, hinj2⟩ _
  have kw6 : Kept w w6 := kw2.then c6 fun x hx => by omega
  have hDn : g.1.toNat = DN := by omega
  have hBn : g.2.1.toNat = BN := by omega
  have hPn : g.2.2.1.toNat = PN := by omega
  have hzz : w.heap.size ≤ w2.heap.size := kw2.size
  obtain ⟨R, hR⟩ : ∃ R : RLay, R = ⟨pn, bs, pp, ll, DN, BN⟩ := ⟨_, rfl⟩
  have hlo : ∀ x, R.mut x → w.heap.size < x := by
    rw [hR]
    rintro x (rfl | ⟨d, hd, rfl⟩ | ⟨d, b, hd, hb, rfl⟩ | ⟨d, b, hd, hb, rfl⟩)
    · exact hp1
    · have := ((T.die d hd).row.lt (b := ⟨bs d, 0, none⟩) rfl).1; dsimp only at this ⊢; omega
    · have := (((T.die d hd).old.pag b hb).lt (b := ⟨pp d b, 0, none⟩) rfl).1; dsimp only at this ⊢; omega
    · have := (((T.die d hd).old.noi b hb).lt (b := ⟨ll d b, 0, none⟩) rfl).1; dsimp only at this ⊢; omega
  have hN : RefAt w.heap.size w6 R (Nd.new g []) := by
    subst hR
    refine ⟨Nd.Ok.new hc [], so, sl, nilS, [], T.st, ⟨⟨hDn.symm, hBn.symm⟩, fun k hk => Nat.le_of_lt (hlo k hk), ⟨cr, cp, ds, T.so.mono hzz, fun d hd => ?_, fun d b hd hb => ?_, fun d b p hd hb hp => ?_⟩, ⟨rs, fun _ _ => PN, fun _ _ _ => nilS, T.sl.mono hzz, fun d hd => ?_, fun d b hd hb => ?_, fun d b p hd hb hp => Mine.nil⟩, fun d d' hd hd' he => ?_, fun d b d' b' hd hb hd' hb' he => ?_, fun d b d' b' hd hb hd' hb' he => ?_, Mine.nil, by simp, fun h => by have h2 : (1 : Int) ≤ 0 := h; omega⟩⟩
    · refine ((T.die d hd).row.mono hzz).cast (List.map_congr_left fun b _ => ?_)
      simp [Nd.new, hPn]
    · show Mine eS 22 _ _ ⟨some ⟨pp d b, 0, none⟩, g.2.2.1.toNat, cp d b⟩ ((List.range g.2.2.1.toNat).map (ds d b))
      rw [hPn]
      exact ((T.die d hd).old.pag b hb).mono hzz
    · exact ((T.die d hd).old.dat b p hb (by have h2 : p < g.2.2.1.toNat := hp; omega)).mono hzz
    · show Mine eS 35 _ _ _ ((List.range BN).map fun b => ⟨some ⟨ll d b, 0, none⟩, g.2.2.1.toNat, PN⟩)
      rw [hPn]
      exact (T.die d hd).noi.mono hzz
    · show Mine eS 23 _ _ ⟨some ⟨ll d b, 0, none⟩, g.2.2.1.toNat, PN⟩ ((List.range g.2.2.1.toNat).map fun _ => nilS)
      rw [hPn]
      exact ((T.die d hd).old.noi b hb).mono hzz
    · dsimp only at he hd hd'
      rcases Nat.lt_trichotomy d d' with h | h | h
      · have := (hinj d d' h hd' 0 0 (by omega) (by omega)).1; omega
      · exact h
      · have := (hinj d' d h hd 0 0 (by omega) (by omega)).1; omega
    · dsimp only at he hd hd' hb hb'
      rcases Nat.lt_trichotomy d d' with h | h | h
      · have := (hinj d d' h hd' b b' hb hb').2.1; omega
      · subst h
        refine ⟨rfl, ?_⟩
        rcases Nat.lt_trichotomy b b' with h | h | h
        · have := (hinj2 d b b' hd h hb').1; omega
        · exact h
        · have := (hinj2 d b' b hd h hb).1; omega
      · have := (hinj d' d h hd b' b hb' hb).2.1; omega
    · dsimp only at he hd hd' hb hb'
      rcases Nat.lt_trichotomy d d' with h | h | h
      · have := (hinj d d' h hd' b b' hb hb').2.2; omega
      · subst h
        refine ⟨rfl, ?_⟩
        rcases Nat.lt_trichotomy b b' with h | h | h
        · have := (hinj2 d b b' hd h hb').2; omega
        · exact h
        · have := (hinj2 d b' b hd h hb).2; omega
      · have := (hinj d' d h hd b' b hb' hb).2.2; omega
  have hpe : (⟨pn, 0, none⟩ : Addr) = ⟨R.pn, 0, none⟩ := by rw [hR]
  rw [hpe]
  have hRD : R.D = DN ∧ R.B = BN := by rw [hR]; exact ⟨rfl, rfl⟩
  clear hR hpe T hinj hinj2 c6
  -- the bad blocks
  refine joinT_of (fun _ W => RefAt w.heap.size W R (Nd.new g xs) ∧ Kept w W ∧ newE g xs = 0) ?_ ?_
  · refine loopT_of (fun e W => ∃ i : Nat, e = ((i : Int), ()) ∧ i ≤ xs.length ∧ RefAt w.heap.size W R (Nd.new g (xs.take i)) ∧ Kept w W ∧ ∀ j (hj : j < xs.length), j < i → thereG g xs[j] = true) (fun e _ => xs.length - e.1.toNat)
      ⟨0, rfl, by omega, by simpa using hN, kw6, by simp⟩ ?_
    rintro e W ⟨i, rfl, hi, h1, kW, hall⟩ _
    refine cond_of (fun hc2 => ?_) fun hc2 => ?_
    · simp [hbl] at hc2
      have kd := kW.trans (kept_drew W)
      have hb' := hbad.kept kd
      refine hb'.ix hc2 fun q hq e1 e2 => ⟨by omega, by omega, rdI_of e1 (hb'.ix hc2 fun q' hq' e1' e2' => ⟨by omega, by omega, rdI_of e2' ?_⟩)⟩
      replace h1 := h1.kept (kept_drew W)
      refine (rthere_ok h1).mono ?_
      rintro v W4 ⟨rfl, rfl⟩
      simp only [decB_bool]
      have hth : (Nd.new g (xs.take i)).there xs[i].1 xs[i].2 = thereG g xs[i] := rfl
      rw [hth]
      refine cond_of (fun hc3 => ?_) fun hc3 => ?_
      · simp at hc3
        refine ⟨kd, .inr ⟨?_, by trivial⟩⟩
        have : xs.all (thereG g) = false := by
          rw [List.all_eq_false]
          exact ⟨xs[i], List.getElem_mem _, by simp [hc3]⟩
        simp [newE, this]
      · simp at hc3
        obtain ⟨hd0, hd1, hb0, hb1⟩ := Nd.there_iff.1 (hth.trans hc3)
        change xs[i].1 < g.1 at hd1
        change xs[i].2 < g.2.1 at hb1
        have ht : xs.take (i + 1) = xs.take i ++ [xs[i]] := by rw [List.take_append_getElem]
        have kd2 := kd.trans (kept_drew W.drew)
        have hb2 := hbad.kept kd2
        replace h1 := h1.kept (kept_drew W.drew)
        obtain ⟨so', sl', mk', ms', hM⟩ := h1.toM
        obtain ⟨cr', cp', ds', b1, b2, b3, b4⟩ := hM.rest.bb
        have hxd : ∃ dn : Nat, xs[i].1 = (dn : Int) := nat_of hd0
        have hxb : ∃ bn : Nat, xs[i].2 = (bn : Int) := nat_of hb0
        obtain ⟨dn, hdn⟩ := hxd
        obtain ⟨bn, hbn⟩ := hxb
        have hdR : dn < R.D := by omega
        have hbR : bn < R.B := by omega
        refine nn_of (rdS_of (s := so') (hM.blk.ad 3 rfl) (hb2.ix hc2 fun q2 hq2 f1 f2 => ⟨by omega, by omega, rdI_of f1 ?_⟩))
        rw [hdn]
        refine b1.row.ix (i := dn) (by simpa using hdR) fun q3 hq3 hc4 => rdS_of (s := ⟨some ⟨R.bs dn, 0, none⟩, R.B, cr' dn⟩) (by simpa using hc4) ?_
        refine hb2.ix hc2 fun q4 hq4 f3 f4 => ⟨by omega, by omega, rdI_of f4 ?_⟩
        rw [hbn]
        refine ixB (i := bn) hbR ?_
        refine hM.wrBlk (d := dn) (b := bn) hdR hbR (j := 3) (st' := Nd.new g (xs.take (i + 1))) (by omega) (by omega) rfl rfl rfl rfl rfl rfl rfl rfl (fun d' k s => ?_) fun W5 h5 c5 => ?_
        · have hx : xs[i] = ((dn : Int), (bn : Int)) := Prod.ext hdn hbn
          rw [ht, hx]
          by_cases he : d' = dn ∧ k = bn
          · obtain ⟨rfl, rfl⟩ := he; simp [eBk, Nd.new]
          · have : ¬ ((d' : Int) = (dn : Int) ∧ (k : Int) = (bn : Int)) := fun h => he ⟨by omega, by omega⟩
            rw [if_neg he]
            simp [eBk, Nd.new, Prod.ext_iff, this]
            try (intro h2 h3; exact absurd ⟨h2, h3⟩ this)
        · rw [int_next (by omega)]
          refine ⟨⟨i + 1, rfl, by omega, h5.toAt, kd2.then c5 fun x hx hm => by have := hlo x hm; omega, fun j hj hji => ?_⟩, by simp; omega⟩
          by_cases hjl : j < i
          · exact hall j hj hjl
          · have : j = i := by omega
            subst this
            exact hc3
    · simp [hbl] at hc2
      have : i = xs.length := by omega
      subst this
      rw [List.take_length] at h1
      refine ⟨h1, kW, ?_⟩
      have : xs.all (thereG g) = true := by
        rw [List.all_eq_true]
        intro x hx
        obtain ⟨j, hj, rfl⟩ := List.getElem_of_mem hx
        exact hall j hj hj
      simp [newE, hc, this]
  · rintro _ W ⟨h1, kW, he⟩ _
    exact ⟨kW, .inl ⟨he, R, rfl, h1⟩⟩
end Go.Proofs.Ytppfnkedbpmliaa
