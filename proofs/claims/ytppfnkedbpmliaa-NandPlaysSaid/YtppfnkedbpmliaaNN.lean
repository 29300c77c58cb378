/- What nand.New makes: flash that is erased, or nothing where the geometry or a bad block may not be. -/
import Derived.Test.YtppfnkedbpmliaaNP
set_option linter.unusedVariables false
set_option linter.unusedSimpArgs false
namespace Go.Proofs.Ytppfnkedbpmliaa
open Go Go.Rk
open Go.RowKit (Below)

theorem _root_.Go.Rk.Blk.row {α : Type} {enc : α → Value} {e : TypeId} {b : Nat} {w : World} {xs : List α} (h : Blk w b e (xs.map enc)) : Row enc w ⟨some ⟨b, 0, none⟩, xs.length, xs.length⟩ xs :=
  ⟨rfl, (fun h => by cases h), fun i hi => ⟨_, rfl, by rw [addN]; exact h.at _ (by simp [hi])⟩⟩
/-- One element more, that stands in a block. -/
theorem raw_push {P : Program} {t ty e : TypeId} (hz : Sz P t e) {α : Type} {enc : α → Value} (h1 : ∀ x, (enc x).oneCell' = true) {base b : Nat} {w : World} {s : Sl} {xs : List α} {x : α} {K : Value → World → Prop}
    (h : Mine enc e base w s xs) (hy : Blk w b e [enc x]) (hb : base ≤ w.heap.size) (hl : xs.length ≤ 1000000000)
    (k : ∀ (s' : Sl) W, Mine enc e base W s' (xs ++ [x]) → Chg (fun k => some k = s.v.ownBlock) w W → Below base w W → K s'.v W) : raw P (Builtin.append_ #[t, t] ty #[s.v, .slice (some ⟨b, 0, none⟩) 1 1]) w K := by
  have hr : Row enc w ⟨some ⟨b, 0, none⟩, 1, 1⟩ [x] := Blk.row (xs := [x]) hy
  refine raw_append hz h1 (u := ⟨some ⟨b, 0, none⟩, 1, 1⟩) h hr (by simp; omega) hb fun s' w' g1 g2 g3 => ?_
  exact k s' w' g1 (Chg.of_grown g2 fun k hk => hk.symm) ((Below.refl _ _).grown g2 hb fun k hk => (World.ownsRow.lt h k hk).1)
theorem nfits_ok {w : World} {g : Geo} : Ok Try.prog 84 [gv g] w fun v w' => v = .bool (fits g) ∧ Kept w w' := by
  apply u84
  unfold T84 al
  have hg := GeoAt.new w g 29
  have k := kept_alloc w (.cells #[.int .i64 g.1, .int .i64 g.2.1, .int .i64 g.2.2.1] 29)
  refine joinT_thru (rdI_of hg.1 ?_)
  refine cond_of (fun h1 => rdI_of hg.1 (cond_of (fun h2 => rdI_of hg.2.1 (cond_of (fun h3 => rdI_of hg.2.1 (cond_of (fun h4 => rdI_of hg.2.2 (cond_of (fun h5 => rdI_of hg.2.2 ?_) fun h5 => ?_)) fun h4 => ?_)) fun h3 => ?_)) fun h2 => ?_)) fun h1 => ?_
  all_goals
    intro _
    refine ⟨?_, k⟩
    simp_all [fits]
    try omega
theorem pages_wrap {g : Geo} (hf : fits g = true) : IntKind.wrap .i64 ((IntKind.wrap .i64 (g.1 * g.2.1)) * g.2.2.1) = (pages g : Int) ∧ pages g ≤ 768 := by
  have hg := fits_bounds hf
  obtain ⟨D, B, P, _⟩ := g
  simp only at *
  obtain ⟨D, rfl⟩ := nat_of (a := D) (by omega)
  obtain ⟨B, rfl⟩ := nat_of (a := B) (by omega)
  obtain ⟨P, rfl⟩ := nat_of (a := P) (by omega)
  simp only [Int.toNat_natCast, pages] at *
  have h1 : D * B ≤ 8 * 12 := Nat.mul_le_mul (by omega) (by omega)
  have h2 : D * B * P ≤ 96 * 8 := Nat.mul_le_mul (by omega) (by omega)
  have e1 : IntKind.wrap .i64 ((D : Int) * (B : Int)) = ((D * B : Nat) : Int) := by rw [← Int.natCast_mul, w64 (by omega) (by omega)]
  have e2 : IntKind.wrap .i64 (((D * B : Nat) : Int) * (P : Int)) = ((D * B * P : Nat) : Int) := by rw [← Int.natCast_mul, w64 (by omega) (by omega)]
  rw [e1, e2]
  exact ⟨rfl, by omega⟩
theorem noneB_ok {w : World} {g : Geo} (hf : fits g = true) : Ok Try.prog 85 [gv g] w fun v w' => ∃ b, v = .agg #[.int .i64 g.1, .int .i64 g.2.1, .int .i64 g.2.2.1, .slice (some ⟨b, 0, none⟩) (pages g) (pages g)] ∧ Kept w w' ∧ w.heap.size ≤ b ∧ Blk w' b 22 (List.replicate (pages g) (.slice none 0 0)) := by
  obtain ⟨e1, e2⟩ := pages_wrap hf
  apply u85
  unfold T85
  refine alGeo fun W0 hg k0 => alW (cs := [.int .i64 0, .int .i64 0, .int .i64 0, .slice none 0 0]) fun W1 hb1 k1 hlt1 => ?_
  have hg1 := (hg.kept k1).kept (kept_drew W1)
  refine rdGeo hg1 (rdGeo hg1 ?_)
  simp only [e1, Int.toNat_natCast, zeroRow_one]
  refine ⟨by omega, by omega, by omega, by omega, ?_⟩
  refine alW fun W2 hb2 k2 hlt2 => rdGeo (hg1.kept k2) ⟨rfl, ?_⟩
  have hz : W1.drew.heap.size = W1.heap.size := rfl
  refine wr0 ((hb1.kept (kept_drew W1)).kept k2) (by simp) fun W3 hb3 c3 => wrW hb3 1 (by simp) fun W4 hb4 c4 => wrW hb4 2 (by simp) fun W5 hb5 c5 => wrW hb5 3 (by simp) fun W6 hb6 c6 => ?_
  refine rdI_of (hb6.at 0 rfl) (rdI_of (hb6.ad 1 rfl) (rdI_of (hb6.ad 2 rfl) (rdS_of (s := ⟨some ⟨W1.heap.size, 0, none⟩, pages g, pages g⟩) (hb6.ad 3 rfl) ?_)))
  have c := ((c3.trans c4).trans c5).trans c6
  refine ⟨_, rfl, k0.trans ((k1.trans ((kept_drew W1).trans k2)).then c fun x hx => by omega), by have := k0.size; omega, ?_⟩
  exact hb2.chg c (by omega)
theorem noneI_ok {w : World} {g : Geo} (hf : fits g = true) : Ok Try.prog 86 [gv g] w fun v w' => ∃ b, v = .agg #[.int .i64 g.1, .int .i64 g.2.1, .int .i64 g.2.2.1, .slice (some ⟨b, 0, none⟩) (pages g) (pages g)] ∧ Kept w w' ∧ w.heap.size ≤ b ∧ Blk w' b 23 (List.replicate (pages g) (.slice none 0 0)) := by
  obtain ⟨e1, e2⟩ := pages_wrap hf
  apply u86
  unfold T86
  refine alGeo fun W0 hg k0 => alW (cs := [.int .i64 0, .int .i64 0, .int .i64 0, .slice none 0 0]) fun W1 hb1 k1 hlt1 => ?_
  have hg1 := (hg.kept k1).kept (kept_drew W1)
  refine rdGeo hg1 (rdGeo hg1 ?_)
  simp only [e1, Int.toNat_natCast, zeroRow_one]
  refine ⟨by omega, by omega, by omega, by omega, ?_⟩
  refine alW fun W2 hb2 k2 hlt2 => rdGeo (hg1.kept k2) ⟨rfl, ?_⟩
  have hz : W1.drew.heap.size = W1.heap.size := rfl
  refine wr0 ((hb1.kept (kept_drew W1)).kept k2) (by simp) fun W3 hb3 c3 => wrW hb3 1 (by simp) fun W4 hb4 c4 => wrW hb4 2 (by simp) fun W5 hb5 c5 => wrW hb5 3 (by simp) fun W6 hb6 c6 => ?_
  refine rdI_of (hb6.at 0 rfl) (rdI_of (hb6.ad 1 rfl) (rdI_of (hb6.ad 2 rfl) (rdS_of (s := ⟨some ⟨W1.heap.size, 0, none⟩, pages g, pages g⟩) (hb6.ad 3 rfl) ?_)))
  have c := ((c3.trans c4).trans c5).trans c6
  refine ⟨_, rfl, k0.trans ((k1.trans ((kept_drew W1).trans k2)).then c fun x hx => by omega), by have := k0.size; omega, ?_⟩
  exact hb2.chg c (by omega)
theorem decG_cells {g : Geo} {s : Sl} {K : (Int × Int × Int × Sl × Unit) → Prop} : decG [(.i .i64), (.i .i64), (.i .i64), .s] (.agg #[.int .i64 g.1, .int .i64 g.2.1, .int .i64 g.2.2.1, .slice s.a s.l s.c]) K = K (g.1, g.2.1, g.2.2.1, s, ()) := by simp [decG, decs, Kb.dec]

theorem _root_.Go.Rk.Chg.then_below {F : Nat → Prop} {a b c : World} {B : Nat} (h : Chg F a b) (g : Below B b c) (hB : a.heap.size ≤ B) : Chg F a c :=
  ⟨g.os.trans h.os, g.tape.trans h.tape, g.output.trans h.output, Nat.le_trans h.size g.size, fun k hk hn => (g.block k (by omega)).trans (h.block k hk hn)⟩
theorem GeoAt.chg {F : Nat → Prop} {w w' : World} {p : Addr} {g : Geo} (h : GeoAt w p g) (k : Chg F w w') (hn : ¬ F p.block) : GeoAt w' p g :=
  ⟨k.cell h.1 hn, k.cell h.2.1 (by rw [add_block]; exact hn), k.cell h.2.2 (by rw [add_block]; exact hn)⟩
/-- Is there such a block, in a geometry? -/
def thereG (g : Geo) (p : Int × Int) : Bool := (Nd.new g []).there p.1 p.2
def newE (g : Geo) (xs : List (Int × Int)) : Int := if fits g && xs.all (thereG g) then 0 else 1
theorem szD : Sz Try.prog 109 113 := Sz_of (by kernel_rfl)
theorem zeroRow3 (a b c : Value) (n : Nat) : zeroRow #[a, b, c] (n * 3) = ((List.range n).flatMap fun _ => [a, b, c]).toArray := by
  apply Array.ext
  · simp [zeroRow, List.length_flatMap]
    induction n with
    | zero => simp
    | succ n ih => simp [List.range_succ, ih]; omega
  · intro i h1 h2
    simp [zeroRow] at h1
    have hq : i / 3 < n := by omega
    have hr : i % 3 < 3 := by omega
    have h3 := flat_get (enc := fun _ : Nat => [a, b, c]) (sz := 3) (fun _ => rfl) (List.range n) (i / 3) (by simpa using hq) (i % 3) hr
    have hi : i / 3 * 3 + i % 3 = i := by omega
    rw [hi] at h3
    have h4 : ((List.range n).flatMap fun _ => [a, b, c])[i]? = some (((List.range n).flatMap fun _ => [a, b, c])[i]'(by simpa using h2)) := List.getElem?_eq_getElem _
    rw [h4] at h3
    have h5 : (zeroRow #[a, b, c] (n * 3))[i] = #[a, b, c][i % 3] := by simp [zeroRow, hr]
    rw [h5]
    simp only [List.getElem_toArray]
    have : i % 3 = 0 ∨ i % 3 = 1 ∨ i % 3 = 2 := by omega
    rcases this with h | h | h <;> simp [h] at h3 ⊢ <;> exact h3.symm
theorem newCells (g : Geo) (xs : List (Int × Int)) (d : Nat) : (List.range g.2.1.toNat).flatMap (stCells (Nd.new g []) d) = (List.range g.2.1.toNat).flatMap fun _ => [.int .i64 0, .int .i64 0, .bool false] := by
  refine flatMap_congr' fun k _ => ?_
  simp [stCells, Nd.new]
theorem new_there (g : Geo) (xs : List (Int × Int)) (d b : Int) : (Nd.new g xs).there d b = (Nd.new g []).there d b := rfl
/-- nand.New -/
theorem new_ok {w : World} {g : Geo} {bad : Sl} {xs : List (Int × Int)} (hbad : Row2 w bad xs) (hl : xs.length ≤ 1000000000) :
    Ok Try.prog 39 [gv g, bad.v] w fun v w' => Kept w w' ∧ ((newE g xs = 0 ∧ ∃ L, v = .tuple #[pv L.pn, .int .i64 0] ∧ NandAt w.heap.size w' L (Nd.new g xs)) ∨ (newE g xs = 1 ∧ v = .tuple #[.pointer none, .int .i64 1])) := by
  have hbl := hbad.len
  apply u39
  unfold T39
  refine alGeo fun W0 hg k0 => rdGeo hg (nfits_ok.mono ?_)
  rintro v w1 ⟨rfl, k1⟩
  simp only [decB_bool]
  have kw1 := k0.trans k1
  refine cond_of (fun hc => ?_) fun hc => ?_
  · simp at hc
    exact ⟨kw1, .inr ⟨by simp [newE, hc], by trivial⟩⟩
  simp at hc
  obtain ⟨a1, a2, a3, a4, a5, a6⟩ := fits_bounds hc
  obtain ⟨_, hpg⟩ := pages_wrap hc
  have hg1 := (hg.kept k1).kept (kept_drew w1)
  refine rdGeo hg1 (rdGeo hg1 (rdGeo hg1 ((noneB_ok hc).mono ?_)))
  rintro v w2 ⟨pd, rfl, k2, lo2, hd2⟩
  rw [decG_cells (s := ⟨some ⟨pd, 0, none⟩, pages g, pages g⟩)]
  refine rdGeo (hg1.kept k2) ⟨rfl, rdGeo (hg1.kept k2) ⟨rfl, (noneI_ok hc).mono ?_⟩⟩
  rintro v w3 ⟨pz, rfl, k3, lo3, hz3⟩
  rw [decG_cells (s := ⟨some ⟨pz, 0, none⟩, pages g, pages g⟩)]
  refine rdGeo ((hg1.kept k2).kept k3) ⟨rfl, ?_⟩
  have kw3 : Kept w w3 := kw1.trans ((kept_drew w1).trans (k2.trans k3))
  have z1 := kw1.size
  have z2 := k2.size
  have z3 := k3.size
  have hzd : w1.drew.heap.size = w1.heap.size := rfl
  have hg3 := (hg1.kept k2).kept k3
  refine alW (cs := [.int .i64 g.1, .int .i64 g.2.1, .int .i64 g.2.2.1, .int .i64 g.1, .int .i64 g.2.1, .int .i64 g.2.2.1, .slice (some ⟨pd, 0, none⟩) (pages g) (pages g), .int .i64 g.1, .int .i64 g.2.1, .int .i64 g.2.2.1, .slice (some ⟨pz, 0, none⟩) (pages g) (pages g), .slice none 0 0, .int .i64 0, .slice none 0 0, .bool false, .int .i64 0, .int .i64 0]) fun w4 hn4 k4 hlt4 => ?_
  have hd4 := hd2.kept (k3.trans k4)
  have hz4 := hz3.kept k4
  have hg4 := hg3.kept k4
  have kw4 := kw3.trans k4
  have hpdlt := hd2.lt
  generalize hpn : w3.heap.size = pn at hn4 hlt4 ⊢
  refine nn_of (rdS_of (s := ⟨some ⟨pd, 0, none⟩, pages g, pages g⟩) (hn4.ad 6 rfl) ?_)
  -- the pages are blank
  refine joinT_of (fun _ W => ∃ ds : Nat → Sl, Arr W pd 22 (pages g) (fun i => (ds i).v) ∧ (∀ i, i < pages g → Mine eB 5 w.heap.size W (ds i) blankL) ∧ Chg (· = pd) w4 W) ?_ ?_
  · refine loopT_of (fun e W => ∃ (i : Nat) (ds : Nat → Sl), e = ((i : Int), ()) ∧ i ≤ pages g ∧ Arr W pd 22 (pages g) (fun j => if j < i then (ds j).v else .slice none 0 0) ∧ (∀ j, j < i → Mine eB 5 w.heap.size W (ds j) blankL) ∧ Chg (· = pd) w4 W) (fun e _ => pages g - e.1.toNat)
      ⟨0, fun _ => ⟨none, 0, 0⟩, rfl, by omega, ?_, by simp, Chg.refl _ _⟩ ?_
    · refine hd4.cast ?_
      simp [List.map_const']
    rintro e W ⟨i, ds, rfl, hi, hA, hM, cW⟩ _
    refine cond_of (fun hc2 => ?_) fun hc2 => ?_
    · simp only [decide_eq_true_eq] at hc2
      have hi2 : i < pages g := by omega
      have hnp : ¬ pn = pd := by omega
      have hn := (hn4.chg cW hnp).kept (kept_drew W)
      refine nn_of (rdS_of (s := ⟨some ⟨pd, 0, none⟩, pages g, pages g⟩) (hn.ad 6 rfl) (blank_ok.mono ?_))
      rintro v W1 ⟨sb, rfl, kb, mb⟩
      simp only [decS_sl]
      refine rdS_of (s := ⟨some ⟨pd, 0, none⟩, pages g, pages g⟩) ((hn.kept kb).ad 6 rfl) ⟨rfl, ixB hi2 ?_⟩
      rw [addB]
      have hA1 := (Blk.kept hA (kept_drew W)).kept kb
      refine wr_blk hA1 (by simpa using hi2) ?_
      have hA2 := hA1.set i (.slice sb.a sb.l sb.c)
      have c2 := Chg.set W1 ⟨pd, i, none⟩ (.slice sb.a sb.l sb.c)
      rw [arr_set] at hA2
      rw [int_next (by omega)]
      have hzW : w.heap.size ≤ W.drew.heap.size := by have := cW.size; have := kw4.size; show _ ≤ W.heap.size; omega
      refine ⟨⟨i + 1, fun j => if j = i then sb else ds j, rfl, by omega, ?_, fun j hj => ?_, (cW.keep ((kept_drew W).trans kb)).trans c2⟩, by simp; omega⟩
      · refine hA2.cast (List.map_congr_left fun j _ => ?_)
        dsimp only
        by_cases hji : j = i
        · subst hji; simp
        · by_cases hlt : j < i
          · simp [hji, hlt, show j < i + 1 by omega]
          · simp [hji, hlt, show ¬ j < i + 1 by omega]
      · by_cases hji : j = i
        · subst hji
          simp only [if_true]
          exact (mb.mono hzW).chg c2 (hA1.mine_ne mb (by decide))
        · simp only [hji, if_false]
          have m := (hM j (by omega)).kept ((kept_drew W).trans kb)
          exact m.chg c2 (hA1.mine_ne m (by decide))
    · simp only [decide_eq_false_iff_not] at hc2
      have : i = pages g := by omega
      subst this
      refine ⟨ds, hA.cast (List.map_congr_left fun j hj => ?_), hM, cW⟩
      have := List.mem_range.1 hj
      simp [this]
  rintro _ w5 ⟨ds, hA, hM, c5⟩ _
  have kw5 : Kept w w5 := kw4.then c5 fun x hx => by omega
  have zz1 := World.block_lt_of_cell? _ _ hg1.1
  have hnp : ¬ pn = pd := by omega
  have hg5 : GeoAt w5 ⟨w.heap.size, 0, none⟩ g := hg4.chg c5 (by show ¬ w.heap.size = pd; dsimp only at zz1; omega)
  have hn5 := hn4.chg c5 hnp
  have hz5 := hz4.chg c5 (hz4.ne hd4 (by decide))
  have hsz5 := c5.size
  clear c5 hd4 hz4 hd2 hz3 hg1 hg3 hg4 hn4
  obtain ⟨D, hD⟩ : ∃ D : Nat, g.1 = (D : Int) := ⟨g.1.toNat, by omega⟩
  obtain ⟨B, hB⟩ : ∃ B : Nat, g.2.1 = (B : Int) := ⟨g.2.1.toNat, by omega⟩
  refine rdI_of hg5.1 ?_
  rw [hD]
  -- the dies
  refine joinT_of (fun _ W => ∃ (ps : Nat → Nat) (s : Sl), Blk W pn 111 [.int .i64 g.1, .int .i64 g.2.1, .int .i64 g.2.2.1, .int .i64 g.1, .int .i64 g.2.1, .int .i64 g.2.2.1, .slice (some ⟨pd, 0, none⟩) (pages g) (pages g), .int .i64 g.1, .int .i64 g.2.1, .int .i64 g.2.2.1, .slice (some ⟨pz, 0, none⟩) (pages g) (pages g), s.v, .int .i64 0, .slice none 0 0, .bool false, .int .i64 0, .int .i64 0] ∧
      Mine eS 113 w5.heap.size W s ((List.range D).map fun d => ⟨some ⟨ps d, 0, none⟩, B, B⟩) ∧ (∀ d, d < D → Blk W (ps d) 115 ((List.range B).flatMap fun _ => [.int .i64 0, .int .i64 0, .bool false]) ∧ w5.heap.size ≤ ps d) ∧ (∀ d d', d < d' → d' < D → ps d < ps d') ∧ Chg (· = pn) w5 W) ?_ ?_
  · refine loopT_of (fun e W => ∃ (i : Nat) (ps : Nat → Nat) (s : Sl), e = ((i : Int), ()) ∧ i ≤ D ∧ Blk W pn 111 [.int .i64 g.1, .int .i64 g.2.1, .int .i64 g.2.2.1, .int .i64 g.1, .int .i64 g.2.1, .int .i64 g.2.2.1, .slice (some ⟨pd, 0, none⟩) (pages g) (pages g), .int .i64 g.1, .int .i64 g.2.1, .int .i64 g.2.2.1, .slice (some ⟨pz, 0, none⟩) (pages g) (pages g), s.v, .int .i64 0, .slice none 0 0, .bool false, .int .i64 0, .int .i64 0] ∧
        Mine eS 113 w5.heap.size W s ((List.range i).map fun d => ⟨some ⟨ps d, 0, none⟩, B, B⟩) ∧ (∀ d, d < i → Blk W (ps d) 115 ((List.range B).flatMap fun _ => [.int .i64 0, .int .i64 0, .bool false]) ∧ w5.heap.size ≤ ps d) ∧ (∀ d d', d < d' → d' < i → ps d < ps d') ∧ Chg (· = pn) w5 W) (fun e _ => D - e.1.toNat)
      ⟨0, fun _ => 0, ⟨none, 0, 0⟩, rfl, by omega, hn5, Mine.nil, by simp, by simp, Chg.refl _ _⟩ ?_
    rintro e W ⟨i, ps, s, rfl, hi, hn, hs, hp, hpi, cW⟩ _
    refine cond_of (fun hc2 => ?_) fun hc2 => ?_
    · simp only [decide_eq_true_eq] at hc2
      have hnd := hn.kept (kept_drew W)
      have hgW := hg5.chg cW (by show ¬ w.heap.size = pn; dsimp only at zz1; omega)
      refine nn_of (rdS_of (s := s) (hnd.ad 11 rfl) (rdI_of (hgW.kept (kept_drew W)).2.1 ?_))
      refine ⟨by omega, by omega, by omega, by omega, ?_⟩
      have hBn : g.2.1.toNat = B := by omega
      simp only [hBn, zeroRow3]
      refine alW fun W1 hp1 k1' hlt1 => ?_
      refine rdS_of (s := s) ((hnd.kept k1').ad 11 rfl) ⟨rfl, alW (cs := [.slice (some ⟨W.drew.heap.size, 0, none⟩) B B]) fun W2 hq2 k2' hlt2 => ?_⟩
      have k02 := (kept_drew W).trans (k1'.trans k2')
      refine rdS_of (s := s) (((hnd.kept k1').kept k2').ad 11 rfl) ⟨rfl, ?_⟩
      have hszW := cW.size
      have hzW : W.drew.heap.size = W.heap.size := rfl
      refine raw_push szD (enc := eS) (fun _ => rfl) (x := ⟨some ⟨W.drew.heap.size, 0, none⟩, B, B⟩) (hs.kept k02) hq2 (by omega) (by simp; omega) fun s' W3 g1 g2 g3 => ?_
      simp only [decS_sl]
      have hn3 := ((hnd.kept k1').kept k2').below g3 (by omega)
      refine nn_of (wrW hn3 11 (by simp) fun W4 hn4 c4 => ?_)
      rw [int_next (by omega)]
      have hown : ∀ b e' cs, Blk W2 b e' cs → (113 : TypeId) ≠ e' → ¬ some b = s.v.ownBlock := fun b e' cs hb hne h => by
        cases hsa : s.a with
        | none => obtain ⟨a, l, c⟩ := s; simp at hsa; subst hsa; simp [Value.ownBlock] at h
        | some a =>
          have := (hs.kept k02).ne_blk hb hne a hsa
          obtain ⟨a', l, c⟩ := s
          simp at hsa
          subst hsa
          simp [Value.ownBlock] at h
          exact this h.symm
      refine ⟨⟨i + 1, fun d => if d = i then W.heap.size else ps d, s', rfl, by omega, hn4, ?_, fun d hd => ?_, fun d d' hdd hd' => ?_, ?_⟩, by simp; omega⟩
      · have e : (List.range (i + 1)).map (fun d => (⟨some ⟨if d = i then W.heap.size else ps d, 0, none⟩, B, B⟩ : Sl)) = (List.range i).map (fun d => (⟨some ⟨ps d, 0, none⟩, B, B⟩ : Sl)) ++ [⟨some ⟨W.heap.size, 0, none⟩, B, B⟩] := by
          rw [List.range_succ, List.map_append]
          congr 1
          · refine List.map_congr_left fun d hd => ?_
            have := List.mem_range.1 hd
            simp [show ¬ d = i by omega]
          · simp
        rw [e]
        exact g1.chg c4 (hn3.mine_ne g1 (by decide))
      · by_cases hdi : d = i
        · subst hdi
          simp only [if_true]
          have h2 := hp1.kept k2'
          have h3 := h2.chg g2 (hown _ _ _ h2 (by decide))
          exact ⟨h3.chg c4 (h3.ne hn3 (by decide)), hszW⟩
        · simp only [hdi, if_false]
          obtain ⟨q1, q2⟩ := hp d (by omega)
          have h2 := q1.kept k02
          have h3 := h2.chg g2 (hown _ _ _ h2 (by decide))
          exact ⟨h3.chg c4 (h3.ne hn3 (by decide)), q2⟩
      · have hdi : ¬ d = i := by omega
        by_cases hdi' : d' = i
        · subst hdi'
          simp only [if_true, hdi, if_false]
          exact (hp d (by omega)).1.lt
        · simp only [hdi, hdi', if_false]
          exact hpi d d' hdd (by omega)
      · exact ((cW.keep k02).then_below g3 (Nat.le_refl _)).trans c4
    · simp only [decide_eq_false_iff_not] at hc2
      have : i = D := by omega
      subst this
      exact ⟨ps, s, hn, hs, hp, hpi, cW⟩
  rintro _ w6 ⟨ps, s, hn6, hs6, hp6, hpi, c6⟩ _
  have kw6 : Kept w w6 := kw5.then c6 fun x hx => by omega
  have hDn : g.1.toNat = D := by omega
  have hBn : g.2.1.toNat = B := by omega
  have hg6 := hg5.chg c6 (by show ¬ w.heap.size = pn; dsimp only at zz1; omega)
  obtain ⟨pb, cap, hsf, hnd⟩ : ∃ pb cap, s = ⟨some ⟨pb, 0, none⟩, D, cap⟩ ∧ True := by
    rcases hs6.forms with ⟨_, h2⟩ | ⟨pb, cap, cur, h2, _⟩
    · exfalso
      have := congrArg List.length h2
      simp at this
      omega
    · exact ⟨pb, cap, by simpa using h2, trivial⟩
  subst hsf
  obtain ⟨L, hL⟩ : ∃ L : NLay, L = ⟨pn, pd, pz, pb, ps, D⟩ := ⟨_, rfl⟩
  have hN : NandAt w.heap.size w6 L (Nd.new g []) := by
    subst hL
    have hpn5 : Blk w5 pn 111 _ := hn5
    refine ⟨Nd.Ok.new hc [], cap, ⟨none, 0, 0⟩, ?_, ⟨hDn.symm, ⟨by show _ ≤ pn; omega, by show _ ≤ pd; omega, by show _ ≤ pz; omega, fun d hd => by have := (hp6 d hd).2; show _ ≤ ps d; omega⟩,
      ⟨ds, Blk.chg hA c6 (hA.ne hn5 (by decide)), fun d b p hd hb hp => (hM _ (pix_lt hd hb hp)).chg c6 (hn5.mine_ne (hM _ (pix_lt hd hb hp)) (by decide))⟩,
      ⟨fun _ => ⟨none, 0, 0⟩, ?_, fun d b p _ _ _ => Mine.nil⟩, ?_, fun d hd => ?_, fun d d' hd hd' he => ?_, Mine.nil⟩⟩
    · have e : nandCells ⟨pn, pd, pz, pb, ps, D⟩ cap ⟨none, 0, 0⟩ (Nd.new g []) = _ := rfl
      rw [e]
      simp only [nandCells, Nd.new, hDn]
      exact hn6
    · refine (hz5.chg c6 (hz5.ne hn5 (by decide))).cast ?_
      simp [List.map_const', Nd.new]
    · have : (List.range (Nd.new g []).g.1.toNat).map (dieSl ⟨pn, pd, pz, pb, ps, D⟩ (Nd.new g []).g) = (List.range D).map fun d => ⟨some ⟨ps d, 0, none⟩, B, B⟩ := by
        simp only [Nd.new, hDn]
        refine List.map_congr_left fun d _ => ?_
        simp only [dieSl, hBn]
      rw [this]
      simp only [Nd.new, hDn]
      exact hs6.mono (by omega)
    · change d < g.1.toNat at hd
      refine ((hp6 d (by omega)).1).cast ?_
      have := newCells g [] d
      simp only [Nd.new] at this ⊢
      rw [hBn] at this ⊢
      exact this
    · rcases Nat.lt_trichotomy d d' with h | h | h
      · have := hpi d d' h hd'; dsimp only at he; omega
      · exact h
      · have := hpi d' d h hd; dsimp only at he; omega
  have hpe : (⟨pn, 0, none⟩ : Addr) = ⟨L.pn, 0, none⟩ := by rw [hL]
  rw [hpe]
  have hdis : w.heap.size < L.pn := by rw [hL]; show _ < pn; dsimp only at zz1; omega
  have hlo : ∀ x, L.mut x → w.heap.size < x := by
    rw [hL]
    rintro x (rfl | rfl | rfl | ⟨d, hd, rfl⟩)
    · dsimp only at zz1 ⊢; omega
    · dsimp only at zz1 ⊢; omega
    · dsimp only at zz1 ⊢; omega
    · have := (hp6 d hd).2; dsimp only at zz1 ⊢; omega
  clear hL hpe hn6 hs6 hp6 hpi hA hM hz5 hn5 c6 hg5
  -- the bad blocks
  refine joinT_of (fun _ W => NandAt w.heap.size W L (Nd.new g xs) ∧ Kept w W ∧ newE g xs = 0) ?_ ?_
  · refine loopT_of (fun e W => ∃ i : Nat, e = ((i : Int), ()) ∧ i ≤ xs.length ∧ NandAt w.heap.size W L (Nd.new g (xs.take i)) ∧ Kept w W ∧ ∀ j (hj : j < xs.length), j < i → thereG g xs[j] = true) (fun e _ => xs.length - e.1.toNat)
      ⟨0, rfl, by omega, by simpa using hN, kw6, by simp⟩ ?_
    rintro e W ⟨i, rfl, hi, h1, kW, hall⟩ _
    refine cond_of (fun hc2 => ?_) fun hc2 => ?_
    · simp [hbl] at hc2
      refine (hbad.kept kW).ix hc2 fun q hq e1 e2 => rdI_of e1 (rdI_of e2 ?_)
      refine alW (cs := [.int .i64 0, .int .i64 0]) fun W1 hb1 k1' hlt1 => wr0 hb1 (by simp) fun W2 hb2 c2 => wrW hb2 1 (by simp) fun W3 hb3 c3 => ?_
      have k3' : Kept W W3 := k1'.then (c2.trans c3) fun x hx => by omega
      refine ⟨by omega, by omega, rdI_of (hb3.at 0 rfl) ⟨by omega, by omega, rdI_of (hb3.ad 1 rfl) ?_⟩⟩
      replace h1 := h1.kept k3'
      refine (there_ok h1).mono ?_
      rintro v W4 ⟨rfl, rfl⟩
      simp only [decB_bool]
      have hth : (Nd.new g (xs.take i)).there xs[i].1 xs[i].2 = thereG g xs[i] := rfl
      rw [hth]
      refine cond_of (fun hc3 => ?_) fun hc3 => ?_
      · simp at hc3
        refine ⟨kW.trans k3', .inr ⟨?_, by trivial⟩⟩
        have : xs.all (thereG g) = false := by
          rw [List.all_eq_false]
          exact ⟨xs[i], List.getElem_mem _, by simp [hc3]⟩
        simp [newE, this]
      · simp at hc3
        obtain ⟨hd0, hd1, hb0, hb1⟩ := Nd.there_iff.1 (hth.trans hc3)
        change xs[i].1 < g.1 at hd1
        change xs[i].2 < g.2.1 at hb1
        have ht : xs.take (i + 1) = xs.take i ++ [xs[i]] := by rw [List.take_append_getElem]
        obtain ⟨⟨xd, xb⟩, hx⟩ : ∃ p : Int × Int, xs[i] = p := ⟨_, rfl⟩
        have hc3' := hc3
        rw [hx] at hd0 hd1 hb0 hb1 ht hb3
        simp only at hd0 hd1 hb0 hb1 hb3
        obtain ⟨dn, rfl⟩ := nat_of hd0
        obtain ⟨bn, rfl⟩ := nat_of hb0
        replace h1 := h1.kept (kept_drew W4)
        obtain ⟨cap', mk, hB', hr⟩ := h1.at_
        have hb4 := hb3.kept (kept_drew W4)
        refine nn_of (rdS_of (s := ⟨some ⟨L.pb, 0, none⟩, g.1.toNat, cap'⟩) (hB'.ad 11 rfl) ⟨by omega, by omega, rdI_of (hb4.at 0 rfl) ?_⟩)
        refine hr.dieRow (d := dn) (show dn < g.1.toNat by omega) ⟨by omega, by omega, rdI_of (hb4.ad 1 rfl) (dieIx (b := bn) (show bn < g.2.1.toNat by omega) ?_)⟩
        refine h1.wrDie (d := dn) (b := bn) (show dn < g.1.toNat by omega) (show bn < g.2.1.toNat by omega) (j := 2) (st' := Nd.new g (xs.take (i + 1))) (by omega) rfl rfl rfl rfl rfl rfl rfl rfl (fun d' k => ?_) fun W5 h5 c5 => ?_
        · rw [ht]
          by_cases he : d' = dn ∧ k = bn
          · obtain ⟨rfl, rfl⟩ := he; simp [stCells, Nd.new]
          · have : ¬ ((d' : Int) = (dn : Int) ∧ (k : Int) = (bn : Int)) := fun h => he ⟨by omega, by omega⟩
            rw [if_neg he]
            simp [stCells, Nd.new, Prod.ext_iff, this]
            try (intro h2 h3; exact absurd ⟨h2, h3⟩ this)
        · rw [int_next (by omega)]
          refine ⟨⟨i + 1, rfl, by omega, h5, (kW.trans (k3'.trans (kept_drew W4))).then c5 fun x hx hm => by have := hlo x hm; omega, fun j hj hji => ?_⟩, by simp; omega⟩
          by_cases hjl : j < i
          · exact hall j hj hjl
          · have : j = i := by omega
            subst this
            exact hc3'
    · simp [hbl] at hc2
      have : i = xs.length := by omega
      subst this
      rw [List.take_length] at h1
      refine ⟨h1, kW, ?_⟩
      have : xs.all (thereG g) = true := by
        rw [List.all_eq_true]
        intro x hx
        obtain ⟨j, hj, rfl⟩ := List.getElem_of_mem hx
        exact hall j hj hj
      simp [newE, hc, this]
  · rintro _ W ⟨h1, kW, he⟩ _
    exact ⟨kW, .inl ⟨he, L, rfl, h1⟩⟩
end Go.Proofs.Ytppfnkedbpmliaa
