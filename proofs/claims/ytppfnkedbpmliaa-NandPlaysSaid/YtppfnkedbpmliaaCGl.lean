/- What the laws' own helpers compute: known (ramekinlaw9), Make and Spoil (ramekinlaw7). -/
import Derived.Test.YtppfnkedbpmliaaCSs
set_option linter.unusedVariables false
set_option linter.unusedSimpArgs false
namespace Go.Proofs.Ytppfnkedbpmliaa
open Go Go.Rk
open Go.RowKit (Below)

/-- A local geometry, made nought and written. -/
theorem geo_init {w : World} {a b c : Int} {K : Addr → World → Prop} (k : ∀ W, GeoAt W ⟨w.heap.size, 0, none⟩ (a, b, c, ()) → Blk W w.heap.size 29 [.int .i64 a, .int .i64 b, .int .i64 c] → Kept w W → K ⟨w.heap.size, 0, none⟩ W) :
    al w (.cells #[.int .i64 0, .int .i64 0, .int .i64 0] 29) fun p1 w2 => wr w2 p1 (.int .i64 a) fun w3 => wr w3 (p1.add 1) (.int .i64 b) fun w4 => wr w4 (p1.add 2) (.int .i64 c) fun w5 => K p1 w5 := by
  refine alW (cs := [.int .i64 0, .int .i64 0, .int .i64 0]) fun W hb hk hlt => ?_
  refine wr0 hb (by simp) fun W1 hb1 c1 => wrW hb1 1 (by simp) fun W2 hb2 c2 => wrW hb2 2 (by simp) fun W3 hb3 c3 => ?_
  have hb3' : Blk W3 w.heap.size 29 [.int .i64 a, .int .i64 b, .int .i64 c] := hb3
  refine k W3 ⟨hb3'.at 0 rfl, hb3'.ad 1 rfl, hb3'.ad 2 rfl⟩ hb3' (hk.then ((c1.trans c2).trans c3) fun x hx => by omega)
theorem rdGeo {w : World} {p : Addr} {g : Geo} {K : Int → Int → Int → Prop} (h : GeoAt w p g) (k : K g.1 g.2.1 g.2.2.1) : rdI .i64 w p fun n5 => rdI .i64 w (p.add 1) fun n6 => rdI .i64 w (p.add 2) fun n7 => K n5 n6 n7 :=
  rdI_of h.1 (rdI_of h.2.1 (rdI_of h.2.2 k))
/-- The law's own geometry, whatever three numbers come in. -/
theorem alGeo {w : World} {g : Geo} {K : Addr → World → Prop} (k : ∀ W, GeoAt W ⟨w.heap.size, 0, none⟩ g → Kept w W → K ⟨w.heap.size, 0, none⟩ W) :
    al w (.cells #[.int .i64 g.1, .int .i64 g.2.1, .int .i64 g.2.2.1] 29) K := k _ (GeoAt.new w g 29) (kept_alloc w _)

theorem known9_ok {w : World} : Ok Try.prog 25 [] w fun v w' => v = .bool true ∧ Kept w w' := by
  apply u25
  unfold T25
  refine geo_init fun W hg _ k => ?_
  have hf : fits (6, 8, 4, ()) = true := by decide
  refine joinT_of (fun d W' => d.1 = true ∧ Kept w W') ?_ ?_
  · refine rdGeo hg (check_ok.mono ?_)
    rintro v w1 ⟨rfl, k1⟩
    simp only [decI_int, hf, if_true]
    refine cond_t (by decide) (rdGeo (hg.kept k1) ((sectors_ok (g := (6, 8, 4, ()))).mono ?_))
    rintro v w2 ⟨rfl, k2⟩
    simp only [decI_int]
    refine cond_t (by decide) (rdGeo ((hg.kept k1).kept k2) ((slots_ok (g := (6, 8, 4, ()))).mono ?_))
    rintro v w3 ⟨rfl, k3⟩
    simp only [decI_int]
    exact ⟨by decide, k.trans (k1.trans (k2.trans k3))⟩
  · rintro ⟨d, _⟩ W' ⟨rfl, k'⟩ _
    exact ⟨rfl, k'⟩

def makeOf (g : Geo) : Geo := (6 + g.1 % 3, 8 + g.2.1 % 5, 4 + g.2.2.1 % 5, ())
theorem make_fits (g : Geo) : fits (makeOf g) = true := by
  simp only [fits, Bool.and_eq_true, decide_eq_true_eq]
  simp only [makeOf]
  omega
theorem make_ok {w : World} {g : Geo} : Ok Try.prog 26 [gv g] w fun v w' => v = gv (makeOf g) ∧ Kept w w' := by
  apply u26
  unfold T26
  refine alGeo fun W hg k => ?_
  refine alW (cs := [.int .i64 0, .int .i64 0, .int .i64 0]) fun W1 hb k1 hlt => ?_
  have hg1 := (hg.kept k1).kept (kept_drew W1)
  refine rdGeo hg1 ((within_ok (by omega) (by omega) (fun h => u38 h)).mono ?_)
  rintro v w2 ⟨rfl, rfl⟩
  simp only [decI_int]
  refine rdI_of hg1.2.1 ⟨rfl, rdI_of hg1.2.2 ⟨rfl, (within_ok (by omega) (by omega) (fun h => u38 h)).mono ?_⟩⟩
  rintro v w2 ⟨rfl, rfl⟩
  simp only [decI_int]
  refine rdI_of hg1.2.2 ⟨rfl, (within_ok (by omega) (by omega) (fun h => u38 h)).mono ?_⟩
  rintro v w2 ⟨rfl, rfl⟩
  simp only [decI_int]
  rw [w64 (by omega) (by omega), w64 (by omega) (by omega), w64 (by omega) (by omega)]
  have hb1 := hb.kept (kept_drew W1)
  refine wr0 hb1 (by simp) fun W3 hb3 c3 => wrW hb3 1 (by simp) fun W4 hb4 c4 => wrW hb4 2 (by simp) fun W5 hb5 c5 => ?_
  have hb5' : Blk W5 W.heap.size 29 [.int .i64 (6 + g.1 % 3), .int .i64 (8 + g.2.1 % 5), .int .i64 (4 + g.2.2.1 % 5)] := hb5
  refine rdI_of (hb5'.at 0 rfl) (rdI_of (hb5'.ad 1 rfl) (rdI_of (hb5'.ad 2 rfl) ⟨rfl, ?_⟩))
  exact k.trans ((k1.trans (kept_drew W1)).then ((c3.trans c4).trans c5) fun x hx => by omega)

/-- The blocks that Spoil spoils. -/
def spoilN (B : Int) (zs : List Int) (n : Nat) : List (Int × Int) := (List.range n).flatMap fun i : Nat => if zs.getD i 0 % (2 * B) < B then [((i : Int), zs.getD i 0 % (2 * B))] else []
theorem spoilN_succ (B : Int) (zs : List Int) (n : Nat) : spoilN B zs (n + 1) = spoilN B zs n ++ if zs.getD n 0 % (2 * B) < B then [((n : Int), zs.getD n 0 % (2 * B))] else [] := by simp [spoilN, List.range_succ]
theorem spoilN_len (B : Int) (zs : List Int) : ∀ n, (spoilN B zs n).length ≤ n
  | 0 => by simp [spoilN]
  | n + 1 => by
    have := spoilN_len B zs n
    rw [spoilN_succ, List.length_append]
    split <;> simp <;> omega
def spoilOf (g : Geo) (zs : List Int) : List (Int × Int) := spoilN g.2.1 zs (min zs.length g.1.toNat)
theorem eP2 (x : Int × Int) : (eP x).length = 2 := rfl
theorem eP1 (x : Int × Int) : ∀ v ∈ eP x, v.oneCell' = true := by simp [eP, Value.oneCell']
theorem szP : SzN Try.prog 30 42 2 := SzN_of (by kernel_rfl)
theorem spoil_ok {w : World} {g : Geo} {l : Sl} {zs : List Int} (hf : fits g = true) (h : Row eI w l zs) :
    Ok Try.prog 27 [gv g, l.v] w fun v w' => ∃ s : Sl, v = s.v ∧ Kept w w' ∧ MineN 2 eP 42 w.heap.size w' s (spoilOf g zs) := by
  apply u27
  unfold T27
  obtain ⟨a1, a2, a3, a4, a5, a6⟩ := fits_bounds hf
  refine alGeo fun W hg k => ?_
  have hl := h.len
  refine joinT_of (fun d W' => Kept w W' ∧ MineN 2 eP 42 W.heap.size W' d.1 (spoilOf g zs)) ?_ ?_
  · refine loopT_of (fun d W' => ∃ (i : Nat) (s : Sl), d = (s, (i : Int), ()) ∧ i ≤ min zs.length g.1.toNat ∧ Kept W W' ∧ MineN 2 eP 42 W.heap.size W' s (spoilN g.2.1 zs i)) (fun d _ => zs.length - d.2.1.toNat)
      ⟨0, ⟨none, 0, 0⟩, rfl, by omega, kept_refl _, MineN.nil⟩ ?_
    rintro d W1 ⟨i, s, rfl, hi, k1, m1⟩ _
    have hg1 := hg.kept k1
    refine joinT_of (fun d W' => d.1 = decide (i < min zs.length g.1.toNat) ∧ W' = W1) ?_ ?_
    · refine cond_of (fun hc => ?_) fun hc => ?_
      · simp [hl] at hc
        refine rdI_of hg1.1 ⟨?_, rfl⟩
        simp
        omega
      · simp [hl] at hc
        refine ⟨?_, rfl⟩
        simp
        omega
    · rintro ⟨d, _⟩ W' ⟨hd, rfl⟩ _
      simp only at hd
      subst hd
      refine cond_of (fun hc => ?_) fun hc => ?_
      · simp at hc
        have h1 := (h.kept k).kept (k1.trans (kept_drew W'))
        have hg2 := hg1.kept (kept_drew W')
        refine h1.ix (show i < zs.length by omega) fun q hq hcell => rdI_of hcell (rdI_of hg2.2.1 ?_)
        rw [w64 (by omega) (by omega)]
        refine (within_ok (by omega) (by omega) (fun h => u38 h)).mono ?_
        rintro v w2 ⟨rfl, rfl⟩
        simp only [decI_int]
        refine rdI_of hg2.2.1 ?_
        have hgd : zs.getD i 0 = zs[i] := by simp [List.getD, List.getElem?_eq_getElem (show i < zs.length by omega)]
        refine joinT_of (fun d W2 => Kept W W2 ∧ MineN 2 eP 42 W.heap.size W2 d.1 (spoilN g.2.1 zs (i + 1))) ?_ ?_
        · refine cond_of (fun hc2 => ?_) fun hc2 => ?_
          · simp only [decide_eq_true_eq] at hc2
            unfold al
            have hz := (k1.trans (kept_drew W')).size
            refine pushN szP eP2 eP1 (cs := [.int .i64 (i : Int), .int .i64 (zs[i] % (2 * g.2.1))]) [((i : Int), zs[i] % (2 * g.2.1))] (m1.kept (kept_drew W')) hz (by have := spoilN_len g.2.1 zs i; simp; omega) rfl rfl fun s' W2 g1 g2 => ?_
            simp only [decS_sl]
            refine ⟨?_, ?_⟩
            · exact Below.trans (k1.trans (kept_drew W')) g2
            · rw [spoilN_succ, hgd, if_pos hc2]
              exact g1
          · simp only [decide_eq_false_iff_not] at hc2
            refine ⟨k1.trans (kept_drew W'), ?_⟩
            rw [spoilN_succ, hgd, if_neg hc2, List.append_nil]
            exact m1.kept (kept_drew W')
        · rintro ⟨s', _⟩ W2 ⟨k2, m2⟩ _
          simp only at m2
          rw [int_next (by omega)]
          exact ⟨⟨i + 1, s', rfl, by omega, k2, m2⟩, by simp; omega⟩
      · simp at hc
        have : i = min zs.length g.1.toNat := by omega
        subst this
        exact ⟨k.trans k1, m1⟩
  · rintro ⟨s, _⟩ W' ⟨k', m'⟩ _
    exact ⟨s, rfl, k', m'.mono k.size⟩
end Go.Proofs.Ytppfnkedbpmliaa
