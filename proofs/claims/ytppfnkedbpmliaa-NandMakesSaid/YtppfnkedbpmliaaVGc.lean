/- geom does as the law GeomBounds says: each number of a geometry by itself, at its bound and beyond it. -/
import Derived.Test.YtppfnkedbpmliaaVGb
set_option linter.unusedVariables false
set_option linter.unusedSimpArgs false
namespace Go.Proofs.Ytppfnkedbpmliaa
open Go Go.Rk
open Go.RowKit (Below)

theorem _root_.Go.Rk.Row2.nil {w : World} : Row2 w ⟨none, 0, 0⟩ [] := ⟨rfl, fun _ => rfl, fun i h => by simp at h⟩
theorem supers_nil {g : Geo} (hf : fits g = true) : ((supersOf g []).length : Int) = g.2.1 := by
  obtain ⟨a1, a2, a3, a4, a5, a6⟩ := fits_bounds hf
  have h1 := supers_len (xs := []) hf (m := g.2.1.toNat) (Nat.le_refl _) fun d _ => by rw [goods_all (by simp)]; exact Nat.le_refl _
  have h2 := supers_len_eq (xs := []) hf (d := 0) (by omega)
  rw [goods_all (by simp)] at h2
  omega

theorem geomBounds_ok {w : World} {which far : Int} {above : Bool} :
    Ok Try.prog 6 [.int .i64 which, .bool above, .int .i64 far] w fun v w' => v = .bool true ∧ Kept w w' := by
  apply u6
  unfold T6
  refine known9_ok.mono ?_
  rintro v w1 ⟨rfl, k1⟩
  simp only [decB_bool]
  refine cond_f rfl ?_
  refine joinT_of (fun d W => ((above = false ∧ d.1 = 0) ∨ (above = true ∧ 1 ≤ d.1 ∧ d.1 ≤ 1000)) ∧ Kept w W) ?_ ?_
  · refine cond_of (fun h => ?_) fun h => ?_
    · refine (within_ok (by omega) (by omega) (fun h => u36 h)).mono ?_
      rintro v w2 ⟨rfl, rfl⟩
      simp only [decI_int]
      rw [w64 (by omega) (by omega)]
      exact ⟨.inr ⟨h, by omega, by omega⟩, k1⟩
    · exact ⟨.inl ⟨h, rfl⟩, k1⟩
  · rintro ⟨x, _⟩ W ⟨hx, k⟩ _
    simp only at hx ⊢
    refine geo_init fun W2 _ hb k2 => ?_
    refine (within_ok (by omega) (by omega) (fun h => u36 h)).mono ?_
    rintro v W3 ⟨rfl, rfl⟩
    simp only [decI_int]
    have b1 := Int.emod_nonneg which (show (6 : Int) ≠ 0 by omega)
    have b2 := Int.emod_lt_of_pos which (show (0 : Int) < 6 by omega)
    generalize which % 6 = q at b1 b2 ⊢
    have hx0 : 0 ≤ x ∧ x ≤ 1000 := by omega
    rw [w64 (n := 8 + x) (by omega) (by omega), w64 (n := 6 - x) (by omega) (by omega), w64 (n := 12 + x) (by omega) (by omega), w64 (n := 8 - x) (by omega) (by omega), w64 (n := 4 - x) (by omega) (by omega)]
    have fin : ∀ (a b c : Int) (W4 : World), Blk W4 W.heap.size 29 [.int .i64 a, .int .i64 b, .int .i64 c] → Chg (· = W.heap.size) W3 W4 → fits (a, b, c, ()) = !above →
        ∃ g : Geo, GeoAt W4 ⟨W.heap.size, 0, none⟩ g ∧ Kept w W4 ∧ fits g = !above := fun a b c W4 hb4 c4 hf =>
      ⟨(a, b, c, ()), ⟨hb4.at 0 rfl, hb4.ad 1 rfl, hb4.ad 2 rfl⟩, k.trans (k2.then c4 fun y hy => by omega), hf⟩
    refine joinT_of (fun _ W4 => ∃ g : Geo, GeoAt W4 ⟨W.heap.size, 0, none⟩ g ∧ Kept w W4 ∧ fits g = !above) ?_ ?_
    · refine cond_of (fun h => ?_) fun h => ?_
      · refine wr0 hb (by simp) fun W4 hb4 c4 => fin _ _ _ W4 hb4 c4 ?_
        rcases hx with ⟨ha, rfl⟩ | ⟨ha, h1, h2⟩
        · rw [ha]; decide
        · rw [ha]; simp [fits]; omega
      refine joinT_thru (cond_of (fun h => ?_) fun h => ?_)
      · refine wr0 hb (by simp) fun W4 hb4 c4 => ?_
        repeat intro _
        refine fin _ _ _ W4 hb4 c4 ?_
        rcases hx with ⟨ha, rfl⟩ | ⟨ha, h1, h2⟩
        · rw [ha]; decide
        · rw [ha]; simp [fits]; omega
      refine joinT_thru (cond_of (fun h => ?_) fun h => ?_)
      · refine wrW hb 1 (by simp) fun W4 hb4 c4 => ?_
        repeat intro _
        refine fin _ _ _ W4 hb4 c4 ?_
        rcases hx with ⟨ha, rfl⟩ | ⟨ha, h1, h2⟩
        · rw [ha]; decide
        · rw [ha]; simp [fits]; omega
      refine joinT_thru (cond_of (fun h => ?_) fun h => ?_)
      · refine wrW hb 1 (by simp) fun W4 hb4 c4 => ?_
        repeat intro _
        refine fin _ _ _ W4 hb4 c4 ?_
        rcases hx with ⟨ha, rfl⟩ | ⟨ha, h1, h2⟩
        · rw [ha]; decide
        · rw [ha]; simp [fits]; omega
      refine joinT_thru (cond_of (fun h => ?_) fun h => ?_)
      · refine wrW hb 2 (by simp) fun W4 hb4 c4 => ?_
        repeat intro _
        refine fin _ _ _ W4 hb4 c4 ?_
        rcases hx with ⟨ha, rfl⟩ | ⟨ha, h1, h2⟩
        · rw [ha]; decide
        · rw [ha]; simp [fits]; omega
      refine joinT_thru (cond_of (fun h => ?_) fun h => ?_)
      · refine wrW hb 2 (by simp) fun W4 hb4 c4 => ?_
        repeat intro _
        refine fin _ _ _ W4 hb4 c4 ?_
        rcases hx with ⟨ha, rfl⟩ | ⟨ha, h1, h2⟩
        · rw [ha]; decide
        · rw [ha]; simp [fits]; omega
      · exfalso
        simp at *
        omega
    · rintro _ W4 ⟨g, hg, k4, hf⟩ _
      refine cond_of (fun h => ?_) fun h => ?_
      · simp only [h, Bool.not_true] at hf
        refine joinT_of (fun d W => d.1 = true ∧ Kept w W) ?_ ?_
        · refine rdGeo hg (check_ok.mono ?_)
          rintro v W5 ⟨rfl, k5⟩
          simp only [decI_int]
          refine cond_t (by simp [hf]) (rdGeo (hg.kept k5) ((supers_ok (s := ⟨none, 0, 0⟩) (xs := []) Row2.nil (by simp)).mono ?_))
          rintro v W6 ⟨s6, rfl, k6, n6⟩
          simp only [decS_sl]
          have := n6.len
          rw [supers_none hf] at this
          refine cond_t (by simp [this]) (rdGeo ((hg.kept k5).kept k6) (sectors_ok.mono ?_))
          rintro v W7 ⟨rfl, k7⟩
          simp only [decI_int]
          refine cond_t (by simp [sectors, hf]) (rdGeo (((hg.kept k5).kept k6).kept k7) (slots_ok.mono ?_))
          rintro v W8 ⟨rfl, k8⟩
          simp only [decI_int]
          exact ⟨by simp [slots, hf], k4.trans (k5.trans (k6.trans (k7.trans k8)))⟩
        · rintro ⟨d, _⟩ W5 ⟨rfl, k5⟩ _
          exact ⟨rfl, k5⟩
      · simp only [h, Bool.not_false] at hf
        have hb := fits_bounds hf
        refine joinT_of (fun d W => d.1 = true ∧ Kept w W) ?_ ?_
        · replace hg := hg.kept (kept_drew W4)
          refine rdGeo hg (check_ok.mono ?_)
          rintro v W5 ⟨rfl, k5⟩
          simp only [decI_int]
          replace hg := hg.kept k5
          refine cond_t (by simp [hf]) (rdGeo hg (rdI_of hg.2.1 ((supers_ok (s := ⟨none, 0, 0⟩) (xs := []) Row2.nil (by simp)).mono ?_)))
          rintro v W6 ⟨s6, rfl, k6, n6⟩
          simp only [decS_sl]
          replace hg := hg.kept k6
          have := n6.len
          have hn := supers_nil hf
          refine rdI_of hg.2.1 ⟨rfl, cond_t (by simp [this, hn]) (rdGeo hg (rdI_of hg.1 (slots_ok.mono ?_)))⟩
          rintro v W7 ⟨rfl, k7⟩
          simp only [decI_int]
          replace hg := hg.kept k7
          refine rdI_of hg.1 ⟨rfl, ?_, k4.trans ((kept_drew W4).trans (k5.trans (k6.trans k7)))⟩
          rw [w64 (by omega) (by omega)]
          simp [slots, hf]
        · rintro ⟨d, _⟩ W5 ⟨rfl, k5⟩ _
          exact ⟨rfl, k5⟩
end Go.Proofs.Ytppfnkedbpmliaa
