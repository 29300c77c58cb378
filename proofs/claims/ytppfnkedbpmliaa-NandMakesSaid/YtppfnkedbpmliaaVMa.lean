/- nand does as the law NandMakes says: it takes the geometries and bad blocks that the reference takes, and no other. -/
import Derived.Test.YtppfnkedbpmliaaVGc
import Derived.Test.YtppfnkedbpmliaaVNe
import Derived.Test.YtppfnkedbpmliaaRNx
set_option linter.unusedVariables false
set_option linter.unusedSimpArgs false
namespace Go.Proofs.Ytppfnkedbpmliaa
open Go Go.Rk
open Go.RowKit (Below)

theorem newV {w : World} {g : Geo} {bad : Sl} {xs : List (Int × Int)} (hbad : Row2 w bad xs) (hl : xs.length ≤ 1000000000) :
    Ok Try.prog 39 [gv g, bad.v] w fun v w' => Kept w w' ∧ ∃ p, v = .tuple #[.pointer p, .int .i64 (newE g xs)] := by
  refine (new_ok hbad hl).mono ?_
  rintro v w' ⟨k, ⟨h, L, rfl, _⟩ | ⟨h, rfl⟩⟩
  · exact ⟨k, _, by rw [h]⟩
  · exact ⟨k, _, by rw [h]⟩
theorem rnewV {w : World} {g : Geo} {bad : Sl} {xs : List (Int × Int)} (hbad : Row2 w bad xs) (hl : xs.length ≤ 1000000000) :
    Ok Try.prog 40 [gv g, bad.v] w fun v w' => Kept w w' ∧ ∃ p, v = .tuple #[.pointer p, .int .i64 (newE g xs)] := by
  refine (rnew_ok hbad hl).mono ?_
  rintro v w' ⟨k, ⟨h, L, rfl, _⟩ | ⟨h, rfl⟩⟩
  · exact ⟨k, _, by rw [h]⟩
  · exact ⟨k, _, by rw [h]⟩
theorem newE_nil (g : Geo) : newE g [] = if fits g then 0 else 1 := by simp [newE]

theorem nandMakes_ok {w : World} {g : Geo} {bad : Sl} {xs : List (Int × Int)} {which : Int} {above : Bool} (hbad : Row2 w bad xs) :
    Ok Try.prog 8 [gv g, bad.v, .int .i64 which, .bool above] w fun v w' => v = .bool true ∧ Kept w w' := by
  have hbl := hbad.len
  apply u8
  unfold T8
  refine alGeo fun W0 hg k0 => ?_
  refine known7_ok.mono ?_
  rintro v w1 ⟨rfl, k1⟩
  simp only [decB_bool]
  refine cond_f rfl ?_
  have kw1 := k0.trans k1
  refine cond_of (fun h => ⟨by trivial, kw1⟩) fun hlen => ?_
  have hl : xs.length ≤ 1000000000 := by simp at hlen; omega
  refine joinT_of (fun d W => ((above = false ∧ d.1 = 0) ∨ (above = true ∧ d.1 = 1)) ∧ W = w1) ?_ ?_
  · refine cond_of (fun h => ⟨.inr ⟨h, by trivial⟩, rfl⟩) fun h => ⟨.inl ⟨h, by trivial⟩, rfl⟩
  · rintro ⟨x, _⟩ W ⟨hx, rfl⟩ _
    simp only at hx ⊢
    refine geo_init fun W2 _ hb k2 => ?_
    have hb5 := hb
    have kW5 := k2
    refine (within_ok (by omega) (by omega) (fun h => u38 h)).mono ?_
    rintro v W6 ⟨rfl, rfl⟩
    simp only [decI_int]
    have b1 := Int.emod_nonneg which (show (6 : Int) ≠ 0 by omega)
    have b2 := Int.emod_lt_of_pos which (show (0 : Int) < 6 by omega)
    generalize which % 6 = q at b1 b2 ⊢
    have hx0 : 0 ≤ x ∧ x ≤ 1 := by omega
    rw [w64 (n := 8 + x) (by omega) (by omega), w64 (n := 6 - x) (by omega) (by omega), w64 (n := 12 + x) (by omega) (by omega), w64 (n := 8 - x) (by omega) (by omega), w64 (n := 4 - x) (by omega) (by omega)]
    have fin : ∀ (a b c : Int) (W7 : World), Blk W7 W.heap.size 29 [.int .i64 a, .int .i64 b, .int .i64 c] → Chg (· = W.heap.size) W6 W7 → fits (a, b, c, ()) = !above →
        ∃ h : Geo, GeoAt W7 ⟨W.heap.size, 0, none⟩ h ∧ Kept W W7 ∧ fits h = !above := fun a b c W7 hb4 c4 hf =>
      ⟨(a, b, c, ()), ⟨hb4.at 0 rfl, hb4.ad 1 rfl, hb4.ad 2 rfl⟩, kW5.then c4 fun y hy => by omega, hf⟩
    refine joinT_of (fun _ W4 => ∃ h : Geo, GeoAt W4 ⟨W.heap.size, 0, none⟩ h ∧ Kept W W4 ∧ fits h = !above) ?_ ?_
    · refine cond_of (fun h => ?_) fun h => ?_
      · refine wr0 hb5 (by simp) fun W4 hb4 c4 => fin _ _ _ W4 hb4 c4 ?_
        rcases hx with ⟨ha, rfl⟩ | ⟨ha, rfl⟩ <;> (rw [ha]; decide)
      refine joinT_thru (cond_of (fun h => ?_) fun h => ?_)
      · refine wr0 hb5 (by simp) fun W4 hb4 c4 => ?_
        repeat intro _
        refine fin _ _ _ W4 hb4 c4 ?_
        rcases hx with ⟨ha, rfl⟩ | ⟨ha, rfl⟩ <;> (rw [ha]; decide)
      refine joinT_thru (cond_of (fun h => ?_) fun h => ?_)
      · refine wrW hb5 1 (by simp) fun W4 hb4 c4 => ?_
        repeat intro _
        refine fin _ _ _ W4 hb4 c4 ?_
        rcases hx with ⟨ha, rfl⟩ | ⟨ha, rfl⟩ <;> (rw [ha]; decide)
      refine joinT_thru (cond_of (fun h => ?_) fun h => ?_)
      · refine wrW hb5 1 (by simp) fun W4 hb4 c4 => ?_
        repeat intro _
        refine fin _ _ _ W4 hb4 c4 ?_
        rcases hx with ⟨ha, rfl⟩ | ⟨ha, rfl⟩ <;> (rw [ha]; decide)
      refine joinT_thru (cond_of (fun h => ?_) fun h => ?_)
      · refine wrW hb5 2 (by simp) fun W4 hb4 c4 => ?_
        repeat intro _
        refine fin _ _ _ W4 hb4 c4 ?_
        rcases hx with ⟨ha, rfl⟩ | ⟨ha, rfl⟩ <;> (rw [ha]; decide)
      refine joinT_thru (cond_of (fun h => ?_) fun h => ?_)
      · refine wrW hb5 2 (by simp) fun W4 hb4 c4 => ?_
        repeat intro _
        refine fin _ _ _ W4 hb4 c4 ?_
        rcases hx with ⟨ha, rfl⟩ | ⟨ha, rfl⟩ <;> (rw [ha]; decide)
      · exfalso
        simp at *
        omega
    · rintro _ W7 ⟨h, hh, k7, hf⟩ _
      have kw7 := kw1.trans k7
      have g7 := hg.kept (k1.trans k7)
      refine rdGeo g7 ((newV (hbad.kept kw7) hl).mono ?_)
      rintro v w8 ⟨k8, p, rfl⟩
      simp only [dec2, decP_ptr, decI_int]
      refine rdGeo (g7.kept k8) ((rnewV ((hbad.kept kw7).kept k8) hl).mono ?_)
      rintro v w9 ⟨k9, p9, rfl⟩
      simp only [dec2, decP_ptr, decI_int]
      refine rdGeo ((hh.kept k8).kept k9) ((newV (bad := ⟨none, 0, 0⟩) (xs := []) row2nil (by simp)).mono ?_)
      rintro v w10 ⟨k10, p10, rfl⟩
      simp only [dec2, decP_ptr, decI_int]
      have k8_10 := k8.trans (k9.trans k10)
      refine rdGeo (g7.kept k8_10) (make_ok.mono ?_)
      rintro v w11 ⟨rfl, k11⟩
      rw [decG_geo']
      refine (newV ((hbad.kept kw7).kept (k8_10.trans k11)) hl).mono ?_
      rintro v w12 ⟨k12, p12, rfl⟩
      simp only [dec2, decP_ptr, decI_int]
      refine rdGeo (g7.kept (k8_10.trans (k11.trans k12))) (make_ok.mono ?_)
      rintro v w13 ⟨rfl, k13⟩
      rw [decG_geo']
      refine (rnewV ((hbad.kept kw7).kept (k8_10.trans (k11.trans (k12.trans k13)))) hl).mono ?_
      rintro v w14 ⟨k14, p14, rfl⟩
      simp only [dec2, decP_ptr, decI_int]
      have kend := kw7.trans (k8_10.trans (k11.trans (k12.trans (k13.trans k14))))
      rw [newE_nil, hf]
      refine joinT_of (fun d W => d.1 = true ∧ W = w14) ?_ ?_
      · refine cond_t (by simp) (cond_t (by simp) ?_)
        refine cond_t (by cases above <;> rfl) ?_
        refine cond_of (fun _ => ⟨rfl, rfl⟩) fun h => ?_
        have : above = true := by simpa using h
        subst this
        exact ⟨rfl, rfl⟩
      · rintro ⟨d, _⟩ W ⟨rfl, rfl⟩ _
        exact ⟨rfl, kend⟩
end Go.Proofs.Ytppfnkedbpmliaa
