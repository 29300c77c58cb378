/- What the functions of geom and of its reference compute that tell of a geometry alone: fits, Check, Slots, Sectors; what Make makes of any three numbers. -/
import Derived.Test.YtppfnkedbpmliaaRG
import Derived.Test.YtppfnkedbpmliaaCBi
import Derived.Test.YtppfnkedbpmliaaMemB
set_option linter.unusedVariables false
set_option linter.unusedSimpArgs false
namespace Go.Proofs.Ytppfnkedbpmliaa
open Go Go.Rk
open Go.RowKit (Below)

/-- A geometry: dies, blocks, pages. -/
abbrev Geo := Int × Int × Int × Unit
abbrev gv (g : Geo) : Value := .agg #[.int .i64 g.1, .int .i64 g.2.1, .int .i64 g.2.2.1]
def fits (g : Geo) : Bool := decide (6 ≤ g.1) && decide (g.1 ≤ 8) && decide (8 ≤ g.2.1) && decide (g.2.1 ≤ 12) && decide (4 ≤ g.2.2.1) && decide (g.2.2.1 ≤ 8)
/-- The cells of a geometry at p. -/
def GeoAt (w : World) (p : Addr) (g : Geo) : Prop := w.cell? p = some (.int .i64 g.1) ∧ w.cell? (p.add 1) = some (.int .i64 g.2.1) ∧ w.cell? (p.add 2) = some (.int .i64 g.2.2.1)
theorem GeoAt.kept {w w' : World} {p : Addr} {g : Geo} (h : GeoAt w p g) (k : Kept w w') : GeoAt w' p g := ⟨cell_kept h.1 k, cell_kept h.2.1 k, cell_kept h.2.2 k⟩
theorem GeoAt.new (w : World) (g : Geo) (t : TypeId) : GeoAt (w.alloc (.cells #[.int .i64 g.1, .int .i64 g.2.1, .int .i64 g.2.2.1] t)) ⟨w.heap.size, 0, none⟩ g := by
  refine ⟨by simp, ?_, ?_⟩ <;> simp [Addr.add]

theorem between_ok {w : World} {n a b : Int} : Ok Try.prog 83 [.int .i64 n, .int .i64 a, .int .i64 b] w fun v w' => v = .bool (decide (a ≤ n) && decide (n ≤ b)) ∧ w' = w := by
  apply u83
  unfold T83
  refine joinT_thru (cond_of (fun h => ?_) fun h => ?_) <;> (intro _; simp at h; simp [h]; try omega)
theorem fits_ok {w : World} {g : Geo} : Ok Try.prog 77 [gv g] w fun v w' => v = .bool (fits g) ∧ Kept w w' := by
  apply u77
  unfold T77 al
  have hg := GeoAt.new w g 29
  have k := kept_alloc w (.cells #[.int .i64 g.1, .int .i64 g.2.1, .int .i64 g.2.2.1] 29)
  refine joinT_thru (rdI_of hg.1 ?_)
  refine between_ok.mono ?_
  rintro v w1 ⟨rfl, rfl⟩
  simp only [decB_bool]
  refine cond_of (fun h1 => ?_) fun h1 => ?_
  · refine rdI_of hg.2.1 (between_ok.mono ?_)
    rintro v w1 ⟨rfl, rfl⟩
    simp only [decB_bool]
    refine cond_of (fun h2 => ?_) fun h2 => ?_
    · refine rdI_of hg.2.2 (between_ok.mono ?_)
      rintro v w1 ⟨rfl, rfl⟩
      simp only [decB_bool]
      intro _
      refine ⟨?_, k⟩
      simp only [Bool.and_eq_true] at h1 h2
      simp [fits, h1, h2]
    · intro _
      refine ⟨?_, k⟩
      simp only [Bool.and_eq_true, Bool.and_eq_false_imp] at h1 h2
      simp [fits, h1]
      intro h3 h4
      simp at h2
      omega
  · intro _
    refine ⟨?_, k⟩
    simp at h1
    simp [fits]
    omega
theorem refFits_ok {w : World} {g : Geo} : Ok Try.prog 82 [gv g] w fun v w' => v = .bool (fits g) ∧ Kept w w' := by
  apply u82
  unfold T82 al
  have hg := GeoAt.new w g 29
  have k := kept_alloc w (.cells #[.int .i64 g.1, .int .i64 g.2.1, .int .i64 g.2.2.1] 29)
  refine joinT_thru (rdI_of hg.1 ?_)
  refine cond_of (fun h1 => rdI_of hg.1 (cond_of (fun h2 => rdI_of hg.2.1 (cond_of (fun h3 => rdI_of hg.2.1 (cond_of (fun h4 => rdI_of hg.2.2 (cond_of (fun h5 => rdI_of hg.2.2 ?_) fun h5 => ?_)) fun h4 => ?_)) fun h3 => ?_)) fun h2 => ?_)) fun h1 => ?_
  all_goals
    intro _
    refine ⟨?_, k⟩
    simp_all [fits]
    try omega
theorem check_ok {w : World} {g : Geo} : Ok Try.prog 30 [gv g] w fun v w' => v = .int .i64 (if fits g then 0 else 1) ∧ Kept w w' := by
  apply u30
  unfold T30 al
  have hg := GeoAt.new w g 29
  have k := kept_alloc w (.cells #[.int .i64 g.1, .int .i64 g.2.1, .int .i64 g.2.2.1] 29)
  refine rdI_of hg.1 (rdI_of hg.2.1 (rdI_of hg.2.2 (fits_ok.mono ?_)))
  rintro v w1 ⟨rfl, k1⟩
  simp only [decB_bool]
  refine cond_of (fun h1 => ?_) fun h1 => ?_ <;> (try simp at h1) <;> exact ⟨by simp [h1], k.trans k1⟩
theorem refCheck_ok {w : World} {g : Geo} : Ok Try.prog 31 [gv g] w fun v w' => v = .int .i64 (if fits g then 0 else 1) ∧ Kept w w' := by
  apply u31
  unfold T31 al
  have hg := GeoAt.new w g 29
  have k := kept_alloc w (.cells #[.int .i64 g.1, .int .i64 g.2.1, .int .i64 g.2.2.1] 29)
  refine rdI_of hg.1 (rdI_of hg.2.1 (rdI_of hg.2.2 (refFits_ok.mono ?_)))
  rintro v w1 ⟨rfl, k1⟩
  simp only [decB_bool]
  refine cond_of (fun h1 => ?_) fun h1 => ?_ <;> (try simp at h1) <;> exact ⟨by simp [h1], k.trans k1⟩
theorem fits_bounds {g : Geo} (h : fits g = true) : 6 ≤ g.1 ∧ g.1 ≤ 8 ∧ 8 ≤ g.2.1 ∧ g.2.1 ≤ 12 ∧ 4 ≤ g.2.2.1 ∧ g.2.2.1 ≤ 8 := by
  simp [fits] at h
  omega
def slots (g : Geo) : Int := if fits g then g.1 - 2 else 0
theorem slots_ok {w : World} {g : Geo} : Ok Try.prog 32 [gv g] w fun v w' => v = .int .i64 (slots g) ∧ Kept w w' := by
  apply u32
  unfold T32 al
  have hg := GeoAt.new w g 29
  have k := kept_alloc w (.cells #[.int .i64 g.1, .int .i64 g.2.1, .int .i64 g.2.2.1] 29)
  refine rdI_of hg.1 (rdI_of hg.2.1 (rdI_of hg.2.2 (fits_ok.mono ?_)))
  rintro v w1 ⟨rfl, k1⟩
  simp only [decB_bool]
  refine cond_of (fun h1 => ?_) fun h1 => ?_
  · simp at h1
    exact ⟨by simp [h1, slots], k.trans k1⟩
  · simp at h1
    have := fits_bounds h1
    refine rdI_of (hg.kept k1).1 ⟨?_, k.trans k1⟩
    rw [w64 (by omega) (by omega)]
    simp [slots, h1]
theorem refSlots_ok {w : World} {g : Geo} : Ok Try.prog 33 [gv g] w fun v w' => v = .int .i64 (slots g) ∧ Kept w w' := by
  apply u33
  unfold T33 al
  have hg := GeoAt.new w g 29
  have k := kept_alloc w (.cells #[.int .i64 g.1, .int .i64 g.2.1, .int .i64 g.2.2.1] 29)
  refine rdI_of hg.1 (rdI_of hg.2.1 (rdI_of hg.2.2 (refCheck_ok.mono ?_)))
  rintro v w1 ⟨rfl, k1⟩
  simp only [decI_int]
  refine cond_of (fun h1 => ?_) fun h1 => ?_
  · simp at h1
    exact ⟨by simp [h1, slots], k.trans k1⟩
  · simp at h1
    have := fits_bounds h1
    refine rdI_of (hg.kept k1).1 ⟨?_, k.trans k1⟩
    rw [w64 (by omega) (by omega)]
    simp [slots, h1]
def sectors (g : Geo) (s : Int) : Int := if fits g && decide (7 ≤ s) && decide (s ≤ g.2.1) then ((s - 4) * (g.2.2.1 - 2) * (g.1 - 2)) / 4 else 0
theorem sectors_eq {g : Geo} {s : Int} (h : fits g = true) (h7 : 7 ≤ s) (hs : s ≤ g.2.1) :
    IntKind.wrap .i64 (Int.tdiv (IntKind.wrap .i64 ((IntKind.wrap .i64 ((IntKind.wrap .i64 (s - 4)) * (IntKind.wrap .i64 (g.2.2.1 - 2)))) * (IntKind.wrap .i64 (g.1 - 2)))) 4) = sectors g s := by
  obtain ⟨a1, a2, a3, a4, a5, a6⟩ := fits_bounds h
  obtain ⟨d, b, p, _⟩ := g
  simp only at a1 a2 a3 a4 a5 a6 hs ⊢
  have hs1 : 0 ≤ s - 4 ∧ s - 4 ≤ 8 := by omega
  have hp1 : 0 ≤ p - 2 ∧ p - 2 ≤ 6 := by omega
  have hd1 : 0 ≤ d - 2 ∧ d - 2 ≤ 6 := by omega
  have m1 : 0 ≤ (s - 4) * (p - 2) ∧ (s - 4) * (p - 2) ≤ 48 := ⟨Int.mul_nonneg hs1.1 hp1.1, Int.le_trans (Int.mul_le_mul hs1.2 hp1.2 hp1.1 (by omega)) (by omega)⟩
  have m2 : 0 ≤ (s - 4) * (p - 2) * (d - 2) ∧ (s - 4) * (p - 2) * (d - 2) ≤ 288 := ⟨Int.mul_nonneg m1.1 hd1.1, Int.le_trans (Int.mul_le_mul m1.2 hd1.2 hd1.1 (by omega)) (by omega)⟩
  rw [w64 (n := s - 4) (by omega) (by omega), w64 (n := p - 2) (by omega) (by omega), w64 (n := d - 2) (by omega) (by omega), w64 (n := (s - 4) * (p - 2)) (by omega) (by omega), w64 (n := (s - 4) * (p - 2) * (d - 2)) (by omega) (by omega)]
  rw [Int.tdiv_eq_ediv_of_nonneg m2.1, w64 (by omega) (by omega)]
  simp [sectors, h, h7, hs]
theorem sectors_ok {w : World} {g : Geo} {s : Int} : Ok Try.prog 34 [gv g, .int .i64 s] w fun v w' => v = .int .i64 (sectors g s) ∧ Kept w w' := by
  apply u34
  unfold T34 al
  have hg := GeoAt.new w g 29
  have k := kept_alloc w (.cells #[.int .i64 g.1, .int .i64 g.2.1, .int .i64 g.2.2.1] 29)
  refine joinT_of (fun d W => d.1 = !(fits g && decide (7 ≤ s) && decide (s ≤ g.2.1)) ∧ Kept (w.alloc (.cells #[.int .i64 g.1, .int .i64 g.2.1, .int .i64 g.2.2.1] 29)) W) ?_ ?_
  · refine rdI_of hg.1 (rdI_of hg.2.1 (rdI_of hg.2.2 (fits_ok.mono ?_)))
    rintro v w1 ⟨rfl, k1⟩
    simp only [decB_bool]
    refine cond_of (fun h1 => ?_) fun h1 => ?_
    · simp at h1
      exact ⟨by simp [h1], k1⟩
    · simp at h1
      refine rdI_of (hg.kept k1).2.1 (between_ok.mono ?_)
      rintro v w2 ⟨rfl, rfl⟩
      simp only [decB_bool]
      exact ⟨by simp [h1], k1⟩
  · rintro ⟨d, _⟩ W ⟨hd, k1⟩ _
    simp only at hd
    subst hd
    refine cond_of (fun h1 => ?_) fun h1 => ?_
    · refine ⟨?_, k.trans k1⟩
      simp only [Bool.not_eq_true'] at h1
      simp only [sectors, h1]
      rfl
    · simp only [Bool.not_eq_false'] at h1
      have h2 := h1
      simp at h2
      refine rdI_of (hg.kept k1).2.2 (rdI_of (hg.kept k1).1 ⟨by decide, ?_, k.trans k1⟩)
      rw [sectors_eq h2.1.1 h2.1.2 h2.2]
theorem refSectors_ok {w : World} {g : Geo} {s : Int} : Ok Try.prog 35 [gv g, .int .i64 s] w fun v w' => v = .int .i64 (sectors g s) ∧ Kept w w' := by
  apply u35
  unfold T35 al
  have hg := GeoAt.new w g 29
  have k := kept_alloc w (.cells #[.int .i64 g.1, .int .i64 g.2.1, .int .i64 g.2.2.1] 29)
  refine joinT_of (fun d W => d.1 = !(fits g && decide (7 ≤ s) && decide (s ≤ g.2.1)) ∧ Kept (w.alloc (.cells #[.int .i64 g.1, .int .i64 g.2.1, .int .i64 g.2.2.1] 29)) W) ?_ ?_
  · refine rdI_of hg.1 (rdI_of hg.2.1 (rdI_of hg.2.2 (refCheck_ok.mono ?_)))
    rintro v w1 ⟨rfl, k1⟩
    simp only [decI_int]
    refine cond_of (fun h1 => ?_) fun h1 => ?_
    · simp at h1
      exact ⟨by simp [h1], k1⟩
    · simp at h1
      refine cond_of (fun h2 => ?_) fun h2 => ?_
      · simp at h2
        refine ⟨?_, k1⟩
        simp [h1]
        omega
      · simp at h2
        refine rdI_of (hg.kept k1).2.1 ⟨?_, k1⟩
        by_cases h3 : s ≤ g.2.1
        · have : ¬ g.2.1 < s := by omega
          simp [h1, h2, h3, this]
        · have : g.2.1 < s := by omega
          simp [h1, h2, h3, this]
  · rintro ⟨d, _⟩ W ⟨hd, k1⟩ _
    simp only at hd
    subst hd
    refine cond_of (fun h1 => ?_) fun h1 => ?_
    · refine ⟨?_, k.trans k1⟩
      simp only [Bool.not_eq_true'] at h1
      simp only [sectors, h1]
      rfl
    · simp only [Bool.not_eq_false'] at h1
      have h2 := h1
      simp at h2
      refine rdI_of (hg.kept k1).2.2 (rdI_of (hg.kept k1).1 ⟨by decide, ?_, k.trans k1⟩)
      rw [sectors_eq h2.1.1 h2.1.2 h2.2]
end Go.Proofs.Ytppfnkedbpmliaa
