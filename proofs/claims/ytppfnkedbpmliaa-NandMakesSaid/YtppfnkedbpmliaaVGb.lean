/- geom does as the law GeomOnce says: of any geometry, any bad blocks. -/
import Derived.Test.YtppfnkedbpmliaaVGa
set_option linter.unusedVariables false
set_option linter.unusedSimpArgs false
namespace Go.Proofs.Ytppfnkedbpmliaa
open Go Go.Rk
open Go.RowKit (Below)

/-- An element of an element is read. -/
theorem _root_.Go.Rk.Nest.get {base : Nat} {w : World} {s : Sl} {xss : List (List Int)} (h : Nest base w s xss) {i d : Nat} (hi : i < xss.length) (hd : d < xss[i].length) {K : Int → Prop} (k : K xss[i][d]) :
    ix s.a s.l (i : Int) fun q => rdS w (q.add ((i : Int).toNat * 1)) fun t => ix t.a t.l (d : Int) fun q2 => rdI .i64 w (q2.add ((d : Int).toNat * 1)) K := by
  obtain ⟨ss, h1, h2, h3⟩ := h
  exact h1.row.ix (show i < ss.length by omega) fun a ha ca => rdS_of ca ((h3 i (by omega) hi).row.ix hd fun b hb cb => rdI_of cb k)
theorem _root_.Go.Rk.Nest.get1 {base : Nat} {w : World} {s : Sl} {xss : List (List Int)} (h : Nest base w s xss) {i : Nat} (hi : i < xss.length) {K : Sl → Prop} (k : ∀ t : Sl, t.l = xss[i].length → K t) :
    ix s.a s.l (i : Int) fun q => rdS w (q.add ((i : Int).toNat * 1)) K := by
  obtain ⟨ss, h1, h2, h3⟩ := h
  exact h1.row.ix (show i < ss.length by omega) fun a ha ca => rdS_of ca (k _ (h3 i (by omega) hi).len)

theorem _root_.Go.Rk.Nest.getM {base : Nat} {w : World} {s : Sl} {xss : List (List Int)} (h : Nest base w s xss) {i : Nat} (hi : i < xss.length) {K : Sl → Prop} (k : ∀ t : Sl, Mine eI 3 base w t xss[i] → K t) :
    ix s.a s.l (i : Int) fun q => rdS w (q.add ((i : Int).toNat * 1)) K := by
  obtain ⟨ss, h1, h2, h3⟩ := h
  exact h1.row.ix (show i < ss.length by omega) fun a ha ca => rdS_of ca (k _ (h3 i (by omega) hi))
theorem geomOnce_ok {w : World} {g : Geo} {ns : Sl} {zs : List Int} (hn : Row eI w ns zs) :
    Ok Try.prog 5 [gv g, ns.v] w fun v w' => v = .bool true ∧ Kept w w' := by
  apply u5
  unfold T5
  refine alGeo fun W1 hg k1 => ?_
  refine known9_ok.mono ?_
  rintro v w2 ⟨rfl, k2⟩
  simp only [decB_bool]
  refine cond_f rfl ?_
  refine rdGeo (hg.kept k2) (make_ok.mono ?_)
  rintro v w3 ⟨rfl, k3⟩
  rw [decG_geo]
  refine geo_init fun W4 hh _ k4 => ?_
  have kw4 : Kept w W4 := k1.trans (k2.trans (k3.trans k4))
  have hh : GeoAt W4 ⟨w3.heap.size, 0, none⟩ (makeOf g) := hh
  have hf := make_fits g
  generalize makeOf g = h at hh hf ⊢
  obtain ⟨a1, a2, a3, a4, a5, a6⟩ := fits_bounds hf
  refine rdGeo hh ((spoil_ok hf (hn.kept kw4)).mono ?_)
  rintro v W6 ⟨s6, rfl, k6, m6⟩
  simp only [decS_sl]
  have h6 : Row2 W6 s6 (spoilOf h zs) := (m6.row eP2).pairs
  have hsl : (spoilOf h zs).length ≤ 40 := by
    have h1 := spoilN_len h.2.1 zs (min zs.length h.1.toNat)
    simp only [spoilOf]
    omega
  refine rdGeo (hh.kept k6) ((supers_ok h6 (by omega)).mono ?_)
  rintro v W8 ⟨s8, rfl, k8, n8⟩
  simp only [decS_sl]
  replace hh := (hh.kept k6).kept k8
  replace h6 := h6.kept k8
  have kw8 : Kept w W8 := kw4.trans (k6.trans k8)
  have hl := n8.len
  have hrow := fun i hi => supers_row (xs := spoilOf h zs) hf (i := i) hi
  have hat := fun i d hi hd => supers_at (xs := spoilOf h zs) hf (i := i) (d := d) hi hd
  have hnum := supers_spoil (zs := zs) hf
  have hl6 := h6.len
  generalize supersOf h (spoilOf h zs) = xs at n8 hl hrow hat hnum
  generalize spoilOf h zs = ys at h6 hsl hat hl6
  obtain ⟨D, hD⟩ : ∃ D : Nat, h.1 = (D : Int) := ⟨h.1.toNat, by omega⟩
  have hDn : h.1.toNat = D := by omega
  rw [hDn] at hrow
  refine joinT_of (fun _ W => Kept W8 W) ?_ ?_
  · refine loopT_of (fun d W => ∃ i : Nat, d = ((i : Int), ()) ∧ i ≤ xs.length ∧ Kept W8 W) (fun d _ => xs.length - d.1.toNat) ⟨0, rfl, by omega, kept_refl _⟩ ?_
    rintro d W ⟨i, rfl, hi, k⟩ _
    refine cond_of (fun hc => ?_) fun hc => ?_
    · simp [hl] at hc
      have kd := k.trans (kept_drew W)
      refine (n8.kept kd).get1 hc fun t ht => rdI_of (hh.kept kd).1 ?_
      refine cond_f (by rw [ht, hrow i hc, hD]; simp) ?_
      refine joinT_of (fun _ W => Kept W8 W) ?_ ?_
      · refine loopT_of (fun d W => ∃ j : Nat, d = ((j : Int), ()) ∧ j ≤ D ∧ Kept W8 W) (fun d _ => D - d.1.toNat) ⟨0, rfl, by omega, kd⟩ ?_
        rintro d W2 ⟨j, rfl, hj, kj⟩ _
        refine rdI_of (hh.kept kj).1 (cond_of (fun hc2 => ?_) fun hc2 => ?_)
        · simp [hD] at hc2
          have hjr : j < xs[i].length := by rw [hrow i hc]; exact hc2
          obtain ⟨e1, e2⟩ := hat i j hc hjr
          obtain ⟨b, e3, e4, e5⟩ := gint_at e2
          have kd2 := kj.trans (kept_drew W2)
          have nk := n8.kept kd2
          refine joinT_of (fun d W => d.1 = false ∧ Kept W8 W) ?_ ?_
          · refine nk.get hc hjr ?_
            refine cond_f (by rw [e1, e3]; simp only [decide_eq_false_iff_not]; omega) (nk.get hc hjr (rdI_of (hh.kept kd2).2.1 ?_))
            refine cond_f (by rw [e1, e3]; simp only [decide_eq_false_iff_not]; omega) ?_
            refine cond_of (fun hc3 => ?_) fun hc3 => ?_
            · simp at hc3
              have hp : i - 1 < xs.length := by omega
              have hjp : j < xs[i - 1].length := by rw [hrow _ hp]; exact hc2
              obtain ⟨f1, f2⟩ := hat (i - 1) j hp hjp
              have hw : IntKind.wrap .i64 ((i : Int) - 1) = ((i - 1 : Nat) : Int) := by rw [w64 (by omega) (by omega)]; omega
              rw [hw]
              refine nk.get hc hjr (nk.get hp hjp ⟨?_, kd2⟩)
              have := gint_lt (show i - 1 < i by omega) e2
              rw [e1, f1]
              simp only [decide_eq_false_iff_not]
              omega
            · exact ⟨rfl, kd2⟩
          · rintro ⟨d, _⟩ W3 ⟨rfl, k3'⟩ _
            refine cond_f rfl ?_
            refine joinT_of (fun _ W => Kept W8 W) ?_ ?_
            · refine loopT_of (fun d W => ∃ m : Nat, d = ((m : Int), ()) ∧ m ≤ ys.length ∧ Kept W8 W) (fun d _ => ys.length - d.1.toNat) ⟨0, rfl, by omega, k3'⟩ ?_
              rintro d W4 ⟨m, rfl, hm, km⟩ _
              refine cond_of (fun hc4 => ?_) fun hc4 => ?_
              · simp [hl6] at hc4
                have kd4 := km.trans (kept_drew W4)
                refine (h6.kept kd4).ix hc4 fun q hq c1 c2 => rdI_of c1 (rdI_of c2 ((n8.kept kd4).get hc hjr ?_))
                refine cond_f ?_ ?_
                · rw [e1, e3]
                  have hmem : ys[m] ∈ ys := List.getElem_mem _
                  by_cases h1 : ys[m].1 = (j : Int)
                  · by_cases h2 : ys[m].2 = (b : Int)
                    · exfalso
                      apply e5
                      have : ys[m] = ((j : Int), (b : Int)) := Prod.ext h1 h2
                      rw [← this]
                      exact hmem
                    · simp [h2]
                  · simp [h1]
                · rw [int_next (by omega)]
                  exact ⟨⟨m + 1, rfl, by omega, kd4⟩, by simp; omega⟩
              · exact km
            · intro _ W4 k4' _
              rw [int_next (by omega)]
              exact ⟨⟨j + 1, rfl, by omega, k4'⟩, by simp; omega⟩
        · exact kj
      · intro _ W2 k2' _
        rw [int_next (by omega)]
        exact ⟨⟨i + 1, rfl, by omega, k2'⟩, by simp; omega⟩
    · exact k
  · intro _ W k _
    refine joinT_of (fun d W' => d.1 = true ∧ Kept w W') ?_ ?_
    · have hg' := hh.kept k
      refine rdI_of hg'.2.1 ?_
      rw [w64 (by omega) (by omega)]
      refine cond_t (by simp [hl]; omega) (rdI_of hg'.2.1 ⟨by simp [hl]; omega, kw8.trans k⟩)
    · rintro ⟨d, _⟩ W' ⟨rfl, k'⟩ _
      exact ⟨rfl, k'⟩
end Go.Proofs.Ytppfnkedbpmliaa
