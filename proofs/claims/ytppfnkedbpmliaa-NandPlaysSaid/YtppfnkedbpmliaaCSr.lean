/- What the document's own text (ramekinref9.Supers) computes: the superblocks of a geometry with bad blocks, as rows of rows. -/
import Derived.Test.YtppfnkedbpmliaaCS
set_option linter.unusedVariables false
set_option linter.unusedSimpArgs false
namespace Go.Proofs.Ytppfnkedbpmliaa
open Go Go.Rk
open Go.RowKit (Below)

theorem szS : Sz Try.prog 35 23 := Sz_of (by kernel_rfl)
def gint (xs : List (Int × Int)) (d : Int) (n : Nat) : List Int := (goods xs d n).map fun b : Nat => (b : Int)
def goodsAll (xs : List (Int × Int)) (B D : Nat) : List (List Int) := (List.range D).map fun d : Nat => gint xs (d : Int) B
def least (B : Nat) (gs : List (List Int)) : Nat := gs.foldl (fun n l => min n l.length) B
def rowsOf (gs : List (List Int)) (n : Nat) : List (List Int) := (List.range n).map fun i => gs.map fun l => l.getD i 0
/-- The superblocks. -/
def supersOf (g : Geo) (xs : List (Int × Int)) : List (List Int) :=
  if fits g then rowsOf (goodsAll xs g.2.1.toNat g.1.toNat) (least g.2.1.toNat (goodsAll xs g.2.1.toNat g.1.toNat)) else []
theorem gint_length_le (xs : List (Int × Int)) (d : Int) (n : Nat) : (gint xs d n).length ≤ n := by
  have := List.length_filter_le (fun b : Nat => !decide ((d, (b : Int)) ∈ xs)) (List.range n)
  simp [gint, goods] at this ⊢
  exact this
theorem gint_succ (xs : List (Int × Int)) (d : Int) (n : Nat) : gint xs d (n + 1) = gint xs d n ++ (if (d, (n : Int)) ∈ xs then [] else [(n : Int)]) := by
  simp only [gint, goods_succ]
  split <;> simp
theorem goodsAll_succ (xs : List (Int × Int)) (B D : Nat) : goodsAll xs B (D + 1) = goodsAll xs B D ++ [gint xs (D : Int) B] := by simp [goodsAll, List.range_succ]
theorem least_push (B : Nat) (gs : List (List Int)) (l : List Int) : least B (gs ++ [l]) = min (least B gs) l.length := by simp [least]
theorem least_le (gs : List (List Int)) : ∀ B : Nat, least B gs ≤ B ∧ ∀ l ∈ gs, least B gs ≤ l.length := by
  induction gs with
  | nil => intro B; simp [least]
  | cons l gs ih =>
    intro B
    have := ih (min B l.length)
    simp only [least, List.foldl_cons] at this ⊢
    refine ⟨by omega, fun l' hl' => ?_⟩
    rcases List.mem_cons.1 hl' with rfl | h
    · omega
    · exact this.2 l' h
theorem rowsOf_succ (gs : List (List Int)) (n : Nat) : rowsOf gs (n + 1) = rowsOf gs n ++ [gs.map fun l => l.getD n 0] := by simp [rowsOf, List.range_succ]

theorem refSupers_ok {w : World} {g : Geo} {s : Sl} {xs : List (Int × Int)} (h : Row2 w s xs) (hl : xs.length ≤ 1000000000) :
    Ok Try.prog 29 [gv g, s.v] w fun v w' => ∃ s' : Sl, v = s'.v ∧ Kept w w' ∧ Nest w.heap.size w' s' (supersOf g xs) := by
  apply u29
  unfold T29 al
  have hg := GeoAt.new w g 29
  have k := kept_alloc w (.cells #[.int .i64 g.1, .int .i64 g.2.1, .int .i64 g.2.2.1] 29)
  refine rdI_of hg.1 (rdI_of hg.2.1 (rdI_of hg.2.2 (refCheck_ok.mono ?_)))
  rintro v w1 ⟨rfl, k1⟩
  simp only [decI_int]
  have hsl : s.l = xs.length := h.len
  refine cond_of (fun hc => ?_) fun hc => ?_
  · simp at hc
    exact ⟨⟨none, 0, 0⟩, rfl, k.trans k1, by simp only [supersOf, hc]; exact Nest.nil⟩
  · simp at hc
    obtain ⟨a1, a2, a3, a4, a5, a6⟩ := fits_bounds hc
    have hg1 := hg.kept k1
    have kw1 := k.trans k1
    have hw1 := kw1.size
    obtain ⟨D, hD⟩ : ∃ D : Nat, g.1 = (D : Int) := ⟨g.1.toNat, by omega⟩
    obtain ⟨B, hB⟩ : ∃ B : Nat, g.2.1 = (B : Int) := ⟨g.2.1.toNat, by omega⟩
    have hsup : supersOf g xs = rowsOf (goodsAll xs B D) (least B (goodsAll xs B D)) := by simp [supersOf, hc, hD, hB]
    rw [hsup]
    clear hsup
    rw [hD] at a1 a2
    rw [hB] at a3 a4
    refine rdI_of hg1.2.1 ?_
    refine joinT_of (fun d W => ∃ good : Sl, d = (good, ((least B (goodsAll xs B D) : Nat) : Int), ()) ∧ Kept w1 W ∧ Nest w1.heap.size W good (goodsAll xs B D)) ?_ ?_
    · refine loopT_of (fun d W => ∃ (good : Sl) (i : Nat), d = (good, ((least B (goodsAll xs B i) : Nat) : Int), (i : Int), ()) ∧ i ≤ D ∧ Kept w1 W ∧ Nest w1.heap.size W good (goodsAll xs B i)) (fun d _ => D - d.2.2.1.toNat)
        ⟨⟨none, 0, 0⟩, 0, by simp [goodsAll, least, hB], by omega, kept_refl _, Nest.nil⟩ ?_
      rintro d W ⟨good, i, rfl, hi, k2, n2⟩ _
      refine rdI_of (hg1.kept k2).1 ?_
      have hW := k2.size
      refine cond_of (fun hc => ?_) fun hc => ?_
      · simp only [hD, decide_eq_true_eq] at hc
        refine joinT_of (fun d W' => ∃ l : Sl, d = (l, ()) ∧ Kept W W' ∧ Mine eI 3 W.heap.size W' l (gint xs (i : Int) B)) ?_ ?_
        · refine loopT_of (fun d W' => ∃ (l : Sl) (b : Nat), d = (l, (b : Int), ()) ∧ b ≤ B ∧ Kept W W' ∧ Mine eI 3 W.heap.size W' l (gint xs (i : Int) b)) (fun d _ => B - d.2.1.toNat)
            ⟨⟨none, 0, 0⟩, 0, rfl, by omega, kept_refl _, Mine.nil⟩ ?_
          rintro d W2 ⟨l, b, rfl, hb, k3, m3⟩ _
          refine rdI_of (hg1.kept (k2.trans k3)).2.1 ?_
          refine cond_of (fun hc2 => ?_) fun hc2 => ?_
          · simp only [hB, decide_eq_true_eq] at hc2
            refine joinT_of (fun d W' => d.1 = !decide (((i : Int), (b : Int)) ∈ xs) ∧ W' = W2) ?_ ?_
            · refine loopT_of (fun d W' => ∃ j : Nat, d = (!decide (((i : Int), (b : Int)) ∈ xs.take j), (j : Int), ()) ∧ j ≤ xs.length ∧ W' = W2) (fun d _ => xs.length - d.2.1.toNat) ⟨0, by simp, by omega, rfl⟩ ?_
              rintro d W3 ⟨j, rfl, hj, rfl⟩ _
              refine cond_of (fun hc3 => ?_) fun hc3 => ?_
              · simp [hsl] at hc3
                have ht : xs.take (j + 1) = xs.take j ++ [xs[j]] := by rw [List.take_append_getElem]
                refine joinT_of (fun d W' => d.1 = !decide (((i : Int), (b : Int)) ∈ xs.take (j + 1)) ∧ W' = W3) ?_ ?_
                · refine cond_of (fun h4 => ?_) fun h4 => ?_
                  · refine (h.kept (kw1.trans (k2.trans k3))).ix hc3 fun q hq c1 c2 => rdI_of c1 (rdI_of c2 ⟨?_, rfl⟩)
                    simp at h4
                    rw [ht]
                    simp only [List.mem_append, List.mem_singleton, h4, false_or]
                    rw [Bool.eq_iff_iff]
                    simp only [Bool.and_true, Bool.not_eq_true', Bool.and_eq_false_imp, beq_iff_eq, decide_eq_false_iff_not, Prod.ext_iff, not_and]
                    constructor
                    · intro h5 h6 h7
                      have := h5 h6.symm
                      simp at this
                      exact this h7.symm
                    · intro h5 h6
                      simp
                      intro h7
                      exact h5 h6.symm h7.symm
                  · refine ⟨?_, rfl⟩
                    simp at h4
                    have hm : ((i : Int), (b : Int)) ∈ xs.take (j + 1) := by rw [ht]; exact List.mem_append_left _ h4
                    simp only [hm, decide_true]
                    rfl
                · rintro ⟨e, _⟩ W4 ⟨he, rfl⟩ _
                  simp only at he
                  subst he
                  rw [int_next (by omega)]
                  exact ⟨⟨j + 1, rfl, by omega, rfl⟩, by simp; omega⟩
              · simp [hsl] at hc3
                rw [List.take_of_length_le hc3]
                exact ⟨rfl, rfl⟩
            · rintro ⟨e, _⟩ W3 ⟨he, rfl⟩ _
              simp only at he
              subst he
              refine joinT_of (fun d W' => ∃ l : Sl, d = (l, ()) ∧ Kept W W' ∧ Mine eI 3 W.heap.size W' l (gint xs (i : Int) (b + 1))) ?_ ?_
              · refine cond_of (fun h5 => ?_) fun h5 => ?_
                · simp at h5
                  have hlen := gint_length_le xs (i : Int) b
                  have hk3 := k3.size
                  refine push_int szI m3 hk3 (by omega) fun s' w' g1 g2 g3 => ?_
                  simp only [decS_sl]
                  refine ⟨s', rfl, Below.trans k3 g2, ?_⟩
                  rw [gint_succ, if_neg h5]
                  exact g1
                · simp at h5
                  refine ⟨l, rfl, k3, ?_⟩
                  rw [gint_succ, if_pos h5, List.append_nil]
                  exact m3
              · rintro _ W4 ⟨l', rfl, k4, m4⟩ _
                rw [int_next (by omega)]
                exact ⟨⟨l', b + 1, rfl, by omega, k4, m4⟩, by simp; omega⟩
          · simp only [hB, decide_eq_false_iff_not] at hc2
            have : b = B := by omega
            subst this
            exact ⟨l, rfl, k3, m3⟩
        · rintro _ W2 ⟨l, rfl, k3, m3⟩ _
          have hk3 := k3.size
          have hlen : (goodsAll xs B i).length = i := by simp [goodsAll]
          refine Nest.push szS (n2.kept k3) (m3.mono (by omega)) (by omega) (by omega) fun s' w' g1 g2 _ => ?_
          simp only [decS_sl]
          have hll : l.l = (gint xs (i : Int) B).length := m3.len
          rw [int_next (by omega)]
          refine ⟨⟨s', i + 1, ?_, by omega, ?_, by rw [goodsAll_succ]; exact g1⟩, by simp; omega⟩
          · rw [goodsAll_succ, least_push, hll]
            congr 2
            split <;> omega
          · exact Below.trans (Kept.trans k2 k3) g2
      · simp only [hD, decide_eq_false_iff_not] at hc
        have : i = D := by omega
        subst this
        exact ⟨good, rfl, k2, n2⟩
    · rintro _ Wg ⟨good, rfl, kg, ng⟩ _
      have hkg := kg.size
      have hgl : (goodsAll xs B D).length = D := by simp [goodsAll]
      have hle := least_le (goodsAll xs B D) B
      generalize hgs : goodsAll xs B D = gs at ng hgl hle ⊢
      generalize hn : least B gs = n at hle ⊢
      refine joinT_of (fun d W => ∃ out : Sl, d = (out, ()) ∧ Kept Wg W ∧ Nest Wg.heap.size W out (rowsOf gs n)) ?_ ?_
      · refine loopT_of (fun d W => ∃ (out : Sl) (i : Nat), d = (out, (i : Int), ()) ∧ i ≤ n ∧ Kept Wg W ∧ Nest Wg.heap.size W out (rowsOf gs i)) (fun d _ => n - d.2.1.toNat) ⟨⟨none, 0, 0⟩, 0, rfl, by omega, kept_refl _, Nest.nil⟩ ?_
        rintro d W ⟨out, i, rfl, hi, k2, n2⟩ _
        refine cond_of (fun hc2 => ?_) fun hc2 => ?_
        · simp at hc2
          have hW := k2.size
          refine joinT_of (fun d W' => ∃ l : Sl, d = (l, ()) ∧ Kept W W' ∧ Mine eI 3 W.heap.size W' l (gs.map fun l => l.getD i 0)) ?_ ?_
          · refine loopT_of (fun d W' => ∃ (l : Sl) (j : Nat), d = (l, (j : Int), ()) ∧ j ≤ D ∧ Kept W W' ∧ Mine eI 3 W.heap.size W' l ((gs.take j).map fun l => l.getD i 0)) (fun d _ => D - d.2.1.toNat) ⟨⟨none, 0, 0⟩, 0, rfl, by omega, kept_refl _, Mine.nil⟩ ?_
            rintro d W2 ⟨l, j, rfl, hj, k3, m3⟩ _
            refine rdI_of (hg1.kept (kg.trans (k2.trans k3))).1 ?_
            refine cond_of (fun hc3 => ?_) fun hc3 => ?_
            · simp only [hD, decide_eq_true_eq] at hc3
              have hj2 : j < gs.length := by omega
              obtain ⟨ss, n3, n4, n5⟩ := ng.kept (k2.trans k3)
              refine n3.row.ix (show j < ss.length by omega) fun q hq hcell => rdS_of hcell ?_
              have hin : i < gs[j].length := by have := hle.2 gs[j] (List.getElem_mem _); omega
              refine (n5 j (by omega) hj2).row.ix hin fun q2 hq2 hc4 => rdI_of hc4 ?_
              have hk3 := k3.size
              refine push_int szI m3 hk3 (by simp; omega) fun s' w' g1 g2 g3 => ?_
              simp only [decS_sl]
              rw [int_next (by omega)]
              refine ⟨⟨s', j + 1, rfl, by omega, Below.trans k3 g2, ?_⟩, by simp; omega⟩
              have ht : gs.take (j + 1) = gs.take j ++ [gs[j]] := by rw [List.take_append_getElem]
              have hgd : gs[j].getD i 0 = gs[j][i] := by simp [List.getD, List.getElem?_eq_getElem hin]
              rw [ht, List.map_append]
              simp only [List.map_cons, List.map_nil, hgd]
              exact g1
            · simp only [hD, decide_eq_false_iff_not] at hc3
              rw [List.take_of_length_le (by omega)] at m3
              exact ⟨l, rfl, k3, m3⟩
          · rintro _ W2 ⟨l, rfl, k3, m3⟩ _
            have hk3 := k3.size
            refine Nest.push szS (n2.kept k3) (m3.mono (by omega)) (by omega) (by simp [rowsOf]; omega) fun s' w' g1 g2 _ => ?_
            simp only [decS_sl]
            rw [int_next (by omega)]
            exact ⟨⟨s', i + 1, rfl, by omega, Below.trans (Kept.trans k2 k3) g2, by rw [rowsOf_succ]; exact g1⟩, by simp; omega⟩
        · simp at hc2
          have : i = n := by omega
          subst this
          exact ⟨out, rfl, k2, n2⟩
      · rintro _ W ⟨out, rfl, k2, n2⟩ _
        exact ⟨out, rfl, kw1.trans (kg.trans k2), n2.mono (by omega)⟩
end Go.Proofs.Ytppfnkedbpmliaa
