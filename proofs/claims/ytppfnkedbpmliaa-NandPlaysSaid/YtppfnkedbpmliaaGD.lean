/- The document's superblocks as rows of numbers: how many there are, what stands in them. No program in sight. -/
import Derived.Test.YtppfnkedbpmliaaCGl
set_option linter.unusedVariables false
set_option linter.unusedSimpArgs false
namespace Go.Proofs.Ytppfnkedbpmliaa
open Go Go.Rk

theorem goods_all {xs : List (Int × Int)} {d : Int} : ∀ {n : Nat}, (∀ b : Nat, b < n → (d, (b : Int)) ∉ xs) → (goods xs d n).length = n
  | 0, _ => by simp [goods]
  | n + 1, h => by
    rw [goods_succ, if_neg (h n (by omega)), List.length_append, goods_all fun b hb => h b (by omega)]
    simp
theorem goods_most {xs : List (Int × Int)} {d : Int} : ∀ {n : Nat}, (∀ a b : Nat, a < n → b < n → (d, (a : Int)) ∈ xs → (d, (b : Int)) ∈ xs → a = b) → n ≤ (goods xs d n).length + 1
  | 0, _ => by simp
  | n + 1, h => by
    rw [goods_succ, List.length_append]
    by_cases hn : (d, (n : Int)) ∈ xs
    · rw [goods_all fun b hb hm => by have := h n b (by omega) (by omega) hn hm; omega]
      omega
    · rw [if_neg hn]
      have := goods_most (n := n) fun a b ha hb => h a b (by omega) (by omega)
      simp
      omega
theorem gint_at {xs : List (Int × Int)} {d : Int} {n i : Nat} (h : i < (gint xs d n).length) : ∃ b : Nat, (gint xs d n).getD i 0 = (b : Int) ∧ b < n ∧ (d, (b : Int)) ∉ xs := by
  have h2 : i < (goods xs d n).length := by simpa [gint] using h
  refine ⟨(goods xs d n)[i], by simp [gint, List.getD, List.getElem?_eq_getElem h2], ?_⟩
  have hm : (goods xs d n)[i] ∈ goods xs d n := List.getElem_mem _
  obtain ⟨h3, h4⟩ := List.mem_filter.1 hm
  exact ⟨List.mem_range.1 h3, by simpa using h4⟩
theorem gint_lt {xs : List (Int × Int)} {d : Int} {n i j : Nat} (hij : i < j) (h : j < (gint xs d n).length) : (gint xs d n).getD i 0 < (gint xs d n).getD j 0 := by
  have h2 : j < (goods xs d n).length := by simpa [gint] using h
  have hp : (goods xs d n).Pairwise (· < ·) := List.Pairwise.filter _ List.pairwise_lt_range
  have := List.pairwise_iff_getElem.1 hp i j (by omega) h2 hij
  simp [gint, List.getD, List.getElem?_eq_getElem h2, List.getElem?_eq_getElem (show i < (goods xs d n).length by omega)]
  exact this
theorem supers_get {g : Geo} {xs : List (Int × Int)} (hf : fits g = true) {i : Nat} (hi : i < (supersOf g xs).length) :
    (supersOf g xs)[i] = (List.range g.1.toNat).map (fun d : Nat => (gint xs (d : Int) g.2.1.toNat).getD i 0) ∧ ∀ d : Nat, d < g.1.toNat → i < (gint xs (d : Int) g.2.1.toNat).length := by
  have hs : supersOf g xs = rowsOf (goodsAll xs g.2.1.toNat g.1.toNat) (least g.2.1.toNat (goodsAll xs g.2.1.toNat g.1.toNat)) := by simp [supersOf, hf]
  have hle := least_le (goodsAll xs g.2.1.toNat g.1.toNat) g.2.1.toNat
  simp only [hs] at hi ⊢
  simp only [rowsOf, List.length_map, List.length_range] at hi
  refine ⟨by simp [rowsOf, goodsAll], fun d hd => ?_⟩
  have := hle.2 (gint xs (d : Int) g.2.1.toNat) (by simp only [goodsAll, List.mem_map, List.mem_range]; exact ⟨d, hd, rfl⟩)
  omega
theorem supers_row {g : Geo} {xs : List (Int × Int)} (hf : fits g = true) {i : Nat} (hi : i < (supersOf g xs).length) : (supersOf g xs)[i].length = g.1.toNat := by
  rw [(supers_get hf hi).1]; simp
theorem supers_at {g : Geo} {xs : List (Int × Int)} (hf : fits g = true) {i d : Nat} (hi : i < (supersOf g xs).length) (hd : d < (supersOf g xs)[i].length) :
    (supersOf g xs)[i][d] = (gint xs (d : Int) g.2.1.toNat).getD i 0 ∧ i < (gint xs (d : Int) g.2.1.toNat).length := by
  have h := supers_get hf hi
  have hr := supers_row hf hi
  refine ⟨?_, h.2 d (by omega)⟩
  have : ∀ (l : List Int) (h1 : d < l.length), l = (List.range g.1.toNat).map (fun d : Nat => (gint xs (d : Int) g.2.1.toNat).getD i 0) → l[d] = (gint xs (d : Int) g.2.1.toNat).getD i 0 := by
    rintro l h1 rfl
    simp
  exact this _ hd h.1
theorem supers_none {g : Geo} {xs : List (Int × Int)} (hf : fits g = false) : supersOf g xs = [] := by simp [supersOf, hf]
theorem supers_bound (g : Geo) (xs : List (Int × Int)) : (supersOf g xs).length ≤ 12 ∧ ∀ j (h : j < (supersOf g xs).length), (supersOf g xs)[j].length ≤ 8 := by
  cases hf : fits g with
  | false => simp [supers_none hf]
  | true =>
    have hb := fits_bounds hf
    refine ⟨?_, fun j h => by rw [supers_row hf h]; omega⟩
    have hle := least_le (goodsAll xs g.2.1.toNat g.1.toNat) g.2.1.toNat
    simp only [supersOf, hf, if_true, rowsOf, List.length_map, List.length_range]
    omega
theorem supers_len {g : Geo} {xs : List (Int × Int)} (hf : fits g = true) {m : Nat} (hm : m ≤ g.2.1.toNat) (h : ∀ d : Nat, d < g.1.toNat → m ≤ (goods xs (d : Int) g.2.1.toNat).length) : m ≤ (supersOf g xs).length := by
  have key : ∀ (ls : List (List Int)) (B : Nat), m ≤ B → (∀ l ∈ ls, m ≤ l.length) → m ≤ least B ls := by
    intro ls
    induction ls with
    | nil => intro B hB _; simpa [least] using hB
    | cons l ls ih =>
      intro B hB hl
      have := ih (min B l.length) (by have := hl l (by simp); omega) fun l' h' => hl l' (by simp [h'])
      simpa [least] using this
  simp only [supersOf, hf, if_true, rowsOf, List.length_map, List.length_range]
  refine key _ _ hm fun l hl => ?_
  simp only [goodsAll, List.mem_map, List.mem_range] at hl
  obtain ⟨d, hd, rfl⟩ := hl
  simpa [gint] using h d hd
theorem supers_len_eq {g : Geo} {xs : List (Int × Int)} (hf : fits g = true) {d : Nat} (hd : d < g.1.toNat) : (supersOf g xs).length ≤ (goods xs (d : Int) g.2.1.toNat).length := by
  have hle := least_le (goodsAll xs g.2.1.toNat g.1.toNat) g.2.1.toNat
  simp only [supersOf, hf, if_true, rowsOf, List.length_map, List.length_range]
  have := hle.2 (gint xs (d : Int) g.2.1.toNat) (by simp only [goodsAll, List.mem_map, List.mem_range]; exact ⟨d, hd, rfl⟩)
  simpa [gint] using this
/-- Spoil spoils at most one block of a die. -/
theorem spoil_one {B : Int} {zs : List Int} {n : Nat} {d a b : Int} (h1 : (d, a) ∈ spoilN B zs n) (h2 : (d, b) ∈ spoilN B zs n) : a = b := by
  have key : ∀ c : Int, (d, c) ∈ spoilN B zs n → c = zs.getD d.toNat 0 % (2 * B) := by
    intro c hc
    simp only [spoilN, List.mem_flatMap, List.mem_range] at hc
    obtain ⟨i, _, hi⟩ := hc
    split at hi
    · simp only [List.mem_singleton, Prod.mk.injEq] at hi
      obtain ⟨rfl, rfl⟩ := hi
      simp
    · cases hi
  rw [key a h1, key b h2]
theorem supers_spoil {g : Geo} {zs : List Int} (hf : fits g = true) : g.2.1 - 1 ≤ (supersOf g (spoilOf g zs)).length ∧ ((supersOf g (spoilOf g zs)).length : Int) ≤ g.2.1 := by
  have hb := fits_bounds hf
  constructor
  · have := supers_len (xs := spoilOf g zs) hf (m := g.2.1.toNat - 1) (by omega) fun d hd => by
      have := goods_most (xs := spoilOf g zs) (d := (d : Int)) (n := g.2.1.toNat) fun a b _ _ h1 h2 => by
        have := spoil_one h1 h2
        omega
      omega
    omega
  · have hle := least_le (goodsAll (spoilOf g zs) g.2.1.toNat g.1.toNat) g.2.1.toNat
    simp only [supersOf, hf, if_true, rowsOf, List.length_map, List.length_range]
    omega
end Go.Proofs.Ytppfnkedbpmliaa
