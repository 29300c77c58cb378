/- What bits.ones yields, what slices.Collect makes of what is yielded, what bits.Apart answers. -/
import Derived.Test.YtppfnkedbpmliaaCB
import Derived.Test.YtppfnkedbpmliaaIter
set_option linter.unusedVariables false
set_option linter.unusedSimpArgs false
namespace Go.Proofs.Ytppfnkedbpmliaa
open Go Go.Rk
open Go.RowKit (Below)

theorem addr_add_block (a : Addr) (n : Nat) : (a.add n).block = a.block := add_block a n
theorem cell_kept {w w' : World} {a : Addr} {v : Value} (h : w.cell? a = some v) (k : Kept w w') : w'.cell? a = some v := by
  rw [← h]; exact k.cell (World.block_lt_of_cell? _ _ h)
theorem frozen_kept {w w' : World} {a : Addr} {v : Value} (h : w.cell? a = some v) (k : Kept w w') : w'.frozen? a = w.frozen? a := k.frozen (World.block_lt_of_cell? _ _ h)

/-- slices.Collect of whole numbers. -/
theorem collect_ok {w : World} {S : World → Prop} {f : FuncId} {cap : Array Value} {xs : List Int} (hy : Gives Try.prog f cap S (xs.map eI)) (hS : ∀ W, Kept w W → S W) (hl : xs.length ≤ 1000000000) :
    Ok Try.prog 117 [.func (.func f) #[] cap] w fun v w' => ∃ s : Sl, v = s.v ∧ Kept w w' ∧ Mine eI 3 w.heap.size w' s xs ∧ (s.a = none → xs = []) := by
  apply u117
  unfold T117
  suffices h : Ok Try.prog 142 [.slice none 0 0, .func (.func f) #[] cap] w fun v w' => ∃ s : Sl, v = s.v ∧ Kept w w' ∧ Mine eI 3 w.heap.size w' s xs ∧ (s.a = none → xs = []) by
    refine h.mono ?_
    rintro v w' ⟨s, rfl, h⟩
    simp only [decS_sl]
    exact ⟨s, rfl, h⟩
  apply u142 (s0 := ⟨none, 0, 0⟩)
  unfold T142 al
  generalize hw2 : w.alloc (.cells #[.slice none 0 0] 23) = w2
  have kA : Below w.heap.size w w2 := by rw [← hw2]; exact (Below.refl _ _).alloc (Nat.le_refl _) _
  have hsz : w2.heap.size = w.heap.size + 1 := by rw [← hw2]; simp
  have hc0 : w2.cell? ⟨w.heap.size, 0, none⟩ = some (.slice none 0 0) := by rw [← hw2]; simp
  have hf0 : w2.frozen? ⟨w.heap.size, 0, none⟩ = false := by rw [← hw2]; simp
  clear hw2
  show rangeX _ _ _ w2 _ _ _ _
  refine rangeX_all hy (fun i W => Below w.heap.size w W ∧ w.heap.size + 3 ≤ W.heap.size ∧ W.heap[w.heap.size + 1]? = some (.deferred (some [])) ∧ W.frozen? ⟨w.heap.size, 0, none⟩ = false ∧
      ∃ s : Sl, W.cell? ⟨w.heap.size, 0, none⟩ = some s.v ∧ Mine eI 3 (w.heap.size + 3) W s (xs.take i) ∧ (s.a = none → xs.take i = [])) ?_ ?_ ?_ ?_ ?_ ?_
  · exact fun i W h => hS W h.1
  · rintro i W W' ⟨h1, h2, h3, h4, s, h5, h6, h7⟩ k
    have hsz2 := k.size
    refine ⟨h1.trans (k.mono (by omega)), by omega, (k.block _ (by omega)).trans h3, ?_, s, cell_kept h5 k, h6.kept k, h7⟩
    rw [frozen_kept h5 k]; exact h4
  · rintro i W o ⟨h1, h2, h3, h4, s, h5, h6, h7⟩
    rw [hsz]
    have hne : ∀ a : Addr, a.block ≠ w.heap.size + 1 + 1 → (W.putObj (w.heap.size + 1 + 1) o).heap[a.block]? = W.heap[a.block]? := fun a ha => World.putObj_heap_other ha
    refine ⟨h1.atObj (by omega) _, by simpa using h2, ?_, ?_, s, ?_, ?_, h7⟩
    · rw [World.putObj_heap_other (by omega)]; exact h3
    · rw [World.frozen?_of_block (hne _ (show w.heap.size ≠ _ by omega))]; exact h4
    · rw [World.cell?_of_block (hne _ (show w.heap.size ≠ _ by omega))]; exact h5
    · exact h6.grown (grownBy_put _ _ _) fun b hb h => by
        have := (h6.lt hb).1
        simp at h
        omega
  · intro o
    have k2 : Below w2.heap.size w2 ((w2.alloc (.deferred (some []))).alloc o) := ((Below.refl _ _).alloc (Nat.le_refl _) _).alloc (by simp) _
    refine ⟨kA.trans (k2.mono (by omega)), by simp; omega, ?_, ?_, ⟨none, 0, 0⟩, ?_, Mine.nil, fun _ => by simp⟩
    · have h1 := heap_alloc_new w2 (.deferred (some []))
      rw [hsz] at h1
      rw [heap_alloc_old _ _ _ (by simp; omega)]
      exact h1
    · rw [k2.frozen (by simp; omega)]; exact hf0
    · rw [k2.cell (by simp; omega)]; exact hc0
  · rintro i v W rdy bz k hv ⟨h1, h2, h3, h4, s, h5, h6, h7⟩ hl hkk
    rw [hsz] at hl hkk ⊢
    obtain ⟨hi, hvi⟩ := List.getElem?_eq_some_iff.1 hv
    simp at hi hvi
    subst hvi
    simp only [headL, decI_int, nilL]
    refine ⟨hl, ?_⟩
    have hne : ∀ a : Addr, a.block ≠ w.heap.size + 1 + 1 → (W.putObj (w.heap.size + 1 + 1) bz).heap[a.block]? = W.heap[a.block]? := fun a ha => World.putObj_heap_other ha
    have c1 : (W.putObj (w.heap.size + 1 + 1) bz).cell? ⟨w.heap.size, 0, none⟩ = some s.v := by rw [World.cell?_of_block (hne _ (show w.heap.size ≠ _ by omega))]; exact h5
    have f1 : (W.putObj (w.heap.size + 1 + 1) bz).frozen? ⟨w.heap.size, 0, none⟩ = false := by rw [World.frozen?_of_block (hne _ (show w.heap.size ≠ _ by omega))]; exact h4
    have b1 : (W.putObj (w.heap.size + 1 + 1) bz).heap[w.heap.size + 1 + 1]? = some bz := World.putObj_heap_same (by omega)
    have d1 : (W.putObj (w.heap.size + 1 + 1) bz).heap[w.heap.size + 1]? = some (.deferred (some [])) := by rw [World.putObj_heap_other (by omega)]; exact h3
    have m1 : Mine eI 3 (w.heap.size + 3) (W.putObj (w.heap.size + 1 + 1) bz) s (xs.take i) := h6.grown (grownBy_put _ _ _) fun b hb h => by
        have := (h6.lt hb).1
        simp at h
        omega
    have k1 : Below w.heap.size w (W.putObj (w.heap.size + 1 + 1) bz) := h1.atObj (by omega) _
    have s1 : w.heap.size + 3 ≤ (W.putObj (w.heap.size + 1 + 1) bz).heap.size := by simpa using h2
    generalize W.putObj (w.heap.size + 1 + 1) bz = W1 at c1 f1 b1 d1 m1 k1 s1
    refine rdS_of c1 ?_
    have k2 : Below W1.heap.size W1 (W1.alloc (.cells #[.int .i64 xs[i]] 3)) := (Below.refl _ _).alloc (Nat.le_refl _) _
    have m0 : Row eI (W1.alloc (.cells #[.int .i64 xs[i]] 3)) ⟨some ⟨W1.heap.size, 0, none⟩, 1, 1⟩ [xs[i]] := by
      have := Mine.lit (enc := eI) (e := 3) (base := W1.heap.size) (w := W1) (cs := [.int .i64 xs[i]]) (xs := [xs[i]]) rfl (Nat.le_refl _) (show 1 ≤ maxLen by decide)
      exact this.row
    refine raw_append szI (fun x => rfl) (s := s) (u := ⟨some ⟨W1.heap.size, 0, none⟩, 1, 1⟩) (m1.alloc _) m0 (by simp; omega) (by simp; omega) fun s' W2 g1 g2 g3 => ?_
    simp only [decS_sl]
    have k3 : Below (w.heap.size + 3) W1 W2 := (m1.alloc _).below_grown (k2.mono (by omega)) g2 (Nat.le_refl _) (by simp; omega)
    have c2 : W2.cell? ⟨w.heap.size, 0, none⟩ = some s.v := by rw [k3.cell (by simp)]; exact c1
    have f2 : W2.frozen? ⟨w.heap.size, 0, none⟩ = false := by rw [k3.frozen (by simp)]; exact f1
    refine ⟨⟨_, c2⟩, f2, ?_⟩
    refine hkk _ ⟨(k1.trans (k3.mono (by omega))).setCell (Nat.le_refl _) _, by simp; have := k3.size; omega, ?_, by simpa using f2, s', World.cell?_setCell_same _ _ _ c2, ?_, ?_⟩ ?_
    · rw [Below.heap_setCell _ _ _ _ (show _ ≠ w.heap.size by omega), k3.block _ (by omega)]; exact d1
    · have : xs.take (i + 1) = xs.take i ++ [xs[i]] := by rw [List.take_append_getElem]
      rw [this]
      exact g1.grown (grownBy_set _ _ _) fun b hb h => by
        have := (g1.lt hb).1
        simp at h
        omega
    · intro hs
      have := (g3 hs).2
      simp at this
    · rw [Below.heap_setCell _ _ _ _ (show _ ≠ w.heap.size by omega), k3.block _ (by omega)]; exact b1
  · rintro W o ⟨h1, h2, h3, h4, s, h5, h6, h7⟩
    rw [hsz]
    have hne : ∀ a : Addr, a.block ≠ w.heap.size + 1 + 1 → (W.putObj (w.heap.size + 1 + 1) o).heap[a.block]? = W.heap[a.block]? := fun a ha => World.putObj_heap_other ha
    refine rdS_of ((World.cell?_of_block (hne _ (show w.heap.size ≠ _ by omega))).trans h5) ?_
    refine ⟨(World.putObj_heap_other (by omega)).trans h3, ?_⟩
    simp only [List.length_map, List.take_length] at h6 h7
    refine ⟨s, rfl, (h1.atObj (by omega) _).atObj (by omega) _, ?_, h7⟩
    refine ((h6.grown (grownBy_put _ (w.heap.size + 1 + 1) o) fun b hb h => ?_).grown (grownBy_put _ (w.heap.size + 1) _) fun b hb h => ?_).mono (by omega)
    · have := (h6.lt hb).1
      simp at h
      omega
    · have := (h6.lt hb).1
      simp at h
      omega

/-- What bits.ones yields. -/
theorem ones_gives {c : Addr} {s : Sl} {bs : List (BitVec 8)} (hl : bs.length ≤ 100000000) : Gives Try.prog 143 #[.pointer (some c)] (fun W => W.cell? c = some s.v ∧ Row eB W s bs) ((onesOf bs).map fun p : Nat => eI (p : Int)) := by
  intro l w1 J hJ _ h0 hy
  apply u143
  unfold T143
  refine rdS_of (hJ 0 _ h0).1 ?_
  have hsl : s.l = bs.length := (hJ 0 _ h0).2.len
  refine joinT_of (fun _ W => J (onesOf bs).length W) ?_ fun _ W h _ => by simpa using h
  refine loopT_of (fun d W => ∃ i : Nat, d = ((i : Int), ()) ∧ i ≤ bs.length ∧ J (onesTo bs (8 * i)).length W) (fun d _ => bs.length - d.1.toNat) ⟨0, rfl, by omega, by simpa [onesTo] using h0⟩ ?_
  rintro d W ⟨i, rfl, hi, hJi⟩ _
  refine cond_of (fun hcc => ?_) fun hcc => ?_
  · simp [hsl] at hcc
    refine (hJ _ _ hJi).2.ix hcc fun q hq hcell => ?_
    refine rdI_of hcell ?_
    refine joinT_of (fun _ W => J (onesTo bs (8 * (i + 1))).length W) ?_ ?_
    · refine loopT_of (fun d W => ∃ j : Nat, d = ((j : Int), ()) ∧ j ≤ 8 ∧ J (onesTo bs (8 * i + j)).length W) (fun d _ => 8 - d.1.toNat) ⟨0, rfl, by omega, hJi⟩ ?_
      rintro d W2 ⟨j, rfl, hj, hJj⟩ _
      refine cond_of (fun h8 => ?_) fun h8 => ?_
      · simp at h8
        have hj8 : j < 8 := by omega
        have hbit : bitAt bs (8 * i + j) = bs[i].getLsbD j := by
          simp only [bitAt]
          rw [show (8 * i + j) / 8 = i by omega, show (8 * i + j) % 8 = j by omega]
          simp [List.getD, List.getElem?_eq_getElem hcc]
        have hwp : IntKind.wrap .i64 ((IntKind.wrap .i64 ((8 : Int) * (i : Int))) + (j : Int)) = ((8 * i + j : Nat) : Int) := by
          rw [w64 (n := (8 : Int) * (i : Int)) (by omega) (by omega), w64 (by omega) (by omega)]
          omega
        have hwj : IntKind.wrap .i64 ((j : Int) + 1) = ((j + 1 : Nat) : Int) := by rw [w64 (by omega) (by omega)]; rfl
        refine joinT_of (fun d W => d.1 = false ∧ J (onesTo bs (8 * i + j + 1)).length W) ?_ ?_
        · refine ⟨by omega, ?_⟩
          have hband := bit_and bs[i] j hj8
          simp only [Int.toNat_natCast]
          refine cond_of (fun hb => ?_) fun hb => ?_
          · rw [hband] at hb
            rw [hwp]
            refine hy (onesTo bs (8 * i + j)).length _ _ _ ?_ hJj fun W' hW' => ?_
            · have := onesOf_at (bs := bs) (p := 8 * i + j) (by omega) (by rw [hbit, hb])
              simp [this]
            · simp only [decB_bool]
              refine ⟨by trivial, ?_⟩
              rw [onesTo_succ, hbit, hb]
              simpa using hW'
          · rw [hband] at hb
            refine ⟨by trivial, ?_⟩
            rw [onesTo_succ, hbit, hb]
            simpa using hJj
        · rintro ⟨d3, _⟩ W3 ⟨rfl, hJ3⟩ _
          refine cond_f rfl ?_
          simp only [hwj]
          exact ⟨⟨j + 1, rfl, by omega, hJ3⟩, by simp; omega⟩
      · simp at h8
        have : j = 8 := by omega
        subst this
        exact hJj
    · rintro _ W3 hJ3 _
      have hwi : IntKind.wrap .i64 ((i : Int) + 1) = ((i + 1 : Nat) : Int) := by rw [w64 (by omega) (by omega)]; rfl
      simp only [hwi]
      exact ⟨⟨i + 1, rfl, by omega, hJ3⟩, by simp; omega⟩
  · simp [hsl] at hcc
    have : i = bs.length := by omega
    subst this
    exact hJi
/-- bits.Apart, of rows that are as long. -/
theorem apart_ok {w : World} {a b : Sl} {xs ys : List (BitVec 8)} (ha : Row eB w a xs) (hb : Row eB w b ys) (he : xs.length = ys.length) (hl : xs.length ≤ 10000000) :
    Ok Try.prog 75 [a.v, b.v] w fun v w' => ∃ s : Sl, v = s.v ∧ Kept w w' ∧ Mine eI 3 w.heap.size w' s ((onesOf (List.zipWith (· ^^^ ·) xs ys)).map fun p : Nat => (p : Int)) := by
  apply u75
  unfold T75
  have hal : a.l = xs.length := ha.len
  have hbl : b.l = ys.length := hb.len
  refine cond_f (by simp; omega) ?_
  refine (clone_ok ha (by omega)).mono ?_
  rintro v w1 ⟨s1, rfl, k1, o1, n1⟩
  simp only [decS_sl]
  refine joinT_of (fun _ W => Kept w W ∧ Mine eB 5 w.heap.size W s1 (List.zipWith (· ^^^ ·) xs ys)) ?_ ?_
  · refine loopT_of (fun d W => ∃ i : Nat, d = ((i : Int), ()) ∧ i ≤ xs.length ∧ Kept w W ∧ Mine eB 5 w.heap.size W s1 (List.zipWith (· ^^^ ·) (xs.take i) (ys.take i) ++ xs.drop i)) (fun d _ => xs.length - d.1.toNat) ⟨0, rfl, by omega, k1, by simpa using o1⟩ ?_
    rintro d W ⟨i, rfl, hi, k2, o2⟩ _
    refine cond_of (fun hc => ?_) fun hc => ?_
    · simp [hbl] at hc
      refine (hb.kept k2).ix hc fun q hq hcell => ?_
      refine rdI_of hcell ?_
      have hi2 : i < (List.zipWith (· ^^^ ·) (xs.take i) (ys.take i) ++ xs.drop i).length := by simp; omega
      refine o2.row.ix hi2 fun q2 hq2 hc2 => ?_
      refine rdI_of hc2 ?_
      have hg : (List.zipWith (· ^^^ ·) (xs.take i) (ys.take i) ++ xs.drop i)[i] = xs[i] := by
        rw [List.getElem_append_right (by simp; omega)]
        simp
        congr 1
        omega
      have hx : bitI .xor .u8 ((xs[i].toNat : Int)) ((ys[i].toNat : Int)) = ((xs[i] ^^^ ys[i]).toNat : Int) := by
        show IntKind.wrap .u8 (((BitVec.ofInt 8 (xs[i].toNat : Int) ^^^ BitVec.ofInt 8 (ys[i].toNat : Int)).toNat : Int)) = _
        have h2 : ∀ x : BitVec 8, BitVec.ofInt 8 (x.toNat : Int) = x := by intro x; simp
        rw [h2, h2]
        have := (xs[i] ^^^ ys[i]).isLt
        exact wu8 (by omega) (by omega)
      have ho := o2.put hi2 (xs[i] ^^^ ys[i]) hq2
      refine ⟨q2, hq2, by omega, by have := o2.len; omega, ?_⟩
      rw [hg, hx]
      refine ⟨ho.1, ho.2.1, ?_⟩
      have hwi : IntKind.wrap .i64 ((i : Int) + 1) = ((i + 1 : Nat) : Int) := by rw [w64 (by omega) (by omega)]; rfl
      simp only [hwi]
      refine ⟨⟨i + 1, rfl, by omega, k2.setCell ho.2.2.2.1 _, ?_⟩, by simp; omega⟩
      have hset : (List.zipWith (· ^^^ ·) (xs.take i) (ys.take i) ++ xs.drop i).set i (xs[i] ^^^ ys[i]) = List.zipWith (· ^^^ ·) (xs.take (i + 1)) (ys.take (i + 1)) ++ xs.drop (i + 1) := by
        apply List.ext_getElem
        · simp; omega
        · intro j h1 h2
          simp only [List.getElem_set, List.getElem_append, List.length_zipWith, List.length_take, List.getElem_zipWith, List.getElem_take, List.getElem_drop]
          by_cases hij : i = j
          · subst hij
            rw [if_pos rfl, dif_pos (by omega)]
          · rw [if_neg hij]
            by_cases hj : j < i
            · rw [dif_pos (by omega), dif_pos (by omega)]
            · rw [dif_neg (by omega), dif_neg (by omega)]
              congr 1
              omega
      rw [← hset]
      exact ho.2.2.1
    · simp [hbl] at hc
      have : i = xs.length := by omega
      subst this
      refine ⟨k2, ?_⟩
      rw [List.take_length, List.drop_length, List.append_nil, he, List.take_length] at o2
      exact o2
  · rintro _ W ⟨k2, o2⟩ _
    apply u118
    unfold T118 al
    have k3 : Kept W (W.alloc (.cells #[s1.v] 22)) := (Below.refl _ _).alloc (Nat.le_refl _) _
    have hg := ones_gives (c := ⟨W.heap.size, 0, none⟩) (s := s1) (bs := List.zipWith (· ^^^ ·) xs ys) (by simp; omega)
    have hlo : (onesOf (List.zipWith (· ^^^ ·) xs ys)).length ≤ 8 * xs.length := by
      have h1 := List.length_filter_le (bitAt (List.zipWith (· ^^^ ·) xs ys)) (List.range (8 * (List.zipWith (· ^^^ ·) xs ys).length))
      simp only [onesOf, onesTo]
      refine Nat.le_trans h1 ?_
      simp
      omega
    have hg2 : Gives Try.prog 143 #[.pointer (some ⟨W.heap.size, 0, none⟩)] (fun W' => W'.cell? ⟨W.heap.size, 0, none⟩ = some s1.v ∧ Row eB W' s1 (List.zipWith (· ^^^ ·) xs ys)) (((onesOf (List.zipWith (· ^^^ ·) xs ys)).map fun p : Nat => (p : Int)).map eI) := by simpa [Function.comp_def] using hg
    refine (collect_ok hg2 (fun W' kW => ⟨cell_kept (by simp) kW, (o2.row.kept k3).kept kW⟩) (by simp; omega)).mono ?_
    rintro v w4 ⟨s, rfl, k4, o4, n4⟩
    simp only [decS_sl]
    have hsz := k2.size
    exact ⟨s, rfl, (k2.trans k3).trans k4, o4.mono (by simp; omega)⟩
/-- The chapter's example. -/
theorem known_ok {w : World} : Ok Try.prog 22 [] w fun v w' => v = .bool true ∧ Kept w w' := by
  apply u22
  unfold T22 al
  have k1 : Kept w (w.alloc (.cells #[.int .u8 1] 5)) := (Below.refl _ _).alloc (Nat.le_refl _) _
  have k2 : Kept (w.alloc (.cells #[.int .u8 1] 5)) ((w.alloc (.cells #[.int .u8 1] 5)).alloc (.cells #[.int .u8 2] 5)) := (Below.refl _ _).alloc (Nat.le_refl _) _
  have r1 : Row eB (w.alloc (.cells #[.int .u8 1] 5)) ⟨some ⟨w.heap.size, 0, none⟩, 1, 1⟩ [1#8] :=
    (Mine.lit (enc := eB) (e := 5) (base := w.heap.size) (w := w) (cs := [.int .u8 1]) (xs := [1#8]) rfl (Nat.le_refl _) (show 1 ≤ maxLen by decide)).row
  have r2 : Row eB ((w.alloc (.cells #[.int .u8 1] 5)).alloc (.cells #[.int .u8 2] 5)) ⟨some ⟨(w.alloc (.cells #[.int .u8 1] 5)).heap.size, 0, none⟩, 1, 1⟩ [2#8] :=
    (Mine.lit (enc := eB) (e := 5) (base := w.heap.size) (w := w.alloc (.cells #[.int .u8 1] 5)) (cs := [.int .u8 2]) (xs := [2#8]) rfl (by simp) (show 1 ≤ maxLen by decide)).row
  refine (apart_ok (a := ⟨_, 1, 1⟩) (b := ⟨_, 1, 1⟩) (r1.kept k2) r2 rfl (by simp)).mono ?_
  rintro v w3 ⟨s, rfl, k3, o3⟩
  simp only [decS_sl]
  have hones : ((onesOf (List.zipWith (· ^^^ ·) [1#8] [2#8])).map fun p : Nat => (p : Int)) = [0, 1] := by decide
  rw [hones] at o3
  have hs : s.l = 2 := o3.len
  have kk : Kept w w3 := k1.trans (k2.trans k3)
  refine joinT_of (fun d W => d.1 = true ∧ W = w3) ?_ ?_
  · refine cond_t (by simp [hs]) ?_
    refine o3.row.ix (i := 0) (by decide) fun q hq hc => ?_
    refine rdI_of (n := 0) (by simpa [Addr.add] using hc) ?_
    refine cond_t (by decide) ?_
    refine o3.row.ix (i := 1) (by decide) fun q hq hc => ?_
    refine rdI_of (n := 1) (by simpa using hc) ?_
    exact ⟨by decide, rfl⟩
  · rintro ⟨d, _⟩ W ⟨rfl, rfl⟩ _
    exact ⟨rfl, kk⟩
end Go.Proofs.Ytppfnkedbpmliaa
