/- What the program's own geom.Supers computes: the document's superblocks. -/
import Derived.Test.YtppfnkedbpmliaaCSp
import Derived.Test.YtppfnkedbpmliaaMemC
set_option linter.unusedVariables false
set_option linter.unusedSimpArgs false
namespace Go.Proofs.Ytppfnkedbpmliaa
open Go Go.Rk
open Go.RowKit (Below)

theorem supers_ok {w : World} {g : Geo} {s : Sl} {xs : List (Int × Int)} (h : Row2 w s xs) (hl : xs.length ≤ 1000000000) :
    Ok Try.prog 28 [gv g, s.v] w fun v w' => ∃ s' : Sl, v = s'.v ∧ Kept w w' ∧ Nest w.heap.size w' s' (supersOf g xs) := by
  apply u28
  unfold T28 al
  have hg0 := GeoAt.new w g 29
  have ka := kept_alloc w (.cells #[.int .i64 g.1, .int .i64 g.2.1, .int .i64 g.2.2.1] 29)
  generalize hwa : w.alloc (.cells #[.int .i64 g.1, .int .i64 g.2.1, .int .i64 g.2.2.1] 29) = wa at hg0 ka ⊢
  have hsza : wa.heap.size = w.heap.size + 1 := by rw [← hwa]; simp
  clear hwa
  have hp3 := (Blk.new wa 30 [.slice s.a s.l s.c]).cell 0
  have kb := kept_alloc wa (.cells #[.slice s.a s.l s.c] 30)
  have hg := hg0.kept kb
  have k := ka.trans kb
  refine rdI_of hg.1 (rdI_of hg.2.1 (rdI_of hg.2.2 (fits_ok.mono ?_)))
  rintro v w1 ⟨rfl, k1⟩
  simp only [decB_bool]
  refine cond_of (fun hc => ?_) fun hc => ?_
  · simp at hc
    exact ⟨⟨none, 0, 0⟩, rfl, k.trans k1, by simp only [supersOf, hc]; exact Nest.nil⟩
  · simp at hc
    obtain ⟨a1, a2, a3, a4, a5, a6⟩ := fits_bounds hc
    have hg1 := hg.kept k1
    have kw1 := k.trans k1
    have hw1 := kw1.size
    obtain ⟨D, hD⟩ : ∃ D : Nat, g.1 = (D : Int) := ⟨g.1.toNat, by omega⟩
    obtain ⟨B, hB⟩ : ∃ B : Nat, g.2.1 = (B : Int) := ⟨g.2.1.toNat, by omega⟩
    have hsup : supersOf g xs = rowsOf (goodsAll xs B D) (least B (goodsAll xs B D)) := by simp [supersOf, hc, hD, hB]
    rw [hsup]
    clear hsup
    rw [hD] at a1 a2
    rw [hB] at a3 a4
    have hp3' : w1.cell? ⟨wa.heap.size, 0, none⟩ = some s.v := cell_kept (hp3.trans rfl) k1
    refine rdI_of hg1.2.1 (rdI_of hg1.1 ?_)
    rw [hD, hB]
    refine loopT_of (fun d W => ∃ (dies : Sl) (i : Nat) (ds : List Nat), d = ((dies, ((least B (goodsAll xs B i) : Nat) : Int), (i : Int), ()), ds) ∧ i ≤ D ∧ Kept w1 W ∧ Nest w1.heap.size W dies (goodsAll xs B i) ∧ ds.Nodup ∧ ∀ x ∈ ds, w1.heap.size ≤ x ∧ W.heap[x]? = some (.deferred (some [])))
      (fun d _ => D - d.1.2.2.1.toNat) ⟨⟨none, 0, 0⟩, 0, [], by simp [goodsAll, least], by omega, kept_refl _, Nest.nil, by simp, by simp⟩ ?_
    rintro d W ⟨dies, i, ds, rfl, hi, k2, n2, hnd, hds⟩ _
    have hW := k2.size
    refine cond_of (fun hc2 => ?_) fun hc2 => ?_
    · simp only [decide_eq_true_eq] at hc2
      have hb1 := Blk.new W 3 [.int .i64 0]
      refine wr_blk hb1 (i := 0) (by simp) ?_
      have hb2 := hb1.set 0 (.int .i64 (i : Int))
      have k18 : Kept W ((W.alloc (.cells [.int .i64 0].toArray 3)).setCell ⟨W.heap.size, 0, none⟩ (.int .i64 (i : Int))) := (kept_alloc W _).setCell (Nat.le_refl _) _
      have s18 : ((W.alloc (.cells [.int .i64 0].toArray 3)).setCell ⟨W.heap.size, 0, none⟩ (.int .i64 (i : Int))).heap.size = W.heap.size + 1 := by simp
      generalize (W.alloc (.cells [.int .i64 0].toArray 3)).setCell ⟨W.heap.size, 0, none⟩ (.int .i64 (i : Int)) = W18 at hb2 k18 s18 ⊢
      have hb3 := Blk.new W18 23 [.slice none 0 0]
      have k20 := kept_alloc W18 (.cells #[.slice none 0 0] 23)
      have hb4 := hb2.kept k20
      have s20 : (W18.alloc (.cells #[.slice none 0 0] 23)).heap.size = W.heap.size + 2 := by simp [s18]
      generalize W18.alloc (.cells #[.slice none 0 0] 23) = W20 at hb3 k20 hb4 s20 ⊢
      have k220 := k18.trans k20
      refine rdI_of (hg1.kept (k2.trans k220)).2.1 ?_
      rw [hB]
      refine but_ok.mono ?_
      rintro v W23 ⟨rfl, k23, b1, b2⟩
      have s23 := k23.size
      have kk := k220.trans k23
      have hgv : Gives Try.prog 119 #[.pointer (some ⟨W20.heap.size, 0, none⟩), .pointer (some ⟨W20.heap.size + 1, 0, none⟩)]
          (fun W' => W'.cell? ⟨wa.heap.size, 0, none⟩ = some s.v ∧ W'.cell? ⟨W.heap.size, 0, none⟩ = some (.int .i64 (i : Int)) ∧ Row2 W' s xs ∧ W'.cell? ⟨W20.heap.size, 0, none⟩ = some (.int .i64 (B : Int)) ∧
            W'.cell? ⟨W20.heap.size + 1, 0, none⟩ = some (.func (.func 79) #[] #[.pointer (some ⟨wa.heap.size, 0, none⟩), .pointer (some ⟨W.heap.size, 0, none⟩)])) ((gint xs (i : Int) B).map eI) := by
        have h0 := but_gives (c1 := ⟨wa.heap.size, 0, none⟩) (c2 := ⟨W.heap.size, 0, none⟩) (p1 := ⟨W20.heap.size, 0, none⟩) (p2 := ⟨W20.heap.size + 1, 0, none⟩) (s := s) (xs := xs) (d := (i : Int)) (n := B) hl (by omega)
        have e : (gint xs (i : Int) B).map eI = (goods xs (i : Int) B).map fun b : Nat => eI (b : Int) := by simp [gint, Function.comp_def]
        rw [e]
        exact h0
      have hcB := (hb3.kept k23).cell 0
      have hfB := (hb3.kept k23).frozen 0
      refine range_push (pb := W18.heap.size) hgv (by have := gint_length_le xs (i : Int) B; omega) (by omega) (hcB.trans rfl) hfB ?_ ?_
      · intro W' hgr
        have kb : ∀ B0, B0 ≤ W18.heap.size → Below B0 W23 W' := fun B0 hB0 => ⟨hgr.os, hgr.tape, hgr.output, hgr.size, fun k hk => hgr.block k (by omega) (by simp; omega)⟩
        have old : ∀ a v, W23.cell? a = some v → a.block ≠ W18.heap.size → W'.cell? a = some v := fun a v h hn => hgr.cell h (by simpa using hn)
        have hwa := k1.size
        have hwb : wa.heap.size < w1.heap.size := by simp at hwa; omega
        refine ⟨old _ _ (cell_kept hp3' (k2.trans kk)) (show wa.heap.size ≠ _ by omega), old _ _ (((hb4.kept k23).cell 0).trans rfl) (show W.heap.size ≠ _ by omega), ?_, old _ _ b1 (show W20.heap.size ≠ _ by omega), old _ _ b2 (show W20.heap.size + 1 ≠ _ by omega)⟩
        exact h.kept (Below.trans (kw1.trans (k2.trans kk)) (kb _ (by omega)))
      · intro W4 s4 hgr hdf hc4 hf4 hs4 m4
        have kb : ∀ B0, B0 ≤ W18.heap.size → Below B0 W23 W4 := fun B0 hB0 => ⟨hgr.os, hgr.tape, hgr.output, hgr.size, fun k hk => hgr.block k (by omega) (by simp; omega)⟩
        have kW : Kept W W4 := Below.trans kk (kb _ (by omega))
        have kWd : Kept W W4.drew := kW.trans (kept_drew W4)
        have c4 : W4.drew.cell? ⟨W18.heap.size, 0, none⟩ = some s4.v := hc4
        refine rdS_of c4 (rdS_of c4 ?_)
        have n4 := n2.kept kWd
        have m4' : Mine eI 3 w1.heap.size W4.drew s4 (gint xs (i : Int) B) := (m4.kept (kept_drew W4)).mono (by omega)
        refine rdS_of (cell_kept c4 (kept_alloc _ _)) ⟨rfl, ?_⟩
        have hlen : (goodsAll xs B i).length = i := by simp [goodsAll]
        refine Nest.push szS n4 m4' (by have := kWd.size; omega) (by omega) fun s5 W5 g1 g2 g3 => ?_
        simp only [decS_sl]
        have hown : ∀ b, dies.v.ownBlock = some b → b < W.heap.size := by
          obtain ⟨ss, m, _⟩ := n2
          intro b hb
          exact (World.ownsRow.lt m b hb).2
        have hne : ∀ b, W.heap.size ≤ b → some b ≠ dies.v.ownBlock := fun b hb e => by have := hown b e.symm; omega
        refine rdS_of (g3.cell c4 (hne _ (show W.heap.size ≤ W18.heap.size by omega))) ⟨rfl, ?_⟩
        rw [int_next (by omega)]
        have hs4' : s4.l = (gint xs (i : Int) B).length := m4.len
        have hst : ∀ x, x < W4.heap.size → W4.heap[x]? = some (.deferred (some [])) → W5.heap[x]? = some (.deferred (some [])) := fun x hx hd => by
          refine (g3.block x hx fun e => ?_).trans hd
          obtain ⟨ss, m, _⟩ := n4
          rcases m.forms with ⟨rfl, _⟩ | ⟨gg, cap, cur, rfl, _, hh, _⟩
          · simp [Value.ownBlock] at e
          · simp [Value.ownBlock] at e
            subst e
            have := hd.symm.trans hh
            simp at this
        refine ⟨⟨s5, i + 1, W23.heap.size :: ds, ?_, by omega, Below.trans (k2.trans kWd) g2, by rw [goodsAll_succ]; exact g1, ?_, ?_⟩, by simp; omega⟩
        · rw [goodsAll_succ, least_push, hs4']
          congr 3
          split <;> omega
        · refine List.nodup_cons.2 ⟨fun hm => ?_, hnd⟩
          have := heap_lt (hds _ hm).2
          omega
        · intro x hx
          rcases List.mem_cons.1 hx with rfl | hx
          · exact ⟨by omega, hst _ (by omega) hdf⟩
          · have hd := hds x hx
            exact ⟨hd.1, hst x (by have := heap_lt hd.2; have := kW.size; omega) ((kW.block x (heap_lt hd.2)).trans hd.2)⟩
    · simp only [decide_eq_false_iff_not] at hc2
      have hiD : i = D := by omega
      subst hiD
      have hgl : (goodsAll xs B i).length = i := by simp [goodsAll]
      have hle := least_le (goodsAll xs B i) B
      generalize hgs : goodsAll xs B i = gs at n2 hgl hle ⊢
      generalize hn : least B gs = n at hle ⊢
      have hdl := n2.len
      dsimp only
      refine ⟨by omega, by omega, by omega, by omega, ?_⟩
      simp only [Int.toNat_natCast, zeroRow_one]
      have hb0 : Blk (W.alloc (.cells (List.replicate n (Value.slice none 0 0)).toArray 23)) W.heap.size 23 (List.replicate n (Value.slice none 0 0)) := Blk.new W 23 _
      have k0 := kept_alloc W (.cells (List.replicate n (Value.slice none 0 0)).toArray 23)
      have s0 : (W.alloc (.cells (List.replicate n (Value.slice none 0 0)).toArray 23)).heap.size = W.heap.size + 1 := by simp
      generalize W.alloc (.cells (List.replicate n (Value.slice none 0 0)).toArray 23) = W0 at hb0 k0 s0 ⊢
      refine joinT_of (fun _ W' => ∃ vals : List Sl, vals.length = n ∧ Blk W' W.heap.size 23 (vals.map eS) ∧ (∀ j (h1 : j < vals.length), Mine eI 3 (W.heap.size + 1) W' vals[j] (gs.map fun l => l.getD j 0)) ∧ Kept W W') ?_ ?_
      · refine loopT_of (fun d W' => ∃ (i : Nat) (vals : List Sl), d = ((i : Int), ()) ∧ i ≤ n ∧ vals.length = n ∧ Blk W' W.heap.size 23 (vals.map eS) ∧ (∀ j (h1 : j < vals.length), if j < i then Mine eI 3 (W.heap.size + 1) W' vals[j] (gs.map fun l => l.getD j 0) else vals[j] = ⟨none, 0, 0⟩) ∧ Kept W W')
          (fun d _ => n - d.1.toNat) ⟨0, List.replicate n ⟨none, 0, 0⟩, rfl, by omega, by simp, by simpa using hb0, by simp, k0⟩ ?_
        rintro d W1 ⟨i2, vals, rfl, hi2, hv, hb1, hm1, k1'⟩ _
        refine cond_of (fun hc3 => ?_) fun hc3 => ?_
        · simp only [decide_eq_true_eq] at hc3
          have hi3 : i2 < n := by omega
          have hW1 := k1'.size
          have hp1 := hb1.lt
          refine joinT_of (fun _ W' => ∃ s : Sl, Blk W' W.heap.size 23 ((vals.set i2 s).map eS) ∧ Mine eI 3 W1.heap.size W' s (gs.map fun l => l.getD i2 0) ∧ W1.grownBy W' (some W.heap.size)) ?_ ?_
          · refine loopT_of (fun d W' => ∃ (j : Nat) (s : Sl), d = ((j : Int), ()) ∧ j ≤ i ∧ Blk W' W.heap.size 23 ((vals.set i2 s).map eS) ∧ Mine eI 3 W1.heap.size W' s ((gs.take j).map fun l => l.getD i2 0) ∧ W1.grownBy W' (some W.heap.size))
              (fun d _ => i - d.1.toNat) ⟨0, ⟨none, 0, 0⟩, rfl, by omega, ?_, Mine.nil, ⟨rfl, rfl, rfl, Nat.le_refl _, fun _ _ _ => rfl⟩⟩ ?_
            · have h1 := hm1 i2 (by omega)
              rw [if_neg (by omega)] at h1
              have : vals.set i2 ⟨none, 0, 0⟩ = vals := by rw [← h1]; simp
              rw [this]; exact hb1
            rintro d W2 ⟨j, s2, rfl, hj, hb2, m2, g2⟩ _
            have kW2 : Kept W W2 := Below.trans k1' ⟨g2.os, g2.tape, g2.output, g2.size, fun b hb => g2.block b (by omega) (by simp; omega)⟩
            have hs2 := g2.size
            refine cond_of (fun hc4 => ?_) fun hc4 => ?_
            · simp only [decide_eq_true_eq] at hc4
              have hj2 : j < gs.length := by omega
              obtain ⟨ss, n3, n4, n5⟩ := n2.kept kW2
              refine n3.row.ix (show j < ss.length by omega) fun q hq hcell => rdS_of hcell ?_
              have hin : i2 < gs[j].length := by have := hle.2 gs[j] (List.getElem_mem _); omega
              refine ixB hi3 ?_
              rw [addB]
              have c1 : W2.drew.cell? ⟨W.heap.size, i2, none⟩ = some s2.v := by
                have := hb2.cell i2
                rw [show W2.drew.cell? ⟨W.heap.size, i2, none⟩ = W2.cell? ⟨W.heap.size, i2, none⟩ from rfl, this]
                simp [hv, hi3, eS]
              refine rdS_of c1 ?_
              refine ((n5 j (by omega) hj2).row.kept (kept_drew W2)).ix hin fun q2 hq2 hc5 => rdI_of hc5 ?_
              refine rdS_of (cell_kept c1 (kept_alloc _ _)) ⟨rfl, ?_⟩
              refine push_int szI (m2.kept (kept_drew W2)) (show W1.heap.size ≤ W2.heap.size from hs2) (by simp; omega) fun s' W3 g3 g4 g5 => ?_
              simp only [decS_sl]
              refine ixB hi3 ?_
              rw [addB]
              have hb3 := (hb2.kept (kept_drew W2)).below g4 hp1
              refine wr_blk hb3 (by simp [hv, hi3]) ?_
              rw [int_next (by omega)]
              refine ⟨⟨j + 1, s', rfl, by omega, ?_, ?_, ?_⟩, by simp; omega⟩
              · have := hb3.set i2 (Value.slice s'.a s'.l s'.c)
                have e : ((vals.set i2 s2).map eS).set i2 (Value.slice s'.a s'.l s'.c) = (vals.set i2 s').map eS := by
                  rw [show Value.slice s'.a s'.l s'.c = eS s' from rfl, ← List.map_set]; simp
                rw [e] at this
                exact this
              · have ht : gs.take (j + 1) = gs.take j ++ [gs[j]] := by rw [List.take_append_getElem]
                have hgd : gs[j].getD i2 0 = gs[j][i2] := by simp [List.getD, List.getElem?_eq_getElem hin]
                rw [ht, List.map_append]
                simp only [List.map_cons, List.map_nil, hgd]
                refine g3.grown (grownBy_set _ _ _) fun b hb hr => ?_
                have := (g3.lt hb).1
                simp at hr
                omega
              · exact grown_set (grown_below (grown_kept g2 (kept_drew W2)) g4)
            · simp only [decide_eq_false_iff_not] at hc4
              have hji : j = i := by omega
              subst hji
              rw [List.take_of_length_le (by omega)] at m2
              exact ⟨s2, hb2, m2, g2⟩
          · rintro _ W2 ⟨s2, hb2, m2, g2⟩ _
            have kW2 : Kept W W2 := Below.trans k1' ⟨g2.os, g2.tape, g2.output, g2.size, fun b hb => g2.block b (by omega) (by simp; omega)⟩
            have hs2 := g2.size
            refine ixB hi3 ?_
            rw [addB]
            have c1 : W2.cell? ⟨W.heap.size, i2, none⟩ = some s2.v := by
              rw [hb2.cell i2]
              simp [hv, hi3, eS]
            refine rdS_of c1 ((cloneI_ok m2.row (by simp; omega)).mono ?_)
            rintro v W3 ⟨s', rfl, k3, m3, _⟩
            simp only [decS_sl]
            refine ixB hi3 ?_
            rw [addB]
            have hb3 := hb2.kept k3
            refine wr_blk hb3 (by simp [hv, hi3]) ?_
            rw [int_next (by omega)]
            have e : ((vals.set i2 s2).map eS).set i2 (Value.slice s'.a s'.l s'.c) = (vals.set i2 s').map eS := by
              rw [show Value.slice s'.a s'.l s'.c = eS s' from rfl, ← List.map_set]; simp
            have hb4 := hb3.set i2 (Value.slice s'.a s'.l s'.c)
            rw [e] at hb4
            have g3 : W1.grownBy (W3.setCell ⟨W.heap.size, i2, none⟩ (Value.slice s'.a s'.l s'.c)) (some W.heap.size) := grown_set (grown_kept g2 k3)
            refine ⟨⟨i2 + 1, vals.set i2 s', rfl, by omega, by simpa using hv, hb4, ?_, ?_⟩, by simp; omega⟩
            · intro j hj
              simp only [List.length_set] at hj
              by_cases hji : j = i2
              · subst hji
                rw [if_pos (by omega)]
                simp only [List.getElem_set_self]
                refine (m3.mono (show W.heap.size + 1 ≤ W2.heap.size by omega)).grown (grownBy_set _ _ _) fun b hb hr => ?_
                have := (m3.lt hb).1
                simp at hr
                omega
              · rw [List.getElem_set_ne (by omega)]
                have h1 := hm1 j hj
                by_cases hlt : j < i2
                · rw [if_pos hlt] at h1
                  rw [if_pos (by omega)]
                  refine h1.grown g3 fun b hb hr => ?_
                  have := (h1.lt hb).1
                  simp at hr
                  omega
                · rw [if_neg hlt] at h1
                  rw [if_neg (by omega)]
                  exact h1
            · exact Below.trans k1' ⟨g3.os, g3.tape, g3.output, g3.size, fun b hb => g3.block b (by omega) (by simp; omega)⟩
        · simp only [decide_eq_false_iff_not] at hc3
          have hin : i2 = n := by omega
          subst hin
          refine ⟨vals, hv, hb1, fun j h1 => ?_, k1'⟩
          have := hm1 j h1
          rwa [if_pos (by omega)] at this
      · rintro _ W5 ⟨vals, hv, hb, hm, k5⟩ _
        have hn8 : n ≤ B := hle.1
        have mo : Mine eS 23 w1.heap.size W5 ⟨some ⟨W.heap.size, 0, none⟩, vals.length, vals.length⟩ vals := hb.mine (by omega) (by simp only [maxLen]; omega)
        rw [hv] at mo
        refine leave_all (B := w1.heap.size) (w0 := w1) (s := ⟨some ⟨W.heap.size, 0, none⟩, n, n⟩) (xss := rowsOf gs n) ds W5 hnd (fun x hx => ?_) (k2.trans k5) ?_ ?_
        · have := hds x hx
          exact ⟨this.1, (k5.block _ (heap_lt this.2)).trans this.2⟩
        · refine ⟨vals, mo, by simp [rowsOf, hv], fun j h1 h2 => ?_⟩
          simp only [rowsOf, List.getElem_map, List.getElem_range]
          exact (hm j h1).mono (by omega)
        · intro W6 k6 n6
          exact ⟨⟨some ⟨W.heap.size, 0, none⟩, n, n⟩, rfl, kw1.trans k6, n6.mono (by omega)⟩
end Go.Proofs.Ytppfnkedbpmliaa
