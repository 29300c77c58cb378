/- geom does as the law GeomBad says: where a die has so many bad blocks there are as many superblocks fewer. -/
import Derived.Test.YtppfnkedbpmliaaVGc
set_option linter.unusedVariables false
set_option linter.unusedSimpArgs false
namespace Go.Proofs.Ytppfnkedbpmliaa
open Go Go.Rk
open Go.RowKit (Below)

/-- How many of the first n numbers stand in a list. -/
def seenN (ks : List Int) (n : Nat) : Nat := ((List.range n).filter fun k : Nat => decide ((k : Int) ∈ ks)).length
theorem seenN_succ (ks : List Int) (n : Nat) : seenN ks (n + 1) = seenN ks n + if (n : Int) ∈ ks then 1 else 0 := by
  simp only [seenN, List.range_succ, List.filter_append, List.length_append]
  by_cases h : (n : Int) ∈ ks <;> simp [h]
theorem seenN_le (ks : List Int) : ∀ n, seenN ks n ≤ n
  | 0 => by simp [seenN]
  | n + 1 => by have := seenN_le ks n; rw [seenN_succ]; split <;> omega
theorem seenN_old {ks : List Int} {x : Int} (h : x ∈ ks) : ∀ n, seenN (ks ++ [x]) n = seenN ks n
  | 0 => by simp [seenN]
  | n + 1 => by
    rw [seenN_succ, seenN_succ, seenN_old h n]
    congr 1
    have : ((n : Int) ∈ ks ++ [x]) ↔ (n : Int) ∈ ks := by
      simp only [List.mem_append, List.mem_singleton]
      exact ⟨fun h1 => h1.elim id fun e => e ▸ h, .inl⟩
    simp only [this]
theorem seenN_new {ks : List Int} {m : Nat} (h : (m : Int) ∉ ks) : ∀ n, seenN (ks ++ [(m : Int)]) n = seenN ks n + if m < n then 1 else 0
  | 0 => by simp [seenN]
  | n + 1 => by
    rw [seenN_succ, seenN_succ, seenN_new h n]
    by_cases hm : n = m
    · subst hm
      simp [h]
    · have : ((n : Int) ∈ ks ++ [(m : Int)]) ↔ (n : Int) ∈ ks := by
        simp only [List.mem_append, List.mem_singleton]
        exact ⟨fun h1 => h1.elim id fun e => absurd (by omega) hm, .inl⟩
      simp only [this]
      have e : (if m < n + 1 then 1 else 0) = (if m < n then 1 else 0) := by split <;> split <;> omega
      rw [e]
      omega
theorem goods_seen {bs : List (Int × Int)} {d : Int} {ks : List Int} : ∀ {n : Nat}, (∀ b : Nat, b < n → ((d, (b : Int)) ∈ bs ↔ (b : Int) ∈ ks)) → (goods bs d n).length + seenN ks n = n
  | 0, _ => by simp [goods, seenN]
  | n + 1, h => by
    have ih := goods_seen (n := n) fun b hb => h b (by omega)
    have hn := h n (by omega)
    rw [goods_succ, seenN_succ, List.length_append]
    by_cases h1 : (n : Int) ∈ ks
    · rw [if_pos (hn.2 h1), if_pos h1]; simp; omega
    · rw [if_neg fun h2 => h1 (hn.1 h2), if_neg h1]; simp; omega
/-- What the law adds of each pair that is none. -/
def noneOf (d : Int) (p : Int × Int) : List (Int × Int) := [(6 + p.1 % 9, p.2), (d, 12 + p.2 % 9), (-1, 0)]
theorem noneOf_len (d : Int) : ∀ ns : List (Int × Int), (ns.flatMap (noneOf d)).length = 3 * ns.length
  | [] => rfl
  | n :: ns => by rw [List.flatMap_cons, List.length_append, noneOf_len d ns]; show 3 + _ = _; rw [List.length_cons]; omega
theorem badFacts {d : Int} {ks : List Int} {ns : List (Int × Int)} (hk : ∀ k ∈ ks, 0 ≤ k ∧ k < 12) (hd : 0 ≤ d ∧ d < 6) :
    (∀ b : Nat, b < 12 → ((d, (b : Int)) ∈ ks.map (fun k => (d, k)) ++ ns.flatMap (noneOf d) ↔ (b : Int) ∈ ks)) ∧
    ∀ e : Nat, e < 6 → (e : Int) ≠ d → ∀ b : Nat, b < 12 → ((e : Int), (b : Int)) ∉ ks.map (fun k => (d, k)) ++ ns.flatMap (noneOf d) := by
  constructor
  · intro b hb
    simp only [List.mem_append, List.mem_map, List.mem_flatMap, noneOf, List.mem_cons, List.not_mem_nil, or_false, Prod.mk.injEq, true_and, exists_eq_right]
    constructor
    · rintro (h | ⟨p, hp, h | h | h⟩)
      · exact h
      · omega
      · omega
      · omega
    · exact .inl
  · intro e he hne b hb h
    simp only [List.mem_append, List.mem_map, List.mem_flatMap, noneOf, List.mem_cons, List.not_mem_nil, or_false, Prod.mk.injEq] at h
    rcases h with ⟨k, _, h1, h2⟩ | ⟨p, hp, h | h | h⟩ <;> omega
theorem goods_full {bs : List (Int × Int)} {e : Int} : ∀ {n : Nat}, (∀ b : Nat, b < n → (e, (b : Int)) ∉ bs) → goods bs e n = List.range n
  | 0, _ => by simp [goods]
  | n + 1, h => by rw [goods_succ, if_neg (h n (by omega)), goods_full fun b hb => h b (by omega), List.range_succ]
abbrev g12 : Geo := (6, 12, 4, ())
theorem g12_fits : fits g12 = true := by decide
theorem supers12 {d : Int} {ks : List Int} {bs : List (Int × Int)} (hd : 0 ≤ d ∧ d < 6) (h1 : ∀ b : Nat, b < 12 → ((d, (b : Int)) ∈ bs ↔ (b : Int) ∈ ks)) (h2 : ∀ e : Nat, e < 6 → (e : Int) ≠ d → ∀ b : Nat, b < 12 → ((e : Int), (b : Int)) ∉ bs) :
    (supersOf g12 bs).length = 12 - seenN ks 12 ∧ (goods bs d 12).length = 12 - seenN ks 12 := by
  have hs := goods_seen (n := 12) h1
  obtain ⟨m, rfl⟩ : ∃ m : Nat, d = (m : Int) := ⟨d.toNat, by omega⟩
  have hle := supers_len_eq (xs := bs) g12_fits (d := m) (by show m < 6; omega)
  have hge := supers_len (xs := bs) g12_fits (m := 12 - seenN ks 12) (by show _ ≤ 12; omega) fun e he => by
    change e < 6 at he
    show _ ≤ (goods bs (e : Int) 12).length
    by_cases hem : (e : Int) = (m : Int)
    · rw [hem]; omega
    · rw [goods_full (h2 e he hem)]; simp
  change _ ≤ (goods bs (m : Int) 12).length at hle
  omega

theorem facts12 (bs : List (Int × Int)) : ∀ i (hi : i < (supersOf g12 bs).length), (supersOf g12 bs)[i].length = 6 ∧ ∀ e (he : e < (supersOf g12 bs)[i].length), (supersOf g12 bs)[i][e] = (gint bs (e : Int) 12).getD i 0 :=
  fun i hi => ⟨supers_row g12_fits hi, fun e he => (supers_at g12_fits hi he).1⟩
theorem rdB_at {w : World} {a : Addr} {b : Bool} {K : Bool → Prop} (h : w.cell? a = some (.bool b)) (k : K b) : rdB w a K := rdB_of h k
theorem boolRow_set (f : Nat → Bool) (m : Nat) (hm : m < 12) : ((List.range 12).map fun k => Value.bool (f k)).set m (.bool true) = (List.range 12).map fun k => Value.bool (f k || decide (k = m)) := by
  apply List.ext_getElem
  · simp
  · intro i h1 h2
    simp only [List.length_set, List.length_map, List.length_range] at h1
    rw [List.getElem_set]
    by_cases h : m = i
    · subst h; simp
    · have : ¬ i = m := fun e => h e.symm
      simp [h, this]

theorem geomBad_ok {w : World} {die : Int} {l no : Sl} {zs : List Int} {ns : List (Int × Int)} (hl : Row eI w l zs) (hn : Row2 w no ns) :
    Ok Try.prog 7 [.int .i64 die, l.v, no.v] w fun v w' => v = .bool true ∧ Kept w w' := by
  apply u7
  unfold T7
  refine known9_ok.mono ?_
  rintro v w1 ⟨rfl, k1⟩
  simp only [decB_bool]
  refine cond_f rfl ?_
  have hnl : no.l = ns.length := hn.len
  have hll : l.l = zs.length := hl.len
  refine cond_of (fun h => ⟨by trivial, k1⟩) fun h => ?_
  simp [hnl] at h
  refine geo_init fun W2 hg hgb k2 => ?_
  refine (within_ok (by omega) (by omega) (fun h => u36 h)).mono ?_
  rintro v W3 ⟨rfl, rfl⟩
  simp only [decI_int]
  have b1 := Int.emod_nonneg die (show (6 : Int) ≠ 0 by omega)
  have b2 := Int.emod_lt_of_pos die (show (0 : Int) < 6 by omega)
  generalize die % 6 = d at b1 b2 ⊢
  refine alW (cs := [.bool false, .bool false, .bool false, .bool false, .bool false, .bool false, .bool false, .bool false, .bool false, .bool false, .bool false, .bool false]) fun W4 hb4 k4 hlt4 => ?_
  have kw4 : Kept w W4 := k1.trans (k2.trans k4)
  obtain ⟨ks, hks⟩ : ∃ ks : List Int, ks = (zs.take 20).map (· % 12) := ⟨_, rfl⟩
  have hkl : ks.length = min 20 zs.length := by rw [hks]; simp
  have hkb : ∀ k ∈ ks, 0 ≤ k ∧ k < 12 := by
    rw [hks]
    intro k hk
    obtain ⟨z, _, rfl⟩ := List.mem_map.1 hk
    omega
  have hz : W4.heap.size = W4.heap.size := rfl
  refine joinT_of (fun e W => e.2.1 = (seenN ks 12 : Int) ∧ Kept W3 W ∧ W3.heap.size < W.heap.size ∧ Blk W W3.heap.size 45 ((List.range 12).map fun k : Nat => Value.bool (decide ((k : Int) ∈ ks))) ∧ MineN 2 eP 42 (W3.heap.size + 1) W e.1 (ks.map fun k => (d, k))) ?_ ?_
  · refine loopT_of (fun e W => ∃ (i : Nat) (s : Sl), e = (s, (seenN (ks.take i) 12 : Int), (i : Int), ()) ∧ i ≤ ks.length ∧ Kept W3 W ∧ W3.heap.size < W.heap.size ∧ Blk W W3.heap.size 45 ((List.range 12).map fun k : Nat => Value.bool (decide ((k : Int) ∈ ks.take i))) ∧
        MineN 2 eP 42 (W3.heap.size + 1) W s ((ks.take i).map fun k => (d, k))) (fun e _ => ks.length - e.2.2.1.toNat)
      ⟨0, ⟨none, 0, 0⟩, rfl, by omega, k4, hlt4, hb4.cast rfl, MineN.nil⟩ ?_
    rintro e W ⟨i, s, rfl, hi, k, hlt, hb, m⟩ _
    refine joinT_of (fun e W' => e.1 = decide (i < ks.length) ∧ W' = W) ?_ ?_
    · refine cond_of (fun hc => ?_) fun hc => ?_
      · simp [hll] at hc
        refine ⟨?_, rfl⟩
        simp [hkl]
        omega
      · simp [hll] at hc
        refine ⟨?_, rfl⟩
        simp [hkl]
        omega
    · rintro ⟨e, _⟩ W' ⟨he, rfl⟩ _
      simp only at he
      subst he
      refine cond_of (fun hc => ?_) fun hc => ?_
      · simp at hc
        have hiz : i < zs.length := by omega
        have hki : ks[i] = zs[i] % 12 := by simp [hks]
        refine (hl.kept (k1.trans (k2.trans k))).ix hiz fun q hq hcell => rdI_of hcell ?_
        refine (within_ok (by omega) (by omega) (fun h => u36 h)).mono ?_
        rintro v W5 ⟨rfl, rfl⟩
        simp only [decI_int]
        have hx := hkb ks[i] (List.getElem_mem _)
        rw [← hki]
        obtain ⟨x, hxe⟩ : ∃ x : Nat, ks[i] = (x : Int) := ⟨ks[i].toNat, by omega⟩
        have ht : ks.take (i + 1) = ks.take i ++ [(x : Int)] := by rw [← hxe, List.take_append_getElem]
        rw [hxe] at hx ⊢
        unfold al
        refine pushN szP eP2 eP1 (cs := [.int .i64 d, .int .i64 (x : Int)]) [(d, (x : Int))] m (by omega) (by simp; omega) rfl rfl fun s' W6 g1 g2 => ?_
        simp only [decS_sl]
        have hb6 := hb.below g2 (by omega)
        have hx12 : x < 12 := by omega
        have hseen := hb6.at x (v := .bool (decide ((x : Int) ∈ ks.take i))) (by simp [hx12])
        have k6 : Kept W3 W6 := Below.trans k (g2.mono (by omega))
        have hlt6 : W3.heap.size < W6.heap.size := by have := g2.size; omega
        refine ⟨by omega, by omega, ?_⟩
        rw [addB]
        refine rdB_of hseen ?_
        refine joinT_of (fun e W' => e.1 = (seenN (ks.take (i + 1)) 12 : Int) ∧ Kept W3 W' ∧ W3.heap.size < W'.heap.size ∧ Blk W' W3.heap.size 45 ((List.range 12).map fun k : Nat => Value.bool (decide ((k : Int) ∈ ks.take (i + 1)))) ∧
          MineN 2 eP 42 (W3.heap.size + 1) W' s' ((ks.take (i + 1)).map fun k => (d, k))) ?_ ?_
        · rw [ht]
          have hm : ((ks.take i) ++ [(x : Int)]).map (fun k => (d, k)) = (ks.take i).map (fun k => (d, k)) ++ [(d, (x : Int))] := by simp
          rw [hm]
          refine cond_of (fun hc2 => ?_) fun hc2 => ?_
          · simp only [Bool.not_eq_true', decide_eq_false_iff_not] at hc2
            refine ⟨by omega, by omega, ?_⟩
            refine wr_blk hb6 (by simpa using hx12) ?_
            have hb7 := hb6.set x (.bool true)
            have c7 := Chg.set W6 ⟨W3.heap.size, x, none⟩ (.bool true)
            have hle := seenN_le (ks.take i) 12
            rw [seenN_new hc2, if_pos hx12, w64 (by omega) (by omega)]
            refine ⟨by simp, k6.then c7 fun y hy => by show ¬ y = W3.heap.size; omega, by simpa using hlt6, ?_, ?_⟩
            · rw [boolRow_set _ _ hx12] at hb7
              refine hb7.cast (List.map_congr_left fun k hk => ?_)
              congr 1
              rw [Bool.eq_iff_iff]
              have hkx : ((k : Int) = (x : Int)) ↔ k = x := by omega
              simp only [Bool.or_eq_true, decide_eq_true_eq, List.mem_append, List.mem_singleton, hkx]
            · exact g1.chg c7 fun b hb => by have := (g1.lt hb).1; show ¬ b.block = W3.heap.size; omega
          · simp only [Bool.not_eq_false', decide_eq_true_eq] at hc2
            rw [seenN_old hc2]
            refine ⟨rfl, k6, hlt6, ?_, g1⟩
            refine hb6.cast (List.map_congr_left fun k hk => ?_)
            congr 1
            rw [Bool.eq_iff_iff]
            simp only [decide_eq_true_eq, List.mem_append, List.mem_singleton]
            exact ⟨fun h => h.elim id fun e => e ▸ hc2, .inl⟩
        · rintro ⟨e, _⟩ W7 ⟨he, k7, hlt7, hb7, m7⟩ _
          simp only at he
          subst he
          rw [int_next (by omega)]
          exact ⟨⟨i + 1, s', rfl, by omega, k7, hlt7, hb7, m7⟩, by simp; omega⟩
      · simp at hc
        have hik : ks.take i = ks := List.take_of_length_le hc
        rw [hik] at hb m
        rw [hik]
        exact ⟨rfl, k, hlt, hb, m⟩
  · rintro ⟨s, n, _⟩ W ⟨hn', k, hlt, hb, m⟩ _
    simp only at hn' m
    subst hn'
    refine joinT_of (fun e W' => Kept W3 W' ∧ Blk W' W3.heap.size 45 ((List.range 12).map fun k : Nat => Value.bool (decide ((k : Int) ∈ ks))) ∧ MineN 2 eP 42 (W3.heap.size + 1) W' e.1 (ks.map (fun k => (d, k)) ++ ns.flatMap (noneOf d))) ?_ ?_
    · refine loopT_of (fun e W' => ∃ (j : Nat) (s : Sl), e = (s, (j : Int), ()) ∧ j ≤ ns.length ∧ Kept W3 W' ∧ W3.heap.size < W'.heap.size ∧ Blk W' W3.heap.size 45 ((List.range 12).map fun k : Nat => Value.bool (decide ((k : Int) ∈ ks))) ∧
          MineN 2 eP 42 (W3.heap.size + 1) W' s (ks.map (fun k => (d, k)) ++ (ns.take j).flatMap (noneOf d))) (fun e _ => ns.length - e.2.1.toNat)
        ⟨0, s, rfl, by omega, k, hlt, hb, by simpa using m⟩ ?_
      rintro e W5 ⟨j, s5, rfl, hj, k5, hlt5, hb5, m5⟩ _
      refine cond_of (fun hc => ?_) fun hc => ?_
      · simp [hnl] at hc
        have kd := k5.trans (kept_drew W5)
        have hn5 := hn.kept (k1.trans (k2.trans kd))
        refine hn5.ix hc fun q1 hq1 c1 c2 => ⟨by omega, by omega, rdI_of c1 ?_⟩
        refine hn5.ix hc fun q2 hq2 c3 c4 => ⟨by omega, by omega, rdI_of c4 ?_⟩
        refine hn5.ix hc fun q3 hq3 c5 c6 => ⟨by omega, by omega, rdI_of c6 ?_⟩
        refine (within_ok (by omega) (by omega) (fun h => u36 h)).mono ?_
        rintro v W6 ⟨rfl, rfl⟩
        simp only [decI_int]
        refine rdI_of c4 ⟨rfl, rdI_of c6 ⟨rfl, ?_⟩⟩
        refine (within_ok (by omega) (by omega) (fun h => u36 h)).mono ?_
        rintro v W6 ⟨rfl, rfl⟩
        simp only [decI_int]
        refine rdI_of c4 ⟨rfl, ?_⟩
        rw [w64 (n := 6 + ns[j].1 % 9) (by omega) (by omega), w64 (n := 12 + ns[j].2 % 9) (by omega) (by omega)]
        unfold al
        have hlen : (ks.map (fun k => (d, k)) ++ (ns.take j).flatMap (noneOf d)).length ≤ 100 := by
          simp only [List.length_append, List.length_map, hkl]
          rw [noneOf_len, List.length_take]
          omega
        refine pushN szP eP2 eP1 (cs := [.int .i64 (6 + ns[j].1 % 9), .int .i64 ns[j].2, .int .i64 d, .int .i64 (12 + ns[j].2 % 9), .int .i64 (-1), .int .i64 0]) (noneOf d ns[j]) (m5.kept (kept_drew W5)) (show _ ≤ W5.heap.size by omega) (by show _ + 3 ≤ _; omega) (by simp [noneOf]) rfl fun s' W7 g1 g2 => ?_
        simp only [decS_sl]
        rw [int_next (by omega)]
        have hsz : W5.drew.heap.size = W5.heap.size := rfl
        refine ⟨⟨j + 1, s', rfl, by omega, Below.trans kd (g2.mono (by omega)), by have := g2.size; omega, (hb5.kept (kept_drew W5)).below g2 (by omega), ?_⟩, by simp; omega⟩
        have ht : ns.take (j + 1) = ns.take j ++ [ns[j]] := by rw [List.take_append_getElem]
        rw [ht, List.flatMap_append, ← List.append_assoc]
        simpa using g1
      · simp [hnl] at hc
        rw [List.take_of_length_le hc] at m5
        exact ⟨k5, hb5, m5⟩
    · rintro ⟨s5, _⟩ W5 ⟨k5, hb5, m5⟩ _
      simp only at m5
      obtain ⟨f1, f2⟩ := badFacts (ns := ns) hkb ⟨b1, b2⟩
      have hbl : (ks.map (fun k => (d, k)) ++ ns.flatMap (noneOf d)).length ≤ 1000000000 := by
        simp only [List.length_append, List.length_map, hkl]
        rw [noneOf_len]
        omega
      generalize ks.map (fun k => (d, k)) ++ ns.flatMap (noneOf d) = bs at m5 f1 f2 hbl
      obtain ⟨e1, e2⟩ := supers12 ⟨b1, b2⟩ f1 f2
      have hsle := seenN_le ks 12
      have r5 : Row2 W5 s5 bs := (m5.row eP2).pairs
      have hg5 := hg.kept k5
      refine rdGeo hg5 ((supers_ok (g := g12) r5 hbl).mono ?_)
      rintro v W6 ⟨s6, rfl, k6, n6⟩
      simp only [decS_sl]
      have hl6 := n6.len
      have hat := facts12 bs
      have e1' := e1
      generalize supersOf g12 bs = xs at n6 hl6 e1 hat
      refine cond_f (by rw [hl6, e1, w64 (by omega) (by omega)]; simp; omega) ?_
      have hb6 := hb5.kept k6
      obtain ⟨dn, rfl⟩ : ∃ dn : Nat, d = (dn : Int) := ⟨d.toNat, by omega⟩
      refine joinT_of (fun e W => e.1 = ((goods bs (dn : Int) 12).length : Int) ∧ Kept W6 W) ?_ ?_
      · refine loopT_of (fun e W => ∃ b : Nat, e = (((goods bs (dn : Int) b).length : Int), (b : Int), ()) ∧ b ≤ 12 ∧ Kept W6 W) (fun e _ => 12 - e.2.1.toNat) ⟨0, rfl, by omega, kept_refl _⟩ ?_
        rintro e W ⟨b, rfl, hb12, kb⟩ _
        refine cond_of (fun hc => ?_) fun hc => ?_
        · simp only [decide_eq_true_eq] at hc
          have hc : b < 12 := by omega
          refine joinT_of (fun e W' => e.1 = ((goods bs (dn : Int) (b + 1)).length : Int) ∧ Kept W6 W') ?_ ?_
          · dsimp only
            refine ⟨by omega, by omega, ?_⟩
            rw [addB]
            refine rdB_of ((hb6.kept kb).at b (v := .bool (decide ((b : Int) ∈ ks))) (by simp [hc])) ?_
            rw [goods_succ]
            refine cond_of (fun hs => ?_) fun hs => ?_
            · simp only [decide_eq_true_eq] at hs
              rw [if_pos ((f1 b hc).2 hs)]
              exact ⟨by simp, kb⟩
            · simp only [decide_eq_false_iff_not] at hs
              have hnb : ((dn : Int), (b : Int)) ∉ bs := fun h => hs ((f1 b hc).1 h)
              rw [if_neg hnb]
              have hga := goods_at hc hnb
              obtain ⟨hga1, hga2⟩ := List.getElem?_eq_some_iff.1 hga
              have hat1 : (goods bs (dn : Int) b).length < xs.length := by omega
              have hr := (hat _ hat1).1
              have nk := n6.kept kb
              have hgle : (goods bs (dn : Int) b).length ≤ b := by
                have := gint_length_le bs (dn : Int) b
                simpa [gint] using this
              have x1 : ∀ h : dn < (xs[(goods bs (dn : Int) b).length]'hat1).length, (xs[(goods bs (dn : Int) b).length]'hat1)[dn]'h = (b : Int) := fun h => by
                rw [(hat _ hat1).2 dn h]
                simp [gint, List.getD, List.getElem?_eq_getElem hga1, hga2]
              have x2 : ∀ (e : Nat) (h : e < (xs[(goods bs (dn : Int) b).length]'hat1).length), e < 6 → (e : Int) ≠ (dn : Int) → (xs[(goods bs (dn : Int) b).length]'hat1)[e]'h = ((goods bs (dn : Int) b).length : Int) := fun e h he hne => by
                rw [(hat _ hat1).2 e h]
                simp only [gint, goods_full (f2 e he hne)]
                have : (goods bs (dn : Int) b).length < 12 := by omega
                simp [List.getD, this]
              refine joinT_of (fun e W' => e.1 = false ∧ Kept W6 W') ?_ ?_
              · refine nk.get1 hat1 fun t ht => ?_
                refine cond_f (by rw [ht, hr]; simp) ?_
                refine nk.get hat1 (show dn < _ by omega) ?_
                rw [x1]
                refine cond_f (by simp) ?_
                obtain ⟨dm, hdm, hdm2, hdm3⟩ : ∃ dm : Nat, Int.tmod (IntKind.wrap .i64 ((dn : Int) + 1)) 6 = (dm : Int) ∧ dm < 6 ∧ (dm : Int) ≠ (dn : Int) := by
                  rw [w64 (by omega) (by omega), Int.tmod_eq_emod_of_nonneg (by omega)]
                  exact ⟨(((dn : Int) + 1) % 6).toNat, by omega, by omega, by omega⟩
                rw [hdm]
                refine nk.getM hat1 fun t ht => ⟨by decide, ?_⟩
                refine ht.row.ix (show dm < _ by omega) fun q hq cq => rdI_of cq ?_
                rw [x2 dm _ hdm2 hdm3]
                exact ⟨by simp, kb⟩
              · rintro ⟨e, _⟩ W7 ⟨rfl, k7⟩ _
                refine cond_f rfl ?_
                rw [int_next (by omega)]
                exact ⟨by simp, k7⟩
          · rintro ⟨e, _⟩ W7 ⟨he, k7⟩ _
            simp only at he
            subst he
            rw [int_next (by omega)]
            exact ⟨⟨b + 1, rfl, by omega, k7⟩, by simp; omega⟩
        · simp only [decide_eq_false_iff_not] at hc
          have : b = 12 := by omega
          subst this
          exact ⟨rfl, kb⟩
      · rintro ⟨e, _⟩ W7 ⟨he, k7⟩ _
        simp only at he
        subst he
        refine rdGeo ((hg5.kept k6).kept k7) ((refSupers_ok (g := g12) ((r5.kept k6).kept k7) hbl).mono ?_)
        rintro v W8 ⟨s8, rfl, k8, n8⟩
        simp only [decS_sl]
        have hl8 := n8.len
        refine ⟨?_, k1.trans (k2.trans (k5.trans (k6.trans (k7.trans k8))))⟩
        simp [hl8, e1', e2]
end Go.Proofs.Ytppfnkedbpmliaa
