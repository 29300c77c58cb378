/- What the program's own flash (nand.Nand) computes in its small calls: there, page, IsBad, ask, goes, at, Wrong, Ops, Dead, Erases, Power. -/
import Derived.Test.YtppfnkedbpmliaaNM
set_option linter.unusedVariables false
set_option linter.unusedSimpArgs false
namespace Go.Proofs.Ytppfnkedbpmliaa
open Go Go.Rk
open Go.RowKit (Below)

abbrev pv (b : Nat) : Value := .pointer (some ⟨b, 0, none⟩)
theorem flatMap_congr' {α β : Type} {f g : α → List β} {l : List α} (h : ∀ x ∈ l, f x = g x) : l.flatMap f = l.flatMap g := by
  simp only [List.flatMap_def, List.map_congr_left h]
theorem flat_set {f : Nat → List Value} {sz : Nat} (hf : ∀ k, (f k).length = sz) (i j : Nat) (hj : j < sz) (v : Value) : ∀ n, i < n → ((List.range n).flatMap f).set (i * sz + j) v = (List.range n).flatMap fun k => if k = i then (f k).set j v else f k
  | 0, h => by omega
  | n + 1, h => by
    rw [List.range_succ, List.flatMap_append, List.flatMap_append]
    have hl : ((List.range n).flatMap f).length = n * sz := by rw [flat_len hf]; simp
    by_cases hi : i < n
    · have h1 : i * sz + j < n * sz := by
        have := Nat.mul_le_mul_right sz (show i + 1 ≤ n by omega)
        rw [Nat.succ_mul] at this
        omega
      rw [List.set_append_left _ _ (by rw [hl]; exact h1), flat_set hf i j hj v n hi]
      have : ¬ n = i := by omega
      simp [this]
    · have hin : i = n := by omega
      subst hin
      rw [List.set_append_right _ _ (by rw [hl]; omega), hl]
      congr 1
      · refine flatMap_congr' fun k hk => ?_
        have : ¬ k = i := by have := List.mem_range.1 hk; omega
        simp [this]
      · simp
theorem stCells_len (st : Nd) (d k : Nat) : (stCells st d k).length = 3 := rfl
section
variable {base : Nat} {w w' : World} {L : NLay} {cap : Nat} {mk : Sl} {st : Nd}
theorem NRest.dieRow (hr : NRest base w L cap mk st) {d : Nat} (hd : d < st.g.1.toNat) {K : Sl → Prop} (k : K (dieSl L st.g d)) : ix (some ⟨L.pb, 0, none⟩) st.g.1.toNat (d : Int) fun q => rdS w (q.add ((d : Int).toNat * 1)) K := by
  refine hr.bb.row.ix (i := d) (by simpa using hd) fun b hb hc => rdS_of (s := dieSl L st.g d) ?_ k
  simpa using hc
theorem NRest.dieAt (hr : NRest base w L cap mk st) {d b : Nat} (hd : d < st.g.1.toNat) (hb : b < st.g.2.1.toNat) (j : Nat) {v : Value} (hv : (stCells st d b)[j]? = some v) : w.cell? (((⟨L.ps d, 0, none⟩ : Addr).add (Int.toNat (b : Int) * 3)).add j) = some v := by
  have hj : j < 3 := (List.getElem?_eq_some_iff.1 hv).1
  rw [addN, addN]
  refine (hr.ss d hd).at _ ?_
  have := flat_get (stCells_len st d) (List.range st.g.2.1.toNat) b (by simpa using hb) j hj
  simp only [Int.toNat_natCast, Nat.zero_add, this, List.getElem_range, hv]
/-- A die's blocks are asked for. -/
theorem NRest.dieS (hr : NRest base w L cap mk st) (hb : Blk w L.pn 111 (nandCells L cap mk st)) {d : Nat} (hd : d < st.g.1.toNat) {K : Sl → Prop} (k : K (dieSl L st.g d)) :
    nn (some ⟨L.pn, 0, none⟩) fun p => rdS w (p.add 11) fun s => ix s.a s.l (d : Int) fun q => rdS w (q.add ((d : Int).toNat * 1)) K :=
  ⟨_, rfl, rdS_of (s := ⟨some ⟨L.pb, 0, none⟩, st.g.1.toNat, cap⟩) (hb.ad 11 rfl) (hr.dieRow hd k)⟩
theorem dieIx {g : Geo} {d b : Nat} (hb : b < g.2.1.toNat) {K : Addr → Prop} (k : K ⟨L.ps d, 0, none⟩) : ix (dieSl L g d).a (dieSl L g d).l (b : Int) K := ixB hb k
theorem NRest.wrDie (hr : NRest base w L cap mk st) {d b j : Nat} (hd : d < st.g.1.toNat) (hb : b < st.g.2.1.toNat) (hj : j < 3) {v : Value} {st' : Nd} (h1 : st'.g = st.g) (h2 : st'.data = st.data) (h3 : st'.noise = st.noise) (h4 : st'.mask = st.mask)
    (hc : ∀ d' k, stCells st' d' k = if d' = d ∧ k = b then (stCells st d b).set j v else stCells st d' k) {K : World → Prop} (k : ∀ W, NRest base W L cap mk st' → Chg (· = L.ps d) w W → K W) : wr w (((⟨L.ps d, 0, none⟩ : Addr).add (Int.toNat (b : Int) * 3)).add j) v K := by
  have hs := hr.ss d hd
  have hlen : ((List.range st.g.2.1.toNat).flatMap (stCells st d)).length = st.g.2.1.toNat * 3 := by rw [flat_len (stCells_len st d)]; simp
  have hlt : b * 3 + j < st.g.2.1.toNat * 3 := by omega
  rw [addN, addN, Nat.zero_add, Int.toNat_natCast]
  refine wr_blk hs (by rw [hlen]; exact hlt) ?_
  have hs2 := hs.set (b * 3 + j) v
  have c := Chg.set w ⟨L.ps d, b * 3 + j, none⟩ v
  rw [flat_set (stCells_len st d) b j hj v _ hb] at hs2
  obtain ⟨ds, d1, d2⟩ := hr.dd
  obtain ⟨ns, z1, z2⟩ := hr.zz
  refine k _ ⟨by rw [h1]; exact hr.n, hr.lo, ?_, ?_, ?_, ?_, hr.inj, ?_⟩ c
  · rw [h1, h2]
    exact ⟨ds, d1.chg c (d1.ne hs (by decide)), fun d' b' p hd' hb' hp => (d2 d' b' p hd' hb' hp).chg c (hs.mine_ne (d2 d' b' p hd' hb' hp) (by decide))⟩
  · rw [h1, h3]
    exact ⟨ns, z1.chg c (z1.ne hs (by decide)), fun d' b' p hd' hb' hp => (z2 d' b' p hd' hb' hp).chg c (hs.mine_ne (z2 d' b' p hd' hb' hp) (by decide))⟩
  · rw [h1]
    exact hr.bb.chg c (hs.mine_ne hr.bb (by decide))
  · rw [h1]
    intro d' hd'
    by_cases he : d' = d
    · subst he
      refine hs2.cast (flatMap_congr' fun k _ => ?_)
      rw [hc]
      by_cases hk : k = b
      · subst hk; simp
      · simp [hk]
    · have e : (List.range st.g.2.1.toNat).flatMap (stCells st' d') = (List.range st.g.2.1.toNat).flatMap (stCells st d') := flatMap_congr' fun k _ => by rw [hc]; simp [he]
      rw [e]
      exact (hr.ss d' hd').chg c fun e2 => he (hr.inj d' d (by rw [hr.n]; exact hd') (by rw [hr.n]; exact hd) e2)
  · rw [h4]
    exact hr.mm.chg c (hs.mine_ne hr.mm (by decide))
/-- A page's bytes are another slice's. -/
theorem NRest.wrData (hr : NRest base w L cap mk st) (hf : fits st.g = true) {d b p : Nat} (hd : d < st.g.1.toNat) (hb : b < st.g.2.1.toNat) (hp : p < st.g.2.2.1.toNat) {s : Sl} {bs : List Byt} (m : Mine eB 5 base w s bs) {K : World → Prop}
    (k : ∀ W, NRest base W L cap mk { st with data := upd3 st.data d b p bs } → Chg (· = L.pd) w W → K W) : wr w ⟨L.pd, pix st.g d b p, none⟩ (.slice s.a s.l s.c) K := by
  obtain ⟨ds, d1, d2⟩ := hr.dd
  obtain ⟨ns, z1, z2⟩ := hr.zz
  have hlt := pix_lt hd hb hp
  refine wr_blk d1 (by simpa using hlt) ?_
  have c := Chg.set w ⟨L.pd, pix st.g d b p, none⟩ (.slice s.a s.l s.c)
  have hd2 := d1.set (pix st.g d b p) (.slice s.a s.l s.c)
  rw [arr_set] at hd2
  refine k _ ⟨hr.n, hr.lo, ⟨fun i => if i = pix st.g d b p then s else ds i, ?_, ?_⟩, ⟨ns, z1.chg c (z1.ne d1 (by decide)), fun d' b' p' hd' hb' hp' => (z2 d' b' p' hd' hb' hp').chg c (d1.mine_ne (z2 d' b' p' hd' hb' hp') (by decide))⟩,
    hr.bb.chg c (d1.mine_ne hr.bb (by decide)), fun d' hd' => (hr.ss d' hd').chg c ((hr.ss d' hd').ne d1 (by decide)), hr.inj, hr.mm.chg c (d1.mine_ne hr.mm (by decide))⟩ c
  · refine hd2.cast (List.map_congr_left fun i _ => ?_)
    dsimp only
    by_cases hix : i = pix st.g d b p
    · simp only [hix, if_true]
    · simp only [hix, if_false]
  · intro d' b' p' hd' hb' hp'
    show Mine eB 5 base _ _ (upd3 st.data d b p bs d' b' p')
    by_cases he : d' = d ∧ b' = b ∧ p' = p
    · obtain ⟨rfl, rfl, rfl⟩ := he
      simp only [if_true, upd3, true_and, and_self]
      exact m.chg c (d1.mine_ne m (by decide))
    · have : ¬ pix st.g d' b' p' = pix st.g d b p := fun e => he (pix_inj hb' hp' hb hp e)
      simp only [this, if_false, upd3, he]
      exact (d2 d' b' p' hd' hb' hp').chg c (d1.mine_ne (d2 d' b' p' hd' hb' hp') (by decide))
theorem NRest.wrNoise (hr : NRest base w L cap mk st) (hf : fits st.g = true) {d b p : Nat} (hd : d < st.g.1.toNat) (hb : b < st.g.2.1.toNat) (hp : p < st.g.2.2.1.toNat) {s : Sl} {bs : List Int} (m : Mine eI 3 base w s bs) {K : World → Prop}
    (k : ∀ W, NRest base W L cap mk { st with noise := upd3 st.noise d b p bs } → Chg (· = L.pz) w W → K W) : wr w ⟨L.pz, pix st.g d b p, none⟩ (.slice s.a s.l s.c) K := by
  obtain ⟨ds, d1, d2⟩ := hr.dd
  obtain ⟨ns, z1, z2⟩ := hr.zz
  have hlt := pix_lt hd hb hp
  refine wr_blk z1 (by simpa using hlt) ?_
  have c := Chg.set w ⟨L.pz, pix st.g d b p, none⟩ (.slice s.a s.l s.c)
  have hd2 := z1.set (pix st.g d b p) (.slice s.a s.l s.c)
  rw [arr_set] at hd2
  refine k _ ⟨hr.n, hr.lo, ⟨ds, d1.chg c (d1.ne z1 (by decide)), fun d' b' p' hd' hb' hp' => (d2 d' b' p' hd' hb' hp').chg c (z1.mine_ne (d2 d' b' p' hd' hb' hp') (by decide))⟩, ⟨fun i => if i = pix st.g d b p then s else ns i, ?_, ?_⟩,
    hr.bb.chg c (z1.mine_ne hr.bb (by decide)), fun d' hd' => (hr.ss d' hd').chg c ((hr.ss d' hd').ne z1 (by decide)), hr.inj, hr.mm.chg c (z1.mine_ne hr.mm (by decide))⟩ c
  · refine hd2.cast (List.map_congr_left fun i _ => ?_)
    dsimp only
    by_cases hix : i = pix st.g d b p
    · simp only [hix, if_true]
    · simp only [hix, if_false]
  · intro d' b' p' hd' hb' hp'
    show Mine eI 3 base _ _ (upd3 st.noise d b p bs d' b' p')
    by_cases he : d' = d ∧ b' = b ∧ p' = p
    · obtain ⟨rfl, rfl, rfl⟩ := he
      simp only [if_true, upd3, true_and, and_self]
      exact m.chg c (z1.mine_ne m (by decide))
    · have : ¬ pix st.g d' b' p' = pix st.g d b p := fun e => he (pix_inj hb' hp' hb hp e)
      simp only [this, if_false, upd3, he]
      exact (z2 d' b' p' hd' hb' hp').chg c (z1.mine_ne (z2 d' b' p' hd' hb' hp') (by decide))

theorem there_ok (h : NandAt base w L st) {d b : Int} : Ok Try.prog 88 [pv L.pn, .int .i64 d, .int .i64 b] w fun v w' => v = .bool (st.there d b) ∧ w' = w := by
  obtain ⟨cap, mk, hb, hr⟩ := h.at_
  apply u88
  unfold T88
  refine joinT_thru (cond_of (fun h1 => nn_of (rdI_of (hb.at 0 rfl) (cond_of (fun h2 => cond_of (fun h3 => nn_of (rdI_of (hb.ad 1 rfl) ?_)) fun h3 => ?_) fun h2 => ?_))) fun h1 => ?_)
  all_goals
    intro _
    refine ⟨congrArg Value.bool ?_, by trivial⟩
    simp at *
    rw [Bool.eq_iff_iff, Nd.there_iff]
    simp
    try omega
theorem page_ok (h : NandAt base w L st) {d b p : Int} : Ok Try.prog 91 [pv L.pn, .int .i64 d, .int .i64 b, .int .i64 p] w fun v w' => v = .bool (st.page d b p) ∧ w' = w := by
  obtain ⟨cap, mk, hb, hr⟩ := h.at_
  apply u91
  unfold T91
  refine joinT_thru ((there_ok h).mono ?_)
  rintro v w1 ⟨rfl, rfl⟩
  simp only [decB_bool]
  refine cond_of (fun h1 => cond_of (fun h2 => nn_of (rdI_of (hb.ad 2 rfl) ?_)) fun h2 => ?_) fun h1 => ?_
  all_goals
    intro _
    refine ⟨congrArg Value.bool ?_, by trivial⟩
    simp [Nd.page, h1] at *
    try omega
theorem nat_of {a : Int} (h : 0 ≤ a) : ∃ n : Nat, a = (n : Int) := ⟨a.toNat, by omega⟩
theorem isBad_ok' (h : NandAt base w L st) {d b : Int} : Ok Try.prog 52 [pv L.pn, .int .i64 d, .int .i64 b] w fun v w' => v = .bool (st.isBad d b) ∧ w' = w := by
  obtain ⟨cap, mk, hb, hr⟩ := h.at_
  apply u52
  unfold T52
  refine joinT_thru ((there_ok h).mono ?_)
  rintro v w1 ⟨rfl, rfl⟩
  simp only [decB_bool]
  refine cond_of (fun h1 => ?_) fun h1 => ?_
  · have ht := Nd.there_iff.1 h1
    obtain ⟨dn, rfl⟩ := nat_of ht.1
    obtain ⟨bn, rfl⟩ := nat_of ht.2.2.1
    have hg := h.ok.bounds
    refine hr.dieS (d := dn) hb (by omega) (dieIx (b := bn) (by omega) (rdB_of (hr.dieAt (d := dn) (b := bn) (by omega) (by omega) 2 rfl) ?_))
    intro _
    refine ⟨congrArg Value.bool ?_, by trivial⟩
    simp [Nd.isBad, h1]
  · intro _
    exact ⟨by simp [Nd.isBad, h1], by trivial⟩
theorem wrong_ok (h : NandAt base w L st) : Ok Try.prog 43 [pv L.pn] w fun v w' => v = .int .i64 st.wrong ∧ w' = w := by
  obtain ⟨cap, mk, hb, hr⟩ := h.at_
  apply u43
  exact nn_of (rdI_of (hb.ad 16 rfl) ⟨rfl, by trivial⟩)
theorem ops_ok (h : NandAt base w L st) : Ok Try.prog 44 [pv L.pn] w fun v w' => v = .int .i64 st.ops ∧ w' = w := by
  obtain ⟨cap, mk, hb, hr⟩ := h.at_
  apply u44
  exact nn_of (rdI_of (hb.ad 15 rfl) ⟨rfl, by trivial⟩)
theorem dead_ok (h : NandAt base w L st) : Ok Try.prog 50 [pv L.pn] w fun v w' => v = .bool st.dead ∧ w' = w := by
  obtain ⟨cap, mk, hb, hr⟩ := h.at_
  apply u50
  exact nn_of (rdB_of (hb.ad 14 rfl) ⟨rfl, by trivial⟩)
theorem erases_ok (h : NandAt base w L st) {d b : Int} : Ok Try.prog 53 [pv L.pn, .int .i64 d, .int .i64 b] w fun v w' => v = .int .i64 (st.erases d b) ∧ w' = w := by
  obtain ⟨cap, mk, hb, hr⟩ := h.at_
  apply u53
  unfold T53
  refine (there_ok h).mono ?_
  rintro v w1 ⟨rfl, rfl⟩
  simp only [decB_bool]
  refine cond_of (fun h1 => ?_) fun h1 => ?_
  · simp at h1
    exact ⟨by simp [Nd.erases, h1], by trivial⟩
  · simp at h1
    have ht := Nd.there_iff.1 h1
    obtain ⟨dn, rfl⟩ := nat_of ht.1
    obtain ⟨bn, rfl⟩ := nat_of ht.2.2.1
    have hg := h.ok.bounds
    refine hr.dieS (d := dn) hb (by omega) (dieIx (b := bn) (by omega) (rdI_of (hr.dieAt (d := dn) (b := bn) (by omega) (by omega) 1 rfl) ⟨?_, by trivial⟩))
    simp [Nd.erases, h1]
theorem power_ok (h : NandAt base w L st) : Ok Try.prog 51 [pv L.pn] w fun v w' => NandAt base w' L st.power ∧ Chg L.mut w w' := by
  obtain ⟨cap, mk, hb, hr⟩ := h.at_
  apply u51
  refine nn_of (wrW hb 12 (by simp [nandCells]) fun W1 hb1 c1 => nn_of (wrW hb1 13 (by simp [nandCells]) fun W2 hb2 c2 => nn_of (wrW hb2 14 (by simp [nandCells]) fun W3 hb3 c3 => ?_)))
  have c := (c1.trans c2).trans c3
  have hr3 := hr.own hb c
  refine ⟨⟨h.ok.power, cap, ⟨none, 0, 0⟩, hb3, ?_⟩, c.mono fun k _ hk => .inl hk⟩
  obtain ⟨a1, a2, a3, a4, a5, a6, a7, a8⟩ := hr3
  exact ⟨a1, a2, a3, a4, a5, a6, a7, Mine.nil⟩
theorem ask_ok (h : NandAt base w L st) {f : Bool} : Ok Try.prog 93 [pv L.pn, .bool f] w fun v w' => v = .int .i64 (st.askE f) ∧ NandAt base w' L (st.ask f) ∧ Chg L.mut w w' := by
  obtain ⟨cap, mk, hb, hr⟩ := h.at_
  apply u93
  refine nn_of (rdB_of (hb.ad 14 rfl) (cond_of (fun h1 => ?_) fun h1 => cond_of (fun h2 => ?_) fun h2 => ?_))
  · refine ⟨by simp [Nd.askE, h1], ?_, Chg.refl _ _⟩
    have : st.ask f = st := by simp [Nd.ask, h1]
    rw [this]; exact h
  · simp at h2
    refine nn_of (rdI_of (hb.ad 16 rfl) (nn_of (wrW hb 16 (by simp [nandCells]) fun W hb1 c => ?_)))
    refine ⟨by simp [Nd.askE, h1, h2], ?_, c.mono fun k _ hk => .inl hk⟩
    have : st.ask f = { st with wrong := wr64 (st.wrong + 1) } := by simp [Nd.ask, h1, h2]
    rw [this]
    exact ⟨⟨h.ok.geo, h.ok.page, h.ok.noise, h.ok.mask⟩, cap, mk, hb1, (hr.own hb c).same rfl rfl rfl rfl rfl rfl rfl⟩
  · simp at h2
    refine nn_of (rdI_of (hb.ad 15 rfl) (nn_of (wrW hb 15 (by simp [nandCells]) fun W hb1 c => ?_)))
    refine ⟨by simp [Nd.askE, h1, h2], ?_, c.mono fun k _ hk => .inl hk⟩
    have : st.ask f = { st with ops := wr64 (st.ops + 1) } := by simp [Nd.ask, h1, h2]
    rw [this]
    exact ⟨⟨h.ok.geo, h.ok.page, h.ok.noise, h.ok.mask⟩, cap, mk, hb1, (hr.own hb c).same rfl rfl rfl rfl rfl rfl rfl⟩
theorem goes_ok (h : NandAt base w L st) : Ok Try.prog 95 [pv L.pn] w fun v w' => v = .bool st.goes ∧ NandAt base w' L st.went ∧ Chg L.mut w w' := by
  obtain ⟨cap, mk, hb, hr⟩ := h.at_
  apply u95
  refine nn_of (rdI_of (hb.ad 12 rfl) (cond_of (fun h1 => ?_) fun h1 => ?_))
  · simp at h1
    refine ⟨by simp [Nd.goes, h1], ?_, Chg.refl _ _⟩
    have : st.went = st := by simp [Nd.went, h1]
    rw [this]; exact h
  · simp at h1
    have h1' : ¬ st.stop < 1 := by omega
    refine nn_of (rdI_of (hb.ad 12 rfl) (nn_of (wrW hb 12 (by simp [nandCells]) fun W1 hb1 c1 => nn_of (rdI_of (hb1.ad 12 rfl) (nn_of (wrW hb1 14 (by simp [nandCells]) fun W2 hb2 c2 => nn_of (rdB_of (hb2.ad 14 rfl) ?_)))))))
    have c := c1.trans c2
    refine ⟨by simp [Nd.goes, h1'], ?_, c.mono fun k _ hk => .inl hk⟩
    have : st.went = { st with stop := wr64 (st.stop - 1), dead := wr64 (st.stop - 1) == 0 } := by simp [Nd.went, h1']
    rw [this]
    exact ⟨⟨h.ok.geo, h.ok.page, h.ok.noise, h.ok.mask⟩, cap, mk, hb2, (hr.own hb c).same rfl rfl rfl rfl rfl rfl rfl⟩
end
theorem pix_wrap {g : Geo} (hf : fits g = true) {d b p : Nat} (hd : d < g.1.toNat) (hb : b < g.2.1.toNat) (hp : p < g.2.2.1.toNat) :
    IntKind.wrap .i64 ((IntKind.wrap .i64 ((IntKind.wrap .i64 ((IntKind.wrap .i64 ((d : Int) * g.2.1)) + (b : Int))) * g.2.2.1)) + (p : Int)) = (pix g d b p : Int) ∧ pix g d b p ≤ 1000 := by
  have hg := fits_bounds hf
  obtain ⟨D, B, P, _⟩ := g
  simp only at *
  obtain ⟨B, rfl⟩ := nat_of (a := B) (by omega)
  obtain ⟨P, rfl⟩ := nat_of (a := P) (by omega)
  simp only [Int.toNat_natCast, pix] at *
  have h1 : d * B ≤ 7 * 12 := Nat.mul_le_mul (by omega) (by omega)
  have h2 : (d * B + b) * P ≤ 96 * 8 := Nat.mul_le_mul (by omega) (by omega)
  have e1 : IntKind.wrap .i64 ((d : Int) * (B : Int)) = ((d * B : Nat) : Int) := by rw [← Int.natCast_mul, w64 (by omega) (by omega)]
  have e2 : IntKind.wrap .i64 (((d * B : Nat) : Int) + (b : Int)) = ((d * B + b : Nat) : Int) := by rw [← Int.natCast_add, w64 (by omega) (by omega)]
  have e3 : IntKind.wrap .i64 (((d * B + b : Nat) : Int) * (P : Int)) = (((d * B + b) * P : Nat) : Int) := by rw [← Int.natCast_mul, w64 (by omega) (by omega)]
  have e4 : IntKind.wrap .i64 ((((d * B + b) * P : Nat) : Int) + (p : Int)) = (((d * B + b) * P + p : Nat) : Int) := by rw [← Int.natCast_add, w64 (by omega) (by omega)]
  rw [e1, e2, e3, e4]
  exact ⟨rfl, by omega⟩
theorem atB_ok {w : World} {g : Geo} (hf : fits g = true) {q : Nat} {d b p : Nat} (hd : d < g.1.toNat) (hb : b < g.2.1.toNat) (hp : p < g.2.2.1.toNat) :
    Ok Try.prog 94 [.agg #[.int .i64 g.1, .int .i64 g.2.1, .int .i64 g.2.2.1, .slice (some ⟨q, 0, none⟩) (pages g) (pages g)], .int .i64 (d : Int), .int .i64 (b : Int), .int .i64 (p : Int)] w fun v w' => v = .pointer (some ⟨q, pix g d b p, none⟩) ∧ Kept w w' := by
  apply u94 (c0 := (g.1, g.2.1, g.2.2.1, ⟨some ⟨q, 0, none⟩, pages g, pages g⟩, ()))
  unfold T94
  refine alW (cs := [.int .i64 g.1, .int .i64 g.2.1, .int .i64 g.2.2.1, .slice (some ⟨q, 0, none⟩) (pages g) (pages g)]) fun W hB k _ => ?_
  refine rdS_of (s := ⟨some ⟨q, 0, none⟩, pages g, pages g⟩) (hB.ad 3 rfl) (rdI_of (hB.ad 1 rfl) (rdI_of (hB.ad 2 rfl) ?_))
  rw [(pix_wrap hf hd hb hp).1]
  refine ixB (pix_lt hd hb hp) ⟨?_, k⟩
  rw [addB]
theorem atI_ok {w : World} {g : Geo} (hf : fits g = true) {q : Nat} {d b p : Nat} (hd : d < g.1.toNat) (hb : b < g.2.1.toNat) (hp : p < g.2.2.1.toNat) :
    Ok Try.prog 92 [.agg #[.int .i64 g.1, .int .i64 g.2.1, .int .i64 g.2.2.1, .slice (some ⟨q, 0, none⟩) (pages g) (pages g)], .int .i64 (d : Int), .int .i64 (b : Int), .int .i64 (p : Int)] w fun v w' => v = .pointer (some ⟨q, pix g d b p, none⟩) ∧ Kept w w' := by
  apply u92 (c0 := (g.1, g.2.1, g.2.2.1, ⟨some ⟨q, 0, none⟩, pages g, pages g⟩, ()))
  unfold T92
  refine alW (cs := [.int .i64 g.1, .int .i64 g.2.1, .int .i64 g.2.2.1, .slice (some ⟨q, 0, none⟩) (pages g) (pages g)]) fun W hB k _ => ?_
  refine rdS_of (s := ⟨some ⟨q, 0, none⟩, pages g, pages g⟩) (hB.ad 3 rfl) (rdI_of (hB.ad 1 rfl) (rdI_of (hB.ad 2 rfl) ?_))
  rw [(pix_wrap hf hd hb hp).1]
  refine ixB (pix_lt hd hb hp) ⟨?_, k⟩
  rw [addB]
end Go.Proofs.Ytppfnkedbpmliaa
