/- What the program's own flash computes in Program and Erase. -/
import Derived.Test.YtppfnkedbpmliaaNE
import Derived.Test.YtppfnkedbpmliaaIterN
set_option linter.unusedVariables false
set_option linter.unusedSimpArgs false
namespace Go.Proofs.Ytppfnkedbpmliaa
open Go Go.Rk
open Go.RowKit (Below)

theorem _root_.Go.Rk.Row.chg0 {α : Type} {enc : α → Value} {w w' : World} {F : Nat → Prop} {s : Sl} {xs : List α} (h : Row enc w s xs) (k : Chg F w w') (hn : ∀ b, s.a = some b → 0 < xs.length → ¬ F b.block) : Row enc w' s xs :=
  h.of_block fun b hb h0 => k.block _ (h.block_lt h0 hb) (hn b hb h0)
theorem ask_goes (st : Nd) (f : Bool) : (st.ask f).goes = st.goes := by unfold Nd.goes; rw [(ask_fields st f).2.2.2.2.2.2.2.1]
section
variable {base : Nat} {w w' : World} {L : NLay} {st : Nd}
/-- A die's block counts on. -/
theorem NandAt.wrDie (h : NandAt base w L st) {d b j : Nat} (hd : d < st.g.1.toNat) (hb : b < st.g.2.1.toNat) (hj : j < 3) {v : Value} {st' : Nd} (h1 : st'.g = st.g) (h2 : st'.data = st.data) (h3 : st'.noise = st.noise) (h4 : st'.mask = st.mask) (h5 : st'.stop = st.stop) (h6 : st'.dead = st.dead) (h7 : st'.ops = st.ops) (h8 : st'.wrong = st.wrong)
    (hc : ∀ d' k, stCells st' d' k = if d' = d ∧ k = b then (stCells st d b).set j v else stCells st d' k) {K : World → Prop} (k : ∀ W, NandAt base W L st' → Chg L.mut w W → K W) : wr w (((⟨L.ps d, 0, none⟩ : Addr).add (Int.toNat (b : Int) * 3)).add j) v K := by
  obtain ⟨cap, mk, hB, hr⟩ := h.at_
  refine hr.wrDie hd hb hj h1 h2 h3 h4 hc fun W hr' c => k W ⟨⟨by rw [h1]; exact h.ok.geo, by rw [h2]; exact h.ok.page, by rw [h3]; exact h.ok.noise, by rw [h4]; exact h.ok.mask⟩, cap, mk, ?_, hr'⟩ (c.mono fun x _ hx => by subst hx; exact h.mut_die hd)
  have e : nandCells L cap mk st' = nandCells L cap mk st := by unfold nandCells; rw [h1, h5, h6, h7, h8]
  rw [e]
  exact hB.chg c (hr.die_ne hB hd)
theorem NandAt.wrData (h : NandAt base w L st) {d b p : Nat} (hd : d < st.g.1.toNat) (hb : b < st.g.2.1.toNat) (hp : p < st.g.2.2.1.toNat) {s : Sl} {bs : List Byt} (m : Mine eB 5 base w s bs) (hl : bs.length = 60) {K : World → Prop}
    (k : ∀ W, NandAt base W L { st with data := upd3 st.data d b p bs } → Chg L.mut w W → K W) : wr w ⟨L.pd, pix st.g d b p, none⟩ (.slice s.a s.l s.c) K := by
  obtain ⟨cap, mk, hB, hr⟩ := h.at_
  refine hr.wrData h.ok.geo hd hb hp m fun W hr' c => k W ⟨⟨h.ok.geo, fun d' b' p' => ?_, h.ok.noise, h.ok.mask⟩, cap, mk, hB.chg c (hr.dat_ne hB), hr'⟩ (c.mono fun x _ hx => .inr (.inl hx))
  show (upd3 st.data d b p bs d' b' p').length = 60
  unfold upd3
  split
  · exact hl
  · exact h.ok.page _ _ _
/-- (*Nand).Program -/
theorem program_ok (h : NandAt base w L st) {d b p : Int} {s : Sl} {bs : List Byt} (hs : Row eB w s bs) (hsm : ∀ a, s.a = some a → 0 < bs.length → ¬ L.mut a.block) (hbase : base ≤ w.heap.size) (hl : bs.length ≤ 100000000) :
    Ok Try.prog 45 [pv L.pn, .int .i64 d, .int .i64 b, .int .i64 p, s.v] w fun v w' => v = .int .i64 (st.progE d b p bs.length) ∧ NandAt base w' L (st.prog d b p bs) ∧ Chg L.mut w w' := by
  have hsl := hs.len
  have hg := h.ok.bounds
  apply u45
  unfold T45
  refine joinT_of (fun e W => e.1 = st.progFine d b p bs.length ∧ W = w) ?_ ?_
  · refine (page_ok h).mono ?_
    rintro v w1 ⟨rfl, rfl⟩
    simp only [decB_bool]
    refine cond_of (fun hc => ?_) fun hc => ?_
    · refine (isBad_ok' h).mono ?_
      rintro v w2 ⟨rfl, rfl⟩
      simp only [decB_bool]
      refine cond_of (fun hc2 => ?_) fun hc2 => ?_
      · simp at hc2
        refine cond_of (fun hc3 => ?_) fun hc3 => ?_
        · simp [hsl] at hc3
          obtain ⟨ht, hp0, hp1⟩ := Nd.page_iff.1 hc
          obtain ⟨hd0, hd1, hb0, hb1⟩ := Nd.there_iff.1 ht
          obtain ⟨dn, rfl⟩ := nat_of hd0
          obtain ⟨bn, rfl⟩ := nat_of hb0
          obtain ⟨cap, mk, hb, hr⟩ := h.at_
          refine hr.dieS (d := dn) hb (by omega) (dieIx (b := bn) (by omega) (rdI_of (n := st.next dn bn) (hr.dieAt (d := dn) (b := bn) (by omega) (by omega) 0 rfl) ⟨?_, by trivial⟩))
          have h60 : bs.length = 60 := by omega
          simp [Nd.progFine, hc, hc2, h60]
        · simp [hsl] at hc3
          refine ⟨?_, by trivial⟩
          have h60 : ¬ bs.length = 60 := by omega
          simp [Nd.progFine, h60]
      · simp at hc2
        exact ⟨by simp [Nd.progFine, hc2], by trivial⟩
    · exact ⟨by simp [Nd.progFine, hc], by trivial⟩
  rintro ⟨e, _⟩ W ⟨he, rfl⟩ _
  simp only at he
  subst he
  refine (ask_ok h).mono ?_
  rintro v w1 ⟨rfl, h1, c1⟩
  simp only [decI_int]
  refine cond_of (fun hc => ?_) fun hc => ?_
  · simp at hc
    refine ⟨by simp [Nd.progE, hc], ?_, c1⟩
    simp only [Nd.prog, hc, if_false]
    exact h1
  simp at hc
  obtain ⟨hdead, hfine⟩ := Nd.askE_zero.1 hc
  have h60 := Nd.progFine_len hfine
  have hpg : st.page d b p = true := by simp [Nd.progFine] at hfine; exact hfine.1.1
  obtain ⟨ht, hp0, hp1⟩ := Nd.page_iff.1 hpg
  obtain ⟨hd0, hd1, hb0, hb1⟩ := Nd.there_iff.1 ht
  obtain ⟨dn, rfl⟩ := nat_of hd0
  obtain ⟨bn, rfl⟩ := nat_of hb0
  obtain ⟨pn, rfl⟩ := nat_of hp0
  have eP : st.prog (dn : Int) (bn : Int) (pn : Int) bs = (st.ask (st.progFine (dn : Int) (bn : Int) (pn : Int) bs.length)).put dn bn pn bs := by simp only [Nd.prog, hc, if_true, Int.toNat_natCast]
  have eE : st.progE (dn : Int) (bn : Int) (pn : Int) bs.length = if (st.ask (st.progFine (dn : Int) (bn : Int) (pn : Int) bs.length)).goes then 8 else 0 := by simp only [Nd.progE, hc, if_true, ask_goes]
  rw [eP, eE]
  have hsg := (ask_fields st (st.progFine (dn : Int) (bn : Int) (pn : Int) bs.length)).1
  generalize st.ask (st.progFine (dn : Int) (bn : Int) (pn : Int) bs.length) = s1 at h1 hsg ⊢
  have hl1 : dn < s1.g.1.toNat := by rw [hsg]; omega
  have hl2 : bn < s1.g.2.1.toNat := by rw [hsg]; omega
  have hl3 : pn < s1.g.2.2.1.toNat := by rw [hsg]; omega
  obtain ⟨cap, mk, hb, hr⟩ := h1.at_
  refine hr.dieS hb hl1 (dieIx hl2 (rdI_of (n := s1.next dn bn) (hr.dieAt hl1 hl2 0 rfl) (dieIx hl2 ?_)))
  refine h1.wrDie hl1 hl2 (j := 0) (st' := { s1 with next := upd2 s1.next dn bn (wr64 (s1.next dn bn + 1)) }) (by omega) rfl rfl rfl rfl rfl rfl rfl rfl (fun d' k => ?_) fun w2 h2 c2 => ?_
  · by_cases he : d' = dn ∧ k = bn
    · obtain ⟨rfl, rfl⟩ := he; simp [stCells, upd2]
    · simp [stCells, upd2, he]
  obtain ⟨cap, mk, hb, hr⟩ := h2.at_
  refine nn_of (rdI_of (hb.ad 3 rfl) (rdI_of (hb.ad 4 rfl) (rdI_of (hb.ad 5 rfl) (rdS_of (s := ⟨some ⟨L.pd, 0, none⟩, pages s1.g, pages s1.g⟩) (hb.ad 6 rfl) ?_))))
  refine (atB_ok h1.ok.geo hl1 hl2 hl3).mono ?_
  rintro v w3 ⟨rfl, k3⟩
  simp only [decP_ptr]
  refine (goes_ok (h2.kept k3)).mono ?_
  rintro v w4 ⟨rfl, h4, c4⟩
  simp only [decB_bool]
  have c := c1.trans (c2.trans ((Kept.chg k3).trans c4))
  have hbase4 : base ≤ w4.heap.size := Nat.le_trans hbase c.size
  have hs4 := hs.chg0 c hsm
  have e4 : s1.put dn bn pn bs = { ({ s1 with next := upd2 s1.next dn bn (wr64 (s1.next dn bn + 1)) } : Nd).went with data := upd3 s1.data dn bn pn (if s1.goes then mixL blankL bs s1.mask else bs) } := rfl
  rw [e4]
  have eg : ({ s1 with next := upd2 s1.next dn bn (wr64 (s1.next dn bn + 1)) } : Nd).goes = s1.goes := rfl
  rw [eg]
  have f1 := Nd.went_g ({ s1 with next := upd2 s1.next dn bn (wr64 (s1.next dn bn + 1)) } : Nd)
  have f2 := Nd.went_data ({ s1 with next := upd2 s1.next dn bn (wr64 (s1.next dn bn + 1)) } : Nd)
  have f3 := Nd.went_mask ({ s1 with next := upd2 s1.next dn bn (wr64 (s1.next dn bn + 1)) } : Nd)
  generalize ({ s1 with next := upd2 s1.next dn bn (wr64 (s1.next dn bn + 1)) } : Nd).went = s4 at h4 f1 f2 f3 ⊢
  simp only at f1 f2 f3
  rw [← f1] at hl1 hl2 hl3
  have hpx : pix s1.g dn bn pn = pix s4.g dn bn pn := by rw [f1]
  rw [hpx, ← f2, ← f3]
  cases hgo : s1.goes with
  | true =>
    refine cond_t rfl ?_
    replace h4 := h4.kept (kept_drew w4)
    obtain ⟨cap, mk, hb, hr⟩ := h4.at_
    refine nn_of (rdS_of (s := mk) (hb.ad 13 rfl) (blank_ok.mono ?_))
    rintro v w5 ⟨sb, rfl, k5, mb⟩
    simp only [decS_sl]
    refine rdS_of (s := mk) ((hb.kept k5).ad 13 rfl) ⟨rfl, ?_⟩
    refine (mix_ok mb.row (hs4.kept ((kept_drew w4).trans k5)) (hr.kept k5).mm.row (by simp [blankL]) h4.ok.mask).mono ?_
    rintro v w6 ⟨sx, rfl, k6, mx⟩
    simp only [decS_sl]
    replace h4 := h4.kept (k5.trans k6)
    have hz5 := k5.size
    have hdz : w4.drew.heap.size = w4.heap.size := rfl
    refine nn_of (h4.wrData hl1 hl2 hl3 (mx.mono (by omega)) (by rw [mixL_len (by rw [blankL_len, h60]), blankL_len]) fun w7 h7 c7 => ?_)
    exact ⟨by simp, by simpa using h7, c.trans ((Kept.chg ((kept_drew w4).trans (k5.trans k6))).trans c7)⟩
  | false =>
    refine cond_f rfl ?_
    refine (clone_ok hs4 (by omega)).mono ?_
    rintro v w5 ⟨sx, rfl, k5, mx, _⟩
    simp only [decS_sl]
    replace h4 := h4.kept k5
    refine nn_of (h4.wrData hl1 hl2 hl3 (mx.mono hbase4) h60 fun w7 h7 c7 => ?_)
    exact ⟨by simp, by simpa using h7, c.trans ((Kept.chg k5).trans c7)⟩
end

/-- The pages of a block, each by its number. -/
theorem block_gives {g : Geo} (hf : fits g = true) {q : Nat} {d b : Nat} (hd : d < g.1.toNat) (hb : b < g.2.1.toNat) {c1 c2 c3 : Nat} :
    GivesN Try.prog 122 #[pv c1, pv c2, pv c3] (fun W => Blk W c1 104 [.int .i64 g.1, .int .i64 g.2.1, .int .i64 g.2.2.1, .slice (some ⟨q, 0, none⟩) (pages g) (pages g)] ∧ Blk W c2 3 [.int .i64 (d : Int)] ∧ Blk W c3 3 [.int .i64 (b : Int)])
      ((List.range g.2.2.1.toNat).map fun p : Nat => [.int .i64 (p : Int), .pointer (some ⟨q, pix g d b p, none⟩)]) := by
  intro l w1 J hJ hS h0 hy
  have hg := fits_bounds hf
  apply u122 (yield0 := l) (c1 := ⟨c1, 0, none⟩) (c2 := ⟨c2, 0, none⟩) (c3 := ⟨c3, 0, none⟩)
  unfold T122
  refine rdI_of ((hJ 0 _ h0).1.ad 2 rfl) ?_
  refine joinT_of (fun _ W => J g.2.2.1.toNat W) ?_ fun _ W h _ => by simpa using h
  refine loopT_of (fun e W => ∃ i : Nat, e = ((i : Int), ()) ∧ i ≤ g.2.2.1.toNat ∧ J i W) (fun e _ => g.2.2.1.toNat - e.1.toNat) ⟨0, rfl, by omega, h0⟩ ?_
  rintro e W ⟨i, rfl, hi, hJi⟩ _
  refine cond_of (fun hc => ?_) fun hc => ?_
  · simp only [decide_eq_true_eq] at hc
    have hi2 : i < g.2.2.1.toNat := by omega
    obtain ⟨B1, B2, B3⟩ := hJ _ _ hJi
    refine rdI_of (B1.at 0 rfl) (rdI_of (B1.ad 1 rfl) (rdI_of (B1.ad 2 rfl) (rdS_of (s := ⟨some ⟨q, 0, none⟩, pages g, pages g⟩) (B1.ad 3 rfl) (rdI_of (B2.at 0 rfl) (rdI_of (B3.at 0 rfl) ?_)))))
    refine (atB_ok hf hd hb hi2).mono ?_
    rintro v W2 ⟨rfl, k2⟩
    simp only [decP_ptr]
    refine hy i _ _ _ (by simp [hi2]) (hS _ _ _ hJi k2) fun W3 hJ3 => ?_
    simp only [decB_bool]
    refine cond_f rfl ?_
    rw [int_next (by omega)]
    exact ⟨⟨i + 1, rfl, by omega, hJ3⟩, by simp; omega⟩
  · simp only [decide_eq_false_iff_not] at hc
    have : i = g.2.2.1.toNat := by omega
    subst this
    exact hJi
section
variable {base : Nat} {w w' : World} {L : NLay} {st : Nd}
theorem NandAt.noCells (h : NandAt base w L st) {l : Nat} (hl : NoCells w l) : ¬ L.mut l := by
  intro hm
  obtain ⟨cur, e, h1, _⟩ := h.types l hm
  obtain ⟨o, h2, h3⟩ := hl
  exact h3 _ _ _ (Option.some.inj (h2.symm.trans h1))
theorem NandAt.put (h : NandAt base w L st) {l : Nat} (hl : NoCells w l) (o : Obj) : NandAt base (w.putObj l o) L st := by
  refine h.chg (chg_put w l o) (fun b hb => by subst hb; exact h.noCells hl) ?_
  rintro b cur e fr rfl hh
  obtain ⟨o', h2, h3⟩ := hl
  exact absurd (Option.some.inj (h2.symm.trans hh)) (h3 _ _ _)
/-- Only the pages that there are count. -/
theorem NandAt.congr (h : NandAt base w L st) {st' : Nd} (ok : Nd.Ok st') (h1 : st'.g = st.g) (h2 : ∀ d b p, d < st.g.1.toNat → b < st.g.2.1.toNat → p < st.g.2.2.1.toNat → st'.data d b p = st.data d b p) (h3 : st'.noise = st.noise) (h4 : st'.next = st.next) (h5 : st'.era = st.era) (h6 : st'.bad = st.bad)
    (h7 : st'.mask = st.mask) (h8 : st'.stop = st.stop) (h9 : st'.dead = st.dead) (h10 : st'.ops = st.ops) (h11 : st'.wrong = st.wrong) : NandAt base w L st' := by
  obtain ⟨cap, mk, hb, hr⟩ := h.at_
  obtain ⟨a1, a2, ⟨ds, d1, d2⟩, a4, a5, a6, a7, a8⟩ := hr
  refine ⟨ok, cap, mk, ?_, ⟨by rw [h1]; exact a1, a2, ⟨ds, by rw [h1]; exact d1, ?_⟩, by rw [h1, h3]; exact a4, by rw [h1]; exact a5, ?_, a7, by rw [h7]; exact a8⟩⟩
  · have e : nandCells L cap mk st' = nandCells L cap mk st := by unfold nandCells; rw [h1, h8, h9, h10, h11]
    rw [e]; exact hb
  · rw [h1]
    intro d b p hd hb hp
    rw [h2 d b p hd hb hp]
    exact d2 d b p hd hb hp
  · unfold stCells
    rw [h1, h4, h5, h6]
    exact a6
/-- A block of which the first pages are wiped. -/
def stage (s : Nd) (d b : Nat) (X : Nat → List Byt) (i : Nat) : Nd := { s with data := fun d' b' p' => if d' = d ∧ b' = b ∧ p' < i then X p' else s.data d' b' p' }
theorem stage_zero (s : Nd) (d b : Nat) (X : Nat → List Byt) : stage s d b X 0 = s := by
  unfold stage
  simp
theorem stage_in {s : Nd} {d b : Nat} {X : Nat → List Byt} {i p : Nat} (hp : p < i) : (stage s d b X i).data d b p = X p := by
  exact if_pos ⟨rfl, rfl, hp⟩
theorem stage_out {s : Nd} {d b : Nat} {X : Nat → List Byt} {i d' b' p : Nat} (he : ¬ (d' = d ∧ b' = b)) : (stage s d b X i).data d' b' p = s.data d' b' p := by
  exact if_neg fun h2 => he ⟨h2.1, h2.2.1⟩
theorem stage_succ (s : Nd) (d b : Nat) (X : Nat → List Byt) (i : Nat) : stage s d b X (i + 1) = { stage s d b X i with data := upd3 (stage s d b X i).data d b i (X i) } := by
  unfold stage
  simp only [Nd.mk.injEq, true_and, and_true]
  funext d' b' p'
  simp only [upd3]
  by_cases h : d' = d ∧ b' = b
  · obtain ⟨rfl, rfl⟩ := h
    by_cases hp : p' = i
    · subst hp; simp
    · by_cases hlt : p' < i
      · simp [hlt, hp, show p' < i + 1 by omega]
      · simp [hlt, hp, show ¬ p' < i + 1 by omega]
  · have h1 : ∀ Q : Prop, ¬ (d' = d ∧ b' = b ∧ Q) := fun Q h2 => h ⟨h2.1, h2.2.1⟩
    simp [h1]
/-- (*Nand).Erase -/
theorem erase_ok (h : NandAt base w L st) {d b : Int} (hbase : base ≤ w.heap.size) :
    Ok Try.prog 48 [pv L.pn, .int .i64 d, .int .i64 b] w fun v w' => v = .int .i64 (st.eraseE d b) ∧ NandAt base w' L (st.erase d b) ∧ Chg L.mut w w' := by
  have hg := h.ok.bounds
  apply u48
  unfold T48
  refine alW (cs := [pv L.pn]) fun W0 hp0 k0 _ => ?_
  have hne : ∀ W, NandAt base W L st → True := fun _ _ => trivial
  have hnew : ∀ x, L.mut x → x < w.heap.size := fun x hx => by
    obtain ⟨cur, e, h1, _⟩ := h.types x hx
    exact heap_lt h1
  refine joinT_of (fun e W => e.1 = st.askE (st.eraFine d b) ∧ NandAt base W L (st.ask (st.eraFine d b)) ∧ Chg L.mut W0 W) ?_ ?_
  · have kd := kept_drew W0
    have hpd := hp0.kept kd
    have hd := h.kept (k0.trans kd)
    refine rdP_of (hpd.at 0 rfl) (rdP_of (hpd.at 0 rfl) ((there_ok hd).mono ?_))
    rintro v w1 ⟨rfl, rfl⟩
    simp only [decB_bool]
    refine rdP_of (hpd.at 0 rfl) ⟨rfl, ?_⟩
    refine cond_of (fun hc => ?_) fun hc => ?_
    · refine rdP_of (hpd.at 0 rfl) ((isBad_ok' hd).mono ?_)
      rintro v w2 ⟨rfl, rfl⟩
      simp only [decB_bool]
      refine rdP_of (hpd.at 0 rfl) ⟨rfl, (ask_ok hd).mono ?_⟩
      rintro v w3 ⟨rfl, h3, c3⟩
      simp only [decI_int]
      have : st.eraFine d b = !st.isBad d b := by simp [Nd.eraFine, hc]
      rw [← this] at h3 ⊢
      exact ⟨rfl, h3, (Kept.chg kd).trans c3⟩
    · refine rdP_of (hpd.at 0 rfl) ⟨rfl, (ask_ok hd).mono ?_⟩
      rintro v w3 ⟨rfl, h3, c3⟩
      simp only [decI_int]
      have : st.eraFine d b = false := by simp [Nd.eraFine, hc]
      rw [← this] at h3 ⊢
      exact ⟨rfl, h3, (Kept.chg kd).trans c3⟩
  rintro ⟨e, _⟩ W ⟨he, h1, c1⟩ _
  simp only at he
  subst he
  have cw1 : Chg L.mut w W := (Kept.chg k0).trans c1
  refine cond_of (fun hc => ?_) fun hc => ?_
  · simp at hc
    refine ⟨by simp [Nd.eraseE, hc], ?_, cw1⟩
    simp only [Nd.erase, hc, if_false]
    exact h1
  simp at hc
  obtain ⟨hdead, hfine⟩ := Nd.askE_zero.1 hc
  have ht : st.there d b = true := by simp [Nd.eraFine] at hfine; exact hfine.1
  obtain ⟨hd0, hd1, hb0, hb1⟩ := Nd.there_iff.1 ht
  obtain ⟨dn, rfl⟩ := nat_of hd0
  obtain ⟨bn, rfl⟩ := nat_of hb0
  have eP : st.erase (dn : Int) (bn : Int) = (st.ask (st.eraFine (dn : Int) (bn : Int))).wipe dn bn := by simp only [Nd.erase, hc, if_true, Int.toNat_natCast]
  have eE : st.eraseE (dn : Int) (bn : Int) = if (st.ask (st.eraFine (dn : Int) (bn : Int))).goes then 8 else 0 := by simp only [Nd.eraseE, hc, if_true, ask_goes]
  rw [eP, eE]
  have hsg := (ask_fields st (st.eraFine (dn : Int) (bn : Int))).1
  generalize st.ask (st.eraFine (dn : Int) (bn : Int)) = s1 at h1 hsg ⊢
  have hl1 : dn < s1.g.1.toNat := by rw [hsg]; omega
  have hl2 : bn < s1.g.2.1.toNat := by rw [hsg]; omega
  have hp1 : Blk W w.heap.size 47 [pv L.pn] := hp0.chg c1 fun hm => by have := hnew _ hm; omega
  obtain ⟨cap, mk, hb, hr⟩ := h1.at_
  refine rdP_of (hp1.at 0 rfl) (hr.dieS hb hl1 (dieIx hl2 (rdI_of (n := s1.era dn bn) (hr.dieAt hl1 hl2 1 rfl) (dieIx hl2 ?_))))
  refine h1.wrDie hl1 hl2 (j := 1) (st' := { s1 with era := upd2 s1.era dn bn (wr64 (s1.era dn bn + 1)) }) (by omega) rfl rfl rfl rfl rfl rfl rfl rfl (fun d' k => ?_) fun w2 h2 c2 => ?_
  · by_cases he : d' = dn ∧ k = bn
    · obtain ⟨rfl, rfl⟩ := he; simp [stCells, upd2]
    · simp [stCells, upd2, he]
  have hp2 := hp1.chg c2 fun hm => by have := hnew _ hm; omega
  refine rdP_of (hp2.at 0 rfl) ((goes_ok h2).mono ?_)
  rintro v w3 ⟨rfl, h3, c3⟩
  simp only [decB_bool]
  have hp3 := hp2.chg c3 fun hm => by have := hnew _ hm; omega
  have e4 : s1.wipe dn bn = { ({ s1 with era := upd2 s1.era dn bn (wr64 (s1.era dn bn + 1)) } : Nd).went with
      data := fun d' b' p' => if d' = dn ∧ b' = bn then (if s1.goes then mixL (s1.data dn bn p') blankL s1.mask else blankL) else s1.data d' b' p'
      next := if s1.goes then s1.next else upd2 s1.next dn bn 0 } := rfl
  have okw : Nd.Ok (s1.wipe dn bn) := h1.ok.wipe
  rw [e4] at okw ⊢
  have eg : ({ s1 with era := upd2 s1.era dn bn (wr64 (s1.era dn bn + 1)) } : Nd).goes = s1.goes := rfl
  rw [eg]
  have f1 := Nd.went_g ({ s1 with era := upd2 s1.era dn bn (wr64 (s1.era dn bn + 1)) } : Nd)
  have f2 := Nd.went_data ({ s1 with era := upd2 s1.era dn bn (wr64 (s1.era dn bn + 1)) } : Nd)
  have f3 := Nd.went_mask ({ s1 with era := upd2 s1.era dn bn (wr64 (s1.era dn bn + 1)) } : Nd)
  have f4 := Nd.went_next ({ s1 with era := upd2 s1.era dn bn (wr64 (s1.era dn bn + 1)) } : Nd)
  generalize ({ s1 with era := upd2 s1.era dn bn (wr64 (s1.era dn bn + 1)) } : Nd).went = s4 at h3 f1 f2 f3 f4 okw ⊢
  simp only at f1 f2 f3 f4
  rw [← f1] at hl1 hl2
  rw [← f2, ← f3, ← f4] at okw ⊢
  generalize s1.goes = torn at okw ⊢
  clear f1 f2 f3 f4 h2 h1 hb hr
  have hg4 := h3.ok.bounds
  obtain ⟨X, hX⟩ : ∃ X : Nat → List Byt, X = fun p => if torn then mixL (s4.data dn bn p) blankL s4.mask else blankL := ⟨_, rfl⟩
  have hXl : ∀ p, (X p).length = 60 := fun p => by
    rw [hX]; dsimp only
    split
    · rw [mixL_len (by rw [h3.ok.page, blankL_len]), h3.ok.page]
    · exact blankL_len
  refine alW (cs := [.bool false]) fun w5 hq5 k5 _ => wr0 hq5 (by simp) fun w6 hq6 c6 => ?_
  have k56 : Kept w3 w6 := k5.then c6 fun x hx => by omega
  have h6 := h3.kept k56
  have hp6 := hp3.kept k56
  obtain ⟨cap, mk, hb, hr⟩ := h6.at_
  refine rdP_of (hp6.at 0 rfl) (nn_of (rdI_of (hb.ad 3 rfl) (rdI_of (hb.ad 4 rfl) (rdI_of (hb.ad 5 rfl) (rdS_of (s := ⟨some ⟨L.pd, 0, none⟩, pages s4.g, pages s4.g⟩) (hb.ad 6 rfl) ?_)))))
  apply u97 (c0 := (s4.g.1, s4.g.2.1, s4.g.2.2.1, ⟨some ⟨L.pd, 0, none⟩, pages s4.g, pages s4.g⟩, ()))
  unfold T97
  refine alW (cs := [.int .i64 s4.g.1, .int .i64 s4.g.2.1, .int .i64 s4.g.2.2.1, .slice (some ⟨L.pd, 0, none⟩) (pages s4.g) (pages s4.g)]) fun w7 B1 k7 _ => alW (cs := [.int .i64 (dn : Int)]) fun w8 B2 k8 _ => alW (cs := [.int .i64 (bn : Int)]) fun w9 B3 k9 _ => ?_
  have k79 := k7.trans (k8.trans k9)
  replace h6 := h6.kept k79
  replace hp6 := hp6.kept k79
  have hq9 : Blk w9 w3.heap.size 4 [.bool torn] := Blk.kept hq6 k79
  replace B1 := B1.kept (k8.trans k9)
  replace B2 := B2.kept k9
  clear hb hr
  have cw9 : Chg L.mut w w9 := cw1.trans (c2.trans (c3.trans (Kept.chg (k56.trans k79))))
  have hsz9 : w.heap.size ≤ w9.heap.size := cw9.size
  refine rangeX_allN (block_gives h3.ok.geo hl1 hl2 (q := L.pd)) (fun i W => NandAt base W L (stage s4 dn bn X i) ∧ Chg L.mut w9 W ∧ Blk W w.heap.size 47 [pv L.pn] ∧ Blk W w3.heap.size 4 [.bool torn] ∧ W.heap[w9.heap.size]? = some (.deferred (some [])) ∧
      (Blk W w6.heap.size 104 [.int .i64 s4.g.1, .int .i64 s4.g.2.1, .int .i64 s4.g.2.2.1, .slice (some ⟨L.pd, 0, none⟩) (pages s4.g) (pages s4.g)] ∧ Blk W w7.heap.size 3 [.int .i64 (dn : Int)] ∧ Blk W w8.heap.size 3 [.int .i64 (bn : Int)])) ?_ ?_ ?_ ?_ ?_ ?_
  · exact fun i W hG => hG.2.2.2.2.2
  · rintro i W W' ⟨g1, g2, g3, g4, g5, g6, g7, g8⟩ kk
    exact ⟨g1.kept kk, g2.keep kk, g3.kept kk, g4.kept kk, (kk.block _ (heap_lt g5)).trans g5, g6.kept kk, g7.kept kk, g8.kept kk⟩
  · rintro i W lp lp' ⟨g1, g2, g3, g4, g5, g6, g7, g8⟩ hlp
    have hl := NoCells.loop hlp
    refine ⟨g1.put hl _, g2.put (by omega) _, g3.put hl, g4.put hl, ?_, g6.put hl, g7.put hl, g8.put hl⟩
    · rw [World.putObj_heap_other (by omega)]; exact g5
  · intro lp
    have ka : Kept w9 ((w9.alloc (.deferred (some []))).alloc (.loop lp)) := (kept_alloc w9 _).trans (kept_alloc _ _)
    refine ⟨?_, Kept.chg ka, hp6.kept ka, hq9.kept ka, ?_, B1.kept ka, B2.kept ka, B3.kept ka⟩
    · rw [stage_zero]; exact h6.kept ka
    · rw [heap_alloc_old _ _ _ (by simp)]
      exact heap_alloc_new w9 _
  · rintro i args W lp lp' k hv _ ⟨g1, g2, g3, g4, g5, g6, g7, g8⟩ hl0 hl1' hk
    have hl2' := heap_lt hl1'
    obtain ⟨hi, hargs⟩ := List.getElem?_eq_some_iff.1 hv
    simp only [List.length_map, List.length_range] at hi
    simp only [List.getElem_map, List.getElem_range] at hargs
    subst hargs
    simp only [headL, nilL, decP_ptr]
    refine ⟨hl0, ?_⟩
    generalize W.putObj (w9.heap.size + 1) (.loop lp') = V at *
    have hbv : base ≤ V.heap.size := Nat.le_trans hbase (Nat.le_trans hsz9 g2.size)
    refine rdB_of (g4.at 0 rfl) ?_
    have hstd : (stage s4 dn bn X i).data dn bn i = s4.data dn bn i := by simp [stage]
    -- what is written
    have fin : ∀ (V1 : World) (s : Sl), Kept V V1 → Mine eB 5 V.heap.size V1 s (X i) → wr V1 ⟨L.pd, pix s4.g dn bn i, none⟩ (.slice s.a s.l s.c) (fun V2 => (NandAt base V2 L (stage s4 dn bn X (i + 1)) ∧ Chg L.mut w9 V2 ∧ Blk V2 w.heap.size 47 [pv L.pn] ∧ Blk V2 w3.heap.size 4 [.bool torn] ∧ V2.heap[w9.heap.size]? = some (.deferred (some [])) ∧
        (Blk V2 w6.heap.size 104 [.int .i64 s4.g.1, .int .i64 s4.g.2.1, .int .i64 s4.g.2.2.1, .slice (some ⟨L.pd, 0, none⟩) (pages s4.g) (pages s4.g)] ∧ Blk V2 w7.heap.size 3 [.int .i64 (dn : Int)] ∧ Blk V2 w8.heap.size 3 [.int .i64 (bn : Int)])) ∧ V2.heap[w9.heap.size + 1]? = some (.loop lp')) := by
      intro V1 s kv m
      refine NandAt.wrData (st := stage s4 dn bn X i) (g1.kept kv) hl1 hl2 hi (m.mono hbv) (hXl i) fun V2 h8 c8 => ?_
      rw [← stage_succ] at h8
      have cc := (Kept.chg kv).trans c8
      have hnm : ∀ x, w.heap.size ≤ x → ¬ L.mut x := fun x hx hm => by have := hnew x hm; omega
      have z3 : w.heap.size ≤ w3.heap.size := (cw1.trans (c2.trans c3)).size
      have z6 : w3.heap.size ≤ w6.heap.size := k56.size
      have z7 := k7.size
      have z8 := k8.size
      refine ⟨⟨h8, g2.trans cc, g3.chg cc (hnm _ (Nat.le_refl _)), g4.chg cc (hnm _ z3), ?_, g6.chg cc (hnm _ (by omega)), g7.chg cc (hnm _ (by omega)), g8.chg cc (hnm _ (by omega))⟩, ?_⟩
      · exact (cc.block _ (heap_lt g5) (hnm _ hsz9)).trans g5
      · exact (cc.block _ hl2' (hnm _ (by omega))).trans hl1'
    refine joinT_of (fun _ V2 => (NandAt base V2 L (stage s4 dn bn X (i + 1)) ∧ Chg L.mut w9 V2 ∧ Blk V2 w.heap.size 47 [pv L.pn] ∧ Blk V2 w3.heap.size 4 [.bool torn] ∧ V2.heap[w9.heap.size]? = some (.deferred (some [])) ∧
        (Blk V2 w6.heap.size 104 [.int .i64 s4.g.1, .int .i64 s4.g.2.1, .int .i64 s4.g.2.2.1, .slice (some ⟨L.pd, 0, none⟩) (pages s4.g) (pages s4.g)] ∧ Blk V2 w7.heap.size 3 [.int .i64 (dn : Int)] ∧ Blk V2 w8.heap.size 3 [.int .i64 (bn : Int)])) ∧ V2.heap[w9.heap.size + 1]? = some (.loop lp')) ?_ ?_
    · refine cond_of (fun hto => ?_) fun hto => ?_
      · have kd := kept_drew V
        obtain ⟨cap, mk, hb, hr⟩ := (g1.kept kd).at_
        obtain ⟨sd, cd, md⟩ := hr.dataCell (show dn < _ from hl1) (show bn < _ from hl2) (show i < _ from hi)
        rw [hstd] at md
        have cd : V.drew.cell? ⟨L.pd, pix s4.g dn bn i, none⟩ = some sd.v := cd
        have g3d := g3.kept kd
        refine nn_of (rdS_of cd (rdP_of (g3d.at 0 rfl) (nn_of (rdS_of (s := mk) (hb.ad 13 rfl) (blank_ok.mono ?_)))))
        rintro v V1 ⟨sb, rfl, k1, mb⟩
        simp only [decS_sl]
        refine rdS_of (cell_kept cd k1) ⟨rfl, rdP_of ((g3d.kept k1).at 0 rfl) ⟨rfl, rdS_of (s := mk) ((hb.kept k1).ad 13 rfl) ⟨rfl, ?_⟩⟩⟩
        refine (mix_ok (md.kept k1).row mb.row (hr.kept k1).mm.row (by rw [h3.ok.page]; omega) h3.ok.mask).mono ?_
        rintro v V2 ⟨sx, rfl, k2, mx⟩
        simp only [decS_sl]
        have hz : V.drew.heap.size = V.heap.size := rfl
        have hXi : X i = mixL (s4.data dn bn i) blankL s4.mask := by rw [hX]; simp [hto]
        refine nn_of (fin V2 sx (kd.trans (k1.trans k2)) ?_)
        rw [hXi]
        exact mx.mono (by have := k1.size; omega)
      · refine blank_ok.mono ?_
        rintro v V1 ⟨sb, rfl, k1, mb⟩
        simp only [decS_sl]
        have hXi : X i = blankL := by rw [hX]; simp [hto]
        refine nn_of (fin V1 sb k1 ?_)
        rw [hXi]
        exact mb
    · rintro _ V2 ⟨hG, hl⟩ _
      exact hk V2 hG hl
  · rintro W ⟨g1, g2, g3, g4, g5, g6, g7, g8⟩
    simp only [List.length_map, List.length_range] at g1
    have cwW := cw9.trans g2
    refine rdB_of (g4.at 0 rfl) (cond_of (fun hto => ?_) fun hto => ?_)
    · have hd := NoCells.deferred g5
      refine ⟨g5, by simp [hto], ?_, cwW.put hsz9 _⟩
      · refine (g1.put hd _).congr okw rfl (fun d' b' p' hd' hb' hp' => ?_) rfl (by simp [hto, stage]) rfl rfl rfl rfl rfl rfl rfl
        have hp2 : p' < s4.g.2.2.1.toNat := hp'
        by_cases he : d' = dn ∧ b' = bn
        · obtain ⟨rfl, rfl⟩ := he
          refine Eq.trans ?_ (stage_in hp2).symm
          rw [hX]
          simp only [and_self, if_true]
        · refine Eq.trans ?_ (stage_out he).symm
          simp only [he, if_false]
    · obtain ⟨cap, mk, hb, hr⟩ := g1.at_
      refine rdP_of (g3.at 0 rfl) (hr.dieS hb (show dn < _ from hl1) (dieIx (show bn < _ from hl2) ?_))
      refine NandAt.wrDie (st := stage s4 dn bn X s4.g.2.2.1.toNat) g1 (show dn < _ from hl1) (show bn < _ from hl2) (j := 0) (st' := { stage s4 dn bn X s4.g.2.2.1.toNat with next := upd2 s4.next dn bn 0 }) (by omega) rfl rfl rfl rfl rfl rfl rfl rfl (fun d' k => ?_) fun V h8 c8 => ?_
      · by_cases he : d' = dn ∧ k = bn
        · obtain ⟨rfl, rfl⟩ := he; simp [stCells, upd2, stage]
        · simp [stCells, upd2, he, stage]
      have g5' : V.heap[w9.heap.size]? = some (.deferred (some [])) := (c8.block _ (heap_lt g5) fun hm => by have := hnew _ hm; omega).trans g5
      have hd := NoCells.deferred g5'
      refine ⟨g5', by simp [hto], ?_, (cwW.trans c8).put hsz9 _⟩
      · refine (h8.put hd _).congr okw rfl (fun d' b' p' hd' hb' hp' => ?_) rfl (by simp [hto, stage]) rfl rfl rfl rfl rfl rfl rfl
        have hp2 : p' < s4.g.2.2.1.toNat := hp'
        by_cases he : d' = dn ∧ b' = bn
        · obtain ⟨rfl, rfl⟩ := he
          refine Eq.trans ?_ (stage_in hp2).symm
          rw [hX]
          simp only [and_self, if_true]
        · refine Eq.trans ?_ (stage_out he).symm
          simp only [he, if_false]
end
end Go.Proofs.Ytppfnkedbpmliaa
