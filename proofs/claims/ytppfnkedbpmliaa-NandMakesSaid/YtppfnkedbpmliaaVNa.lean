/- nand does as the law NandNoise says: for any bytes, any places, any page. -/
import Derived.Test.YtppfnkedbpmliaaLN
import Derived.Test.YtppfnkedbpmliaaNR
set_option linter.unusedVariables false
set_option linter.unusedSimpArgs false
namespace Go.Proofs.Ytppfnkedbpmliaa
open Go Go.Rk
open Go.RowKit (Below)

/-- Bytes that stand apart from flash. -/
structure RowO (L : NLay) (W : World) (s : Sl) (bs : List Byt) : Prop where
  row : Row eB W s bs
  out : ∀ a, s.a = some a → ¬ L.mut a.block
theorem RowO.chg {L : NLay} {W W' : World} {s : Sl} {bs : List Byt} (h : RowO L W s bs) (c : Chg L.mut W W') : RowO L W' s bs := ⟨h.row.chg c h.out, h.out⟩
theorem RowO.kept {L : NLay} {W W' : World} {s : Sl} {bs : List Byt} (h : RowO L W s bs) (k : Kept W W') : RowO L W' s bs := ⟨h.row.kept k, h.out⟩
theorem LawN.rowO {w W : World} {L : NLay} {st : Nd} (h : LawN w W L st) {base : Nat} {s : Sl} {bs : List Byt} (m : Mine eB 5 base W s bs) : RowO L W s bs := ⟨m.row, h.byt m⟩
theorem LawN.readO {w W : World} {L : NLay} {st : Nd} (h : LawN w W L st) {d b p : Int} : Ok Try.prog 46 [pv L.pn, .int .i64 d, .int .i64 b, .int .i64 p] W fun v W' => ∃ s : Sl, v = .tuple #[s.v, .int .i64 (st.readE d b p)] ∧ RowO L W' s (st.readB d b p) ∧ LawN w W' L (st.readS d b p) ∧ Chg L.mut W W' :=
  h.read.mono fun _ _ ⟨s, h1, h2, h3, h4, h5⟩ => ⟨s, h1, ⟨h2, h3⟩, h4, h5⟩
theorem LawN.progO {w W : World} {L : NLay} {st : Nd} (h : LawN w W L st) {d b p : Int} {s : Sl} {bs : List Byt} (m : RowO L W s bs) (hl : bs.length ≤ 100000000) :
    Ok Try.prog 45 [pv L.pn, .int .i64 d, .int .i64 b, .int .i64 p, s.v] W fun v W' => v = .int .i64 (st.progE d b p bs.length) ∧ LawN w W' L (st.prog d b p bs) ∧ Chg L.mut W W' ∧ RowO L W' s bs :=
  (program_ok h.at_ m.row (fun a ha _ => m.out a ha) h.le hl).mono fun _ _ ⟨h1, h2, h3⟩ => ⟨h1, h.mk' h2 h3, h3, m.chg h3⟩
theorem page_new (st : Nd) {g : Geo} (h : st.g = g) (d b p : Int) : st.page d b p = (Nd.new g []).page d b p := by subst h; rfl

theorem nandNoise_ok {w : World} {b l m : Sl} {bs : List Byt} {ls ms : List Int} {page : Int} (hb : Row eB w b bs) (hl : Row eI w l ls) (hm : Row eI w m ms) (bl : ∀ z ∈ ls, z ≤ 9223372036854775807) (bm : ∀ z ∈ ms, z ≤ 9223372036854775807) :
    Ok Try.prog 9 [b.v, l.v, m.v, .int .i64 page] w fun v w' => v = .bool true ∧ Kept w w' := by
  have hll := hl.len
  have hml := hm.len
  apply u9
  unfold T9
  refine known7_ok.mono ?_
  rintro v w1 ⟨rfl, k1⟩
  simp only [decB_bool]
  refine cond_f rfl ?_
  refine joinT_of (fun d W => d.1 = decide (20 < ls.length ∨ 20 < ms.length) ∧ W = w1) ?_ ?_
  · refine cond_of (fun h => ?_) fun h => ?_
    · simp [hll] at h
      exact ⟨by simp; omega, rfl⟩
    · simp [hll] at h
      refine ⟨?_, rfl⟩
      rw [Bool.eq_iff_iff]
      simp [hml]
      omega
  rintro ⟨d, _⟩ W ⟨hd, rfl⟩ _
  simp only at hd
  subst hd
  refine cond_of (fun h => ⟨by trivial, k1⟩) fun h => ?_
  simp at h
  have fl : Few ls := ⟨by omega, bl⟩
  have fm : Few ms := ⟨by omega, bm⟩
  refine (newG_ok k1 (g := g684) (bad := ⟨none, 0, 0⟩) (xs := []) row2nil (by simp) (by decide)).mono ?_
  rintro v w2 ⟨L, rfl, h2, k2⟩
  simp only [dec2, decP_ptr, decI_int]
  refine cond_f (by decide) ?_
  refine (within_ok (by omega) (by omega) (fun h => u38 h)).mono ?_
  rintro v w3 ⟨rfl, rfl⟩
  simp only [decI_int]
  obtain ⟨pg, hpg⟩ : ∃ pg : Nat, page % 4 = (pg : Int) := ⟨(page % 4).toNat, by omega⟩
  have hpg4 : pg < 4 := by omega
  rw [hpg]
  refine (bytes_ok (n := 60) (hb.kept h2.kept) (by omega)).mono ?_
  rintro v w4 ⟨sc, rfl, k4, mc⟩
  simp only [decS_sl]
  have hcl := bytesL_len bs 60
  generalize bytesL bs 60 = c at mc hcl
  have h4 := h2.keep k4
  have rc := h4.rowO mc
  have c0 : Calm (Nd.new g684 []) g684 := Calm.new
  have hpt : ∀ st : Nd, st.g = g684 → ∀ p : Nat, p < 4 → st.page 1 1 (p : Int) = true := fun st hg p hp => by
    rw [Nd.page_iff, Nd.there_iff, hg]
    exact ⟨⟨by decide, by decide, by decide, by decide⟩, by omega, by show (p : Int) < 4; omega⟩
  have e1 : (Nd.new g684 []).noiseE 1 1 (pg : Int) = 0 := by simp only [Nd.noiseE]; rw [hpt _ rfl pg hpg4]; rfl
  have e2 : (Nd.new g684 []).setNoise 1 1 (pg : Int) ls = { Nd.new g684 [] with noise := upd3 (fun _ _ _ => []) 1 1 pg ls } := by simp only [Nd.setNoise]; rw [hpt _ rfl pg hpg4]; rfl
  obtain ⟨no, hno⟩ : ∃ no : Nat → Nat → Nat → List Int, no = upd3 (fun _ _ _ => []) 1 1 pg ls := ⟨_, rfl⟩
  have hnoi : ∀ i, no 1 1 i = if i = pg then ls else [] := fun i => by rw [hno]; simp [upd3]
  -- noise
  refine joinT_of (fun d W => d.1 = false ∧ LawN w W L { Nd.new g684 [] with noise := no } ∧ RowO L W sc c) ?_ ?_
  · refine (h4.noise (hl.kept h4.kept) fl).mono ?_
    rintro v w5 ⟨rfl, h5, c5⟩
    simp only [decI_int]
    rw [e2, ← hno] at h5
    rw [e1]
    have st1g : ({ Nd.new g684 [] with noise := no } : Nd).g = g684 := rfl
    have bad1 : ∀ d b p : Int, (Nd.new g684 []).page d b p = false → ({ Nd.new g684 [] with noise := no } : Nd).noiseE d b p = 1 ∧ ({ Nd.new g684 [] with noise := no } : Nd).setNoise d b p ls = { Nd.new g684 [] with noise := no } := fun d b p hp => by
      simp only [Nd.noiseE, Nd.setNoise, page_new _ st1g, hp]
      simp
    refine cond_f (by decide) ((h5.noise (d := 6) (b := 0) (p := 0) (hl.kept h5.kept) fl).mono ?_)
    rintro v w6 ⟨rfl, h6, c6⟩
    simp only [decI_int]
    rw [(bad1 6 0 0 (by decide)).2] at h6
    refine cond_f (by rw [(bad1 6 0 0 (by decide)).1]; decide) ((h6.noise (d := 0) (b := 8) (p := 0) (hl.kept h6.kept) fl).mono ?_)
    rintro v w7 ⟨rfl, h7, c7⟩
    simp only [decI_int]
    rw [(bad1 0 8 0 (by decide)).2] at h7
    refine cond_f (by rw [(bad1 0 8 0 (by decide)).1]; decide) ((h7.noise (d := 0) (b := 0) (p := 4) (hl.kept h7.kept) fl).mono ?_)
    rintro v w8 ⟨rfl, h8, c8⟩
    simp only [decI_int]
    rw [(bad1 0 0 4 (by decide)).2] at h8
    refine cond_f (by rw [(bad1 0 0 4 (by decide)).1]; decide) ((h8.noise (d := 0) (b := 0) (p := -1) (hl.kept h8.kept) fl).mono ?_)
    rintro v w9 ⟨rfl, h9, c9⟩
    simp only [decI_int]
    rw [(bad1 0 0 (-1) (by decide)).2] at h9
    refine cond_f (by rw [(bad1 0 0 (-1) (by decide)).1]; decide) (h9.wrong.mono ?_)
    rintro v w10 ⟨rfl, rfl⟩
    simp only [decI_int]
    refine cond_f (by simp [Nd.new]) (h9.ops.mono ?_)
    rintro v w11 ⟨rfl, rfl⟩
    simp only [decI_int]
    exact ⟨by simp [Nd.new], h9, rc.chg (c5.trans (c6.trans (c7.trans (c8.trans c9))))⟩
  rintro ⟨d, _⟩ w5 ⟨rfl, h5, r5⟩ _
  refine cond_f rfl ?_
  -- the pages are programmed
  refine joinT_of (fun _ W => ∃ st : Nd, LawN w W L st ∧ RowO L W sc c ∧ Calm st g684 ∧ st.noise = no ∧ ∀ j, j < 4 → st.data 1 1 j = c) ?_ ?_
  · refine loopT_of (fun e W => ∃ (i : Nat) (st : Nd), e = ((i : Int), ()) ∧ i ≤ 4 ∧ LawN w W L st ∧ RowO L W sc c ∧ Calm st g684 ∧ st.noise = no ∧ st.next 1 1 = (i : Int) ∧ ∀ j, j < i → st.data 1 1 j = c) (fun e _ => 4 - e.1.toNat)
      ⟨0, _, rfl, by omega, h5, r5, ⟨rfl, rfl, by simp [Nd.new], by simp [Nd.new]⟩, rfl, rfl, by simp⟩ ?_
    rintro e W ⟨i, st, rfl, hi, hL, hr, hc, hn, hx, hdat⟩ _
    refine cond_of (fun hc2 => ?_) fun hc2 => ?_
    · simp only [decide_eq_true_eq] at hc2
      have hi4 : i < 4 := by omega
      obtain ⟨p1, p2⟩ := hc.prog (d := 1) (b := 1) (p := i) (bs := c) (hpt st hc.g i hi4) hx hcl
      refine (hL.progO hr (by omega)).mono ?_
      rintro v W1 ⟨rfl, hL1, c1, hr1⟩
      simp only [decI_int]
      have p1' : st.progE 1 1 (i : Int) c.length = 0 := p1
      have p2' : st.prog 1 1 (i : Int) c = _ := p2
      rw [p1']
      refine cond_f (by decide) ?_
      rw [int_next (by omega)]
      rw [p2'] at hL1
      refine ⟨⟨i + 1, _, rfl, by omega, hL1, hr1, ⟨hc.g, hc.dead, hc.stop, hc.bad⟩, hn, ?_, fun j hj => ?_⟩, by simp; omega⟩
      · simp only [upd2, and_self, if_true]
        exact int_next (by omega)
      · simp only [upd3]
        by_cases hji : j = i
        · subst hji; simp
        · simp [hji]; exact hdat j (by omega)
    · simp only [decide_eq_false_iff_not] at hc2
      have : i = 4 := by omega
      subst this
      exact ⟨st, hL, hr, hc, hn, hdat⟩
  rintro _ w6 ⟨st6, h6, r6, c6, n6, d6⟩ _
  -- and read
  refine joinT_of (fun _ W => ∃ st : Nd, LawN w W L st ∧ RowO L W sc c ∧ Calm st g684 ∧ st.noise = no ∧ ∀ j, j < 4 → st.data 1 1 j = c) ?_ ?_
  · refine loopT_of (fun e W => ∃ (i : Nat) (st : Nd), e = ((i : Int), ()) ∧ i ≤ 4 ∧ LawN w W L st ∧ RowO L W sc c ∧ Calm st g684 ∧ st.noise = no ∧ ∀ j, j < 4 → st.data 1 1 j = c) (fun e _ => 4 - e.1.toNat)
      ⟨0, _, rfl, by omega, h6, r6, c6, n6, d6⟩ ?_
    rintro e W ⟨i, st, rfl, hi, hL, hr, hc, hn, hdat⟩ _
    refine cond_of (fun hc2 => ?_) fun hc2 => ?_
    · simp only [decide_eq_true_eq] at hc2
      have hi4 : i < 4 := by omega
      obtain ⟨q1, q2, q3⟩ := hc.read (d := 1) (b := 1) (p := i) (hpt st hc.g i hi4)
      have q1' : st.readE 1 1 (i : Int) = 0 := q1
      have q2' : st.readB 1 1 (i : Int) = _ := q2
      have q3' : st.readS 1 1 (i : Int) = _ := q3
      refine hL.readO.mono ?_
      rintro v W1 ⟨sr, rfl, rr, hL1, c1⟩
      simp only [dec2, decS_sl, decI_int]
      rw [q1']
      rw [q2', hdat i hi4, hn, hnoi] at rr
      rw [q3'] at hL1
      have hr1 := hr.chg c1
      refine joinT_of (fun d W' => Kept W1 W' ∧ Row eB W' d.1 (flips c (if i = pg then ls else []))) ?_ ?_
      · refine cond_of (fun he => ?_) fun he => ?_
        · have he' : i = pg := by simp at he; omega
          refine (rflip_ok hr1.row (hl.kept hL1.kept) (by omega) fl).mono ?_
          rintro v W2 ⟨s2, rfl, k2', m2⟩
          simp only [decS_sl]
          rw [if_pos he']
          exact ⟨k2', m2.row⟩
        · have he' : ¬ i = pg := by simp at he; omega
          rw [if_neg he', flips_nil]
          exact ⟨kept_refl _, hr1.row⟩
      · rintro ⟨sw, _⟩ W2 ⟨kW2, rw2⟩ _
        refine joinT_of (fun d W' => d.1 = false ∧ W' = W2) ?_ ?_
        · refine cond_f (by decide) (toS (rr.row.kept kW2) (toS rw2 ⟨?_, rfl⟩))
          rw [strB_inj]
          simp
        · rintro ⟨d, _⟩ W3 ⟨rfl, rfl⟩ _
          refine cond_f rfl ?_
          rw [int_next (by omega)]
          exact ⟨⟨i + 1, _, rfl, by omega, hL1.keep kW2, hr1.kept kW2, ⟨hc.g, hc.dead, hc.stop, hc.bad⟩, hn, hdat⟩, by simp; omega⟩
    · simp only [decide_eq_false_iff_not] at hc2
      exact ⟨st, hL, hr, hc, hn, hdat⟩
  rintro _ w7 ⟨st7, h7, r7, c7, n7, d7⟩ _
  have e7 : st7.setNoise 1 1 (pg : Int) ms = { st7 with noise := upd3 st7.noise 1 1 pg ms } := by simp only [Nd.setNoise]; rw [hpt _ c7.g pg hpg4]; rfl
  refine (h7.noise (hm.kept h7.kept) fm).mono ?_
  rintro v w8 ⟨rfl, h8, cc8⟩
  simp only [decI_int]
  rw [e7] at h8
  have c8 : Calm { st7 with noise := upd3 st7.noise 1 1 pg ms } g684 := ⟨c7.g, c7.dead, c7.stop, c7.bad⟩
  obtain ⟨q1, q2, q3⟩ := c8.read (d := 1) (b := 1) (p := pg) (hpt _ c8.g pg hpg4)
  have q2' : ({ st7 with noise := upd3 st7.noise 1 1 pg ms } : Nd).readB 1 1 (pg : Int) = flips c ms := by
    refine Eq.trans q2 ?_
    simp [upd3, d7 pg hpg4]
  have q1' : ({ st7 with noise := upd3 st7.noise 1 1 pg ms } : Nd).readE 1 1 (pg : Int) = 0 := q1
  refine h8.readO.mono ?_
  rintro v w9 ⟨s9, rfl, r9, h9, cc9⟩
  simp only [dec2, decS_sl, decI_int]
  rw [q2'] at r9
  rw [show ({ st7 with noise := upd3 st7.noise 1 1 pg ms } : Nd).readS 1 1 (pg : Int) = _ from q3] at h9
  rw [q1']
  have c9 : Calm { st7 with ops := wr64 (st7.ops + 1), noise := upd3 st7.noise 1 1 pg ms } g684 := ⟨c7.g, c7.dead, c7.stop, c7.bad⟩
  have e9 : ({ st7 with ops := wr64 (st7.ops + 1), noise := upd3 st7.noise 1 1 pg ms } : Nd).setNoise 1 1 (pg : Int) [] = { st7 with ops := wr64 (st7.ops + 1), noise := upd3 (upd3 st7.noise 1 1 pg ms) 1 1 pg [] } := by simp only [Nd.setNoise]; rw [hpt _ c9.g pg hpg4]; rfl
  refine (h9.noise (l := ⟨none, 0, 0⟩) (ns := []) (Row.nil _ _ fun _ => rfl) Few.nil).mono ?_
  rintro v w10 ⟨rfl, h10, cc10⟩
  simp only [decI_int]
  rw [show ({ st7 with noise := upd3 st7.noise 1 1 pg ms, ops := wr64 (st7.ops + 1) } : Nd).setNoise 1 1 (pg : Int) [] = _ from e9] at h10
  have c10 : Calm { st7 with ops := wr64 (st7.ops + 1), noise := upd3 (upd3 st7.noise 1 1 pg ms) 1 1 pg [] } g684 := ⟨c7.g, c7.dead, c7.stop, c7.bad⟩
  obtain ⟨q4, q5, q6⟩ := c10.read (d := 1) (b := 1) (p := pg) (hpt _ c10.g pg hpg4)
  have q5' : ({ st7 with ops := wr64 (st7.ops + 1), noise := upd3 (upd3 st7.noise 1 1 pg ms) 1 1 pg [] } : Nd).readB 1 1 (pg : Int) = c := by
    refine Eq.trans q5 ?_
    simp [upd3, d7 pg hpg4, flips_nil]
  have q4' : ({ st7 with ops := wr64 (st7.ops + 1), noise := upd3 (upd3 st7.noise 1 1 pg ms) 1 1 pg [] } : Nd).readE 1 1 (pg : Int) = 0 := q4
  refine h10.readO.mono ?_
  rintro v w11 ⟨s11, rfl, r11, h11, cc11⟩
  simp only [dec2, decS_sl, decI_int]
  rw [q5'] at r11
  rw [q4']
  have cAll := cc8.trans (cc9.trans (cc10.trans cc11))
  refine joinT_of (fun d W => d.1 = true ∧ Kept w W) ?_ ?_
  · refine cond_t (by decide) (cond_t (by decide) ?_)
    have kd := kept_drew w11
    have r9' := ((r9.chg cc10).chg cc11).kept kd
    have r7' := (r7.chg cAll).kept kd
    refine toS r9'.row ((rflip_ok r7'.row (hm.kept (h11.kept.trans kd)) (by omega) fm).mono ?_)
    rintro v w12 ⟨s12, rfl, k12, m12⟩
    simp only [decS_sl]
    refine toS (r9'.kept k12).row ⟨rfl, toS m12.row (cond_t (by rw [strB_inj]; simp) (toS ((r11.kept kd).kept k12).row (toS (r7'.kept k12).row ⟨?_, h11.kept.trans (kd.trans k12)⟩)))⟩
    rw [strB_inj]
    simp
  · rintro ⟨d, _⟩ W ⟨rfl, kW⟩ _
    exact ⟨rfl, kW⟩
end Go.Proofs.Ytppfnkedbpmliaa
