/- nand does as the law NandStops says: whatever is done, the power goes at just that program or erase that was said. -/
import Derived.Test.YtppfnkedbpmliaaLNs
import Derived.Test.YtppfnkedbpmliaaVNc
set_option linter.unusedVariables false
set_option linter.unusedSimpArgs false
namespace Go.Proofs.Ytppfnkedbpmliaa
open Go Go.Rk
open Go.RowKit (Below)

theorem progFine_of {st : Nd} {d b p n : Nat} (hp : st.page (d : Int) (b : Int) (p : Int) = true) (hb : st.bad d b = false) (hn : st.next d b = (p : Int)) (hl : n = 60) : st.progFine (d : Int) (b : Int) (p : Int) n = true := by
  simp [Nd.progFine, hp, Nd.isBad, hb, hn, hl]
theorem eraFine_of {st : Nd} {d b : Nat} (ht : st.there (d : Int) (b : Int) = true) (hb : st.bad d b = false) : st.eraFine (d : Int) (b : Int) = true := by
  simp [Nd.eraFine, ht, Nd.isBad, hb]
/-- Where the law stands: done programs and erases of k, the next page, the calls that count. -/
structure StopAt (w W : World) (L : NLay) (k dn nx op : Nat) (st : Nd) : Prop where
  law : LawN w W L st
  g : st.g = g688
  bad : ∀ d b, st.bad d b = false
  stop : st.stop = ((k - dn : Nat) : Int)
  dead : st.dead = decide (dn = k)
  next : st.next 0 0 = (nx : Int)
  ops : st.ops = (op : Int)
theorem nandStops_ok {w : World} {l : Sl} {zs : List Int} {kk : Int} (hl : Row eI w l zs) :
    Ok Try.prog 12 [.int .i64 kk, l.v] w fun v w' => v = .bool true ∧ Kept w w' := by
  have hll := hl.len
  apply u12
  unfold T12
  refine known7_ok.mono ?_
  rintro v w1 ⟨rfl, k1⟩
  simp only [decB_bool]
  refine cond_f rfl ?_
  refine (newG_ok k1 (g := g688) (bad := ⟨none, 0, 0⟩) (xs := []) row2nil (by simp) (by decide)).mono ?_
  rintro v w2 ⟨L, rfl, h2, k2⟩
  simp only [dec2, decP_ptr, decI_int]
  refine cond_f (by decide) ?_
  refine (within_ok (by omega) (by omega) (fun h => u38 h)).mono ?_
  rintro v w3 ⟨rfl, rfl⟩
  simp only [decI_int]
  obtain ⟨k0, hk0⟩ : ∃ k : Nat, kk % 12 = (k : Int) := ⟨(kk % 12).toNat, by omega⟩
  have hk12 : k0 < 12 := by omega
  obtain ⟨k, hk⟩ : ∃ k : Nat, k = k0 + 1 := ⟨_, rfl⟩
  have e1 : IntKind.wrap .i64 ((1 : Int) + (k0 : Int)) = (k : Int) := by rw [w64 (by omega) (by omega)]; omega
  rw [hk0]
  simp only [e1]
  refine (h2.stop (m := ⟨none, 0, 0⟩) (ms := []) (Row.nil _ _ fun _ => rfl) (by simp)).mono ?_
  rintro v w4 ⟨h4, c4⟩
  have e3 : (Nd.new g688 []).setStop (k : Int) [] = { Nd.new g688 [] with stop := (k : Int), mask := [] } := by
    simp only [Nd.setStop]
    congr 1 <;> omega
  rw [e3] at h4
  have hpt : ∀ st : Nd, st.g = g688 → ∀ p : Nat, p < 8 → st.page 0 0 (p : Int) = true := fun st hg p hp => by
    rw [Nd.page_iff, Nd.there_iff, hg]
    exact ⟨⟨by decide, by decide, by decide, by decide⟩, by omega, by show (p : Int) < 8; omega⟩
  have hnx : ∀ n : Nat, n ≤ 1000 → IntKind.wrap .i64 ((n : Int) + 1) = ((n + 1 : Nat) : Int) := fun n hn => int_next (by omega)
  refine joinT_of (fun _ W => Kept w W) ?_ fun _ W hW _ => ⟨by trivial, hW⟩
  refine loopT_of (fun e W => ∃ (i dn nx op : Nat) (st : Nd), e = ((dn : Int), (nx : Int), (op : Int), (i : Int), ()) ∧ i ≤ 40 ∧ dn ≤ k ∧ nx ≤ 8 ∧ op ≤ i ∧ StopAt w W L k dn nx op st) (fun e _ => 40 - e.2.2.2.1.toNat)
    ⟨0, 0, 0, 0, _, rfl, by omega, by omega, by omega, by omega, ⟨h4, rfl, by simp [Nd.new], rfl, by simp [Nd.new]; omega, rfl, rfl⟩⟩ ?_
  rintro e W ⟨i, dn, nx, op, st, rfl, hi, hdn, hnx8, hop, hS⟩ _
  refine joinT_of (fun d W' => d.1 = decide (i < zs.length ∧ i < 40) ∧ W' = W) ?_ ?_
  · refine cond_of (fun hc2 => ?_) fun hc2 => ?_
    · simp [hll] at hc2
      refine ⟨?_, rfl⟩
      rw [Bool.eq_iff_iff]
      simp
      omega
    · simp [hll] at hc2
      refine ⟨?_, rfl⟩
      simp
      omega
  rintro ⟨d, _⟩ W' ⟨hd, rfl⟩ _
  simp only at hd
  subst hd
  refine cond_of (fun hc2 => ?_) fun hc2 => hS.law.kept
  simp only [decide_eq_true_eq] at hc2
  obtain ⟨hi1, hi2⟩ := hc2
  refine joinT_of (fun e W => ∃ (dn nx op : Nat) (st : Nd), e = ((dn : Int), (nx : Int), (op : Int), ()) ∧ dn ≤ k ∧ nx ≤ 8 ∧ op ≤ i + 1 ∧ StopAt w W L k dn nx op st) ?_ ?_
  rotate_left
  · rintro e W5 ⟨dn', nx', op', st', rfl, a1, a2, a3, a4⟩ _
    rw [hnx i (by omega)]
    exact ⟨⟨i + 1, dn', nx', op', st', rfl, by omega, a1, a2, a3, a4⟩, by simp; omega⟩
  refine joinT_of (fun d W => d.1 = (if dn = k then 8 else 0) ∧ W = W') ?_ ?_
  · refine cond_of (fun hc3 => ?_) fun hc3 => ?_
    · simp at hc3
      exact ⟨by simp; omega, rfl⟩
    · simp at hc3
      refine ⟨?_, rfl⟩
      rw [if_neg (by omega)]
  rintro ⟨want, _⟩ W1 ⟨hwant, rfl⟩ _
  simp only at hwant
  refine (hl.kept hS.law.kept).ix hi1 fun q hq hcell => rdI_of hcell ?_
  refine (within_ok (by omega) (by omega) (fun h => u38 h)).mono ?_
  rintro v W2 ⟨rfl, rfl⟩
  simp only [decI_int]
  obtain ⟨q, hq5⟩ : ∃ q : Nat, zs[i] % 5 = (q : Int) := ⟨(zs[i] % 5).toNat, by omega⟩
  have hq : q < 5 := by omega
  rw [hq5]
  refine joinT_of (fun d W => d = ((dn : Int), (nx : Int), (op : Int), want, 0, decide (q = 0 ∨ q = 1), ()) ∧ W = W2) ?_ ?_
  · refine cond_of (fun hc3 => ?_) fun hc3 => ?_
    · simp at hc3
      have : q = 0 := by omega
      subst this
      exact ⟨by simp, rfl⟩
    · simp at hc3
      refine ⟨?_, rfl⟩
      have h0 : ¬ q = 0 := by omega
      have : ((q : Int) == 1) = decide (q = 0 ∨ q = 1) := by rw [Bool.eq_iff_iff]; simp [h0]; omega
      rw [this]
  rintro d3 W3 ⟨rfl, rfl⟩ _
  dsimp only
  -- what each kind does: the answer is what is wanted
  refine joinT_of (fun d W => ∃ (dn nx op : Nat) (st : Nd), d.1 = (dn : Int) ∧ d.2.1 = (nx : Int) ∧ d.2.2.1 = (op : Int) ∧ d.2.2.2.2.1 = d.2.2.2.1 ∧ dn ≤ k ∧ nx ≤ 8 ∧ op ≤ i + 1 ∧ StopAt w W L k dn nx op st) ?_ ?_
  rotate_left
  · rintro d W5 ⟨dn', nx', op', st', e1', e2', e3', e4', a1, a2, a3, a4⟩ _
    refine joinT_of (fun d W => d.1 = false ∧ W = W5) ?_ ?_
    · rw [e4']
      refine cond_f (by simp) (a4.law.dead.mono ?_)
      rintro v W6 ⟨rfl, rfl⟩
      simp only [decB_bool]
      refine cond_f ?_ (a4.law.ops.mono ?_)
      · rw [a4.dead, e1']
        have : ((dn' : Int) == (k : Int)) = decide (dn' = k) := by rw [Bool.eq_iff_iff]; simp; omega
        rw [this]
        simp
      rintro v W7 ⟨rfl, rfl⟩
      simp only [decI_int]
      exact ⟨by rw [a4.ops, e3']; simp, by trivial⟩
    · rintro ⟨d', _⟩ W6 ⟨rfl, rfl⟩ _
      refine cond_f rfl ?_
      rw [e1', e2', e3']
      exact ⟨dn', nx', op', st', rfl, a1, a2, a3, a4⟩
  obtain ⟨sl, sg, sb, ss, sd, sn, so⟩ := hS
  by_cases hk' : dn = k
  · -- the power is gone
    have hdd : st.dead = true := by rw [sd]; simp [hk']
    have hw8 : want = 8 := by rw [hwant, if_pos hk']
    subst hw8
    have fdn : ¬ (dn : Int) < (k : Int) := by omega
    have stay : ∀ W5, LawN w W5 L st → StopAt w W5 L k dn nx op st := fun W5 h5 => ⟨h5, sg, sb, ss, sd, sn, so⟩
    refine cond_of (fun hc3 => ?_) fun hc3 => ?_
    · refine cond_of (fun hc4 => ⟨dn, nx, op, st, rfl, hdn, hnx8, by omega, stay _ sl⟩) fun hc4 => ?_
      refine joinT_thru (cond_f (by simpa using fdn) ?_)
      intro _
      refine joinT_of (fun d W => d.1 = false ∧ W = W3) (cond_t (by rfl) ⟨by simpa using fdn, rfl⟩) ?_
      rintro ⟨d, _⟩ W4 ⟨rfl, rfl⟩ _
      refine joinT_thru (cond_f rfl ?_)
      intro _
      refine ⟨by omega, by omega, by omega, by omega, ?_⟩
      refine alZeros fun W5 m5 k5 => ?_
      refine ((sl.keep k5).prog m5 (by simp)).mono ?_
      rintro v W6 ⟨rfl, h6, c6, _⟩
      simp only [decI_int]
      refine ⟨dn, nx, op, st, rfl, rfl, rfl, ?_, hdn, hnx8, by omega, stay _ ?_⟩
      · simp [Nd.progE, (deadAsk hdd _).1]
      · have : ∀ d b p bs, st.prog d b p bs = st := fun d b p bs => by simp only [Nd.prog, (deadAsk hdd _).1, (deadAsk hdd _).2]; simp
        rw [this] at h6
        exact h6
    · refine joinT_of (fun d W => ∃ (st : Nd), d.1 = (dn : Int) ∧ d.2.1 = (op : Int) ∧ d.2.2.1 = 8 ∧ d.2.2.2.1 = 8 ∧ StopAt w W L k dn nx op st) ?_ ?_
      · have fe : ∀ d b, st.eraseE d b = 8 ∧ st.erase d b = st := fun d b => ⟨by simp [Nd.eraseE, (deadAsk hdd _).1], by simp only [Nd.erase, (deadAsk hdd _).1, (deadAsk hdd _).2]; simp⟩
        refine cond_of (fun hc4 => ?_) fun hc4 => ?_
        · refine joinT_thru (cond_f (by simpa using fdn) ?_)
          intro _
          refine sl.erase.mono ?_
          rintro v W5 ⟨rfl, h5, c5⟩
          simp only [decI_int]
          rw [(fe _ _).2] at h5
          exact ⟨st, by trivial, by trivial, by trivial, (fe _ _).1, stay _ h5⟩
        · refine joinT_of (fun d W => ∃ (st : Nd), d.1 = (op : Int) ∧ d.2.1 = 8 ∧ d.2.2.1 = 8 ∧ StopAt w W L k dn nx op st) ?_ ?_
          · refine cond_of (fun hc5 => ?_) fun hc5 => ?_
            · refine joinT_thru (cond_f (by simpa using fdn) ?_)
              intro _
              refine sl.readO.mono ?_
              rintro v W5 ⟨s5, rfl, _, h5, c5⟩
              simp only [dec2, decS_sl, decI_int]
              have f1 : st.readE 0 0 7 = 8 := (deadAsk hdd _).1
              have f2 : st.readS 0 0 7 = st := (deadAsk hdd _).2
              rw [f2] at h5
              exact ⟨st, by trivial, f1, by trivial, stay _ h5⟩
            · refine joinT_of (fun d W => ∃ (st : Nd), d.1 = 8 ∧ d.2.1 = 8 ∧ StopAt w W L k dn nx op st) ?_ ?_
              · have h4 : q = 4 := by simp at hc3 hc4 hc5; omega
                refine cond_t (by rw [h4]; rfl) (joinT_thru (cond_f (by simpa using fdn) ?_))
                intro _
                refine sl.erase.mono ?_
                rintro v W5 ⟨rfl, h5, c5⟩
                simp only [decI_int]
                rw [(fe _ _).2] at h5
                exact ⟨st, by trivial, (fe _ _).1, stay _ h5⟩
              · rintro d W5 ⟨st', b1, b2, b3⟩ _
                exact ⟨st', rfl, b2, b1, b3⟩
          · rintro d W5 ⟨st', b1, b2, b3, b4⟩ _
            exact ⟨st', rfl, b1, b3, b2, b4⟩
      · rintro d W5 ⟨st', b1, b2, b3, b4, b5⟩ _
        exact ⟨dn, nx, op, st', b1, rfl, b2, by rw [b3, b4], hdn, hnx8, by omega, b5⟩
  · -- it is not
    have hdd : st.dead = false := by rw [sd]; simp [hk']
    have hw0 : want = 0 := by rw [hwant, if_neg hk']
    subst hw0
    have fdn : (dn : Int) < (k : Int) := by omega
    have hs1 : st.stop = ((k - dn - 1 + 1 : Nat) : Int) := by rw [ss]; omega
    have hz : (k - dn - 1 = 0) ↔ dn + 1 = k := by omega
    have hdec : decide (k - dn - 1 = 0) = decide (dn + 1 = k) := by simp only [hz]
    have hif : (if k - dn - 1 = 0 then (8 : Int) else 0) = if dn + 1 = k then 8 else 0 := by simp only [hz]
    have hbeq : ((((dn + 1 : Nat) : Int)) == (k : Int)) = decide (dn + 1 = k) := by rw [Bool.eq_iff_iff]; simp; omega
    refine cond_of (fun hc3 => ?_) fun hc3 => ?_
    · refine cond_of (fun hc4 => ⟨dn, nx, op, st, rfl, hdn, hnx8, by omega, ⟨sl, sg, sb, ss, sd, sn, so⟩⟩) fun hc4 => ?_
      have hn8 : nx < 8 := by simp at hc4; omega
      refine joinT_of (fun d W => d = (((dn + 1 : Nat) : Int), ((nx + 1 : Nat) : Int), ((op + 1 : Nat) : Int), (if dn + 1 = k then 8 else 0), ()) ∧ W = W3) ?_ ?_
      · refine cond_t (by simpa using fdn) (joinT_of (fun d W => d.1 = (if dn + 1 = k then 8 else 0) ∧ W = W3) ?_ ?_)
        · rw [hnx dn (by omega), hbeq]
          by_cases h1 : dn + 1 = k
          · exact cond_t (by simpa using h1) ⟨by rw [if_pos h1], rfl⟩
          · exact cond_f (by simpa using h1) ⟨by rw [if_neg h1], rfl⟩
        · rintro ⟨d, _⟩ W4 ⟨hd, rfl⟩ _
          simp only at hd
          subst hd
          rw [hnx dn (by omega), hnx nx (by omega), hnx op (by omega)]
          exact ⟨rfl, rfl⟩
      rintro d4 W4 ⟨rfl, rfl⟩ _
      dsimp only
      refine joinT_of (fun d W => d.1 = false ∧ W = W4) ?_ ?_
      · by_cases h1 : dn + 1 = k
        · rw [if_pos h1]
          refine cond_t (by decide) ⟨?_, rfl⟩
          simp only [decide_eq_false_iff_not]
          omega
        · rw [if_neg h1]
          exact cond_f (by decide) ⟨rfl, rfl⟩
      rintro ⟨d, _⟩ W5 ⟨rfl, rfl⟩ _
      refine joinT_thru (cond_f rfl ?_)
      intro _
      refine ⟨by omega, by omega, by omega, by omega, ?_⟩
      refine alZeros fun W6 m6 k6 => ?_
      have ep : (if 0 > IntKind.wrap .i64 (((nx + 1 : Nat) : Int) - 1) then 0 else IntKind.wrap .i64 (((nx + 1 : Nat) : Int) - 1)) = (nx : Int) := by
        rw [w64 (by omega) (by omega), if_neg (by omega)]; omega
      rw [ep]
      have hf : st.progFine ((0 : Nat) : Int) ((0 : Nat) : Int) (nx : Int) (List.replicate 60 0#8).length = true := by
        have q1 : st.page ((0 : Nat) : Int) ((0 : Nat) : Int) (nx : Int) = true := hpt st sg nx hn8
        exact progFine_of q1 (sb _ _) sn (by simp)
      obtain ⟨p1, p2⟩ := progStop hs1 (by omega) hdd (d := 0) (b := 0) (p := nx) (bs := List.replicate 60 0#8) hf
      have p1' : st.progE 0 0 (nx : Int) (List.replicate 60 0#8).length = _ := p1
      have p2' : st.prog 0 0 (nx : Int) (List.replicate 60 0#8) = _ := p2
      refine ((sl.keep k6).prog m6 (by simp)).mono ?_
      rintro v W7 ⟨rfl, h7, c7, _⟩
      simp only [decI_int]
      rw [p2'] at h7
      refine ⟨dn + 1, nx + 1, op + 1, _, rfl, rfl, rfl, by rw [p1', hif], by omega, by omega, by omega, ⟨h7, sg, sb, ?_, ?_, ?_, ?_⟩⟩
      · show ((k - dn - 1 : Nat) : Int) = _
        omega
      · exact hdec
      · simp only [upd2, and_self, if_true, sn]
        exact hnx nx (by omega)
      · simp only [so]
        exact hnx op (by omega)
    · refine joinT_of (fun d W => ∃ (dn' op' : Nat) (st : Nd), d.1 = (dn' : Int) ∧ d.2.1 = (op' : Int) ∧ d.2.2.2.1 = d.2.2.1 ∧ dn' ≤ k ∧ op' ≤ i + 1 ∧ StopAt w W L k dn' nx op' st) ?_ ?_
      · refine cond_of (fun hc4 => ?_) fun hc4 => ?_
        · refine joinT_of (fun d W => d = (((dn + 1 : Nat) : Int), ((op + 1 : Nat) : Int), (if dn + 1 = k then 8 else 0), ()) ∧ W = W3) ?_ ?_
          · refine cond_t (by simpa using fdn) (joinT_of (fun d W => d.1 = (if dn + 1 = k then 8 else 0) ∧ W = W3) ?_ ?_)
            · rw [hnx dn (by omega), hbeq]
              by_cases h1 : dn + 1 = k
              · exact cond_t (by simpa using h1) ⟨by rw [if_pos h1], rfl⟩
              · exact cond_f (by simpa using h1) ⟨by rw [if_neg h1], rfl⟩
            · rintro ⟨d, _⟩ W4 ⟨hd, rfl⟩ _
              simp only at hd
              subst hd
              rw [hnx dn (by omega), hnx op (by omega)]
              exact ⟨rfl, rfl⟩
          rintro d4 W4 ⟨rfl, rfl⟩ _
          dsimp only
          have hth : st.there ((3 : Nat) : Int) ((3 : Nat) : Int) = true := by rw [there_new st sg]; decide
          obtain ⟨p1, p2⟩ := eraseStop hs1 (by omega) hdd (d := 3) (b := 3) (eraFine_of hth (sb _ _))
          have p1' : st.eraseE 3 3 = _ := p1
          have p2' : st.erase 3 3 = _ := p2
          refine sl.erase.mono ?_
          rintro v W5 ⟨rfl, h5, c5⟩
          simp only [decI_int]
          rw [p2'] at h5
          refine ⟨dn + 1, op + 1, _, rfl, rfl, by rw [p1', hif], by omega, by omega, ⟨h5, sg, sb, ?_, ?_, ?_, ?_⟩⟩
          · show ((k - dn - 1 : Nat) : Int) = _
            omega
          · exact hdec
          · show (if k - dn - 1 = 0 then st.next else upd2 st.next 3 3 0) 0 0 = _
            split
            · exact sn
            · simp [upd2, sn]
          · simp only [so]
            exact hnx op (by omega)
        · refine joinT_of (fun d W => ∃ (op' : Nat) (st : Nd), d.1 = (op' : Int) ∧ d.2.1 = d.2.2.1 ∧ op' ≤ i + 1 ∧ StopAt w W L k dn nx op' st) ?_ ?_
          · refine cond_of (fun hc5 => ?_) fun hc5 => ?_
            · refine joinT_thru (cond_t (by simpa using fdn) ?_)
              intro _
              rw [hnx op (by omega)]
              refine sl.readO.mono ?_
              rintro v W5 ⟨s5, rfl, _, h5, c5⟩
              simp only [dec2, decS_sl, decI_int]
              have hpg : st.page 0 0 7 = true := hpt st sg 7 (by omega)
              have hrf : st.readFine 0 0 7 = true := by simp [Nd.readFine, hpg, Nd.isBad, sb]
              have f1 : st.readE 0 0 7 = 0 := by simp only [Nd.readE, hrf]; simp [Nd.askE, hdd]
              have f2 : st.readS 0 0 7 = { st with ops := wr64 (st.ops + 1) } := by simp only [Nd.readS, hrf]; simp [Nd.ask, hdd]
              rw [f2] at h5
              refine ⟨op + 1, _, rfl, f1, by omega, ⟨h5, sg, sb, ss, sd, sn, ?_⟩⟩
              simp only [so]
              exact hnx op (by omega)
            · refine joinT_of (fun d W => ∃ (st : Nd), d.1 = 1 ∧ d.2.1 = 1 ∧ StopAt w W L k dn nx op st) ?_ ?_
              · have h4 : q = 4 := by simp at hc3 hc4 hc5; omega
                refine cond_t (by rw [h4]; rfl) (joinT_thru (cond_t (by simpa using fdn) ?_))
                intro _
                have hef : st.eraFine 9 9 = false := by
                  have : st.there 9 9 = false := by rw [there_new st sg]; decide
                  simp [Nd.eraFine, this]
                have f1 : st.eraseE 9 9 = 1 := by simp only [Nd.eraseE, hef]; simp [Nd.askE, hdd]
                have f2 : st.erase 9 9 = { st with wrong := wr64 (st.wrong + 1) } := by simp only [Nd.erase, hef]; simp [Nd.askE, Nd.ask, hdd]
                refine sl.erase.mono ?_
                rintro v W5 ⟨rfl, h5, c5⟩
                simp only [decI_int]
                rw [f2] at h5
                exact ⟨_, by trivial, f1, ⟨h5, sg, sb, ss, sd, sn, so⟩⟩
              · rintro d W5 ⟨st', b1, b2, b3⟩ _
                exact ⟨op, st', rfl, by dsimp only; rw [b1, b2], by omega, b3⟩
          · rintro d W5 ⟨op', st', b1, b2, b3, b4⟩ _
            exact ⟨dn, op', st', rfl, b1, b2, hdn, b3, b4⟩
      · rintro d W5 ⟨dn', op', st', b1, b2, b3, b4, b5, b6⟩ _
        exact ⟨dn', nx, op', st', b1, rfl, b2, b3, b4, hnx8, b5, b6⟩
end Go.Proofs.Ytppfnkedbpmliaa
