/- nand does as the law NandOrder says: for any pages, any bytes. -/
import Derived.Test.YtppfnkedbpmliaaVNa
set_option linter.unusedVariables false
set_option linter.unusedSimpArgs false
namespace Go.Proofs.Ytppfnkedbpmliaa
open Go Go.Rk
open Go.RowKit (Below)

theorem Calm.eraseS {st : Nd} {g : Geo} (h : Calm st g) {d b : Nat} (ht : st.there (d : Int) (b : Int) = true) :
    st.eraseE (d : Int) (b : Int) = 0 ∧ st.erase (d : Int) (b : Int) = { st with ops := wr64 (st.ops + 1), era := upd2 st.era d b (wr64 (st.era d b + 1)), data := fun d' b' p' => if d' = d ∧ b' = b then blankL else st.data d' b' p', next := upd2 st.next d b 0 } := by
  have hf : st.eraFine (d : Int) (b : Int) = true := by simp [Nd.eraFine, ht, h.isBad]
  have h0 : st.askE (st.eraFine (d : Int) (b : Int)) = 0 := by rw [hf, h.askE]; rfl
  refine ⟨by simp [Nd.eraseE, h0, h.goes], ?_⟩
  unfold Nd.erase
  rw [if_pos h0, hf, h.askS]
  simp only [if_true, Nd.wipe, Int.toNat_natCast]
  have c2 : Calm { st with ops := wr64 (st.ops + 1), era := upd2 st.era d b (wr64 (st.era d b + 1)) } g := ⟨h.g, h.dead, h.stop, h.bad⟩
  rw [c2.went, c2.goes]
  simp
theorem there_new (st : Nd) {g : Geo} (h : st.g = g) (d b : Int) : st.there d b = (Nd.new g []).there d b := by subst h; rfl
theorem bytes255 : bytesL [255#8] 60 = blankL := by decide
/-- Bytes of a literal of 255. -/
theorem ones60_ok {w : World} {K : Value → World → Prop} (k : ∀ (s : Sl) W, Kept w W → Mine eB 5 w.heap.size W s blankL → K s.v W) : al w (.cells #[.int .u8 255] 5) fun p W => Ok Try.prog 41 [.slice (some p) 1 1, .int .i64 60] W K := by
  refine alW (cs := [.int .u8 255]) fun W hb kW _ => ?_
  have hr : Row eB W ⟨some ⟨w.heap.size, 0, none⟩, 1, 1⟩ [255#8] := Blk.row (enc := eB) (xs := [255#8]) hb
  refine (bytes_ok (s := ⟨some ⟨w.heap.size, 0, none⟩, 1, 1⟩) (n := 60) hr (by omega)).mono ?_
  rintro v W2 ⟨s, rfl, k2, m2⟩
  rw [bytes255] at m2
  exact k s W2 (kW.trans k2) (m2.mono kW.size)
abbrev g688 : Geo := (6, 8, 8, ())
theorem nandOrder_ok {w : World} {l b : Sl} {zs : List Int} {bs : List Byt} (hl : Row eI w l zs) (hb : Row eB w b bs) :
    Ok Try.prog 10 [l.v, b.v] w fun v w' => v = .bool true ∧ Kept w w' := by
  have hll := hl.len
  apply u10
  unfold T10
  refine known7_ok.mono ?_
  rintro v w1 ⟨rfl, k1⟩
  simp only [decB_bool]
  refine cond_f rfl ?_
  refine (newG_ok k1 (g := g688) (bad := ⟨none, 0, 0⟩) (xs := []) row2nil (by simp) (by decide)).mono ?_
  rintro v w2 ⟨L, rfl, h2, k2⟩
  simp only [dec2, decP_ptr, decI_int]
  refine cond_f (by decide) ?_
  have hcl := bytesL_len bs 60
  have hpt : ∀ st : Nd, st.g = g688 → ∀ (bl p : Nat), bl < 8 → p < 8 → st.page 1 (bl : Int) (p : Int) = true := fun st hg bl p hbl hp => by
    rw [Nd.page_iff, Nd.there_iff, hg]
    exact ⟨⟨by decide, by decide, by omega, by show (bl : Int) < 8; omega⟩, by omega, by show (p : Int) < 8; omega⟩
  refine joinT_of (fun e W => ∃ (nx wg : Nat) (st : Nd), e = ((nx : Int), (wg : Int), ()) ∧ nx ≤ 8 ∧ LawN w W L st ∧ Calm st g688 ∧ st.noise = (fun _ _ _ => []) ∧ st.wrong = (wg : Int) ∧ (∀ j, st.data 1 2 j = if j < nx then bytesL bs 60 else blankL) ∧ ∀ j, st.data 1 3 j = blankL) ?_ ?_
  · refine loopT_of (fun e W => ∃ (i nx wg : Nat) (st : Nd), e = ((nx : Int), (wg : Int), (i : Int), ()) ∧ i ≤ 30 ∧ nx ≤ 8 ∧ wg ≤ i ∧ LawN w W L st ∧ Calm st g688 ∧ st.next 1 2 = (nx : Int) ∧ st.noise = (fun _ _ _ => []) ∧ st.wrong = (wg : Int) ∧ (∀ j, st.data 1 2 j = if j < nx then bytesL bs 60 else blankL) ∧ ∀ j, st.data 1 3 j = blankL)
      (fun e _ => 30 - e.2.2.1.toNat) ⟨0, 0, 0, _, rfl, by omega, by omega, by omega, h2, Calm.new, rfl, rfl, rfl, by simp [Nd.new], by simp [Nd.new]⟩ ?_
    rintro e W ⟨i, nx, wg, st, rfl, hi, hnx, hwg, hL, hc, hn, hno, hw, hd2, hd3⟩ _
    refine joinT_of (fun d W' => d.1 = decide (i < zs.length ∧ i < 30) ∧ W' = W) ?_ ?_
    · refine cond_of (fun hc2 => ?_) fun hc2 => ?_
      · simp [hll] at hc2
        refine ⟨?_, rfl⟩
        rw [Bool.eq_iff_iff]
        simp
        omega
      · simp [hll] at hc2
        refine ⟨?_, rfl⟩
        simp
        omega
    rintro ⟨d, _⟩ W' ⟨hd, rfl⟩ _
    simp only at hd
    subst hd
    refine cond_of (fun hc2 => ?_) fun hc2 => ?_
    · simp only [decide_eq_true_eq] at hc2
      obtain ⟨hi1, hi2⟩ := hc2
      refine joinT_of (fun e W => ∃ (nx wg : Nat) (st : Nd), e = ((nx : Int), (wg : Int), ()) ∧ nx ≤ 8 ∧ wg ≤ i + 1 ∧ LawN w W L st ∧ Calm st g688 ∧ st.next 1 2 = (nx : Int) ∧ st.noise = (fun _ _ _ => []) ∧ st.wrong = (wg : Int) ∧ (∀ j, st.data 1 2 j = if j < nx then bytesL bs 60 else blankL) ∧ ∀ j, st.data 1 3 j = blankL) ?_ ?_
      · refine (hl.kept hL.kept).ix hi1 fun q hq hcell => rdI_of hcell ?_
        refine (within_ok (by omega) (by omega) (fun h => u38 h)).mono ?_
        rintro v W1 ⟨rfl, rfl⟩
        simp only [decI_int]
        obtain ⟨p, hp⟩ : ∃ p : Nat, zs[i] % 10 = (p : Int) := ⟨(zs[i] % 10).toNat, by omega⟩
        have hp10 : p < 10 := by omega
        rw [hp]
        refine cond_of (fun hc3 => ?_) fun hc3 => ?_
        · obtain ⟨q1, q2⟩ := hc.eraseS (d := 1) (b := 2) (by rw [there_new st hc.g]; decide)
          refine hL.erase.mono ?_
          rintro v W2 ⟨rfl, hL2, c2⟩
          simp only [decI_int]
          have q1' : st.eraseE 1 2 = 0 := q1
          have q2' : st.erase 1 2 = _ := q2
          rw [q1']
          rw [q2'] at hL2
          refine cond_f (by decide) ⟨0, wg, _, rfl, by omega, by omega, hL2, ⟨hc.g, hc.dead, hc.stop, hc.bad⟩, ?_, hno, hw, ?_, ?_⟩
          · simp [upd2]
          · intro j; simp
          · intro j; simp [hd3]
        · simp at hc3
          have hp9 : p < 9 := by omega
          refine (bytes_ok (n := 60) (hb.kept hL.kept) (by omega)).mono ?_
          rintro v W2 ⟨sc, rfl, k2', mc⟩
          simp only [decS_sl]
          have hL2 := hL.keep k2'
          refine (hL2.progO (hL2.rowO mc) (by omega)).mono ?_
          rintro v W3 ⟨rfl, hL3, c3, _⟩
          simp only [decI_int]
          refine joinT_of (fun d W' => d.1 = decide (p = nx ∧ p < 8) ∧ W' = W3) ?_ ?_
          · refine cond_of (fun hc4 => ?_) fun hc4 => ?_
            · simp at hc4
              refine ⟨?_, rfl⟩
              rw [Bool.eq_iff_iff]
              simp
              omega
            · simp at hc4
              refine ⟨?_, rfl⟩
              simp
              omega
          rintro ⟨d, _⟩ W4 ⟨hd, rfl⟩ _
          simp only at hd
          subst hd
          refine joinT_of (fun e W => ∃ (nx wg : Nat) (st : Nd), e = ((nx : Int), (wg : Int), ()) ∧ nx ≤ 8 ∧ wg ≤ i + 1 ∧ LawN w W L st ∧ Calm st g688 ∧ st.next 1 2 = (nx : Int) ∧ st.noise = (fun _ _ _ => []) ∧ st.wrong = (wg : Int) ∧ (∀ j, st.data 1 2 j = if j < nx then bytesL bs 60 else blankL) ∧ ∀ j, st.data 1 3 j = blankL) ?_ ?_
          · refine cond_of (fun hc4 => ?_) fun hc4 => ?_
            · simp only [decide_eq_true_eq] at hc4
              obtain ⟨rfl, hp8⟩ := hc4
              obtain ⟨q1, q2⟩ := hc.prog (d := 1) (b := 2) (p := p) (bs := bytesL bs 60) (hpt st hc.g 2 p (by omega) hp8) hn hcl
              have q1' : st.progE 1 2 (p : Int) (bytesL bs 60).length = 0 := q1
              have q2' : st.prog 1 2 (p : Int) (bytesL bs 60) = _ := q2
              rw [q1']
              rw [q2'] at hL3
              refine cond_f (by decide) ?_
              rw [int_next (by omega)]
              refine ⟨p + 1, wg, _, rfl, by omega, by omega, hL3, ⟨hc.g, hc.dead, hc.stop, hc.bad⟩, ?_, hno, hw, ?_, ?_⟩
              · simp only [upd2, and_self, if_true]
                exact int_next (by omega)
              · intro j
                simp only [upd3]
                by_cases hj : j = p
                · subst hj; simp
                · rw [if_neg (by simp [hj]), hd2]
                  by_cases hlt : j < p
                  · rw [if_pos hlt, if_pos (by omega)]
                  · rw [if_neg hlt, if_neg (by omega)]
              · intro j
                simp [upd3, hd3]
            · simp only [decide_eq_false_iff_not] at hc4
              have hf : st.progFine 1 2 (p : Int) (bytesL bs 60).length = false := by
                by_cases hp8 : p < 8
                · have : ¬ ((nx : Int) = (p : Int)) := fun e => hc4 ⟨by omega, hp8⟩
                  have hn' : st.next (1 : Int).toNat (2 : Int).toNat = (nx : Int) := hn
                  simp only [Nd.progFine, hn']
                  simp [this]
                · have hpg : st.page 1 2 (p : Int) = false := by
                    rw [Bool.eq_false_iff]
                    intro h
                    have := (Nd.page_iff.1 h).2.2
                    rw [hc.g] at this
                    change (p : Int) < 8 at this
                    omega
                  simp [Nd.progFine, hpg]
              obtain ⟨q1, q2⟩ := hc.progNot (n := 60) hf
              rw [q1]
              rw [q2, hw] at hL3
              refine cond_f (by decide) ?_
              rw [int_next (by omega)]
              refine ⟨nx, wg + 1, _, rfl, by omega, by omega, hL3, ⟨hc.g, hc.dead, hc.stop, hc.bad⟩, hn, hno, ?_, hd2, hd3⟩
              exact int_next (by omega)
          · rintro e W5 h5 _
            obtain ⟨nx', wg', st', rfl, h5⟩ := h5
            exact ⟨nx', wg', st', rfl, h5⟩
      · rintro e W5 ⟨nx', wg', st', rfl, a1, a2, a3, a4, a5, a6, a7, a8, a9⟩ _
        rw [int_next (by omega)]
        exact ⟨⟨i + 1, nx', wg', st', rfl, by omega, a1, a2, a3, a4, a5, a6, a7, a8, a9⟩, by simp; omega⟩
    · exact ⟨nx, wg, st, rfl, hnx, hL, hc, hno, hw, hd2, hd3⟩
  rintro e w3 ⟨nx, wg, st3, rfl, hnx, h3, c3, n3, g3, d3, f3⟩ _
  refine joinT_of (fun _ W => ∃ st : Nd, LawN w W L st ∧ st.wrong = (wg : Int)) ?_ ?_
  · refine loopT_of (fun e W => ∃ (i : Nat) (st : Nd), e = ((i : Int), ()) ∧ i ≤ 8 ∧ LawN w W L st ∧ Calm st g688 ∧ st.noise = (fun _ _ _ => []) ∧ st.wrong = (wg : Int) ∧ (∀ j, st.data 1 2 j = if j < nx then bytesL bs 60 else blankL) ∧ ∀ j, st.data 1 3 j = blankL) (fun e _ => 8 - e.1.toNat)
      ⟨0, st3, rfl, by omega, h3, c3, n3, g3, d3, f3⟩ ?_
    rintro e W ⟨i, st, rfl, hi, hL, hc, hno, hw, hd2, hd3⟩ _
    refine cond_of (fun hc2 => ?_) fun hc2 => ?_
    · simp only [decide_eq_true_eq] at hc2
      have hi8 : i < 8 := by omega
      obtain ⟨q1, q2, q3⟩ := hc.read (d := 1) (b := 2) (p := i) (hpt st hc.g 2 i (by omega) hi8)
      have q1' : st.readE 1 2 (i : Int) = 0 := q1
      have q2' : st.readB 1 2 (i : Int) = _ := q2
      have q3' : st.readS 1 2 (i : Int) = _ := q3
      refine hL.readO.mono ?_
      rintro v W1 ⟨sx, rfl, rx, hL1, c1⟩
      simp only [dec2, decS_sl, decI_int]
      rw [q1']
      rw [q2', hno, flips_nil, hd2] at rx
      rw [q3'] at hL1
      have hc1 : Calm { st with ops := wr64 (st.ops + 1) } g688 := ⟨hc.g, hc.dead, hc.stop, hc.bad⟩
      obtain ⟨q4, q5, q6⟩ := hc1.read (d := 1) (b := 3) (p := i) (hpt _ hc1.g 3 i (by omega) hi8)
      have q4' : ({ st with ops := wr64 (st.ops + 1) } : Nd).readE 1 3 (i : Int) = 0 := q4
      have q5' : ({ st with ops := wr64 (st.ops + 1) } : Nd).readB 1 3 (i : Int) = _ := q5
      have q6' : ({ st with ops := wr64 (st.ops + 1) } : Nd).readS 1 3 (i : Int) = _ := q6
      refine hL1.readO.mono ?_
      rintro v W2 ⟨sy, rfl, ry, hL2, c2⟩
      simp only [dec2, decS_sl, decI_int]
      rw [q4']
      have e5 : flips (({ st with ops := wr64 (st.ops + 1) } : Nd).data 1 3 i) (({ st with ops := wr64 (st.ops + 1) } : Nd).noise 1 3 i) = blankL := by simp [hno, hd3, flips_nil]
      rw [q5', e5] at ry
      rw [q6'] at hL2
      replace rx := (rx.chg c2).kept (kept_drew W2)
      replace ry := ry.kept (kept_drew W2)
      replace hL2 := hL2.keep (kept_drew W2)
      refine joinT_of (fun d W => d.1 = false ∧ Kept W2.drew W) ?_ ?_
      · refine cond_f (by decide) (cond_f (by decide) ?_)
        -- the last test
        have last : ∀ {K : Bool × Unit → World → Prop} (W3 : World), Kept W2.drew W3 → (∀ W, Kept W2.drew W → K (false, ()) W) → toStr Try.prog 22 9 (.slice sy.a sy.l sy.c) W3 fun s1 => al W3 (.cells #[.int .u8 255] 5) fun p W4 => toStr Try.prog 22 9 (.slice sy.a sy.l sy.c) W4 fun s2 => ((.string s2 : Value) = .string s1) ∧
            Ok Try.prog 41 [.slice (some p) 1 1, .int .i64 60] W4 fun v W5 => decS v fun s3 => toStr Try.prog 22 9 (.slice sy.a sy.l sy.c) W5 fun s4 => ((.string s4 : Value) = .string s1) ∧ toStr Try.prog 22 9 (.slice s3.a s3.l s3.c) W5 fun s5 => K (!(ByteArray.toList s1 == ByteArray.toList s5), ()) W5 := by
          intro K W3 k3 hK
          refine toS (ry.kept k3).row (toS ((ry.kept k3).kept (kept_alloc _ _)).row ⟨rfl, ?_⟩)
          refine ones60_ok (w := W3) fun s6 W5 k5 m5 => ?_
          simp only [decS_sl]
          refine toS ((ry.kept k3).kept k5).row ⟨rfl, toS m5.row ?_⟩
          rw [strB_inj]
          simp only [decide_true, Bool.not_true]
          exact hK W5 (k3.trans k5)
        by_cases hin : i < nx
        · rw [if_pos hin] at rx
          refine cond_t (by simp only [decide_eq_true_eq]; omega) (toS rx.row ((bytes_ok (n := 60) (hb.kept hL2.kept) (by omega)).mono ?_))
          rintro v W3 ⟨s3, rfl, k3, m3⟩
          simp only [decS_sl]
          refine toS (rx.kept k3).row ⟨rfl, toS m3.row (cond_f (by rw [strB_inj]; simp) (cond_f (by simp only [ge_iff_le, decide_eq_false_iff_not]; omega) ?_))⟩
          exact last (K := fun d W => d.1 = false ∧ Kept W2.drew W) W3 k3 fun W hW => ⟨rfl, hW⟩
        · rw [if_neg hin] at rx
          refine cond_f (by simp only [decide_eq_false_iff_not]; omega) (cond_t (by simp only [ge_iff_le, decide_eq_true_eq]; omega) (toS rx.row ?_))
          refine toS (rx.kept (kept_alloc _ _)).row ⟨rfl, ?_⟩
          refine ones60_ok (w := W2.drew) fun s6 W5 k5 m5 => ?_
          simp only [decS_sl]
          refine toS (rx.kept k5).row ⟨rfl, toS m5.row (cond_f (by rw [strB_inj]; simp) ?_)⟩
          exact last (K := fun d W => d.1 = false ∧ Kept W2.drew W) W5 k5 fun W hW => ⟨rfl, hW⟩
      · rintro ⟨d, _⟩ W3 ⟨rfl, k3⟩ _
        refine cond_f rfl ?_
        rw [int_next (by omega)]
        exact ⟨⟨i + 1, _, rfl, by omega, hL2.keep k3, ⟨hc.g, hc.dead, hc.stop, hc.bad⟩, hno, hw, hd2, hd3⟩, by simp; omega⟩
    · exact ⟨st, hL, hw⟩
  rintro _ w4 ⟨st4, h4, g4⟩ _
  refine h4.wrong.mono ?_
  rintro v w5 ⟨rfl, rfl⟩
  simp only [decI_int]
  exact ⟨by rw [g4]; simp, h4.kept⟩
end Go.Proofs.Ytppfnkedbpmliaa
