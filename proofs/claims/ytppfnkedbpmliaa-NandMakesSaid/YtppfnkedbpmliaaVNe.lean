/- nand does as the law NandBad says: for any geometry, any block, any number of tries. -/
import Derived.Test.YtppfnkedbpmliaaVNd
import Derived.Test.YtppfnkedbpmliaaCGl
set_option linter.unusedVariables false
set_option linter.unusedSimpArgs false
namespace Go.Proofs.Ytppfnkedbpmliaa
open Go Go.Rk
open Go.RowKit (Below)

theorem decG_geo' {g : Geo} {K : Geo → Prop} : decG [(.i .i64), (.i .i64), (.i .i64)] (gv g) K = K g := by simp [decG, decs, Kb.dec]
theorem Nd.askNot {st : Nd} (hd : st.dead = false) : st.askE false = 1 ∧ st.ask false = { st with wrong := wr64 (st.wrong + 1) } := by simp [Nd.askE, Nd.ask, hd]
theorem nandBad_ok {w : World} {g : Geo} {die block nn : Int} :
    Ok Try.prog 13 [gv g, .int .i64 die, .int .i64 block, .int .i64 nn] w fun v w' => v = .bool true ∧ Kept w w' := by
  apply u13
  unfold T13
  refine alGeo fun W0 hg k0 => ?_
  refine known7_ok.mono ?_
  rintro v w1 ⟨rfl, k1⟩
  simp only [decB_bool]
  refine cond_f rfl ?_
  refine rdGeo (hg.kept k1) (make_ok.mono ?_)
  rintro v w2 ⟨rfl, k2⟩
  rw [decG_geo']
  refine geo_init fun W3 hh hB3 k3 => ?_
  have hh : GeoAt W3 ⟨w2.heap.size, 0, none⟩ (makeOf g) := hh
  have hf := make_fits g
  generalize makeOf g = h at hh hf hB3 ⊢
  obtain ⟨a1, a2, a3, a4, a5, a6⟩ := fits_bounds hf
  have kw3 : Kept w W3.drew := k0.trans (k1.trans (k2.trans (k3.trans (kept_drew W3))))
  replace hh := hh.kept (kept_drew W3)
  refine rdI_of hh.1 (rdI_of hh.2.1 ?_)
  refine (within_ok (by omega) (by omega) (fun h => u38 h)).mono ?_
  rintro v w4 ⟨rfl, rfl⟩
  simp only [decI_int]
  refine rdI_of hh.2.1 ⟨rfl, (within_ok (by omega) (by omega) (fun h => u38 h)).mono ?_⟩
  rintro v w4 ⟨rfl, rfl⟩
  simp only [decI_int]
  obtain ⟨D, hD⟩ := nat_of (a := h.1) (by omega)
  obtain ⟨B, hB⟩ := nat_of (a := h.2.1) (by omega)
  obtain ⟨d, hd⟩ : ∃ d : Nat, die % h.1 = (d : Int) := nat_of (Int.emod_nonneg _ (by omega))
  obtain ⟨b, hb⟩ : ∃ b : Nat, block % h.2.1 = (b : Int) := nat_of (Int.emod_nonneg _ (by omega))
  have hdD : d < D := by have := Int.emod_lt_of_pos die (show 0 < h.1 by omega); omega
  have hbB : b < B := by have := Int.emod_lt_of_pos block (show 0 < h.2.1 by omega); omega
  rw [hd, hb]
  refine rdGeo hh ?_
  refine alW (cs := [.int .i64 (d : Int), .int .i64 (b : Int), .int .i64 (d : Int), .int .i64 (b : Int)]) fun W5 hb5 k5 _ => ?_
  have hr5 : Row2 W5 ⟨some ⟨W3.drew.heap.size, 0, none⟩, 2, 2⟩ [((d : Int), (b : Int)), ((d : Int), (b : Int))] := by
    refine ⟨rfl, (fun h => by cases h), fun i hi => ⟨_, rfl, ?_⟩⟩
    have : i = 0 ∨ i = 1 := by simp at hi; omega
    rcases this with rfl | rfl <;> (simp only [addN]; exact ⟨hb5.at _ rfl, hb5.at _ rfl⟩)
  obtain ⟨xs, hxs⟩ : ∃ xs : List (Int × Int), xs = [((d : Int), (b : Int)), ((d : Int), (b : Int))] := ⟨_, rfl⟩
  rw [← hxs] at hr5
  have hne : newE h xs = 0 := by
    have : thereG h ((d : Int), (b : Int)) = true := by
      simp only [thereG]
      rw [Nd.there_iff]
      exact ⟨by simp, by show (d : Int) < h.1; omega, by simp, by show (b : Int) < h.2.1; omega⟩
    simp [newE, hf, hxs, this]
  have hbad : ∀ d' b' : Nat, (Nd.new h xs).bad d' b' = decide (d' = d ∧ b' = b) := fun d' b' => by
    simp only [Nd.new, hxs]
    rw [Bool.eq_iff_iff]
    simp only [List.mem_cons, List.not_mem_nil, or_false, or_self, Prod.mk.injEq, decide_eq_true_eq]
    omega
  refine (newG_ok (kw3.trans k5) (bad := ⟨some ⟨W3.drew.heap.size, 0, none⟩, 2, 2⟩) hr5 (by rw [hxs]; simp) hne).mono ?_
  rintro v w6 ⟨L, rfl, h6, k6⟩
  simp only [dec2, decP_ptr, decI_int]
  refine cond_f (by decide) ?_
  refine (within_ok (by omega) (by omega) (fun h => u38 h)).mono ?_
  rintro v w7 ⟨rfl, rfl⟩
  simp only [decI_int]
  obtain ⟨n, hn⟩ : ∃ n : Nat, nn % 9 = (n : Int) := ⟨(nn % 9).toNat, by omega⟩
  have hn9 : n < 9 := by omega
  rw [hn]
  replace hh := hh.kept (k5.trans k6)
  have hth : ∀ (st : Nd), st.g = h → ∀ d' b' : Nat, st.there (d' : Int) (b' : Int) = decide (d' < D ∧ b' < B) := fun st hg d' b' => by
    rw [Bool.eq_iff_iff, Nd.there_iff, hg]
    simp only [decide_eq_true_eq]
    omega
  have hib : ∀ (st : Nd), st.g = h → st.bad = (Nd.new h xs).bad → ∀ d' b' : Nat, st.isBad (d' : Int) (b' : Int) = decide (d' = d ∧ b' = b) := fun st hg hbd d' b' => by
    simp only [Nd.isBad, hth st hg, hbd, Int.toNat_natCast, hbad]
    rw [Bool.eq_iff_iff]
    simp only [Bool.and_eq_true, decide_eq_true_eq]
    omega
  have hst : ∀ x : Int, ({ Nd.new h xs with wrong := x } : Nd).g = h ∧ ({ Nd.new h xs with wrong := x } : Nd).bad = (Nd.new h xs).bad ∧ ({ Nd.new h xs with wrong := x } : Nd).dead = false := fun x => ⟨rfl, rfl, rfl⟩
  have hbt : ∀ x : Int, ({ Nd.new h xs with wrong := x } : Nd).isBad (d : Int) (b : Int) = true := fun x => by rw [hib _ (hst x).1 (hst x).2.1]; simp
  have fr : ∀ x : Int, ({ Nd.new h xs with wrong := x } : Nd).readE (d : Int) (b : Int) 0 = 1 ∧ ({ Nd.new h xs with wrong := x } : Nd).readS (d : Int) (b : Int) 0 = { Nd.new h xs with wrong := wr64 (x + 1) } := fun x => by
    have : ({ Nd.new h xs with wrong := x } : Nd).readFine (d : Int) (b : Int) 0 = false := by simp only [Nd.readFine, hbt, Bool.not_true, Bool.and_false]
    simp only [Nd.readE, Nd.readS, this]
    exact Nd.askNot (hst x).2.2
  have fp : ∀ (x : Int) (bs : List Byt), ({ Nd.new h xs with wrong := x } : Nd).progE (d : Int) (b : Int) 0 bs.length = 1 ∧ ({ Nd.new h xs with wrong := x } : Nd).prog (d : Int) (b : Int) 0 bs = { Nd.new h xs with wrong := wr64 (x + 1) } := fun x bs => by
    have : ({ Nd.new h xs with wrong := x } : Nd).progFine (d : Int) (b : Int) 0 bs.length = false := by simp only [Nd.progFine, hbt, Bool.not_true, Bool.and_false, Bool.false_and]
    have ha := Nd.askNot (hst x).2.2
    simp only [Nd.progE, Nd.prog, this, ha.1, ha.2]
    exact ⟨by simp, by simp⟩
  have fe : ∀ x : Int, ({ Nd.new h xs with wrong := x } : Nd).eraseE (d : Int) (b : Int) = 1 ∧ ({ Nd.new h xs with wrong := x } : Nd).erase (d : Int) (b : Int) = { Nd.new h xs with wrong := wr64 (x + 1) } := fun x => by
    have : ({ Nd.new h xs with wrong := x } : Nd).eraFine (d : Int) (b : Int) = false := by simp only [Nd.eraFine, hbt, Bool.not_true, Bool.and_false]
    have ha := Nd.askNot (hst x).2.2
    simp only [Nd.eraseE, Nd.erase, this, ha.1, ha.2]
    exact ⟨by simp, by simp⟩
  have wn : ∀ k : Nat, k ≤ 1000 → wr64 ((k : Int) + 1) = ((k + 1 : Nat) : Int) := fun k hk => int_next (by omega)
  refine joinT_of (fun _ W => LawN w W L { Nd.new h xs with wrong := ((3 * n : Nat) : Int) } ∧ GeoAt W ⟨w2.heap.size, 0, none⟩ h) ?_ ?_
  · have hgm : ¬ L.mut w2.heap.size := by
      intro hm
      obtain ⟨cur, e, hx, he⟩ := h6.at_.types _ hm
      have hx' := hx.symm.trans (hB3.kept ((kept_drew W3).trans (k5.trans k6)))
      simp at hx'
      obtain ⟨_, rfl⟩ := hx'
      simp at he
    refine loopT_of (fun e W => ∃ i : Nat, e = ((i : Int), ()) ∧ i ≤ n ∧ LawN w W L { Nd.new h xs with wrong := ((3 * i : Nat) : Int) } ∧ GeoAt W ⟨w2.heap.size, 0, none⟩ h) (fun e _ => n - e.1.toNat) ⟨0, rfl, by omega, h6, hh⟩ ?_
    rintro e W ⟨i, rfl, hi, hL, hgW⟩ _
    refine cond_of (fun hc => ?_) fun hc => ?_
    · simp only [decide_eq_true_eq] at hc
      have hin : i < n := by omega
      refine hL.readO.mono ?_
      rintro v W1 ⟨sx, rfl, _, hL1, c1⟩
      simp only [dec2, decS_sl, decI_int]
      rw [(fr _).1]
      rw [(fr _).2, wn _ (by omega)] at hL1
      refine joinT_of (fun e W' => e.1 = false ∧ LawN w W' L { Nd.new h xs with wrong := ((3 * (i + 1) : Nat) : Int) } ∧ GeoAt W' ⟨w2.heap.size, 0, none⟩ h) ?_ ?_
      · refine cond_f (by decide) ⟨by omega, by omega, by omega, by omega, ?_⟩
        refine alZeros fun W2 m2 k2' => ?_
        refine ((hL1.keep k2').prog m2 (by simp)).mono ?_
        rintro v W3' ⟨rfl, hL3, c3, _⟩
        simp only [decI_int]
        rw [(fp _ _).1]
        rw [(fp _ _).2, wn _ (by omega)] at hL3
        refine cond_f (by decide) (hL3.erase.mono ?_)
        rintro v W4 ⟨rfl, hL4, c4⟩
        simp only [decI_int]
        rw [(fe _).1]
        rw [(fe _).2, wn _ (by omega)] at hL4
        exact ⟨by decide, hL4, (((hgW.chg c1 hgm).kept k2').chg c3 hgm).chg c4 hgm⟩
      · rintro ⟨e, _⟩ W' ⟨rfl, hL', hg'⟩ _
        refine cond_f rfl ?_
        rw [int_next (by omega)]
        exact ⟨⟨i + 1, rfl, by omega, hL', hg'⟩, by simp; omega⟩
    · simp only [decide_eq_false_iff_not] at hc
      have : i = n := by omega
      subst this
      exact ⟨hL, hgW⟩
  rintro _ w8 ⟨h8, hg8⟩ _
  have hg8' := hst ((3 * n : Nat) : Int)
  generalize hs8 : ({ Nd.new h xs with wrong := ((3 * n : Nat) : Int) } : Nd) = s8 at h8 hg8'
  obtain ⟨g1, g2, g3⟩ := hg8'
  have e1 : IntKind.wrap .i64 ((b : Int) + 1) = ((b + 1 : Nat) : Int) := int_next (by omega)
  have e2 : IntKind.wrap .i64 ((d : Int) + 1) = ((d + 1 : Nat) : Int) := int_next (by omega)
  refine rdI_of hg8.2.1 ⟨by omega, ?_⟩
  rw [hB, e1, tmod_nat]
  have hmB : (b + 1) % B < B := Nat.mod_lt _ (by omega)
  have hmne : (b + 1) % B ≠ b := by
    by_cases hx : b + 1 < B
    · rw [Nat.mod_eq_of_lt hx]; omega
    · have : b + 1 = B := by omega
      rw [this, Nat.mod_self]; omega
  have hmD : (d + 1) % D < D := Nat.mod_lt _ (by omega)
  have hmnd : (d + 1) % D ≠ d := by
    by_cases hx : d + 1 < D
    · rw [Nat.mod_eq_of_lt hx]; omega
    · have : d + 1 = D := by omega
      rw [this, Nat.mod_self]; omega
  refine joinT_of (fun e W => e.1 = true ∧ Kept w W) ?_ ?_
  · refine h8.isBad.mono ?_
    rintro v w9 ⟨rfl, rfl⟩
    simp only [decB_bool]
    refine cond_t (by rw [hib s8 g1 g2]; simp) (h8.isBad.mono ?_)
    rintro v w9 ⟨rfl, rfl⟩
    simp only [decB_bool]
    refine cond_t (by rw [hib s8 g1 g2]; simp [hmne]) (rdI_of hg8.1 ⟨by omega, ?_⟩)
    rw [hD, e2, tmod_nat]
    refine h8.isBad.mono ?_
    rintro v w9 ⟨rfl, rfl⟩
    simp only [decB_bool]
    refine cond_t (by rw [hib s8 g1 g2]; simp [hmnd]) (h8.isBad.mono ?_)
    rintro v w9 ⟨rfl, rfl⟩
    simp only [decB_bool]
    refine cond_t (by simp [Nd.isBad, Nd.there]) (rdI_of hg8.2.1 (h8.isBad.mono ?_))
    rintro v w9 ⟨rfl, rfl⟩
    simp only [decB_bool]
    refine cond_t ?_ (h8.wrong.mono ?_)
    · have : s8.there 0 h.2.1 = false := by
        rw [Bool.eq_false_iff]
        intro hx
        have := (Nd.there_iff.1 hx).2.2.2
        rw [g1] at this
        omega
      simp [Nd.isBad, this]
    rintro v w9 ⟨rfl, rfl⟩
    simp only [decI_int]
    have e3 : IntKind.wrap .i64 ((3 : Int) * (n : Int)) = ((3 * n : Nat) : Int) := by rw [w64 (by omega) (by omega)]; omega
    refine cond_t (by rw [e3, ← hs8]; simp) (h8.ops.mono ?_)
    rintro v w9 ⟨rfl, rfl⟩
    simp only [decI_int]
    refine cond_t (by rw [← hs8]; rfl) (h8.erases.mono ?_)
    rintro v w9 ⟨rfl, rfl⟩
    simp only [decI_int]
    refine cond_t (by rw [← hs8]; simp only [Nd.erases]; split <;> rfl) ⟨by omega, by omega, by omega, by omega, ?_⟩
    refine alZeros fun W2 m2 k2' => ?_
    refine ((h8.keep k2').prog m2 (by simp)).mono ?_
    rintro v w10 ⟨rfl, h10, c10, _⟩
    simp only [decI_int]
    refine ⟨?_, h10.kept⟩
    have hf2 : s8.progFine (d : Int) (((b + 1) % B : Nat) : Int) 0 (List.replicate 60 0#8).length = true := by
      have q1 : s8.page (d : Int) (((b + 1) % B : Nat) : Int) 0 = true := by
        rw [Nd.page_iff, hth s8 g1, g1]
        exact ⟨by simp; omega, by omega, by omega⟩
      have q2 : s8.next (d : Int).toNat (((b + 1) % B : Nat) : Int).toNat = 0 := by rw [← hs8]; rfl
      simp only [Nd.progFine, q1, hib s8 g1 g2, q2]
      simp [hmne]
    have ha : s8.askE true = 0 := by simp [Nd.askE, g3]
    have hgo : s8.goes = false := by rw [← hs8]; rfl
    simp only [Nd.progE, hf2, ha, hgo]
    rfl
  · rintro ⟨e, _⟩ W ⟨rfl, kW⟩ _
    exact ⟨rfl, kW⟩
end Go.Proofs.Ytppfnkedbpmliaa
