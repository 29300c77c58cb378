/- nand does as the law NandPlays says: after any acts both flashes, nand's and the reference's, say the same. -/
import Derived.Test.YtppfnkedbpmliaaTWb
set_option linter.unusedVariables false
set_option linter.unusedSimpArgs false
namespace Go.Proofs.Ytppfnkedbpmliaa
open Go Go.Rk
open Go.RowKit (Below)
section
variable {w W W' : World} {L : NLay} {R : RLay} {B : Nat} {s t s' t' st : Nd}
theorem RefAt.own3 (h : RefAt B W R t) : W.cell? ((⟨R.pn, 0, none⟩ : Addr).add 7) = some (.bool t.dead) ∧ W.cell? ((⟨R.pn, 0, none⟩ : Addr).add 8) = some (.int .i64 t.ops) ∧ W.cell? ((⟨R.pn, 0, none⟩ : Addr).add 9) = some (.int .i64 t.wrong) := by
  obtain ⟨so, sl, mk, ms, h1, h2⟩ := h.at_
  exact ⟨h1.ad 7 rfl, h1.ad 8 rfl, h1.ad 9 rfl⟩
/-- ramekinlaw7.Same -/
theorem same_ok (h : Two w W L R B st st) : Ok Try.prog 57 [pv L.pn, pv R.pn] W fun v W' => v = .bool true ∧ Two w W' L R B st st := by
  have hg := h.r.ok.bounds
  apply u57
  unfold T57
  refine joinT_of (fun d W => d.1 = false ∧ Two w W L R B st st) ?_ ?_
  · have h1 := h.keep (kept_drew W)
    obtain ⟨a1, a2, a3⟩ := h1.r.own3
    obtain ⟨g1, g2, g3⟩ := h1.r.g0
    refine nn_of (rdB_of a1 ((dead_ok h1.n).mono ?_))
    rintro v W1 ⟨rfl, rfl⟩
    simp only [decB_bool]
    refine rdB_of a1 ⟨rfl, cond_f (by simp) (nn_of (rdI_of a3 ((wrong_ok h1.n).mono ?_)))⟩
    rintro v W1 ⟨rfl, rfl⟩
    simp only [decI_int]
    refine rdI_of a3 ⟨rfl, cond_f (by simp) (nn_of (rdI_of a2 ((ops_ok h1.n).mono ?_)))⟩
    rintro v W1 ⟨rfl, rfl⟩
    simp only [decI_int]
    refine rdI_of a2 ⟨rfl, cond_f (by simp) (nn_of (rdI_of g1 (rdI_of g2 (rdI_of g3 ((geometry_ok h1.n).mono ?_)))))⟩
    rintro v W2 ⟨rfl, k2⟩
    rw [decG_geoT]
    have h2 := h1.keep k2
    obtain ⟨g1, g2, g3⟩ := h2.r.g0
    exact rdI_of g1 (rdI_of g2 (rdI_of g3 ⟨rfl, by simp, h2⟩))
  rintro ⟨d, _⟩ W1 ⟨rfl, h1⟩ _
  refine cond_f rfl ?_
  clear h
  refine joinT_of (fun _ W => W = W1) ?_ ?_
  · refine loopT_of (fun d W => ∃ i : Nat, d = ((i : Int), ()) ∧ W = W1 ∧ (i : Int) ≤ st.g.1) (fun d _ => st.g.1.toNat - d.1.toNat) ⟨0, rfl, rfl, by omega⟩ ?_
    rintro d W ⟨i, rfl, rfl, hi⟩ _
    obtain ⟨g1, g2, g3⟩ := h1.r.g0
    refine nn_of (rdI_of g1 (cond_of (fun hc => ?_) fun hc => rfl))
    simp at hc
    refine joinT_of (fun _ W' => W' = W) ?_ ?_
    · refine loopT_of (fun d W' => ∃ j : Nat, d = ((j : Int), ()) ∧ W' = W ∧ (j : Int) ≤ st.g.2.1) (fun d _ => st.g.2.1.toNat - d.1.toNat) ⟨0, rfl, rfl, by omega⟩ ?_
      rintro d W' ⟨j, rfl, rfl, hj⟩ _
      refine nn_of (rdI_of g2 (cond_of (fun hc2 => ?_) fun hc2 => rfl))
      simp at hc2
      refine joinT_of (fun d W2 => d.1 = false ∧ W2 = W') ?_ ?_
      · refine (erases_ok h1.n).mono ?_
        rintro v W2 ⟨rfl, rfl⟩
        simp only [decI_int]
        refine (rerases_ok h1.r).mono ?_
        rintro v W2 ⟨rfl, rfl⟩
        simp only [decI_int]
        refine cond_f (by simp) ((isBad_ok' h1.n).mono ?_)
        rintro v W2 ⟨rfl, rfl⟩
        simp only [decB_bool]
        refine (risBad_ok h1.r).mono ?_
        rintro v W2 ⟨rfl, rfl⟩
        simp only [decB_bool]
        exact ⟨by simp, by trivial⟩
      · rintro ⟨d, _⟩ W2 ⟨rfl, rfl⟩ _
        refine cond_f rfl ⟨⟨j + 1, ?_, rfl, by omega⟩, ?_⟩
        · rw [w64 (by omega) (by omega)]; rfl
        · rw [w64 (by omega) (by omega)]; simp; omega
    · rintro _ W2 rfl _
      refine ⟨⟨i + 1, ?_, rfl, by omega⟩, ?_⟩
      · rw [w64 (by omega) (by omega)]; rfl
      · rw [w64 (by omega) (by omega)]; simp; omega
  · rintro _ W2 rfl _
    exact ⟨rfl, h1⟩
/-- ramekinlaw7.Pages -/
theorem pages_ok (h : Two w W L R B st st) : Ok Try.prog 59 [pv L.pn, pv R.pn] W fun v W' => v = .bool true ∧ ∃ st', Two w W' L R B st' st' := by
  have hg := h.r.ok.bounds
  obtain ⟨g, hgg⟩ : ∃ g, g = st.g := ⟨_, rfl⟩
  rw [← hgg] at hg
  have key : ∀ W1, (∃ st' : Nd, st'.g = g ∧ Two w W1 L R B st' st') → W1.cell? ⟨R.pn, 0, none⟩ = some (.int .i64 g.1) ∧ W1.cell? ((⟨R.pn, 0, none⟩ : Addr).add 1) = some (.int .i64 g.2.1) ∧ W1.cell? ((⟨R.pn, 0, none⟩ : Addr).add 2) = some (.int .i64 g.2.2.1) := by
    rintro W1 ⟨st', rfl, h1⟩
    exact h1.r.g0
  apply u59
  unfold T59
  refine joinT_of (fun _ W => ∃ st' : Nd, st'.g = g ∧ Two w W L R B st' st') ?_ ?_
  · refine loopT_of (fun d W => ∃ i : Nat, d = ((i : Int), ()) ∧ (i : Int) ≤ g.1 ∧ ∃ st' : Nd, st'.g = g ∧ Two w W L R B st' st') (fun d _ => g.1.toNat - d.1.toNat) ⟨0, rfl, by omega, st, hgg.symm, h⟩ ?_
    rintro d W1 ⟨i, rfl, hi, hst⟩ _
    refine nn_of (rdI_of (key W1 hst).1 (cond_of (fun hc => ?_) fun hc => hst))
    simp at hc
    refine joinT_of (fun _ W => ∃ st' : Nd, st'.g = g ∧ Two w W L R B st' st') ?_ ?_
    · refine loopT_of (fun d W => ∃ i : Nat, d = ((i : Int), ()) ∧ (i : Int) ≤ g.2.1 ∧ ∃ st' : Nd, st'.g = g ∧ Two w W L R B st' st') (fun d _ => g.2.1.toNat - d.1.toNat) ⟨0, rfl, by omega, hst⟩ ?_
      rintro d W2 ⟨j, rfl, hj, hst⟩ _
      refine nn_of (rdI_of (key W2 hst).2.1 (cond_of (fun hc => ?_) fun hc => hst))
      simp at hc
      refine joinT_of (fun _ W => ∃ st' : Nd, st'.g = g ∧ Two w W L R B st' st') ?_ ?_
      · refine loopT_of (fun d W => ∃ i : Nat, d = ((i : Int), ()) ∧ (i : Int) ≤ g.2.2.1 ∧ ∃ st' : Nd, st'.g = g ∧ Two w W L R B st' st') (fun d _ => g.2.2.1.toNat - d.1.toNat) ⟨0, rfl, by omega, hst⟩ ?_
        rintro d W3 ⟨k, rfl, hk, hst⟩ _
        refine nn_of (rdI_of (key W3 hst).2.2 (cond_of (fun hc => ?_) fun hc => hst))
        simp at hc
        obtain ⟨s3, hs3, h3⟩ := hst
        refine (read_ok h3.n h3.kept.size).mono ?_
        rintro v W4 ⟨s4, rfl, r4, o4, h4, c4⟩
        simp only [dec2, decS_sl, decI_int]
        have hH := h3.nstep h4 c4
        refine (rread_ok hH.r hH.le).mono ?_
        rintro v W5 ⟨s5, rfl, r5, o5, h5, c5⟩
        simp only [dec2, decS_sl, decI_int]
        have r4' := r4.chg c5 fun a ha hm => by
          have h1 := o4 a ha
          have h2 := h3.rLt hm
          omega
        have hT := hH.rstep h5 c5
        refine joinT_of (fun d W => d.1 = false ∧ W = W5) ?_ ?_
        · refine toS r4' (toS r5 ?_)
          rw [strB_inj]
          exact cond_f (by simp) ⟨by simp, rfl⟩
        · rintro ⟨d, _⟩ W ⟨rfl, rfl⟩ _
          refine cond_f rfl ⟨⟨k + 1, ?_, by omega, _, ?_, hT⟩, ?_⟩
          · rw [w64 (by omega) (by omega)]; rfl
          · rw [Nd.readS, Nd.ask_g, hs3]
          · rw [w64 (by omega) (by omega)]; simp; omega
      · rintro _ W3 hst _
        refine ⟨⟨j + 1, ?_, by omega, hst⟩, ?_⟩
        · rw [w64 (by omega) (by omega)]; rfl
        · rw [w64 (by omega) (by omega)]; simp; omega
    · rintro _ W3 hst _
      refine ⟨⟨i + 1, ?_, by omega, hst⟩, ?_⟩
      · rw [w64 (by omega) (by omega)]; rfl
      · rw [w64 (by omega) (by omega)]; simp; omega
  · rintro _ W3 ⟨st', _, h3⟩ _
    exact ⟨rfl, st', h3⟩
end
theorem NandAt.mono {base b2 : Nat} {w : World} {L : NLay} {st : Nd} (h : NandAt base w L st) (hz : b2 ≤ base) : NandAt b2 w L st := by
  obtain ⟨cap, mk, hb, hr⟩ := h.at_
  obtain ⟨a1, ⟨l1, l2, l3, l4⟩, ⟨ds, d1, d2⟩, ⟨ns, z1, z2⟩, a5, a6, a7, a8⟩ := hr
  exact ⟨h.ok, cap, mk, hb, a1, ⟨Nat.le_trans hz l1, Nat.le_trans hz l2, Nat.le_trans hz l3, fun d hd => Nat.le_trans hz (l4 d hd)⟩, ⟨ds, d1, fun d b p hd hb hp => (d2 d b p hd hb hp).mono hz⟩, ⟨ns, z1, fun d b p hd hb hp => (z2 d b p hd hb hp).mono hz⟩, a5.mono hz, a6, a7, a8.mono hz⟩
theorem spoilN_there {g : Geo} (hf : fits g = true) (zs : List Int) : ∀ n : Nat, (n : Int) ≤ g.1 → ∀ p ∈ spoilN g.2.1 zs n, thereG g p = true
  | 0, _, p, hp => by simp [spoilN] at hp
  | n + 1, hn, p, hp => by
    obtain ⟨a1, a2, a3, a4, a5, a6⟩ := fits_bounds hf
    rw [spoilN_succ, List.mem_append] at hp
    rcases hp with hp | hp
    · exact spoilN_there hf zs n (by omega) p hp
    · split at hp
      · rename_i hlt
        simp at hp
        subst hp
        simp only [thereG]
        rw [Nd.there_iff]
        refine ⟨by simp, by show (n : Int) < g.1; omega, ?_, hlt⟩
        exact Int.emod_nonneg _ (by omega)
      · simp at hp
theorem newE_spoil {g : Geo} (hf : fits g = true) (zs : List Int) : newE g (spoilOf g zs) = 0 := by
  obtain ⟨a1, a2, a3, a4, a5, a6⟩ := fits_bounds hf
  have : (spoilOf g zs).all (thereG g) = true := by
    rw [List.all_eq_true]
    exact spoilN_there hf zs _ (by omega)
  simp [newE, hf, this]
theorem spoilOf_len (g : Geo) (zs : List Int) (hf : fits g = true) : (spoilOf g zs).length ≤ 1000000000 := by
  obtain ⟨a1, a2, a3, a4, a5, a6⟩ := fits_bounds hf
  have := spoilN_len g.2.1 zs (min zs.length g.1.toNat)
  simp only [spoilOf]
  omega

theorem nandPlays_ok {w : World} {g : Geo} {bad l : Sl} {zs : List Int} {xs : List Act} (hbad : Row eI w bad zs) (hx : Acts w l xs) :
    Ok Try.prog 15 [gv g, bad.v, l.v] w fun v w' => v = .bool true ∧ Kept w w' := by
  have hbl := hbad.len
  have hll := hx.row.len
  have hxl := hx.len
  apply u15
  unfold T15
  refine alGeo fun W0 hg k0 => ?_
  refine known7_ok.mono ?_
  rintro v w1 ⟨rfl, k1⟩
  simp only [decB_bool]
  refine cond_f rfl ?_
  have kw1 := k0.trans k1
  refine (few_ok (hx.kept kw1)).mono ?_
  rintro v w2 ⟨b, rfl, rfl, hfew⟩
  simp only [decB_bool]
  refine cond_of (fun _ => ⟨by trivial, kw1⟩) fun hb => ?_
  obtain ⟨hx60, hfa⟩ := hfew (by simpa using hb)
  clear hfew hb
  refine rdGeo (hg.kept k1) (make_ok.mono ?_)
  rintro v w3 ⟨rfl, k3⟩
  rw [decG_geoT]
  refine geo_init fun W4 hh _ k4 => ?_
  have hh : GeoAt W4 ⟨w3.heap.size, 0, none⟩ (makeOf g) := hh
  have hf := make_fits g
  generalize makeOf g = h at hh hf ⊢
  have kw4 : Kept w W4.drew := kw1.trans (k3.trans (k4.trans (kept_drew W4)))
  replace hh := hh.kept (kept_drew W4)
  refine rdGeo hh (rdGeo hh ((spoil_ok hf (hbad.kept kw4)).mono ?_))
  rintro v w5 ⟨s5, rfl, k5, m5⟩
  simp only [decS_sl]
  replace hh := hh.kept k5
  have kw5 := kw4.trans k5
  refine rdGeo hh ⟨rfl, (new_ok (m5.row eP2).pairs (spoilOf_len h zs hf)).mono ?_⟩
  have hne := newE_spoil hf zs
  rintro v w6 ⟨k6, ⟨_, L, rfl, h6⟩ | ⟨h0, _⟩⟩
  case inr => omega
  simp only [dec2, decP_ptr, decI_int]
  have kw6 := kw5.trans (k6.trans (kept_drew w6))
  replace hh := hh.kept (k6.trans (kept_drew w6))
  refine rdGeo hh (rdGeo hh ((spoil_ok hf (hbad.kept kw6)).mono ?_))
  rintro v w7 ⟨s7, rfl, k7, m7⟩
  simp only [decS_sl]
  replace hh := hh.kept k7
  have kw7 := kw6.trans k7
  refine rdGeo hh ⟨rfl, (rnew_ok (m7.row eP2).pairs (spoilOf_len h zs hf)).mono ?_⟩
  rintro v w8 ⟨k8, ⟨_, R, rfl, h8⟩ | ⟨h0, _⟩⟩
  case inr => omega
  simp only [dec2, decP_ptr, decI_int]
  have kw8 := kw7.trans k8
  have h6' : NandAt w.heap.size w6 L (Nd.new h (spoilOf h zs)) := h6.mono kw5.size
  have hT : Two w w8 L R w7.heap.size (Nd.new h (spoilOf h zs)) (Nd.new h (spoilOf h zs)) :=
    ⟨(h6'.kept (kept_drew w6)).kept (k7.trans k8), h8, kw8, kw7.size, fun k hk => by
      obtain ⟨cur, e, h9, _⟩ := h6'.types k hk
      have := heap_lt h9
      have := ((kept_drew w6).trans k7).size
      omega⟩
  refine joinT_of (fun d W => d.1 = false ∧ W = w8) ?_ ?_
  · exact cond_f (by simp) ⟨by simp, rfl⟩
  rintro ⟨d, _⟩ W ⟨rfl, rfl⟩ _
  refine cond_f rfl ?_
  clear h6 h6' h8 k8 m7 m5 hh k7 k6 k5 hg k0 k1
  refine joinT_of (fun _ W => ∃ st, Two w W L R w7.heap.size st st) ?_ ?_
  · refine loopT_of (fun d W => ∃ i : Nat, d = ((i : Int), ()) ∧ i ≤ xs.length ∧ ∃ st, Two w W L R w7.heap.size st st) (fun d _ => xs.length - d.1.toNat) ⟨0, rfl, by omega, _, hT⟩ ?_
    rintro d W1 ⟨i, rfl, hi, st, h1⟩ _
    have hx1 := hx.kept h1.kept
    refine cond_of (fun hc => ?_) fun hc => ⟨st, h1⟩
    simp [hll] at hc
    refine joinT_of (fun d W => d.1 = false ∧ ∃ st, Two w W L R w7.heap.size st st) ?_ ?_
    · refine hx1.row.ix hc fun q hq hcell => ?_
      have c0 := hcell 0 (by omega)
      rw [show ∀ a : Addr, a.add 0 = a from fun a => by simp [Addr.add]] at c0
      refine rdI_of c0 (rdI_of (hcell 1 (by omega)) (rdI_of (hcell 2 (by omega)) (rdI_of (hcell 3 (by omega)) (rdI_of (hcell 4 (by omega)) (rdS_of (hcell 5 (by omega)) (rdS_of (hcell 6 (by omega)) ?_))))))
      refine (do_ok h1 (hx.ok _ (List.getElem_mem hc)) (hfa _ (List.getElem_mem hc))).mono ?_
      rintro v W2 ⟨rfl, st2, h2⟩
      simp only [decB_bool]
      refine cond_f (by simp) ((same_ok h2).mono ?_)
      rintro v W3 ⟨rfl, h3⟩
      simp only [decB_bool]
      exact ⟨by simp, st2, h3⟩
    · rintro ⟨d, _⟩ W2 ⟨rfl, hst⟩ _
      refine cond_f rfl ⟨⟨i + 1, ?_, by omega, hst⟩, ?_⟩
      · rw [w64 (by omega) (by omega)]; rfl
      · rw [w64 (by omega) (by omega)]; simp; omega
  rintro _ W1 ⟨st, h1⟩ _
  refine (power_ok h1.n).mono ?_
  rintro v W2 ⟨h2, c2⟩
  have hH := h1.nstep h2 c2
  refine (rpower_ok hH.r).mono ?_
  rintro v W3 ⟨h3, c3⟩
  have h3 := hH.rstep h3 c3
  refine joinT_of (fun d W => d.1 = true ∧ Kept w W) ?_ ?_
  · refine (pages_ok h3).mono ?_
    rintro v W4 ⟨rfl, st4, h4⟩
    simp only [decB_bool]
    refine cond_t rfl ((same_ok h4).mono ?_)
    rintro v W5 ⟨rfl, h5⟩
    simp only [decB_bool]
    exact ⟨by trivial, h5.kept⟩
  · rintro ⟨d, _⟩ W4 ⟨rfl, k4⟩ _
    exact ⟨rfl, k4⟩
end Go.Proofs.Ytppfnkedbpmliaa
