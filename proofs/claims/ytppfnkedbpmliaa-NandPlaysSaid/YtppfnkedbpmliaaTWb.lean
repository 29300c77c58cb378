/- What an act does to both flashes (ramekinlaw7.Act.Do). -/
import Derived.Test.YtppfnkedbpmliaaTW
set_option linter.unusedVariables false
set_option linter.unusedSimpArgs false
namespace Go.Proofs.Ytppfnkedbpmliaa
open Go Go.Rk
open Go.RowKit (Below)
section
variable {w W W' : World} {L : NLay} {R : RLay} {B : Nat} {s t s' t' : Nd}
theorem _root_.Go.Proofs.Ytppfnkedbpmliaa.RefAt.g0 (h : RefAt B W R t) : W.cell? ⟨R.pn, 0, none⟩ = some (.int .i64 t.g.1) ∧ W.cell? ((⟨R.pn, 0, none⟩ : Addr).add 1) = some (.int .i64 t.g.2.1) ∧ W.cell? ((⟨R.pn, 0, none⟩ : Addr).add 2) = some (.int .i64 t.g.2.2.1) := by
  obtain ⟨so, sl, mk, ms, h1, h2⟩ := h.at_
  exact ⟨h1.at 0 rfl, h1.ad 1 rfl, h1.ad 2 rfl⟩
/-- Both flashes alike, and the act's own struct. -/
structure Dw (w : World) (L : NLay) (R : RLay) (B q : Nat) (a : Act) (W : World) (st : Nd) : Prop where
  two : Two w W L R B st st
  blk : Blk W q 72 (eAct a)
  nq : ∀ k, L.mut k → k < q
  rq : ∀ k, R.mut k → k < q
variable {q : Nat} {a : Act} {st st' : Nd}
theorem Dw.keep (h : Dw w L R B q a W st) (k : Kept W W') : Dw w L R B q a W' st := ⟨h.two.keep k, h.blk.kept k, h.nq, h.rq⟩
/-- Between: nand has gone on, the reference not yet. -/
structure Dh (w : World) (L : NLay) (R : RLay) (B q : Nat) (a : Act) (W : World) (s t : Nd) : Prop where
  two : Two w W L R B s t
  blk : Blk W q 72 (eAct a)
  rq : ∀ k, R.mut k → k < q
theorem Dw.half (h : Dw w L R B q a W st) (h1 : NandAt w.heap.size W' L st') (c : Chg L.mut W W') : Dh w L R B q a W' st' st := ⟨h.two.nstep h1 c, h.blk.chg c fun hm => by have := h.nq _ hm; omega, h.rq⟩
theorem Dh.keep (h : Dh w L R B q a W s t) (k : Kept W W') : Dh w L R B q a W' s t := ⟨h.two.keep k, h.blk.kept k, h.rq⟩

theorem do_ok {a : Act} (h : Two w W L R B st st) (ha : ActOk w a) (hf : ActFew a) :
    Ok Try.prog 56 [.agg (eAct a).toArray, pv L.pn, pv R.pn] W fun v W' => v = .bool true ∧ ∃ st', Two w W' L R B st' st' := by
  obtain ⟨⟨bs, rb⟩, ns, rn, bn⟩ := ha
  obtain ⟨f1, f2⟩ := hf
  have lb := rb.len
  have ln := rn.len
  have hg := h.r.ok.bounds
  obtain ⟨ak, ad, ab, ap, at', as', al', ⟨⟩⟩ := a
  simp only at rb rn f1 f2 lb ln
  apply u56 (a0 := (ak, ad, ab, ap, at', as', al', ()))
  unfold T56
  refine alW (cs := eAct (ak, ad, ab, ap, at', as', al', ())) fun W1 hb k1 _ => ?_
  have hD : Dw w L R B W.heap.size (ak, ad, ab, ap, at', as', al', ()) W1 st := ⟨h.keep k1, hb, fun k hk => h.nLt hk, fun k hk => h.rLt hk⟩
  generalize hq : W.heap.size = q at hD
  clear hb k1 h
  replace hD := hD.keep (kept_drew W1)
  refine rdI_of (n := ad) (hD.blk.ad 1 rfl) (nn_of (rdI_of hD.two.r.g0.1 (rdI_of (n := ab) (hD.blk.ad 2 rfl) ?_)))
  rw [w64 (by omega) (by omega)]
  refine (within_ok (by omega) (by omega) (fun h => u38 h)).mono ?_
  rintro v W2 ⟨rfl, rfl⟩
  simp only [decI_int]
  refine rdI_of (n := ab) (hD.blk.ad 2 rfl) ⟨rfl, (within_ok (by omega) (by omega) (fun h => u38 h)).mono ?_⟩
  rintro v W2 ⟨rfl, rfl⟩
  simp only [decI_int]
  have hd0 := Int.emod_nonneg ad (show st.g.1 + 1 ≠ 0 by omega)
  have hd1 := Int.emod_lt_of_pos ad (show 0 < st.g.1 + 1 by omega)
  generalize ad % (st.g.1 + 1) = dd at hd0 hd1 ⊢
  refine rdI_of (n := at') (hD.blk.ad 4 rfl) ⟨by decide, ?_⟩
  refine joinT_of (fun d W => Dw w L R B q (ak, ad, ab, ap, at', as', al', ()) W st) ?_ ?_
  · refine cond_of (fun _ => ?_) fun _ => hD
    replace hD := hD.keep (kept_drew _)
    refine rdI_of (n := ab) (hD.blk.ad 2 rfl) (nn_of (rdI_of hD.two.r.g0.2.1 ?_))
    rw [w64 (by omega) (by omega)]
    refine (within_ok (by omega) (by omega) (fun h => u38 h)).mono ?_
    rintro v W3 ⟨rfl, rfl⟩
    simp only [decI_int]
    exact hD
  rintro ⟨blk, _⟩ W3 hD3 _
  replace hD := hD3.keep (kept_drew W3)
  clear hD3
  dsimp only
  refine rdI_of (n := ap) (hD.blk.ad 3 rfl) (nn_of (rdI_of hD.two.r.g0.2.2 ?_))
  rw [w64 (by omega) (by omega)]
  refine (within_ok (by omega) (by omega) (fun h => u38 h)).mono ?_
  rintro v W4 ⟨rfl, rfl⟩
  simp only [decI_int]
  generalize ap % (st.g.2.2.1 + 1) = pp
  refine rdI_of (n := ak) (hD.blk.at 0 rfl) ((within_ok (by omega) (by omega) (fun h => u38 h)).mono ?_)
  rintro v W4 ⟨rfl, rfl⟩
  simp only [decI_int]
  generalize ak % 13 = kk
  obtain ⟨W5, hW5⟩ : ∃ W5, W5 = W3.drew := ⟨_, rfl⟩
  rw [← hW5] at hD ⊢
  clear hW5
  refine joinT_of (fun _ W => W = W5) ?_ ?_
  · refine cond_of (fun _ => rfl) fun _ => joinT_thru (cond_of (fun _ _ => rfl) fun _ => joinT_thru (cond_of (fun _ _ _ => rfl) fun _ => joinT_thru (cond_of (fun _ _ _ _ => rfl) fun _ => joinT_thru (cond_of (fun _ _ _ _ _ => rfl) fun _ _ _ _ _ => rfl))))
  rintro ⟨d35, _⟩ W6 rfl _
  refine joinT_of (fun _ W => ∃ st', Two w W L R B st' st') ?_ ?_
  rotate_left
  · rintro _ W7 h7 _
    exact ⟨by trivial, h7⟩
  refine cond_of (fun _ => ?_) fun _ => ?_
  -- program, at the next page where the place is one
  · refine joinT_of (fun d W => W = W6 ∧ (d.1 = true → dd < st.g.1 ∧ 0 ≤ blk ∧ blk < st.g.2.1)) ?_ ?_
    · refine nn_of (rdI_of hD.two.r.g0.1 (cond_of (fun c1 => cond_of (fun c2 => nn_of (rdI_of hD.two.r.g0.2.1 ⟨rfl, fun c3 => ?_⟩)) fun _ => ⟨rfl, fun h => by cases h⟩) fun _ => ⟨rfl, fun h => by cases h⟩))
      simp at c1 c2 c3
      exact ⟨by omega, by omega, by omega⟩
    rintro ⟨d53, _⟩ W7 ⟨rfl, h53⟩ _
    refine joinT_of (fun _ W => W = W7) ?_ ?_
    · refine cond_of (fun c => ?_) fun _ => rfl
      obtain ⟨e1, e2, e3⟩ := h53 c
      obtain ⟨dn, rfl⟩ := nat_of hd0
      obtain ⟨bn, rfl⟩ := nat_of e2
      obtain ⟨so, sl, mk, ms, hM⟩ := hD.two.r.toM
      obtain ⟨hdimD, hdimB⟩ := hM.rest.dims
      have hdD : dn < R.D := by omega
      have hbB : bn < R.B := by omega
      exact hM.rest.dieS hM.blk hdD fun c => ixB (i := bn) hbB (rdI_of (hM.rest.nextAt hdD hbB) rfl)
    rintro ⟨pg, _⟩ W8 rfl _
    dsimp only
    replace hD := hD.keep (kept_drew W8)
    refine rdS_of (s := as') (hD.blk.ad 5 rfl) (rdS_of (s := as') (hD.blk.ad 5 rfl) ((bytes_ok (n := 60) (rb.kept hD.two.kept) (by omega)).mono ?_))
    rintro v W9 ⟨s9, rfl, k9, m9⟩
    simp only [decS_sl]
    replace hD := hD.keep k9
    refine rdS_of (s := as') (hD.blk.ad 5 rfl) ⟨rfl, (program_ok hD.two.n m9.row (fun a ha _ => hD.two.n.other.mine m9 (.inl rfl) a ha) hD.two.kept.size (by rw [bytesL_len]; omega)).mono ?_⟩
    rintro v W10 ⟨rfl, h10, c10⟩
    simp only [decI_int]
    have hH := hD.half h10 c10
    refine rdS_of (s := as') (hH.blk.ad 5 rfl) ⟨rfl, (bytes_ok (n := 60) (rb.kept hH.two.kept) (by omega)).mono ?_⟩
    rintro v W11 ⟨s11, rfl, k11, m11⟩
    simp only [decS_sl]
    replace hH := hH.keep k11
    refine (rprogram_ok hH.two.r m11.row (fun a ha _ => hH.two.r.other.mine m11 (.inl rfl) a ha) hH.two.le (by rw [bytesL_len]; omega)).mono ?_
    rintro v W12 ⟨rfl, h12, c12⟩
    simp only [decI_int]
    exact ⟨by simp, _, hH.two.rstep h12 c12⟩
  refine cond_of (fun _ => ?_) fun _ => ?_
  -- program, with as many bytes as come
  · replace hD := hD.keep (kept_drew W6)
    have r1 := rb.kept hD.two.kept
    refine rdS_of (s := as') (hD.blk.ad 5 rfl) (rdS_of (s := as') (hD.blk.ad 5 rfl) ((program_ok hD.two.n r1 (hD.two.old rb).1 hD.two.kept.size (by omega)).mono ?_))
    rintro v W10 ⟨rfl, h10, c10⟩
    simp only [decI_int]
    have hH := hD.half h10 c10
    refine rdS_of (s := as') (hH.blk.ad 5 rfl) ⟨rfl, (rprogram_ok hH.two.r (rb.kept hH.two.kept) (hH.two.old rb).2 hH.two.le (by omega)).mono ?_⟩
    rintro v W12 ⟨rfl, h12, c12⟩
    simp only [decI_int]
    exact ⟨by simp, _, hH.two.rstep h12 c12⟩
  refine joinT_of (fun _ W => W = W6) ?_ ?_
  · exact cond_of (fun _ => rfl) fun _ => rfl
  rintro ⟨d94, _⟩ W7 rfl _
  dsimp only
  refine joinT_thru (cond_of (fun _ => ?_) fun _ => ?_)
  -- erase
  · refine (erase_ok hD.two.n hD.two.kept.size).mono ?_
    rintro v W10 ⟨rfl, h10, c10⟩
    simp only [decI_int]
    have hH := hD.half h10 c10
    refine (rerase_ok hH.two.r hH.two.le).mono ?_
    rintro v W12 ⟨rfl, h12, c12⟩
    simp only [decI_int]
    exact ⟨by simp, _, hH.two.rstep h12 c12⟩
  refine cond_of (fun _ => ?_) fun _ => ?_
  -- read
  · refine (read_ok hD.two.n hD.two.kept.size).mono ?_
    rintro v W10 ⟨s10, rfl, r10, o10, h10, c10⟩
    simp only [dec2, decS_sl, decI_int]
    have hH := hD.half h10 c10
    refine (rread_ok hH.two.r hH.two.le).mono ?_
    rintro v W12 ⟨s12, rfl, r12, o12, h12, c12⟩
    simp only [dec2, decS_sl, decI_int]
    have r10' : Row eB W12 s10 (st.readB dd blk pp) := by
      refine r10.chg c12 fun a ha hm => ?_
      have h1 := o10 a ha
      have h2 := hD.two.rLt hm
      omega
    have hT := hH.two.rstep h12 c12
    refine joinT_of (fun d W => d.1 = true ∧ W = W12) ?_ ?_
    · refine toS r10' (toS r12 ?_)
      rw [strB_inj]
      exact cond_t (by simp) ⟨by simp, rfl⟩
    · rintro ⟨d, _⟩ W ⟨rfl, rfl⟩ _
      exact ⟨rfl, _, hT⟩
  refine cond_of (fun _ => ?_) fun _ => ?_
  -- noise
  · have hD7 := hD.keep (kept_drew W7)
    refine rdS_of (s := al') (hD7.blk.ad 6 rfl) (rdS_of (s := al') (hD7.blk.ad 6 rfl) ?_)
    refine alW (cs := []) fun W8 hB8 k8 _ => ?_
    have hD8 := hD7.keep k8
    refine rdS_of (s := al') (hD8.blk.ad 6 rfl) ⟨rfl, rdS_of (s := al') (hD8.blk.ad 6 rfl) ⟨rfl, ?_⟩⟩
    refine app0 szI (fun _ => rfl) hB8 (rn.kept hD8.two.kept) (by omega) fun s9 W9 m9 c9 => ?_
    simp only [decS_sl]
    have k9 : Kept W7.drew W9 := k8.then c9 fun x hx he => by subst he; exact Nat.lt_irrefl _ hx
    have hD9 := hD7.keep k9
    refine rdS_of (s := al') (hD9.blk.ad 6 rfl) ⟨rfl, (noise_ok hD9.two.n m9.row ⟨by omega, bn⟩ hD9.two.kept.size).mono ?_⟩
    rintro v W10 ⟨rfl, h10, c10⟩
    simp only [decI_int]
    have hH := hD9.half h10 c10
    refine rdS_of (s := al') (hH.blk.ad 6 rfl) ⟨rfl, (rnoise_ok hH.two.r (rn.kept hH.two.kept) ⟨by omega, bn⟩ hH.two.le).mono ?_⟩
    rintro v W12 ⟨rfl, h12, c12⟩
    simp only [decI_int]
    exact ⟨by simp, _, hH.two.rstep h12 c12⟩
  refine joinT_of (fun _ W => ∃ st', Two w W L R B st' st') (cond_of (fun _ => ?_) fun _ => ?_) ?_
  -- stop
  · replace hD := hD.keep (kept_drew W7)
    refine rdI_of (n := at') (hD.blk.ad 4 rfl) (rdS_of (s := as') (hD.blk.ad 5 rfl) ((within_ok (by omega) (by omega) (fun h => u38 h)).mono ?_))
    rintro v W8 ⟨rfl, rfl⟩
    simp only [decI_int]
    refine rdS_of (s := as') (hD.blk.ad 5 rfl) ⟨rfl, (stop_ok hD.two.n (rb.kept hD.two.kept) (by omega) hD.two.kept.size).mono ?_⟩
    rintro v W10 ⟨h10, c10⟩
    have hH := (hD.half h10 c10).keep (kept_drew W10)
    refine rdI_of (n := at') (hH.blk.ad 4 rfl) (rdS_of (s := as') (hH.blk.ad 5 rfl) ((within_ok (by omega) (by omega) (fun h => u38 h)).mono ?_))
    rintro v W8 ⟨rfl, rfl⟩
    simp only [decI_int]
    refine rdS_of (s := as') (hH.blk.ad 5 rfl) ⟨rfl, (rstop_ok hH.two.r (rb.kept hH.two.kept) (by omega) hH.two.le).mono ?_⟩
    rintro v W12 ⟨h12, c12⟩
    exact ⟨_, hH.two.rstep h12 c12⟩
  -- power
  · refine (power_ok hD.two.n).mono ?_
    rintro v W10 ⟨h10, c10⟩
    have hH := hD.half h10 c10
    refine (rpower_ok hH.two.r).mono ?_
    rintro v W12 ⟨h12, c12⟩
    exact ⟨_, hH.two.rstep h12 c12⟩
  · rintro _ W8 h8 _ _
    exact h8
end
end Go.Proofs.Ytppfnkedbpmliaa
