/- geom does as the law GeomAll says: of any geometry, any bad blocks, any numbers. -/
import Derived.Test.YtppfnkedbpmliaaLG
import Derived.Test.YtppfnkedbpmliaaGD
set_option linter.unusedVariables false
set_option linter.unusedSimpArgs false
namespace Go.Proofs.Ytppfnkedbpmliaa
open Go Go.Rk
open Go.RowKit (Below)

theorem decG_geo {g : Geo} {K : Geo → Prop} : decG [(.i .i64), (.i .i64), (.i .i64)] (gv g) K = K g := by simp [decG, decs, Kb.dec]
theorem ixGeo {w : World} {b i : Nat} {g : Geo} {K : Addr → Int → Int → Int → Prop} (h : GeoAt w ((⟨b, 0, none⟩ : Addr).add (Int.toNat (i : Int) * 3)) g) (hi : i < 3) (k : K ⟨b, 0, none⟩ g.1 g.2.1 g.2.2.1) :
    ix (some ⟨b, 0, none⟩) 3 (i : Int) fun q => rdI .i64 w (q.add ((i : Int).toNat * 3)) fun n1 => rdI .i64 w ((q.add ((i : Int).toNat * 3)).add 1) fun n2 => rdI .i64 w ((q.add ((i : Int).toNat * 3)).add 2) fun n3 => K q n1 n2 n3 :=
  ixB hi (rdGeo h k)
theorem geomAll_ok {w : World} {g : Geo} {bad ns : Sl} {xs : List (Int × Int)} {zs : List Int} {sup : Int} (hb : Row2 w bad xs) (hn : Row eI w ns zs) :
    Ok Try.prog 4 [gv g, bad.v, .int .i64 sup, ns.v] w fun v w' => v = .bool true ∧ Kept w w' := by
  apply u4
  unfold T4
  refine alGeo fun W1 hg k1 => ?_
  refine known9_ok.mono ?_
  rintro v w2 ⟨rfl, k2⟩
  simp only [decB_bool]
  refine cond_f rfl ?_
  have hbl : bad.l = xs.length := hb.len
  refine cond_of (fun h => ⟨by trivial, k1.trans k2⟩) fun h => ?_
  simp [hbl] at h
  refine rdGeo (hg.kept k2) (make_ok.mono ?_)
  rintro v w3 ⟨rfl, k3⟩
  rw [decG_geo]
  refine geo_init fun W4 hh _ k4 => ?_
  have hh : GeoAt W4 ⟨w3.heap.size, 0, none⟩ (makeOf g) := hh
  refine rdGeo (((hg.kept k2).kept k3).kept k4) (rdGeo hh (rdGeo hh ?_))
  refine alW (cs := [.int .i64 g.1, .int .i64 g.2.1, .int .i64 g.2.2.1, .int .i64 (makeOf g).1, .int .i64 (makeOf g).2.1, .int .i64 (makeOf g).2.2.1, .int .i64 (makeOf g).1, .int .i64 (makeOf g).2.1, .int .i64 (makeOf g).2.2.1]) fun W5 hb5 k5 _ => ?_
  have kw5 : Kept w W5 := k1.trans (k2.trans (k3.trans (k4.trans k5)))
  refine rdGeo (hh.kept k5) ((spoil_ok (make_fits g) (hn.kept kw5)).mono ?_)
  rintro v W6 ⟨s6, rfl, k6, m6⟩
  simp only [decS_sl]
  have h6 : Row2 W6 s6 (spoilOf (makeOf g) zs) := (m6.row eP2).pairs
  refine alW (cs := [.slice bad.a bad.l bad.c, .slice bad.a bad.l bad.c, .slice s6.a s6.l s6.c]) fun W7 hb7 k7 _ => ?_
  have kw7 : Kept w W7 := kw5.trans (k6.trans k7)
  obtain ⟨gs, hgs⟩ : ∃ gs : Nat → Geo, gs = fun i => if i = 0 then g else makeOf g := ⟨_, rfl⟩
  obtain ⟨bs, hbs⟩ : ∃ bs : Nat → Sl, bs = fun i => if i = 2 then s6 else bad := ⟨_, rfl⟩
  obtain ⟨xss, hxs⟩ : ∃ xss : Nat → List (Int × Int), xss = fun i => if i = 2 then spoilOf (makeOf g) zs else xs := ⟨_, rfl⟩
  have hsl : (spoilOf (makeOf g) zs).length ≤ 40 := by
    have h1 := spoilN_len (makeOf g).2.1 zs (min zs.length (makeOf g).1.toNat)
    have h2 := fits_bounds (make_fits g)
    simp only [spoilOf]
    omega
  have hxl : ∀ i, (xss i).length ≤ 1000000000 := fun i => by rw [hxs]; dsimp only; split <;> omega
  have SG : ∀ W, Kept W7 W → ∀ i : Nat, i < 3 → GeoAt W ((⟨W4.heap.size, 0, none⟩ : Addr).add (Int.toNat (i : Int) * 3)) (gs i) := by
    intro W k i hi
    have hb5 := (hb5.kept (k6.trans k7)).kept k
    have : i = 0 ∨ i = 1 ∨ i = 2 := by omega
    rw [hgs]
    rcases this with rfl | rfl | rfl <;> refine ⟨?_, ?_, ?_⟩ <;> (simp only [addN]; exact hb5.at _ rfl)
  have SB : ∀ W, Kept W7 W → ∀ i : Nat, i < 3 → W.cell? ((⟨W6.heap.size, 0, none⟩ : Addr).add (Int.toNat (i : Int) * 1)) = some (bs i).v ∧ Row2 W (bs i) (xss i) := by
    intro W k i hi
    have hb7 := hb7.kept k
    have : i = 0 ∨ i = 1 ∨ i = 2 := by omega
    rw [hbs, hxs]
    rcases this with rfl | rfl | rfl
    · exact ⟨by simp only [addN]; exact hb7.at _ rfl, hb.kept (kw7.trans k)⟩
    · exact ⟨by simp only [addN]; exact hb7.at _ rfl, hb.kept (kw7.trans k)⟩
    · exact ⟨by simp only [addN]; exact hb7.at _ rfl, h6.kept (k7.trans k)⟩
  clear hgs hbs hxs hb5 hb7 h6 m6 hh hg
  refine joinT_of (fun _ W => Kept W7 W) ?_ ?_
  · refine loopT_of (fun d W => ∃ i : Nat, d = ((i : Int), ()) ∧ i ≤ 3 ∧ Kept W7 W) (fun d _ => 3 - d.1.toNat) ⟨0, rfl, by omega, kept_refl _⟩ ?_
    rintro d W ⟨i, rfl, hi, k⟩ _
    refine cond_of (fun hc => ?_) fun hc => ?_
    · simp only [decide_eq_true_eq] at hc
      have hi3 : i < 3 := by omega
      replace k := k.trans (kept_drew W)
      refine ixGeo (SG _ k i hi3) hi3 (ixB hi3 (rdS_of (SB _ k i hi3).1 ?_))
      refine ixGeo (SG _ k i hi3) hi3 (ixB hi3 (rdS_of (SB _ k i hi3).1 ?_))
      refine (supers_ok (g := gs i) (SB _ k i hi3).2 (hxl i)).mono ?_
      rintro v W8 ⟨s8, rfl, k8, n8⟩
      simp only [decS_sl]
      refine rdGeo (SG _ (k.trans k8) i hi3) ⟨rfl, rdS_of (SB _ (k.trans k8) i hi3).1 ⟨rfl, ?_⟩⟩
      refine (refSupers_ok (g := gs i) (SB _ (k.trans k8) i hi3).2 (hxl i)).mono ?_
      rintro v W9 ⟨s9, rfl, k9, n9⟩
      simp only [decS_sl]
      replace n8 := n8.kept (k9.trans (kept_drew W9))
      replace n9 := n9.kept (kept_drew W9)
      replace k := k.trans (k8.trans (k9.trans (kept_drew W9)))
      have l8 := n8.len
      have l9 := n9.len
      refine joinT_of (fun d W => d.1 = false ∧ Kept W9.drew W) ?_ ?_
      · refine cond_f (by simp [l8, l9]) ?_
        refine ixGeo (SG _ k i hi3) hi3 (ixGeo (SG _ k i hi3) hi3 ?_)
        refine (check_ok (g := gs i)).mono ?_
        rintro v W10 ⟨rfl, k10⟩
        simp only [decI_int]
        refine rdGeo (SG _ (k.trans k10) i hi3) ⟨rfl, (refCheck_ok (g := gs i)).mono ?_⟩
        rintro v W11 ⟨rfl, k11⟩
        simp only [decI_int]
        replace k := k.trans (k10.trans k11)
        refine cond_f (by simp) (ixGeo (SG _ k i hi3) hi3 (ixGeo (SG _ k i hi3) hi3 ?_))
        refine (slots_ok (g := gs i)).mono ?_
        rintro v W12 ⟨rfl, k12⟩
        simp only [decI_int]
        refine rdGeo (SG _ (k.trans k12) i hi3) ⟨rfl, (refSlots_ok (g := gs i)).mono ?_⟩
        rintro v W13 ⟨rfl, k13⟩
        simp only [decI_int]
        exact ⟨by simp, k10.trans (k11.trans (k12.trans k13))⟩
      · rintro ⟨d, _⟩ W10 ⟨rfl, k10⟩ _
        refine cond_f rfl ?_
        replace n8 := n8.kept k10
        replace n9 := n9.kept k10
        replace k := k.trans k10
        obtain ⟨hb12, hb8⟩ := supers_bound (gs i) (xss i)
        generalize supersOf (gs i) (xss i) = xs2 at n8 n9 l8 l9 hb12 hb8
        obtain ⟨ss8, p8, q8, r8⟩ := n8
        obtain ⟨ss9, p9, q9, r9⟩ := n9
        refine joinT_of (fun _ W => Kept W10 W) ?_ ?_
        · refine loopT_of (fun d W => ∃ j : Nat, d = ((j : Int), ()) ∧ j ≤ xs2.length ∧ Kept W10 W) (fun d _ => xs2.length - d.1.toNat) ⟨0, rfl, by omega, kept_refl _⟩ ?_
          rintro d W ⟨j, rfl, hj, kj⟩ _
          refine cond_of (fun hc2 => ?_) fun hc2 => ?_
          · simp [l8] at hc2
            have kd := kj.trans (kept_drew W)
            refine (p8.kept kd).row.ix (show j < ss8.length by omega) fun a ha ca => rdS_of ca ?_
            refine (p9.kept kd).row.ix (show j < ss9.length by omega) fun b hb cb => rdS_of cb ?_
            have e8 := (r8 j (by omega) hc2).len
            have e9 := (r9 j (by omega) hc2).len
            refine cond_f (by simp [e8, e9]) ?_
            refine joinT_of (fun _ W => Kept W10 W) ?_ ?_
            · refine loopT_of (fun d W => ∃ m : Nat, d = ((m : Int), ()) ∧ m ≤ xs2[j].length ∧ Kept W10 W) (fun d _ => xs2[j].length - d.1.toNat) ⟨0, rfl, by omega, kd⟩ ?_
              rintro d W2 ⟨m, rfl, hm, km⟩ _
              refine (p8.kept km).row.ix (show j < ss8.length by omega) fun a ha ca => rdS_of ca ?_
              refine cond_of (fun hc3 => ?_) fun hc3 => ?_
              · simp [e8] at hc3
                have kd2 := km.trans (kept_drew W2)
                refine (p8.kept kd2).row.ix (show j < ss8.length by omega) fun a ha ca => rdS_of ca ?_
                refine ((r8 j (by omega) hc2).kept kd2).row.ix hc3 fun a ha ca => rdI_of ca ?_
                refine (p9.kept kd2).row.ix (show j < ss9.length by omega) fun a ha ca => rdS_of ca ?_
                refine ((r9 j (by omega) hc2).kept kd2).row.ix hc3 fun a ha ca => rdI_of ca ?_
                refine cond_f (by simp) ?_
                rw [int_next (by have := hb8 j hc2; omega)]
                exact ⟨⟨m + 1, rfl, by omega, kd2⟩, by simp; omega⟩
              · exact km
            · intro _ W2 k2' _
              rw [int_next (by omega)]
              exact ⟨⟨j + 1, rfl, by omega, k2'⟩, by simp; omega⟩
          · exact kj
        · intro _ W11 k11 _
          replace k := k.trans k11
          refine joinT_of (fun d W => d.1 = false ∧ Kept W7 W) ?_ ?_
          · replace k := k.trans (kept_drew W11)
            refine ixGeo (SG _ k i hi3) hi3 (ixGeo (SG _ k i hi3) hi3 ?_)
            refine (sectors_ok (g := gs i)).mono ?_
            rintro v W12 ⟨rfl, k12⟩
            simp only [decI_int]
            refine rdGeo (SG _ (k.trans k12) i hi3) ⟨rfl, (refSectors_ok (g := gs i)).mono ?_⟩
            rintro v W13 ⟨rfl, k13⟩
            simp only [decI_int]
            replace k := k.trans (k12.trans k13)
            refine cond_f (by simp) (ixGeo (SG _ k i hi3) hi3 (ixGeo (SG _ k i hi3) hi3 ?_))
            refine (within_ok (by omega) (by omega) (fun h => u36 h)).mono ?_
            rintro v W14 ⟨rfl, rfl⟩
            simp only [decI_int]
            refine rdGeo (SG _ k i hi3) ⟨rfl, rdGeo (SG _ k i hi3) ⟨rfl, (sectors_ok (g := gs i)).mono ?_⟩⟩
            rintro v W15 ⟨rfl, k15⟩
            simp only [decI_int]
            replace k := k.trans k15
            refine rdGeo (SG _ k i hi3) ⟨rfl, (within_ok (by omega) (by omega) (fun h => u36 h)).mono ?_⟩
            rintro v W16 ⟨rfl, rfl⟩
            simp only [decI_int]
            refine rdGeo (SG _ k i hi3) ⟨rfl, (refSectors_ok (g := gs i)).mono ?_⟩
            rintro v W17 ⟨rfl, k17⟩
            simp only [decI_int]
            exact ⟨by simp, k.trans k17⟩
          · rintro ⟨d, _⟩ W12 ⟨rfl, k12⟩ _
            refine cond_f rfl ?_
            rw [int_next (by omega)]
            exact ⟨⟨i + 1, rfl, by omega, k12⟩, by simp; omega⟩
    · exact k
  · intro _ W8 k8 _
    exact ⟨by trivial, kw7.trans k8⟩
end Go.Proofs.Ytppfnkedbpmliaa
