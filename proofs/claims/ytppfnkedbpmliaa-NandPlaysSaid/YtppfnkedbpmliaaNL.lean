/- What the laws' helpers compute (ramekinlaw7.known, bytes, the reference's Flip and Mix), and flash as a law holds it. -/
import Derived.Test.YtppfnkedbpmliaaNN
set_option linter.unusedVariables false
set_option linter.unusedSimpArgs false
namespace Go.Proofs.Ytppfnkedbpmliaa
open Go Go.Rk
open Go.RowKit (Below)

/-- Flash as a law holds it: made behind the world w, in which the law began. -/
structure LawN (w W : World) (L : NLay) (st : Nd) : Prop where
  at_ : NandAt w.heap.size W L st
  kept : Kept w W
section
variable {w W W' : World} {L : NLay} {st : Nd}
theorem LawN.keep (h : LawN w W L st) (k : Kept W W') : LawN w W' L st := ⟨h.at_.kept k, h.kept.trans k⟩
theorem LawN.mk' (h : LawN w W L st) {st' : Nd} (h1 : NandAt w.heap.size W' L st') (c : Chg L.mut W W') : LawN w W' L st' := ⟨h1, h.at_.old h.kept (Nat.le_refl _) c⟩
theorem LawN.le (h : LawN w W L st) : w.heap.size ≤ W.heap.size := h.kept.size
/-- Bytes of the law's own are no block that calls change. -/
theorem LawN.byt (h : LawN w W L st) {base : Nat} {s : Sl} {bs : List Byt} (m : Mine eB 5 base W s bs) : ∀ b, s.a = some b → ¬ L.mut b.block := h.at_.other.mine m (.inl rfl)
theorem LawN.prog (h : LawN w W L st) {d b p : Int} {base : Nat} {s : Sl} {bs : List Byt} (m : Mine eB 5 base W s bs) (hl : bs.length ≤ 100000000) :
    Ok Try.prog 45 [pv L.pn, .int .i64 d, .int .i64 b, .int .i64 p, s.v] W fun v W' => v = .int .i64 (st.progE d b p bs.length) ∧ LawN w W' L (st.prog d b p bs) ∧ Chg L.mut W W' ∧ Mine eB 5 base W' s bs :=
  (program_ok h.at_ m.row (fun a ha _ => h.byt m a ha) h.le hl).mono fun _ _ ⟨h1, h2, h3⟩ => ⟨h1, h.mk' h2 h3, h3, m.chg h3 (h.byt m)⟩
theorem LawN.erase (h : LawN w W L st) {d b : Int} : Ok Try.prog 48 [pv L.pn, .int .i64 d, .int .i64 b] W fun v W' => v = .int .i64 (st.eraseE d b) ∧ LawN w W' L (st.erase d b) ∧ Chg L.mut W W' :=
  (erase_ok h.at_ h.le).mono fun _ _ ⟨h1, h2, h3⟩ => ⟨h1, h.mk' h2 h3, h3⟩
theorem LawN.read (h : LawN w W L st) {d b p : Int} : Ok Try.prog 46 [pv L.pn, .int .i64 d, .int .i64 b, .int .i64 p] W fun v W' => ∃ s : Sl, v = .tuple #[s.v, .int .i64 (st.readE d b p)] ∧ Row eB W' s (st.readB d b p) ∧ (∀ a, s.a = some a → ¬ L.mut a.block) ∧ LawN w W' L (st.readS d b p) ∧ Chg L.mut W W' :=
  (read_ok h.at_ h.le).mono fun _ _ ⟨s, h1, h2, h3, h4, h5⟩ => ⟨s, h1, h2, fun a ha hm => by
    obtain ⟨cur, e, h6, _⟩ := h.at_.types _ hm
    have := heap_lt h6
    have := h3 a ha
    omega, h.mk' h4 h5, h5⟩
theorem LawN.noise (h : LawN w W L st) {d b p : Int} {l : Sl} {ns : List Int} (hm : Row eI W l ns) (hl : Few ns) :
    Ok Try.prog 42 [pv L.pn, .int .i64 d, .int .i64 b, .int .i64 p, l.v] W fun v W' => v = .int .i64 (st.noiseE d b p) ∧ LawN w W' L (st.setNoise d b p ns) ∧ Chg L.mut W W' :=
  (noise_ok h.at_ hm hl h.le).mono fun _ _ ⟨h1, h2, h3⟩ => ⟨h1, h.mk' h2 h3, h3⟩
theorem LawN.stop (h : LawN w W L st) {k : Int} {m : Sl} {ms : List Byt} (hm : Row eB W m ms) (hl : ms.length ≤ 1000000000) :
    Ok Try.prog 49 [pv L.pn, .int .i64 k, m.v] W fun v W' => LawN w W' L (st.setStop k ms) ∧ Chg L.mut W W' :=
  (stop_ok h.at_ hm hl h.le).mono fun _ _ ⟨h2, h3⟩ => ⟨h.mk' h2 h3, h3⟩
theorem LawN.power (h : LawN w W L st) : Ok Try.prog 51 [pv L.pn] W fun v W' => LawN w W' L st.power ∧ Chg L.mut W W' :=
  (power_ok h.at_).mono fun _ _ ⟨h2, h3⟩ => ⟨h.mk' h2 h3, h3⟩
theorem LawN.wrong (h : LawN w W L st) : Ok Try.prog 43 [pv L.pn] W fun v W' => v = .int .i64 st.wrong ∧ W' = W := wrong_ok h.at_
theorem LawN.ops (h : LawN w W L st) : Ok Try.prog 44 [pv L.pn] W fun v W' => v = .int .i64 st.ops ∧ W' = W := ops_ok h.at_
theorem LawN.dead (h : LawN w W L st) : Ok Try.prog 50 [pv L.pn] W fun v W' => v = .bool st.dead ∧ W' = W := dead_ok h.at_
theorem LawN.isBad (h : LawN w W L st) {d b : Int} : Ok Try.prog 52 [pv L.pn, .int .i64 d, .int .i64 b] W fun v W' => v = .bool (st.isBad d b) ∧ W' = W := isBad_ok' h.at_
theorem LawN.erases (h : LawN w W L st) {d b : Int} : Ok Try.prog 53 [pv L.pn, .int .i64 d, .int .i64 b] W fun v W' => v = .int .i64 (st.erases d b) ∧ W' = W := erases_ok h.at_
end
/-- Flash that is made of a geometry that may be, with bad blocks that may be. -/
theorem newG_ok {w W : World} (kW : Kept w W) {g : Geo} {bad : Sl} {xs : List (Int × Int)} (hbad : Row2 W bad xs) (hl : xs.length ≤ 1000000000) (he : newE g xs = 0) :
    Ok Try.prog 39 [gv g, bad.v] W fun v W' => ∃ L, v = .tuple #[pv L.pn, .int .i64 0] ∧ LawN w W' L (Nd.new g xs) ∧ Kept W W' := by
  refine (new_ok hbad hl).mono ?_
  rintro v W' ⟨k, h⟩
  rcases h with ⟨_, L, rfl, h1⟩ | ⟨h0, _⟩
  · obtain ⟨cap, mk, hb, hr⟩ := h1.at_
    refine ⟨L, rfl, ⟨⟨h1.ok, cap, mk, hb, ?_⟩, kW.trans k⟩, k⟩
    have hz := kW.size
    obtain ⟨a1, ⟨l1, l2, l3, l4⟩, ⟨ds, d1, d2⟩, ⟨ns, z1, z2⟩, a5, a6, a7, a8⟩ := hr
    exact ⟨a1, ⟨Nat.le_trans hz l1, Nat.le_trans hz l2, Nat.le_trans hz l3, fun d hd => Nat.le_trans hz (l4 d hd)⟩, ⟨ds, d1, fun d b p hd hb hp => (d2 d b p hd hb hp).mono hz⟩, ⟨ns, z1, fun d b p hd hb hp => (z2 d b p hd hb hp).mono hz⟩, a5.mono hz, a6, a7, a8.mono hz⟩
  · omega
/-! ### States -/
/-- What stays while flash is alive, no power is to go, nothing is bad. -/
structure Calm (st : Nd) (g : Geo) : Prop where
  g : st.g = g
  dead : st.dead = false
  stop : st.stop < 1
  bad : ∀ d b, st.bad d b = false
theorem Calm.isBad {st : Nd} {g : Geo} (h : Calm st g) (d b : Int) : st.isBad d b = false := by simp [Nd.isBad, h.bad]
theorem Calm.page {st : Nd} {g : Geo} (h : Calm st g) (d b p : Int) : st.page d b p = true ↔ 0 ≤ d ∧ d < g.1 ∧ 0 ≤ b ∧ b < g.2.1 ∧ 0 ≤ p ∧ p < g.2.2.1 := by
  rw [Nd.page_iff, Nd.there_iff, h.g]
  constructor
  · rintro ⟨⟨a, b, c, d⟩, e, f⟩; exact ⟨a, b, c, d, e, f⟩
  · rintro ⟨a, b, c, d, e, f⟩; exact ⟨⟨a, b, c, d⟩, e, f⟩
theorem Calm.new {g : Geo} : Calm (Nd.new g []) g := ⟨rfl, rfl, by simp [Nd.new], fun d b => by simp [Nd.new]⟩
theorem Calm.ask {st : Nd} {g : Geo} (h : Calm st g) (f : Bool) : Calm (st.ask f) g := by
  have hf := ask_fields st f
  exact ⟨hf.1.trans h.g, hf.2.2.2.2.2.2.2.2.trans h.dead, by rw [hf.2.2.2.2.2.2.2.1]; exact h.stop, by rw [hf.2.2.2.2.2.1]; exact h.bad⟩
theorem Calm.goes {st : Nd} {g : Geo} (h : Calm st g) : st.goes = false := by simp [Nd.goes, h.stop]
theorem Calm.went {st : Nd} {g : Geo} (h : Calm st g) : st.went = st := by simp [Nd.went, h.stop]
theorem Calm.askE {st : Nd} {g : Geo} (h : Calm st g) (f : Bool) : st.askE f = if f then 0 else 1 := by simp [Nd.askE, h.dead]
theorem Calm.askS {st : Nd} {g : Geo} (h : Calm st g) (f : Bool) : st.ask f = if f then { st with ops := wr64 (st.ops + 1) } else { st with wrong := wr64 (st.wrong + 1) } := by simp [Nd.ask, h.dead]
/-- A page is programmed in its turn. -/
theorem Calm.prog {st : Nd} {g : Geo} (h : Calm st g) {d b p : Nat} {bs : List Byt} (hp : st.page (d : Int) (b : Int) (p : Int) = true) (hn : st.next d b = (p : Int)) (hl : bs.length = 60) :
    st.progE (d : Int) (b : Int) (p : Int) bs.length = 0 ∧ st.prog (d : Int) (b : Int) (p : Int) bs = { st with ops := wr64 (st.ops + 1), next := upd2 st.next d b (wr64 ((p : Int) + 1)), data := upd3 st.data d b p bs } := by
  have hf : st.progFine (d : Int) (b : Int) (p : Int) bs.length = true := by simp [Nd.progFine, hp, h.isBad, hl, hn]
  have h0 : st.askE (st.progFine (d : Int) (b : Int) (p : Int) bs.length) = 0 := by rw [hf, h.askE]; rfl
  refine ⟨by simp [Nd.progE, h0, h.goes], ?_⟩
  unfold Nd.prog
  rw [if_pos h0, hf, h.askS]
  simp only [if_true, Nd.put, Int.toNat_natCast]
  have c2 : Calm { st with ops := wr64 (st.ops + 1), next := upd2 st.next d b (wr64 (st.next d b + 1)) } g := ⟨h.g, h.dead, h.stop, h.bad⟩
  rw [c2.went, c2.goes, hn]
  simp
theorem Calm.progNot {st : Nd} {g : Geo} (h : Calm st g) {d b p : Int} {n : Nat} {bs : List Byt} (hf : st.progFine d b p bs.length = false) :
    st.progE d b p bs.length = 1 ∧ st.prog d b p bs = { st with wrong := wr64 (st.wrong + 1) } := by
  have h0 : st.askE (st.progFine d b p bs.length) = 1 := by rw [hf, h.askE]; rfl
  refine ⟨by simp [Nd.progE, h0], ?_⟩
  unfold Nd.prog
  rw [if_neg (by rw [h0]; decide), hf, h.askS]
  rfl
theorem Calm.read {st : Nd} {g : Geo} (h : Calm st g) {d b p : Nat} (hp : st.page (d : Int) (b : Int) (p : Int) = true) :
    st.readE (d : Int) (b : Int) (p : Int) = 0 ∧ st.readB (d : Int) (b : Int) (p : Int) = flips (st.data d b p) (st.noise d b p) ∧ st.readS (d : Int) (b : Int) (p : Int) = { st with ops := wr64 (st.ops + 1) } := by
  have hf : st.readFine (d : Int) (b : Int) (p : Int) = true := by simp [Nd.readFine, hp, h.isBad]
  have h0 : st.readE (d : Int) (b : Int) (p : Int) = 0 := by simp only [Nd.readE, hf, h.askE]; rfl
  refine ⟨h0, by simp [Nd.readB, h0], ?_⟩
  simp only [Nd.readS, hf, h.askS]
  rfl
theorem flips_nil (bs : List Byt) : flips bs [] = bs := rfl

/-! ### The law's helpers -/
def bytesL (bs : List Byt) (n : Nat) : List Byt := (List.range n).map fun i => bs.getD (i % bs.length) 0#8
theorem bytesL_len (bs : List Byt) (n : Nat) : (bytesL bs n).length = n := by simp [bytesL]
theorem bytes_ok {w : World} {s : Sl} {bs : List Byt} {n : Nat} (h : Row eB w s bs) (hn : n ≤ 1000000) :
    Ok Try.prog 41 [s.v, .int .i64 (n : Int)] w fun v w' => ∃ s' : Sl, v = s'.v ∧ Kept w w' ∧ Mine eB 5 w.heap.size w' s' (bytesL bs n) := by
  have hl := h.len
  apply u41
  unfold T41
  refine ⟨by omega, by omega, by omega, by omega, ?_⟩
  simp only [Int.toNat_natCast, zeroRow_one]
  refine alW fun W hb k hlt => ?_
  refine joinT_of (fun _ W' => Kept w W' ∧ Blk W' w.heap.size 5 ((bytesL bs n).map eB)) ?_ ?_
  · refine loopT_of (fun d W' => ∃ i : Nat, d = ((i : Int), ()) ∧ i ≤ n ∧ Kept w W' ∧ Arr W' w.heap.size 5 n (fun j => if j < i then eB (bs.getD (j % bs.length) 0#8) else .int .u8 0)) (fun d _ => n - d.1.toNat) ⟨0, rfl, by omega, k, hb.cast (by simp [List.map_const'])⟩ ?_
    rintro d W1 ⟨i, rfl, hi, k1, hA⟩ _
    refine joinT_of (fun d W' => d.1 = decide (i < n ∧ 0 < bs.length) ∧ W' = W1) ?_ ?_
    · refine cond_of (fun hc => ?_) fun hc => ?_
      · simp at hc
        refine ⟨?_, rfl⟩
        simp [hl]
        omega
      · simp at hc
        refine ⟨?_, rfl⟩
        simp
        omega
    · rintro ⟨d, _⟩ W2 ⟨hd, rfl⟩ _
      simp only at hd
      subst hd
      refine cond_of (fun hc => ?_) fun hc => ?_
      · simp only [decide_eq_true_eq] at hc
        obtain ⟨h1, h2⟩ := hc
        refine ⟨by omega, ?_⟩
        rw [hl, tmod_nat]
        have him : i % bs.length < bs.length := Nat.mod_lt _ h2
        refine (h.kept k1).ixn him fun q hq hc => rdI_of hc (ixB h1 ?_)
        rw [addB]
        refine wr_blk hA (by simpa using h1) ?_
        have hA2 := hA.set i (eB bs[i % bs.length])
        have c2 := Chg.set W2 ⟨w.heap.size, i, none⟩ (eB bs[i % bs.length])
        rw [arr_set] at hA2
        rw [int_next (by omega)]
        refine ⟨⟨i + 1, rfl, by omega, k1.then c2 fun x hx e => by dsimp only at e; omega, hA2.cast (List.map_congr_left fun j _ => ?_)⟩, by simp; omega⟩
        by_cases hji : j = i
        · subst hji
          simp [List.getD, List.getElem?_eq_getElem him]
        · by_cases hlt : j < i
          · simp [hji, hlt, show j < i + 1 by omega]
          · simp [hji, hlt, show ¬ j < i + 1 by omega]
      · simp only [decide_eq_false_iff_not] at hc
        refine ⟨k1, hA.cast ?_⟩
        simp only [bytesL, List.map_map]
        refine List.map_congr_left fun j hj => ?_
        have hj := List.mem_range.1 hj
        by_cases hji : j < i
        · simp [hji]
        · have h0 : bs = [] := by
            apply List.length_eq_zero_iff.1
            by_cases hin : i < n
            · have : ¬ 0 < bs.length := fun h => hc ⟨hin, h⟩
              omega
            · omega
          subst h0
          simp [hji, eB]
  · rintro _ W1 ⟨k1, hb1⟩ _
    have := hb1.mine (Nat.le_refl _) (by simp only [bytesL_len, maxLen]; omega)
    rw [bytesL_len] at this
    exact ⟨⟨some ⟨w.heap.size, 0, none⟩, n, n⟩, rfl, k1, this⟩
theorem row2nil {w : World} : Row2 w ⟨none, 0, 0⟩ [] := ⟨rfl, fun _ => rfl, fun i h => by simp at h⟩
abbrev g684 : Geo := (6, 8, 4, ())
theorem zeros_at {w : World} : Mine eB 5 w.heap.size (w.alloc (.cells (List.replicate 60 (Value.int .u8 0)).toArray 5)) ⟨some ⟨w.heap.size, 0, none⟩, 60, 60⟩ (List.replicate 60 0#8) := by
  have hb := Blk.new w 5 (List.replicate 60 (Value.int .u8 0))
  have e : List.replicate 60 (Value.int .u8 0) = (List.replicate 60 0#8).map eB := by simp [eB]
  have hb' : Blk (w.alloc (.cells (List.replicate 60 (Value.int .u8 0)).toArray 5)) w.heap.size 5 ((List.replicate 60 0#8).map eB) := hb.cast e.symm
  have := hb'.mine (Nat.le_refl _) (by decide)
  simpa using this
/-- Sixty noughts. -/
theorem alZeros {w : World} {K : Addr → World → Prop} (k : ∀ W, Mine eB 5 w.heap.size W ⟨some ⟨w.heap.size, 0, none⟩, 60, 60⟩ (List.replicate 60 0#8) → Kept w W → K ⟨w.heap.size, 0, none⟩ W) : al w (.cells (zeroRow #[.int .u8 0] (60 * 1)) 5) K := by
  rw [zeroRow_one]
  exact k _ zeros_at (kept_alloc w _)
theorem known7_ok {w : World} : Ok Try.prog 37 [] w fun v w' => v = .bool true ∧ Kept w w' := by
  apply u37
  unfold T37
  refine (newG_ok (kept_refl w) (g := g684) (bad := ⟨none, 0, 0⟩) (xs := []) row2nil (by simp) (by decide)).mono ?_
  rintro v w1 ⟨L, rfl, h1, k1⟩
  simp only [dec2, decP_ptr, decI_int]
  refine joinT_of (fun d W => d.1 = false ∧ W = w1) (cond_f (by decide) ⟨rfl, rfl⟩) ?_
  rintro ⟨d, _⟩ W ⟨rfl, rfl⟩ _
  refine cond_f rfl ⟨by omega, by omega, by omega, by omega, ?_⟩
  refine alZeros fun w2 m2 k2 => ?_
  refine ((h1.keep k2).prog m2 (by simp)).mono ?_
  rintro v w3 ⟨rfl, h3, c3, m3⟩
  simp only [decI_int]
  refine h3.read.mono ?_
  rintro v w4 ⟨s4, rfl, r4, _, h4, c4⟩
  simp only [dec2, decS_sl, decI_int]
  have e1 : (Nd.new g684 []).progE 0 0 1 (List.replicate 60 0#8).length = 1 := by decide
  have e2 : (Nd.new g684 []).prog 0 0 1 (List.replicate 60 0#8) = { Nd.new g684 [] with wrong := 1 } := by
    have := (Calm.new (g := g684)).progNot (d := 0) (b := 0) (p := 1) (n := 60) (bs := List.replicate 60 0#8) (by decide)
    rw [this.2]
    rfl
  rw [e2] at h3 h4 r4 ⊢
  have e3 : ({ Nd.new g684 [] with wrong := 1 } : Nd).readE 0 0 0 = 0 := by decide
  have e4 : ({ Nd.new g684 [] with wrong := 1 } : Nd).readB 0 0 0 = blankL := by simp only [Nd.readB, e3, if_true]; rfl
  rw [e4] at r4
  have hl4 := r4.len
  refine joinT_of (fun d W => d.1 = true ∧ Kept w W) ?_ ?_
  · refine cond_t (by rw [e1]; rfl) (cond_t (by rw [e3]; rfl) (cond_t (by rw [hl4]; rfl) ?_))
    have hi : (0 : Nat) < blankL.length := by decide
    obtain ⟨b, hb, hc⟩ := r4.2.2 0 hi
    refine ⟨b, hb, by omega, by rw [hl4]; decide, ?_⟩
    have hc' : w4.cell? b = some (.int .u8 255) := by
      have e5 : b.add 0 = b := by simp [Addr.add]
      rw [e5] at hc
      rw [hc]
      rfl
    refine rdI_of hc' (cond_t (by decide) (h4.wrong.mono ?_))
    rintro v w5 ⟨rfl, rfl⟩
    simp only [decI_int]
    exact ⟨rfl, h4.kept⟩
  · rintro ⟨d, _⟩ W ⟨rfl, kW⟩ _
    exact ⟨rfl, kW⟩
end Go.Proofs.Ytppfnkedbpmliaa
