/- What memory shows of the program's own flash (nand.Nand), and what stays so while other blocks change. -/
import Derived.Test.YtppfnkedbpmliaaND
import Derived.Test.YtppfnkedbpmliaaRN
set_option linter.unusedVariables false
set_option linter.unusedSimpArgs false
namespace Go.Proofs.Ytppfnkedbpmliaa
open Go Go.Rk
open Go.RowKit (Below)

theorem nn_of {a : Addr} {K : Addr → Prop} (k : K a) : nn (some a) K := ⟨a, rfl, k⟩
theorem _root_.Go.Rk.Blk.ne {w : World} {b b' : Nat} {e e' : TypeId} {cs cs' : List Value} (h : Blk w b e cs) (h' : Blk w b' e' cs') (hne : e ≠ e') : b ≠ b' := by
  rintro rfl
  have := h.symm.trans h'
  simp at this
  exact hne this.2
theorem _root_.Go.Rk.Blk.mine_ne {α : Type} {enc : α → Value} {e e' : TypeId} {base b : Nat} {w : World} {s : Sl} {xs : List α} {cs : List Value} (hb : Blk w b e' cs) (h : Mine enc e base w s xs) (hne : e ≠ e') : ∀ a, s.a = some a → ¬ a.block = b := h.ne_blk hb hne

/-- A block of n cells, by a function. -/
abbrev Arr (w : World) (b : Nat) (e : TypeId) (n : Nat) (f : Nat → Value) : Prop := Blk w b e ((List.range n).map f)
theorem Arr.cell {w : World} {b n i : Nat} {e : TypeId} {f : Nat → Value} (h : Arr w b e n f) (hi : i < n) : w.cell? ⟨b, i, none⟩ = some (f i) := h.at i (by simp [hi])
theorem arr_set (n : Nat) (f : Nat → Value) (i : Nat) (v : Value) : ((List.range n).map f).set i v = (List.range n).map fun j => if j = i then v else f j := by
  apply List.ext_getElem
  · simp
  · intro j h1 h2
    rw [List.getElem_set]
    by_cases h : i = j
    · subst h; simp
    · have : ¬ j = i := fun e => h e.symm
      simp [h, this]

/-- Where flash stands: the struct, the pages' slices, the noise's slices, the dies' slices, each die's blocks. -/
structure NLay where
  pn : Nat
  pd : Nat
  pz : Nat
  pb : Nat
  ps : Nat → Nat
  n : Nat
/-- The blocks that calls may change. -/
def NLay.mut (L : NLay) (k : Nat) : Prop := k = L.pn ∨ k = L.pd ∨ k = L.pz ∨ ∃ d, d < L.n ∧ k = L.ps d
def stCells (st : Nd) (d : Nat) (b : Nat) : List Value := [.int .i64 (st.next d b), .int .i64 (st.era d b), .bool (st.bad d b)]
def nandCells (L : NLay) (cap : Nat) (mk : Sl) (st : Nd) : List Value :=
  [.int .i64 st.g.1, .int .i64 st.g.2.1, .int .i64 st.g.2.2.1,
   .int .i64 st.g.1, .int .i64 st.g.2.1, .int .i64 st.g.2.2.1, .slice (some ⟨L.pd, 0, none⟩) (pages st.g) (pages st.g),
   .int .i64 st.g.1, .int .i64 st.g.2.1, .int .i64 st.g.2.2.1, .slice (some ⟨L.pz, 0, none⟩) (pages st.g) (pages st.g),
   .slice (some ⟨L.pb, 0, none⟩) st.g.1.toNat cap, .int .i64 st.stop, .slice mk.a mk.l mk.c, .bool st.dead, .int .i64 st.ops, .int .i64 st.wrong]
def dieSl (L : NLay) (g : Geo) (d : Nat) : Sl := ⟨some ⟨L.ps d, 0, none⟩, g.2.1.toNat, g.2.1.toNat⟩
/-- All but the struct's own block. -/
structure NRest (base : Nat) (w : World) (L : NLay) (cap : Nat) (mk : Sl) (st : Nd) : Prop where
  n : L.n = st.g.1.toNat
  lo : base ≤ L.pn ∧ base ≤ L.pd ∧ base ≤ L.pz ∧ ∀ d, d < L.n → base ≤ L.ps d
  dd : ∃ ds : Nat → Sl, Arr w L.pd 22 (pages st.g) (fun i => (ds i).v) ∧ ∀ d b p, d < st.g.1.toNat → b < st.g.2.1.toNat → p < st.g.2.2.1.toNat → Mine eB 5 base w (ds (pix st.g d b p)) (st.data d b p)
  zz : ∃ ns : Nat → Sl, Arr w L.pz 23 (pages st.g) (fun i => (ns i).v) ∧ ∀ d b p, d < st.g.1.toNat → b < st.g.2.1.toNat → p < st.g.2.2.1.toNat → Mine eI 3 base w (ns (pix st.g d b p)) (st.noise d b p)
  bb : Mine eS 113 base w ⟨some ⟨L.pb, 0, none⟩, st.g.1.toNat, cap⟩ ((List.range st.g.1.toNat).map (dieSl L st.g))
  ss : ∀ d, d < st.g.1.toNat → Blk w (L.ps d) 115 ((List.range st.g.2.1.toNat).flatMap (stCells st d))
  inj : ∀ d d', d < L.n → d' < L.n → L.ps d = L.ps d' → d = d'
  mm : Mine eB 5 base w mk st.mask
structure NandAt (base : Nat) (w : World) (L : NLay) (st : Nd) : Prop where
  ok : Nd.Ok st
  at_ : ∃ cap mk, Blk w L.pn 111 (nandCells L cap mk st) ∧ NRest base w L cap mk st
section
variable {base : Nat} {w w' : World} {L : NLay} {cap : Nat} {mk : Sl} {st : Nd} {F : Nat → Prop}
/-- No block of bytes, of whole numbers, of dies' slices is among these. -/
def Other (w : World) (F : Nat → Prop) : Prop := ∀ b cur e fr, F b → w.heap[b]? = some (.cells cur e fr) → e ≠ 5 ∧ e ≠ 3 ∧ e ≠ 113
theorem Other.mine {α : Type} {enc : α → Value} {e : TypeId} {s : Sl} {xs : List α} (h : Other w F) (m : Mine enc e base w s xs) (he : e = 5 ∨ e = 3 ∨ e = 113) : ∀ b, s.a = some b → ¬ F b.block := by
  intro b hb hf
  rcases m.forms with ⟨rfl, _⟩ | ⟨g, cap, cur, rfl, _, h2, _⟩
  · simp at hb
  · simp at hb
    subst hb
    obtain ⟨a1, a2, a3⟩ := h _ _ _ _ hf h2
    rcases he with rfl | rfl | rfl
    · exact a1 rfl
    · exact a2 rfl
    · exact a3 rfl
theorem NRest.chg (h : NRest base w L cap mk st) (k : Chg F w w') (hF : ∀ b, F b → ¬ (b = L.pd ∨ b = L.pz ∨ ∃ d, d < L.n ∧ b = L.ps d)) (hO : Other w F) : NRest base w' L cap mk st := by
  obtain ⟨ds, d1, d2⟩ := h.dd
  obtain ⟨ns, z1, z2⟩ := h.zz
  refine ⟨h.n, h.lo, ⟨ds, d1.chg k fun hf => hF _ hf (.inl rfl), fun d b p hd hb hp => (d2 d b p hd hb hp).chg k (hO.mine (d2 d b p hd hb hp) (by simp))⟩,
    ⟨ns, z1.chg k fun hf => hF _ hf (.inr (.inl rfl)), fun d b p hd hb hp => (z2 d b p hd hb hp).chg k (hO.mine (z2 d b p hd hb hp) (by simp))⟩,
    h.bb.chg k (hO.mine h.bb (by simp)), fun d hd => (h.ss d hd).chg k fun hf => hF _ hf (.inr (.inr ⟨d, by rw [h.n]; exact hd, rfl⟩)), h.inj, h.mm.chg k (hO.mine h.mm (by simp))⟩
theorem NRest.kept (h : NRest base w L cap mk st) (k : Kept w w') : NRest base w' L cap mk st :=
  h.chg (F := fun _ => False) (Kept.chg k) (fun _ hf => hf.elim) fun _ _ _ _ hf => hf.elim
/-- Fields that stand in the struct alone do not count. -/
theorem NRest.same (h : NRest base w L cap mk st) {st' : Nd} (h1 : st'.g = st.g) (h2 : st'.data = st.data) (h3 : st'.noise = st.noise) (h4 : st'.next = st.next) (h5 : st'.era = st.era) (h6 : st'.bad = st.bad) (h7 : st'.mask = st.mask) : NRest base w L cap mk st' := by
  obtain ⟨a1, a2, a3, a4, a5, a6, a7, a8⟩ := h
  refine ⟨by rw [h1]; exact a1, a2, by rw [h1, h2]; exact a3, by rw [h1, h3]; exact a4, by rw [h1]; exact a5, ?_, a7, by rw [h7]; exact a8⟩
  unfold stCells
  rw [h1, h4, h5, h6]
  exact a6
theorem NandAt.kept (h : NandAt base w L st) (k : Kept w w') : NandAt base w' L st := by
  obtain ⟨cap, mk, h1, h2⟩ := h.at_
  exact ⟨h.ok, cap, mk, h1.kept k, h2.kept k⟩
theorem NandAt.chg (h : NandAt base w L st) (k : Chg F w w') (hF : ∀ b, F b → ¬ L.mut b) (hO : Other w F) : NandAt base w' L st := by
  obtain ⟨cap, mk, h1, h2⟩ := h.at_
  exact ⟨h.ok, cap, mk, h1.chg k fun hf => hF _ hf (.inl rfl), h2.chg k (fun b hb hm => hF b hb (.inr hm)) hO⟩
/-- The struct's own block changes. -/
theorem NRest.own (h : NRest base w L cap mk st) {cs : List Value} (hb : Blk w L.pn 111 cs) (k : Chg (· = L.pn) w w') : NRest base w' L cap mk st := by
  obtain ⟨ds, d1, d2⟩ := h.dd
  obtain ⟨ns, z1, z2⟩ := h.zz
  refine h.chg k ?_ ?_
  · rintro b rfl (e | e | ⟨d, hd, e⟩)
    · exact hb.ne d1 (by decide) e
    · exact hb.ne z1 (by decide) e
    · exact hb.ne (h.ss d (by rw [← h.n]; exact hd)) (by decide) e
  · rintro b cur e fr rfl hh
    have := hb.symm.trans hh
    simp at this
    obtain ⟨_, rfl, _⟩ := this
    decide
theorem NandAt.lo (h : NandAt base w L st) : ∀ k, L.mut k → base ≤ k := by
  obtain ⟨cap, mk, h1, h2⟩ := h.at_
  rintro k (rfl | rfl | rfl | ⟨d, hd, rfl⟩)
  · exact h2.lo.1
  · exact h2.lo.2.1
  · exact h2.lo.2.2.1
  · exact h2.lo.2.2.2 d hd
/-- What the blocks that calls change are of. -/
theorem NandAt.types (h : NandAt base w L st) : ∀ k, L.mut k → ∃ cur e, w.heap[k]? = some (.cells cur e (0, 0)) ∧ (e = 111 ∨ e = 22 ∨ e = 23 ∨ e = 115) := by
  obtain ⟨cap, mk, h1, h2⟩ := h.at_
  obtain ⟨ds, d1, d2⟩ := h2.dd
  obtain ⟨ns, z1, z2⟩ := h2.zz
  rintro k (rfl | rfl | rfl | ⟨d, hd, rfl⟩)
  · exact ⟨_, _, h1, by simp⟩
  · exact ⟨_, _, d1, by simp⟩
  · exact ⟨_, _, z1, by simp⟩
  · exact ⟨_, _, h2.ss d (by rw [← h2.n]; exact hd), by simp⟩
theorem NandAt.other (h : NandAt base w L st) : Other w L.mut := by
  intro b cur e fr hb hh
  obtain ⟨cur', e', h1, h2⟩ := h.types b hb
  rw [hh] at h1
  simp at h1
  obtain ⟨_, rfl, _⟩ := h1
  rcases h2 with rfl | rfl | rfl | rfl <;> decide
end
/-- A call's change of flash, seen by what was there before flash was. -/
theorem NandAt.old {base : Nat} {w w' w0 : World} {L : NLay} {st : Nd} (h : NandAt base w L st) (k0 : Kept w0 w) (hb : w0.heap.size ≤ base) (k : Chg L.mut w w') : Kept w0 w' :=
  k0.then k fun x hx hm => by have := h.lo x hm; omega
end Go.Proofs.Ytppfnkedbpmliaa
