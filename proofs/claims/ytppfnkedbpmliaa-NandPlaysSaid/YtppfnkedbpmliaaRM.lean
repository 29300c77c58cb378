/- What memory shows of the reference's flash (ramekinref7.Nand), and what stays so while other blocks change. -/
import Derived.Test.YtppfnkedbpmliaaNR
set_option linter.unusedVariables false
set_option linter.unusedSimpArgs false
namespace Go.Proofs.Ytppfnkedbpmliaa
open Go Go.Rk
open Go.RowKit (Below)

/-! ### Rows of several cells an element: a store -/
theorem flat_set_list {α : Type} {enc : α → List Value} {sz : Nat} (hE : ∀ x, (enc x).length = sz) {j : Nat} (hj : j < sz) {v : Value} {x' : α} : ∀ (xs : List α) (i : Nat) (hi : i < xs.length), enc x' = (enc xs[i]).set j v → (xs.flatMap enc).set (i * sz + j) v = (xs.set i x').flatMap enc
  | x :: xs, 0, hi, h => by
    simp only [List.flatMap_cons, Nat.zero_mul, Nat.zero_add, List.set_cons_zero, List.getElem_cons_zero] at h ⊢
    rw [List.set_append_left _ _ (by rw [hE]; exact hj), h]
  | x :: xs, i + 1, hi, h => by
    simp only [List.flatMap_cons, List.set_cons_succ, List.getElem_cons_succ] at h ⊢
    rw [List.set_append_right _ _ (by rw [hE, Nat.succ_mul]; omega), hE]
    have : (i + 1) * sz + j - sz = i * sz + j := by rw [Nat.succ_mul]; omega
    rw [this, flat_set_list hE hj xs i (by simpa using hi) h]
theorem map_set {α : Type} (n : Nat) (f : Nat → α) (i : Nat) (v : α) : ((List.range n).map f).set i v = (List.range n).map fun j => if j = i then v else f j := by
  apply List.ext_getElem
  · simp
  · intro j h1 h2
    rw [List.getElem_set]
    by_cases h : i = j
    · subst h; simp
    · have : ¬ j = i := fun e => h e.symm
      simp [h, this]
theorem _root_.Go.Rk.MineN.wrC {α : Type} {sz : Nat} {enc : α → List Value} {e : TypeId} {base : Nat} {w : World} {g cap : Nat} {xs : List α} (hE : ∀ x, (enc x).length = sz) (h : MineN sz enc e base w ⟨some ⟨g, 0, none⟩, xs.length, cap⟩ xs) {i j : Nat} (hi : i < xs.length) (hj : j < sz) {v : Value} {x' : α}
    (hx : enc x' = (enc xs[i]).set j v) {K : World → Prop} (k : ∀ W, MineN sz enc e base W ⟨some ⟨g, 0, none⟩, xs.length, cap⟩ (xs.set i x') → Chg (· = g) w W → K W) : wr w (((⟨g, 0, none⟩ : Addr).add (Int.toNat (i : Int) * sz)).add j) v K := by
  rw [addN, addN, Nat.zero_add, Int.toNat_natCast]
  have hlt : i * sz + j < xs.length * sz := by
    have := Nat.mul_le_mul_right sz (show i + 1 ≤ xs.length by omega)
    rw [Nat.succ_mul] at this
    omega
  have hs := World.ownsRow.stored h (i * sz + j) v
  have hc := World.ownsRow.cellAt h (i * sz + j) hlt
  have hf := World.ownsRow.frozenAt h (i * sz + j)
  refine ⟨⟨_, hc.trans (List.getElem?_eq_getElem (by rw [flat_len hE]; exact hlt))⟩, hf, k _ ?_ (Chg.of_grown hs.2 fun k hk => by cases hk; rfl)⟩
  have := hs.1
  rw [flat_set_list hE hj xs i hi hx] at this
  show World.ownsRow _ _ _ _ _ (xs.set i x').length _
  rw [List.length_set]
  exact this
/-- A row of the call's own, in a block: an element is written. -/
theorem _root_.Go.Rk.Mine.wrC {α : Type} {enc : α → Value} {e : TypeId} {base : Nat} {w : World} {g cap : Nat} {xs : List α} (h : Mine enc e base w ⟨some ⟨g, 0, none⟩, xs.length, cap⟩ xs) {i : Nat} (hi : i < xs.length) (x : α) {K : World → Prop}
    (k : ∀ W, Mine enc e base W ⟨some ⟨g, 0, none⟩, xs.length, cap⟩ (xs.set i x) → Chg (· = g) w W → K W) : wr w ((⟨g, 0, none⟩ : Addr).add (Int.toNat (i : Int) * 1)) (enc x) K := by
  obtain ⟨p1, p2, p3, p4, p5⟩ := h.put hi x (b := ⟨g, 0, none⟩) rfl
  exact ⟨p1, p2, k _ p3 (Chg.of_grown p5 fun k hk => by cases hk; rfl)⟩

theorem _root_.Go.Rk.Mine.cast {α : Type} {enc : α → Value} {e : TypeId} {base : Nat} {w : World} {s : Sl} {xs xs' : List α} (h : Mine enc e base w s xs) (he : xs' = xs) : Mine enc e base w s xs' := he ▸ h
theorem _root_.Go.Rk.MineN.cast {α : Type} {sz : Nat} {enc : α → List Value} {e : TypeId} {base : Nat} {w : World} {s : Sl} {xs xs' : List α} (h : MineN sz enc e base w s xs) (he : xs' = xs) : MineN sz enc e base w s xs' := he ▸ h
/-- Where the reference's flash stands: the struct, each die's blocks, each block's pages, each block's noise. -/
structure RLay where
  pn : Nat
  bs : Nat → Nat
  pp : Nat → Nat → Nat
  ll : Nat → Nat → Nat
  D : Nat
  B : Nat
def RLay.mut (R : RLay) (k : Nat) : Prop := k = R.pn ∨ (∃ d, d < R.D ∧ k = R.bs d) ∨ (∃ d b, d < R.D ∧ b < R.B ∧ k = R.pp d b) ∨ ∃ d b, d < R.D ∧ b < R.B ∧ k = R.ll d b
abbrev Bk := Sl × Int × Int × Bool
def eBk : Bk → List Value := fun x => [.slice x.1.a x.1.l x.1.c, .int .i64 x.2.1, .int .i64 x.2.2.1, .bool x.2.2.2]
theorem eBk_len (x : Bk) : (eBk x).length = 4 := rfl
theorem eBk_one (x : Bk) : ∀ v ∈ eBk x, v.oneCell' = true := by simp [eBk, Value.oneCell']
def refCells (so sl mk : Sl) (st : Nd) : List Value :=
  [.int .i64 st.g.1, .int .i64 st.g.2.1, .int .i64 st.g.2.2.1, .slice so.a so.l so.c, .slice sl.a sl.l sl.c, .int .i64 st.stop, .slice mk.a mk.l mk.c, .bool st.dead, .int .i64 st.ops, .int .i64 st.wrong]
/-- The blocks. -/
structure RB (base : Nat) (w : World) (R : RLay) (so : Sl) (st : Nd) (cr : Nat → Nat) (cp : Nat → Nat → Nat) (ds : Nat → Nat → Nat → Sl) : Prop where
  out : Mine eS 120 base w so ((List.range R.D).map fun d => ⟨some ⟨R.bs d, 0, none⟩, R.B, cr d⟩)
  row : ∀ d, d < R.D → MineN 4 eBk 123 base w ⟨some ⟨R.bs d, 0, none⟩, R.B, cr d⟩ ((List.range R.B).map fun b => (⟨some ⟨R.pp d b, 0, none⟩, st.g.2.2.1.toNat, cp d b⟩, st.next d b, st.era d b, st.bad d b))
  pag : ∀ d b, d < R.D → b < R.B → Mine eS 22 base w ⟨some ⟨R.pp d b, 0, none⟩, st.g.2.2.1.toNat, cp d b⟩ ((List.range st.g.2.2.1.toNat).map (ds d b))
  dat : ∀ d b p, d < R.D → b < R.B → p < st.g.2.2.1.toNat → Mine eB 5 base w (ds d b p) (st.data d b p)
/-- The noise. -/
structure RN' (base : Nat) (w : World) (R : RLay) (sl : Sl) (st : Nd) (rs : Nat → Sl) (cl : Nat → Nat → Nat) (ns : Nat → Nat → Nat → Sl) : Prop where
  out : Mine eS 121 base w sl ((List.range R.D).map rs)
  row : ∀ d, d < R.D → Mine eS 35 base w (rs d) ((List.range R.B).map fun b => ⟨some ⟨R.ll d b, 0, none⟩, st.g.2.2.1.toNat, cl d b⟩)
  pag : ∀ d b, d < R.D → b < R.B → Mine eS 23 base w ⟨some ⟨R.ll d b, 0, none⟩, st.g.2.2.1.toNat, cl d b⟩ ((List.range st.g.2.2.1.toNat).map (ns d b))
  dat : ∀ d b p, d < R.D → b < R.B → p < st.g.2.2.1.toNat → Mine eI 3 base w (ns d b p) (st.noise d b p)
structure RRest (base : Nat) (w : World) (R : RLay) (so sl mk : Sl) (ms : List Byt) (st : Nd) : Prop where
  dims : R.D = st.g.1.toNat ∧ R.B = st.g.2.1.toNat
  lo : ∀ k, R.mut k → base ≤ k
  bb : ∃ cr cp ds, RB base w R so st cr cp ds
  nz : ∃ rs cl ns, RN' base w R sl st rs cl ns
  ib : ∀ d d', d < R.D → d' < R.D → R.bs d = R.bs d' → d = d'
  ip : ∀ d b d' b', d < R.D → b < R.B → d' < R.D → b' < R.B → R.pp d b = R.pp d' b' → d = d' ∧ b = b'
  il : ∀ d b d' b', d < R.D → b < R.B → d' < R.D → b' < R.B → R.ll d b = R.ll d' b' → d = d' ∧ b = b'
  mm : Mine eB 5 base w mk ms
  ml : ms.length ≤ 1000000000 ∧ (1 ≤ st.stop → ms = st.mask)
structure RefAt (base : Nat) (w : World) (R : RLay) (st : Nd) : Prop where
  ok : Nd.Ok st
  at_ : ∃ so sl mk ms, Blk w R.pn 119 (refCells so sl mk st) ∧ RRest base w R so sl mk ms st
section
variable {base : Nat} {w w' : World} {R : RLay} {so sl mk : Sl} {ms : List Byt} {st : Nd} {F : Nat → Prop}
/-- No block of bytes, of whole numbers, of the outer slices is among these. -/
def OtherR (w : World) (F : Nat → Prop) : Prop := ∀ b cur e fr, F b → w.heap[b]? = some (.cells cur e fr) → e ≠ 5 ∧ e ≠ 3 ∧ e ≠ 120 ∧ e ≠ 121 ∧ e ≠ 35
theorem OtherR.mine {α : Type} {enc : α → Value} {e : TypeId} {s : Sl} {xs : List α} (h : OtherR w F) (m : Mine enc e base w s xs) (he : e = 5 ∨ e = 3 ∨ e = 120 ∨ e = 121 ∨ e = 35) : ∀ b, s.a = some b → ¬ F b.block := by
  intro b hb hf
  rcases m.forms with ⟨rfl, _⟩ | ⟨g, cap, cur, rfl, _, h2, _⟩
  · simp at hb
  · simp at hb
    subst hb
    obtain ⟨a1, a2, a3, a4, a5⟩ := h _ _ _ _ hf h2
    rcases he with rfl | rfl | rfl | rfl | rfl
    · exact a1 rfl
    · exact a2 rfl
    · exact a3 rfl
    · exact a4 rfl
    · exact a5 rfl
/-- Blocks change that are none of the rest's. -/
theorem RRest.chg (h : RRest base w R so sl mk ms st) (k : Chg F w w') (h1 : ∀ d, d < R.D → ¬ F (R.bs d)) (h2 : ∀ d b, d < R.D → b < R.B → ¬ F (R.pp d b)) (h3 : ∀ d b, d < R.D → b < R.B → ¬ F (R.ll d b)) (hO : OtherR w F) : RRest base w' R so sl mk ms st := by
  obtain ⟨cr, cp, ds, b1, b2, b3, b4⟩ := h.bb
  obtain ⟨rs, cl, ns, n1, n2, n3, n4⟩ := h.nz
  refine ⟨h.dims, h.lo, ⟨cr, cp, ds, b1.chg k (hO.mine b1 (by simp)), fun d hd => (b2 d hd).chg k fun b hb => ?_, fun d b hd hb => (b3 d b hd hb).chg k fun b' hb' => ?_, fun d b p hd hb hp => (b4 d b p hd hb hp).chg k (hO.mine (b4 d b p hd hb hp) (by simp))⟩,
    ⟨rs, cl, ns, n1.chg k (hO.mine n1 (by simp)), fun d hd => (n2 d hd).chg k (hO.mine (n2 d hd) (by simp)), fun d b hd hb => (n3 d b hd hb).chg k fun b' hb' => ?_, fun d b p hd hb hp => (n4 d b p hd hb hp).chg k (hO.mine (n4 d b p hd hb hp) (by simp))⟩, h.ib, h.ip, h.il, h.mm.chg k (hO.mine h.mm (by simp)), h.ml⟩
  · cases hb; exact h1 d hd
  · cases hb'; exact h2 d b hd hb
  · cases hb'; exact h3 d b hd hb
theorem RRest.kept (h : RRest base w R so sl mk ms st) (k : Kept w w') : RRest base w' R so sl mk ms st :=
  h.chg (F := fun _ => False) (Kept.chg k) (fun _ _ => id) (fun _ _ _ _ => id) (fun _ _ _ _ => id) fun _ _ _ _ hf => hf.elim
/-- Fields of the struct alone do not count. -/
theorem RRest.same (h : RRest base w R so sl mk ms st) {st' : Nd} (h1 : st'.g = st.g) (h2 : st'.data = st.data) (h3 : st'.noise = st.noise) (h4 : st'.next = st.next) (h5 : st'.era = st.era) (h6 : st'.bad = st.bad) (h7 : ms.length ≤ 1000000000 ∧ (1 ≤ st'.stop → ms = st'.mask)) : RRest base w R so sl mk ms st' := by
  obtain ⟨cr, cp, ds, b1, b2, b3, b4⟩ := h.bb
  obtain ⟨rs, cl, ns, n1, n2, n3, n4⟩ := h.nz
  exact ⟨by rw [h1]; exact h.dims, h.lo, ⟨cr, cp, ds, b1, by rw [h1, h4, h5, h6]; exact b2, by rw [h1]; exact b3, by rw [h1, h2]; exact b4⟩, ⟨rs, cl, ns, n1, by rw [h1]; exact n2, by rw [h1]; exact n3, by rw [h1, h3]; exact n4⟩, h.ib, h.ip, h.il, h.mm, h7⟩
theorem RefAt.kept (h : RefAt base w R st) (k : Kept w w') : RefAt base w' R st := by
  obtain ⟨so, sl, mk, ms, h1, h2⟩ := h.at_
  exact ⟨h.ok, so, sl, mk, ms, h1.kept k, h2.kept k⟩
theorem RefAt.chg (h : RefAt base w R st) (k : Chg F w w') (hF : ∀ b, F b → ¬ R.mut b) (hO : OtherR w F) : RefAt base w' R st := by
  obtain ⟨so, sl, mk, ms, h1, h2⟩ := h.at_
  exact ⟨h.ok, so, sl, mk, ms, h1.chg k fun hf => hF _ hf (.inl rfl), h2.chg k (fun d hd hf => hF _ hf (.inr (.inl ⟨d, hd, rfl⟩))) (fun d b hd hb hf => hF _ hf (.inr (.inr (.inl ⟨d, b, hd, hb, rfl⟩)))) (fun d b hd hb hf => hF _ hf (.inr (.inr (.inr ⟨d, b, hd, hb, rfl⟩)))) hO⟩
theorem MineN.cells_at {α : Type} {sz : Nat} {enc : α → List Value} {e : TypeId} {s : Sl} {xs : List α} (h : MineN sz enc e base w s xs) {g n c : Nat} (hs : s = ⟨some ⟨g, 0, none⟩, n, c⟩) : ∃ cur, w.heap[g]? = some (.cells cur e (0, 0)) := by
  subst hs
  rcases h.forms with ⟨h1, _⟩ | ⟨g', cap, cur, h1, _, h2, _⟩
  · cases h1
  · cases h1; exact ⟨cur, h2⟩
theorem Mine.cells_at {α : Type} {enc : α → Value} {e : TypeId} {s : Sl} {xs : List α} (h : Mine enc e base w s xs) {g n c : Nat} (hs : s = ⟨some ⟨g, 0, none⟩, n, c⟩) : ∃ cur, w.heap[g]? = some (.cells cur e (0, 0)) := by
  subst hs
  rcases h.forms with ⟨h1, _⟩ | ⟨g', cap, cur, h1, _, h2, _⟩
  · cases h1
  · cases h1; exact ⟨cur, h2⟩
/-- What the blocks that calls change are of. -/
theorem RefAt.types (h : RefAt base w R st) : ∀ k, R.mut k → ∃ cur e, w.heap[k]? = some (.cells cur e (0, 0)) ∧ (e = 119 ∨ e = 123 ∨ e = 22 ∨ e = 23) := by
  obtain ⟨so, sl, mk, ms, h1, h2⟩ := h.at_
  obtain ⟨cr, cp, ds, b1, b2, b3, b4⟩ := h2.bb
  obtain ⟨rs, cl, ns, n1, n2, n3, n4⟩ := h2.nz
  rintro k (rfl | ⟨d, hd, rfl⟩ | ⟨d, b, hd, hb, rfl⟩ | ⟨d, b, hd, hb, rfl⟩)
  · exact ⟨_, _, h1, by simp⟩
  · obtain ⟨cur, hc⟩ := MineN.cells_at (b2 d hd) rfl
    exact ⟨_, _, hc, by simp⟩
  · obtain ⟨cur, hc⟩ := Mine.cells_at (b3 d b hd hb) rfl
    exact ⟨_, _, hc, by simp⟩
  · obtain ⟨cur, hc⟩ := Mine.cells_at (n3 d b hd hb) rfl
    exact ⟨_, _, hc, by simp⟩
theorem RefAt.lt (h : RefAt base w R st) : ∀ k, R.mut k → k < w.heap.size := fun k hk => by
  obtain ⟨cur, e, h1, _⟩ := h.types k hk
  exact heap_lt h1
theorem RefAt.lo (h : RefAt base w R st) : ∀ k, R.mut k → base ≤ k := by
  obtain ⟨so, sl, mk, ms, h1, h2⟩ := h.at_
  exact h2.lo
theorem RefAt.other (h : RefAt base w R st) : Other w R.mut := by
  intro b cur e fr hb hh
  obtain ⟨cur', e', h1, h2⟩ := h.types b hb
  rw [hh] at h1
  simp at h1
  obtain ⟨_, rfl, _⟩ := h1
  rcases h2 with rfl | rfl | rfl | rfl <;> decide
theorem NandAt.otherR {L : NLay} (h : NandAt base w L st) : OtherR w L.mut := by
  intro b cur e fr hb hh
  obtain ⟨cur', e', h1, h2⟩ := h.types b hb
  rw [hh] at h1
  simp at h1
  obtain ⟨_, rfl, _⟩ := h1
  rcases h2 with rfl | rfl | rfl | rfl <;> decide
/-- Blocks of one type, that is none of the rest's but of one family. -/
theorem OtherR.one {b : Nat} {cur : Array Value} {e : TypeId} {fr : Nat × Nat} (h : w.heap[b]? = some (.cells cur e fr)) (he : e ≠ 5 ∧ e ≠ 3 ∧ e ≠ 120 ∧ e ≠ 121 ∧ e ≠ 35) : OtherR w (· = b) := by
  rintro b' cur' e' fr' rfl hh
  have := h.symm.trans hh
  simp at this
  obtain ⟨_, rfl, _⟩ := this
  exact he
theorem heap_ne {b b' : Nat} {cur cur' : Array Value} {e e' : TypeId} {fr fr' : Nat × Nat} (h : w.heap[b]? = some (.cells cur e fr)) (h' : w.heap[b']? = some (.cells cur' e' fr')) (hne : e ≠ e') : ¬ b = b' := by
  rintro rfl
  have := h.symm.trans h'
  simp at this
  exact hne this.2.1
/-- The struct's own block changes. -/
theorem RRest.own (h : RRest base w R so sl mk ms st) {cs : List Value} (hb : Blk w R.pn 119 cs) (k : Chg (· = R.pn) w w') : RRest base w' R so sl mk ms st := by
  obtain ⟨cr, cp, ds, b1, b2, b3, b4⟩ := h.bb
  obtain ⟨rs, cl, ns, n1, n2, n3, n4⟩ := h.nz
  refine h.chg k (fun d hd => ?_) (fun d b hd hb' => ?_) (fun d b hd hb' => ?_) (OtherR.one hb (by decide))
  · obtain ⟨cur, hc⟩ := MineN.cells_at (b2 d hd) rfl
    exact heap_ne hc hb (by decide)
  · obtain ⟨cur, hc⟩ := Mine.cells_at (b3 d b hd hb') rfl
    exact heap_ne hc hb (by decide)
  · obtain ⟨cur, hc⟩ := Mine.cells_at (n3 d b hd hb') rfl
    exact heap_ne hc hb (by decide)
/-- A die's blocks are asked for. -/
theorem RRest.dieS (h : RRest base w R so sl mk ms st) (hb : Blk w R.pn 119 (refCells so sl mk st)) {d : Nat} (hd : d < R.D) {K : Sl → Prop} (k : ∀ c, K ⟨some ⟨R.bs d, 0, none⟩, R.B, c⟩) :
    nn (some ⟨R.pn, 0, none⟩) fun p => rdS w (p.add 3) fun s => ix s.a s.l (d : Int) fun q => rdS w (q.add ((d : Int).toNat * 1)) K := by
  obtain ⟨cr, cp, ds, b1, b2, b3, b4⟩ := h.bb
  refine ⟨_, rfl, rdS_of (s := so) (hb.ad 3 rfl) (b1.row.ix (i := d) (by simpa using hd) fun q hq hc => rdS_of (s := ⟨some ⟨R.bs d, 0, none⟩, R.B, cr d⟩) (by simpa using hc) (k _))⟩
/-- What a block's struct says: its pages' slice, its next page, how often it was erased, whether it is bad. -/
theorem RRest.blkAt (h : RRest base w R so sl mk ms st) {d b : Nat} (hd : d < R.D) (hb : b < R.B) : ∃ c, ∀ j, j < 4 → w.cell? (((⟨R.bs d, 0, none⟩ : Addr).add (Int.toNat (b : Int) * 4)).add j) = (eBk (⟨some ⟨R.pp d b, 0, none⟩, st.g.2.2.1.toNat, c⟩, st.next d b, st.era d b, st.bad d b))[j]? := by
  obtain ⟨cr, cp, ds, b1, b2, b3, b4⟩ := h.bb
  refine ⟨cp d b, fun j hj => ?_⟩
  obtain ⟨q, hq, hc⟩ := ((b2 d hd).row eBk_len).2.2 b (by simpa using hb)
  cases hq
  rw [Int.toNat_natCast, hc j hj]
  simp
theorem RRest.nextAt (h : RRest base w R so sl mk ms st) {d b : Nat} (hd : d < R.D) (hb : b < R.B) : w.cell? (((⟨R.bs d, 0, none⟩ : Addr).add (Int.toNat (b : Int) * 4)).add 1) = some (.int .i64 (st.next d b)) := by
  obtain ⟨c, hc⟩ := h.blkAt hd hb
  exact hc 1 (by omega)
theorem RRest.eraAt (h : RRest base w R so sl mk ms st) {d b : Nat} (hd : d < R.D) (hb : b < R.B) : w.cell? (((⟨R.bs d, 0, none⟩ : Addr).add (Int.toNat (b : Int) * 4)).add 2) = some (.int .i64 (st.era d b)) := by
  obtain ⟨c, hc⟩ := h.blkAt hd hb
  exact hc 2 (by omega)
theorem RRest.badAt (h : RRest base w R so sl mk ms st) {d b : Nat} (hd : d < R.D) (hb : b < R.B) : w.cell? (((⟨R.bs d, 0, none⟩ : Addr).add (Int.toNat (b : Int) * 4)).add 3) = some (.bool (st.bad d b)) := by
  obtain ⟨c, hc⟩ := h.blkAt hd hb
  exact hc 3 (by omega)
/-- A block's pages. -/
theorem RRest.pagAt (h : RRest base w R so sl mk ms st) {d b : Nat} (hd : d < R.D) (hb : b < R.B) : ∃ s : Sl, w.cell? ((⟨R.bs d, 0, none⟩ : Addr).add (Int.toNat (b : Int) * 4)) = some s.v ∧ (∃ c, s = ⟨some ⟨R.pp d b, 0, none⟩, st.g.2.2.1.toNat, c⟩) ∧
    ∀ p : Nat, p < st.g.2.2.1.toNat → ∃ t : Sl, w.cell? ((⟨R.pp d b, 0, none⟩ : Addr).add (Int.toNat (p : Int) * 1)) = some t.v ∧ Mine eB 5 base w t (st.data d b p) := by
  obtain ⟨cr, cp, ds, b1, b2, b3, b4⟩ := h.bb
  refine ⟨⟨some ⟨R.pp d b, 0, none⟩, st.g.2.2.1.toNat, cp d b⟩, ?_, ⟨_, rfl⟩, fun p hp => ⟨ds d b p, ?_, b4 d b p hd hb hp⟩⟩
  · obtain ⟨q, hq, hc⟩ := ((b2 d hd).row eBk_len).2.2 b (by simpa using hb)
    cases hq
    have := hc 0 (by omega)
    have e : ∀ a : Addr, a.add 0 = a := fun a => by simp [Addr.add]
    rw [e] at this
    rw [Int.toNat_natCast, this]
    simp [eBk]
  · obtain ⟨q, hq, hc⟩ := (b3 d b hd hb).row.2.2 p (by simpa using hp)
    cases hq
    rw [Int.toNat_natCast, Nat.mul_one, hc]
    simp [eS]
/-- A block's noise. -/
theorem RRest.noiS (h : RRest base w R so sl mk ms st) (hb : Blk w R.pn 119 (refCells so sl mk st)) {d b : Nat} (hd : d < R.D) (hbb : b < R.B) {K : Sl → Prop} (k : ∀ c, K ⟨some ⟨R.ll d b, 0, none⟩, st.g.2.2.1.toNat, c⟩) :
    nn (some ⟨R.pn, 0, none⟩) fun p => rdS w (p.add 4) fun s => ix s.a s.l (d : Int) fun q => rdS w (q.add ((d : Int).toNat * 1)) fun t => ix t.a t.l (b : Int) fun q2 => rdS w (q2.add ((b : Int).toNat * 1)) K := by
  obtain ⟨rs, cl, ns, n1, n2, n3, n4⟩ := h.nz
  refine ⟨_, rfl, rdS_of (s := sl) (hb.ad 4 rfl) (n1.row.ix (i := d) (by simpa using hd) fun q hq hc => rdS_of (s := rs d) (by simpa using hc) ((n2 d hd).row.ix (i := b) (by simpa using hbb) fun q2 hq2 hc2 => rdS_of (s := ⟨some ⟨R.ll d b, 0, none⟩, st.g.2.2.1.toNat, cl d b⟩) (by simpa using hc2) (k _)))⟩
theorem RRest.noiAt (h : RRest base w R so sl mk ms st) {d b p : Nat} (hd : d < R.D) (hb : b < R.B) (hp : p < st.g.2.2.1.toNat) : ∃ t : Sl, w.cell? ((⟨R.ll d b, 0, none⟩ : Addr).add (Int.toNat (p : Int) * 1)) = some t.v ∧ Mine eI 3 base w t (st.noise d b p) := by
  obtain ⟨rs, cl, ns, n1, n2, n3, n4⟩ := h.nz
  refine ⟨ns d b p, ?_, n4 d b p hd hb hp⟩
  obtain ⟨q, hq, hc⟩ := (n3 d b hd hb).row.2.2 p (by simpa using hp)
  cases hq
  rw [Int.toNat_natCast, Nat.mul_one, hc]
  simp [eS]
/-! ### Stores -/
/-- A block's struct: its numbers. -/
theorem RRest.wrBlk (h : RRest base w R so sl mk ms st) {d b j : Nat} (hd : d < R.D) (hb : b < R.B) (hj : j < 4) (hj0 : 0 < j) {v : Value} {st' : Nd} (h1 : st'.g = st.g) (h2 : st'.data = st.data) (h3 : st'.noise = st.noise) (h4 : st'.mask = st.mask) (h5 : st'.stop = st.stop)
    (hc : ∀ d' k s, eBk (s, st'.next d' k, st'.era d' k, st'.bad d' k) = if d' = d ∧ k = b then (eBk (s, st.next d b, st.era d b, st.bad d b)).set j v else eBk (s, st.next d' k, st.era d' k, st.bad d' k)) {K : World → Prop} (k : ∀ W, RRest base W R so sl mk ms st' → Chg (· = R.bs d) w W → K W) :
    wr w (((⟨R.bs d, 0, none⟩ : Addr).add (Int.toNat (b : Int) * 4)).add j) v K := by
  obtain ⟨cr, cp, ds, b1, b2, b3, b4⟩ := h.bb
  obtain ⟨rs, cl, ns, n1, n2, n3, n4⟩ := h.nz
  have eq_of : ∀ (x y : Bk), eBk x = eBk y → x = y := by
    rintro ⟨⟨a1, a2, a3⟩, a4, a5, a6⟩ ⟨⟨c1, c2, c3⟩, c4, c5, c6⟩ he
    simp [eBk] at he
    obtain ⟨⟨rfl, rfl, rfl⟩, rfl, rfl, rfl⟩ := he
    rfl
  have m := b2 d hd
  have hl : ((List.range R.B).map fun b => ((⟨some ⟨R.pp d b, 0, none⟩, st.g.2.2.1.toNat, cp d b⟩, st.next d b, st.era d b, st.bad d b) : Bk)).length = R.B := by simp
  have m' : MineN 4 eBk 123 base w ⟨some ⟨R.bs d, 0, none⟩, ((List.range R.B).map fun b => ((⟨some ⟨R.pp d b, 0, none⟩, st.g.2.2.1.toNat, cp d b⟩, st.next d b, st.era d b, st.bad d b) : Bk)).length, cr d⟩ ((List.range R.B).map fun b => (⟨some ⟨R.pp d b, 0, none⟩, st.g.2.2.1.toNat, cp d b⟩, st.next d b, st.era d b, st.bad d b)) := by rw [hl]; exact m
  obtain ⟨cur, hcur⟩ := MineN.cells_at m rfl
  refine m'.wrC eBk_len (i := b) (j := j) (by simpa using hb) hj (x' := (⟨some ⟨R.pp d b, 0, none⟩, st.g.2.2.1.toNat, cp d b⟩, st'.next d b, st'.era d b, st'.bad d b)) ?_ fun W m2 c => k W ?_ c
  · rw [hc]; simp
  have hO := OtherR.one hcur (by decide)
  have hd2 : ∀ d', d' < R.D → d' ≠ d → ¬ R.bs d' = R.bs d := fun d' hd' hne he => hne (h.ib d' d hd' hd he)
  refine ⟨by rw [h1]; exact h.dims, h.lo, ⟨cr, cp, ds, b1.chg c (hO.mine b1 (by simp)), fun d' hd' => ?_, fun d' b' hd' hb' => ?_, fun d' b' p hd' hb' hp => ?_⟩,
    ⟨rs, cl, ns, n1.chg c (hO.mine n1 (by simp)), fun d' hd' => ?_, fun d' b' hd' hb' => ?_, fun d' b' p hd' hb' hp => ?_⟩, h.ib, h.ip, h.il, h.mm.chg c (hO.mine h.mm (by simp)), by rw [h4, h5]; exact h.ml⟩
  · rw [h1]
    by_cases he : d' = d
    · subst he
      rw [map_set, hl] at m2
      refine m2.cast (List.map_congr_left fun k _ => ?_)
      by_cases hk : k = b
      · subst hk; simp
      · rw [if_neg hk]
        have := hc d' k ⟨some ⟨R.pp d' k, 0, none⟩, st.g.2.2.1.toNat, cp d' k⟩
        rw [if_neg (by simp [hk])] at this
        exact eq_of _ _ this
    · have m3 := (b2 d' hd').chg c fun b hb => by cases hb; exact hd2 d' hd' he
      refine m3.cast (List.map_congr_left fun k _ => ?_)
      have := hc d' k ⟨some ⟨R.pp d' k, 0, none⟩, st.g.2.2.1.toNat, cp d' k⟩
      rw [if_neg (by simp [he])] at this
      exact eq_of _ _ this
  · rw [h1]
    refine (b3 d' b' hd' hb').chg c fun b2 hb2 => ?_
    cases hb2
    obtain ⟨cur', hc'⟩ := Mine.cells_at (b3 d' b' hd' hb') rfl
    exact heap_ne hc' hcur (by decide)
  · rw [h1] at hp
    rw [h2]
    exact (b4 d' b' p hd' hb' hp).chg c (hO.mine (b4 d' b' p hd' hb' hp) (by simp))
  · rw [h1]
    exact (n2 d' hd').chg c (hO.mine (n2 d' hd') (by simp))
  · rw [h1]
    refine (n3 d' b' hd' hb').chg c fun b2 hb2 => ?_
    cases hb2
    obtain ⟨cur', hc'⟩ := Mine.cells_at (n3 d' b' hd' hb') rfl
    exact heap_ne hc' hcur (by decide)
  · rw [h1] at hp
    rw [h3]
    exact (n4 d' b' p hd' hb' hp).chg c (hO.mine (n4 d' b' p hd' hb' hp) (by simp))
/-- A page's bytes. -/
theorem RRest.wrPag (h : RRest base w R so sl mk ms st) {d b p : Nat} (hd : d < R.D) (hb : b < R.B) (hp : p < st.g.2.2.1.toNat) {s : Sl} {bs : List Byt} (m : Mine eB 5 base w s bs) {K : World → Prop}
    (k : ∀ W, RRest base W R so sl mk ms { st with data := upd3 st.data d b p bs } → Chg (· = R.pp d b) w W → K W) : wr w ((⟨R.pp d b, 0, none⟩ : Addr).add (Int.toNat (p : Int) * 1)) (.slice s.a s.l s.c) K := by
  obtain ⟨cr, cp, ds, b1, b2, b3, b4⟩ := h.bb
  obtain ⟨rs, cl, ns, n1, n2, n3, n4⟩ := h.nz
  have m0 := b3 d b hd hb
  have hl : ((List.range st.g.2.2.1.toNat).map (ds d b)).length = st.g.2.2.1.toNat := by simp
  have m' : Mine eS 22 base w ⟨some ⟨R.pp d b, 0, none⟩, ((List.range st.g.2.2.1.toNat).map (ds d b)).length, cp d b⟩ ((List.range st.g.2.2.1.toNat).map (ds d b)) := by rw [hl]; exact m0
  obtain ⟨cur, hcur⟩ := Mine.cells_at m0 rfl
  have hO := OtherR.one hcur (by decide)
  refine m'.wrC (i := p) (by simpa using hp) s fun W m2 c => k W ?_ c
  refine ⟨h.dims, h.lo, ⟨cr, cp, upd3 ds d b p s, b1.chg c (hO.mine b1 (by simp)), fun d' hd' => ?_, fun d' b' hd' hb' => ?_, fun d' b' p' hd' hb' hp' => ?_⟩,
    ⟨rs, cl, ns, n1.chg c (hO.mine n1 (by simp)), fun d' hd' => (n2 d' hd').chg c (hO.mine (n2 d' hd') (by simp)), fun d' b' hd' hb' => ?_, fun d' b' p' hd' hb' hp' => (n4 d' b' p' hd' hb' hp').chg c (hO.mine (n4 d' b' p' hd' hb' hp') (by simp))⟩, h.ib, h.ip, h.il, h.mm.chg c (hO.mine h.mm (by simp)), h.ml⟩
  · refine (b2 d' hd').chg c fun b2' hb2 => ?_
    cases hb2
    obtain ⟨cur', hc'⟩ := MineN.cells_at (b2 d' hd') rfl
    exact heap_ne hc' hcur (by decide)
  · by_cases he : d' = d ∧ b' = b
    · obtain ⟨rfl, rfl⟩ := he
      rw [map_set, hl] at m2
      refine m2.cast (List.map_congr_left fun k _ => ?_)
      by_cases hk : k = p
      · subst hk; simp [upd3]
      · simp [upd3, hk]
    · have e : (List.range st.g.2.2.1.toNat).map (upd3 ds d b p s d' b') = (List.range st.g.2.2.1.toNat).map (ds d' b') := List.map_congr_left fun k _ => by simp only [upd3]; rw [if_neg fun h => he ⟨h.1, h.2.1⟩]
      show Mine eS 22 base W _ ((List.range st.g.2.2.1.toNat).map (upd3 ds d b p s d' b'))
      rw [e]
      exact (b3 d' b' hd' hb').chg c fun b2' hb2 => by cases hb2; exact fun hh => he (h.ip d' b' d b hd' hb' hd hb hh)
  · show Mine eB 5 base W (upd3 ds d b p s d' b' p') (upd3 st.data d b p bs d' b' p')
    simp only [upd3]
    split
    · exact m.chg c (hO.mine m (by simp))
    · exact (b4 d' b' p' hd' hb' hp').chg c (hO.mine (b4 d' b' p' hd' hb' hp') (by simp))
  · refine (n3 d' b' hd' hb').chg c fun b2' hb2 => ?_
    cases hb2
    obtain ⟨cur', hc'⟩ := Mine.cells_at (n3 d' b' hd' hb') rfl
    exact heap_ne hc' hcur (by decide)
/-- A page's noise. -/
theorem RRest.wrNoi (h : RRest base w R so sl mk ms st) {d b p : Nat} (hd : d < R.D) (hb : b < R.B) (hp : p < st.g.2.2.1.toNat) {s : Sl} {zs : List Int} (m : Mine eI 3 base w s zs) {K : World → Prop}
    (k : ∀ W, RRest base W R so sl mk ms { st with noise := upd3 st.noise d b p zs } → Chg (· = R.ll d b) w W → K W) : wr w ((⟨R.ll d b, 0, none⟩ : Addr).add (Int.toNat (p : Int) * 1)) (.slice s.a s.l s.c) K := by
  obtain ⟨cr, cp, ds, b1, b2, b3, b4⟩ := h.bb
  obtain ⟨rs, cl, ns, n1, n2, n3, n4⟩ := h.nz
  have m0 := n3 d b hd hb
  have hl : ((List.range st.g.2.2.1.toNat).map (ns d b)).length = st.g.2.2.1.toNat := by simp
  have m' : Mine eS 23 base w ⟨some ⟨R.ll d b, 0, none⟩, ((List.range st.g.2.2.1.toNat).map (ns d b)).length, cl d b⟩ ((List.range st.g.2.2.1.toNat).map (ns d b)) := by rw [hl]; exact m0
  obtain ⟨cur, hcur⟩ := Mine.cells_at m0 rfl
  have hO := OtherR.one hcur (by decide)
  refine m'.wrC (i := p) (by simpa using hp) s fun W m2 c => k W ?_ c
  refine ⟨h.dims, h.lo, ⟨cr, cp, ds, b1.chg c (hO.mine b1 (by simp)), fun d' hd' => ?_, fun d' b' hd' hb' => ?_, fun d' b' p' hd' hb' hp' => (b4 d' b' p' hd' hb' hp').chg c (hO.mine (b4 d' b' p' hd' hb' hp') (by simp))⟩,
    ⟨rs, cl, upd3 ns d b p s, n1.chg c (hO.mine n1 (by simp)), fun d' hd' => (n2 d' hd').chg c (hO.mine (n2 d' hd') (by simp)), fun d' b' hd' hb' => ?_, fun d' b' p' hd' hb' hp' => ?_⟩, h.ib, h.ip, h.il, h.mm.chg c (hO.mine h.mm (by simp)), h.ml⟩
  · refine (b2 d' hd').chg c fun b2' hb2 => ?_
    cases hb2
    obtain ⟨cur', hc'⟩ := MineN.cells_at (b2 d' hd') rfl
    exact heap_ne hc' hcur (by decide)
  · refine (b3 d' b' hd' hb').chg c fun b2' hb2 => ?_
    cases hb2
    obtain ⟨cur', hc'⟩ := Mine.cells_at (b3 d' b' hd' hb') rfl
    exact heap_ne hc' hcur (by decide)
  · by_cases he : d' = d ∧ b' = b
    · obtain ⟨rfl, rfl⟩ := he
      rw [map_set, hl] at m2
      refine m2.cast (List.map_congr_left fun k _ => ?_)
      by_cases hk : k = p
      · subst hk; simp [upd3]
      · simp [upd3, hk]
    · have e : (List.range st.g.2.2.1.toNat).map (upd3 ns d b p s d' b') = (List.range st.g.2.2.1.toNat).map (ns d' b') := List.map_congr_left fun k _ => by simp only [upd3]; rw [if_neg fun h => he ⟨h.1, h.2.1⟩]
      show Mine eS 23 base W _ ((List.range st.g.2.2.1.toNat).map (upd3 ns d b p s d' b'))
      rw [e]
      exact (n3 d' b' hd' hb').chg c fun b2' hb2 => by cases hb2; exact fun hh => he (h.il d' b' d b hd' hb' hd hb hh)
  · show Mine eI 3 base W (upd3 ns d b p s d' b' p') (upd3 st.noise d b p zs d' b' p')
    simp only [upd3]
    split
    · exact m.chg c (hO.mine m (by simp))
    · exact (n4 d' b' p' hd' hb' hp').chg c (hO.mine (n4 d' b' p' hd' hb' hp') (by simp))
end
end Go.Proofs.Ytppfnkedbpmliaa
