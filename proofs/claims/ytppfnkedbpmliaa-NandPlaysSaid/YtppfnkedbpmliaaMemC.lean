/- Nothing is proved of the program here: worlds of which some blocks have changed; rows whose elements are several cells each; structs in a block. -/
import Derived.Test.YtppfnkedbpmliaaMemB
set_option linter.unusedVariables false
set_option linter.unusedSimpArgs false
namespace Go.Rk
open Go
open Go.RowKit (Below)

/-! ### Worlds of which some blocks have changed -/
/-- Blocks of F may have changed; all others that were there are as they were. -/
structure Chg (F : Nat → Prop) (w w' : World) : Prop where
  os : w'.os = w.os
  tape : w'.tape = w.tape
  output : w'.output = w.output
  size : w.heap.size ≤ w'.heap.size
  block : ∀ k, k < w.heap.size → ¬ F k → w'.heap[k]? = w.heap[k]?
section
variable {F G : Nat → Prop} {a b c w w' : World}
theorem Chg.refl (F : Nat → Prop) (w : World) : Chg F w w := ⟨rfl, rfl, rfl, Nat.le_refl _, fun _ _ _ => rfl⟩
theorem Chg.trans (h : Chg F a b) (k : Chg F b c) : Chg F a c :=
  ⟨k.os.trans h.os, k.tape.trans h.tape, k.output.trans h.output, Nat.le_trans h.size k.size, fun i hi hn => (k.block i (Nat.lt_of_lt_of_le hi h.size) hn).trans (h.block i hi hn)⟩
theorem Chg.mono (h : Chg F a b) (hF : ∀ k, k < a.heap.size → F k → G k) : Chg G a b :=
  ⟨h.os, h.tape, h.output, h.size, fun k hk hn => h.block k hk fun hf => hn (hF k hk hf)⟩
theorem Kept.chg (h : Kept a b) : Chg F a b := ⟨h.os, h.tape, h.output, h.size, fun k hk _ => h.block k hk⟩
theorem Chg.kept (h : Chg F a b) (hF : ∀ k, k < a.heap.size → ¬ F k) : Kept a b := ⟨h.os, h.tape, h.output, h.size, fun k hk => h.block k hk (hF k hk)⟩
theorem Chg.keep (h : Chg F a b) (k : Kept b c) : Chg F a c := h.trans (Kept.chg k)
/-- Kept, then changed in blocks that are new. -/
theorem Kept.then (h : Kept a b) (k : Chg F b c) (hF : ∀ x, x < a.heap.size → ¬ F x) : Kept a c :=
  (Chg.trans (F := F) (Kept.chg h) k).kept hF
theorem Chg.alloc (h : Chg F a b) (o : Obj) : Chg F a (b.alloc o) := h.keep (kept_alloc b o)
theorem Chg.drew (h : Chg F a b) : Chg F a b.drew := h.keep (kept_drew b)
theorem Chg.setCell (h : Chg F a b) {p : Addr} (hp : F p.block) (v : Value) : Chg F a (b.setCell p v) :=
  h.trans ⟨rfl, rfl, rfl, by simp, fun k hk hn => Go.RowKit.Below.heap_setCell _ _ _ _ fun e => hn (e ▸ hp)⟩
theorem Chg.set (w : World) (p : Addr) (v : Value) : Chg (· = p.block) w (w.setCell p v) := (Chg.refl (fun x => x = p.block) w).setCell (p := p) rfl v
theorem Chg.cell (h : Chg F w w') {p : Addr} {v : Value} (hc : w.cell? p = some v) (hn : ¬ F p.block) : w'.cell? p = some v := by
  rw [← hc]; exact World.cell?_of_block (h.block _ (World.block_lt_of_cell? _ _ hc) hn)
theorem Chg.of_grown {r : Option Nat} (h : w.grownBy w' r) (hr : ∀ k, r = some k → F k) : Chg F w w' :=
  ⟨h.os, h.tape, h.output, h.size, fun k hk hn => h.block k hk fun e => hn (hr k e.symm)⟩
theorem Chg.of_below {B : Nat} (h : Below B w w') : Chg (B ≤ ·) w w' := ⟨h.os, h.tape, h.output, h.size, fun k hk hn => h.block k (by omega)⟩
theorem Chg.below {B : Nat} (h : Chg F w w') (hF : ∀ k, k < B → ¬ F k) (hB : B ≤ w.heap.size) : Below B w w' := ⟨h.os, h.tape, h.output, h.size, fun k hk => h.block k (by omega) (hF k hk)⟩
theorem Blk.chg {B : Nat} {e : TypeId} {cs : List Value} (h : Blk w B e cs) (k : Chg F w w') (hn : ¬ F B) : Blk w' B e cs := (k.block B h.lt hn).trans h
theorem Row.chg {α : Type} {enc : α → Value} {s : Sl} {xs : List α} (h : Row enc w s xs) (k : Chg F w w') (hn : ∀ b, s.a = some b → ¬ F b.block) : Row enc w' s xs :=
  h.of_block fun b hb h0 => k.block _ (h.block_lt h0 hb) (hn b hb)
theorem Mine.chg {α : Type} {enc : α → Value} {e : TypeId} {base : Nat} {s : Sl} {xs : List α} (h : Mine enc e base w s xs) (k : Chg F w w') (hn : ∀ b, s.a = some b → ¬ F b.block) : Mine enc e base w' s xs := by
  refine ⟨h.1, ?_⟩
  rcases h.2 with h2 | ⟨g, cap, cur, h1, h2, h3, h4⟩
  · exact .inl h2
  · refine .inr ⟨g, cap, cur, h1, h2, ?_, h4⟩
    rw [k.block g (heap_lt h3) ?_]
    · exact h3
    · obtain ⟨a, l, c⟩ := s
      simp at h1
      exact hn ⟨g, 0, none⟩ h1.1
end
/-- A row of the call's own stands in no block of another type. -/
theorem Mine.ne_blk {α : Type} {enc : α → Value} {e e' : TypeId} {base b : Nat} {w : World} {s : Sl} {xs : List α} {cs : List Value} (h : Mine enc e base w s xs) (hb : Blk w b e' cs) (hne : e ≠ e') : ∀ a, s.a = some a → a.block ≠ b := by
  rintro a ha rfl
  rcases h.forms with ⟨rfl, _⟩ | ⟨g, cap, cur, rfl, _, h2, _⟩
  · simp at ha
  · simp at ha
    subst ha
    have := h2.symm.trans hb
    simp at this
    exact hne this.2

/-! ### Places -/
theorem addB (b i : Nat) : (⟨b, 0, none⟩ : Addr).add (Int.toNat (i : Int) * 1) = ⟨b, i, none⟩ := by unfold Addr.add; by_cases h0 : i = 0 <;> simp [h0]
theorem addN (b i j : Nat) : (⟨b, i, none⟩ : Addr).add j = ⟨b, i + j, none⟩ := by unfold Addr.add; by_cases h0 : j = 0 <;> simp [h0]
theorem ixB {b n i : Nat} {K : Addr → Prop} (h : i < n) (k : K ⟨b, 0, none⟩) : ix (some ⟨b, 0, none⟩) n (i : Int) K := ⟨_, rfl, by omega, by omega, k⟩
/-- An element of an array that stands at p. -/
theorem ixP {p : Addr} {n i : Nat} {K : Addr → Prop} (h : i < n) (k : K p) : ix (some p) n (i : Int) K := ⟨_, rfl, by omega, by omega, k⟩
theorem Blk.mine {α : Type} {enc : α → Value} {e : TypeId} {base b : Nat} {w : World} {xs : List α} (h : Blk w b e (xs.map enc)) (hb : base ≤ b) (hm : xs.length ≤ maxLen) : Mine enc e base w ⟨some ⟨b, 0, none⟩, xs.length, xs.length⟩ xs :=
  ⟨by simp, .inr ⟨b, xs.length, (xs.map enc).toArray, rfl, hb, h, Nat.le_refl _, hm, by simp, List.take_of_length_le (by simp)⟩⟩
theorem Blk.at {w : World} {b : Nat} {e : TypeId} {cs : List Value} (h : Blk w b e cs) (i : Nat) {v : Value} (hi : cs[i]? = some v) : w.cell? ⟨b, i, none⟩ = some v := (h.cell i).trans hi
theorem Blk.ad {w : World} {b : Nat} {e : TypeId} {cs : List Value} (h : Blk w b e cs) (i : Nat) {v : Value} (hi : cs[i]? = some v) : w.cell? ((⟨b, 0, none⟩ : Addr).add i) = some v := by rw [addN, Nat.zero_add]; exact h.at i hi
theorem wrB {w : World} {b : Nat} {e : TypeId} {cs : List Value} (h : Blk w b e cs) (i : Nat) {v : Value} {K : World → Prop} (hi : i < cs.length) (k : Blk (w.setCell ⟨b, i, none⟩ v) b e (cs.set i v) → Chg (· = b) w (w.setCell ⟨b, i, none⟩ v) → K (w.setCell ⟨b, i, none⟩ v)) : wr w ((⟨b, 0, none⟩ : Addr).add i) v K := by
  rw [addN, Nat.zero_add]
  exact wr_blk h hi (k (h.set i v) (Chg.set w ⟨b, i, none⟩ v))
theorem Blk.cast {w : World} {b : Nat} {e : TypeId} {cs cs' : List Value} (h : Blk w b e cs) (he : cs' = cs) : Blk w b e cs' := he ▸ h
/-- The same, with the world behind it by a name. -/
theorem wrW {w : World} {b : Nat} {e : TypeId} {cs : List Value} (h : Blk w b e cs) (i : Nat) {v : Value} {K : World → Prop} (hi : i < cs.length) (k : ∀ W, Blk W b e (cs.set i v) → Chg (· = b) w W → K W) : wr w ((⟨b, 0, none⟩ : Addr).add i) v K :=
  wrB h i hi fun h1 h2 => k _ h1 h2
theorem wr0 {w : World} {b : Nat} {e : TypeId} {cs : List Value} (h : Blk w b e cs) {v : Value} {K : World → Prop} (hi : 0 < cs.length) (k : ∀ W, Blk W b e (cs.set 0 v) → Chg (· = b) w W → K W) : wr w ⟨b, 0, none⟩ v K :=
  wr_blk h hi (k _ (h.set 0 v) (Chg.set w ⟨b, 0, none⟩ v))
/-- A new block, the world behind it by a name. -/
theorem alW {w : World} {cs : List Value} {e : TypeId} {K : Addr → World → Prop} (k : ∀ W, Blk W w.heap.size e cs → Kept w W → w.heap.size < W.heap.size → K ⟨w.heap.size, 0, none⟩ W) : al w (.cells cs.toArray e) K :=
  k _ (Blk.new w e cs) (kept_alloc w _) (by simp)

/-! ### Rows whose elements are several cells each -/
theorem flat_get {α : Type} {enc : α → List Value} {sz : Nat} (hE : ∀ x, (enc x).length = sz) : ∀ (xs : List α) (i : Nat) (hi : i < xs.length) (j : Nat), j < sz → (xs.flatMap enc)[i * sz + j]? = (enc xs[i])[j]?
  | x :: xs, 0, hi, j, hj => by
    simp only [List.flatMap_cons, Nat.zero_mul, Nat.zero_add, List.getElem_cons_zero]
    rw [List.getElem?_append_left (by rw [hE]; exact hj)]
  | x :: xs, i + 1, hi, j, hj => by
    simp only [List.flatMap_cons, List.getElem_cons_succ]
    rw [List.getElem?_append_right (by rw [hE, Nat.succ_mul]; omega), hE]
    have : (i + 1) * sz + j - sz = i * sz + j := by rw [Nat.succ_mul]; omega
    rw [this]
    exact flat_get hE xs i (by simpa using hi) j hj
theorem flat_len {α : Type} {enc : α → List Value} {sz : Nat} (hE : ∀ x, (enc x).length = sz) : ∀ (xs : List α), (xs.flatMap enc).length = xs.length * sz
  | [] => by simp
  | x :: xs => by simp [flat_len hE xs, hE, Nat.succ_mul, Nat.add_comm]
/-- A slice whose elements are several cells shows these values. -/
def RowN {α : Type} (sz : Nat) (enc : α → List Value) (w : World) (s : Sl) (xs : List α) : Prop :=
  s.l = xs.length ∧ (s.a = none → s.c = 0) ∧ ∀ i (h : i < xs.length), ∃ b, s.a = some b ∧ ∀ j, j < sz → w.cell? ((b.add (i * sz)).add j) = (enc xs[i])[j]?
section
variable {α : Type} {sz : Nat} {enc : α → List Value} {w w' : World} {s : Sl} {xs : List α}
theorem RowN.len (h : RowN sz enc w s xs) : s.l = xs.length := h.1
theorem RowN.ix (h : RowN sz enc w s xs) {i : Nat} (hi : i < xs.length) {K : Addr → Prop}
    (k : ∀ b, s.a = some b → (∀ j, j < sz → w.cell? ((b.add (Int.toNat i * sz)).add j) = (enc xs[i])[j]?) → K b) : Go.Rk.ix s.a s.l (i : Int) K := by
  obtain ⟨b, hb, h1⟩ := h.2.2 i hi
  exact ⟨b, hb, by omega, by have := h.1; omega, k b hb (by simpa using h1)⟩
theorem RowN.of_cell (h : RowN sz enc w s xs) (hE : ∀ x, (enc x).length = sz) (k : ∀ b p v, s.a = some b → p.block = b.block → w.cell? p = some v → w'.cell? p = some v) : RowN sz enc w' s xs := by
  refine ⟨h.1, h.2.1, fun i hi => ?_⟩
  obtain ⟨b, hb, h1⟩ := h.2.2 i hi
  refine ⟨b, hb, fun j hj => ?_⟩
  have h2 := h1 j hj
  have h3 : (enc xs[i])[j]? = some ((enc xs[i])[j]'(by rw [hE]; exact hj)) := List.getElem?_eq_getElem _
  rw [h3] at h2 ⊢
  exact k b _ _ hb (by rw [add_block, add_block]) h2
theorem RowN.kept (h : RowN sz enc w s xs) (hE : ∀ x, (enc x).length = sz) (k : Kept w w') : RowN sz enc w' s xs := h.of_cell hE fun b p v _ _ hp => cell_kept hp k
theorem RowN.chg {F : Nat → Prop} (h : RowN sz enc w s xs) (hE : ∀ x, (enc x).length = sz) (k : Chg F w w') (hn : ∀ b, s.a = some b → ¬ F b.block) : RowN sz enc w' s xs :=
  h.of_cell hE fun b p v hb hpb hp => k.cell hp fun hf => hn b hb (by rw [← hpb]; exact hf)
end
abbrev eP : Int × Int → List Value := fun p => [.int .i64 p.1, .int .i64 p.2]
theorem RowN.pairs {w : World} {s : Sl} {xs : List (Int × Int)} (h : RowN 2 eP w s xs) : Row2 w s xs := by
  refine ⟨h.1, h.2.1, fun i hi => ?_⟩
  obtain ⟨b, hb, h1⟩ := h.2.2 i hi
  refine ⟨b, hb, ?_, h1 1 (by omega)⟩
  have := h1 0 (by omega)
  rw [add_add] at this
  exact this
/-- The same, of the call's own. -/
def MineN {α : Type} (sz : Nat) (enc : α → List Value) (e : TypeId) (base : Nat) (w : World) (s : Sl) (xs : List α) : Prop := w.ownsRow base e sz s.v xs.length (xs.flatMap enc)
section
variable {α : Type} {sz : Nat} {enc : α → List Value} {w w' : World} {s : Sl} {xs : List α} {e : TypeId} {base : Nat}
theorem MineN.nil : MineN sz enc e base w ⟨none, 0, 0⟩ [] := World.ownsRow_nil w base e sz
theorem MineN.forms (h : MineN sz enc e base w s xs) : (s = ⟨none, 0, 0⟩ ∧ xs = []) ∨ ∃ g cap cur, s = ⟨some ⟨g, 0, none⟩, xs.length, cap⟩ ∧ base ≤ g ∧ w.heap[g]? = some (.cells cur e (0, 0)) ∧ xs.length ≤ cap ∧ cap ≤ maxLen ∧ cur.size = cap * sz ∧ cur.toList.take (xs.length * sz) = xs.flatMap enc := by
  obtain ⟨a, l, c⟩ := s
  rcases h.2 with ⟨h1, h2⟩ | ⟨g, cap, cur, h1, h2⟩
  · simp at h1
    left
    obtain ⟨rfl, rfl, rfl⟩ := h1
    exact ⟨rfl, by simpa using h2⟩
  · simp at h1
    obtain ⟨rfl, rfl, rfl⟩ := h1
    right
    exact ⟨g, _, cur, rfl, h2⟩
theorem MineN.len (h : MineN sz enc e base w s xs) : s.l = xs.length := by
  rcases h.forms with ⟨rfl, rfl⟩ | ⟨g, cap, cur, rfl, _⟩ <;> rfl
theorem MineN.row (h : MineN sz enc e base w s xs) (hE : ∀ x, (enc x).length = sz) : RowN sz enc w s xs := by
  refine ⟨h.len, ?_, fun i hi => ?_⟩
  · rcases h.forms with ⟨rfl, rfl⟩ | ⟨g, cap, cur, rfl, _⟩ <;> simp
  · rcases h.forms with ⟨rfl, rfl⟩ | ⟨g, cap, cur, rfl, h2⟩
    · simp at hi
    · refine ⟨_, rfl, fun j hj => ?_⟩
      have h3 : (enc xs[i])[j]? = some ((enc xs[i])[j]'(by rw [hE]; exact hj)) := List.getElem?_eq_getElem _
      have := World.ownsRow.cells h (g := g) rfl (i * sz + j) _ ((flat_get hE xs i hi j hj).trans h3)
      rw [add_add, this, h3]
theorem MineN.mono (h : MineN sz enc e base w s xs) {b : Nat} (hb : b ≤ base) : MineN sz enc e b w s xs := by
  refine ⟨h.1, ?_⟩
  rcases h.2 with h2 | ⟨g, cap, cur, h1, h2, h3⟩
  · exact .inl h2
  · exact .inr ⟨g, cap, cur, h1, by omega, h3⟩
theorem MineN.lt (h : MineN sz enc e base w s xs) {b : Addr} (hb : s.a = some b) : base ≤ b.block ∧ b.block < w.heap.size := by
  have := World.ownsRow.lt h b.block (by cases s; simp at hb; simp [Value.ownBlock, hb])
  exact this
theorem MineN.chg {F : Nat → Prop} (h : MineN sz enc e base w s xs) (k : Chg F w w') (hn : ∀ b, s.a = some b → ¬ F b.block) : MineN sz enc e base w' s xs := by
  refine ⟨h.1, ?_⟩
  rcases h.2 with h2 | ⟨g, cap, cur, h1, h2, h3, h4⟩
  · exact .inl h2
  · refine .inr ⟨g, cap, cur, h1, h2, ?_, h4⟩
    rw [k.block g (heap_lt h3) ?_]
    · exact h3
    · obtain ⟨a, l, c⟩ := s
      simp at h1
      exact hn ⟨g, 0, none⟩ h1.1
theorem MineN.kept (h : MineN sz enc e base w s xs) (k : Kept w w') : MineN sz enc e base w' s xs := h.chg (F := fun _ => False) (Kept.chg k) fun _ _ => id
theorem MineN.lit {cs : List Value} (hE : ∀ x, (enc x).length = sz) (hc : cs = xs.flatMap enc) (hb : base ≤ w.heap.size) (hm : xs.length ≤ maxLen) : MineN sz enc e base (w.alloc (.cells cs.toArray e)) ⟨some ⟨w.heap.size, 0, none⟩, xs.length, xs.length⟩ xs := by
  subst hc
  have := World.ownsRow_lit (w := w) (base := base) (e := e) (size := sz) (xs.flatMap enc).toArray xs.length hb hm (by simpa using flat_len hE xs)
  simpa [MineN] using this
theorem _root_.Go.Rk.Blk.mineN {b : Nat} (h : Blk w b e (xs.flatMap enc)) (hE : ∀ x, (enc x).length = sz) (hb : base ≤ b) (hm : xs.length ≤ maxLen) : MineN sz enc e base w ⟨some ⟨b, 0, none⟩, xs.length, xs.length⟩ xs :=
  ⟨flat_len hE xs, .inr ⟨b, xs.length, (xs.flatMap enc).toArray, rfl, hb, h, Nat.le_refl _, hm, by simpa using flat_len hE xs, List.take_of_length_le (by rw [← flat_len hE xs]; simp)⟩⟩
end
theorem MineN.ne_blk {α : Type} {sz : Nat} {enc : α → List Value} {e e' : TypeId} {base b : Nat} {w : World} {s : Sl} {xs : List α} {cs : List Value} (h : MineN sz enc e base w s xs) (hb : Blk w b e' cs) (hne : e ≠ e') : ∀ a, s.a = some a → a.block ≠ b := by
  rintro a ha rfl
  rcases h.forms with ⟨rfl, _⟩ | ⟨g, cap, cur, rfl, _, h2, _⟩
  · simp at ha
  · simp at ha
    subst ha
    have := h2.symm.trans hb
    simp at this
    exact hne this.2
structure SzN (P : Program) (t e : TypeId) (sz : Nat) : Prop where
  get : ∃ i z, P.underlying t = some (.slice e) ∧ P.info? e = some i ∧ i.zero = some z ∧ i.size = sz ∧ i.bytes ≤ 1000 ∧ z.cells.size = sz ∧ 0 < sz
def szNOk (P : Program) (t e : TypeId) (sz : Nat) : Bool :=
  match sliceOf P t, P.info? e with
  | some e', some i => (match i.zero with
    | some z => Nat.beq e' e && Nat.beq i.size sz && Nat.ble i.bytes 1000 && Nat.beq z.cells.size sz && Nat.ble 1 sz
    | none => false)
  | _, _ => false
theorem SzN_of {P : Program} {t e : TypeId} {sz : Nat} (h : szNOk P t e sz = true) : SzN P t e sz := by
  unfold szNOk sliceOf at h
  split at h
  · rename_i e' i h1 h2
    split at h1
    · rename_i e'' h4
      cases h1
      split at h
      · rename_i z h3
        simp at h
        obtain ⟨⟨⟨⟨rfl, h5⟩, h6⟩, h7⟩, h8⟩ := h
        exact ⟨i, z, h4, h2, h3, h5, h6, h7, by omega⟩
      · cases h
    · cases h1
  · cases h
/-- append: to a row of the call's own, of elements that are several cells. -/
theorem raw_appendN {P : Program} {t ty e : TypeId} {sz : Nat} (hz : SzN P t e sz) {α : Type} {enc : α → List Value} (hE : ∀ x, (enc x).length = sz) (h1 : ∀ x, ∀ v ∈ enc x, v.oneCell' = true) {base : Nat} {w : World} {s u : Sl} {xs ys : List α} {K : Value → World → Prop}
    (h : MineN sz enc e base w s xs) (hy : RowN sz enc w u ys) (hl : xs.length + ys.length ≤ 10000000000) (hb : base ≤ w.heap.size)
    (k : ∀ (s' : Sl) w', MineN sz enc e base w' s' (xs ++ ys) → w.grownBy w' s.v.ownBlock → Below base w w' → K s'.v w') : raw P (Builtin.append_ #[t, t] ty #[s.v, u.v]) w K := by
  obtain ⟨i, z, ht, hi, hzz, hsz, hby, hzs, hp⟩ := hz.get
  have hbel : ∀ {w'}, w.grownBy w' s.v.ownBlock → Below base w w' := fun hg => (Below.refl _ _).grown hg hb fun k hk => (World.ownsRow.lt h k hk).1
  obtain ⟨a, l, c⟩ := u
  cases a with
  | none =>
    have hc : c = 0 := hy.2.1 rfl
    have hn : ys = [] := by
      cases ys with
      | nil => rfl
      | cons y ys => obtain ⟨b, hb, _⟩ := hy.2.2 0 (by simp); simp at hb
    have hl0 : l = 0 := by have := hy.1; simpa [hn] using this
    subst hc; subst hl0; subst hn
    have := run_append_owned_none (P := P) w base t ty e i sz ht hi s.v xs.length _ h
    refine ⟨_, _, this, ?_⟩
    have hg : w.grownBy w s.v.ownBlock := ⟨rfl, rfl, rfl, Nat.le_refl _, fun _ _ _ => rfl⟩
    exact k s w (by simpa using h) hg (hbel hg)
  | some b =>
    have hl' : l = ys.length := hy.1
    have hb2 : (xs.length + l) * i.bytes ≤ 140737488355328 := Nat.le_trans (Nat.mul_le_mul_left _ hby) (by omega)
    obtain ⟨v', w', hr, ho, hg, hn⟩ := run_append_own (P := P) w base t ty e i z sz i.bytes ht hi hzz hsz rfl hzs hp s.v xs.length _ h b l c (ys.flatMap enc) (by rw [flat_len hE, hl'])
      (fun j x hj => by
        obtain ⟨hj1, hj2⟩ := List.getElem?_eq_some_iff.1 hj
        rw [flat_len hE] at hj1
        have hq : j / sz < ys.length := Nat.div_lt_of_lt_mul (by rw [Nat.mul_comm]; exact hj1)
        have hr : j % sz < sz := Nat.mod_lt _ hp
        have hjd : j / sz * sz + j % sz = j := by rw [Nat.mul_comm]; exact Nat.div_add_mod j sz
        obtain ⟨b', hb', hc⟩ := hy.2.2 (j / sz) hq
        simp at hb'
        subst hb'
        have h4 := hc (j % sz) hr
        rw [add_add, hjd] at h4
        rw [h4, ← flat_get hE ys _ hq _ hr, hjd, hj])
      (fun x hx => by obtain ⟨y, _, hy⟩ := List.mem_flatMap.1 hx; exact h1 y x hy) (by simp only [maxLen]; omega) hb2 hb
    refine ⟨v', w', hr, ?_⟩
    have hv : ∃ s' : Sl, v' = s'.v := by
      rcases ho.2 with ⟨h1, _⟩ | ⟨g, cap, cur, h1, _⟩
      · exact ⟨⟨none, 0, 0⟩, h1⟩
      · exact ⟨⟨some ⟨g, 0, none⟩, _, cap⟩, h1⟩
    obtain ⟨s', rfl⟩ := hv
    exact k s' w' (by simpa [MineN, hl'] using ho) hg (hbel hg)
/-- Some elements more, that stand in a new block. -/
theorem pushN {P : Program} {t ty e : TypeId} {sz : Nat} (hz : SzN P t e sz) {α : Type} {enc : α → List Value} (hE : ∀ x, (enc x).length = sz) (h1 : ∀ x, ∀ v ∈ enc x, v.oneCell' = true) {base : Nat} {w : World} {s : Sl} {xs : List α} (ys : List α) {cs : List Value} {n : Nat} {K : Value → World → Prop}
    (h : MineN sz enc e base w s xs) (hb : base ≤ w.heap.size) (hl : xs.length + ys.length ≤ 10000000000) (hcs : cs = ys.flatMap enc) (hn : n = ys.length)
    (k : ∀ (s' : Sl) w', MineN sz enc e base w' s' (xs ++ ys) → Below base w w' → K s'.v w') : raw P (Builtin.append_ #[t, t] ty #[s.v, .slice (some ⟨w.heap.size, 0, none⟩) n n]) (w.alloc (.cells cs.toArray e)) K := by
  subst hn
  have m0 := (MineN.lit (e := e) (base := w.heap.size) (w := w) hE hcs (Nat.le_refl _) (show ys.length ≤ maxLen by simp only [maxLen]; omega)).row hE
  refine raw_appendN hz hE h1 (u := ⟨some ⟨w.heap.size, 0, none⟩, ys.length, ys.length⟩) (h.kept (kept_alloc _ _)) m0 hl (by simp; omega) fun s' w' g1 g2 g3 => ?_
  exact k s' w' g1 (Below.trans ((kept_alloc w _).mono hb) g3)
end Go.Rk
