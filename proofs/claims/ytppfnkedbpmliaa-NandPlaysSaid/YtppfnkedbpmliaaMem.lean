/- Nothing is proved of the program here: what memory shows (rows of cells), and the rules by which the readings' words are met. -/
import Derived.Test.YtppfnkedbpmliaaExC
import Derived.Below
import Derived.Laws.OwnMore
import Derived.Laws.BytesArg
set_option linter.unusedVariables false
set_option linter.unusedSimpArgs false
namespace Go.Rk
open Go Go.RowKit

theorem Ok.calls {P : Program} {f : FuncId} {args : List Value} {w : World} {K : Value → World → Prop} (h : Ok P f args w K) : Calls P f args.toArray w fun e w' => ∃ v, e = .returned v ∧ K v w' :=
  callsIn_wide.1 h.2

/-! ### Words -/
@[simp] theorem decI_int (q : IntKind) (n : Int) (K : Int → Prop) : decI q (.int q n) K = K n := by simp [decI]
@[simp] theorem decB_bool (b : Bool) (K : Bool → Prop) : decB (.bool b) K = K b := rfl
@[simp] theorem decP_ptr (a : Option Addr) (K : Option Addr → Prop) : decP (.pointer a) K = K a := rfl
@[simp] theorem decS_sl (a : Option Addr) (l c : Nat) (K : Sl → Prop) : decS (.slice a l c) K = K ⟨a, l, c⟩ := rfl
@[simp] theorem decY_str (s : ByteArray) (K : ByteArray → Prop) : decY (.string s) K = K s := rfl
theorem rdI_of {q : IntKind} {w : World} {a : Addr} {n : Int} {K : Int → Prop} (h : w.cell? a = some (.int q n)) (k : K n) : rdI q w a K := by simp [rdI, h, k]
theorem rdB_of {w : World} {a : Addr} {b : Bool} {K : Bool → Prop} (h : w.cell? a = some (.bool b)) (k : K b) : rdB w a K := by simp [rdB, h, k]
theorem rdP_of {w : World} {a : Addr} {p : Option Addr} {K : Option Addr → Prop} (h : w.cell? a = some (.pointer p)) (k : K p) : rdP w a K := by simp [rdP, h, k]
theorem rdS_of {w : World} {a : Addr} {s : Sl} {K : Sl → Prop} (h : w.cell? a = some s.v) (k : K s) : rdS w a K := by simpa [rdS, h, Sl.v] using k
theorem cond_of {b : Bool} {A B : Prop} (h1 : b = true → A) (h2 : b = false → B) : cond b A B := by cases b <;> simp_all
theorem cond_t {b : Bool} {A B : Prop} (hb : b = true) (h : A) : cond b A B := by simp [hb, h]
theorem cond_f {b : Bool} {A B : Prop} (hb : b = false) (h : B) : cond b A B := by simp [hb, h]
theorem joinT_of {D : Type} {m : (D → World → Prop) → Prop} {K : D → World → Prop} (Q : D → World → Prop) (h : m Q) (k : ∀ d w, Q d w → K d w) : joinT m K := ⟨Q, h, k⟩
/-- Where the ways are followed one by one. -/
theorem joinT_thru {D : Type} {m : (D → World → Prop) → Prop} {K : D → World → Prop} (h : m K) : joinT m K := ⟨K, h, fun _ _ x => x⟩
theorem loopT_of {D : Type} {body : D → World → (D → World → Prop) → Prop} {d0 : D} {w0 : World} (I : D → World → Prop) (μ : D → World → Nat) (h : I d0 w0)
    (s : ∀ d w, I d w → body d w fun d' w' => I d' w' ∧ μ d' w' < μ d w) : loopT body d0 w0 := ⟨I, μ, h, s⟩
theorem w64 {n : Int} (h0 : -9223372036854775808 ≤ n) (h1 : n ≤ 9223372036854775807) : IntKind.i64.wrap n = n := by
  have e : IntKind.i64.wrap n = if n % 18446744073709551616 ≥ 9223372036854775808 then n % 18446744073709551616 - 18446744073709551616 else n % 18446744073709551616 := by
    simp [IntKind.wrap, IntKind.bits, IntKind.signed]
  rw [e]
  split <;> omega
theorem wu8 {n : Int} (h0 : 0 ≤ n) (h1 : n ≤ 255) : IntKind.u8.wrap n = n := by
  simp only [IntKind.wrap, IntKind.bits, IntKind.signed]
  simp
  omega

/-! ### Rows of cells -/
abbrev eI : Int → Value := .int .i64
abbrev eB : BitVec 8 → Value := fun x => .int .u8 (x.toNat : Int)
theorem add_block (b : Addr) (i : Nat) : (b.add i).block = b.block := by unfold Addr.add; split <;> rfl
theorem add_add (b : Addr) (i j : Nat) : (b.add i).add j = b.add (i + j) := by
  unfold Addr.add
  by_cases hi : i = 0 <;> by_cases hj : j = 0 <;> simp [hi, hj, Nat.add_assoc]
/-- A slice shows these values. -/
def Row {α : Type} (enc : α → Value) (w : World) (s : Sl) (xs : List α) : Prop :=
  s.l = xs.length ∧ (s.a = none → s.c = 0) ∧ ∀ i (h : i < xs.length), ∃ b, s.a = some b ∧ w.cell? (b.add i) = some (enc xs[i])
/-- All that was there is as it was. -/
abbrev Kept (w w' : World) : Prop := Below w.heap.size w w'
section
variable {α : Type} {enc : α → Value} {w w' : World} {s : Sl} {xs : List α}
theorem Row.len (h : Row enc w s xs) : s.l = xs.length := h.1
theorem Row.block_lt (h : Row enc w s xs) {i : Nat} (hi : i < xs.length) {b : Addr} (hb : s.a = some b) : b.block < w.heap.size := by
  obtain ⟨b', hb', hc⟩ := h.2.2 i hi
  rw [hb] at hb'
  cases hb'
  have := World.block_lt_of_cell? _ _ hc
  rwa [add_block] at this
/-- In a world in which the row's block is as it was. -/
theorem Row.of_block (h : Row enc w s xs) (hb : ∀ b, s.a = some b → 0 < xs.length → w'.heap[b.block]? = w.heap[b.block]?) : Row enc w' s xs := by
  refine ⟨h.1, h.2.1, fun i hi => ?_⟩
  obtain ⟨b, hb', hc⟩ := h.2.2 i hi
  refine ⟨b, hb', ?_⟩
  rw [← hc]
  exact World.cell?_of_block (by rw [add_block]; exact hb b hb' (by omega))
theorem Row.below (h : Row enc w s xs) {B : Nat} (hB : w.heap.size ≤ B) (hk : Below B w w') : Row enc w' s xs :=
  h.of_block fun b hb h0 => hk.block _ (Nat.lt_of_lt_of_le (h.block_lt h0 hb) hB)
theorem Row.kept (h : Row enc w s xs) (hk : Kept w w') : Row enc w' s xs := h.below (Nat.le_refl _) hk
theorem Row.alloc (h : Row enc w s xs) (o : Obj) : Row enc (w.alloc o) s xs := h.kept ((Below.refl _ _).alloc (Nat.le_refl _) o)
theorem Row.drew (h : Row enc w s xs) : Row enc w.drew s xs := h.kept (Below.refl _ _).drew
/-- An element is asked for. -/
theorem Row.ix (h : Row enc w s xs) {i : Nat} (hi : i < xs.length) {K : Addr → Prop} (k : ∀ b, s.a = some b → w.cell? (b.add (Int.toNat i * 1)) = some (enc xs[i]) → K b) : ix s.a s.l (i : Int) K := by
  obtain ⟨b, hb, hc⟩ := h.2.2 i hi
  exact ⟨b, hb, by omega, by have := h.1; omega, k b hb (by simpa using hc)⟩
theorem Row.ixn (h : Row enc w s xs) {i : Nat} (hi : i < xs.length) {K : Addr → Prop} (k : ∀ b, s.a = some b → w.cell? (b.add (Int.toNat i * 1)) = some (enc xs[i]) → K b) : Go.Rk.ix s.a xs.length (i : Int) K := by
  have := h.ix hi k
  rwa [h.1] at this
theorem Row.nil (a : Option Addr) (c : Nat) (hc : a = none → c = 0) : Row enc w ⟨a, 0, c⟩ [] := ⟨rfl, hc, fun i hi => by simp at hi⟩
end

/-- Whole numbers that came in, as the rows' frame tells them. -/
theorem rowI_of {k : IntKind} {w : World} {a : Option Addr} {len cap : Nat} {zs : List Int}
    (h : (a = none ∧ len = 0 ∧ cap = 0 ∧ zs = []) ∨ ∃ x, a = some x ∧ len ≤ cap ∧ cap ≤ maxLen ∧ zs.length = cap ∧ (∀ i, i < zs.length → w.cell? (x.add i) = some (.int k (zs.getD i 0))) ∧ ∀ n ∈ zs, (Lit.int k n).wf = true) :
    ∃ xs : List Int, Row (.int k) w ⟨a, len, cap⟩ xs ∧ ∀ n ∈ xs, (Lit.int k n).wf = true := by
  rcases h with ⟨rfl, rfl, rfl, rfl⟩ | ⟨x, rfl, h1, h2, h3, h4, h5⟩
  · exact ⟨[], ⟨rfl, fun _ => rfl, fun i hi => by simp at hi⟩, fun n hn => by simp at hn⟩
  · refine ⟨zs.take len, ⟨by simp; omega, fun h => by simp at h, fun i hi => ⟨x, rfl, ?_⟩⟩, fun n hn => h5 n (List.mem_of_mem_take hn)⟩
    simp at hi
    rw [h4 i (by omega)]
    simp [List.getD, List.getElem?_eq_getElem (show i < zs.length by omega)]
theorem rowB_of {w : World} {a : Option Addr} {len cap : Nat} {zs : List Int}
    (h : (a = none ∧ len = 0 ∧ cap = 0 ∧ zs = []) ∨ ∃ x, a = some x ∧ len ≤ cap ∧ cap ≤ maxLen ∧ zs.length = cap ∧ (∀ i, i < zs.length → w.cell? (x.add i) = some (.int .u8 (zs.getD i 0))) ∧ ∀ n ∈ zs, (Lit.int .u8 n).wf = true) :
    ∃ bs : List (BitVec 8), Row eB w ⟨a, len, cap⟩ bs := by
  obtain ⟨xs, hx, hw⟩ := rowI_of h
  refine ⟨xs.map fun n => BitVec.ofInt 8 n, by simpa using hx.1, hx.2.1, fun i hi => ?_⟩
  simp at hi
  obtain ⟨b, hb, hc⟩ := hx.2.2 i hi
  refine ⟨b, hb, hc.trans ?_⟩
  have h2 := hw xs[i] (List.getElem_mem _)
  have h3 : 0 ≤ xs[i] ∧ xs[i] ≤ 255 := by
    simp [Lit.wf, IntKind.min, IntKind.max, IntKind.bits, IntKind.signed] at h2
    omega
  simp only [List.getElem_map, Option.some.injEq, Value.int.injEq, true_and]
  rw [BitVec.toNat_ofInt]
  simp
  omega
/-! ### Rows that the call owns -/
def Mine {α : Type} (enc : α → Value) (e : TypeId) (base : Nat) (w : World) (s : Sl) (xs : List α) : Prop := w.ownsRow base e 1 s.v xs.length (xs.map enc)
section
variable {α : Type} {enc : α → Value} {w w' : World} {s : Sl} {xs : List α} {e : TypeId} {base : Nat}
theorem Mine.nil : Mine enc e base w ⟨none, 0, 0⟩ [] := World.ownsRow_nil w base e 1
theorem Mine.forms (h : Mine enc e base w s xs) : (s = ⟨none, 0, 0⟩ ∧ xs = []) ∨ ∃ g cap cur, s = ⟨some ⟨g, 0, none⟩, xs.length, cap⟩ ∧ base ≤ g ∧ w.heap[g]? = some (.cells cur e (0, 0)) ∧ xs.length ≤ cap ∧ cap ≤ maxLen ∧ cur.size = cap ∧ cur.toList.take xs.length = xs.map enc := by
  obtain ⟨a, l, c⟩ := s
  rcases h.2 with ⟨h1, h2⟩ | ⟨g, cap, cur, h1, h2⟩
  · simp at h1
    left
    obtain ⟨rfl, rfl, rfl⟩ := h1
    exact ⟨rfl, by simpa using h2⟩
  · simp at h1
    obtain ⟨rfl, rfl, rfl⟩ := h1
    right
    exact ⟨g, _, cur, rfl, by simpa using h2⟩
theorem Mine.len (h : Mine enc e base w s xs) : s.l = xs.length := by
  rcases h.forms with ⟨rfl, rfl⟩ | ⟨g, cap, cur, rfl, _⟩ <;> rfl
theorem Mine.row (h : Mine enc e base w s xs) : Row enc w s xs := by
  refine ⟨h.len, ?_, fun i hi => ?_⟩
  · rcases h.forms with ⟨rfl, rfl⟩ | ⟨g, cap, cur, rfl, _⟩ <;> simp
  · rcases h.forms with ⟨rfl, rfl⟩ | ⟨g, cap, cur, rfl, h2⟩
    · simp at hi
    · have := World.ownsRow.cells h (g := g) rfl i (enc xs[i]) (by simp [hi])
      exact ⟨_, rfl, this⟩
theorem Mine.mono (h : Mine enc e base w s xs) {b : Nat} (hb : b ≤ base) : Mine enc e b w s xs := by
  refine ⟨h.1, ?_⟩
  rcases h.2 with h2 | ⟨g, cap, cur, h1, h2, h3⟩
  · exact .inl h2
  · exact .inr ⟨g, cap, cur, h1, by omega, h3⟩
theorem Mine.lt (h : Mine enc e base w s xs) {b : Addr} (hb : s.a = some b) : base ≤ b.block ∧ b.block < w.heap.size := by
  have := World.ownsRow.lt h b.block (by cases s; simp at hb; simp [Value.ownBlock, hb])
  exact this
theorem Mine.grown (h : Mine enc e base w s xs) {row : Option Nat} (hg : w.grownBy w' row) (hr : ∀ b, s.a = some b → row ≠ some b.block) : Mine enc e base w' s xs := by
  refine World.ownsRow.kept h hg ?_
  obtain ⟨a, l, c⟩ := s
  cases a with
  | none => exact .inl rfl
  | some b => exact .inr (by simpa [Value.ownBlock] using (hr b rfl).symm)
theorem Mine.below (h : Mine enc e base w s xs) {B : Nat} (hk : Below B w w') (hB : ∀ b, s.a = some b → b.block < B) : Mine enc e base w' s xs := by
  refine ⟨h.1, ?_⟩
  rcases h.2 with h2 | ⟨g, cap, cur, h1, h2, h3, h4⟩
  · exact .inl h2
  · refine .inr ⟨g, cap, cur, h1, h2, ?_, h4⟩
    rw [hk.block g ?_]
    · exact h3
    · obtain ⟨a, l, c⟩ := s
      simp at h1
      exact hB ⟨g, 0, none⟩ h1.1
theorem Mine.kept (h : Mine enc e base w s xs) (hk : Kept w w') : Mine enc e base w' s xs := h.below hk fun b hb => (h.lt hb).2
theorem Mine.alloc (h : Mine enc e base w s xs) (o : Obj) : Mine enc e base (w.alloc o) s xs := h.kept ((Below.refl _ _).alloc (Nat.le_refl _) o)
theorem Mine.lit {cs : List Value} (hc : cs = xs.map enc) (hb : base ≤ w.heap.size) (hm : xs.length ≤ maxLen) : Mine enc e base (w.alloc (.cells cs.toArray e)) ⟨some ⟨w.heap.size, 0, none⟩, xs.length, xs.length⟩ xs := by
  subst hc
  have := World.ownsRow_lit (w := w) (base := base) (e := e) (size := 1) (xs.map enc).toArray xs.length hb hm (by simp)
  simpa [Mine] using this
/-- A store into an element. -/
theorem Mine.put (h : Mine enc e base w s xs) {i : Nat} (hi : i < xs.length) (x : α) {b : Addr} (hb : s.a = some b) :
    (∃ u, w.cell? (b.add (Int.toNat i * 1)) = some u) ∧ w.frozen? (b.add (Int.toNat i * 1)) = false ∧ Mine enc e base (w.setCell (b.add (Int.toNat i * 1)) (enc x)) s (xs.set i x) ∧ base ≤ (b.add (Int.toNat i * 1)).block ∧
      w.grownBy (w.setCell (b.add (Int.toNat i * 1)) (enc x)) (some b.block) := by
  rcases h.forms with ⟨rfl, rfl⟩ | ⟨g, cap, cur, rfl, h2⟩
  · simp at hi
  · simp at hb
    subst hb
    have e1 : (⟨g, 0, none⟩ : Addr).add (Int.toNat i * 1) = ⟨g, i, none⟩ := by unfold Addr.add; by_cases h0 : i = 0 <;> simp [h0]
    have h' : w.ownsRow base e 1 (.slice (some ⟨g, 0, none⟩) xs.length cap) xs.length (xs.map enc) := h
    have hs := World.ownsRow.stored h' i (enc x)
    have hc := World.ownsRow.cellAt h' i (by omega)
    have hf := World.ownsRow.frozenAt h' i
    rw [e1]
    refine ⟨⟨enc xs[i], hc.trans (by simp [hi])⟩, hf, ?_, h2.1, hs.2⟩
    have := hs.1
    simpa [Mine, List.map_set] using this
end

/-! ### What the type of a slice's elements is -/
structure Sz (P : Program) (t e : TypeId) : Prop where
  get : ∃ i z, P.underlying t = some (.slice e) ∧ P.info? e = some i ∧ i.zero = some z ∧ i.size = 1 ∧ i.bytes ≤ 64 ∧ z.cells.size = 1
def sliceOf (P : Program) (t : TypeId) : Option TypeId :=
  match P.underlying t with
  | some (.slice e) => some e
  | _ => none
def szOk (P : Program) (t e : TypeId) : Bool :=
  match sliceOf P t, P.info? e with
  | some e', some i => (match i.zero with
    | some z => Nat.beq e' e && Nat.beq i.size 1 && Nat.ble i.bytes 64 && Nat.beq z.cells.size 1
    | none => false)
  | _, _ => false
theorem Sz_of {P : Program} {t e : TypeId} (h : szOk P t e = true) : Sz P t e := by
  unfold szOk sliceOf at h
  split at h
  · rename_i e' i h1 h2
    split at h1
    · rename_i e'' h4
      cases h1
      split at h
      · rename_i z h3
        simp at h
        obtain ⟨⟨⟨rfl, h5⟩, h6⟩, h7⟩ := h
        exact ⟨i, z, h4, h2, h3, h5, h6, h7⟩
      · cases h
    · cases h1
  · cases h
/-- append: to a row of the call's own. -/
theorem raw_append {P : Program} {t ty e : TypeId} (hz : Sz P t e) {α : Type} {enc : α → Value} (h1 : ∀ x, (enc x).oneCell' = true) {base : Nat} {w : World} {s u : Sl} {xs ys : List α} {K : Value → World → Prop}
    (h : Mine enc e base w s xs) (hy : Row enc w u ys) (hl : xs.length + ys.length ≤ 1000000000000) (hb : base ≤ w.heap.size)
    (k : ∀ (s' : Sl) w', Mine enc e base w' s' (xs ++ ys) → w.grownBy w' s.v.ownBlock → (s'.a = none → s.a = none ∧ ys = []) → K s'.v w') : raw P (Builtin.append_ #[t, t] ty #[s.v, u.v]) w K := by
  obtain ⟨i, z, ht, hi, hzz, hsz, hby, hzs⟩ := hz.get
  obtain ⟨a, l, c⟩ := u
  cases a with
  | none =>
    have hc : c = 0 := hy.2.1 rfl
    have hn : ys = [] := by
      cases ys with
      | nil => rfl
      | cons y ys => obtain ⟨b, hb, _⟩ := hy.2.2 0 (by simp); simp at hb
    have hl0 : l = 0 := by have := hy.1; simpa [hn] using this
    subst hc; subst hl0; subst hn
    have := run_append_owned_none (P := P) w base t ty e i 1 ht hi s.v xs.length _ h
    refine ⟨_, _, this, ?_⟩
    exact k s w (by simpa using h) ⟨rfl, rfl, rfl, Nat.le_refl _, fun _ _ _ => rfl⟩ (fun hs => ⟨hs, rfl⟩)
  | some b =>
    have hl' : l = ys.length := hy.1
    have hb2 : (xs.length + l) * i.bytes ≤ 140737488355328 := Nat.le_trans (Nat.mul_le_mul_left _ hby) (by omega)
    obtain ⟨v', w', hr, ho, hg, hn⟩ := run_append_own (P := P) w base t ty e i z 1 i.bytes ht hi hzz hsz rfl hzs (by omega) s.v xs.length _ h b l c (ys.map enc) (by simp [hl'])
      (fun j x hj => by
        obtain ⟨hj1, hj2⟩ := List.getElem?_eq_some_iff.1 hj
        simp at hj1 hj2
        obtain ⟨b', hb', hc⟩ := hy.2.2 j hj1
        simp at hb'
        subst hb'
        rw [hc, hj2])
      (fun x hx => by obtain ⟨y, _, rfl⟩ := List.mem_map.1 hx; exact h1 y) (by simp only [maxLen]; omega) hb2 hb
    refine ⟨v', w', hr, ?_⟩
    have hv : ∃ s' : Sl, v' = s'.v := by
      rcases ho.2 with ⟨h1, _⟩ | ⟨g, cap, cur, h1, _⟩
      · exact ⟨⟨none, 0, 0⟩, h1⟩
      · exact ⟨⟨some ⟨g, 0, none⟩, _, cap⟩, h1⟩
    obtain ⟨s', rfl⟩ := hv
    have ho' : Mine enc e base w' s' (xs ++ ys) := by simpa [Mine, hl'] using ho
    refine k s' w' ho' hg fun hs => ?_
    rcases ho'.forms with ⟨hs2, hx⟩ | ⟨g, cap, cur, rfl, _⟩
    · have := hn.1 (by rw [hs2])
      simp at hx
      have h3 := this.1
      obtain ⟨sa, sl, sc⟩ := s
      simp at h3
      exact ⟨h3.1, hx.2⟩
    · simp at hs
/-- Behind an append, what is below the base is as it was. -/
theorem Mine.below_grown {α : Type} {enc : α → Value} {e : TypeId} {base B : Nat} {w0 w w' : World} {s : Sl} {xs : List α} (h : Mine enc e base w s xs) (hk : Below B w0 w) (hg : w.grownBy w' s.v.ownBlock) (hB : B ≤ base) (hw : B ≤ w.heap.size) : Below B w0 w' :=
  hk.grown hg hw fun k hk2 => by
    have := World.ownsRow.lt h k hk2
    omega

/-! ### Strings -/
theorem map_inj {α β : Type} {f : α → β} (hf : ∀ x y, f x = f y → x = y) : ∀ xs ys : List α, xs.map f = ys.map f → xs = ys
  | [], [], _ => rfl
  | [], _ :: _, h => by simp at h
  | _ :: _, [], h => by simp at h
  | x :: xs, y :: ys, h => by
    simp at h
    rw [hf x y h.1, map_inj hf xs ys (by simpa using h.2)]
def strB (xs : List (BitVec 8)) : ByteArray := strOfNums (xs.map fun x => (x.toNat : Int))
theorem strB_inj {xs ys : List (BitVec 8)} : (ByteArray.toList (strB xs) == ByteArray.toList (strB ys)) = decide (xs = ys) := by
  have key : ∀ zs : List (BitVec 8), ByteArray.toList (strB zs) = zs.map fun x => UInt8.ofNat x.toNat := by
    intro zs
    simp [strB, strOfNums, ByteArray.toList_eq]
  rw [key, key]
  by_cases h : xs = ys
  · subst h; simp
  · simp only [h, decide_false]
    rw [beq_eq_false_iff_ne]
    intro he
    apply h
    refine map_inj ?_ _ _ he
    intro x y hxy
    have h2 := congrArg UInt8.toNat hxy
    simp at h2
    apply BitVec.eq_of_toNat_eq
    have := x.isLt; have := y.isLt
    omega
theorem toStr_of {P : Program} {src e dst : TypeId} {w : World} {s : Sl} {xs : List (BitVec 8)} {K : ByteArray → Prop} (hs : P.underlying src = some (.slice e)) (he : P.underlying e = some (.int .u8)) (hd : P.underlying dst = some .string)
    (h : Row eB w s xs) (k : K (strB xs)) : toStr P src dst s.v w K := by
  refine ⟨_, ?_, k⟩
  obtain ⟨a, l, c⟩ := s
  cases a with
  | none =>
    have hn : xs = [] := by
      cases xs with
      | nil => rfl
      | cons y ys => obtain ⟨b, hb, _⟩ := h.2.2 0 (by simp); simp at hb
    subst hn
    have := run_convert_bytes_nil (P := P) w src e hs he l c dst hd
    exact this
  | some b =>
    have hl : l = xs.length := h.1
    subst hl
    have hld : (loadCells b xs.length).run P w = .ok ((xs.map fun x => (x.toNat : Int)).map (Value.int .u8)).toArray w := by
      have := run_loadCells_list (P := P) w b ((xs.map fun x => (x.toNat : Int)).map (Value.int .u8)) (fun j v hj => by
        obtain ⟨hj1, hj2⟩ := List.getElem?_eq_some_iff.1 hj
        simp at hj1 hj2
        obtain ⟨b', hb', hc⟩ := h.2.2 j hj1
        simp at hb'
        subst hb'
        rw [hc, ← hj2])
      simpa using this
    show (convert src dst (.slice (some b) xs.length c)).run P w = _
    rw [run_convert_bytes_string w src dst e _ _ c hs he hd, run_bytesToString w _ _ c _ hld, foldl_push_bytes]
    simp [strB, strOfNums, ByteArray.empty, ByteArray.emptyWithCapacity]
    rfl
end Go.Rk
