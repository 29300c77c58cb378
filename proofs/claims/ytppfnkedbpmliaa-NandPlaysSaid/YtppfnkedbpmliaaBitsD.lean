/- Nothing is proved of the program here: what turning bits of a row of bytes is, in plain data; that the order does not count, and that twice is never. -/
import Derived.Test.YtppfnkedbpmliaaMem
set_option linter.unusedVariables false
set_option linter.unusedSimpArgs false
namespace Go.Rk

/-- A bit of a row of bytes is turned; a place that is none is left alone. -/
def flipAt (bs : List (BitVec 8)) (p : Int) : List (BitVec 8) := bs.mapIdx fun i x => if 0 ≤ p ∧ p / 8 = (i : Int) then x ^^^ (1#8 <<< (p % 8).toNat) else x
def flips (bs : List (BitVec 8)) (ps : List Int) : List (BitVec 8) := ps.foldl flipAt bs
@[simp] theorem flipAt_length (bs : List (BitVec 8)) (p : Int) : (flipAt bs p).length = bs.length := by simp [flipAt]
@[simp] theorem flips_length (ps : List Int) : ∀ bs : List (BitVec 8), (flips bs ps).length = bs.length := by
  induction ps with
  | nil => intro bs; rfl
  | cons p ps ih => intro bs; simp [flips] at ih ⊢; rw [ih, flipAt_length]
theorem flipAt_get (bs : List (BitVec 8)) (p : Int) (i : Nat) (h : i < (flipAt bs p).length) : (flipAt bs p)[i] = if 0 ≤ p ∧ p / 8 = (i : Int) then bs[i]'(by simpa using h) ^^^ (1#8 <<< (p % 8).toNat) else bs[i]'(by simpa using h) := by
  unfold flipAt
  exact List.getElem_mapIdx
theorem flipAt_comm (bs : List (BitVec 8)) (p q : Int) : flipAt (flipAt bs p) q = flipAt (flipAt bs q) p := by
  apply List.ext_getElem
  · simp
  · intro i h1 h2
    rw [flipAt_get, flipAt_get, flipAt_get, flipAt_get]
    split <;> split <;> try rfl
    rw [BitVec.xor_assoc, BitVec.xor_assoc, BitVec.xor_comm (1#8 <<< (p % 8).toNat)]
theorem flipAt_twice (bs : List (BitVec 8)) (p : Int) : flipAt (flipAt bs p) p = bs := by
  apply List.ext_getElem
  · simp
  · intro i h1 h2
    rw [flipAt_get, flipAt_get]
    split
    · rw [BitVec.xor_assoc, BitVec.xor_self, BitVec.xor_zero]
    · rfl
theorem flipAt_none {bs : List (BitVec 8)} {p : Int} (h : p < 0 ∨ 8 * (bs.length : Int) ≤ p) : flipAt bs p = bs := by
  apply List.ext_getElem
  · simp
  · intro i h1 h2
    rw [flipAt_get, if_neg (by omega)]
theorem flipAt_set {bs : List (BitVec 8)} {p : Nat} (h : p / 8 < bs.length) : flipAt bs (p : Int) = bs.set (p / 8) (bs[p / 8] ^^^ (1#8 <<< (p % 8))) := by
  apply List.ext_getElem
  · simp
  · intro i h1 h2
    rw [flipAt_get, List.getElem_set]
    by_cases hi : p / 8 = i
    · subst hi
      have : ((p : Int) % 8).toNat = p % 8 := by omega
      rw [if_pos (by omega), if_pos rfl, this]
    · rw [if_neg (by omega), if_neg hi]
theorem flips_flipAt (ps : List Int) : ∀ (bs : List (BitVec 8)) (p : Int), flips (flipAt bs p) ps = flipAt (flips bs ps) p := by
  induction ps with
  | nil => intro bs p; rfl
  | cons q ps ih =>
    intro bs p
    show flips (flipAt (flipAt bs p) q) ps = flipAt (flips (flipAt bs q) ps) p
    rw [flipAt_comm, ih]
theorem flips_twice (ps : List Int) : ∀ bs : List (BitVec 8), flips (flips bs ps) ps = bs := by
  induction ps with
  | nil => intro bs; rfl
  | cons p ps ih =>
    intro bs
    show flips (flipAt (flips (flipAt bs p) ps) p) ps = bs
    rw [flips_flipAt, ih, flipAt_twice]
theorem flips_append (bs : List (BitVec 8)) (ps qs : List Int) : flips bs (ps ++ qs) = flips (flips bs ps) qs := by simp [flips]
theorem flips_perm {ps qs : List Int} (h : ps.Perm qs) : ∀ bs : List (BitVec 8), flips bs ps = flips bs qs := by
  induction h with
  | nil => intro bs; rfl
  | cons x _ ih => intro bs; exact ih _
  | swap x y l => intro bs; show flips (flipAt (flipAt bs y) x) l = flips (flipAt (flipAt bs x) y) l; rw [flipAt_comm]
  | trans _ _ ih1 ih2 => intro bs; rw [ih1, ih2]
theorem flips_none {bs : List (BitVec 8)} : ∀ {ps : List Int}, (∀ p ∈ ps, p < 0 ∨ 8 * (bs.length : Int) ≤ p) → flips bs ps = bs
  | [], _ => rfl
  | p :: ps, h => by
    show flips (flipAt bs p) ps = bs
    rw [flipAt_none (h p (by simp))]
    exact flips_none fun q hq => h q (by simp [hq])
/-- A list, begun elsewhere. -/
theorem turned_perm (l : List Int) (c : Nat) (hc : c < l.length) : ((List.range l.length).map fun i => l.getD ((i + c) % l.length) 0).Perm l := by
  have e : ((List.range l.length).map fun i => l.getD ((i + c) % l.length) 0) = l.drop c ++ l.take c := by
    apply List.ext_getElem
    · simp; omega
    · intro i h1 h2
      simp at h1
      simp only [List.getElem_map, List.getElem_range, List.getElem_append, List.length_drop, List.getElem_drop, List.getElem_take]
      have hm : (i + c) % l.length < l.length := Nat.mod_lt _ (by omega)
      have hg : l.getD ((i + c) % l.length) 0 = l[(i + c) % l.length] := by simp [List.getD, List.getElem?_eq_getElem hm]
      rw [hg]
      split
      · congr 1
        rw [Nat.mod_eq_of_lt (by omega)]; omega
      · congr 1
        have : i + c = l.length + (i - (l.length - c)) := by omega
        rw [this, Nat.add_mod_left, Nat.mod_eq_of_lt (by omega)]
  rw [e]
  refine (List.perm_append_comm).trans ?_
  rw [List.take_append_drop]
/-- What the code computes for a turned bit. -/
theorem xor_bit (x : BitVec 8) (k : Nat) (hk : k < 8) : bitI .xor .u8 (x.toNat : Int) (IntKind.wrap .u8 ((1 : Int) * 2 ^ min k (IntKind.bits .u8))) = ((x ^^^ (1#8 <<< k)).toNat : Int) := by
  have h1 : ∀ k < 8, BitVec.ofInt 8 (IntKind.wrap .u8 ((1 : Int) * 2 ^ min k (IntKind.bits .u8))) = 1#8 <<< k := by decide
  show IntKind.wrap .u8 (((BitVec.ofInt 8 (x.toNat : Int) ^^^ BitVec.ofInt 8 (IntKind.wrap .u8 ((1 : Int) * 2 ^ min k (IntKind.bits .u8)))).toNat : Int)) = _
  rw [h1 k hk]
  have h2 : BitVec.ofInt 8 (x.toNat : Int) = x := by simp
  rw [h2]
  have := (x ^^^ 1#8 <<< k).isLt
  exact wu8 (by omega) (by omega)
/-- Bit p of a row of bytes. -/
def bitAt (bs : List (BitVec 8)) (p : Nat) : Bool := (bs.getD (p / 8) 0#8).getLsbD (p % 8)
/-- The places of the ones below n. -/
def onesTo (bs : List (BitVec 8)) (n : Nat) : List Nat := (List.range n).filter (bitAt bs)
def onesOf (bs : List (BitVec 8)) : List Nat := onesTo bs (8 * bs.length)
theorem onesTo_succ (bs : List (BitVec 8)) (n : Nat) : onesTo bs (n + 1) = onesTo bs n ++ (if bitAt bs n then [n] else []) := by
  simp only [onesTo, List.range_succ, List.filter_append]
  by_cases h : bitAt bs n <;> simp [h]
theorem onesTo_pre (bs : List (BitVec 8)) {p n : Nat} (h : p ≤ n) : ∃ t, onesTo bs n = onesTo bs p ++ t := by
  induction n with
  | zero => exact ⟨[], by simp [show p = 0 by omega]⟩
  | succ n ih =>
    by_cases hp : p = n + 1
    · exact ⟨[], by simp [hp]⟩
    · obtain ⟨t, ht⟩ := ih (by omega)
      exact ⟨_, by rw [onesTo_succ, ht, List.append_assoc]⟩
theorem onesOf_at {bs : List (BitVec 8)} {p : Nat} (hp : p < 8 * bs.length) (hb : bitAt bs p = true) : (onesOf bs)[(onesTo bs p).length]? = some p := by
  obtain ⟨t, ht⟩ := onesTo_pre bs (show p + 1 ≤ 8 * bs.length by omega)
  rw [onesOf, ht, onesTo_succ, if_pos hb]
  simp
theorem bit_and (x : BitVec 8) (j : Nat) (hj : j < 8) : (bitI .and .u8 (Int.fdiv (x.toNat : Int) (2 ^ min j (IntKind.bits .u8))) 1 == 1) = x.getLsbD j := by
  have h : ∀ (x : Fin 256) (j : Fin 8), (bitI .and .u8 (Int.fdiv ((BitVec.ofNat 8 x.val).toNat : Int) (2 ^ min j.val (IntKind.bits .u8))) 1 == 1) = (BitVec.ofNat 8 x.val).getLsbD j.val := by decide +kernel
  have e : BitVec.ofNat 8 x.toNat = x := by simp
  have := h ⟨x.toNat, x.isLt⟩ ⟨j, hj⟩
  simp only [e] at this
  exact this
end Go.Rk
