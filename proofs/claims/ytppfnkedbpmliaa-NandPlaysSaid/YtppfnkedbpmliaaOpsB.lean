/- Nothing is proved of the program here: every operation that the words of Core read is what the model carries out. -/
import Derived.Test.YtppfnkedbpmliaaOps
set_option linter.unusedSimpArgs false
set_option linter.unusedVariables false
namespace Go.Rk
open Go
variable {P : Program} {w : World} {r : Regs} {K : Value → World → Prop}

theorem range_zero : Array.range 0 = #[] := by decide
theorem pickV_eq (c : Bool) (x y : Value) : pickV c x y = if c then x else y := by
  unfold pickV
  split
  · cases c <;> rfl
  · split
    · subst_vars; cases c <;> rfl
    · cases c <;> rfl
  · cases c <;> rfl
theorem raw_out {s : Sem Value} (h : raw P s w K) : Res P K (Result.andThen (s.run P w) fun v w' => .ok (Next.value v) w') := by
  obtain ⟨v, w', h1, h2⟩ := h
  rw [h1]; exact h2
theorem wrap_i64 {n : Int} (h0 : 0 ≤ n) (h1 : n ≤ 281474976710656) : IntKind.i64.wrap n = n := by
  have h2 : (2 : Int) ^ IntKind.i64.bits = 18446744073709551616 := rfl
  have h3 : (2 : Int) ^ (IntKind.i64.bits - 1) = 9223372036854775808 := rfl
  unfold IntKind.wrap
  simp only [h2, h3]
  have : n % 18446744073709551616 = n := Int.emod_eq_of_lt h0 (by omega)
  rw [this]
  have : ¬ (n ≥ 9223372036854775808) := by omega
  simp [this]
theorem both_some {x y : Option Bool} {b : Bool} (h : both x y = some b) : ∃ p q, x = some p ∧ y = some q ∧ b = (p && q) := by
  unfold both at h
  split at h
  · simp at h; exact ⟨_, _, rfl, rfl, h.symm⟩
  · simp at h
theorem part_run {t : TypeId} {cs : Array Value} {off : Nat} {v : Value} (h : partV P t cs off = some v) : (part t cs off).run P w = .ok v w := by
  unfold partV at h
  split at h
  · rename_i hu
    obtain ⟨i, hi, hs⟩ := info_of_underlying hu
    simp at h; subst h
    simp [part, run_isAgg hu, aggDesc, run_sizeOf_some hi, hs]
  · rename_i hu
    obtain ⟨i, hi, hs⟩ := info_of_underlying hu
    simp at h; subst h
    simp [part, run_isAgg hu, aggDesc, run_sizeOf_some hi, hs]
  · rename_i d h1 h2 hu
    have hd : aggDesc d = false := by
      cases d <;> first | rfl | exact absurd rfl (h1 _) | exact absurd rfl (h2 _ _)
    simp [part, run_isAgg hu, hd, h]
  · simp at h
theorem eqB_run : ∀ (d : Nat) (t : TypeId) (x y : Value) (b : Bool), eqB P d t x y = some b → ∀ m, (Op.equalIn (d + m) t x y).run P w = .ok b w := by
  intro d
  induction d with
  | zero => intro t x y b h; simp [eqB] at h
  | succ d ih =>
    intro t x y b h m
    have hdm : d + 1 + m = (d + m) + 1 := by omega
    rw [hdm]
    unfold eqB at h
    split at h
    · rename_i hu
      simp at h; subst h
      exact run_equalIn_bool' w _ t _ _ hu
    · rename_i hu
      split at h
      · rename_i hk; simp at h; subst h; subst hk
        exact run_equalIn_int w _ t _ _ _ _ hu
      · simp at h
    · rename_i fs xs ys hu
      split at h
      · simp at h
      · rename_i hst
        have hf : P.fieldsOf t = fs := by simp [Program.fieldsOf, hu]
        rw [run_equalIn_agg w (d + m) t xs ys (by rw [hf]; exact hu) (by simpa using hst), hf]
        revert b
        induction fs.toList with
        | nil => intro b h; simp at h; subst h; simp [Op.eqFields]
        | cons f l ihl =>
          intro b h
          simp only [List.foldr_cons] at h
          split at h
          · rename_i hn
            simp only [Op.eqFields, hn, ne_eq, not_true_eq_false, if_false]
            exact ihl b h
          · rename_i hn
            split at h
            · rename_i a c ha hc
              obtain ⟨p, q, hp, hq, rfl⟩ := both_some h
              have hi := ihl q hq
              have he := ih f.type a c p hp m
              simp only [Op.eqFields, ne_eq, hn, not_false_eq_true, if_true, Sem.run_bind, part_run ha, part_run hc, Result.andThen, he]
              cases p
              · simp
              · simpa using hi
            · simp at h
    · rename_i n e xs ys hu
      split at h
      · simp at h
      rename_i hin
      obtain ⟨i, hi⟩ : ∃ i, P.info? e = some i := by
        cases hi : P.info? e with
        | none => simp [hi] at hin
        | some i => exact ⟨i, rfl⟩
      have hce : P.cellsOf e = i.size := by simp [Program.cellsOf, hi]
      rw [hce] at h
      simp only [Op.equalIn, Sem.run_bind, run_underlying_some hu, Result.andThen, run_sizeOf_some hi]
      simp only [Std.Legacy.Range.forIn_eq_forIn_range', Std.Legacy.Range.size, Nat.sub_zero, Nat.add_sub_cancel, Nat.div_one]
      generalize List.range' 0 n = l at h ⊢
      revert b
      induction l with
      | nil => intro b h; simp at h; subst h; simp
      | cons k l ihl =>
        intro b h
        simp only [List.foldr_cons] at h
        split at h
        · rename_i a c ha hc
          obtain ⟨p, q, hp, hq, rfl⟩ := both_some h
          have hi := ihl q hq
          have he := ih e a c p hp m
          simp only [List.forIn_cons, Sem.run_bind, part_run ha, part_run hc, Result.andThen, he]
          cases p
          · simp
          · simpa using hi
        · simp at h
    · simp at h
theorem build_out {o : Oper} (h : Res1 K ((execOp (ev r) o).run P w)) : Res P K ((execOp (ev r) o).run P w) := .of1 h
theorem run_sliceBound_some {n : Int} {q : IntKind} {m : Nat} {c : BoundsCode} (h0 : 0 ≤ n) (h1 : n ≤ (m : Int)) : (Instr.sliceBound (.int q n) m c).run P w = .ok n.toNat w := by
  simp [Instr.sliceBound, asIntOf, h0, h1]

theorem slice_out {t e : TypeId} {a : Option Addr} {l c : Nat} {lo hi : Option Value} {lo' hi' : Option Int} {J : Sl → Prop} (hu : P.underlying t = some (.slice e)) (hl : intOpt lo = some lo') (hh : intOpt hi = some hi')
    (he : (P.info? e).isSome = true) (h : slc a l c lo' hi' (P.cellsOf e) J) : ∃ s : Sl, (∀ w, (Instr.sliceAt t (.slice a l c) lo hi none).run P w = .ok (.slice s.a s.l s.c) w) ∧ J s := by
  obtain ⟨i, hi'⟩ := Option.isSome_iff_exists.1 he
  have hs : P.cellsOf e = i.size := by simp [Program.cellsOf, hi']
  rw [hs] at h
  have key : ∀ (w : World) (x y z : Nat), (Instr.sliceBounds true l c lo hi none).run P w = .ok (x, y, z) w →
      (Instr.sliceAt t (.slice a l c) lo hi none).run P w = .ok (.slice (if z = x then a else a.map (·.add (x * i.size))) (y - x) (z - x)) w := by
    intro w x y z hb
    simp only [Instr.sliceAt, Sem.run_bind, run_underlying_some hu, Result.andThen, Instr.slice, hb, run_sizeOf_some hi', Sem.run_pure]
  have li : ∀ (v : Option Value) (n : Int), intOpt v = some (some n) → ∃ q, v = some (.int q n) := by
    intro v n hv
    unfold intOpt at hv
    split at hv <;> simp at hv
    subst hv; exact ⟨_, rfl⟩
  have ln : ∀ (v : Option Value), intOpt v = some none → v = none := by
    intro v hv
    unfold intOpt at hv
    split at hv <;> simp at hv
    rfl
  unfold slc at h
  split at h
  · have e1 := ln _ hl; have e2 := ln _ hh; subst e1; subst e2
    exact ⟨_, fun w => key w 0 l c (by simp [Instr.sliceBounds]), h⟩
  · rename_i n
    obtain ⟨q, e1⟩ := li _ _ hl; have e2 := ln _ hh; subst e1; subst e2
    obtain ⟨h0, h1, h⟩ := h
    exact ⟨_, fun w => key w n.toNat l c (by simp [Instr.sliceBounds, run_sliceBound_some h0 h1]), h⟩
  · rename_i n
    obtain ⟨q, e1⟩ := li _ _ hh; have e2 := ln _ hl; subst e1; subst e2
    obtain ⟨h0, h1, h⟩ := h
    exact ⟨_, fun w => key w 0 n.toNat c (by simp [Instr.sliceBounds, run_sliceBound_some h0 h1]), h⟩
  · rename_i n m
    obtain ⟨q, e1⟩ := li _ _ hl; obtain ⟨q2, e2⟩ := li _ _ hh; subst e1; subst e2
    obtain ⟨h0, h1, h2, h⟩ := h
    have h3 : n ≤ ((m.toNat : Nat) : Int) := by omega
    exact ⟨_, fun w => key w n.toNat m.toNat c (by simp [Instr.sliceBounds, run_sliceBound_some (by omega : 0 ≤ m) h2, run_sliceBound_some h0 h3]), h⟩

theorem makeSlice_out {t e : TypeId} {i : TypeInfo} {z : Value} {q q' : IntKind} {l c : Int} (hu : P.underlying t = some (.slice e)) (hi : P.info? e = some i) (hz : i.zero = some z)
    (h0 : 0 ≤ l) (h1 : l ≤ c) (h2 : (i.bytes : Int) * c ≤ 281474976710656) (h3 : c ≤ 281474976710656) :
    (Instr.makeSlice t (.int q l) (.int q' c)).run P w = .ok (.slice (some ⟨w.heap.size, 0, none⟩) l.toNat c.toNat) (w.alloc (.cells (zeroRow z.cells (c.toNat * i.size)) e)) := by
  have wl := wrap_i64 h0 (by omega : l ≤ 281474976710656)
  have wc := wrap_i64 (by omega : 0 ≤ c) h3
  have n1 : ¬ c < 0 := by omega
  have n2 : ¬ l < 0 := by omega
  have n3 : ¬ l > c := by omega
  have n4 : ¬ ((i.bytes : Int) * c > 281474976710656) := by omega
  have askR : ∀ (n : Nat) (W : World), (askRoom n).run P W = .ok () W := by
    intro n W
    unfold askRoom
    split <;> simp [mark, Sem.run]
  simp only [Instr.makeSlice, Sem.run_bind, run_underlying_some hu, Result.andThen, asInt, asIntOf, Sem.run_pure, run_typeInfo_some hi, wl, wc, n1, n2, n3, n4, decide_false, Bool.or_false, Bool.false_eq_true, if_false, Int.reducePow,
    run_sizeOf_some hi, askR]
  have hz' := run_zeroValue_some (P := P) (w := w) hi hz
  by_cases hn : c.toNat * i.size = 0
  · simp [hn, newRow, newObj, Sem.run, zeroRow, range_zero]
  · simp [hn, newRow, newObj, Sem.run, zeroRow, hz']

theorem alloc_run {t : TypeId} {i : TypeInfo} {z : Value} (hi : P.info? t = some i) (hz : i.zero = some z) :
    (Instr.alloc t true (.tuple #[])).run P w = .ok (.pointer (some ⟨w.heap.size, 0, none⟩)) (w.alloc (.cells z.cells t)) := by
  simp [Instr.alloc, run_zeroValue_some hi hz, newVar, newRow, newObj, Sem.run]
theorem box_run {t : TypeId} {x : Value} : (Instr.box t x).run P w = .ok (.pointer (some ⟨w.heap.size, 0, none⟩)) (w.alloc (.cells x.cells t)) := by
  simp [Instr.box, newVar, newRow, newObj, Sem.run]
theorem buildSlice_run {t e : TypeId} {n : Nat} {parts : Array (Nat × Value)} {cs : Array Value} (hu : P.underlying t = some (.slice e)) (hn : n * P.cellsOf e ≤ 1000) (hc : sliceCells P e n parts.toList = some cs) :
    (Instr.buildSlice t n parts).run P w = .ok (.slice (some ⟨w.heap.size, 0, none⟩) n n) (w.alloc (.cells cs e)) := by
  unfold sliceCells at hc
  cases hi : P.info? e with
  | none => simp [hi] at hc
  | some i =>
    cases hz : i.zero with
    | none => simp [hi, hz] at hc
    | some z =>
      simp only [hi, hz] at hc
      have hs : P.cellsOf e = i.size := by simp [Program.cellsOf, hi]
      rw [hs] at hn
      have hz' := run_zeroValue_some (P := P) (w := w) hi hz
      have hbig : ¬ (n * i.size > 16777216) := by omega
      by_cases h0 : n * i.size = 0
      · have e0 : ((Array.range (n * i.size)).map (z.cells[· % z.cells.size]!)) = ((Array.range (n * i.size)).map ((#[] : Array Value)[· % 0]!)) := by rw [h0, range_zero]; simp
        rw [e0, h0] at hc
        have hc' : Instr.fill (fun j => some (j * i.size, i.size)) (Array.map (fun _ => (default : Value)) (Array.range 0)) parts.toList = some cs := by simpa using hc
        simp [Instr.buildSlice, run_underlying_some hu, run_sizeOf_some hi, h0, newRow, newObj, Sem.run] at hc' ⊢
        simp [hc', newRow, newObj, Sem.run]
      · simp only [Instr.buildSlice, Sem.run_bind, run_underlying_some hu, Result.andThen, run_sizeOf_some hi, Int.reducePow, Nat.reducePow, hbig, if_false, h0, hz', Sem.run_pure, hc]
        simp [newRow, newObj, Sem.run]
end Go.Rk
