/- Nothing is proved of the program here: one operation, whole. -/
import Derived.Test.YtppfnkedbpmliaaOpsB
set_option linter.unusedSimpArgs false
set_option linter.unusedVariables false
namespace Go.Rk
open Go
variable {P : Program} {w : World} {r : Regs} {K : Value → World → Prop}

theorem eqB_binOp {t : TypeId} {xs ys : Array Value} {b : Bool} (h : eqB P 6 t (.agg xs) (.agg ys) = some b) : (Op.equalIn 10000 t (.agg xs) (.agg ys)).run P w = .ok b w :=
  eqB_run 6 t _ _ b h 9994
theorem eqGuard_none {op : BinOp} {t : TypeId} {x y : Operand} {a b : Value} (h : op ≠ .eql) (h2 : op ≠ .neq) : (eqGuard op t x y a b).run P w = .ok () w := by
  cases op <;> first | exact absurd rfl h | exact absurd rfl h2 | simp [eqGuard]
theorem eqGuard_ptr {op : BinOp} {t : TypeId} {x y : Operand} {a : Option Addr} {b : Value} : (eqGuard op t x y (.pointer a) b).run P w = .ok () w := by
  cases op <;> simp [eqGuard]
theorem eqGuard_sl {op : BinOp} {t : TypeId} {x y : Operand} {a : Option Addr} {l c : Nat} {b : Value} : (eqGuard op t x y (.slice a l c) b).run P w = .ok () w := by
  cases op <;> simp [eqGuard]

theorem equalIn_ptr (d : Nat) {t e : TypeId} {a : Option Addr} (hu : P.underlying t = some (.pointer e)) : (Op.equalIn (d + 1) t (.pointer a) (.pointer none)).run P w = .ok a.isNone w := by
  cases a <;> simp [Op.equalIn, run_underlying_some hu]
theorem equalIn_sl (d : Nat) {t e : TypeId} {a : Option Addr} {l c l' c' : Nat} (hu : P.underlying t = some (.slice e)) : (Op.equalIn (d + 1) t (.slice a l c) (.slice none l' c')).run P w = .ok a.isNone w := by
  cases a <;> simp [Op.equalIn, run_underlying_some hu]
theorem eql_ptr {t e : TypeId} {a : Option Addr} (hu : P.underlying t = some (.pointer e)) : (binOp .eql t (.pointer a) (.pointer none)).run P w = .ok (.bool a.isNone) w := by
  simp only [binOp]
  show ((Op.equalIn (9999 + 1) t (.pointer a) (.pointer none)) >>= fun b => pure (Value.bool b)).run P w = _
  rw [Sem.run_bind, equalIn_ptr 9999 hu]; rfl
theorem neq_ptr {t e : TypeId} {a : Option Addr} (hu : P.underlying t = some (.pointer e)) : (binOp .neq t (.pointer a) (.pointer none)).run P w = .ok (.bool (!a.isNone)) w := by
  simp only [binOp]
  show ((Op.equalIn (9999 + 1) t (.pointer a) (.pointer none)) >>= fun b => pure (Value.bool (!b))).run P w = _
  rw [Sem.run_bind, equalIn_ptr 9999 hu]; rfl
theorem eql_sl {t e : TypeId} {a : Option Addr} {l c l' c' : Nat} (hu : P.underlying t = some (.slice e)) : (binOp .eql t (.slice a l c) (.slice none l' c')).run P w = .ok (.bool a.isNone) w := by
  simp only [binOp]
  show ((Op.equalIn (9999 + 1) t (.slice a l c) (.slice none l' c')) >>= fun b => pure (Value.bool b)).run P w = _
  rw [Sem.run_bind, equalIn_sl 9999 hu]; rfl
theorem neq_sl {t e : TypeId} {a : Option Addr} {l c l' c' : Nat} (hu : P.underlying t = some (.slice e)) : (binOp .neq t (.slice a l c) (.slice none l' c')).run P w = .ok (.bool (!a.isNone)) w := by
  simp only [binOp]
  show ((Op.equalIn (9999 + 1) t (.slice a l c) (.slice none l' c')) >>= fun b => pure (Value.bool (!b))).run P w = _
  rw [Sem.run_bind, equalIn_sl 9999 hu]; rfl
theorem bin_run {o : Oper} {op : BinOp} {t yt : TypeId} {x y : Operand} {v : Value} (ho : o.op = .binOp op t x y yt) (hg : (eqGuard op t x y (ev r x) (ev r y)).run P w = .ok () w)
    (hb : (binOp op t (ev r x) (ev r y)).run P w = .ok v w) : (execOp (ev r) o).run P w = .ok (.value v) w := by
  simp only [execOp, ho, Sem.run_bind, hg, Result.andThen, hb, Sem.run_pure]
theorem eqGuard_int {op : BinOp} {t : TypeId} {x y : Operand} {k : IntKind} {a : Int} {b : Value} : (eqGuard op t x y (.int k a) b).run P w = .ok () w := by
  cases op <;> simp [eqGuard]
theorem eqGuard_bool {op : BinOp} {t : TypeId} {x y : Operand} {a : Bool} {b : Value} : (eqGuard op t x y (.bool a) b).run P w = .ok () w := by
  cases op <;> simp [eqGuard]
theorem eqGuard_str {op : BinOp} {t : TypeId} {x y : Operand} {a : ByteArray} {b : Value} : (eqGuard op t x y (.string a) b).run P w = .ok () w := by
  cases op <;> simp [eqGuard]
theorem equalIn_bool (d : Nat) {t : TypeId} {a b : Bool} (hu : P.underlying t = some .bool) : (Op.equalIn (d + 1) t (.bool a) (.bool b)).run P w = .ok (a == b) w := by
  simp [Op.equalIn, run_underlying_some hu]
theorem eql_bool {t : TypeId} {a b : Bool} (hu : P.underlying t = some .bool) : (binOp .eql t (.bool a) (.bool b)).run P w = .ok (.bool (a == b)) w := by
  simp only [binOp]
  show ((Op.equalIn (9999 + 1) t (.bool a) (.bool b)) >>= fun b => pure (Value.bool b)).run P w = _
  rw [Sem.run_bind, equalIn_bool 9999 hu]; rfl
theorem neq_bool {t : TypeId} {a b : Bool} (hu : P.underlying t = some .bool) : (binOp .neq t (.bool a) (.bool b)).run P w = .ok (.bool (!(a == b))) w := by
  simp only [binOp]
  show ((Op.equalIn (9999 + 1) t (.bool a) (.bool b)) >>= fun b => pure (Value.bool (!b))).run P w = _
  rw [Sem.run_bind, equalIn_bool 9999 hu]; rfl
variable {J : Value → Prop}
theorem binI_out {op : BinOp} {t : TypeId} {k : IntKind} {a b : Int} (h1 : op ≠ .shl) (h2 : op ≠ .shr) (h : binI op k a b J) : ∃ v, (∀ w, (binOp op t (.int k a) (.int k b)).run P w = .ok v w) ∧ J v := by
  cases op <;> simp only [binI] at h <;> first | exact absurd rfl h1 | exact absurd rfl h2 | skip
  case quo => obtain ⟨hb, h⟩ := h; exact ⟨_, fun w => by simp [binOp, Op.intDiv, hb], h⟩
  case rem => obtain ⟨hb, h⟩ := h; exact ⟨_, fun w => by simp [binOp, Op.intDiv, hb], h⟩
  all_goals (refine ⟨_, fun w => ?_, h⟩; simp [binOp, Op.intArith, Op.intCmp, Op.intBits, bitI])
theorem bin_out {o : Oper} {op : BinOp} {t yt : TypeId} {x y : Operand} (ho : o.op = .binOp op t x y yt) (h : binV P op t (ev r x) (ev r y) J) :
    ∃ v, (∀ w, (execOp (ev r) o).run P w = .ok (.value v) w) ∧ J v := by
  unfold binV at h
  split at h
  · rename_i k a k' b hx hy
    split at h
    · obtain ⟨hb, h⟩ := h
      exact ⟨_, fun w => bin_run ho (by rw [hx]; exact eqGuard_int) (by simp [hx, hy, binOp, Op.shift, Int.not_lt.2 hb]), h⟩
    · obtain ⟨hb, h⟩ := h
      exact ⟨_, fun w => bin_run ho (by rw [hx]; exact eqGuard_int) (by simp [hx, hy, binOp, Op.shift, Int.not_lt.2 hb]), h⟩
    · rename_i h1 h2
      split at h
      · rename_i hk; subst hk
        obtain ⟨v, hv, h⟩ := binI_out (t := t) h1 h2 h
        exact ⟨v, fun w => bin_run ho (by rw [hx]; exact eqGuard_int) (by rw [hx, hy]; exact hv w), h⟩
      · exact h.elim
  · rename_i a b hx hy
    split at h
    · rename_i hb
      have hu : P.underlying t = some .bool := by
        unfold isBoolT at hb; split at hb
        · assumption
        · simp at hb
      split at h
      · exact ⟨_, fun w => bin_run ho (by rw [hx]; exact eqGuard_bool) (by rw [hx, hy]; exact eql_bool hu), h⟩
      · exact ⟨_, fun w => bin_run ho (by rw [hx]; exact eqGuard_bool) (by rw [hx, hy]; exact neq_bool hu), h⟩
      · exact h.elim
    · exact h.elim
  · rename_i a b hx hy
    split at h
    · exact ⟨_, fun w => bin_run ho (by rw [hx]; exact eqGuard_str) (by simp [hx, hy, binOp, Op.stringOp]), h⟩
    · exact ⟨_, fun w => bin_run ho (by rw [hx]; exact eqGuard_str) (by simp [hx, hy, binOp, Op.stringOp]), h⟩
    · exact h.elim
  · rename_i a hx hy
    split at h
    · rename_i hb
      obtain ⟨e, hu⟩ : ∃ e, P.underlying t = some (.pointer e) := by
        unfold isNilPtr at hb; split at hb
        · exact ⟨_, by assumption⟩
        · simp at hb
      split at h
      · exact ⟨_, fun w => bin_run ho (by rw [hx]; exact eqGuard_ptr) (by rw [hx, hy]; exact eql_ptr hu), h⟩
      · exact ⟨_, fun w => bin_run ho (by rw [hx]; exact eqGuard_ptr) (by rw [hx, hy]; exact neq_ptr hu), h⟩
      · exact h.elim
    · exact h.elim
  · rename_i a l c l' c' hx hy
    split at h
    · rename_i hb
      obtain ⟨e, hu⟩ : ∃ e, P.underlying t = some (.slice e) := by
        unfold isNilSl at hb; split at hb
        · exact ⟨_, by assumption⟩
        · simp at hb
      split at h
      · exact ⟨_, fun w => bin_run ho (by rw [hx]; exact eqGuard_sl) (by rw [hx, hy]; exact eql_sl hu), h⟩
      · exact ⟨_, fun w => bin_run ho (by rw [hx]; exact eqGuard_sl) (by rw [hx, hy]; exact neq_sl hu), h⟩
      · exact h.elim
    · exact h.elim
  · rename_i xs ys hx hy
    split at h
    · rename_i b hb
      split at h
      · rename_i hg
        split at h
        · exact ⟨_, fun w => bin_run ho (by rw [hx, hy]; exact run_eqGuard_agg w _ _ _ _ _ _ hg) (by rw [hx, hy, run_eql_struct, eqB_binOp hb]; rfl), h⟩
        · exact ⟨_, fun w => bin_run ho (by rw [hx, hy]; exact run_eqGuard_agg w _ _ _ _ _ _ hg) (by rw [hx, hy, run_neq_struct, eqB_binOp hb]; rfl), h⟩
        · exact h.elim
      · exact h.elim
    · exact h.elim
  · exact h.elim

theorem enters_of_hasB {f : FuncId} {args : Array Value} (h : hasB P f = true) : (callFunc f args).run P w = .ok (.enter f args) w := by
  unfold hasB at h
  split at h
  · rename_i fn hf
    simp only [Bool.and_eq_true, bne_iff_ne, ne_eq] at h
    have h2 : (fn.name == "runtime.NumGoroutine") = false := by simpa using h.2
    have h3 : fn.body.isNone = false := by cases hb : fn.body <;> simp [hb] at h ⊢
    simp only [callFunc, program, Sem.run_bind, Sem.run, Sem.run_pure', Result.andThen, hf, h2, h3, Bool.false_eq_true, if_false, Sem.run_pure]
  · simp at h

theorem args_eq (c : Call) : (c.args.toList.map (ev r)).toArray = c.args.map (ev r) := by
  rw [← Array.toList_map, Array.toArray_toList]
theorem args_lit {c : Call} {l : List Value} (h : c.args.toList.map (ev r) = l) : c.args.map (ev r) = l.toArray := by
  rw [← h, args_eq]
theorem call_out {o : Oper} {c : Call} (ho : o.op = .call c) (h : callV P r o c w K) : Res P K ((execOp (ev r) o).run P w) := by
  unfold callV at h
  split at h
  · rename_i fo hc
    split at h
    · rename_i f first cap hf
      have h1 := h.1
      have h2 := Ok.mono h (fun v w' hv => Kd.norm_out hv)
      have hrun : (execOp (ev r) o).run P w = .ok (.enter f (first ++ c.args.map (ev r) ++ cap)) w := by
        simp only [execOp, ho, Sem.run_bind, resolve, hc, hf, Deferred.ofValue, Sem.run_pure, Result.andThen, invoke]
        exact enters_of_hasB h1
      rw [hrun]
      show Ok P f (first ++ c.args.map (ev r) ++ cap).toList w K
      simpa using h2
    · rename_i l first cap hf
      have h2 := OkY.mono h (fun v w' hv => Kd.norm_out hv)
      obtain ⟨fn, tmps, assign, body, hy, hr⟩ := h2
      have hrun : (execOp (ev r) o).run P w = .ok (.round l fn tmps assign body) w := by
        simp only [execOp, ho, Sem.run_bind, resolve, hc, hf, Deferred.ofValue, Sem.run_pure, Result.andThen, invoke]
        rw [← hy]; congr 2
        simp
      rw [hrun]; exact hr
    · exact h.elim
  · rename_i hc
    rw [args_eq] at h
    obtain ⟨v, w', h1, h2⟩ := h
    have hrun : (execOp (ev r) o).run P w = .ok (.value v) w' := by
      simp [execOp, ho, resolve, hc, invoke, builtin, h1]
    rw [hrun]; exact Kd.norm_out h2
  · rename_i hc
    rw [args_eq] at h
    obtain ⟨v, w', h1, h2⟩ := h
    have hrun : (execOp (ev r) o).run P w = .ok (.value v) w' := by
      simp [execOp, ho, resolve, hc, invoke, builtin, h1]
    rw [hrun]; exact Kd.norm_out h2
  · exact h.elim
theorem blt_out {o : Oper} {c : Call} {b : Builtin} (ho : o.op = .call c) (hc : c.callee = .builtin b) (h : bltV P r c b J) : ∃ v, (∀ w, (execOp (ev r) o).run P w = .ok (.value v) w) ∧ J v := by
  unfold bltV at h
  split at h
  · split at h
    · rename_i t x ht hx
      have ha := args_lit hx
      have hT : c.argTypes = #[t] := by rw [← Array.toArray_toList (xs := c.argTypes), ht]
      unfold lenV at h
      split at h
      · rename_i hu
        exact ⟨_, fun w => by simp [execOp, ho, resolve, hc, invoke, builtin, Builtin.len_, ha, hT, run_underlying_some hu, goInt], h⟩
      · rename_i hu
        exact ⟨_, fun w => by simp [execOp, ho, resolve, hc, invoke, builtin, Builtin.len_, ha, hT, run_underlying_some hu, goInt], h⟩
      · rename_i hu
        exact ⟨_, fun w => by simp [execOp, ho, resolve, hc, invoke, builtin, Builtin.len_, ha, hT, run_underlying_some hu, goInt], h⟩
      · exact h.elim
    · exact h.elim
  · split at h
    · rename_i t x ht hx
      have ha := args_lit hx
      have hT : c.argTypes = #[t] := by rw [← Array.toArray_toList (xs := c.argTypes), ht]
      unfold capV at h
      split at h
      · rename_i hu
        exact ⟨_, fun w => by simp [execOp, ho, resolve, hc, invoke, builtin, Builtin.cap_, ha, hT, run_underlying_some hu, goInt], h⟩
      · exact h.elim
    · exact h.elim
  · split at h
    · rename_i hx
      have ha := args_lit hx
      exact ⟨_, fun w => by simp [execOp, ho, resolve, hc, invoke, builtin, Builtin.max_, ha, Builtin.max2], h⟩
    · exact h.elim
  · split at h
    · rename_i hx
      have ha := args_lit hx
      exact ⟨_, fun w => by simp [execOp, ho, resolve, hc, invoke, builtin, Builtin.min_, ha, Builtin.min2], h⟩
    · exact h.elim
  · exact h.elim
theorem known_some {t : TypeId} (h : known P t = true) : ∃ i, P.info? t = some i ∧ P.cellsOf t = i.size := by
  obtain ⟨i, hi⟩ := Option.isSome_iff_exists.1 h
  exact ⟨i, hi, by simp [Program.cellsOf, hi]⟩
theorem places_run : ∀ (fs : List Field), fs.all (fun f => known P f.type) = true →
    (fs.mapM (m := Sem) fun f => do pure (f.offset, ← sizeOf f.type)).run P w = .ok (fs.map fun f => (f.offset, P.cellsOf f.type)) w
  | [], _ => by simp
  | f :: fs, h => by
    simp only [List.all_cons, Bool.and_eq_true] at h
    obtain ⟨i, hi, hs⟩ := known_some h.1
    have ih := places_run fs h.2
    simp only [List.mapM_cons, Sem.run_bind, run_sizeOf_some hi, Result.andThen, Sem.run_pure, ih, hs, List.map_cons]
theorem buildV_out {o : Oper} {t : TypeId} {parts : Array (Nat × Operand)} {v : Value} (ho : o.op = .build t parts) (h : buildV P t (parts.toList.map fun x => (x.1, ev r x.2)) = some v) :
    (execOp (ev r) o).run P w = .ok (.value v) w := by
  have hp : (parts.map fun (x : Nat × Operand) => (x.1, ev r x.2)).toList = parts.toList.map fun x => (x.1, ev r x.2) := by simp
  unfold buildV at h
  split at h
  · rename_i i hi
    split at h
    · rename_i z hz
      split at h
      · rename_i fs hu
        split at h
        · rename_i hk
          have hpl : (fs.mapM (m := Sem) fun f => do pure (f.offset, ← sizeOf f.type)).run P w = .ok (fs.map fun f => (f.offset, P.cellsOf f.type)) w := by
            rw [Array.mapM_eq_mapM_toList]
            simp only [Sem.run_map, places_run _ hk, Result.andThen]
            congr 1
            rw [← Array.toList_map, Array.toArray_toList]
          cases hf : Instr.fill (fun j => (fs.map fun f => (f.offset, P.cellsOf f.type))[j]?) z.cells (parts.toList.map fun x => (x.1, ev r x.2)) with
          | none => rw [hf] at h; simp at h
          | some cells =>
            rw [hf] at h; simp only [Option.map_some, Option.some.injEq] at h; subst h
            simp only [execOp, ho, Instr.build, Sem.run_bind, run_zeroValue_some hi hz, Result.andThen, run_underlying_some hu, hpl, hp, hf, Sem.run_pure]
        · simp at h
      · rename_i n e hu
        split at h
        · rename_i hk
          obtain ⟨ie, hie, hs⟩ := known_some hk
          rw [hs] at h
          cases hf : Instr.fill (fun j => some (j * ie.size, ie.size)) z.cells (parts.toList.map fun x => (x.1, ev r x.2)) with
          | none => rw [hf] at h; simp at h
          | some cells =>
            rw [hf] at h; simp only [Option.map_some, Option.some.injEq] at h; subst h
            simp only [execOp, ho, Instr.build, Sem.run_bind, run_zeroValue_some hi hz, Result.andThen, run_underlying_some hu, run_sizeOf_some hie, hp, hf, Sem.run_pure]
        · simp at h
      · simp at h
    · simp at h
  · simp at h

/-- **An operation that leaves the world as it is, and looks at none of it.** -/
theorem valP_out {o : Oper} (hR : isRead o = false) (h : valV P r o w J) : ∃ v, (∀ w, (execOp (ev r) o).run P w = .ok (.value v) w) ∧ J v := by
  unfold valV at h
  split at h
  · rename_i x ho; exact ⟨_, fun w => by simp only [execOp, ho, Sem.run_pure], h⟩
  · rename_i x ho; exact ⟨_, fun w => by simp only [execOp, ho, Sem.run_pure], h⟩
  · rename_i c a b ho
    split at h
    · rename_i t hc
      rw [pickV_eq] at h
      exact ⟨_, fun w => by simp only [execOp, ho, Sem.run_bind, hc, asBool, Sem.run_pure, Result.andThen], h⟩
    · exact h.elim
  · rename_i t x ho; simp [isRead, ho] at hR
  · rename_i t x i ho
    split at h
    · rename_i e a l c q n hu hx hi
      split at h
      · rename_i hk
        obtain ⟨b, rfl, h0, h1, h⟩ := h
        obtain ⟨inf, hinf, hs⟩ := known_some hk
        rw [hs] at h
        exact ⟨_, fun w => by simp only [execOp, ho, Sem.run_bind, Instr.indexAt, hx, hi, asIntOf, Sem.run_pure, Result.andThen, run_underlying_some hu, h0, h1, and_self, if_true, run_sizeOf_some hinf], h⟩
      · exact h.elim
    · rename_i m e a q n hu hx hi
      split at h
      · rename_i hk
        obtain ⟨h0, h1, h⟩ := h
        obtain ⟨inf, hinf, hs⟩ := known_some hk
        rw [hs] at h
        exact ⟨_, fun w => by simp only [execOp, ho, Sem.run_bind, Instr.indexAt, hx, hi, asIntOf, Sem.run_pure, Result.andThen, run_underlying_some hu, Instr.sureAddr, h0, h1, and_self, if_true, run_sizeOf_some hinf], h⟩
      · exact h.elim
    · exact h.elim
  · rename_i t x lo hi ho
    split at h
    · rename_i e a l c lo' hi' hu hx hlo hhi
      split at h
      · rename_i hE
        obtain ⟨s, h1, h2⟩ := slice_out hu hlo hhi hE h
        refine ⟨_, fun w => ?_, h2⟩
        simp only [execOp, ho, Sem.run_bind, hx, Option.map_none]
        rw [h1 w]; rfl
      · exact h.elim
    · exact h.elim
  · rename_i t x i ho
    split at h
    · rename_i m e cs q n hu hx hi
      split at h
      · rename_i hcx
        obtain ⟨hce, hone⟩ := hcx
        obtain ⟨h0, h1, v, hv, h⟩ := h
        obtain ⟨d, hd, hagg⟩ : ∃ d, P.underlying e = some d ∧ aggDesc d = false := by
          unfold oneT at hone
          split at hone
          · rename_i d hd; exact ⟨d, hd, by simpa using hone⟩
          · simp at hone
        obtain ⟨inf, hinf, hs⟩ := info_of_underlying hd
        have hsz : inf.size = 1 := by rw [← hs, hce]
        refine ⟨v, fun w => ?_, Kd.norm_out h⟩
        simp only [execOp, ho, Sem.run_bind, Instr.index, hx, hi, asIntOf, Sem.run_pure, Result.andThen, run_underlying_some hu, h0, h1, and_self, if_true, run_sizeOf_some hinf, part, run_isAgg hd, hagg, hsz, Nat.mul_one, hv, Bool.false_eq_true, if_false]
      · exact h.elim
    · exact h.elim
  · rename_i x ho
    split at h
    · rename_i a ha
      obtain ⟨b, rfl, h⟩ := h
      exact ⟨_, fun w => by simp only [execOp, ho, ha, Sem.run_pure], h⟩
    · rename_i f u v ha
      exact ⟨_, fun w => by simp only [execOp, ho, ha, Sem.run_pure], h⟩
    · rename_i f u v ha
      exact ⟨_, fun w => by simp only [execOp, ho, ha, Sem.run_pure], h⟩
    · exact h.elim
  · rename_i op t x y yt ho
    exact bin_out ho h
  · rename_i op t x ho
    split at h
    · rename_i b hb; exact ⟨_, fun w => by simp [execOp, ho, hb, Op.unary], h⟩
    · rename_i k n hb; exact ⟨_, fun w => by simp [execOp, ho, hb, Op.unary, Op.intArith], h⟩
    · rename_i k n hb; exact ⟨_, fun w => by simp [execOp, ho, hb, Op.unary, Op.intBits, bitI], h⟩
    · exact h.elim
  · rename_i s t x ho; simp [isRead, ho] at hR
  · rename_i s x f ho
    split at h
    · rename_i fs a hu hx
      split at h
      · rename_i fd hf
        split at h
        · rename_i hk
          obtain ⟨hk, hne⟩ := hk
          obtain ⟨inf, hinf, hs⟩ := known_some hk
          rw [hs] at hne
          exact ⟨_, fun w => by simp [execOp, ho, Instr.fieldAt, run_underlying_some hu, hf, hx, Instr.sureAddr, fieldPlace, run_sizeOf_some hinf, hne], h⟩
        · exact h.elim
      · exact h.elim
    · exact h.elim
  · rename_i t x f ho
    split at h
    · rename_i fs cs hu hx
      split at h
      · rename_i fd hf
        split at h
        · rename_i v hv
          exact ⟨_, fun w => by simp [execOp, ho, Instr.field, run_underlying_some hu, hf, hx, asAgg, part_run hv], h⟩
        · exact h.elim
      · exact h.elim
    · exact h.elim
  · rename_i x i ho
    split at h
    · rename_i vs hx
      split at h
      · rename_i v hv
        exact ⟨_, fun w => by simp [execOp, ho, Instr.extract, hx, hv], h⟩
      · exact h.elim
    · exact h.elim
  · rename_i t parts ho
    split at h
    · rename_i v hv
      exact ⟨v, fun w => buildV_out ho hv, h⟩
    · exact h.elim
  · rename_i fn first cap ho
    refine ⟨_, fun w => ?_, h⟩
    have e1 : (first.toList.map (ev r)).toArray = first.map (ev r) := by rw [← Array.toList_map, Array.toArray_toList]
    have e2 : (cap.toList.map (ev r)).toArray = cap.map (ev r) := by rw [← Array.toList_map, Array.toArray_toList]
    rw [e1, e2]
    simp [execOp, ho, Instr.makeFunc]
  · rename_i b args ts ho
    exact blt_out ho rfl h
  · exact h.elim

/-- **An operation that leaves the world as it is.** -/
theorem valV_out {o : Oper} (h : valV P r o w J) : ∃ v, (execOp (ev r) o).run P w = .ok (.value v) w ∧ J v := by
  cases hR : isRead o with
  | false =>
    obtain ⟨v, h1, h2⟩ := valP_out hR h
    exact ⟨v, h1 w, h2⟩
  | true =>
    unfold valV at h
    unfold isRead at hR
    split at hR
    · rename_i t x ho
      simp only [ho] at h
      split at h
      · rename_i a ha
        obtain ⟨v, h1, h2⟩ := rdT_out h
        exact ⟨v, by simp only [execOp, ho, Sem.run_bind, Instr.loadAt, ha, Instr.sureAddr, Sem.run_pure, Result.andThen, h1], h2⟩
      · exact h.elim
    · rename_i s t x ho
      simp only [ho] at h
      split at h
      · rename_i a l c ha
        obtain ⟨b, h1, h2⟩ := h
        exact ⟨_, by simp only [execOp, ho, Sem.run_bind, ha, h1, Result.andThen, Sem.run_pure], h2⟩
      · rename_i q n ha
        split at h
        · rename_i d k hs ht
          refine ⟨_, ?_, h⟩
          simp [execOp, ho, ha, convert, run_underlying_some hs, run_underlying_some ht, Conv.intToInt]
        · exact h.elim
      · exact h.elim
    · simp at hR

theorem effV_sound {o : Oper} (h : effV P r o w K) : Res P K ((execOp (ev r) o).run P w) := by
  unfold effV at h
  split at h
  · rename_i t x y ho
    split at h
    · rename_i a ha
      split at h
      · rename_i hT
        obtain ⟨w', h1, h2⟩ := stT_out hT h
        simp only [execOp, ho, Sem.run_bind, Instr.storeAt, ha, Instr.sureAddr, Sem.run_pure, Result.andThen, h1]
        exact h2
      · exact h.elim
    · exact h.elim
  · rename_i t ho
    split at h
    · rename_i i hi
      split at h
      · rename_i z hz
        simp only [execOp, ho, Sem.run_bind, alloc_run hi hz, Result.andThen, Sem.run_pure]
        exact h
      · exact h.elim
    · exact h.elim
  · rename_i t x ho
    simp only [execOp, ho, Sem.run_bind, box_run, Result.andThen, Sem.run_pure]
    exact h
  · rename_i t n parts ho
    split at h
    · rename_i e hu
      split at h
      · rename_i hn
        split at h
        · rename_i cs hc
          have hp : (parts.map fun (x : Nat × Operand) => (x.1, ev r x.2)).toList = parts.toList.map fun x => (x.1, ev r x.2) := by simp
          have hrun := buildSlice_run (P := P) (w := w) (parts := parts.map fun (x : Nat × Operand) => (x.1, ev r x.2)) hu hn (by rw [hp]; exact hc)
          simp only [execOp, ho, Sem.run_bind, hrun, Result.andThen, Sem.run_pure]
          exact h
        · exact h.elim
      · exact h.elim
    · exact h.elim
  · rename_i t l c ho
    split at h
    · rename_i e q l' q' c' hu hl hc
      split at h
      · rename_i i hi
        split at h
        · rename_i z hz
          obtain ⟨h0, h1, h2, h3, h⟩ := h
          simp only [execOp, ho, Sem.run_bind, hl, hc, makeSlice_out hu hi hz h0 h1 h2 h3, Result.andThen, Sem.run_pure]
          exact h
        · exact h.elim
      · exact h.elim
    · exact h.elim
  · rename_i c ho; exact call_out ho h
  · exact h.elim
theorem opV_sound {o : Oper} (h : opV P r o w K) : Res P K ((execOp (ev r) o).run P w) := by
  unfold opV at h
  cases he : isEff o
  · rw [he] at h
    obtain ⟨v, h1, h2⟩ := valV_out (J := fun v => K v w) h
    rw [h1]; exact h2
  · rw [he] at h
    exact effV_sound h
end Go.Rk
