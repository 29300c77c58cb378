/- Nothing is proved of the program here: regions, as they are read, are what the model carries out, in whatever order is drawn. -/
import Derived.Test.YtppfnkedbpmliaaEx
set_option linter.unusedSimpArgs false
set_option linter.unusedVariables false
namespace Go.Rk
open Go
variable {P : Program}

def Fr (ro : Option Nat) : Fence := { Fence.wide with round := ro }

structure Rl (n : Nat) (r : Regs) (a : Act) : Prop where
  size : a.tmps.size = n
  get : ∀ t, r t = a.tmps.getD t undef

theorem Rl.ev {n : Nat} {r : Regs} {a : Act} (h : Rl n r a) : ev r = a.eval := by
  funext x
  cases x with
  | tmp t => exact h.get t
  | _ => rfl
theorem upd_same (r : Regs) (d : Nat) (v : Value) : upd r d v d = v := by simp [upd]
theorem upd_other (r : Regs) {d t : Nat} (v : Value) (h : t ≠ d) : upd r d v t = r t := by
  have : Nat.beq t d = false := by
    cases hb : Nat.beq t d with
    | false => rfl
    | true => exact absurd (Nat.eq_of_beq_eq_true hb) h
  simp [upd, this]
theorem upd_self {r : Regs} {d : Nat} {v : Value} (h : r d = v) : upd r d v = r := by
  funext t
  by_cases ht : t = d
  · subst ht; rw [upd_same, h]
  · exact upd_other _ _ ht
theorem Rl.put {n : Nat} {r : Regs} {a : Act} (h : Rl n r a) {dst : Option Nat} (v : Value) (hd : ∀ d, dst = some d → d < n) : Rl n (updO r dst v) (a.put dst v) := by
  cases dst with
  | none => exact h
  | some d =>
    have hlt := hd d rfl
    refine ⟨by simp [Act.put, h.size], fun t => ?_⟩
    simp only [updO, Act.put]
    by_cases ht : t = d
    · subst ht
      rw [upd_same]
      simp [Array.getD_eq_getD_getElem?, h.size, hlt]
    · rw [upd_other _ _ ht, h.get t]
      simp [Array.getD_eq_getD_getElem?, Array.getElem?_setIfInBounds_ne (Ne.symm ht)]
theorem updO_other {r : Regs} {dst : Option Nat} {v : Value} {t : Nat} (h : dst ≠ some t) : updO r dst v t = r t := by
  cases dst with
  | none => rfl
  | some d => exact upd_other _ _ (fun e => h (by rw [e]))
theorem put_defers (a : Act) (dst : Option Nat) (v : Value) : (a.put dst v).defers = a.defers := by cases dst <;> rfl

def wantR (ops : Array Oper) (o : Oper) (r : Regs) : Bool :=
  match o.guard with
  | none => true
  | some (j, want) => (match (ops[j]?).bind (·.dst) with
    | none => false
    | some d => (match r d with
      | .bool b => b == want
      | _ => false))
theorem exG_out {ops : Array Oper} {o : Oper} {r : Regs} {run skip : Regs → Prop} (h : exG ops o r run skip) : (wantR ops o r = true ∧ run r) ∨ (wantR ops o r = false ∧ skip r) := by
  unfold exG at h
  unfold wantR
  split at h
  · rename_i hg; simp only [hg]; exact .inl ⟨trivial, h⟩
  · rename_i j want hg
    simp only [hg]
    split at h
    · rename_i hd; simp only [hd]; exact .inr ⟨trivial, h⟩
    · rename_i d hd
      simp only [hd]
      split at h
      · rename_i b hb
        simp only [hb]
        cases b
        · rw [upd_self hb] at h
          cases want
          · exact .inl ⟨rfl, h⟩
          · exact .inr ⟨rfl, h⟩
        · rw [upd_self hb] at h
          cases want
          · exact .inr ⟨rfl, h⟩
          · exact .inl ⟨rfl, h⟩
      · rename_i hb
        refine .inr ⟨?_, h⟩
        split
        · rename_i b hb'; exact absurd hb' (hb b)
        · rfl
theorem wanted_eq {n : Nat} {r : Regs} {a : Act} (h : Rl n r a) (ops : Array Oper) (o : Oper) : Region.wanted o (yielded ops a.tmps) = wantR ops o r := by
  unfold Region.wanted wantR
  cases hg : o.guard with
  | none => rfl
  | some x =>
    obtain ⟨j, want⟩ := x
    simp only [yielded]
    cases hd : (ops[j]?).bind (·.dst) with
    | none => simp
    | some d =>
      simp only [Option.bind_some]
      rw [h.get d, Array.getD_eq_getD_getElem?]
      cases hv : a.tmps[d]? with
      | none => simp [undef]
      | some v =>
        simp only [Option.getD_some]
        cases v <;> simp

theorem uponIn_of_Res {ro : Option Nat} {m : Nat} {o : Oper} {a : Act} {next : Act → World → Prop} {Q : Exit → Act → World → Prop} {x : Result Next} {K : Value → World → Prop} (h : Res P K x)
    (hn : ∀ v w', K v w' → next (a.put o.dst v) w') : o.uponIn (Fr ro) m P a next Q x := by
  unfold Res at h
  split at h
  · exact hn _ _ h
  · exact hn _ _ h
  · refine ⟨fun hd => by simp [Fr, Fence.wide] at hd, trivial, fun cs _ => ?_⟩
    obtain ⟨e, w', fr, ⟨v, rfl, k⟩, h1, h2⟩ := h.2.2 cs (room_wide _)
    exact ⟨.returned v, w', fr, hn _ _ k, h1, h2⟩
  · refine ⟨fun hd => by simp [Fr, Fence.wide] at hd, trivial, fun c cs _ => ?_⟩
    obtain ⟨e, w', ⟨v, rfl, k⟩, h1⟩ := h.2 c cs (room_wide _)
    exact ⟨.returned v, w', hn _ _ k, h1⟩
  · exact h.elim

theorem opV_noDefer {r : Regs} {o : Oper} {w : World} {K : Value → World → Prop} (h : opV P r o w K) : ∀ c, o.op ≠ .defer c := by
  intro c hc
  simp [opV, isEff, valV, hc] at h

theorem exO_out {ro : Option Nat} {m n : Nat} {ops : Array Oper} {o : Oper} {i : Nat} {r : Regs} {a : Act} {w : World} {K : Regs → World → Prop} {KA : Act → World → Prop} {Q : Exit → Act → World → Prop}
    (ho : ops[i]? = some o) (h : exO P ops o r w K) (hR : Rl n r a) (hd : ∀ d, o.dst = some d → d < n)
    (hK : ∀ v w', K (updO r o.dst v) w' → KA (a.put o.dst v) w') : wpOpIn (Fr ro) m P ops Q i KA a w := by
  unfold wpOpIn
  simp only [ho, wanted_eq hR]
  rcases exG_out h with ⟨hw, h⟩ | ⟨hw, h⟩
  · simp only [hw, if_true]
    refine ⟨fun _ _ => trivial, ?_⟩
    rw [Oper.semAt_eq _ _ _ (opV_noDefer h), ← hR.ev]
    exact uponIn_of_Res (opV_sound h) hK
  · simp only [hw, Bool.false_eq_true, if_false]
    exact ⟨fun _ _ => trivial, hK _ _ h⟩

theorem mem_iff {t : Nat} : ∀ {l : List Nat}, mem t l = true ↔ t ∈ l
  | [] => by simp [mem]
  | x :: l => by
    by_cases h : t = x
    · subst h; simp [mem]
    · have : Nat.beq t x = false := by
        cases hb : Nat.beq t x with
        | false => rfl
        | true => exact absurd (Nat.eq_of_beq_eq_true hb) h
      simp [mem, this, h, mem_iff]
theorem mem_not {t : Nat} {l : List Nat} : mem t l = false ↔ t ∉ l := by
  rw [← mem_iff]; cases mem t l <;> simp
theorem opAt_lt {ops : Array Oper} {i : Nat} (h : i < ops.size) : ops[i]? = some (opAt ops i) := by
  simp [opAt, Array.getElem?_eq_getElem h]

theorem exOps_out {ro : Option Nat} {m n : Nat} {ops : Array Oper} {Q : Exit → Act → World → Prop} {K : Regs → World → Prop} {df : List Deferred} (hd : ∀ (i : Nat) (o : Oper) (d : Nat), ops[i]? = some o → o.dst = some d → d < n)
    {r0 : Regs} (hQ : ∀ r' a' w', Rl n r' a' → a'.defers = df → (∀ t, t ∉ dstO ops.toList → r' t = r0 t) → K r' w' → Q .normal a' w') :
    ∀ (l : List Nat) (r : Regs) (a : Act) (w : World), exOps P ops l r w K → Rl n r a → a.defers = df → (∀ t, t ∉ dstO ops.toList → r t = r0 t) → wpOpsIn (Fr ro) m P ops Q l a w
  | [], r, a, w, h, hR, hdf, hf => hQ _ _ _ hR hdf hf h
  | i :: l, r, a, w, h, hR, hdf, hf => by
    rw [wpOpsIn_cons]
    unfold exOps at h
    split at h
    · rename_i ho
      simp only [wpOpIn, ho]
      exact exOps_out hd hQ l r a w h hR hdf hf
    · rename_i o ho
      refine exO_out ho h hR (fun d e => hd i o d ho e) ?_
      intro v w' hk
      refine exOps_out hd hQ l _ _ w' hk (hR.put v (fun d e => hd i o d ho e)) (by rw [put_defers, hdf]) ?_
      intro t ht
      rw [updO_other, hf t ht]
      intro e
      refine ht ?_
      simp only [dstO, List.mem_filterMap]
      exact ⟨o, by have := Array.mem_of_getElem? ho; simpa using this, e⟩
end Go.Rk
