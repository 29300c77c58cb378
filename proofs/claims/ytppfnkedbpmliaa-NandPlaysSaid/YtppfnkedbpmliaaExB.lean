/- Nothing is proved of the program here: a region that draws its order. -/
import Derived.Test.YtppfnkedbpmliaaExA
set_option linter.unusedSimpArgs false
set_option linter.unusedVariables false
namespace Go.Rk
open Go
variable {P : Program}

section draw
variable {ops : Array Oper} {anc : List (List Nat)}
def L (listed : Array Bool) (i : Nat) : Prop := listed[i]? = some true
theorem all_range {n : Nat} {p : Nat → Bool} (h : (List.range n).all p = true) {i : Nat} (hi : i < n) : p i = true := by
  rw [List.all_eq_true] at h
  exact h i (List.mem_range.2 hi)
theorem nodup_iff : ∀ {l : List Nat}, nodup l = true → l.Nodup
  | [], _ => List.nodup_nil
  | x :: l, h => by
    simp only [nodup, Bool.and_eq_true, Bool.not_eq_true'] at h
    exact List.nodup_cons.2 ⟨mem_not.1 h.1, nodup_iff h.2⟩
structure Draws (ops : Array Oper) (anc : List (List Nat)) : Prop where
  back : ∀ i, i < ops.size → ∀ d ∈ directs (opAt ops i), d < i
  once : ∀ i j t, i < ops.size → j < ops.size → (opAt ops i).dst = some t → (opAt ops j).dst = some t → i = j
  ancs : ∀ i, i < ops.size → ∀ j ∈ anc.getD i [], j ∈ directs (opAt ops i) ∨ ∃ m ∈ directs (opAt ops i), j ∈ anc.getD m []
  looks : ∀ i, i < ops.size → ∀ t ∈ (opAt ops i).looksAt ops, (opAt ops i).dst ≠ some t ∧ ∀ j, j < ops.size → (opAt ops j).dst = some t → j ∈ anc.getD i [] ∨ i ∈ anc.getD j []
  reads : ∀ i, i < ops.size → isRead (opAt ops i) = true → (∃ d, (opAt ops i).dst = some d) ∧ ∀ t ∈ (opAt ops i).looksAt ops, ∀ j, j < ops.size → (opAt ops j).dst = some t → j ∈ anc.getD i []
  calm : ∀ i, i < ops.size → (∀ cs b, (opAt ops i).op ≠ .select cs b)
theorem nodup_filterMap_inj {α : Type} (f : α → Option Nat) : ∀ (l : List α), (l.filterMap f).Nodup → ∀ i j (hi : i < l.length) (hj : j < l.length) t, f l[i] = some t → f l[j] = some t → i = j
  | [], _, i, j, hi, _, _, _, _ => by simp at hi
  | x :: l, h, i, j, hi, hj, t, h1, h2 => by
    cases hx : f x with
    | none =>
      rw [List.filterMap_cons_none hx] at h
      cases i with
      | zero => simp [hx] at h1
      | succ i =>
        cases j with
        | zero => simp [hx] at h2
        | succ j => simpa using nodup_filterMap_inj f l h i j (by simpa using hi) (by simpa using hj) t (by simpa using h1) (by simpa using h2)
    | some y =>
      rw [List.filterMap_cons_some hx, List.nodup_cons] at h
      have out : ∀ k (hk : k < l.length), f l[k] ≠ some y := fun k hk e => h.1 (List.mem_filterMap.2 ⟨l[k], List.getElem_mem hk, e⟩)
      cases i with
      | zero =>
        simp [hx] at h1
        subst h1
        cases j with
        | zero => rfl
        | succ j => exact (out j (by simpa using hj) (by simpa using h2)).elim
      | succ i =>
        cases j with
        | zero =>
          simp [hx] at h2
          subst h2
          exact (out i (by simpa using hi) (by simpa using h1)).elim
        | succ j => simpa using nodup_filterMap_inj f l h.2 i j (by simpa using hi) (by simpa using hj) t (by simpa using h1) (by simpa using h2)
theorem draws_of (h : okDraw ops anc = true) : Draws ops anc := by
  simp only [okDraw, Bool.and_eq_true] at h
  obtain ⟨⟨⟨⟨⟨h1, h2⟩, h3⟩, h4⟩, h4b⟩, h5⟩ := h
  refine ⟨fun i hi d hd => ?_, fun i j t hi hj e1 e2 => ?_, fun i hi j hj => ?_, fun i hi t ht => ?_, fun i hi hr => ?_, fun i hi cs b e => ?_⟩
  · have := all_range h1 hi
    rw [List.all_eq_true] at this
    have := this d hd
    simpa [Nat.blt_eq] using this
  · have hn := nodup_iff h2
    have g1 := opAt_lt hi
    have g2 := opAt_lt hj
    rw [Array.getElem?_eq_getElem hi] at g1
    rw [Array.getElem?_eq_getElem hj] at g2
    simp only [Option.some.injEq] at g1 g2
    exact nodup_filterMap_inj (fun o : Oper => o.dst) ops.toList hn i j (by simpa using hi) (by simpa using hj) t (by simp [g1, e1]) (by simp [g2, e2])
  · have := all_range h3 hi
    rw [List.all_eq_true] at this
    have := this j hj
    simp only [Bool.or_eq_true, List.any_eq_true, mem_iff] at this
    exact this
  · have := all_range h4 hi
    rw [List.all_eq_true] at this
    have := this t ht
    simp only [Bool.and_eq_true, bne_iff_ne, ne_eq] at this
    refine ⟨this.1, fun j hj e => ?_⟩
    have h6 := all_range this.2 hj
    simp only [Bool.or_eq_true, bne_iff_ne, ne_eq, mem_iff] at h6
    rcases h6 with (h6 | h6) | h6
    · exact absurd e h6
    · exact .inl h6
    · exact .inr h6
  · have := all_range h4b hi
    simp only [hr, Bool.not_true, Bool.false_or, Bool.and_eq_true, List.all_eq_true] at this
    refine ⟨Option.isSome_iff_exists.1 this.1, fun t ht j hj e => ?_⟩
    have h6 := this.2 t ht j (List.mem_range.2 hj)
    simp only [Bool.or_eq_true, bne_iff_ne, ne_eq, mem_iff] at h6
    exact h6.resolve_left (fun h => h e)
  · have := all_range h5 hi
    simp [e] at this

variable (D : Draws ops anc)
include D
theorem anc_closed {X : Nat → Prop} (hX : ∀ i, X i → ∀ d ∈ directs (opAt ops i), X d) : ∀ (i : Nat), i < ops.size → (∀ d ∈ directs (opAt ops i), X d) → ∀ j ∈ anc.getD i [], X j := by
  intro i
  induction i using Nat.strongRecOn with
  | _ i ih =>
    intro hi hd j hj
    rcases D.ancs i hi j hj with h | ⟨m, hm, hjm⟩
    · exact hd j h
    · have hmi := D.back i hi m hm
      exact ih m hmi (by omega) (fun d hdm => hX m (hd m hm) d hdm) j hjm
omit D

/-- What an operation looks at: what those ahead of it wrote, else what was there. -/
def Fit (ops : Array Oper) (anc : List (List Nat)) (r0 rp : Regs) (i : Nat) (ρ : Regs) : Prop :=
  ∀ t ∈ (opAt ops i).looksAt ops, (∀ j ∈ anc.getD i [], j < ops.size → (opAt ops j).dst = some t → ρ t = rp t) ∧ ((∀ j ∈ anc.getD i [], j < ops.size → (opAt ops j).dst ≠ some t) → ρ t = r0 t)
theorem Fit.agree {r0 rp ρ ρ' : Regs} {i : Nat} (h : Fit ops anc r0 rp i ρ) (h' : Fit ops anc r0 rp i ρ') : ∀ t ∈ (opAt ops i).looksAt ops, ρ t = ρ' t := by
  intro t ht
  by_cases e : ∃ j ∈ anc.getD i [], j < ops.size ∧ (opAt ops j).dst = some t
  · obtain ⟨j, hj, hlt, hd⟩ := e
    rw [(h t ht).1 j hj hlt hd, (h' t ht).1 j hj hlt hd]
  · have : ∀ j ∈ anc.getD i [], j < ops.size → (opAt ops j).dst ≠ some t := fun j hj hlt hd => e ⟨j, hj, hlt, hd⟩
    rw [(h t ht).2 this, (h' t ht).2 this]
theorem agree_ev {o : Oper} {ρ ρ' : Regs} (h : ∀ t ∈ o.looksAt ops, ρ t = ρ' t) : ∀ x ∈ o.op.operands, ev ρ x = ev ρ' x := by
  intro x hx
  cases x with
  | tmp t =>
    refine h t ?_
    simp only [Oper.looksAt, List.mem_append, List.mem_filterMap]
    exact .inl ⟨.tmp t, by simpa using hx, rfl⟩
  | _ => rfl
theorem agree_want {o : Oper} {ρ ρ' : Regs} (h : ∀ t ∈ o.looksAt ops, ρ t = ρ' t) : wantR ops o ρ = wantR ops o ρ' := by
  unfold wantR
  cases hg : o.guard with
  | none => rfl
  | some x =>
    obtain ⟨j, want⟩ := x
    simp only
    cases hd : (ops[j]?).bind (·.dst) with
    | none => rfl
    | some d =>
      have : ρ d = ρ' d := h d (by
        simp only [Oper.looksAt, List.mem_append]
        refine .inr ?_
        rw [hg]; simp [hd])
      simp only [this]
def Stable (P : Program) (ops : Array Oper) (anc : List (List Nat)) (r0 rp : Regs) (w : World) (i : Nat) : Prop :=
  ∀ ρ, Fit ops anc r0 rp i ρ →
    (wantR ops (opAt ops i) ρ = true ∧ ∃ v, (∀ W, (isRead (opAt ops i) = true → W = w) → (execOp (ev ρ) (opAt ops i)).run P W = .ok (.value v) W) ∧ ∀ d, (opAt ops i).dst = some d → rp d = v) ∨
    (wantR ops (opAt ops i) ρ = false ∧ ∀ d, (opAt ops i).dst = some d → rp d = undef)
structure Inv (P : Program) (ops : Array Oper) (anc : List (List Nat)) (r0 : Regs) (listed : Array Bool) (Y : List Nat) (rr rp : Regs) (w : World) : Prop where
  sz : listed.size = ops.size
  sub : ∀ i, L listed i → i ∈ Y
  ylt : ∀ i ∈ Y, i < ops.size
  xcl : ∀ i, L listed i → ∀ d ∈ directs (opAt ops i), L listed d
  ycl : ∀ i ∈ Y, ∀ d ∈ directs (opAt ops i), d ∈ Y
  out : ∀ t, (∀ j ∈ Y, (opAt ops j).dst ≠ some t) → rp t = r0 t
  rrin : ∀ j t, L listed j → (opAt ops j).dst = some t → rr t = rp t
  rrout : ∀ t, (∀ j, L listed j → (opAt ops j).dst ≠ some t) → rr t = r0 t
  eff : ∀ i ∈ Y, ¬ L listed i → isEff (opAt ops i) = false
  stab : ∀ i ∈ Y, ¬ L listed i → Stable P ops anc r0 rp w i

section
variable {r0 rr rp : Regs} {listed : Array Bool} {Y : List Nat} {w : World}
include D
theorem Inv.xanc (I : Inv P ops anc r0 listed Y rr rp w) {i : Nat} (hi : i < ops.size) (hd : ∀ d ∈ directs (opAt ops i), L listed d) : ∀ j ∈ anc.getD i [], L listed j :=
  anc_closed D I.xcl i hi hd
theorem Inv.yanc (I : Inv P ops anc r0 listed Y rr rp w) {i : Nat} (hi : i < ops.size) (hd : ∀ d ∈ directs (opAt ops i), d ∈ Y) : ∀ j ∈ anc.getD i [], j ∈ Y :=
  anc_closed D (X := (· ∈ Y)) I.ycl i hi hd
/-- The real registers fit an operation that may come next. -/
theorem Inv.fit_rr (I : Inv P ops anc r0 listed Y rr rp w) {i : Nat} (hi : i < ops.size) (hn : ¬ L listed i) (hd : ∀ d ∈ directs (opAt ops i), L listed d) : Fit ops anc r0 rp i rr := by
  intro t ht
  refine ⟨fun j hj hlt hdst => I.rrin j t (I.xanc D hi hd j hj) hdst, fun hno => I.rrout t fun j hj hdst => ?_⟩
  have hlt := I.ylt j (I.sub j hj)
  rcases (D.looks i hi t ht).2 j hlt hdst with h | h
  · exact hno j h hlt hdst
  · exact hn (I.xanc D hlt (fun d hd' => I.xcl j hj d hd') i h)
/-- The plan's registers fit an operation that it has not taken yet, or that it has taken. -/
theorem Inv.fit_rp (I : Inv P ops anc r0 listed Y rr rp w) {i : Nat} (hi : i < ops.size) (hn : i ∉ Y) (hd : ∀ d ∈ directs (opAt ops i), d ∈ Y) : Fit ops anc r0 rp i rp := by
  intro t ht
  refine ⟨fun j hj hlt hdst => rfl, fun hno => I.out t fun j hj hdst => ?_⟩
  have hlt := I.ylt j hj
  rcases (D.looks i hi t ht).2 j hlt hdst with h | h
  · exact hno j h hlt hdst
  · exact hn (I.yanc D hlt (fun d hd' => I.ycl j hj d hd') i h)
/-- A register of one that is not taken yet is written by none that is. -/
theorem dst_new {Y : List Nat} (hY : ∀ j ∈ Y, j < ops.size) {i t : Nat} (hi : i < ops.size) (hn : i ∉ Y) (hdst : (opAt ops i).dst = some t) : ∀ j ∈ Y, (opAt ops j).dst ≠ some t := by
  intro j hj hd
  have := D.once i j t hi (hY j hj) hdst hd
  exact hn (this ▸ hj)
/-- Behind one operation more, what fitted fits. -/
theorem Fit.back {i k : Nat} {v : Value} {ρ : Regs} (hY : ∀ j ∈ Y, j < ops.size) (hcl : ∀ i ∈ Y, ∀ d ∈ directs (opAt ops i), d ∈ Y) (hi : i < ops.size) (hn : i ∉ Y) (hk : k ∈ Y)
    (h : Fit ops anc r0 (updO rp (opAt ops i).dst v) k ρ) : Fit ops anc r0 rp k ρ := by
  intro t ht
  refine ⟨fun j hj hlt hdst => ?_, (h t ht).2⟩
  rw [(h t ht).1 j hj hlt hdst, updO_other]
  intro e
  have hjY : j ∈ Y := anc_closed D (X := (· ∈ Y)) hcl k (hY k hk) (hcl k hk) j hj
  exact dst_new D hY hi hn e j hjY hdst
omit D
/-! ### The plan goes on -/
theorem L_set {i j : Nat} (hs : i < listed.size) : L (listed.setIfInBounds i true) j ↔ j = i ∨ L listed j := by
  unfold L
  by_cases h : j = i
  · subst h; simp [hs]
  · rw [Array.getElem?_setIfInBounds_ne (Ne.symm h)]; simp [h]
include D
/-- The plan takes one that only looks. -/
theorem Inv.pure (I : Inv P ops anc r0 listed Y rr rp w) {i : Nat} (hi : i < ops.size) (hn : i ∉ Y) (hd : ∀ d ∈ directs (opAt ops i), d ∈ Y) (he : isEff (opAt ops i) = false)
    {J : Regs → World → Prop} (h : exO P ops (opAt ops i) rp w J) : ∃ v, J (updO rp (opAt ops i).dst v) w ∧ Inv P ops anc r0 listed (i :: Y) rr (updO rp (opAt ops i).dst v) w := by
  have fit := I.fit_rp D hi hn hd
  -- what is taken is stable
  have key : ∃ v, J (updO rp (opAt ops i).dst v) w ∧ ((wantR ops (opAt ops i) rp = true ∧ ∀ W, (isRead (opAt ops i) = true → W = w) → (execOp (ev rp) (opAt ops i)).run P W = .ok (.value v) W) ∨ (wantR ops (opAt ops i) rp = false ∧ v = undef)) := by
    rcases exG_out h with ⟨hw, h⟩ | ⟨hw, h⟩
    · unfold opV at h
      rw [he] at h
      cases hR : isRead (opAt ops i) with
      | false =>
        obtain ⟨v, h1, h2⟩ := valP_out (J := fun v => J (updO rp (opAt ops i).dst v) w) hR h
        exact ⟨v, h2, .inl ⟨hw, fun W _ => h1 W⟩⟩
      | true =>
        obtain ⟨v, h1, h2⟩ := valV_out (J := fun v => J (updO rp (opAt ops i).dst v) w) h
        exact ⟨v, h2, .inl ⟨hw, fun W e => by rw [e rfl]; exact h1⟩⟩
    · exact ⟨undef, h, .inr ⟨hw, rfl⟩⟩
  obtain ⟨v, hJ, hrun⟩ := key
  refine ⟨v, hJ, ?_⟩
  have hdn : ∀ t, (opAt ops i).dst = some t → ∀ j ∈ Y, (opAt ops j).dst ≠ some t := fun t e => dst_new D I.ylt hi hn e
  have hsame : ∀ j t, j ∈ Y → (opAt ops j).dst = some t → updO rp (opAt ops i).dst v t = rp t := fun j t hj e => updO_other fun e' => hdn t e' j hj e
  have hfitk : ∀ k ρ, k ∈ Y → Fit ops anc r0 (updO rp (opAt ops i).dst v) k ρ → Fit ops anc r0 rp k ρ := fun k ρ hk h => Fit.back D I.ylt I.ycl hi hn hk h
  constructor
  · exact I.sz
  · exact fun j hj => List.mem_cons_of_mem _ (I.sub j hj)
  · intro j hj
    rcases List.mem_cons.1 hj with rfl | hj
    · exact hi
    · exact I.ylt j hj
  · exact I.xcl
  · intro j hj d hdj
    rcases List.mem_cons.1 hj with rfl | hj
    · exact List.mem_cons_of_mem _ (hd d hdj)
    · exact List.mem_cons_of_mem _ (I.ycl j hj d hdj)
  · intro t ht
    rw [updO_other (ht i (List.mem_cons_self ..))]
    exact I.out t fun j hj => ht j (List.mem_cons_of_mem _ hj)
  · intro j t hj hdst
    rw [hsame j t (I.sub j hj) hdst]
    exact I.rrin j t hj hdst
  · exact I.rrout
  · intro j hj hnL
    rcases List.mem_cons.1 hj with rfl | hj
    · exact he
    · exact I.eff j hj hnL
  · intro j hj hnL ρ hfit
    rcases List.mem_cons.1 hj with rfl | hj
    · have hfit' : Fit ops anc r0 rp j ρ := by
        intro t ht
        refine ⟨fun k hk hlt hdst => ?_, (hfit t ht).2⟩
        rw [(hfit t ht).1 k hk hlt hdst]
        exact hsame k t (I.yanc D hi hd k hk) hdst
      have ag := hfit'.agree fit
      have e1 : wantR ops (opAt ops j) ρ = wantR ops (opAt ops j) rp := agree_want ag
      have e2 : execOp (ev ρ) (opAt ops j) = execOp (ev rp) (opAt ops j) := execOp_congr _ (D.calm j hi) (agree_ev ag)
      rw [e1, e2]
      rcases hrun with ⟨hw, hr⟩ | ⟨hw, hv⟩
      · exact .inl ⟨hw, v, hr, fun d e => by rw [e]; exact upd_same _ _ _⟩
      · exact .inr ⟨hw, fun d e => by rw [e, hv]; exact upd_same _ _ _⟩
    · have h1 := I.stab j hj hnL ρ (hfitk j ρ hj hfit)
      rcases h1 with ⟨hw, u, hu, hd'⟩ | ⟨hw, hd'⟩
      · exact .inl ⟨hw, u, hu, fun d e => by rw [hsame j d hj e]; exact hd' d e⟩
      · exact .inr ⟨hw, fun d e => by rw [hsame j d hj e]; exact hd' d e⟩
omit D
theorem todo_mem {b : Bool} {i : Nat} : i ∈ todo ops b Y ↔ i < ops.size ∧ i ∉ Y ∧ isEff (opAt ops i) = b ∧ ∀ d ∈ directs (opAt ops i), d ∈ Y := by
  simp only [todo, List.mem_filter, List.mem_range, Bool.and_eq_true, Bool.not_eq_true', mem_not, beq_iff_eq, allIn, List.all_eq_true, mem_iff]
  constructor
  · rintro ⟨a, ⟨b, c⟩, d⟩; exact ⟨a, b, c, d⟩
  · rintro ⟨a, b, c, d⟩; exact ⟨a, ⟨b, c⟩, d⟩
include D
theorem saturate {K : Regs → World → Prop} : ∀ (f : Nat) (Y : List Nat) (rp : Regs), Inv P ops anc r0 listed Y rr rp w → exSt P ops anc f Y rp w K →
    ∃ f' Y' rp', Inv P ops anc r0 listed Y' rr rp' w ∧ todo ops false Y' = [] ∧ exSt P ops anc (f' + 1) Y' rp' w K
  | 0, _, _, _, h => by simp [exSt] at h
  | f + 1, Y, rp, I, h => by
    cases ht : todo ops false Y with
    | nil => exact ⟨f, Y, rp, I, ht, h⟩
    | cons i l =>
      have hi : i ∈ todo ops false Y := by rw [ht]; exact List.mem_cons_self ..
      obtain ⟨h1, h2, h3, h4⟩ := todo_mem.1 hi
      simp only [exSt, ht] at h
      obtain ⟨v, hJ, I'⟩ := I.pure D h1 h2 h4 h3 h
      exact saturate f _ _ I' hJ
omit D
theorem conjL_mem {F : Nat → Prop} : ∀ {l : List Nat}, conjL l F → ∀ x ∈ l, F x
  | [], _, _, hx => by simp at hx
  | [y], h, x, hx => by
    rw [List.mem_singleton] at hx
    subst hx; exact h
  | y :: z :: l, h, x, hx => by
    rcases List.mem_cons.1 hx with rfl | hx
    · exact h.1
    · exact conjL_mem (l := z :: l) h.2 x hx
theorem rechk_out {K : Prop} : ∀ {l : List Nat} {r : Regs} {w : World}, rechk P ops l r w K →
    (∀ i ∈ l, ∀ d, (opAt ops i).dst = some d → (wantR ops (opAt ops i) r = true → (execOp (ev r) (opAt ops i)).run P w = .ok (.value (r d)) w)) ∧ K
  | [], _, _, h => ⟨fun i hi => by simp at hi, h⟩
  | i :: l, r, w, h => by
    unfold rechk at h
    split at h
    · rename_i d hd
      rcases exG_out h with ⟨hw, h⟩ | ⟨hw, h⟩
      · obtain ⟨v, h1, h2, h3⟩ := valV_out (J := fun v => v = r d ∧ rechk P ops l r w K) h
        obtain ⟨h4, h5⟩ := rechk_out h3
        refine ⟨fun j hj e he hwj => ?_, h5⟩
        rcases List.mem_cons.1 hj with rfl | hj
        · rw [hd] at he; cases he
          rw [h1, h2]
        · exact h4 j hj e he hwj
      · obtain ⟨h4, h5⟩ := rechk_out h
        refine ⟨fun j hj e he hwj => ?_, h5⟩
        rcases List.mem_cons.1 hj with rfl | hj
        · rw [hw] at hwj; cases hwj
        · exact h4 j hj e he hwj
    · rename_i hd
      obtain ⟨h4, h5⟩ := rechk_out h
      refine ⟨fun j hj e he hwj => ?_, h5⟩
      rcases List.mem_cons.1 hj with rfl | hj
      · rw [hd] at he; cases he
      · exact h4 j hj e he hwj
include D
/-- One that had been taken by the plan comes up. -/
theorem Inv.real_old (I : Inv P ops anc r0 listed Y rr rp w) {i : Nat} (hY : i ∈ Y) (hn : ¬ L listed i) (hd : ∀ d ∈ directs (opAt ops i), L listed d) {v : Value} (hv : ∀ d, (opAt ops i).dst = some d → rp d = v) :
    Inv P ops anc r0 (listed.setIfInBounds i true) Y (updO rr (opAt ops i).dst v) rp w := by
  have hi := I.ylt i hY
  have hls : i < listed.size := by rw [I.sz]; exact hi
  constructor
  · simpa using I.sz
  · intro j hj
    rcases (L_set hls).1 hj with rfl | hj
    · exact hY
    · exact I.sub j hj
  · exact I.ylt
  · intro j hj d hdj
    rcases (L_set hls).1 hj with rfl | hj
    · exact (L_set hls).2 (.inr (hd d hdj))
    · exact (L_set hls).2 (.inr (I.xcl j hj d hdj))
  · exact I.ycl
  · exact I.out
  · intro j t hj hdst
    by_cases e : j = i
    · subst e
      rw [hdst]
      show upd rr t v t = _
      rw [upd_same, hv t hdst]
    · rcases (L_set hls).1 hj with h | hj
      · exact absurd h e
      · rw [updO_other (fun e' => e (D.once j i t (I.ylt j (I.sub j hj)) hi hdst e'))]
        exact I.rrin j t hj hdst
  · intro t ht
    rw [updO_other (ht i ((L_set hls).2 (.inl rfl)))]
    exact I.rrout t fun j hj => ht j ((L_set hls).2 (.inr hj))
  · intro j hj hnL
    exact I.eff j hj fun h => hnL ((L_set hls).2 (.inr h))
  · intro j hj hnL
    exact I.stab j hj fun h => hnL ((L_set hls).2 (.inr h))
/-- One that acts comes up: the plan takes it, too. -/
theorem Inv.real_new (I : Inv P ops anc r0 listed Y rr rp w) {i : Nat} (hi : i < ops.size) (hY : i ∉ Y) (hd : ∀ d ∈ directs (opAt ops i), L listed d) {v : Value} {w' : World}
    (hre : ∀ k ∈ Y, isRead (opAt ops k) = true → k ∉ anc.getD i [] → ∀ d, (opAt ops k).dst = some d → wantR ops (opAt ops k) (updO rp (opAt ops i).dst v) = true →
      (execOp (ev (updO rp (opAt ops i).dst v)) (opAt ops k)).run P w' = .ok (.value (updO rp (opAt ops i).dst v d)) w') :
    Inv P ops anc r0 (listed.setIfInBounds i true) (i :: Y) (updO rr (opAt ops i).dst v) (updO rp (opAt ops i).dst v) w' := by
  have hls : i < listed.size := by rw [I.sz]; exact hi
  have hdY : ∀ d ∈ directs (opAt ops i), d ∈ Y := fun d h => I.sub d (hd d h)
  have hsame : ∀ j t, j ∈ Y → (opAt ops j).dst = some t → updO rp (opAt ops i).dst v t = rp t := fun j t hj e => updO_other fun e' => dst_new D I.ylt hi hY e' j hj e
  have hcl' : ∀ j ∈ i :: Y, ∀ d ∈ directs (opAt ops j), d ∈ i :: Y := by
    intro j hj d hdj
    rcases List.mem_cons.1 hj with rfl | hj
    · exact List.mem_cons_of_mem _ (hdY d hdj)
    · exact List.mem_cons_of_mem _ (I.ycl j hj d hdj)
  have hnotL : ¬ L listed i := fun h => hY (I.sub i h)
  constructor
  · simpa using I.sz
  · intro j hj
    rcases (L_set hls).1 hj with rfl | hj
    · exact List.mem_cons_self ..
    · exact List.mem_cons_of_mem _ (I.sub j hj)
  · intro j hj
    rcases List.mem_cons.1 hj with rfl | hj
    · exact hi
    · exact I.ylt j hj
  · intro j hj d hdj
    rcases (L_set hls).1 hj with rfl | hj
    · exact (L_set hls).2 (.inr (hd d hdj))
    · exact (L_set hls).2 (.inr (I.xcl j hj d hdj))
  · exact hcl'
  · intro t ht
    rw [updO_other (ht i (List.mem_cons_self ..))]
    exact I.out t fun j hj => ht j (List.mem_cons_of_mem _ hj)
  · intro j t hj hdst'
    by_cases e : j = i
    · subst e
      rw [hdst']
      show upd rr t v t = upd rp t v t
      rw [upd_same, upd_same]
    · rcases (L_set hls).1 hj with h | hj
      · exact absurd h e
      · rw [updO_other (fun e' => e (D.once j i t (I.ylt j (I.sub j hj)) hi hdst' e')), hsame j t (I.sub j hj) hdst']
        exact I.rrin j t hj hdst'
  · intro t ht
    rw [updO_other (ht i ((L_set hls).2 (.inl rfl)))]
    exact I.rrout t fun j hj => ht j ((L_set hls).2 (.inr hj))
  · intro j hj hnL
    rcases List.mem_cons.1 hj with rfl | hj
    · exact absurd ((L_set hls).2 (.inl rfl)) hnL
    · exact I.eff j hj fun h => hnL ((L_set hls).2 (.inr h))
  · intro j hj hnL ρ hfit
    rcases List.mem_cons.1 hj with rfl | hj
    · exact absurd ((L_set hls).2 (.inl rfl)) hnL
    · have hnL' : ¬ L listed j := fun h => hnL ((L_set hls).2 (.inr h))
      have h1 := I.stab j hj hnL' ρ (Fit.back D I.ylt I.ycl hi hY hj hfit)
      rcases h1 with ⟨hw, u, hu, hd'⟩ | ⟨hw, hd'⟩
      · refine .inl ⟨hw, u, ?_, fun d e => by rw [hsame j d hj e]; exact hd' d e⟩
        intro W hW
        cases hR : isRead (opAt ops j) with
        | false => exact hu W (fun e => by rw [hR] at e; cases e)
        | true =>
          rw [hW hR]
          have hjlt := I.ylt j hj
          obtain ⟨⟨d, hdj⟩, hst⟩ := D.reads j hjlt hR
          have hna : j ∉ anc.getD i [] := fun h => hnL' (I.xanc D hi hd j h)
          -- the plan's own registers fit
          have hfit2 : Fit ops anc r0 (updO rp (opAt ops i).dst v) j (updO rp (opAt ops i).dst v) := by
            intro t ht
            refine ⟨fun k hk hlt hdst' => rfl, fun hno => ?_⟩
            have hnone : ∀ k, k < ops.size → (opAt ops k).dst ≠ some t := fun k hk e => hno k (hst t ht k hk e) hk e
            rw [updO_other (hnone i hi)]
            exact I.out t fun k hk => hnone k (I.ylt k hk)
          have ag := hfit2.agree hfit
          have e1 : wantR ops (opAt ops j) (updO rp (opAt ops i).dst v) = wantR ops (opAt ops j) ρ := agree_want ag
          have e2 : execOp (ev (updO rp (opAt ops i).dst v)) (opAt ops j) = execOp (ev ρ) (opAt ops j) := execOp_congr _ (D.calm j (I.ylt j hj)) (agree_ev ag)
          have := hre j hj hR hna d hdj (by rw [e1]; exact hw)
          rw [e2, hsame j d hj hdj, hd' d hdj] at this
          exact this
      · exact .inr ⟨hw, fun d e => by rw [hsame j d hj e]; exact hd' d e⟩
omit D
end
/-! ### The whole region -/
def unl (ops : Array Oper) (listed : Array Bool) : Nat := (List.range ops.size).countP fun i => !(listed.getD i true)
theorem countP_lt {p q : Nat → Bool} : ∀ (l : List Nat) (x : Nat), x ∈ l → p x = true → q x = false → (∀ y, q y = true → p y = true) → l.countP q < l.countP p
  | [], _, h, _, _, _ => by simp at h
  | y :: l, x, h, hp, hq, hle => by
    have hrest : l.countP q ≤ l.countP p := List.countP_mono_left fun z _ hz => hle z hz
    simp only [List.countP_cons]
    rcases List.mem_cons.1 h with rfl | h
    · simp [hp, hq]; omega
    · have := countP_lt l x h hp hq hle
      cases hqy : q y with
      | false => simp; omega
      | true => simp [hle y hqy]; omega
theorem ready_mem {listed : Array Bool} (hs : listed.size = ops.size) {i : Nat} : i ∈ Region.ready .any ops listed ↔ i < ops.size ∧ ¬ L listed i ∧ ∀ d ∈ directs (opAt ops i), L listed d := by
  simp only [Region.ready, List.mem_filter, List.mem_range, Bool.and_eq_true, Bool.not_eq_true']
  constructor
  · rintro ⟨hi, h1, h2⟩
    refine ⟨hi, ?_, ?_⟩
    · intro h
      simp [Array.getD_eq_getD_getElem?, L] at h1 h
      rw [h] at h1; simp at h1
    · intro d hd
      rw [opAt_lt hi] at h2
      simp only [Option.map_some, Option.getD_some] at h2
      rw [Array.all_eq_true'] at h2
      simp only [directs, List.mem_filterMap] at hd
      obtain ⟨e, he, hd⟩ := hd
      split at hd
      · rename_i hb
        simp only [Option.some.injEq] at hd
        subst hd
        have := h2 e (by simpa using he)
        simp only [hb, Bool.not_true, Bool.false_or] at this
        simp only [Array.getD_eq_getD_getElem?] at this
        unfold L
        cases hx : listed[e.on]? with
        | none => rw [hx] at this; simp at this
        | some b => rw [hx] at this; simp at this; rw [this]
      · simp at hd
  · rintro ⟨hi, h1, h2⟩
    refine ⟨hi, ?_, ?_⟩
    · have hlt : i < listed.size := by omega
      unfold L at h1
      rw [Array.getElem?_eq_getElem hlt] at h1
      simp [Array.getD_eq_getD_getElem?, Array.getElem?_eq_getElem hlt]
      cases hb : listed[i] with
      | false => rfl
      | true => rw [hb] at h1; exact absurd rfl h1
    · rw [opAt_lt hi]
      simp only [Option.map_some, Option.getD_some]
      rw [Array.all_eq_true']
      intro e he
      cases hb : Region.binds .any e with
      | false => simp
      | true =>
        have hd : e.on ∈ directs (opAt ops i) := by
          simp only [directs, List.mem_filterMap]
          exact ⟨e, by simpa using he, by simp [hb]⟩
        have := h2 _ hd
        unfold L at this
        simp [Array.getD_eq_getD_getElem?, this]
theorem all_listed (D : Draws ops anc) {listed : Array Bool} (hs : listed.size = ops.size) (h : Region.ready .any ops listed = []) : ∀ i, i < ops.size → L listed i := by
  intro i
  induction i using Nat.strongRecOn with
  | _ i ih =>
    intro hi
    by_cases hL : L listed i
    · exact hL
    · have : i ∈ Region.ready .any ops listed := (ready_mem hs).2 ⟨hi, hL, fun d hd => ih d (D.back i hi d hd) (by have := D.back i hi d hd; omega)⟩
      rw [h] at this
      simp at this
theorem exSt_any (D : Draws ops anc) {ro : Option Nat} {m n : Nat} {Q : Exit → Act → World → Prop} {K : Regs → World → Prop} {df : List Deferred} {r0 : Regs}
    (hd : ∀ (i : Nat) (o : Oper) (d : Nat), ops[i]? = some o → o.dst = some d → d < n)
    (hQ : ∀ r' a' w', Rl n r' a' → a'.defers = df → (∀ t, t ∉ dstO ops.toList → r' t = r0 t) → K r' w' → Q .normal a' w') :
    ∀ (fuel : Nat) (listed : Array Bool) (Y : List Nat) (rr rp : Regs) (f : Nat) (a : Act) (w : World), Inv P ops anc r0 listed Y rr rp w → exSt P ops anc f Y rp w K → Rl n rr a → a.defers = df → unl ops listed ≤ fuel →
      wpAnyIn (Fr ro) m P .any ops Q fuel listed a w := by
  have fin : ∀ (listed : Array Bool) (Y : List Nat) (rr rp : Regs) (f : Nat) (a : Act) (w : World), Inv P ops anc r0 listed Y rr rp w → exSt P ops anc f Y rp w K → Rl n rr a → a.defers = df → Region.ready .any ops listed = [] → Q .normal a w := by
    intro listed Y rr rp f a w I h hR hdf hr
    obtain ⟨f', Y', rp', I', hsat, h'⟩ := saturate D f Y rp I h
    have hall := all_listed D I.sz hr
    have htodo : todo ops true Y' = [] := by
      cases ht : todo ops true Y' with
      | nil => rfl
      | cons x l =>
        have : x ∈ todo ops true Y' := by rw [ht]; exact List.mem_cons_self ..
        obtain ⟨h1, h2, _⟩ := todo_mem.1 this
        exact absurd (I'.sub x (hall x h1)) h2
    simp only [exSt, hsat, htodo] at h'
    split at h'
    · refine hQ rr a w hR hdf ?_ ?_
      · intro t ht
        refine I'.rrout t fun j hj e => ht ?_
        have hlt := I'.ylt j (I'.sub j hj)
        simp only [dstO, List.mem_filterMap]
        exact ⟨opAt ops j, by have := Array.mem_of_getElem? (opAt_lt hlt); simpa using this, e⟩
      · have : rr = rp' := by
          funext t
          by_cases e : ∃ j, L listed j ∧ (opAt ops j).dst = some t
          · obtain ⟨j, hj, hjd⟩ := e
            exact I'.rrin j t hj hjd
          · have hno : ∀ j, L listed j → (opAt ops j).dst ≠ some t := fun j hj hjd => e ⟨j, hj, hjd⟩
            rw [I'.rrout t hno, I'.out t fun j hj => hno j (hall j (I'.ylt j hj))]
        rw [this]; exact h'
    · exact h'.elim
  intro fuel
  induction fuel with
  | zero =>
    intro listed Y rr rp f a w I h hR hdf hu
    have hr : Region.ready .any ops listed = [] := by
      cases hc : Region.ready .any ops listed with
      | nil => rfl
      | cons x l =>
        have hx : x ∈ Region.ready .any ops listed := by rw [hc]; exact List.mem_cons_self ..
        obtain ⟨h1, h2, _⟩ := (ready_mem I.sz).1 hx
        have : 0 < unl ops listed := by
          unfold unl
          rw [List.countP_pos_iff]
          refine ⟨x, List.mem_range.2 h1, ?_⟩
          have hlt : x < listed.size := by rw [I.sz]; exact h1
          unfold L at h2
          rw [Array.getElem?_eq_getElem hlt] at h2
          simp [Array.getD_eq_getD_getElem?, Array.getElem?_eq_getElem hlt]
          cases hb : listed[x] with
          | false => rfl
          | true => rw [hb] at h2; exact absurd rfl h2
        omega
    exact ⟨hr, fin _ _ _ _ _ _ _ I h hR hdf hr⟩
  | succ fuel ih =>
    intro listed Y rr rp f a w I h hR hdf hu
    refine ⟨fun hr => fin _ _ _ _ _ _ _ I h hR hdf hr, ?_⟩
    intro i hir
    obtain ⟨hi, hnL, hdir⟩ := (ready_mem I.sz).1 hir
    have hls : i < listed.size := by rw [I.sz]; exact hi
    have hu' : unl ops (listed.setIfInBounds i true) ≤ fuel := by
      have : unl ops (listed.setIfInBounds i true) < unl ops listed := by
        refine countP_lt _ i (List.mem_range.2 hi) ?_ ?_ ?_
        · unfold L at hnL
          rw [Array.getElem?_eq_getElem hls] at hnL
          simp [Array.getD_eq_getD_getElem?, Array.getElem?_eq_getElem hls]
          cases hb : listed[i] with
          | false => rfl
          | true => rw [hb] at hnL; exact absurd rfl hnL
        · simp [Array.getD_eq_getD_getElem?, hls]
        · intro y hy
          by_cases e : y = i
          · subst e; simp [Array.getD_eq_getD_getElem?, hls] at hy
          · simpa [Array.getD_eq_getD_getElem?, Array.getElem?_setIfInBounds_ne (Ne.symm e)] using hy
      omega
    obtain ⟨f', Y', rp', I', hsat, h'⟩ := saturate D f Y rp I h
    have ho := opAt_lt hi
    have fit_rr := I'.fit_rr D hi hnL hdir
    by_cases hY : i ∈ Y'
    · -- the plan has it already
      have hst := I'.stab i hY hnL rr fit_rr
      unfold wpOpIn
      simp only [ho, wanted_eq hR]
      rcases hst with ⟨hw, v, hv, hdv⟩ | ⟨hw, hdv⟩
      · simp only [hw, if_true]
        have hnd : ∀ c, (opAt ops i).op ≠ .defer c := by
          intro c hc
          have := hv w (fun _ => rfl)
          simp only [execOp, hc, Sem.run_bind] at this
          generalize (resolve (ev rr) c (opAt ops i).type).run P w = x at this
          cases x <;> simp [Result.andThen] at this
        refine ⟨fun _ _ => trivial, ?_⟩
        rw [Oper.semAt_eq _ _ _ hnd, ← hR.ev, hv w (fun _ => rfl)]
        exact ih _ Y' _ rp' (f' + 1) _ w (I'.real_old D hY hnL hdir hdv) h' (hR.put v (fun d e => hd i _ d ho e)) (by rw [put_defers, hdf]) hu'
      · simp only [hw, Bool.false_eq_true, if_false]
        exact ⟨fun _ _ => trivial, ih _ Y' _ rp' (f' + 1) _ w (I'.real_old D hY hnL hdir hdv) h' (hR.put undef (fun d e => hd i _ d ho e)) (by rw [put_defers, hdf]) hu'⟩
    · -- it acts
      have hdY : ∀ d ∈ directs (opAt ops i), d ∈ Y' := fun d hd' => I'.sub d (hdir d hd')
      have heff : isEff (opAt ops i) = true := by
        cases he : isEff (opAt ops i) with
        | true => rfl
        | false =>
          have : i ∈ todo ops false Y' := todo_mem.2 ⟨hi, hY, he, hdY⟩
          rw [hsat] at this; simp at this
      have hmem : i ∈ todo ops true Y' := todo_mem.2 ⟨hi, hY, heff, hdY⟩
      simp only [exSt, hsat] at h'
      have hex : exO P ops (opAt ops i) rp' w fun r' w' => rechk P ops ((List.range ops.size).filter fun k => mem k Y' && isRead (opAt ops k) && !(mem k (anc.getD i []))) r' w' (exSt P ops anc f' (i :: Y') r' w' K) := by
        split at h'
        · rename_i ht; rw [ht] at hmem; simp at hmem
        · exact conjL_mem h' i hmem
      have fit_rp := I'.fit_rp D hi hY hdY
      have ag := fit_rp.agree fit_rr
      have e1 : wantR ops (opAt ops i) rp' = wantR ops (opAt ops i) rr := agree_want ag
      have e2 : execOp (ev rp') (opAt ops i) = execOp (ev rr) (opAt ops i) := execOp_congr _ (D.calm i hi) (agree_ev ag)
      have step : ∀ v w', rechk P ops ((List.range ops.size).filter fun k => mem k Y' && isRead (opAt ops k) && !(mem k (anc.getD i []))) (updO rp' (opAt ops i).dst v) w' (exSt P ops anc f' (i :: Y') (updO rp' (opAt ops i).dst v) w' K) →
          wpAnyIn (Fr ro) m P .any ops Q fuel (listed.setIfInBounds i true) (a.put (opAt ops i).dst v) w' := by
        intro v w' hk
        obtain ⟨hre, hk⟩ := rechk_out hk
        refine ih _ (i :: Y') _ _ f' _ w' (I'.real_new D hi hY hdir ?_) hk (hR.put v (fun d e => hd i _ d ho e)) (by rw [put_defers, hdf]) hu'
        intro k hkY hkR hka d hkd hkw
        refine hre k ?_ d hkd hkw
        simp only [List.mem_filter, List.mem_range, Bool.and_eq_true, mem_iff, Bool.not_eq_true', mem_not]
        exact ⟨I'.ylt k hkY, ⟨hkY, hkR⟩, hka⟩
      unfold wpOpIn
      simp only [ho, wanted_eq hR]
      rcases exG_out hex with ⟨hw, hx⟩ | ⟨hw, hx⟩
      · rw [e1] at hw
        simp only [hw, if_true]
        refine ⟨fun _ _ => trivial, ?_⟩
        have hs := opV_sound hx
        rw [e2] at hs
        rw [Oper.semAt_eq _ _ _ (opV_noDefer hx), ← hR.ev]
        exact uponIn_of_Res hs step
      · rw [e1] at hw
        simp only [hw, Bool.false_eq_true, if_false]
        exact ⟨fun _ _ => trivial, step _ _ hx⟩
theorem inv_start {r0 : Regs} {w : World} : Inv P ops anc r0 (Array.replicate ops.size false) [] r0 r0 w := by
  have hL : ∀ i, ¬ L (Array.replicate ops.size false) i := by
    intro i h
    unfold L at h
    rw [Array.getElem?_replicate] at h
    split at h <;> simp at h
  exact ⟨by simp, fun i h => absurd h (hL i), fun i h => by simp at h, fun i h => absurd h (hL i), fun i h => by simp at h, fun _ _ => rfl, fun j _ h => absurd h (hL j), fun _ _ => rfl, fun i h => by simp at h, fun i h => by simp at h⟩
end draw

theorem exCore_out {ops : Array Oper} {draw : Bool} {id : Nat} {ro : Option Nat} {m n : Nat} {Q : Exit → Act → World → Prop} {K : Regs → World → Prop} {df : List Deferred} {r0 : Regs} {a : Act} {w : World} (hm : P.follows .mixedOrders = true)
    (hd : ∀ (i : Nat) (o : Oper) (d : Nat), ops[i]? = some o → o.dst = some d → d < n)
    (hQ : ∀ r' a' w', Rl n r' a' → a'.defers = df → (∀ t, t ∉ dstO ops.toList → r' t = r0 t) → K r' w' → Q .normal a' w')
    (h : exCore P ops draw r0 w K) (hR : Rl n r0 a) (hdf : a.defers = df) : (Code.region id ops draw).wpIn (Fr ro) m P Q a w := by
  unfold exCore at h
  cases draw with
  | false => exact wpIn_region (exOps_out hd hQ _ _ _ _ h hR hdf (fun _ _ => rfl))
  | true =>
    simp only [cond_true] at h
    split at h
    · rename_i hok
      refine wpIn_region_any hm ?_
      refine exSt_any (draws_of hok) hd hQ ops.size _ [] r0 r0 _ a _ inv_start h hR hdf ?_
      unfold unl
      exact Nat.le_trans List.countP_le_length (by simp)
    · exact h.elim
end Go.Rk
