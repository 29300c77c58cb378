/- Nothing is proved of the program here: code, as it is read, is what the model carries out; a function's contract from its code. -/
import Derived.Test.YtppfnkedbpmliaaExB
set_option linter.unusedSimpArgs false
set_option linter.unusedVariables false
namespace Go.Rk
open Go
variable {P : Program}

theorem Kd.dec_out {k : Kd} {x : Value} {K : k.D → Prop} (h : k.dec x K) : ∃ d, x = k.enc d ∧ K d := by
  cases k with
  | one k => exact Kb.dec_out h
  | agg ks => exact decG_out h
  | raw => exact decR_out h
  | tup ks => exact h.elim
def Vals : (S : Slots) → DS S → Regs → Prop
  | [], _, _ => True
  | x :: S, d, r => r x.1 = x.2.enc d.1 ∧ Vals S d.2 r
theorem decD_out : ∀ {S : Slots} {r : Regs} {K : DS S → Prop}, decD S r K → ∃ d, Vals S d r ∧ K d
  | [], _, _, h => ⟨(), trivial, h⟩
  | x :: S, r, K, h => by
    obtain ⟨d, e, h2⟩ := Kd.dec_out h
    obtain ⟨ds, hv, h3⟩ := decD_out h2
    exact ⟨(d, ds), ⟨e, hv⟩, h3⟩
theorem putD_self : ∀ {S : Slots} {d : DS S} {r : Regs}, Vals S d r → putD S d r = r
  | [], _, _, _ => rfl
  | x :: S, d, r, h => by
    simp only [putD]
    rw [putD_self h.2]
    exact upd_self h.1
theorem havoc_self {r r' : Regs} {l : List Nat} (h : ∀ t, t ∉ l → r' t = r t) : havoc r l r' = r' := by
  funext t
  unfold havoc
  cases hm : mem t l with
  | true => rfl
  | false => exact (h t (mem_not.1 hm)).symm
def marks (ds : List Nat) : List Deferred := ds.map fun D => { target := .collected D, args := #[] }
def Post (n : Nat) (c : Code) (r : Regs) (ds : List Nat) (K : Exit → Regs → List Nat → World → Prop) (e : Exit) (a' : Act) (w' : World) : Prop :=
  ∃ r' ds', Rl n r' a' ∧ a'.defers = marks ds' ∧ (hasRange c = false → ds' = ds) ∧ (∀ t, t ∉ dsts c → r' t = r t) ∧ K e r' ds' w'
theorem Post.mono {n : Nat} {c : Code} {r : Regs} {ds : List Nat} {K K' : Exit → Regs → List Nat → World → Prop} {e : Exit} {a' : Act} {w' : World} (h : Post n c r ds K e a' w') (hk : ∀ r' ds', K e r' ds' w' → K' e r' ds' w') :
    Post n c r ds K' e a' w' := by
  obtain ⟨r', ds', h1, h2, h3, h4, h5⟩ := h
  exact ⟨r', ds', h1, h2, h3, h4, hk _ _ h5⟩
theorem fits_region {n id : Nat} {ops : Array Oper} {dr : Bool} (h : fits n (.region id ops dr) = true) : ∀ (i : Nat) (o : Oper) (d : Nat), ops[i]? = some o → o.dst = some d → d < n := by
  intro i o d ho hd
  simp only [fits, List.all_eq_true] at h
  have := h o (by have := Array.mem_of_getElem? ho; simpa using this)
  rw [hd] at this
  simpa [Nat.blt_eq] using this
theorem prmS_out {A : Ann} {n : Nat} : ∀ {ps : List Nat} {args : List Value} {r : Regs} {K : Regs → Prop} {a : Act}, prmS A ps args r K → (∀ p ∈ ps, p < n) → Rl n r a →
    ps.length = args.length ∧ ∃ r', K r' ∧ Rl n r' { a with tmps := (ps.zip args).foldl (fun t x => t.setIfInBounds x.1 x.2) a.tmps }
  | [], [], r, K, a, h, _, hR => ⟨rfl, r, h, hR⟩
  | [], _ :: _, _, _, _, h, _, _ => h.elim
  | _ :: _, [], _, _, _, h, _, _ => h.elim
  | p :: ps, x :: xs, r, K, a, h, hp, hR => by
    have h' : prmS A ps xs (upd r p x) K := by
      simp only [prmS, headL] at h
      split at h
      · exact Kd.norm_out (K := fun v => prmS A ps xs (upd r p v) K) h
      · exact h
    have hR' := hR.put (dst := some p) x (fun d e => by cases e; exact hp p (List.mem_cons_self ..))
    obtain ⟨hl, r', hk, hr⟩ := prmS_out h' (fun q hq => hp q (List.mem_cons_of_mem _ hq)) hR'
    exact ⟨by simp [hl], r', hk, by simpa [Act.put] using hr⟩
theorem run_enterLoop_inner {fn : FuncId} {tmps : Array Value} {ps : Array Tmp} {assign body : Code} {l0 : Nat} {lp : Loop} {w : World} (h : w.heap[l0]? = some (.loop lp)) :
    (Instr.enterLoop fn tmps ps assign body (some l0)).run P w = .ok (w.heap.size, []) (w.alloc (.loop { state := .ready, pending := none, fn, tmps, params := ps, assign, body, defers := lp.defers })) := by
  unfold Instr.enterLoop
  simp [Sem.run_bind, run_getLoop h, Result.andThen, newObj, Sem.run]
theorem foldl_zip (ps : Array Nat) (args : List Value) (t : Array Value) :
    (ps.zip args.toArray).foldl (fun tmps (x : Nat × Value) => tmps.setIfInBounds x.1 x.2) t = (ps.toList.zip args).foldl (fun t x => t.setIfInBounds x.1 x.2) t := by
  rw [← Array.foldl_toList]
  simp

def markR (ro : Option Nat) (D : Nat) : List Deferred :=
  match ro with
  | none => [{ target := .collected D, args := #[] }]
  | some _ => []
theorem enter_shape {ro : Option Nat} {fn : FuncId} {tmps : Array Value} {ps : Array Tmp} {as body : Code} {w : World} (hl0 : ∀ l0, ro = some l0 → ∃ lp, w.heap[l0]? = some (.loop lp)) :
    ∃ dfb l w1, (Instr.enterLoop fn tmps ps as body ro).run P w = .ok (l, markR ro w.heap.size) w1 ∧
      shapeR ro w (.loop { state := .ready, pending := none, fn, tmps, params := ps, assign := as, body, defers := dfb }) l w1 := by
  cases ro with
  | none => exact ⟨_, _, _, run_enterLoop_outer _ _ _ _ _, rfl, rfl⟩
  | some l0 =>
    obtain ⟨lp, hlp⟩ := hl0 l0 rfl
    exact ⟨_, _, _, run_enterLoop_inner hlp, rfl, rfl⟩
theorem shapeR_get {ro : Option Nat} {w w1 : World} {rdy : Obj} {l : Nat} (h : shapeR ro w rdy l w1) : w1.heap[l]? = some rdy := by
  cases ro with
  | none =>
    obtain ⟨rfl, rfl⟩ := h
    have := World.alloc_heap_new (w.alloc (.deferred (some []))) rdy
    rwa [World.size_alloc] at this
  | some l0 =>
    obtain ⟨rfl, rfl⟩ := h
    exact World.alloc_heap_new _ _

theorem rangeX_out {A : Ann} {ro : Option Nat} {m n : Nat} {g : Operand} {ps : Array Tmp} {as body : Code} {r : Regs} {w : World} {a : Act} {KN KR : KW} {KE : List (Nat × KW)} {Q : Exit → Act → World → Prop}
    (hps : ∀ p ∈ ps.toList, p < n)
    (hAs : ∀ l r0 W KK a0, ex P A as (some l) r0 [] W KK → Rl n r0 a0 → a0.defers = [] → as.wpIn (Fr (some l)) 0 P (Post n as r0 [] KK) a0 W)
    (hBody : ∀ l r0 W KK a0, ex P A body (some l) r0 [] W KK → Rl n r0 a0 → a0.defers = marks [] → body.wpIn (Fr (some l)) 0 P (Post n body r0 [] KK) a0 W)
    (h : rangeX P ro (ev r g) w (fun l rdy bz args W k => prmS A ps.toList args r fun r0 => ex P A as (some l) r0 [] W fun e r1 _ W1 => (match e with
      | .normal => W1.heap[l]? = some rdy ∧ ex P A body (some l) r1 [] (W1.putObj l bz) fun e _ _ W2 => k e W2
      | _ => False)) KN KR KE)
    (hAsR : hasRange as = false)
    (hR : Rl n r a)
    (hQN : ∀ W, KN w.heap.size W → Q .normal { a with defers := markR ro w.heap.size ++ a.defers } W)
    (hQR : ∀ W, KR w.heap.size W → Q .ret { a with defers := markR ro w.heap.size ++ a.defers } W)
    (hQE : ∀ x ∈ KE, ∀ W, x.2 w.heap.size W → Q (.exit x.1) { a with defers := markR ro w.heap.size ++ a.defers } W) :
    (Code.rangeFunc g ps as body).wpIn (Fr ro) m P Q a w := by
  unfold rangeX at h
  split at h
  case h_2 => exact h.elim
  rename_i f first cap hg
  obtain ⟨hl0, h⟩ := h
  refine wpIn_rangeFunc ?_
  intro fn _
  obtain ⟨dfb, l, w1, hent, hshape⟩ := enter_shape (P := P) (fn := fn) (tmps := a.tmps) (ps := ps) (as := as) (body := body) hl0
  have hcall := h (fun st pe => .loop { state := st, pending := pe, fn, tmps := a.tmps, params := ps, assign := as, body, defers := dfb }) (fun s p => ⟨_, rfl⟩) l w1 hshape ?yields
  case yields =>
    intro args W R hW hB
    obtain ⟨hlen, r0, hk, hR0⟩ := prmS_out (a := { a with defers := [] }) hB hps ⟨hR.size, hR.get⟩
    refine ⟨fn, _, as, body, run_yield hW (by simp [← hlen]), ?_⟩
    refine roundIn_of_wpIn (F := Fence.wide) trivial ?_
    have h1 := hAs l r0 W _ _ hk hR0 rfl
    rw [foldl_zip]
    refine wpIn_mono h1 ?_
    rintro e a1 W1 ⟨r1, ds1, hR1, hd1, hds1, _, hk1⟩
    have hds1 := hds1 hAsR
    subst hds1
    cases e with
    | normal =>
      obtain ⟨hrdy, hk1⟩ := hk1
      refine ⟨_, run_beginRound hrdy rfl, ?_⟩
      refine wpIn_mono (hBody l r1 _ _ a1 hk1 hR1 hd1) ?_
      rintro e2 a2 W2 ⟨r2, ds2, hR2, hd2, _, _, hbz, hend⟩
      cases e2 with
      | normal => exact ⟨_, _, run_endRound none hbz, ⟨_, rfl, hend⟩⟩
      | ret => exact ⟨_, _, run_endRound (some .ret) hbz, ⟨_, rfl, hend⟩⟩
      | exit i =>
        simp only [rndEnd] at hend
        split at hend
        · exact ⟨_, _, run_endRound (some (.exit i)) hbz, ⟨_, rfl, hend⟩⟩
        · exact hend.elim
      | goto t => exact hend.elim
      | panic ch => exact hend.elim
      | outgrown => exact hend.elim
    | _ => exact hk1.elim
  refine ⟨l, markR ro w.heap.size, w1, { target := .fn (.func f) cap, args := first ++ #[.func (.yield l) #[] #[]] }, w1, f, first ++ #[.func (.yield l) #[] #[]] ++ cap, w1, hent, ?_, fun _ _ => trivial, ?_, fun hd => by simp [Fr, Fence.wide] at hd, ?_⟩
  · rw [hR.ev] at hg
    have e2 : (rangeCall g l).args.map a.eval = #[.func (.yield l) #[] #[]] := by simp [rangeCall, Act.eval]
    simp only [resolve, hg, Deferred.ofValue, e2, Sem.run_pure]
  · simp only [invoke]
    exact enters_of_hasB hcall.1
  · refine ⟨trivial, fun cs _ => ?_⟩
    have e1 : (first.toList ++ [Value.func (.yield l) #[] #[]] ++ cap.toList).toArray = first ++ #[.func (.yield l) #[] #[]] ++ cap := by simp
    have h2 := hcall.2
    rw [e1] at h2
    obtain ⟨e, w', fr, ⟨v, rfl, k⟩, h3, h4⟩ := h2.2 cs (room_wide _)
    refine ⟨.returned v, w', fr, ?_, h3, h4⟩
    rcases k with ⟨hl, hk⟩ | ⟨hl, hk⟩ | hk
    · exact ⟨none, _, run_endLoop hl (by simp), hQN _ hk⟩
    · exact ⟨some .ret, _, run_endLoop hl (by simp), wpIn_ret (hQR _ hk)⟩
    · have key : ∀ (KE' : List (Nat × KW)), (∀ x ∈ KE', x ∈ KE) → orL w.heap.size l (fun st pe => .loop { state := st, pending := pe, fn, tmps := a.tmps, params := ps, assign := as, body, defers := dfb }) w' KE' →
          rangePost (Fr ro) m P l Q { a with defers := markR ro w.heap.size ++ a.defers } (.returned v) w' := by
        intro KE'
        induction KE' with
        | nil => intro _ h; exact h.elim
        | cons x xs ih =>
          intro hsub h
          rcases h with ⟨hl, hk⟩ | h
          · exact ⟨some (.exit x.1), _, run_endLoop hl (by simp), wpIn_exit (hQE x (hsub x (List.mem_cons_self ..)) _ hk)⟩
          · exact ih (fun y hy => hsub y (List.mem_cons_of_mem _ hy)) h
      exact key KE (fun _ h => h) hk

theorem fits_all {n : Nat} {ps : Array Tmp} (h : ps.toList.all (fun d => Nat.blt d n) = true) : ∀ p ∈ ps.toList, p < n := by
  intro p hp
  rw [List.all_eq_true] at h
  simpa [Nat.blt_eq] using h p hp
theorem wpIn_loopG {F : Fence} {n : Nat} {c : Code} {Q : Exit → Act → World → Prop} {a : Act} {w : World} {γ : Type} (I : γ → Act → World → Prop) (μ : γ → World → Nat) (g0 : γ) (h₀ : I g0 a w)
    (round : ∀ g a w, I g a w → c.wpIn F n P (Exit.then (fun a' w' => ∃ g', I g' a' w' ∧ μ g' w' < μ g w) Q) a w) : (Code.loop c).wpIn F n P Q a w := by
  intro b k cs hro hb hr
  have key : ∀ j g a w, μ g w = j → I g a w →
      ∃ e a' w', Q e a' w' ∧ ArrivesIn (Machine.fenced P F) P (lone (b.atR a (.code c :: .inLoop c :: k)) cs w) b k cs e a' w' := by
    intro j
    induction j using Nat.strongRecOn with
    | _ j ih =>
      intro g a w hn hI
      obtain ⟨e, a₁, w₁, hq, harr⟩ := round g a w hI b (.inLoop c :: k) cs hro hb hr
      cases e with
      | normal =>
        obtain ⟨g', hI₁, hlt⟩ := hq
        obtain ⟨e₂, a₂, w₂, hq₂, harr₂⟩ := ih (μ g' w₁) (hn ▸ hlt) g' a₁ w₁ rfl hI₁
        exact ⟨e₂, a₂, w₂, hq₂, .of_steps (StepsIn.trans harr (.one (fenced_calm hb hr rfl) stepR_inLoop)) harr₂⟩
      | exit id => exact ⟨_, a₁, w₁, hq, .pass (x := .inLoop c) rfl (fun _ _ => .inl (by simp)) harr⟩
      | goto l => exact ⟨_, a₁, w₁, hq, .pass (x := .inLoop c) rfl (fun _ _ => .inl (by simp)) harr⟩
      | ret => exact ⟨_, a₁, w₁, hq, .pass (x := .inLoop c) rfl (fun _ _ => .inl (by simp)) harr⟩
      | panic ch => exact ⟨_, a₁, w₁, hq, .pass (x := .inLoop c) rfl (fun _ _ => .inl (by simp)) harr⟩
      | outgrown => exact ⟨_, a₁, w₁, hq, .pass (x := .inLoop c) rfl (fun _ _ => .inl (by simp)) harr⟩
  obtain ⟨e, a', w', hq, harr⟩ := key _ g0 a w rfl h₀
  exact ⟨e, a', w', hq, .of_steps (.one (fenced_calm hb hr rfl) stepR_loop) harr⟩
/-- **Code, as it is read, is what the model carries out.** -/
theorem ex_sound (A : Ann) (n : Nat) (hm : P.follows .mixedOrders = true) : ∀ (c : Code) (ro : Option Nat) (m : Nat) (r : Regs) (ds : List Nat) (w : World) (K : Exit → Regs → List Nat → World → Prop) (a : Act),
    fits n c = true → ex P A c ro r ds w K → Rl n r a → a.defers = marks ds → c.wpIn (Fr ro) m P (Post n c r ds K) a w := by
  intro c
  induction c with
  | skip =>
    intro ro m r ds w K a hf h hR hd
    exact wpIn_skip ⟨r, ds, hR, hd, fun _ => rfl, fun _ _ => rfl, h⟩
  | ret =>
    intro ro m r ds w K a hf h hR hd
    exact wpIn_ret ⟨r, ds, hR, hd, fun _ => rfl, fun _ _ => rfl, h⟩
  | exit i =>
    intro ro m r ds w K a hf h hR hd
    exact wpIn_exit ⟨r, ds, hR, hd, fun _ => rfl, fun _ _ => rfl, h⟩
  | region id ops dr =>
    intro ro m r ds w K a hf h hR hd
    simp only [ex, exRegion] at h
    have hdst := fits_region hf
    split at h
    · refine exCore_out (df := marks ds) (r0 := r) hm hdst ?_ h hR hd
      intro r' a' w' hR' hd' hfr hk
      exact ⟨r', ds, hR', hd', fun _ => rfl, hfr, hk⟩
    · rename_i S hS
      obtain ⟨Q, h1, h2⟩ := h
      refine exCore_out (df := marks ds) (r0 := r) hm hdst ?_ h1 hR hd
      intro r' a' w' hR' hd' hfr hk
      obtain ⟨d, hv, hq⟩ := decD_out hk
      have h3 := h2 d w' hq r'
      rw [havoc_self hfr, putD_self hv] at h3
      exact ⟨r', ds, hR', hd', fun _ => rfl, hfr, h3⟩
  | seq x y ihx ihy =>
    intro ro m r ds w K a hf h hR hd
    simp only [fits, Bool.and_eq_true] at hf
    simp only [ex] at h
    refine wpIn_seq (wpIn_mono (ihx ro m r ds w _ a hf.1 h hR hd) ?_)
    rintro e a1 w1 ⟨r1, ds1, hR1, hd1, hds1, hfr1, hk1⟩
    cases e with
    | normal =>
      refine wpIn_mono (ihy ro m r1 ds1 w1 _ a1 hf.2 hk1 hR1 hd1) ?_
      rintro e2 a2 w2 ⟨r2, ds2, hR2, hd2, hds2, hfr2, hk2⟩
      refine ⟨r2, ds2, hR2, hd2, fun hh => ?_, fun t ht => ?_, hk2⟩
      · simp only [hasRange, Bool.or_eq_false_iff] at hh
        rw [hds2 hh.2, hds1 hh.1]
      · simp only [dsts, List.mem_append, not_or] at ht
        rw [hfr2 t ht.2, hfr1 t ht.1]
    | exit i =>
      exact ⟨r1, ds1, hR1, hd1, fun hh => by simp only [hasRange, Bool.or_eq_false_iff] at hh; exact hds1 hh.1, fun t ht => by simp only [dsts, List.mem_append, not_or] at ht; exact hfr1 t ht.1, hk1⟩
    | goto i =>
      exact ⟨r1, ds1, hR1, hd1, fun hh => by simp only [hasRange, Bool.or_eq_false_iff] at hh; exact hds1 hh.1, fun t ht => by simp only [dsts, List.mem_append, not_or] at ht; exact hfr1 t ht.1, hk1⟩
    | ret =>
      exact ⟨r1, ds1, hR1, hd1, fun hh => by simp only [hasRange, Bool.or_eq_false_iff] at hh; exact hds1 hh.1, fun t ht => by simp only [dsts, List.mem_append, not_or] at ht; exact hfr1 t ht.1, hk1⟩
    | panic ch =>
      exact ⟨r1, ds1, hR1, hd1, fun hh => by simp only [hasRange, Bool.or_eq_false_iff] at hh; exact hds1 hh.1, fun t ht => by simp only [dsts, List.mem_append, not_or] at ht; exact hfr1 t ht.1, hk1⟩
    | outgrown =>
      exact ⟨r1, ds1, hR1, hd1, fun hh => by simp only [hasRange, Bool.or_eq_false_iff] at hh; exact hds1 hh.1, fun t ht => by simp only [dsts, List.mem_append, not_or] at ht; exact hfr1 t ht.1, hk1⟩
  | cond c x y ihx ihy =>
    intro ro m r ds w K a hf h hR hd
    simp only [fits, Bool.and_eq_true] at hf
    have liftx : ∀ {K'}, (∀ e a' w', Post n x r ds K' e a' w' → Post n (.cond c x y) r ds K' e a' w') := by
      rintro K' e a' w' ⟨r', ds', h1, h2, h3, h4, h5⟩
      exact ⟨r', ds', h1, h2, fun hh => by simp only [hasRange, Bool.or_eq_false_iff] at hh; exact h3 hh.1, fun t ht => by simp only [dsts, List.mem_append, not_or] at ht; exact h4 t ht.1, h5⟩
    have lifty : ∀ {K'}, (∀ e a' w', Post n y r ds K' e a' w' → Post n (.cond c x y) r ds K' e a' w') := by
      rintro K' e a' w' ⟨r', ds', h1, h2, h3, h4, h5⟩
      exact ⟨r', ds', h1, h2, fun hh => by simp only [hasRange, Bool.or_eq_false_iff] at hh; exact h3 hh.2, fun t ht => by simp only [dsts, List.mem_append, not_or] at ht; exact h4 t ht.2, h5⟩
    simp only [ex] at h
    split at h
    case h_2 => exact h.elim
    rename_i t hc
    rw [hR.ev] at hc
    have plain : cond t (ex P A x ro r ds w K) (ex P A y ro r ds w K) → (Code.cond c x y).wpIn (Fr ro) m P (Post n (.cond c x y) r ds K) a w := by
      intro h
      refine wpIn_cond_split hc (fun e => ?_) (fun e => ?_)
      · subst e; exact wpIn_mono (ihx ro m r ds w K a hf.1 h hR hd) liftx
      · subst e; exact wpIn_mono (ihy ro m r ds w K a hf.2 h hR hd) lifty
    split at h
    · rename_i s
      split at h
      · exact plain h
      · rename_i S hS
        split at h
        · exact h.elim
        · rename_i hno
          simp only [not_or, Bool.not_eq_true] at hno
          obtain ⟨Q, h1, h2⟩ := h
          have fin : ∀ (e : Exit) (a' : Act) (w' : World), Post n (.cond (.tmp s) x y) r ds (fun e r' ds' w' => (match e with
                | .normal => decD S r' fun d => Q d w'
                | e => K e r' ds' w')) e a' w' → Post n (.cond (.tmp s) x y) r ds K e a' w' := by
            rintro e a' w' ⟨r', ds', g1, g2, g3, g4, g5⟩
            cases e with
            | normal =>
              have e3 := g3 (by simp [hasRange, hno.1, hno.2])
              subst e3
              obtain ⟨d, hv, hq⟩ := decD_out g5
              have h3 := h2 d w' hq r'
              rw [havoc_self (l := dsts x ++ dsts y) g4, putD_self hv] at h3
              exact ⟨r', ds', g1, g2, g3, g4, h3⟩
            | _ => exact ⟨r', ds', g1, g2, g3, g4, g5⟩
          refine wpIn_cond_split hc (fun e => ?_) (fun e => ?_)
          · subst e; exact wpIn_mono (wpIn_mono (ihx ro m r ds w _ a hf.1 h1 hR hd) liftx) fin
          · subst e; exact wpIn_mono (wpIn_mono (ihy ro m r ds w _ a hf.2 h1 hR hd) lifty) fin
    · exact plain h
  | block i c ih =>
    intro ro m r ds w K a hf h hR hd
    simp only [fits] at hf
    simp only [ex] at h
    have nb : ∀ {k : Nat}, k ≠ i → Nat.beq k i = false := by
      intro k hki
      cases hb : Nat.beq k i with
      | false => rfl
      | true => exact absurd (Nat.eq_of_beq_eq_true hb) hki
    split at h
    · refine wpIn_block (wpIn_mono (ih ro m r ds w _ a hf h hR hd) ?_)
      rintro e a1 w1 ⟨r1, ds1, hR1, hd1, hds1, hfr1, hk1⟩
      cases e with
      | exit k =>
        simp only [Exit.inBlock]
        by_cases hki : k = i
        · subst hki
          simp only [if_true]
          have hb : Nat.beq k k = true := Nat.beq_refl k
          simp only [hb, cond_true] at hk1
          exact ⟨r1, ds1, hR1, hd1, hds1, hfr1, hk1⟩
        · simp only [hki, if_false]
          simp only [nb hki, cond_false] at hk1
          exact ⟨r1, ds1, hR1, hd1, hds1, hfr1, hk1⟩
      | _ => exact ⟨r1, ds1, hR1, hd1, hds1, hfr1, hk1⟩
    · rename_i S hS
      split at h
      · exact h.elim
      · rename_i hno
        have hno : hasRange c = false := by simpa using hno
        obtain ⟨Q, h1, h2⟩ := h
        have fin : ∀ (a' : Act) (w' : World) (r' : Regs), Rl n r' a' → a'.defers = marks ds → (∀ t, t ∉ dsts c → r' t = r t) → (decD S r' fun d => Q d w') → Post n (.block i c) r ds K .normal a' w' := by
          intro a' w' r' g1 g2 g4 g5
          obtain ⟨d, hv, hq⟩ := decD_out g5
          have h3 := h2 d w' hq r'
          rw [havoc_self (l := dsts c) g4, putD_self hv] at h3
          exact ⟨r', ds, g1, g2, fun _ => rfl, g4, h3⟩
        refine wpIn_block (wpIn_mono (ih ro m r ds w _ a hf h1 hR hd) ?_)
        rintro e a1 w1 ⟨r1, ds1, hR1, hd1, hds1, hfr1, hk1⟩
        have e1 := hds1 hno
        subst e1
        cases e with
        | normal => exact fin a1 w1 r1 hR1 hd1 hfr1 hk1
        | exit k =>
          simp only [Exit.inBlock]
          by_cases hki : k = i
          · subst hki
            simp only [if_true]
            have hb : Nat.beq k k = true := Nat.beq_refl k
            simp only [hb, cond_true] at hk1
            exact fin a1 w1 r1 hR1 hd1 hfr1 hk1
          · simp only [hki, if_false]
            simp only [nb hki, cond_false] at hk1
            exact ⟨r1, ds1, hR1, hd1, hds1, hfr1, hk1⟩
        | _ => exact ⟨r1, ds1, hR1, hd1, hds1, hfr1, hk1⟩
  | loop c ih =>
    intro ro m r ds w K a hf h hR hd
    simp only [fits] at hf
    simp only [ex] at h
    split at h
    · exact h.elim
    · rename_i S hS
      cases hh : hasRange c with
      | true =>
        simp only [hh, cond_true] at h
        obtain ⟨d0, hv0, I, μ, hI0, hI⟩ := decD_out h
        refine wpIn_loopG (γ := DS S × List Nat) (fun g a' w' => ∃ r', Rl n r' a' ∧ a'.defers = marks g.2 ∧ (∀ t, t ∉ dsts c → r' t = r t) ∧ Vals S g.1 r' ∧ I g w') (fun g w' => μ g w') (d0, ds) ⟨r, hR, hd, fun _ _ => rfl, hv0, hI0⟩ ?_
        rintro ⟨d1, ds1⟩ a1 w1 ⟨r1, hR1, hd1, hfr1, hv1, hI1⟩
        have h1 := hI (d1, ds1) w1 hI1 r1
        simp only at h1 hv1 hd1
        rw [havoc_self hfr1, putD_self hv1] at h1
        refine wpIn_mono (ih ro m r1 ds1 w1 _ a1 hf h1 hR1 hd1) ?_
        rintro e a2 w2 ⟨r2, ds2, hR2, hd2, hds2, hfr2, hk2⟩
        have hfr3 : ∀ t, t ∉ dsts c → r2 t = r t := fun t ht => by rw [hfr2 t ht, hfr1 t ht]
        cases e with
        | normal =>
          obtain ⟨d2, hv2, hI2, hlt⟩ := decD_out hk2
          exact ⟨(d2, ds2), ⟨r2, hR2, hd2, hfr3, hv2, hI2⟩, hlt⟩
        | _ => exact ⟨r2, ds2, hR2, hd2, fun hn => (by simp [hasRange, hh] at hn), hfr3, hk2⟩
      | false =>
        simp only [hh, cond_false] at h
        obtain ⟨d0, hv0, I, μ, hI0, hI⟩ := decD_out h
        refine wpIn_loopG (γ := DS S) (fun g a' w' => ∃ r', Rl n r' a' ∧ a'.defers = marks ds ∧ (∀ t, t ∉ dsts c → r' t = r t) ∧ Vals S g r' ∧ I g w') (fun g w' => μ g w') d0 ⟨r, hR, hd, fun _ _ => rfl, hv0, hI0⟩ ?_
        rintro d1 a1 w1 ⟨r1, hR1, hd1, hfr1, hv1, hI1⟩
        have h1 := hI d1 w1 hI1 r1
        rw [havoc_self hfr1, putD_self hv1] at h1
        refine wpIn_mono (ih ro m r1 ds w1 _ a1 hf h1 hR1 hd1) ?_
        rintro e a2 w2 ⟨r2, ds2, hR2, hd2, hds2, hfr2, hk2⟩
        have hfr3 : ∀ t, t ∉ dsts c → r2 t = r t := fun t ht => by rw [hfr2 t ht, hfr1 t ht]
        have e2 := hds2 hh
        subst e2
        cases e with
        | normal =>
          obtain ⟨d2, hv2, hI2, hlt⟩ := decD_out hk2
          exact ⟨d2, ⟨r2, hR2, hd2, hfr3, hv2, hI2⟩, hlt⟩
        | _ => exact ⟨r2, ds2, hR2, hd2, fun _ => rfl, hfr3, hk2⟩
  | rangeFunc g ps as body ihas ihbody =>
    intro ro m r ds w K a hf h hR hd
    simp only [fits, Bool.and_eq_true] at hf
    simp only [ex] at h
    split at h
    · exact h.elim
    · rename_i hno
      refine rangeX_out (fits_all hf.1.1) (fun l r0 W KK a0 h1 h2 h3 => ihas (some l) 0 r0 [] W KK a0 hf.1.2 h1 h2 h3) (fun l r0 W KK a0 h1 h2 h3 => ihbody (some l) 0 r0 [] W KK a0 hf.2 h1 h2 h3) h (by simpa using hno) hR ?_ ?_ ?_
      all_goals
        have fin : ∀ e W, (match ro with
          | none => K e r (w.heap.size :: ds) W
          | some _ => K e r ds W) → Post n (.rangeFunc g ps as body) r ds K e { a with defers := markR ro w.heap.size ++ a.defers } W := by
          intro e W hk
          cases ro with
          | none => exact ⟨r, w.heap.size :: ds, ⟨hR.size, hR.get⟩, by simp [markR, hd, marks], fun hh => (by simp [hasRange] at hh), fun _ _ => rfl, hk⟩
          | some l0 => exact ⟨r, ds, ⟨hR.size, hR.get⟩, by simp [markR, hd, marks], fun hh => (by simp [hasRange] at hh), fun _ _ => rfl, hk⟩
      · exact fun W hk => fin _ W hk
      · intro W hk
        cases hb : hasRet body with
        | true => rw [hb] at hk; exact fin _ W hk
        | false => rw [hb] at hk; exact hk.elim
      · intro x hx W hk
        obtain ⟨i, _, rfl⟩ := List.mem_map.1 hx
        exact fin _ W hk
  | scope c ih => intro ro m r ds w K a hf h hR hd; exact h.elim
  | label l => intro ro m r ds w K a hf h hR hd; exact h.elim
  | goto l => intro ro m r ds w K a hf h hR hd; exact h.elim
  | refuse y => intro ro m r ds w K a hf h hR hd; exact h.elim

/-! ### A function -/
theorem leaves_of {fn : Func} {tmps : Array Value} {R : Ending → World → Prop} {F : Fence} {m : Nat} : ∀ {ds : List Nat} {w : World} {K : World → Prop}, leaveD ds w K →
    (∀ w', K w' → ∃ v, (results fn tmps).run P w' = .ok v w' ∧ R (.returned v) w') → LeavesInM F m P fn tmps R (marks ds) .returning w
  | [], w, K, h, hK => by
    obtain ⟨v, h1, h2⟩ := hK w h
    exact ⟨v, h1, h2⟩
  | D :: ds, w, K, h, hK => by
    obtain ⟨hD, h⟩ := h
    refine ⟨by simp, .inl ⟨D, _, rfl, run_takeDeferred hD, leaves_of h hK⟩⟩
def resOne (tmps : Array Value) : ResultVar → Sem Value
  | .tmp t => pure (tmps.getD t undef)
  | .cell a t => do loadVar t (← asAddr (tmps.getD a undef))
theorem resX_out {r : Regs} {w : World} {tmps : Array Value} (hr : ∀ t, r t = tmps.getD t undef) : ∀ {rs : List ResultVar} {K : List Value → Prop}, resX P rs r w K →
    ∃ vs, (rs.mapM (resOne tmps)).run P w = .ok vs w ∧ vs.length = rs.length ∧ K vs
  | [], K, h => ⟨[], by simp, rfl, h⟩
  | .tmp t :: rs, K, h => by
    obtain ⟨vs, h1, h2, h3⟩ := resX_out hr (rs := rs) (K := fun vs => K (r t :: vs)) h
    exact ⟨r t :: vs, by rw [List.mapM_cons]; simp only [resOne, Sem.run_bind, Sem.run_pure, h1, Result.andThen, hr t], by simp [h2], h3⟩
  | .cell a t :: rs, K, h => by
    unfold resX at h
    split at h
    · rename_i x hx
      obtain ⟨v, hv, h⟩ := rdT_out h
      obtain ⟨vs, h1, h2, h3⟩ := resX_out hr (rs := rs) (K := fun vs => K (v :: vs)) h
      refine ⟨v :: vs, ?_, by simp [h2], h3⟩
      rw [hr a] at hx
      have e1 : (asAddr (tmps.getD a undef)).run P w = .ok x w := by rw [hx]; rfl
      rw [List.mapM_cons]
      simp only [resOne, Sem.run_bind, e1, Result.andThen, hv, h1, Sem.run_pure]
    · exact h.elim
theorem results_out {fn : Func} {r : Regs} {w : World} {tmps : Array Value} {K : Value → World → Prop} (hr : ∀ t, r t = tmps.getD t undef) (h : resX P fn.results.toList r w fun vs => K (tupOf vs) w) :
    ∃ v, (results fn tmps).run P w = .ok v w ∧ K v w := by
  obtain ⟨vs, h1, h2, h3⟩ := resX_out hr h
  refine ⟨tupOf vs, ?_, h3⟩
  have e : results fn tmps = (do let vs ← fn.results.mapM (resOne tmps); pure (if h : vs.size = 1 then vs[0] else .tuple vs)) := by
    unfold results
    congr 2
  rw [e, Array.mapM_eq_mapM_toList]
  simp only [Sem.run_bind, Sem.run_map]
  rw [h1]
  simp only [Result.andThen]
  cases vs with
  | nil => rfl
  | cons v vs =>
    cases vs with
    | nil => rfl
    | cons u us => simp [tupOf]
/-- **A function's contract from its code.** -/
theorem Ok_of (A : Ann) (na : Nat) {f : FuncId} {fn : Func} {args : List Value} {w : World} {K : Value → World → Prop} (hm : P.follows .mixedOrders = true) (hf : P.funcs[f]? = some fn) (hb : hasB P f = true)
    (hfit : fitsF fn na = true) (hl : args.length = na) (h : exF P A fn args w K) : Ok P f args w K := by
  subst hl
  refine ⟨hb, ?_⟩
  unfold exF at h
  unfold fitsF at hfit
  split at h
  · rename_i c hc
    simp only [hc, Bool.and_eq_true, Nat.ble_eq] at hfit
    refine callsIn_of_wp_marks hf hc trivial ?_
    have hR : Rl fn.ntmps (regs0 args) { tmps := args.toArray ++ Array.replicate (fn.ntmps - args.toArray.size) undef, defers := [] } := by
      refine ⟨by simp; omega, fun t => ?_⟩
      simp only [regs0, Array.getD_eq_getD_getElem?, List.getD_eq_getElem?_getD]
      by_cases ht : t < args.length
      · rw [Array.getElem?_append_left (by simpa using ht)]; simp
      · rw [Array.getElem?_append_right (by simpa using Nat.le_of_not_lt ht), List.getElem?_eq_none (Nat.le_of_not_lt ht), Array.getElem?_replicate]
        split <;> rfl
    have h1 := ex_sound A fn.ntmps hm c none 0 (regs0 args) [] w _ _ hfit.1 h hR rfl
    refine wpIn_mono h1 ?_
    rintro e a1 w1 ⟨r1, ds1, hR1, hd1, _, _, hk1⟩
    have out : ∀ (hk : leaveD ds1 w1 fun w' => resX P fn.results.toList r1 w' fun vs => K (tupOf vs) w'), LeavesInM Fence.wide 0 P fn a1.tmps (fun e w' => ∃ v, e = .returned v ∧ K v w') a1.defers .returning w1 := by
      intro hk
      rw [hd1]
      refine leaves_of hk fun w' hk' => ?_
      obtain ⟨v, h2, h3⟩ := results_out hR1.get hk'
      exact ⟨v, h2, v, rfl, h3⟩
    cases e with
    | normal => exact out hk1
    | ret => exact out hk1
    | _ => exact hk1.elim
  · exact h.elim
theorem Ok_eq (A : Ann) (na : Nat) {f : FuncId} {fn : Func} {args : List Value} {w : World} {K : Value → World → Prop} {T : Prop} (hm : P.follows .mixedOrders = true) (hf : P.funcs[f]? = some fn) (hb : hasB P f = true)
    (hfit : fitsF fn na = true) (hl : args.length = na) (e : exF P A fn args w K = T) (h : T) : Ok P f args w K := by
  subst e
  exact Ok_of A na hm hf hb hfit hl h
end Go.Rk
