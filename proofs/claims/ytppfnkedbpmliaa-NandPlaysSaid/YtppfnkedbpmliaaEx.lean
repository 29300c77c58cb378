/- Nothing is proved of the program here: code, as it is read: regions (in every order that they may draw), branches, loops, ranges over functions. -/
import Derived.Test.YtppfnkedbpmliaaOpsC
set_option linter.unusedSimpArgs false
set_option linter.unusedVariables false
namespace Go.Rk
open Go

/-! ### Slots that live through a join or a loop -/
abbrev Slots := List (Nat × Kd)
@[reducible] def DS : Slots → Type
  | [] => Unit
  | x :: S => x.2.D × DS S
def Kd.dec : (k : Kd) → Value → (k.D → Prop) → Prop
  | .one k, x, K => k.dec x K
  | .agg ks, x, K => decG ks x K
  | .raw, x, K => decR x K
  | .tup _, _, _ => False
def decD : (S : Slots) → Regs → (DS S → Prop) → Prop
  | [], _, K => K ()
  | x :: S, r, K => x.2.dec (r x.1) fun d => decD S r fun ds => K (d, ds)
def putD : (S : Slots) → DS S → Regs → Regs
  | [], _, r => r
  | x :: S, d, r => upd (putD S d.2 r) x.1 (x.2.enc d.1)
def mem (t : Nat) : List Nat → Bool
  | [] => false
  | x :: l => cond (Nat.beq t x) true (mem t l)
def havoc (r : Regs) (l : List Nat) (j : Regs) : Regs := fun t => cond (mem t l) (j t) (r t)
def find {α : Type} : List (Nat × α) → Nat → Option α
  | [], _ => none
  | x :: l, n => cond (Nat.beq x.1 n) (some x.2) (find l n)
def joinT {D : Type} (m : (D → World → Prop) → Prop) (K : D → World → Prop) : Prop := ∃ Q : D → World → Prop, m Q ∧ ∀ d w, Q d w → K d w
def loopT {D : Type} (body : D → World → (D → World → Prop) → Prop) (d0 : D) (w0 : World) : Prop :=
  ∃ (I : D → World → Prop) (μ : D → World → Nat), I d0 w0 ∧ ∀ d w, I d w → body d w fun d' w' => I d' w' ∧ μ d' w' < μ d w
structure Ann where
  reg : List (Nat × Slots) := []
  cnd : List (Nat × Slots) := []
  lop : List (Nat × Slots) := []
  blk : List (Nat × Slots) := []
  prm : List (Nat × Kd) := []

/-! ### What code writes -/
def dstO (ops : List Oper) : List Nat := ops.filterMap (·.dst)
def dsts : Code → List Nat
  | .region _ ops _ => dstO ops.toList
  | .seq a b => dsts a ++ dsts b
  | .cond _ a b => dsts a ++ dsts b
  | .block _ c => dsts c
  | .loop c => dsts c
  | .scope c => dsts c
  | _ => []
def hasRange : Code → Bool
  | .rangeFunc .. => true
  | .seq a b => hasRange a || hasRange b
  | .cond _ a b => hasRange a || hasRange b
  | .block _ c => hasRange c
  | .loop c => hasRange c
  | .scope c => hasRange c
  | _ => false
def firstReg : Code → Nat
  | .region i _ _ => i
  | .seq a b => firstReg a
  | .block _ c => firstReg c
  | .loop c => firstReg c
  | .scope c => firstReg c
  | .rangeFunc _ _ a _ => firstReg a
  | _ => 0
/-- All registers that are written are of the frame's; no register of a region is a frame's outside. -/
def fits (n : Nat) : Code → Bool
  | .region _ ops _ => ops.toList.all fun o => (match o.dst with | some d => Nat.blt d n | none => true)
  | .seq a b => fits n a && fits n b
  | .cond _ a b => fits n a && fits n b
  | .block _ c => fits n c
  | .loop c => fits n c
  | .scope c => fits n c
  | .rangeFunc _ ps a c => ps.toList.all (fun d => Nat.blt d n) && fits n a && fits n c
  | _ => true

/-! ### A region -/
/-- One operation with its guard: the guard's own register is known behind it. -/
def exG (ops : Array Oper) (o : Oper) (r : Regs) (run skip : Regs → Prop) : Prop :=
  match o.guard with
  | none => run r
  | some (j, want) => (match (ops[j]?).bind (·.dst) with
    | none => skip r
    | some d => (match r d with
      | .bool b => cond b (cond want (run (upd r d (.bool true))) (skip (upd r d (.bool true)))) (cond want (skip (upd r d (.bool false))) (run (upd r d (.bool false))))
      | _ => skip r))
def exO (P : Program) (ops : Array Oper) (o : Oper) (r : Regs) (w : World) (K : Regs → World → Prop) : Prop :=
  exG ops o r (fun r => opV P r o w fun v w' => K (updO r o.dst v) w') (fun r => K (updO r o.dst undef) w)
def exOps (P : Program) (ops : Array Oper) : List Nat → Regs → World → (Regs → World → Prop) → Prop
  | [], r, w, K => K r w
  | i :: l, r, w, K => (match ops[i]? with
    | none => exOps P ops l r w K
    | some o => exO P ops o r w fun r' w' => exOps P ops l r' w' K)

def directs (o : Oper) : List Nat := o.after.toList.filterMap fun e => if Region.binds .any e then some e.on else none
def ins (x : Nat) (l : List Nat) : List Nat := cond (mem x l) l (x :: l)
def allIn (l Y : List Nat) : Bool := l.all fun x => mem x Y
def ancTab (ops : List Oper) : List (List Nat) :=
  ops.foldl (fun acc o => acc ++ [(directs o).foldr (fun m s => ins m ((acc.getD m []).foldr ins s)) []]) []
def opAt (ops : Array Oper) (i : Nat) : Oper := (ops[i]?).getD default
def readsOf (ops : Array Oper) (o : Oper) : List Nat := o.looksAt ops
def nodup : List Nat → Bool
  | [] => true
  | x :: l => !(mem x l) && nodup l
/-- The order's own book-keeping: edges lead back; each register is written once; what an operation looks at is written by one that it waits for, or by one that waits for it. -/
def okDraw (ops : Array Oper) (anc : List (List Nat)) : Bool :=
  let n := ops.size
  (List.range n).all (fun i => (directs (opAt ops i)).all (fun d => Nat.blt d i)) &&
  nodup (dstO ops.toList) &&
  (List.range n).all (fun i => (anc.getD i []).all fun j => mem j (directs (opAt ops i)) || (directs (opAt ops i)).any fun m => mem j (anc.getD m [])) &&
  (List.range n).all (fun i => (readsOf ops (opAt ops i)).all fun t => (opAt ops i).dst != some t && (List.range n).all fun j => (opAt ops j).dst != some t || mem j (anc.getD i []) || mem i (anc.getD j [])) &&
  (List.range n).all (fun i => !(isRead (opAt ops i)) || ((opAt ops i).dst.isSome && (readsOf ops (opAt ops i)).all fun t => (List.range n).all fun j => (opAt ops j).dst != some t || mem j (anc.getD i []))) &&
  (List.range n).all (fun i => (match (opAt ops i).op with | .select .. => false | .defer _ => false | _ => true))
/-- What was read ahead of an operation, and might have been read behind it, reads as it did. -/
def rechk (P : Program) (ops : Array Oper) : List Nat → Regs → World → Prop → Prop
  | [], _, _, K => K
  | i :: l, r, w, K =>
    (match (opAt ops i).dst with
     | some d => exG ops (opAt ops i) r (fun r => valV P r (opAt ops i) w fun v => v = r d ∧ rechk P ops l r w K) (fun r => rechk P ops l r w K)
     | none => rechk P ops l r w K)
def todo (ops : Array Oper) (eff : Bool) (Y : List Nat) : List Nat :=
  (List.range ops.size).filter fun i => !(mem i Y) && (isEff (opAt ops i) == eff) && allIn (directs (opAt ops i)) Y
def conjL (l : List Nat) (F : Nat → Prop) : Prop :=
  match l with
  | [] => True
  | [x] => F x
  | x :: l => F x ∧ conjL l F
/-- Every order in which a region may go: what only looks goes as early as it may; what acts goes in every order that is left. -/
def exSt (P : Program) (ops : Array Oper) (anc : List (List Nat)) : Nat → List Nat → Regs → World → (Regs → World → Prop) → Prop
  | 0, _, _, _, _ => False
  | f + 1, Y, r, w, K =>
    (match todo ops false Y with
     | i :: _ => exO P ops (opAt ops i) r w fun r' w' => exSt P ops anc f (i :: Y) r' w' K
     | [] => (match todo ops true Y with
       | [] => if allIn (List.range ops.size) Y = true then K r w else False
       | es => conjL es fun e => exO P ops (opAt ops e) r w fun r' w' =>
          rechk P ops ((List.range ops.size).filter fun i => mem i Y && isRead (opAt ops i) && !(mem i (anc.getD e []))) r' w' (exSt P ops anc f (e :: Y) r' w' K)))
def exCore (P : Program) (ops : Array Oper) (draw : Bool) (r : Regs) (w : World) (K : Regs → World → Prop) : Prop :=
  cond draw (if okDraw ops (ancTab ops.toList) = true then exSt P ops (ancTab ops.toList) (2 * ops.size + 2) [] r w.drew K else False)
    (exOps P ops (List.range ops.size) r w K)
def exRegion (P : Program) (A : Ann) (id : Nat) (ops : Array Oper) (draw : Bool) (r : Regs) (w : World) (K : Regs → World → Prop) : Prop :=
  match find A.reg id with
  | none => exCore P ops draw r w K
  | some S => joinT (fun k => exCore P ops draw r w fun r' w' => decD S r' fun d => k d w') (fun d w' => ∀ j : Regs, K (putD S d (havoc r (dstO ops.toList) j)) w')

/-! ### Code -/
def headL (l : List Value) (F : Value → List Value → Prop) : Prop :=
  match l with
  | x :: l => F x l
  | [] => False
def nilL (l : List Value) (K : Prop) : Prop :=
  match l with
  | [] => K
  | _ => False
def prmS (A : Ann) : List Nat → List Value → Regs → (Regs → Prop) → Prop
  | [], args, r, K => nilL args (K r)
  | p :: ps, args, r, K => headL args fun x args => (match find A.prm p with
    | some k => k.norm x fun v => prmS A ps args (upd r p v) K
    | none => prmS A ps args (upd r p x) K)
/-- The jumps by which code may be left. -/
def hasRet : Code → Bool
  | .ret => true
  | .seq a b => hasRet a || hasRet b
  | .cond _ a b => hasRet a || hasRet b
  | .block _ c => hasRet c
  | .loop c => hasRet c
  | .scope c => hasRet c
  | .rangeFunc _ _ _ c => hasRet c
  | _ => false
def exitsOf : Code → List Nat
  | .exit i => [i]
  | .seq a b => (exitsOf a).foldr ins (exitsOf b)
  | .cond _ a b => (exitsOf a).foldr ins (exitsOf b)
  | .block i c => (exitsOf c).filter fun k => !(Nat.beq k i)
  | .loop c => exitsOf c
  | .scope c => exitsOf c
  | .rangeFunc _ _ _ c => exitsOf c
  | _ => []
abbrev KW := Nat → World → Prop
def rndEnd (l : Nat) (Rc : LoopState → Option Code → Obj) (es : List Nat) (R : Value → World → Prop) (e : Exit) (W : World) : Prop :=
  match e with
  | .normal => R (.bool true) (W.putObj l (Rc .ready none))
  | .ret => R (.bool false) (W.putObj l (Rc .done (some .ret)))
  | .exit i => if mem i es = true then R (.bool false) (W.putObj l (Rc .done (some (.exit i)))) else False
  | _ => False
def orL (D : Nat) (l : Nat) (Rc : LoopState → Option Code → Obj) (W : World) : List (Nat × KW) → Prop
  | [] => False
  | x :: xs => (W.heap[l]? = some (Rc .done (some (.exit x.1))) ∧ x.2 D (W.putObj l (Rc .exhausted (some (.exit x.1))))) ∨ orL D l Rc W xs
def rngEnd (D l : Nat) (Rc : LoopState → Option Code → Obj) (KN KR : KW) (KE : List (Nat × KW)) (W : World) : Prop :=
  (W.heap[l]? = some (Rc .ready none) ∧ KN D (W.putObj l (Rc .exhausted none))) ∨
  (W.heap[l]? = some (Rc .done (some .ret)) ∧ KR D (W.putObj l (Rc .exhausted (some .ret)))) ∨
  orL D l Rc W KE
/-- A range over a function: B is the round's code, on yield's arguments. -/
def shapeR (ro : Option Nat) (w : World) (rdy : Obj) (l : Nat) (w1 : World) : Prop :=
  match ro with
  | none => l = w.heap.size + 1 ∧ w1 = (w.alloc (.deferred (some []))).alloc rdy
  | some _ => l = w.heap.size ∧ w1 = w.alloc rdy
def rangeX (P : Program) (ro : Option Nat) (fv : Value) (w : World) (B : Nat → Obj → Obj → List Value → World → (Exit → World → Prop) → Prop) (KN KR : KW) (KE : List (Nat × KW)) : Prop :=
  match fv with
  | .func (.func f) first cap =>
    (∀ l0, ro = some l0 → ∃ lp, w.heap[l0]? = some (.loop lp)) ∧
    ∀ (Rc : LoopState → Option Code → Obj), (∀ s p, ∃ lp, Rc s p = .loop lp) →
    ∀ (l : Nat) (w1 : World), shapeR ro w (Rc .ready none) l w1 →
    (∀ (args : List Value) (W : World) (R : Value → World → Prop), W.heap[l]? = some (Rc .ready none) →
      B l (Rc .ready none) (Rc .busy none) args W (fun e W2 => W2.heap[l]? = some (Rc .busy none) ∧ rndEnd l Rc (KE.map (·.1)) R e W2) → OkY P l args W R) →
    Ok P f (first.toList ++ [.func (.yield l) #[] #[]] ++ cap.toList) w1 fun _ W => rngEnd w.heap.size l Rc KN KR KE W
  | _ => False
def ex (P : Program) (A : Ann) : Code → Option Nat → Regs → List Nat → World → (Exit → Regs → List Nat → World → Prop) → Prop
  | .skip, _, r, ds, w, K => K .normal r ds w
  | .ret, _, r, ds, w, K => K .ret r ds w
  | .exit i, _, r, ds, w, K => K (.exit i) r ds w
  | .region id ops draw, _, r, ds, w, K => exRegion P A id ops draw r w fun r' w' => K .normal r' ds w'
  | .seq a b, ro, r, ds, w, K => ex P A a ro r ds w fun e r' ds' w' => (match e with
    | .normal => ex P A b ro r' ds' w' K
    | e => K e r' ds' w')
  | .cond c a b, ro, r, ds, w, K => (match ev r c with
    | .bool t => (match c with
      | .tmp s => (match find A.cnd s with
        | none => cond t (ex P A a ro r ds w K) (ex P A b ro r ds w K)
        | some S => if hasRange a = true ∨ hasRange b = true then False else
          joinT (fun k => cond t
              (ex P A a ro r ds w fun e r' ds' w' => (match e with
                | .normal => decD S r' fun d => k d w'
                | e => K e r' ds' w'))
              (ex P A b ro r ds w fun e r' ds' w' => (match e with
                | .normal => decD S r' fun d => k d w'
                | e => K e r' ds' w')))
            (fun d w' => ∀ j : Regs, K .normal (putD S d (havoc r (dsts a ++ dsts b) j)) ds w'))
      | _ => cond t (ex P A a ro r ds w K) (ex P A b ro r ds w K))
    | _ => False)
  | .block i c, ro, r, ds, w, K => (match find A.blk i with
    | none => ex P A c ro r ds w fun e r' ds' w' => (match e with
      | .exit k => cond (Nat.beq k i) (K .normal r' ds' w') (K (.exit k) r' ds' w')
      | e => K e r' ds' w')
    | some S => if hasRange c = true then False else
      joinT (fun q => ex P A c ro r ds w fun e r' ds' w' => (match e with
          | .normal => decD S r' fun d => q d w'
          | .exit k => cond (Nat.beq k i) (decD S r' fun d => q d w') (K (.exit k) r' ds' w')
          | e => K e r' ds' w'))
        (fun d w' => ∀ j : Regs, K .normal (putD S d (havoc r (dsts c) j)) ds w'))
  | .loop c, ro, r, ds, w, K => (match find A.lop (firstReg c) with
    | none => False
    | some S => cond (hasRange c)
      (decD S r fun d0 => loopT (D := DS S × List Nat) (fun d w' k => ∀ j : Regs, ex P A c ro (putD S d.1 (havoc r (dsts c) j)) d.2 w' fun e r' ds' w'' => (match e with
        | .normal => decD S r' fun d' => k (d', ds') w''
        | e => K e r' ds' w'')) (d0, ds) w)
      (decD S r fun d0 => loopT (fun d w' k => ∀ j : Regs, ex P A c ro (putD S d (havoc r (dsts c) j)) ds w' fun e r' ds' w'' => (match e with
        | .normal => decD S r' fun d' => k d' w''
        | e => K e r' ds' w'')) d0 w))
  | .rangeFunc g ps as body, ro, r, ds, w, K => if hasRange as = true then False else
    (let K' : Exit → KW := fun e D W => (match ro with
        | none => K e r (D :: ds) W
        | some _ => K e r ds W)
     rangeX P ro (ev r g) w (fun l rdy bz args W k => prmS A ps.toList args r fun r0 => ex P A as (some l) r0 [] W fun e r1 _ W1 => (match e with
      | .normal => W1.heap[l]? = some rdy ∧ ex P A body (some l) r1 [] (W1.putObj l bz) fun e _ _ W2 => k e W2
      | _ => False)) (K' .normal) (cond (hasRet body) (K' .ret) (fun _ _ => False)) ((exitsOf body).map fun i => (i, K' (.exit i))))
  | _, _, _, _, _, _ => False

/-! ### A function -/
def leaveD : List Nat → World → (World → Prop) → Prop
  | [], w, K => K w
  | D :: ds, w, K => w.heap[D]? = some (.deferred (some [])) ∧ leaveD ds (w.putObj D (.deferred none)) K
def resX (P : Program) : List ResultVar → Regs → World → (List Value → Prop) → Prop
  | [], _, _, K => K []
  | .tmp t :: rs, r, w, K => resX P rs r w fun vs => K (r t :: vs)
  | .cell a t :: rs, r, w, K => (match r a with
    | .pointer (some x) => rdT P t w x fun v => resX P rs r w fun vs => K (v :: vs)
    | _ => False)
def tupOf : List Value → Value
  | [v] => v
  | vs => .tuple vs.toArray
def outX (P : Program) (rs : List ResultVar) (K : Value → World → Prop) (e : Exit) (r : Regs) (ds : List Nat) (w : World) : Prop :=
  match e with
  | .normal => leaveD ds w fun w' => resX P rs r w' fun vs => K (tupOf vs) w'
  | .ret => leaveD ds w fun w' => resX P rs r w' fun vs => K (tupOf vs) w'
  | _ => False
def regs0 (args : List Value) : Regs := fun t => args.getD t undef
def exF (P : Program) (A : Ann) (fn : Func) (args : List Value) (w : World) (K : Value → World → Prop) : Prop :=
  match fn.body with
  | some c => ex P A c none (regs0 args) [] w (outX P fn.results.toList K)
  | none => False
def fitsF (fn : Func) (n : Nat) : Bool :=
  match fn.body with
  | some c => fits fn.ntmps c && Nat.ble n fn.ntmps
  | none => false
end Go.Rk
