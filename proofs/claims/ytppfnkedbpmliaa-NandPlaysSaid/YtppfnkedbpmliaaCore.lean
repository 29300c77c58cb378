/- Nothing is proved of the program here: the words into which a Go function's loaded code is read (weakest preconditions over the model's own rules). -/
import Derived.RangeFuncRecord
import Derived.RangeFuncLeaves
import Derived.OrdersIn
import Derived.RangeFuncOwn
import Derived.WalkKit
namespace Go.Rk
open Go

/-! ### Registers -/
abbrev Regs := Nat → Value
def upd (r : Regs) (d : Nat) (v : Value) : Regs := fun t => cond (Nat.beq t d) v (r t)
def updO (r : Regs) (d : Option Nat) (v : Value) : Regs :=
  match d with
  | some d => upd r d v
  | none => r
def ev (r : Regs) : Operand → Value
  | .tmp t => r t
  | .const v => v
  | .global g => .pointer (some ⟨g, 0, none⟩)
  | .func f => .func (.func f) #[] #[]

/-! ### Kinds of values -/
inductive Kb where
  | i (q : IntKind) | b | p | s | v | y | a
structure Sl where
  a : Option Addr
  l : Nat
  c : Nat
@[reducible] def Kb.D : Kb → Type
  | .i _ => Int
  | .b => Bool
  | .p => Option Addr
  | .s => Sl
  | .v => Value
  | .y => ByteArray
  | .a => Addr
@[reducible] def Sl.v (s : Sl) : Value := .slice s.a s.l s.c
def Kb.enc : (k : Kb) → k.D → Value
  | .i q, n => .int q n
  | .b, x => .bool x
  | .p, z => .pointer z
  | .s, z => .slice z.a z.l z.c
  | .v, x => x
  | .y, z => .string z
  | .a, z => .pointer (some z)
def decI (q : IntKind) (x : Value) (K : Int → Prop) : Prop :=
  match x with
  | .int q' n => if q' = q then K n else False
  | _ => False
def decB (x : Value) (K : Bool → Prop) : Prop :=
  match x with
  | .bool b => K b
  | _ => False
def decP (x : Value) (K : Option Addr → Prop) : Prop :=
  match x with
  | .pointer a => K a
  | _ => False
def decS (x : Value) (K : Sl → Prop) : Prop :=
  match x with
  | .slice a l c => K ⟨a, l, c⟩
  | _ => False
def decY (x : Value) (K : ByteArray → Prop) : Prop :=
  match x with
  | .string s => K s
  | _ => False
def decA (x : Value) (K : Addr → Prop) : Prop :=
  match x with
  | .pointer (some a) => K a
  | _ => False
def Kb.dec : (k : Kb) → Value → (k.D → Prop) → Prop
  | .i q, x, K => decI q x K
  | .b, x, K => decB x K
  | .p, x, K => decP x K
  | .s, x, K => decS x K
  | .v, x, K => K x
  | .y, x, K => decY x K
  | .a, x, K => decA x K
@[reducible] def Dn : List Kb → Type
  | [] => Unit
  | k :: ks => k.D × Dn ks
def encs : (ks : List Kb) → Dn ks → List Value
  | [], _ => []
  | k :: ks, d => k.enc d.1 :: encs ks d.2
def decs : (ks : List Kb) → List Value → (Dn ks → Prop) → Prop
  | [], [], K => K ()
  | k :: ks, x :: xs, K => k.dec x fun d => decs ks xs fun ds => K (d, ds)
  | _, _, _ => False
inductive Kd where
  | one (k : Kb)
  | agg (ks : List Kb)
  | tup (ks : List Kd)
  | raw
@[reducible] def Kd.D : Kd → Type
  | .one k => k.D
  | .agg ks => Dn ks
  | .tup _ => Array Value
  | .raw => Array Value
def Kd.enc : (k : Kd) → k.D → Value
  | .one k, d => k.enc d
  | .agg ks, d => .agg (encs ks d).toArray
  | .tup _, cs => .tuple cs
  | .raw, cs => .agg cs
def decG (ks : List Kb) (x : Value) (K : Dn ks → Prop) : Prop :=
  match x with
  | .agg cs => decs ks cs.toList K
  | _ => False
def decR (x : Value) (K : Array Value → Prop) : Prop :=
  match x with
  | .agg cs => K cs
  | _ => False
/-- A value of a kind that is no tuple, taken apart. -/
def Kd.dec1 : (k : Kd) → Value → (Value → Prop) → Prop
  | .one .v, x, K => K x
  | .one k, x, K => k.dec x fun d => K (k.enc d)
  | .agg ks, x, K => decG ks x fun d => K (.agg (encs ks d).toArray)
  | .raw, x, K => decR x fun cs => K (.agg cs)
  | .tup _, _, _ => False
def dec2 (x : Value) (K : Value → Value → Prop) : Prop :=
  match x with
  | .tuple cs => (match cs.toList with
    | [a, b] => K a b
    | _ => False)
  | _ => False
def dec3 (x : Value) (K : Value → Value → Value → Prop) : Prop :=
  match x with
  | .tuple cs => (match cs.toList with
    | [a, b, c] => K a b c
    | _ => False)
  | _ => False
/-- A value, taken apart by its kind and put together again. -/
def Kd.norm : (k : Kd) → Value → (Value → Prop) → Prop
  | .tup [k1, k2], x, K => dec2 x fun a b => k1.dec1 a fun a => k2.dec1 b fun b => K (.tuple #[a, b])
  | .tup [k1, k2, k3], x, K => dec3 x fun a b c => k1.dec1 a fun a => k2.dec1 b fun b => k3.dec1 c fun c => K (.tuple #[a, b, c])
  | .tup _, x, K => K x
  | k, x, K => k.dec1 x K

/-! ### Types' kinds -/
def leaves (P : Program) : Nat → TypeId → Option (List Kb)
  | 0, _ => none
  | n + 1, t =>
    match P.underlying t with
    | some (.int q) => some [.i q]
    | some .bool => some [.b]
    | some .string => some [.y]
    | some (.pointer _) => some [.p]
    | some (.slice _) => some [.s]
    | some (.func ..) => some [.v]
    | some (.interface _) => some [.v]
    | some (.map ..) => some [.v]
    | some (.struct fs) => fs.toList.foldr (fun f acc => (leaves P n f.type).bind fun a => acc.map (a ++ ·)) (some [])
    | some (.array m e) => if m ≤ 16 then (leaves P n e).map fun l => (List.replicate m l).flatten else none
    | _ => none
def kindOf (P : Program) (t : TypeId) : Kd :=
  match P.underlying t with
  | some (.tuple ts) => .tup (ts.toList.map fun u => match P.underlying u with
      | some (.struct _) | some (.array _ _) => (match leaves P 8 u with | some ks => .agg ks | none => .raw)
      | _ => (match leaves P 8 u with | some [k] => .one k | _ => .raw))
  | some (.struct _) | some (.array _ _) => (match leaves P 8 t with | some ks => .agg ks | none => .raw)
  | _ => (match leaves P 8 t with | some [k] => .one k | _ => .raw)

/-! ### What memory is asked -/
def rdI (q : IntKind) (w : World) (a : Addr) (K : Int → Prop) : Prop :=
  match w.cell? a with
  | some x => decI q x K
  | none => False
def rdB (w : World) (a : Addr) (K : Bool → Prop) : Prop :=
  match w.cell? a with
  | some x => decB x K
  | none => False
def rdP (w : World) (a : Addr) (K : Option Addr → Prop) : Prop :=
  match w.cell? a with
  | some x => decP x K
  | none => False
def rdS (w : World) (a : Addr) (K : Sl → Prop) : Prop :=
  match w.cell? a with
  | some x => decS x K
  | none => False
def rdV (w : World) (a : Addr) (K : Value → Prop) : Prop :=
  match w.cell? a with
  | some x => K x
  | none => False
def rdY (w : World) (a : Addr) (K : ByteArray → Prop) : Prop :=
  match w.cell? a with
  | some x => decY x K
  | none => False
def rdA (w : World) (a : Addr) (K : Addr → Prop) : Prop :=
  match w.cell? a with
  | some x => decA x K
  | none => False
def rd : (k : Kb) → World → Addr → (k.D → Prop) → Prop
  | .i q, w, a, K => rdI q w a K
  | .b, w, a, K => rdB w a K
  | .p, w, a, K => rdP w a K
  | .s, w, a, K => rdS w a K
  | .v, w, a, K => rdV w a K
  | .y, w, a, K => rdY w a K
  | .a, w, a, K => rdA w a K
def rds : (ks : List Kb) → World → Addr → Nat → (Dn ks → Prop) → Prop
  | [], _, _, _, K => K ()
  | k :: ks, w, a, i, K => rd k w (a.add i) fun d => rds ks w a (i + 1) fun ds => K (d, ds)
/-- A whole row of n cells, by one name. -/
def rdR (w : World) (a : Addr) (n : Nat) (K : Array Value → Prop) : Prop :=
  ∃ cs : Array Value, cs.size = n ∧ (∀ i, i < n → w.cell? (a.add i) = cs[i]?) ∧ K cs
def rdT (P : Program) (t : TypeId) (w : World) (a : Addr) (K : Value → Prop) : Prop :=
  match P.underlying t with
  | some (.struct _) | some (.array _ _) =>
    (match leaves P 8 t with
     | some ks => if ks.length = P.cellsOf t then rds ks w a 0 fun d => K (.agg (encs ks d).toArray) else False
     | none => rdR w a (P.cellsOf t) fun cs => K (.agg cs))
  | some _ => (match leaves P 8 t with
     | some [k] => rd k w a fun d => K (k.enc d)
     | _ => False)
  | none => False
/-- May stand in one cell. -/
def lone1 : Value → Bool
  | .agg _ | .tuple _ => false
  | _ => true
def wr (w : World) (a : Addr) (v : Value) (K : World → Prop) : Prop :=
  (∃ u, w.cell? a = some u) ∧ w.frozen? a = false ∧ K (w.setCell a v)
def wr1 (w : World) (a : Addr) (v : Value) (K : World → Prop) : Prop := if lone1 v = true then wr w a v K else False
def wrs (w : World) (a : Addr) : List Value → Nat → (World → Prop) → Prop
  | [], _, K => K w
  | v :: vs, i, K => if lone1 v = true then wr w (a.add i) v fun w' => wrs w' a vs (i + 1) K else False
def stT (P : Program) (t : TypeId) (w : World) (a : Addr) (v : Value) (K : World → Prop) : Prop :=
  match v with
  | .agg cs => if cs.toList.length = P.cellsOf t then wrs w a cs.toList 0 K else False
  | v => if P.cellsOf t = 1 then wr1 w (a.add 0) v K else False
def al (w : World) (o : Obj) (K : Addr → World → Prop) : Prop := K ⟨w.heap.size, 0, none⟩ (w.alloc o)
/-- A pointer that is not nil. -/
def nn (a : Option Addr) (K : Addr → Prop) : Prop := ∃ b, a = some b ∧ K b
/-- A slice's element's place. -/
def ix (a : Option Addr) (l : Nat) (i : Int) (K : Addr → Prop) : Prop := ∃ b, a = some b ∧ 0 ≤ i ∧ i < (l : Int) ∧ K b
def ixA (n : Nat) (i : Int) (K : Prop) : Prop := 0 ≤ i ∧ i < (n : Int) ∧ K
/-- A part of a slice. -/
def sub (a : Option Addr) (lo h c size : Nat) : Sl := ⟨if c = lo then a else a.map (·.add (lo * size)), h - lo, c - lo⟩
def slc (a : Option Addr) (l c : Nat) (lo hi : Option Int) (size : Nat) (K : Sl → Prop) : Prop :=
  match lo, hi with
  | none, none => K (sub a 0 l c size)
  | some lo, none => 0 ≤ lo ∧ lo ≤ (l : Int) ∧ K (sub a lo.toNat l c size)
  | none, some h => 0 ≤ h ∧ h ≤ (c : Int) ∧ K (sub a 0 h.toNat c size)
  | some lo, some h => 0 ≤ lo ∧ lo ≤ h ∧ h ≤ (c : Int) ∧ K (sub a lo.toNat h.toNat c size)
/-- What a computation of the model answers. -/
def raw {α : Type} (P : Program) (s : Sem α) (w : World) (K : α → World → Prop) : Prop := ∃ v w', s.run P w = .ok v w' ∧ K v w'

/-! ### Calls -/
def hasB (P : Program) (f : FuncId) : Bool :=
  match P.funcs[f]? with
  | some fn => fn.body.isSome && fn.name != "runtime.NumGoroutine"
  | none => false
def Ok (P : Program) (f : FuncId) (args : List Value) (w : World) (K : Value → World → Prop) : Prop :=
  hasB P f = true ∧ CallsIn Fence.wide 0 P f args.toArray w fun e w' => ∃ v, e = .returned v ∧ K v w'
def RndOk (P : Program) (l : Nat) (f : FuncId) (tmps : Array Value) (assign body : Code) (w : World) (K : Value → World → Prop) : Prop :=
  RoundIn Fence.wide 0 P l f tmps assign body w fun e w' => ∃ v, e = .returned v ∧ K v w'
/-- A call of yield. -/
def OkY (P : Program) (l : Nat) (args : List Value) (w : World) (K : Value → World → Prop) : Prop :=
  ∃ f tmps assign body, (Instr.yield l args.toArray).run P w = .ok (.round l f tmps assign body) w ∧ RndOk P l f tmps assign body w K
/-- A call of whatever function value. -/
def OkV (P : Program) (fv : Value) (args : List Value) (w : World) (K : Value → World → Prop) : Prop :=
  match fv with
  | .func (.func f) first cap => Ok P f (first.toList ++ args ++ cap.toList) w K
  | .func (.yield l) first _ => OkY P l (first.toList ++ args) w K
  | _ => False

def Res1 (K : Value → World → Prop) : Result Next → Prop
  | .ok (.value v) w' => K v w'
  | .ok .skip w' => K undef w'
  | _ => False

/-! ### One operation -/
def pickV (c : Bool) (x y : Value) : Value :=
  match x, y with
  | .bool p, .bool q => .bool (cond c p q)
  | .int k a, .int k' b => if k = k' then .int k (cond c a b) else cond c (.int k a) (.int k' b)
  | x, y => cond c x y
/-- A part of a struct or an array. -/
def partV (P : Program) (t : TypeId) (cs : Array Value) (off : Nat) : Option Value :=
  match P.underlying t with
  | some (.struct _) => some (.agg (cs.extract off (off + P.cellsOf t)))
  | some (.array _ _) => some (.agg (cs.extract off (off + P.cellsOf t)))
  | some _ => cs[off]?
  | none => none
def both (x y : Option Bool) : Option Bool :=
  match x, y with
  | some a, some b => some (a && b)
  | _, _ => none
/-- '==' of whole numbers, bools, structs and arrays of these. -/
def eqB (P : Program) : Nat → TypeId → Value → Value → Option Bool
  | 0, _, _, _ => none
  | d + 1, t, x, y =>
    match P.underlying t, x, y with
    | some .bool, .bool a, .bool b => some (a == b)
    | some (.int _), .int k a, .int k' b => if k = k' then some (a == b) else none
    | some (.struct fs), .agg xs, .agg ys => if P.stoodInHeld t then none else
      fs.toList.foldr (fun f acc => if f.name = "_" then acc else
        (match partV P f.type xs f.offset, partV P f.type ys f.offset with
         | some a, some b => both (eqB P d f.type a b) acc
         | _, _ => none)) (some true)
    | some (.array n e), .agg xs, .agg ys => if (P.info? e).isNone then none else
      (List.range' 0 n).foldr (fun i acc =>
        (match partV P e xs (i * P.cellsOf e), partV P e ys (i * P.cellsOf e) with
         | some a, some b => both (eqB P d e a b) acc
         | _, _ => none)) (some true)
    | _, _, _ => none
def isNilPtr (P : Program) (t : TypeId) : Bool :=
  match P.underlying t with
  | some (.pointer _) => true
  | _ => false
def isNilSl (P : Program) (t : TypeId) : Bool :=
  match P.underlying t with
  | some (.slice _) => true
  | _ => false
def bitI (op : BinOp) (k : IntKind) (x y : Int) : Int :=
  match op with
  | .and => k.wrap ((BitVec.ofInt k.bits x &&& BitVec.ofInt k.bits y).toNat : Int)
  | .or => k.wrap ((BitVec.ofInt k.bits x ||| BitVec.ofInt k.bits y).toNat : Int)
  | .xor => k.wrap ((BitVec.ofInt k.bits x ^^^ BitVec.ofInt k.bits y).toNat : Int)
  | _ => k.wrap ((BitVec.ofInt k.bits x &&& ~~~BitVec.ofInt k.bits y).toNat : Int)
def binI (op : BinOp) (k : IntKind) (a b : Int) (K : Value → Prop) : Prop :=
  match op with
  | .add => K (.int k (k.wrap (a + b)))
  | .sub => K (.int k (k.wrap (a - b)))
  | .mul => K (.int k (k.wrap (a * b)))
  | .quo => b ≠ 0 ∧ K (.int k (k.wrap (a.tdiv b)))
  | .rem => b ≠ 0 ∧ K (.int k (a.tmod b))
  | .and | .or | .xor | .andNot => K (.int k (bitI op k a b))
  | .eql => K (.bool (a == b))
  | .neq => K (.bool (a != b))
  | .lss => K (.bool (decide (a < b)))
  | .leq => K (.bool (decide (a ≤ b)))
  | .gtr => K (.bool (decide (a > b)))
  | .geq => K (.bool (decide (a ≥ b)))
  | _ => False
def isBoolT (P : Program) (t : TypeId) : Bool :=
  match P.underlying t with
  | some .bool => true
  | _ => false
def binV (P : Program) (op : BinOp) (t : TypeId) (x y : Value) (K : Value → Prop) : Prop :=
  match x, y with
  | .int k a, .int k' b => (match op with
    | .shl => 0 ≤ b ∧ K (.int k (k.wrap (a * 2 ^ min b.toNat k.bits)))
    | .shr => 0 ≤ b ∧ K (.int k (a.fdiv (2 ^ min b.toNat k.bits)))
    | op => if k = k' then binI op k a b K else False)
  | .bool a, .bool b => if isBoolT P t = true then (match op with
    | .eql => K (.bool (a == b))
    | .neq => K (.bool (!(a == b)))
    | _ => False) else False
  | .string a, .string b => (match op with
    | .eql => K (.bool (a.toList == b.toList))
    | .neq => K (.bool (!(a.toList == b.toList)))
    | _ => False)
  | .pointer a, .pointer none => if isNilPtr P t = true then (match op with
    | .eql => K (.bool a.isNone)
    | .neq => K (.bool (!a.isNone))
    | _ => False) else False
  | .slice a _ _, .slice none _ _ => if isNilSl P t = true then (match op with
    | .eql => K (.bool a.isNone)
    | .neq => K (.bool (!a.isNone))
    | _ => False) else False
  | .agg xs, .agg ys => (match eqB P 6 t (.agg xs) (.agg ys) with
    | some b => if P.eqGuardType P.depth t = false then (match op with
      | .eql => K (.bool b)
      | .neq => K (.bool (!b))
      | _ => False) else False
    | none => False)
  | _, _ => False
def intOpt : Option Value → Option (Option Int)
  | none => some none
  | some (.int _ n) => some (some n)
  | _ => none
def sliceCells (P : Program) (elem : TypeId) (n : Nat) (parts : List (Nat × Value)) : Option (Array Value) :=
  match P.info? elem with
  | some i => (match i.zero with
    | some z => Instr.fill (fun j => some (j * i.size, i.size)) ((Array.range (n * i.size)).map (z.cells[· % z.cells.size]!)) parts
    | none => none)
  | none => none
def zeroRow (z : Array Value) (n : Nat) : Array Value := (Array.range n).map (z[· % z.size]!)
def aggDesc : TypeDesc → Bool
  | .struct _ | .array _ _ => true
  | _ => false
def known (P : Program) (t : TypeId) : Bool := (P.info? t).isSome
def oneT (P : Program) (t : TypeId) : Bool :=
  match P.underlying t with
  | some d => !aggDesc d
  | none => false
def lenV (P : Program) (t : TypeId) (x : Value) (K : Value → Prop) : Prop :=
  match P.underlying t, x with
  | some (.slice _), .slice _ n _ => K (.int .i64 (n : Int))
  | some .string, .string s => K (.int .i64 (s.size : Int))
  | some (.array n _), _ => K (.int .i64 (n : Int))
  | _, _ => False
def capV (P : Program) (t : TypeId) (x : Value) (K : Value → Prop) : Prop :=
  match P.underlying t, x with
  | some (.slice _), .slice _ _ c => K (.int .i64 (c : Int))
  | _, _ => False
/-- Bytes as a string: memory is read. -/
def toStr (P : Program) (s t : TypeId) (x : Value) (w : World) (K : ByteArray → Prop) : Prop := ∃ b, (convert s t x).run P w = .ok (.string b) w ∧ K b
def bltV (P : Program) (r : Regs) (c : Call) (b : Builtin) (K : Value → Prop) : Prop :=
  match b with
  | .len => (match c.argTypes.toList, c.args.toList.map (ev r) with
    | [t], [x] => lenV P t x K
    | _, _ => False)
  | .cap => (match c.argTypes.toList, c.args.toList.map (ev r) with
    | [t], [x] => capV P t x K
    | _, _ => False)
  | .max => (match c.args.toList.map (ev r) with
    | [.int k a, .int _ b] => K (.int k (if b > a then b else a))
    | _ => False)
  | .min => (match c.args.toList.map (ev r) with
    | [.int k a, .int _ b] => K (.int k (if b < a then b else a))
    | _ => False)
  | _ => False
def buildV (P : Program) (t : TypeId) (parts : List (Nat × Value)) : Option Value :=
  match P.info? t with
  | some i => (match i.zero with
    | some z => (match P.underlying t with
      | some (.struct fs) => if fs.toList.all (fun f => known P f.type) = true then
          (Instr.fill (fun j => (fs.map fun f => (f.offset, P.cellsOf f.type))[j]?) z.cells parts).map .agg else none
      | some (.array _ e) => if known P e = true then (Instr.fill (fun j => some (j * P.cellsOf e, P.cellsOf e)) z.cells parts).map .agg else none
      | _ => none)
    | none => none)
  | none => none
/-- An operation that leaves the world as it is. -/
def valV (P : Program) (r : Regs) (o : Oper) (w : World) (K : Value → Prop) : Prop :=
  match o.op with
  | .move x => K (ev r x)
  | .assign x => K (ev r x)
  | .pick c a b => (match ev r c with
    | .bool t => K (pickV t (ev r a) (ev r b))
    | _ => False)
  | .load t x => (match ev r x with
    | .pointer (some a) => rdT P t w a K
    | _ => False)
  | .indexAddr t x i => (match P.underlying t, ev r x, ev r i with
    | some (.slice e), .slice a l _, .int _ n => if known P e = true then ix a l n fun b => K (.pointer (some (b.add (n.toNat * P.cellsOf e)))) else False
    | some (.array m e), .pointer (some a), .int _ n => if known P e = true then ixA m n (K (.pointer (some (a.add (n.toNat * P.cellsOf e))))) else False
    | _, _, _ => False)
  | .slice t x lo hi none => (match P.underlying t, ev r x, intOpt (lo.map (ev r)), intOpt (hi.map (ev r)) with
    | some (.slice e), .slice a l c, some lo, some hi => if known P e = true then slc a l c lo hi (P.cellsOf e) fun s => K (.slice s.a s.l s.c) else False
    | _, _, _, _ => False)
  | .index t x i => (match P.underlying t, ev r x, ev r i with
    | some (.array m e), .agg cs, .int _ n => if P.cellsOf e = 1 ∧ oneT P e = true then ixA m n (∃ v, cs[n.toNat]? = some v ∧ (kindOf P e).norm v K) else False
    | _, _, _ => False)
  | .nilCheck x => (match ev r x with
    | .pointer a => nn a fun b => K (.pointer (some b))
    | .func (.func f) u v => K (.func (.func f) u v)
    | .func (.yield l) u v => K (.func (.yield l) u v)
    | _ => False)
  | .binOp op t x y _ => binV P op t (ev r x) (ev r y) K
  | .unOp op _ x => (match op, ev r x with
    | .not, .bool b => K (.bool (!b))
    | .neg, .int k n => K (.int k (k.wrap (0 - n)))
    | .xor, .int k n => K (.int k (bitI .xor k (if k.signed then -1 else k.max) n))
    | _, _ => False)
  | .convert s t x => (match ev r x with
    | .slice a l c => toStr P s t (.slice a l c) w fun b => K (.string b)
    | .int _ n => (match P.underlying s, P.underlying t with
      | some _, some (.int k) => K (.int k (k.wrap n))
      | _, _ => False)
    | _ => False)
  | .fieldAddr s x f => (match P.underlying s, ev r x with
    | some (.struct fs), .pointer (some a) => (match fs[f]? with
      | some fd => if known P fd.type = true ∧ P.cellsOf fd.type ≠ 0 then K (.pointer (some (a.add fd.offset))) else False
      | none => False)
    | _, _ => False)
  | .field t x f => (match P.underlying t, ev r x with
    | some (.struct fs), .agg cs => (match fs[f]? with
      | some fd => (match partV P fd.type cs fd.offset with
        | some v => K v
        | none => False)
      | none => False)
    | _, _ => False)
  | .extract x i => (match ev r x with
    | .tuple vs => (match vs[i]? with
      | some v => K v
      | none => False)
    | _ => False)
  | .build t parts => (match buildV P t (parts.toList.map fun x => (x.1, ev r x.2)) with
    | some v => K v
    | none => False)
  | .makeFunc fn first cap => K (.func fn (first.toList.map (ev r)).toArray (cap.toList.map (ev r)).toArray)
  | .call { callee := .builtin b, args := args, argTypes := ts } => bltV P r { callee := .builtin b, args := args, argTypes := ts } b K
  | _ => False
def callV (P : Program) (r : Regs) (o : Oper) (c : Call) (w : World) (K : Value → World → Prop) : Prop :=
  match c.callee with
  | .value fo => (match ev r fo with
    | .func (.func f) first cap => Ok P f (first.toList ++ c.args.toList.map (ev r) ++ cap.toList) w fun v w' => (kindOf P o.type).norm v fun x => K x w'
    | .func (.yield l) first _ => OkY P l (first.toList ++ c.args.toList.map (ev r)) w fun v w' => (kindOf P o.type).norm v fun x => K x w'
    | _ => False)
  | .builtin .append => raw P (Builtin.append_ c.argTypes o.type (c.args.toList.map (ev r)).toArray) w fun v w' => (kindOf P o.type).norm v fun x => K x w'
  | .builtin .copy => raw P (Builtin.copy_ c.argTypes o.type (c.args.toList.map (ev r)).toArray) w fun v w' => (kindOf P o.type).norm v fun x => K x w'
  | _ => False
/-- An operation that writes or makes memory, or calls. -/
def effV (P : Program) (r : Regs) (o : Oper) (w : World) (K : Value → World → Prop) : Prop :=
  match o.op with
  | .store t x y => (match ev r x with
    | .pointer (some a) => if known P t = true then stT P t w a (ev r y) fun w' => K undef w' else False
    | _ => False)
  | .alloc t => (match P.info? t with
    | some i => (match i.zero with
      | some z => al w (.cells z.cells t) fun p w' => K (.pointer (some p)) w'
      | none => False)
    | none => False)
  | .box t x => al w (.cells (ev r x).cells t) fun p w' => K (.pointer (some p)) w'
  | .buildSlice t n parts => (match P.underlying t with
    | some (.slice e) => if n * P.cellsOf e ≤ 1000 then (match sliceCells P e n (parts.toList.map fun x => (x.1, ev r x.2)) with
      | some cs => al w (.cells cs e) fun p w' => K (.slice (some p) n n) w'
      | none => False) else False
    | _ => False)
  | .makeSlice t l c => (match P.underlying t, ev r l, ev r c with
    | some (.slice e), .int _ l, .int _ c => (match P.info? e with
      | some i => (match i.zero with
        | some z => 0 ≤ l ∧ l ≤ c ∧ (i.bytes : Int) * c ≤ 281474976710656 ∧ c ≤ 281474976710656 ∧
            al w (.cells (zeroRow z.cells (c.toNat * i.size)) e) fun p w' => K (.slice (some p) l.toNat c.toNat) w'
        | none => False)
      | none => False)
    | _, _, _ => False)
  | .call c => callV P r o c w K
  | _ => False
def isEff (o : Oper) : Bool :=
  match o.op with
  | .store .. | .alloc _ | .box .. | .buildSlice .. | .makeSlice .. => true
  | .call c => (match c.callee with
    | .builtin .append | .builtin .copy => true
    | .builtin _ => false
    | _ => true)
  | _ => false
/-- Reads memory. -/
def isRead (o : Oper) : Bool :=
  match o.op with
  | .load .. | .convert .. => true
  | _ => false
def opV (P : Program) (r : Regs) (o : Oper) (w : World) (K : Value → World → Prop) : Prop :=
  cond (isEff o) (effV P r o w K) (valV P r o w fun v => K v w)
end Go.Rk
