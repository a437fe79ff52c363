/- An engine of ours: what a heap has to be so that a piece of a program does what is wanted, reckoned out of the code, and proved to be enough. -/
import Derived.Orders
import Derived.Scope
import Derived.Defers
import Derived.Laws.Sem
import Derived.Laws.World
import Derived.OrdersIn
import Derived.TacticsIn
import Derived.RangeFuncLeaves
import Derived.Laws.MakeOwn
import Derived.Laws.BytesString
/- Heap conditions: what is asked of a heap so that an operation, a region, a piece of code, a function does what is wanted. Plain definitions, no theorem on the program. -/
namespace Go.Hv

abbrev Heap := Array Obj

/-- what no operation of ours turns -/
structure Same (w w' : World) : Prop where
  os : w'.os = w.os
  output : w'.output = w.output
  tape : w'.tape = w.tape
  frz : ∀ a, w'.frozen? a = w.frozen? a

theorem Same.refl (w : World) : Same w w := ⟨rfl, rfl, rfl, fun _ => rfl⟩
theorem Same.trans {a b c : World} (h : Same a b) (g : Same b c) : Same a c := ⟨g.os.trans h.os, g.output.trans h.output, g.tape.trans h.tape, fun x => (g.frz x).trans (h.frz x)⟩

/-- a slice's header -/
structure Sl where
  a : Option Addr
  n : Nat
  c : Nat

/-- the shape of a value of one cell -/
inductive Sh1 where
  | int (k : IntKind) | bool | str | ptr | slice | map | any
/-- the shape of a value -/
inductive Sh where
  | one (s : Sh1) | agg (l : List Sh1)

def ex1 (s : Sh1) (φ : Value → Prop) : Prop :=
  match s with
  | .int k => ∃ x : Int, φ (.int k x)
  | .bool => ∃ x : Bool, φ (.bool x)
  | .str => ∃ x : ByteArray, φ (.string x)
  | .ptr => ∃ x : Option Addr, φ (.pointer x)
  | .slice => ∃ x : Sl, φ (.slice x.a x.n x.c)
  | .map => ∃ x : Option Nat, φ (.map x)
  | .any => ∃ x : Value, φ x

def exL : List Sh1 → (List Value → Prop) → Prop
  | [], φ => φ []
  | s :: l, φ => ex1 s fun v => exL l fun vs => φ (v :: vs)

def exS (s : Sh) (φ : Value → Prop) : Prop :=
  match s with
  | .one s => ex1 s φ
  | .agg l => exL l fun vs => φ (.agg vs.toArray)

def exSs : List Sh → (List Value → Prop) → Prop
  | [], φ => φ []
  | s :: l, φ => exS s fun v => exSs l fun vs => φ (v :: vs)

def cellH (h : Heap) (p : Addr) : Option Value :=
  match h[p.block]? with
  | some (.cells c _ _) => if p.spot.isSome then none else c[p.off]?
  | _ => none

/-- the heap with one cell written -/
def putH (h : Heap) (p : Addr) (v : Value) : Heap :=
  h.modify p.block fun
    | .cells c elem frozen => .cells (if p.spot.isSome then c else c.setIfInBounds p.off v) elem frozen
    | o => o

def plus (p : Addr) (i : Nat) : Addr := p.add i

/-- several cells, one behind the other -/
def putsH (h : Heap) (p : Addr) (vs : List Value) (i : Nat := 0) : Heap :=
  match vs with
  | [] => h
  | v :: r => putsH (putH h (p.add i) v) p r (i + 1)

/-- n cells may be written there -/
structure StOK (h : Heap) (p : Addr) (n : Nat) : Prop where
  ok : ∃ cs T, h[p.block]? = some (.cells cs T (0, 0)) ∧ p.off + n ≤ cs.size ∧ p.spot = none

/-- a value of one cell -/
def oneB (v : Value) : Bool := match v with | .agg _ => false | .tuple _ => false | _ => true

/-- n cells that can be read there -/
def cellsH (h : Heap) (p : Addr) (n : Nat) : Option (List Value) :=
  match h[p.block]? with
  | some (.cells c _ _) => if p.spot.isSome then none else if p.off + n ≤ c.size then some ((c.toList.drop p.off).take n) else none
  | _ => none

/-- a number that an int holds -/
structure InI (z : Int) : Prop where
  lo : -9223372036854775808 ≤ z
  hi : z ≤ 9223372036854775807

/-- A function of the program, called in a heap: it returns, and what it returns, and the heap then, meet R. -/
structure HC (P : Program) (f : FuncId) (args : Array Value) (h : Heap) (R : Value → Heap → Prop) : Prop where
  enter : ∀ (as : Array Value) (w : World), (callFunc f as).run P w = .ok (.enter f as) w
  run : ∀ w : World, w.heap = h → Calls P f args w (fun e w' => ∃ v, e = .returned v ∧ R v w'.heap ∧ Same w w')

/-- what an operation's outcome has to be -/
def OpOK (P : Program) (K : Value → Heap → Prop) (w : World) : Result Next → Prop
  | .ok (.value v) w' => K v w'.heap ∧ Same w w'
  | .ok .skip w' => K undef w'.heap ∧ Same w w'
  | .ok (.enter f args) w' => Same w w' ∧ Calls P f args w' (fun e w'' => ∃ v, e = .returned v ∧ K v w''.heap ∧ Same w' w'')
  | .ok (.round l f tmps asg bd) w' => Same w w' ∧ RoundIn Fence.wide 0 P l f tmps asg bd w' (fun e w'' => ∃ v, e = .returned v ∧ K v w''.heap ∧ Same w' w'')
  | _ => False

/-- A function value, called. -/
structure HV (P : Program) (fv : Value) (args : Array Value) (h : Heap) (R : Value → Heap → Prop) : Prop where
  ex : ∀ w : World, w.heap = h → OpOK P R w (((Deferred.ofValue fv args) >>= fun d => invoke d.target d.args).run P w)

/-- A method of an interface value, called. -/
structure HI (P : Program) (recv : Value) (name : String) (args : Array Value) (h : Heap) (R : Value → Heap → Prop) : Prop where
  ex : ∃ f as, (∀ w : World, w.heap = h → (callMethod recv name args).run P w = (callFunc f as).run P w) ∧ HC P f as h R

/-- The look at a method's receiver ahead of the arguments: it passes. -/
structure HN (P : Program) (v : Value) : Prop where
  ok : ∀ (w : World) (o : Oper) (ρ : Operand → Value) (x : Operand), o.op = .nilCheck x → ρ x = v → (execOp ρ o).run P w = .ok (.value v) w

/-! ### The frame, as far as it is known -/
abbrev Env := List (Nat × Value)

def getE : Env → Nat → Option Value
  | [], _ => none
  | (i, v) :: e, j => bif Nat.beq i j then some v else getE e j

/-- a slot is written (n: how many there are) -/
def putE (n : Nat) (env : Env) (dst : Option Tmp) (v : Value) : Env :=
  match dst with
  | some d => bif Nat.blt d n then (d, v) :: env else []
  | none => env

def ev (env : Env) : Operand → Option Value
  | .tmp t => getE env t
  | .const v => some v
  | .global g => some (.pointer (some ⟨g, 0, none⟩))
  | .func f => some (.func (.func f) #[] #[])

def evs (env : Env) : List Operand → Option (List Value)
  | [] => some []
  | x :: l => match ev env x, evs env l with
    | some v, some vs => some (v :: vs)
    | _, _ => none

def evOpt (env : Env) : Option Operand → Option (Option Value)
  | none => some none
  | some x => match ev env x with | some v => some (some v) | none => none

/-- case split on something that may not be there -/
def optE {α : Type} (a : Option α) (k0 : Prop) (k : α → Prop) : Prop := match a with | none => k0 | some x => k x

def wV (env : Env) (x : Operand) (k : Value → Prop) : Prop := match ev env x with | some v => k v | none => False
def asP (v : Value) (k : Option Addr → Prop) : Prop := match v with | .pointer a => k a | _ => False
def asS (v : Value) (k : Option Addr → Nat → Nat → Prop) : Prop := match v with | .slice a n c => k a n c | _ => False
def asM (v : Value) (k : Option Nat → Prop) : Prop := match v with | .map r => k r | _ => False
def asB (v : Value) (k : Bool → Prop) : Prop := match v with | .bool b => k b | _ => False
def asI (v : Value) (k : IntKind → Int → Prop) : Prop := match v with | .int j n => k j n | _ => False

/-! ### Types -/
def sh1Of (P : Program) (t : TypeId) : Option Sh1 :=
  match P.underlying t with
  | some (.int k) => some (.int k)
  | some .bool => some .bool
  | some .string => some .str
  | some (.pointer _) => some .ptr
  | some (.slice _) => some .slice
  | some (.map _ _) => some .map
  | some (.func _ _ _) => some .any
  | some (.interface _) => some .any
  | _ => none

def catSh : List (Option (List Sh1)) → Option (List Sh1)
  | [] => some []
  | some a :: l => match catSh l with | some b => some (a ++ b) | none => none
  | none :: _ => none

def flatSh (P : Program) : Nat → TypeId → Option (List Sh1)
  | 0, _ => none
  | d + 1, t => match P.underlying t with
    | some (.struct fs) => catSh (fs.toList.map fun f => flatSh P d f.type)
    | some (.array n e) => match flatSh P d e with | some l => some ((List.replicate n l).flatten) | none => none
    | _ => match sh1Of P t with | some s => some [s] | none => none

def isAggB (P : Program) (t : TypeId) : Bool :=
  match P.underlying t with
  | some (.struct _) => true
  | some (.array _ _) => true
  | _ => false

def shOf (P : Program) (t : TypeId) : Option Sh :=
  bif isAggB P t then (match flatSh P 10 t with | some l => some (.agg l) | none => none)
  else (match sh1Of P t with | some s => some (.one s) | none => none)

def shsOf (P : Program) : List TypeId → Option (List Sh)
  | [] => some []
  | t :: l => match shOf P t, shsOf P l with
    | some s, some r => some (s :: r)
    | _, _ => none

/-- what a call's result is like, by the operation's own type: k gets the value -/
def exRes (P : Program) (t : TypeId) (k : Value → Prop) : Prop :=
  match P.underlying t with
  | some (.tuple ts) => (match shsOf P ts.toList with
    | some l => exSs l fun vs => k (.tuple vs.toArray)
    | none => False)
  | _ => (match shOf P t with
    | some s => exS s k
    | none => False)

/-- a struct's field: how many cells lie ahead of it -/
def fieldOff (P : Program) (t : TypeId) (i : Nat) : Option Nat :=
  match P.underlying t with
  | some (.struct fs) => (match fs[i]? with
    | some f => bif Nat.beq (P.cellsOf f.type) 0 then none else some f.offset
    | none => none)
  | _ => none

/-- the cells of a value of an aggregate type that are a field's -/
def fieldPart (P : Program) (t : TypeId) (cs : List Value) (i : Nat) : Option Value :=
  match P.underlying t with
  | some (.struct fs) => (match fs[i]? with
    | some f => bif isAggB P f.type then some (.agg ((cs.drop f.offset).take (P.cellsOf f.type)).toArray) else (match P.underlying f.type with | some _ => cs[f.offset]? | none => none)
    | none => none)
  | _ => none

def zeroOf (P : Program) (t : TypeId) : Option Value := match P.info? t with | some i => i.zero | none => none

/-- parts laid into cells -/
def layAt (cs : List Value) (off : Nat) (vs : List Value) : List Value := cs.take off ++ vs ++ cs.drop (off + vs.length)

def fillL (place : Nat → Option (Nat × Nat)) (cs : List Value) : List (Nat × Value) → Option (List Value)
  | [] => some cs
  | (i, v) :: rest => match place i with
    | none => none
    | some (off, size) => bif Nat.beq v.cells.size size && Nat.ble (off + v.cells.size) cs.length then fillL place (layAt cs off v.cells.toList) rest else none

def evParts (env : Env) : List (Nat × Operand) → Option (List (Nat × Value))
  | [] => some []
  | (i, x) :: l => match ev env x, evParts env l with
    | some v, some vs => some ((i, v) :: vs)
    | _, _ => none

def structPlaces (P : Program) (fs : List Field) : List (Nat × Nat) := fs.map fun f => (f.offset, P.cellsOf f.type)

def buildV (P : Program) (t : TypeId) (parts : List (Nat × Value)) : Option (List Value) :=
  match zeroOf P t with
  | none => none
  | some z => match P.underlying t with
    | some (.struct fs) => bif fs.toList.all fun f => (P.info? f.type).isSome then fillL (fun i => (structPlaces P fs.toList)[i]?) z.cells.toList parts else none
    | some (.array _ e) => bif (P.info? e).isSome then fillL (fun i => some (i * P.cellsOf e, P.cellsOf e)) z.cells.toList parts else none
    | _ => none

def buildSl (P : Program) (e : TypeId) (n : Nat) (parts : List (Nat × Value)) : Option (List Value) :=
  match zeroOf P e with
  | none => none
  | some z => bif Nat.ble (n * P.cellsOf e) 4096 && Nat.beq z.cells.size (P.cellsOf e) then fillL (fun i => some (i * P.cellsOf e, P.cellsOf e)) ((List.replicate n z.cells.toList).flatten) parts else none

/-! ### Maps whose keys are numbers -/
def mfind (k : Int) : List MapEntry → Option (Nat × Value)
  | [] => none
  | e :: es => match e.key with
    | .int _ a => if a = k then some (0, e.val) else (mfind k es).map fun (i, v) => (i + 1, v)
    | _ => none

/-- what a map with numbers for keys holds -/
def mget (es : Array MapEntry) (k : Int) : Option Value := (mfind k es.toList).map (·.2)

/-- an element set -/
def mput (es : Array MapEntry) (clk : Nat) (k : Value) (n : Int) (v : Value) : Obj :=
  match mfind n es.toList with
  | some (i, _) => .map (es.modify i fun e => { e with key := k, val := v }) clk
  | none => .map (es.push { key := k, val := v, born := clk }) (clk + 1)

def mdel (es : Array MapEntry) (n : Int) : Array MapEntry :=
  match mfind n es.toList with
  | some (i, _) => es.eraseIdxIfInBounds i
  | none => es

structure IntKeys (j : IntKind) (es : Array MapEntry) : Prop where
  ok : ∀ e ∈ es.toList, ∃ a, e.key = .int j a

/-- one more entry, or none, of a map that is ranged over and that nobody adds to meanwhile -/
structure NextOK (h : Heap) (r : Nat) : Prop where
  ok : ∃ m since seen last es clk, h[r]? = some (.mapIter (some m) since seen last) ∧ h[m]? = some (.map es clk) ∧ (∀ e ∈ es.toList, e.born < since ∧ e.born < last) ∧ r ≠ m
structure NextOne (h : Heap) (r : Nat) (k v : Value) (h' : Heap) : Prop where
  ok : ∃ m since seen last es clk e, h[r]? = some (.mapIter (some m) since seen last) ∧ h[m]? = some (.map es clk) ∧ e ∈ es.toList ∧ e.born ∉ seen.toList ∧ e.key = k ∧ e.val = v ∧
    h' = h.setIfInBounds r (.mapIter (some m) since (seen.push e.born) clk)
/-- the entry of the last step -/
structure EntryOf (h : Heap) (r : Nat) (k v : Value) : Prop where
  ok : ∃ m since seen last es e, h[r]? = some (.mapIter (some m) since seen last) ∧ h[m]? = some (.map es last) ∧ seen.back? = some e.born ∧ es.find? (·.born == e.born) = some e ∧ k = e.key ∧ v = e.val
structure NextEnd (h : Heap) (r : Nat) : Prop where
  ok : ∃ m since seen last es clk, h[r]? = some (.mapIter (some m) since seen last) ∧ h[m]? = some (.map es clk) ∧ ∀ e ∈ es.toList, e.born ∈ seen.toList

/-! ### append -/
/-- n cells at an address, or none at none -/
def cellsOpt (h : Heap) (a : Option Addr) (n : Nat) : Option (List Value) := match a with | some p => cellsH h p n | none => some []
/-- a string of bytes -/
def bsOf (l : List Int) : ByteArray := l.foldl (fun s n => s.push (UInt8.ofNat n.toNat)) ByteArray.empty
/-- a slice's bytes, as a string -/
def bytesAt (h : Heap) (a : Option Addr) (n : Nat) (t : ByteArray) : Prop := ∃ l : List Int, (cellsOpt h a n = some (l.map (Value.int .u8)) ∨ (n = 0 ∧ l = [])) ∧ t = bsOf l
def strEq (a b : ByteArray) : Bool := a.toList == b.toList
def putsOpt (h : Heap) (a : Option Addr) (i : Nat) (vs : List Value) : Heap := match a with | some p => putsH h (p.add i) vs | none => h

/-- what is appended: n values of size cells each -/
structure AppOK (h : Heap) (size : Nat) (sa : Option Addr) (sn sc : Nat) (xa : Option Addr) (xn : Nat) (bytes : Nat) : Prop where
  old : (∃ os, cellsOpt h sa (sn * size) = some os) ∧ (sa = none → sn = 0 ∧ sc = 0)
  new : ∃ ns, cellsOpt h xa (xn * size) = some ns ∧ (xa = none → xn = 0) ∧ ∀ v ∈ ns, oneB v = true
  room : ∀ p, sa = some p → sn + xn ≤ sc → StOK h (p.add (sn * size)) (xn * size)
  fits : (4 * (sn + xn) + 1024) * bytes ≤ 281474976710656
  pos : 0 < bytes

/-- what append may give, and the heap then -/
structure Appended (h : Heap) (size : Nat) (zero : List Value) (elem : TypeId) (sa : Option Addr) (sn sc : Nat) (xa : Option Addr) (xn : Nat) (s' : Sl) (h' : Heap) : Prop where
  ok : ∃ os ns, cellsOpt h sa (sn * size) = some os ∧ cellsOpt h xa (xn * size) = some ns ∧
    ((sn + xn ≤ sc ∧ s' = ⟨sa, sn + xn, sc⟩ ∧ h' = putsOpt h sa (sn * size) ns) ∨
     (sc < sn + xn ∧ ∃ c', sn + xn ≤ c' ∧ s' = ⟨some ⟨h.size, 0, none⟩, sn + xn, c'⟩ ∧ h' = h.push (.cells (os ++ ns ++ (List.replicate (c' - (sn + xn)) zero).flatten).toArray elem (0, 0))))

/-! ### Numbers -/
def andI (k : IntKind) (x y : Int) : Int := k.wrap (BitVec.ofInt k.bits x &&& BitVec.ofInt k.bits y).toNat
def orI (k : IntKind) (x y : Int) : Int := k.wrap (BitVec.ofInt k.bits x ||| BitVec.ofInt k.bits y).toNat
def xorI (k : IntKind) (x y : Int) : Int := k.wrap (BitVec.ofInt k.bits x ^^^ BitVec.ofInt k.bits y).toNat
def clrI (k : IntKind) (x y : Int) : Int := k.wrap (BitVec.ofInt k.bits x &&& ~~~BitVec.ofInt k.bits y).toNat

/-- a result of arithmetic: an int's is asked to be one, another kind's is wrapped -/
def arI (k : IntKind) (z : Int) (K : Value → Prop) : Prop :=
  match k with
  | .i64 => InI z ∧ K (.int .i64 z)
  | k => K (.int k (k.wrap z))

/-- two rows of numbers, compared -/
def eqInts : List Value → List Value → Option Bool
  | [], [] => some true
  | .int j a :: l, .int k b :: r => if j = k then (match eqInts l r with | some c => some (a == b && c) | none => none) else none
  | _, _ => none

/-- a struct all of whose fields are numbers -/
def intFields (P : Program) : List Field → Nat → Bool
  | [], _ => true
  | f :: l, i => (match P.underlying f.type with | some (.int _) => true | _ => false) && Nat.beq f.offset i && f.name != "_" && intFields P l (i + 1)

def intStruct (P : Program) (t : TypeId) : Bool :=
  match P.underlying t with
  | some (.struct fs) => intFields P fs.toList 0 && !P.stoodInHeld t
  | _ => false

def vcBin (P : Program) (op : BinOp) (t : TypeId) (x y : Value) (K : Value → Prop) : Prop :=
  match x with
  | .string a => (match y with
    | .string b => (match op with
      | .eql => K (.bool (strEq a b))
      | .neq => K (.bool (!strEq a b))
      | _ => False)
    | _ => False)
  | .int j a => (match y with
    | .int k b => (match op with
      | .add => (if j = k then arI j (a + b) K else False)
      | .sub => (if j = k then arI j (a - b) K else False)
      | .mul => (if j = k then arI j (a * b) K else False)
      | .quo => (if j = k then b ≠ 0 ∧ arI j (a.tdiv b) K else False)
      | .rem => (if j = k then b ≠ 0 ∧ K (.int j (a.tmod b)) else False)
      | .and => (if j = k then K (.int j (andI j a b)) else False)
      | .or => (if j = k then K (.int j (orI j a b)) else False)
      | .xor => (if j = k then K (.int j (xorI j a b)) else False)
      | .andNot => (if j = k then K (.int j (clrI j a b)) else False)
      | .eql => (if j = k then K (.bool (a == b)) else False)
      | .neq => (if j = k then K (.bool (a != b)) else False)
      | .lss => (if j = k then K (.bool (decide (a < b))) else False)
      | .leq => (if j = k then K (.bool (decide (a ≤ b))) else False)
      | .gtr => (if j = k then K (.bool (decide (b < a))) else False)
      | .geq => (if j = k then K (.bool (decide (b ≤ a))) else False)
      | .shl => 0 ≤ b ∧ b < j.bits ∧ arI j (a * 2 ^ b.toNat) K
      | .shr => 0 ≤ b ∧ b < j.bits ∧ K (.int j (a / 2 ^ b.toNat)))
    | _ => False)
  | .bool a => (match y with
    | .bool b => (match op with
      | .eql => (match P.underlying t with | some .bool => K (.bool (a == b)) | _ => False)
      | .neq => (match P.underlying t with | some .bool => K (.bool (a != b)) | _ => False)
      | _ => False)
    | _ => False)
  | .pointer a => (match y with
    | .pointer none => (match op with
      | .eql => (match P.underlying t with | some (.pointer _) => K (.bool a.isNone) | _ => False)
      | .neq => (match P.underlying t with | some (.pointer _) => K (.bool a.isSome) | _ => False)
      | _ => False)
    | _ => False)
  | .slice a _ _ => (match y with
    | .slice none _ _ => (match op with
      | .eql => (match P.underlying t with | some (.slice _) => K (.bool a.isNone) | _ => False)
      | .neq => (match P.underlying t with | some (.slice _) => K (.bool a.isSome) | _ => False)
      | _ => False)
    | _ => False)
  | .map a => (match y with
    | .map none => (match op with
      | .eql => (match P.underlying t with | some (.map _ _) => K (.bool a.isNone) | _ => False)
      | .neq => (match P.underlying t with | some (.map _ _) => K (.bool a.isSome) | _ => False)
      | _ => False)
    | _ => False)
  | _ => False

/-- cells that are read one behind the other -/
def exCells (h : Heap) (p : Addr) : List Sh1 → Nat → (List Value → Prop) → Prop
  | [], _, φ => φ []
  | s :: l, i, φ => ex1 s fun v => cellH h (p.add i) = some v ∧ exCells h p l (i + 1) fun vs => φ (v :: vs)

def vcLoad (P : Program) (t : TypeId) (p : Addr) (h : Heap) (K : Value → Prop) : Prop :=
  bif isAggB P t then
    (match flatSh P 10 t with
    | some l => bif Nat.beq l.length (P.cellsOf t) then
        (bif Nat.ble l.length 12 then exCells h p l 0 fun vs => K (.agg vs.toArray)
         else ∃ vs : List Value, cellsH h p (P.cellsOf t) = some vs ∧ K (.agg vs.toArray))
      else False
    | none => False)
  else (match sh1Of P t with
    | some s => ex1 s fun v => cellH h p = some v ∧ K v
    | none => False)

def vcStore (P : Program) (t : TypeId) (p : Addr) (v : Value) (h : Heap) (K : Heap → Prop) : Prop :=
  bif isAggB P t then
    (match v with
    | .agg cs => bif Nat.beq cs.size (P.cellsOf t) && cs.toList.all oneB then StOK h p (P.cellsOf t) ∧ K (putsH h p cs.toList) else False
    | _ => False)
  else (match v with
    | .agg _ => False
    | .tuple _ => False
    | v => bif Nat.beq (P.cellsOf t) 1 then StOK h p 1 ∧ K (putH h p v) else False)

def elemOfSl (P : Program) (t : TypeId) : Option TypeId := match P.underlying t with | some (.slice e) => bif Nat.beq (P.cellsOf e) 0 then none else some e | _ => none

def vcSlice (P : Program) (t : TypeId) (x : Value) (lo hi mx : Option Value) (K : Value → Prop) : Prop :=
  match elemOfSl P t with
  | none => False
  | some e => asS x fun a n c =>
    match lo, hi, mx with
    | none, none, none => K (.slice a n c)
    | none, some h, none => asI h fun _ h => 0 ≤ h ∧ h ≤ c ∧ K (.slice a h.toNat c)
    | some l, none, none => asI l fun _ l => 0 ≤ l ∧ l ≤ n ∧ K (.slice (if c = l.toNat then a else a.map (·.add (l.toNat * P.cellsOf e))) (n - l.toNat) (c - l.toNat))
    | some l, some h, none => asI l fun _ l => asI h fun _ h => 0 ≤ l ∧ l ≤ h ∧ h ≤ c ∧
        K (.slice (if c = l.toNat then a else a.map (·.add (l.toNat * P.cellsOf e))) (h.toNat - l.toNat) (c - l.toNat))
    | some l, some h, some m => asI l fun _ l => asI h fun _ h => asI m fun _ m => 0 ≤ l ∧ l ≤ h ∧ h ≤ m ∧ m ≤ c ∧
        K (.slice (if m.toNat = l.toNat then a else a.map (·.add (l.toNat * P.cellsOf e))) (h.toNat - l.toNat) (m.toNat - l.toNat))
    | none, some h, some m => asI h fun _ h => asI m fun _ m => 0 ≤ h ∧ h ≤ m ∧ m ≤ c ∧
        K (.slice a h.toNat m.toNat)
    | _, _, _ => False

def mapKE (P : Program) (t : TypeId) : Option (IntKind × TypeId) :=
  match P.underlying t with
  | some (.map k e) => (match P.underlying k with | some (.int j) => some (j, e) | _ => none)
  | _ => none

def withSh (P : Program) (e : TypeId) (v : Value) (K : Value → Prop) : Prop :=
  match shOf P e with
  | some s => exS s fun u => v = u ∧ K u
  | none => False

def vcLookup (P : Program) (t : TypeId) (m i : Value) (ok : Bool) (h : Heap) (K : Value → Prop) : Prop :=
  match mapKE P t with
  | none => False
  | some (j, e) => (match zeroOf P e with
    | none => False
    | some z => asM m fun r => asI i fun j' n => if j' = j then
        optE r (K (bif ok then .tuple #[z, .bool false] else z)) (fun r =>
          ∃ es clk, h[r]? = some (.map es clk) ∧ IntKeys j es ∧
            withSh P e ((mget es n).getD z) fun u => K (bif ok then .tuple #[u, .bool (mget es n).isSome] else u))
      else False)

def vcMapUpdate (P : Program) (t : TypeId) (m i v : Value) (h : Heap) (K : Heap → Prop) : Prop :=
  match mapKE P t with
  | none => False
  | some (j, _) => asM m fun r => asI i fun j' n => if j' = j then
      optE r False (fun r => ∃ es clk, h[r]? = some (.map es clk) ∧ IntKeys j es ∧ K (h.setIfInBounds r (mput es clk (.int j n) n v)))
    else False

def vcMakeSlice (P : Program) (t : TypeId) (l c : Value) (h : Heap) (K : Value → Heap → Prop) : Prop :=
  match elemOfSl P t with
  | none => False
  | some e => (match zeroOf P e with
    | none => False
    | some z => asI l fun _ l => asI c fun _ c =>
        0 ≤ l ∧ l ≤ c ∧ c ≤ 1099511627776 ∧ P.bytesOf e ≤ 256 ∧ z.cells.size = P.cellsOf e ∧ 0 < z.cells.size ∧
        K (.slice (some ⟨h.size, 0, none⟩) l.toNat c.toNat) (h.push (.cells ((List.replicate c.toNat z.cells.toList).flatten).toArray e (0, 0))))

def vcAppend (P : Program) (t : TypeId) (s x : Value) (h : Heap) (K : Value → Heap → Prop) : Prop :=
  match elemOfSl P t with
  | none => False
  | some e => (match zeroOf P e with
    | none => False
    | some z => asS s fun sa sn sc => asS x fun xa xn _ =>
        AppOK h (P.cellsOf e) sa sn sc xa xn (P.bytesOf e) ∧ z.cells.size = P.cellsOf e ∧
        ∀ (s' : Sl) (h' : Heap), Appended h (P.cellsOf e) z.cells.toList e sa sn sc xa xn s' h' → K (.slice s'.a s'.n s'.c) h')

def vcCopy (P : Program) (t : TypeId) (d s : Value) (h : Heap) (K : Value → Heap → Prop) : Prop :=
  match elemOfSl P t with
  | none => False
  | some e => asS d fun da dn _ => asS s fun sa sn _ =>
      optE da (dn = 0 ∧ (sa = none → sn = 0) ∧ K (.int .i64 0) h) fun p => optE sa (sn = 0 ∧ K (.int .i64 0) h) fun q =>
        ∃ vs, cellsH h q (min sn dn * P.cellsOf e) = some vs ∧ (∀ v ∈ vs, oneB v = true) ∧ StOK h p (min sn dn * P.cellsOf e) ∧ K (.int .i64 (min sn dn : Nat)) (putsH h p vs)

def vcClear (P : Program) (t : TypeId) (x : Value) (h : Heap) (K : Value → Heap → Prop) : Prop :=
  match x with
  | .map r => optE r (K undef h) fun r => ∃ es clk, h[r]? = some (.map es clk) ∧ K undef (h.setIfInBounds r (.map #[] clk))
  | .slice a n _ => (match elemOfSl P t with
    | none => False
    | some e => (match zeroOf P e with
      | none => False
      | some z => optE a (n = 0 ∧ K undef h) fun p => z.cells.size = P.cellsOf e ∧ z.cells.toList.all oneB = true ∧ StOK h p (n * P.cellsOf e) ∧ K undef (putsH h p (List.replicate n z.cells.toList).flatten)))
  | _ => False

def vcDelete (P : Program) (t : TypeId) (m i : Value) (h : Heap) (K : Value → Heap → Prop) : Prop :=
  match mapKE P t with
  | none => False
  | some (j, _) => asM m fun r => asI i fun j' n => if j' = j then
      optE r (K undef h) (fun r => ∃ es clk, h[r]? = some (.map es clk) ∧ IntKeys j es ∧ K undef (h.setIfInBounds r (.map (mdel es n) clk)))
    else False

def vcLen (P : Program) (t : TypeId) (x : Value) (h : Heap) (K : Value → Prop) : Prop :=
  match x with
  | .slice _ n _ => (match P.underlying t with | some (.slice _) => K (.int .i64 n) | _ => False)
  | .string s => (match P.underlying t with | some .string => K (.int .i64 s.size) | _ => False)
  | .map r => (match P.underlying t with
    | some (.map _ _) => optE r (K (.int .i64 0)) fun r => ∃ es clk, h[r]? = some (.map es clk) ∧ K (.int .i64 (es.size : Nat))
    | _ => False)
  | _ => False

def minI (a b : Int) : Int := if b < a then b else a
def maxI (a b : Int) : Int := if b > a then b else a

def vcMinGo (f : Int → Int → Int) (j : IntKind) (K : Value → Prop) : List Value → Int → Prop
  | [], a => K (.int j a)
  | .int k b :: l, a => if j = k then vcMinGo f j K l (f a b) else False
  | _, _ => False
def vcMin (f : Int → Int → Int) (l : List Value) (K : Value → Prop) : Prop :=
  match l with
  | .int j a :: l => vcMinGo f j K l a
  | _ => False

def vcIndexAddr (P : Program) (t : TypeId) (x i : Value) (K : Value → Prop) : Prop :=
  asI i fun _ n =>
    match elemOfSl P t with
    | some e => asS x fun a len _ => optE a False fun p => 0 ≤ n ∧ n < len ∧ K (.pointer (some (p.add (n.toNat * P.cellsOf e))))
    | none => (match P.underlying t with
      | some (.array len e) => bif Nat.beq (P.cellsOf e) 0 then False else
          asP x fun a => optE a False fun p => 0 ≤ n ∧ n < len ∧ K (.pointer (some (p.add (n.toNat * P.cellsOf e))))
      | _ => False)

def vcIndex (P : Program) (t : TypeId) (x i : Value) (K : Value → Prop) : Prop :=
  asI i fun _ n =>
    match P.underlying t with
    | some (.array len e) => (match x with
      | .agg cs => 0 ≤ n ∧ n < len ∧ (bif isAggB P e then
          (match flatSh P 10 e with
          | some l => bif Nat.beq l.length (P.cellsOf e) then exL l fun vs => (cs.toList.drop (n.toNat * P.cellsOf e)).take (P.cellsOf e) = vs ∧ K (.agg vs.toArray) else False
          | none => False)
        else (match sh1Of P e with
          | some s => ex1 s fun v => cs[n.toNat]? = some v ∧ P.cellsOf e = 1 ∧ K v
          | none => False))
      | _ => False)
    | some .string => (match x with
      | .string s => 0 ≤ n ∧ n < s.size ∧ ∃ b : UInt8, s[n.toNat]? = some b ∧ K (.int .u8 b.toNat)
      | _ => False)
    | _ => False

def vcNext (r : Value) (h : Heap) (K : Value → Heap → Prop) : Prop :=
  asP r fun a => optE a False fun p =>
    p.off = 0 ∧ NextOK h p.block ∧ (∀ (k v : Value) (h' : Heap), NextOne h p.block k v h' → K (.tuple #[.bool true, k, v]) h') ∧ (NextEnd h p.block → K (.tuple #[.bool false]) h)

def vcEntry (r : Value) (h : Heap) (K : Value → Prop) : Prop :=
  asP r fun a => optE a False fun p => p.off = 0 ∧ ∃ k v : Value, EntryOf h p.block k v ∧ K (.tuple #[k, v])

/-- a value, known by its type -/
def reT (s : Option Sh1) (u : Value) (K : Value → Prop) : Prop :=
  match s with
  | some (.int k) => asI u fun j z => if j = k then K (.int k z) else False
  | some .bool => asB u fun b => K (.bool b)
  | some .ptr => asP u fun a => K (.pointer a)
  | some .slice => asS u fun a n c => K (.slice a n c)
  | some .map => asM u fun m => K (.map m)
  | _ => K u

def vcCall (P : Program) (ty : TypeId) (c : Call) (env : Env) (h : Heap) (K : Value → Heap → Prop) : Prop :=
  match evs env c.args.toList with
  | none => False
  | some args =>
    match c.callee with
    | .value (.func f) => HC P f args.toArray h fun v h' => exRes P ty fun u => v = u ∧ K u h'
    | .value x => wV env x fun fv => HV P fv args.toArray h fun v h' => exRes P ty fun u => v = u ∧ K u h'
    | .invoke x name => wV env x fun r => HI P r name args.toArray h fun v h' => exRes P ty fun u => v = u ∧ K u h'
    | .builtin b => (match b, args, c.argTypes.toList with
      | .len, [x], [t] => vcLen P t x h fun v => K v h
      | .cap, [x], [t] => (match elemOfSl P t with | some _ => asS x fun _ _ c => K (.int .i64 c) h | none => False)
      | .append, [s, x], [t, u] => (match elemOfSl P u with | some _ => vcAppend P t s x h K | none => False)
      | .copy, [d, s], [t, _] => vcCopy P t d s h K
      | .clear, [x], [t] => (match P.underlying t with | some _ => vcClear P t x h K | none => False)
      | .delete, [m, i], [t, _] => vcDelete P t m i h K
      | .min, l, _ => vcMin minI l fun v => K v h
      | .max, l, _ => vcMin maxI l fun v => K v h
      | _, _, _ => False)

/-- An operation, carried out in a heap. -/
def vcOp (P : Program) (o : Oper) (env : Env) (h : Heap) (K : Value → Heap → Prop) : Prop :=
  match o.op with
  | .move x => wV env x fun v => K v h
  | .assign x => wV env x fun v => reT (sh1Of P o.type) v fun v => K v h
  | .pick c a b => wV env c fun c => asB c fun c => cond c (wV env a fun v => K v h) (wV env b fun v => K v h)
  | .alloc e => (match zeroOf P e with
    | some z => K (.pointer (some ⟨h.size, 0, none⟩)) (h.push (.cells z.cells e (0, 0)))
    | none => False)
  | .box e x => wV env x fun v => K (.pointer (some ⟨h.size, 0, none⟩)) (h.push (.cells v.cells e (0, 0)))
  | .build t ps => (match evParts env ps.toList with
    | some ps => (match buildV P t ps with | some cs => K (.agg cs.toArray) h | none => False)
    | none => False)
  | .buildSlice t n ps => (match elemOfSl P t, evParts env ps.toList with
    | some e, some ps => (match buildSl P e n ps with
      | some cs => K (.slice (some ⟨h.size, 0, none⟩) n n) (h.push (.cells cs.toArray e (0, 0)))
      | none => False)
    | _, _ => False)
  | .load t x => wV env x fun v => asP v fun a => optE a False fun p => vcLoad P t p h fun v => K v h
  | .store t x y => wV env x fun v => wV env y fun u => asP v fun a => optE a False fun p => vcStore P t p u h fun h' => K undef h'
  | .nilCheck x => wV env x fun v => (match v with
    | .pointer a => optE a False fun p => K (.pointer (some p)) h
    | .func (.func g) b c => K (.func (.func g) b c) h
    | .func (.method g) b c => HN P (.func (.method g) b c) ∧ K (.func (.method g) b c) h
    | _ => False)
  | .binOp op t x y _ => wV env x fun v => wV env y fun u => vcBin P op t v u fun r => K r h
  | .unOp op _ x => wV env x fun v => (match op with
    | .not => asB v fun b => K (.bool !b) h
    | .neg => asI v fun j n => arI j (0 - n) fun r => K r h
    | _ => False)
  | .convert s d x => wV env x fun v => (match P.underlying s, P.underlying d with
    | some _, some (.int k) => asI v fun _ n => arI k n fun r => K r h
    | some (.slice e), some .string => (match P.underlying e with
      | some (.int .u8) => asS v fun a n _ => ∃ t : ByteArray, bytesAt h a n t ∧ K (.string t) h
      | _ => False)
    | _, _ => False)
  | .makeInterface t x => wV env x fun v => (match P.underlying t with
    | some (.interface _) => False
    | some _ => K (.iface t v) h
    | none => False)
  | .makeFunc fn a b => (match evs env a.toList, evs env b.toList with
    | some a, some b => K (.func fn a.toArray b.toArray) h
    | _, _ => False)
  | .makeMap t r => (match r with
    | none => K (.map (some h.size)) (h.push (.map #[] 0))
    | some x => wV env x fun v => asI v fun _ _ => (match P.underlying t with
      | some (.map _ _) => K (.map (some h.size)) (h.push (.map #[] 0))
      | _ => False))
  | .makeSlice t l c => wV env l fun l => wV env c fun c => vcMakeSlice P t l c h K
  | .slice t x lo hi mx => wV env x fun v => (match evOpt env lo, evOpt env hi, evOpt env mx with
    | some lo, some hi, some mx => vcSlice P t v lo hi mx fun r => K r h
    | _, _, _ => False)
  | .fieldAddr t x i => wV env x fun v => asP v fun a => optE a False fun p => (match fieldOff P t i with
    | some k => K (.pointer (some (p.add k))) h
    | none => False)
  | .field t x i => wV env x fun v => (match v with
    | .agg cs => (match fieldPart P t cs.toList i with | some u => K u h | none => False)
    | _ => False)
  | .indexAddr t x i => wV env x fun v => wV env i fun i => vcIndexAddr P t v i fun r => K r h
  | .index t x i => wV env x fun v => wV env i fun i => vcIndex P t v i fun r => K r h
  | .lookup t x i ok => wV env x fun v => wV env i fun i => vcLookup P t v i ok h fun r => K r h
  | .mapUpdate t m i x => wV env m fun m => wV env i fun i => wV env x fun v => vcMapUpdate P t m i v h fun h' => K undef h'
  | .insert t m i x => wV env m fun m => wV env i fun i => wV env x fun v => vcMapUpdate P t m i v h fun h' => K undef h'
  | .range t x => wV env x fun v => (match P.underlying t with
    | some (.map _ _) => asM v fun r => optE r False fun m => ∃ es clk, h[m]? = some (.map es clk) ∧
        K (.pointer (some ⟨h.size, 0, none⟩)) (h.push (.mapIter (some m) clk #[] clk))
    | _ => False)
  | .next x s => bif s then False else wV env x fun r => vcNext r h K
  | .entry x => wV env x fun r => vcEntry r h fun v => K v h
  | .extract x i => wV env x fun v => (match v with
    | .tuple vs => (match vs.toList[i]? with | some u => reT (sh1Of P o.type) u fun u => K u h | none => False)
    | _ => False)
  | .call c => vcCall P o.type c env h K
  | _ => False
end Go.Hv

/- The heap conditions are enough: operation by operation. -/
namespace Go.Hv

def opSem (P : Program) (o : Oper) (ρ : Operand → Value) (h : Heap) (K : Value → Heap → Prop) : Prop :=
  ∀ w : World, w.heap = h → OpOK P K w ((execOp ρ o).run P w)

theorem OpOK.value {P : Program} {K : Value → Heap → Prop} {w : World} {v : Value} (h : K v w.heap) : OpOK P K w (.ok (.value v) w) := ⟨h, Same.refl w⟩

theorem wV_elim {env : Env} {x : Operand} {k : Value → Prop} (h : wV env x k) : ∃ v, ev env x = some v ∧ k v := by
  unfold wV at h
  cases hx : ev env x with
  | none => rw [hx] at h; exact h.elim
  | some v => rw [hx] at h; exact ⟨v, rfl, h⟩
theorem asP_elim {v : Value} {k : Option Addr → Prop} (h : asP v k) : ∃ a, v = .pointer a ∧ k a := by
  cases v <;> first | exact h.elim | exact ⟨_, rfl, h⟩
theorem asS_elim {v : Value} {k : Option Addr → Nat → Nat → Prop} (h : asS v k) : ∃ a n c, v = .slice a n c ∧ k a n c := by
  cases v <;> first | exact h.elim | exact ⟨_, _, _, rfl, h⟩
theorem asM_elim {v : Value} {k : Option Nat → Prop} (h : asM v k) : ∃ a, v = .map a ∧ k a := by
  cases v <;> first | exact h.elim | exact ⟨_, rfl, h⟩
theorem asB_elim {v : Value} {k : Bool → Prop} (h : asB v k) : ∃ a, v = .bool a ∧ k a := by
  cases v <;> first | exact h.elim | exact ⟨_, rfl, h⟩
theorem reT_elim {s : Option Sh1} {u : Value} {K : Value → Prop} (h : reT s u K) : K u := by
  unfold reT at h
  split at h
  · cases u <;> first | exact h.elim | skip
    simp only [asI] at h
    split at h
    · rename_i e; subst e; exact h
    · exact h.elim
  · cases u <;> first | exact h.elim | exact h
  · cases u <;> first | exact h.elim | exact h
  · cases u <;> first | exact h.elim | exact h
  · cases u <;> first | exact h.elim | exact h
  · exact h

theorem asI_elim {v : Value} {k : IntKind → Int → Prop} (h : asI v k) : ∃ j n, v = .int j n ∧ k j n := by
  cases v <;> first | exact h.elim | exact ⟨_, _, rfl, h⟩
theorem optE_some {α : Type} {a : Option α} {k : α → Prop} (h : optE a False k) : ∃ p, a = some p ∧ k p := by
  cases a with
  | none => exact h.elim
  | some p => exact ⟨p, rfl, h⟩

theorem ex1_elim {s : Sh1} {φ : Value → Prop} (h : ex1 s φ) : ∃ v, φ v := by
  cases s <;> (obtain ⟨x, hx⟩ := h; exact ⟨_, hx⟩)
theorem exL_elim : ∀ {l : List Sh1} {φ : List Value → Prop}, exL l φ → ∃ v, φ v
  | [], _, h => ⟨[], h⟩
  | s :: l, φ, h => by
    obtain ⟨v, hv⟩ := ex1_elim (s := s) (φ := fun v => exL l fun vs => φ (v :: vs)) h
    obtain ⟨vs, hvs⟩ := exL_elim hv
    exact ⟨_, hvs⟩
theorem exS_elim {s : Sh} {φ : Value → Prop} (h : exS s φ) : ∃ v, φ v := by
  cases s with
  | one s => exact ex1_elim h
  | agg l => obtain ⟨vs, h⟩ := exL_elim h; exact ⟨_, h⟩
theorem exSs_elim : ∀ {l : List Sh} {φ : List Value → Prop}, exSs l φ → ∃ v, φ v
  | [], _, h => ⟨[], h⟩
  | s :: l, φ, h => by
    obtain ⟨v, hv⟩ := exS_elim (s := s) (φ := fun v => exSs l fun vs => φ (v :: vs)) h
    obtain ⟨vs, hvs⟩ := exSs_elim hv
    exact ⟨_, hvs⟩
theorem exRes_elim {P : Program} {t : TypeId} {k : Value → Prop} (h : exRes P t k) : ∃ v, k v := by
  unfold exRes at h
  split at h
  · split at h
    · obtain ⟨vs, h⟩ := exSs_elim h; exact ⟨_, h⟩
    · exact h.elim
  · split at h
    · exact exS_elim h
    · exact h.elim
theorem withSh_elim {P : Program} {e : TypeId} {v : Value} {K : Value → Prop} (h : withSh P e v K) : K v := by
  unfold withSh at h
  split at h
  · obtain ⟨u, hu, hk⟩ := exS_elim h
    rw [hu]; exact hk
  · exact h.elim

theorem evs_spec {env : Env} {ρ : Operand → Value} (hρ : ∀ x v, ev env x = some v → ρ x = v) : ∀ {l : List Operand} {vs : List Value}, evs env l = some vs → l.map ρ = vs
  | [], vs, h => by simp only [evs, Option.some.injEq] at h; rw [← h]; rfl
  | x :: l, vs, h => by
    simp only [evs] at h
    split at h
    · rename_i v vs' hv hvs
      simp only [Option.some.injEq] at h
      rw [← h, List.map_cons, hρ x v hv, evs_spec hρ hvs]
    · cases h
theorem evs_arr {env : Env} {ρ : Operand → Value} (hρ : ∀ x v, ev env x = some v → ρ x = v) {l : Array Operand} {vs : List Value} (h : evs env l.toList = some vs) : l.map ρ = vs.toArray := by
  have := evs_spec hρ h
  rw [← this, ← Array.toList_map, Array.toArray_toList]
theorem evParts_spec {env : Env} {ρ : Operand → Value} (hρ : ∀ x v, ev env x = some v → ρ x = v) : ∀ {l : List (Nat × Operand)} {vs : List (Nat × Value)}, evParts env l = some vs → l.map (fun (i, x) => (i, ρ x)) = vs
  | [], vs, h => by simp only [evParts, Option.some.injEq] at h; rw [← h]; rfl
  | (i, x) :: l, vs, h => by
    simp only [evParts] at h
    split at h
    · rename_i v vs' hv hvs
      simp only [Option.some.injEq] at h
      rw [← h, List.map_cons, evParts_spec hρ hvs]
      simp only [hρ x v hv]
    · cases h
theorem evOpt_spec {env : Env} {ρ : Operand → Value} (hρ : ∀ x v, ev env x = some v → ρ x = v) {x : Option Operand} {v : Option Value} (h : evOpt env x = some v) : x.map ρ = v := by
  cases x with
  | none => simp only [evOpt, Option.some.injEq] at h; rw [← h]; rfl
  | some x =>
    simp only [evOpt] at h
    split at h
    · rename_i u hu
      simp only [Option.some.injEq] at h
      rw [← h]; simp [hρ x u hu]
    · cases h

section
variable {P : Program}

theorem underlying_run {t : TypeId} {d : TypeDesc} (h : P.underlying t = some d) (w : World) : (underlying t).run P w = .ok d w := by
  simp [underlying, h]
theorem isAgg_run {t : TypeId} {d : TypeDesc} (h : P.underlying t = some d) (w : World) : (isAgg t).run P w = .ok (isAggB P t) w := by
  simp only [isAgg, Sem.run_bind, underlying_run h, Result.andThen_ok, isAggB, h]
  cases d <;> rfl
theorem isAggB_some {t : TypeId} (h : isAggB P t = true) : ∃ d, P.underlying t = some d := by
  unfold isAggB at h
  cases hu : P.underlying t with
  | none => rw [hu] at h; cases h
  | some d => exact ⟨d, rfl⟩
theorem sh1Of_some {t : TypeId} {s : Sh1} (h : sh1Of P t = some s) : ∃ d, P.underlying t = some d := by
  unfold sh1Of at h
  cases hu : P.underlying t with
  | none => rw [hu] at h; cases h
  | some d => exact ⟨d, rfl⟩
theorem info_of_underlying {t : TypeId} {d : TypeDesc} (h : P.underlying t = some d) : ∃ i, P.info? t = some i := by
  unfold Program.underlying at h
  cases hi : P.info? t with
  | some i => exact ⟨i, rfl⟩
  | none => simp [hi] at h
theorem sizeOf_run {t : TypeId} {i : TypeInfo} (h : P.info? t = some i) (w : World) : (sizeOf t).run P w = .ok (P.cellsOf t) w := by
  simp [sizeOf, typeInfo, h, Program.cellsOf]
theorem sizeOf_run' {t : TypeId} {d : TypeDesc} (h : P.underlying t = some d) (w : World) : (sizeOf t).run P w = .ok (P.cellsOf t) w := by
  obtain ⟨i, hi⟩ := info_of_underlying h
  exact sizeOf_run hi w
theorem typeInfo_run {t : TypeId} {i : TypeInfo} (h : P.info? t = some i) (w : World) : (typeInfo t).run P w = .ok i w := by
  simp [typeInfo, h]
theorem zeroValue_run {t : TypeId} {z : Value} (h : zeroOf P t = some z) (w : World) : (zeroValue t).run P w = .ok z w := by
  unfold zeroOf at h
  cases hi : P.info? t with
  | none => rw [hi] at h; cases h
  | some i =>
    rw [hi] at h
    simp only at h
    simp [zeroValue, typeInfo, hi, h]
theorem zeroOf_info {t : TypeId} {z : Value} (h : zeroOf P t = some z) : ∃ i, P.info? t = some i := by
  unfold zeroOf at h
  cases hi : P.info? t with
  | none => rw [hi] at h; cases h
  | some i => exact ⟨i, rfl⟩

theorem load_run {w : World} {p : Addr} {v : Value} (h : cellH w.heap p = some v) : (load p).run P w = .ok v w := by
  have h' : w.cell? p = some v := h
  simp [run_load, h']

theorem loadVar_one {t : TypeId} {d : TypeDesc} (hu : P.underlying t = some d) (ha : isAggB P t = false) {w : World} {p : Addr} {v : Value} (h : cellH w.heap p = some v) :
    (loadVar t p).run P w = .ok v w := by
  simp only [loadVar, Sem.run_bind, isAgg_run hu, Result.andThen_ok, ha, Bool.false_eq_true, if_false, load_run h]

theorem loadCellsFrom_run {w : World} {p : Addr} : ∀ {vs : List Value} {i : Nat} {acc : Array Value}, (∀ j v, vs[j]? = some v → cellH w.heap (p.add (i + j)) = some v) →
    (loadCellsFrom p i vs.length acc).run P w = .ok (acc ++ vs.toArray) w
  | [], i, acc, _ => by simp [loadCellsFrom]
  | v :: vs, i, acc, h => by
    have h0 := h 0 v rfl
    simp only [Nat.add_zero] at h0
    simp only [loadCellsFrom, List.length_cons, Sem.run_bind, load_run h0, Result.andThen_ok]
    rw [loadCellsFrom_run (vs := vs) (i := i + 1) (acc := acc.push v) (fun j u hj => by
      have := h (j + 1) u (by simpa using hj)
      rwa [Nat.add_assoc, Nat.add_comm 1 j])]
    simp

theorem loadVar_agg {t : TypeId} {d : TypeDesc} (hu : P.underlying t = some d) (ha : isAggB P t = true) {w : World} {p : Addr} {vs : List Value} (hl : vs.length = P.cellsOf t)
    (h : ∀ j v, vs[j]? = some v → cellH w.heap (p.add j) = some v) : (loadVar t p).run P w = .ok (.agg vs.toArray) w := by
  simp only [loadVar, Sem.run_bind, isAgg_run hu, Result.andThen_ok, ha, if_true, sizeOf_run' hu, loadCells]
  rw [← hl, loadCellsFrom_run (vs := vs) (i := 0) (acc := #[]) (fun j v hj => by simpa using h j v hj)]
  simp

theorem exCells_elim {h : Heap} {p : Addr} : ∀ {l : List Sh1} {i : Nat} {φ : List Value → Prop}, exCells h p l i φ →
    ∃ vs, φ vs ∧ vs.length = l.length ∧ ∀ j v, vs[j]? = some v → cellH h (p.add (i + j)) = some v
  | [], i, φ, H => ⟨[], H, rfl, fun j v hj => by simp at hj⟩
  | s :: l, i, φ, H => by
    obtain ⟨v, hc, H⟩ := ex1_elim (s := s) (φ := fun v => cellH h (p.add i) = some v ∧ exCells h p l (i + 1) fun vs => φ (v :: vs)) H
    obtain ⟨vs, hφ, hl, hcs⟩ := exCells_elim H
    refine ⟨v :: vs, hφ, by simp [hl], fun j u hj => ?_⟩
    cases j with
    | zero => simp only [List.getElem?_cons_zero, Option.some.injEq] at hj; subst hj; simpa using hc
    | succ j =>
      have := hcs j u (by simpa using hj)
      rwa [Nat.add_assoc, Nat.add_comm 1 j] at this

theorem cellsH_spec {h : Heap} {p : Addr} {n : Nat} {vs : List Value} (H : cellsH h p n = some vs) :
    vs.length = n ∧ ∀ j v, vs[j]? = some v → cellH h (p.add j) = some v := by
  unfold cellsH at H
  split at H
  · rename_i c T f hb
    split at H
    · cases H
    · rename_i hs
      split at H
      · rename_i hle
        simp only [Option.some.injEq] at H
        subst H
        refine ⟨by simp; omega, fun j v hj => ?_⟩
        have hj' : j < n := by
          rcases Nat.lt_or_ge j n with h | h
          · exact h
          · rw [List.getElem?_eq_none (by simp; omega)] at hj; cases hj
        rw [List.getElem?_take_of_lt hj', List.getElem?_drop] at hj
        unfold cellH Addr.add
        have hs' : p.spot = none := by simpa using hs
        by_cases h0 : j = 0
        · subst h0; simp only [if_true, hb, hs']; simpa using hj
        · simp only [h0, if_false, hb]; simpa using hj
      · cases H
  · cases H

theorem vcLoad_sound {t : TypeId} {p : Addr} {h : Heap} {K : Value → Prop} (H : vcLoad P t p h K) : ∃ v, (∀ w : World, w.heap = h → (loadVar t p).run P w = .ok v w) ∧ K v := by
  unfold vcLoad at H
  cases ha : isAggB P t with
  | true =>
    obtain ⟨d, hu⟩ := isAggB_some ha
    rw [ha] at H
    simp only [cond_true] at H
    split at H
    · rename_i l hl
      cases hn : Nat.beq l.length (P.cellsOf t) with
      | false => rw [hn] at H; exact H.elim
      | true =>
        rw [hn] at H
        simp only [cond_true] at H
        have hn' := Nat.eq_of_beq_eq_true hn
        cases hb : Nat.ble l.length 12 with
        | true =>
          rw [hb] at H
          obtain ⟨vs, hk, hlen, hcs⟩ := exCells_elim H
          exact ⟨_, fun w hw => loadVar_agg hu ha (by omega) (fun j v hj => by subst hw; simpa using hcs j v hj), hk⟩
        | false =>
          rw [hb] at H
          obtain ⟨vs, hc, hk⟩ := H
          obtain ⟨h1, h2⟩ := cellsH_spec hc
          exact ⟨_, fun w hw => by subst hw; exact loadVar_agg hu ha h1 h2, hk⟩
    · exact H.elim
  | false =>
    rw [ha] at H
    simp only [cond_false] at H
    split at H
    · rename_i s hs
      obtain ⟨d, hu⟩ := sh1Of_some hs
      obtain ⟨v, hc, hk⟩ := ex1_elim H
      exact ⟨v, fun w hw => by subst hw; exact loadVar_one hu ha hc, hk⟩
    · exact H.elim

theorem heap_setCell (w : World) (p : Addr) (v : Value) : (w.setCell p v).heap = putH w.heap p v := rfl

theorem same_setCell (w : World) (p : Addr) (v : Value) : Same w (w.setCell p v) := by
  refine ⟨rfl, rfl, rfl, fun a => ?_⟩
  simp only [World.frozen?, World.setCell]
  rw [Array.getElem?_modify]
  by_cases h : p.block = a.block
  · rw [if_pos h]
    cases w.heap[a.block]? with
    | none => rfl
    | some o => cases o <;> rfl
  · rw [if_neg h]

theorem StOK.at {h : Heap} {p : Addr} {n : Nat} (H : StOK h p n) {i : Nat} (hi : i < n) : StOK h (p.add i) 1 := by
  obtain ⟨cs, T, hb, hle, hs⟩ := H.ok
  refine ⟨cs, T, ?_, ?_, ?_⟩ <;> (unfold Addr.add; split)
  · exact hb
  · exact hb
  · omega
  · simp only; omega
  · exact hs
  · rfl

theorem StOK.put {h : Heap} {p : Addr} {n : Nat} (H : StOK h p n) (q : Addr) (v : Value) : StOK (putH h q v) p n := by
  obtain ⟨cs, T, hb, hle, hs⟩ := H.ok
  by_cases hq : q.block = p.block
  · refine ⟨if q.spot.isSome then cs else cs.setIfInBounds q.off v, T, ?_, ?_, hs⟩
    · unfold putH
      rw [Array.getElem?_modify, hq, if_pos rfl, hb]; rfl
    · split <;> simpa using hle
  · refine ⟨cs, T, ?_, hle, hs⟩
    unfold putH
    rw [Array.getElem?_modify, if_neg hq, hb]

theorem store_run {w : World} {p : Addr} {v : Value} (H : StOK w.heap p 1) (hv : oneB v = true) : (store p v).run P w = .ok () (w.setCell p v) := by
  obtain ⟨cs, T, hb, hle, hs⟩ := H.ok
  have hv' : v.oneCell' = true := by cases v <;> first | rfl | exact hv
  have hc : w.cell? p = some (cs[p.off]'(by omega)) := by
    simp only [World.cell?, hb, hs, Option.isSome_none, Bool.false_eq_true, if_false]
    rw [Array.getElem?_eq_getElem]
  have hf : w.frozen? p = false := by simp [World.frozen?, hb]
  rw [run_store P w p v .plain hv', hc]
  simp [hf]

theorem storeCells_run {p : Addr} : ∀ {vs : List Value} {i : Nat} {w : World} {n : Nat}, StOK w.heap p n → i + vs.length ≤ n → (∀ v ∈ vs, oneB v = true) →
    ∃ w', (storeCells p vs i).run P w = .ok () w' ∧ w'.heap = putsH w.heap p vs i ∧ Same w w'
  | [], i, w, n, _, _, _ => ⟨w, by simp [storeCells], rfl, Same.refl w⟩
  | v :: vs, i, w, n, H, hle, hv => by
    simp only [List.length_cons] at hle
    have h1 := store_run (P := P) (H.at (i := i) (by omega)) (hv v (List.mem_cons_self ..))
    obtain ⟨w', hr, hh, hs⟩ := storeCells_run (vs := vs) (i := i + 1) (w := w.setCell (p.add i) v) (n := n) (by rw [heap_setCell]; exact H.put _ _) (by omega) (fun u hu => hv u (List.mem_cons_of_mem _ hu))
    refine ⟨w', ?_, ?_, (same_setCell _ _ _).trans hs⟩
    · simp only [storeCells, Sem.run_bind, h1, Result.andThen_ok, hr]
    · rw [hh, heap_setCell]; rfl

theorem cellsOf_info {t : TypeId} (h : P.cellsOf t ≠ 0) : ∃ i, P.info? t = some i := by
  unfold Program.cellsOf at h
  cases hi : P.info? t with
  | some i => exact ⟨i, rfl⟩
  | none => simp [hi] at h

theorem vcStore_sound {t : TypeId} {p : Addr} {v : Value} {w : World} {K : Heap → Prop} (H : vcStore P t p v w.heap K) : ∃ w', (storeVar t p v).run P w = .ok () w' ∧ K w'.heap ∧ Same w w' := by
  unfold vcStore at H
  cases ha : isAggB P t with
  | true =>
    obtain ⟨d, hu⟩ := isAggB_some ha
    rw [ha] at H
    simp only [cond_true] at H
    split at H
    · rename_i cs
      cases hn : (Nat.beq cs.size (P.cellsOf t) && cs.toList.all oneB) with
      | false => rw [hn] at H; exact H.elim
      | true =>
        rw [hn] at H
        obtain ⟨hst, hk⟩ := H
        simp only [Bool.and_eq_true] at hn
        obtain ⟨hn1, hn2⟩ := hn
        have hn1 := Nat.eq_of_beq_eq_true hn1
        obtain ⟨w', hr, hh, hs⟩ := storeCells_run (P := P) (p := p) (vs := cs.toList) (i := 0) (w := w) hst (by simp [hn1]) (fun v hv => List.all_eq_true.1 hn2 v hv)
        refine ⟨w', ?_, by rw [hh]; exact hk, hs⟩
        simp only [storeVar, Sem.run_bind, sizeOf_run' hu, Result.andThen_ok, Value.cells, hn1, ne_eq, not_true_eq_false, if_false]
        simpa using hr
    · exact H.elim
  | false =>
    rw [ha] at H
    simp only [cond_false] at H
    have key : ∀ (hv : oneB v = true) (hcells : v.cells = #[v]), (bif Nat.beq (P.cellsOf t) 1 then StOK w.heap p 1 ∧ K (putH w.heap p v) else False) →
        ∃ w', (storeVar t p v).run P w = .ok () w' ∧ K w'.heap ∧ Same w w' := fun hv hcells H => by
      cases hn : Nat.beq (P.cellsOf t) 1 with
      | false => rw [hn] at H; exact H.elim
      | true =>
        rw [hn] at H
        obtain ⟨hst, hk⟩ := H
        have hn := Nat.eq_of_beq_eq_true hn
        obtain ⟨i, hi⟩ := cellsOf_info (P := P) (t := t) (by omega)
        refine ⟨w.setCell p v, ?_, hk, same_setCell _ _ _⟩
        have hadd : p.add 0 = p := rfl
        have hs1 := store_run (P := P) hst hv
        simp only [storeVar, Sem.run_bind, sizeOf_run hi, Result.andThen_ok, hcells, hn]
        simp [storeCells, hadd, hs1]
    cases v <;> first | exact H.elim | exact key rfl rfl H

/-! ### Calls -/
theorem HC.opOK {f : FuncId} {as : Array Value} {w : World} {K K' : Value → Heap → Prop} (H : HC P f as w.heap K) (hk : ∀ v h, K v h → K' v h) :
    OpOK P K' w (.ok (.enter f as) w) :=
  ⟨Same.refl w, (H.run w rfl).mono fun _ _ ⟨v, he, hv, hs⟩ => ⟨v, he, hk _ _ hv, hs⟩⟩

theorem HC.mono {f : FuncId} {as : Array Value} {h : Heap} {R R' : Value → Heap → Prop} (H : HC P f as h R) (hr : ∀ v h', R v h' → R' v h') : HC P f as h R' :=
  ⟨H.enter, fun w hw => (H.run w hw).mono fun _ _ ⟨v, he, hv, hs⟩ => ⟨v, he, hr _ _ hv, hs⟩⟩
theorem OpOK.mono {K K' : Value → Heap → Prop} {w : World} {r : Result Next} (H : OpOK P K w r) (hk : ∀ v h, K v h → K' v h) : OpOK P K' w r := by
  cases r with
  | halt x w' => exact H
  | ok x w' =>
    cases x with
    | value v => exact ⟨hk _ _ H.1, H.2⟩
    | skip => exact ⟨hk _ _ H.1, H.2⟩
    | enter f args => exact ⟨H.1, H.2.mono fun _ _ ⟨v, he, hv, hs⟩ => ⟨v, he, hk _ _ hv, hs⟩⟩
    | round l f tmps asg bd => exact ⟨H.1, H.2.mono fun _ _ ⟨v, he, hv, hs⟩ => ⟨v, he, hk _ _ hv, hs⟩⟩
    | _ => exact H
theorem HV.mono {fv : Value} {as : Array Value} {h : Heap} {R R' : Value → Heap → Prop} (H : HV P fv as h R) (hr : ∀ v h', R v h' → R' v h') : HV P fv as h R' :=
  ⟨fun w hw => (H.ex w hw).mono hr⟩
theorem HI.mono {r : Value} {n : String} {as : Array Value} {h : Heap} {R R' : Value → Heap → Prop} (H : HI P r n as h R) (hr : ∀ v h', R v h' → R' v h') : HI P r n as h R' :=
  let ⟨f, bs, h1, h2⟩ := H.ex; ⟨f, bs, h1, h2.mono hr⟩

theorem HV.of_func {g : FuncId} {first cap as : Array Value} {h : Heap} {R : Value → Heap → Prop} (H : HC P g (first ++ as ++ cap) h R) : HV P (.func (.func g) first cap) as h R := by
  refine ⟨fun w hw => ?_⟩
  have he : ((Deferred.ofValue (.func (.func g) first cap) as) >>= fun d => invoke d.target d.args).run P w = .ok (.enter g (first ++ as ++ cap)) w := by
    have := H.enter (first ++ as ++ cap) w
    simpa [Deferred.ofValue, invoke] using this
  rw [he]
  exact ⟨Same.refl w, H.run w hw⟩

theorem resolve_value {ρ : Operand → Value} {c : Call} {ty : TypeId} {x : Operand} (hc : c.callee = .value x) : resolve ρ c ty = Deferred.ofValue (ρ x) (c.args.map ρ) := by
  simp only [resolve, hc]
theorem resolve_invoke {ρ : Operand → Value} {c : Call} {ty : TypeId} {x : Operand} {n : String} (hc : c.callee = .invoke x n) :
    resolve ρ c ty = pure { target := .fn (.method n) #[], args := #[ρ x] ++ c.args.map ρ } := by
  simp only [resolve, hc]
theorem resolve_builtin {ρ : Operand → Value} {c : Call} {ty : TypeId} {b : Builtin} (hc : c.callee = .builtin b) :
    resolve ρ c ty = pure { target := .builtin b c.argTypes ty (c.args.map fun | .const _ => true | _ => false), args := c.args.map ρ } := by
  simp only [resolve, hc]; rfl

theorem exRes_call {ty : TypeId} {K : Value → Heap → Prop} {v : Value} {h : Heap} (H : exRes P ty fun u => v = u ∧ K u h) : K v h := by
  obtain ⟨u, hu, hk⟩ := exRes_elim H
  rw [hu]; exact hk

theorem optE_elim {α : Type} {a : Option α} {k0 : Prop} {k : α → Prop} (h : optE a k0 k) : (a = none ∧ k0) ∨ ∃ p, a = some p ∧ k p := by
  cases a with
  | none => exact .inl ⟨rfl, h⟩
  | some p => exact .inr ⟨p, rfl, h⟩
end
end Go.Hv

/- The heap conditions are enough: an operation. -/
namespace Go.Hv
section
variable {P : Program} {env : Env} {ρ : Operand → Value}

theorem okv {K : Value → Heap → Prop} {w : World} {s : Sem Value} {v : Value} (hs : s.run P w = .ok v w) (hk : K v w.heap) :
    OpOK P K w ((do pure (.value (← s)) : Sem Next).run P w) := by
  simp only [Sem.run_bind, hs, Result.andThen_ok, Sem.run_pure]
  exact ⟨hk, Same.refl w⟩
theorem okv' {K : Value → Heap → Prop} {w w' : World} {s : Sem Value} {v : Value} (hs : s.run P w = .ok v w') (hk : K v w'.heap) (hsame : Same w w') :
    OpOK P K w ((do pure (.value (← s)) : Sem Next).run P w) := by
  simp only [Sem.run_bind, hs, Result.andThen_ok, Sem.run_pure]
  exact ⟨hk, hsame⟩
theorem oku {K : Value → Heap → Prop} {w w' : World} {s : Sem Unit} (hs : s.run P w = .ok () w') (hk : K undef w'.heap) (hsame : Same w w') :
    OpOK P K w ((do s; pure .skip : Sem Next).run P w) := by
  simp only [Sem.run_bind, hs, Result.andThen_ok, Sem.run_pure]
  exact ⟨hk, hsame⟩

/-- a block nothing of which is frozen -/
def plainO : Obj → Prop | .cells _ _ q => q = (0, 0) | _ => True

theorem same_push (w : World) (o : Obj) (ho : plainO o) : Same w { w with heap := w.heap.push o } := by
  refine ⟨rfl, rfl, rfl, fun a => ?_⟩
  simp only [World.frozen?]
  rw [Array.getElem?_push]
  by_cases h : a.block = w.heap.size
  · rw [if_pos h, h, Array.getElem?_eq_none (Nat.le_refl _)]
    cases o with
    | cells c t q => simp only [plainO] at ho; subst ho; simp
    | _ => rfl
  · rw [if_neg h]

theorem same_set (w : World) {r : Nat} {o o' : Obj} (h : w.heap[r]? = some o) (hc : ∀ c t f, o ≠ .cells c t f) (hc' : ∀ c t f, o' ≠ .cells c t f) : Same w { w with heap := w.heap.setIfInBounds r o' } := by
  refine ⟨rfl, rfl, rfl, fun a => ?_⟩
  simp only [World.frozen?]
  rw [Array.getElem?_setIfInBounds]
  by_cases hr : r = a.block
  · subst hr
    have hlt := (Array.getElem?_eq_some_iff.1 h).1
    rw [if_pos rfl, if_pos hlt, h]
    cases o <;> cases o' <;> first | rfl | exact absurd rfl (hc _ _ _) | exact absurd rfl (hc' _ _ _)
  · rw [if_neg hr]

/-! ### Numbers -/
theorem wrap64_id {z : Int} (h : InI z) : IntKind.i64.wrap z = z := by
  obtain ⟨h1, h2⟩ := h
  simp [IntKind.wrap, IntKind.bits, IntKind.signed]
  omega

theorem arI_elim {k : IntKind} {z : Int} {K : Value → Prop} (h : arI k z K) : K (.int k (k.wrap z)) := by
  cases k <;> first | exact h | exact (wrap64_id h.1).symm ▸ h.2

theorem fdiv_pow (x : Int) (n : Nat) : x.fdiv (2 ^ n) = x / 2 ^ n := by
  have : (0 : Int) ≤ 2 ^ n := by
    have := Int.pow_pos (n := 2) (m := n) (by decide)
    omega
  exact Int.fdiv_eq_ediv_of_nonneg x this

theorem min_bits {y : Int} {n : Nat} (h1 : y < n) (h0 : 0 ≤ y) : min y.toNat n = y.toNat := by omega

theorem run_eqGuard {op : BinOp} {t : TypeId} {x y : Operand} {a b : Value} {w : World} (h1 : a ≠ .nilIface) (h2 : ∀ cs, a ≠ .agg cs) :
    (eqGuard op t x y a b).run P w = .ok () w := by
  unfold eqGuard
  cases op <;> first | (simp; done) | (cases a <;> first | (exact absurd rfl h1) | (exact absurd rfl (h2 _)) | simp)

/-- 'x op y' of two numbers of one kind -/
theorem bin_int {op : BinOp} {t : TypeId} {j : IntKind} {a b : Int} {w : World} {v : Value}
    (h : match op with
      | .add => v = .int j (j.wrap (a + b))
      | .sub => v = .int j (j.wrap (a - b))
      | .mul => v = .int j (j.wrap (a * b))
      | .quo => b ≠ 0 ∧ v = .int j (j.wrap (a.tdiv b))
      | .rem => b ≠ 0 ∧ v = .int j (a.tmod b)
      | .and => v = .int j (andI j a b)
      | .or => v = .int j (orI j a b)
      | .xor => v = .int j (xorI j a b)
      | .andNot => v = .int j (clrI j a b)
      | .eql => v = .bool (a == b)
      | .neq => v = .bool (a != b)
      | .lss => v = .bool (decide (a < b))
      | .leq => v = .bool (decide (a ≤ b))
      | .gtr => v = .bool (decide (b < a))
      | .geq => v = .bool (decide (b ≤ a))
      | _ => False) : (binOp op t (.int j a) (.int j b)).run P w = .ok v w := by
  cases op <;> first
    | (simp only at h; subst h; simp [binOp, Op.intArith, Op.intBits, Op.intCmp, andI, orI, xorI, clrI]; done)
    | (simp only at h; subst h; simp [binOp, Op.intCmp, GT.gt, GE.ge]; done)
    | (simp only at h; obtain ⟨h0, rfl⟩ := h; simp [binOp, Op.intDiv, h0]; done)
    | exact h.elim

theorem bin_shift {op : BinOp} {t : TypeId} {j k : IntKind} {a b : Int} {w : World} {v : Value} (h0 : 0 ≤ b) (h1 : b < j.bits)
    (h : (op = .shl ∧ v = .int j (j.wrap (a * 2 ^ b.toNat))) ∨ (op = .shr ∧ v = .int j (a / 2 ^ b.toNat))) : (binOp op t (.int j a) (.int k b)).run P w = .ok v w := by
  have hb : ¬ b < 0 := by omega
  have hm : min b.toNat j.bits = b.toNat := min_bits h1 h0
  rcases h with ⟨rfl, rfl⟩ | ⟨rfl, rfl⟩
  · simp [binOp, Op.shift, hb, hm]
  · simp [binOp, Op.shift, hb, hm, fdiv_pow]

theorem equalIn_bool {d : Nat} {t : TypeId} {a b : Bool} {w : World} (hu : P.underlying t = some .bool) : (Op.equalIn (d + 1) t (.bool a) (.bool b)).run P w = .ok (a == b) w := by
  simp [Op.equalIn, underlying_run hu]
theorem equalIn_ptr {d : Nat} {t e : TypeId} {a : Option Addr} {w : World} (hu : P.underlying t = some (.pointer e)) : (Op.equalIn (d + 1) t (.pointer a) (.pointer none)).run P w = .ok a.isNone w := by
  cases a <;> simp [Op.equalIn, underlying_run hu]
theorem equalIn_slice {d : Nat} {t e : TypeId} {a : Option Addr} {n c n' c' : Nat} {w : World} (hu : P.underlying t = some (.slice e)) : (Op.equalIn (d + 1) t (.slice a n c) (.slice none n' c')).run P w = .ok a.isNone w := by
  cases a <;> simp [Op.equalIn, underlying_run hu]
theorem equalIn_map {d : Nat} {t k e : TypeId} {a : Option Nat} {w : World} (hu : P.underlying t = some (.map k e)) : (Op.equalIn (d + 1) t (.map a) (.map none)).run P w = .ok a.isNone w := by
  cases a <;> simp [Op.equalIn, underlying_run hu]
/-- the values that '==' and '!=' hand on to 'equal' -/
def plainEq : Value → Bool
  | .bool _ | .pointer _ | .slice _ _ _ | .map _ => true
  | _ => false
theorem binOp_eql {t : TypeId} {x y : Value} {w : World} {b : Bool} (hp : plainEq x = true) (hq : plainEq y = true) (h : (Op.equalIn (9999 + 1) t x y).run P w = .ok b w) :
    (binOp .eql t x y).run P w = .ok (.bool b) w := by
  have h' : (Op.equal t x y).run P w = .ok b w := h
  cases x <;> first | (cases hp; done) | skip
  all_goals (cases y <;> first | (cases hq; done) | (simp only [binOp]; simp [h']))
theorem binOp_neq {t : TypeId} {x y : Value} {w : World} {b : Bool} (hp : plainEq x = true) (hq : plainEq y = true) (h : (Op.equalIn (9999 + 1) t x y).run P w = .ok b w) :
    (binOp .neq t x y).run P w = .ok (.bool !b) w := by
  have h' : (Op.equal t x y).run P w = .ok b w := h
  cases x <;> first | (cases hp; done) | skip
  all_goals (cases y <;> first | (cases hq; done) | (simp only [binOp]; simp [h']))

theorem eqInts_len : ∀ {xs ys : List Value} {b : Bool}, eqInts xs ys = some b → xs.length = ys.length
  | [], [], _, _ => rfl
  | [], _ :: _, _, h => by simp [eqInts] at h
  | x :: xs, [], _, h => by cases x <;> simp [eqInts] at h
  | x :: xs, y :: ys, b, h => by
    cases x <;> cases y <;> simp only [eqInts] at h <;> try (cases h; done)
    split at h
    · split at h
      · rename_i c hc; simp [eqInts_len hc]
      · cases h
    · cases h

theorem part_int {t : TypeId} {k : IntKind} {cs : Array Value} {off : Nat} {v : Value} {w : World} (hu : P.underlying t = some (.int k)) (h : cs[off]? = some v) :
    (part t cs off).run P w = .ok v w := by
  have ha : isAggB P t = false := by simp [isAggB, hu]
  simp only [part, Sem.run_bind, isAgg_run hu, Result.andThen_ok, ha, Bool.false_eq_true, if_false, h, Sem.run_pure]


theorem vcBin_sound {op : BinOp} {t : TypeId} {x y : Value} {K : Value → Prop} (H : vcBin P op t x y K) : ∃ v, (∀ w : World, (binOp op t x y).run P w = .ok v w) ∧ K v := by
  unfold vcBin at H
  cases x with
  | string a =>
    cases y with
    | string b =>
      cases op <;> simp only at H <;> first | exact H.elim | skip
      case eql => exact ⟨_, fun _ => by simp [binOp, Op.stringOp, strEq], H⟩
      case neq => exact ⟨_, fun _ => by simp [binOp, Op.stringOp, strEq], H⟩
    | _ => exact H.elim
  | int j a =>
    cases y with
    | int k b =>
      have two : ∀ (z : Int → Int → Value), (if j = k then K (z a b) else False) → j = k ∧ K (z a b) := fun z h => by split at h; exact ⟨‹_›, h⟩; exact h.elim
      cases op <;> simp only at H
      case add => split at H; rename_i hj; subst hj; exact ⟨_, fun _ => bin_int rfl, arI_elim H⟩; exact H.elim
      case sub => split at H; rename_i hj; subst hj; exact ⟨_, fun _ => bin_int rfl, arI_elim H⟩; exact H.elim
      case mul => split at H; rename_i hj; subst hj; exact ⟨_, fun _ => bin_int rfl, arI_elim H⟩; exact H.elim
      case quo => split at H; rename_i hj; subst hj; exact ⟨_, fun _ => bin_int ⟨H.1, rfl⟩, arI_elim H.2⟩; exact H.elim
      case rem => split at H; rename_i hj; subst hj; exact ⟨_, fun _ => bin_int ⟨H.1, rfl⟩, H.2⟩; exact H.elim
      case shl => exact ⟨_, fun _ => bin_shift H.1 H.2.1 (.inl ⟨rfl, rfl⟩), arI_elim H.2.2⟩
      case shr => exact ⟨_, fun _ => bin_shift H.1 H.2.1 (.inr ⟨rfl, rfl⟩), H.2.2⟩
      all_goals (split at H; rename_i hj; subst hj; exact ⟨_, fun _ => bin_int rfl, H⟩; exact H.elim)
    | _ => exact H.elim
  | bool a =>
    cases y with
    | bool b =>
      cases op <;> simp only at H <;> first | exact H.elim | skip
      case eql => split at H; rename_i hu; exact ⟨_, fun _ => binOp_eql rfl rfl (equalIn_bool hu), H⟩; exact H.elim
      case neq => split at H; rename_i hu; exact ⟨_, fun _ => binOp_neq rfl rfl (equalIn_bool hu), H⟩; exact H.elim
    | _ => exact H.elim
  | pointer a =>
    cases y with
    | pointer b =>
      cases b with
      | some b => exact H.elim
      | none =>
        cases op <;> simp only at H <;> first | exact H.elim | skip
        case eql => split at H; rename_i hu; exact ⟨_, fun _ => binOp_eql rfl rfl (equalIn_ptr hu), H⟩; exact H.elim
        case neq => split at H; rename_i hu; exact ⟨_, fun _ => binOp_neq rfl rfl (equalIn_ptr hu), by rw [Option.not_isNone]; exact H⟩; exact H.elim
    | _ => exact H.elim
  | slice a n c =>
    cases y with
    | slice b _ _ =>
      cases b with
      | some b => exact H.elim
      | none =>
        cases op <;> simp only at H <;> first | exact H.elim | skip
        case eql => split at H; rename_i hu; exact ⟨_, fun _ => binOp_eql rfl rfl (equalIn_slice hu), H⟩; exact H.elim
        case neq => split at H; rename_i hu; exact ⟨_, fun _ => binOp_neq rfl rfl (equalIn_slice hu), by rw [Option.not_isNone]; exact H⟩; exact H.elim
    | _ => exact H.elim
  | map a =>
    cases y with
    | map b =>
      cases b with
      | some b => exact H.elim
      | none =>
        cases op <;> simp only at H <;> first | exact H.elim | skip
        case eql => split at H; rename_i hu; exact ⟨_, fun _ => binOp_eql rfl rfl (equalIn_map hu), H⟩; exact H.elim
        case neq => split at H; rename_i hu; exact ⟨_, fun _ => binOp_neq rfl rfl (equalIn_map hu), by rw [Option.not_isNone]; exact H⟩; exact H.elim
    | _ => exact H.elim
  | _ => exact H.elim

/-- what vcBin takes is never nil of an interface type, nor a struct -/
theorem vcBin_guard {op : BinOp} {t : TypeId} {x y : Value} {K : Value → Prop} (H : vcBin P op t x y K) : x ≠ .nilIface ∧ ∀ cs, x ≠ .agg cs := by
  unfold vcBin at H
  cases x <;> first | exact H.elim | exact ⟨(by intro h; cases h), (by intro cs h; cases h)⟩

theorem sliceBound_run {j : IntKind} {n : Int} {y : Nat} {code : BoundsCode} {w : World} (h0 : 0 ≤ n) (h1 : n ≤ y) : (Instr.sliceBound (.int j n) y code).run P w = .ok n.toNat w := by
  simp [Instr.sliceBound, asIntOf, h0, h1]

end
end Go.Hv

/- The heap conditions are enough: slices, maps, addresses. -/
namespace Go.Hv
section
variable {P : Program}

theorem elemOfSl_spec {t e : TypeId} (h : elemOfSl P t = some e) : P.underlying t = some (.slice e) ∧ (∃ i, P.info? e = some i) ∧ 0 < P.cellsOf e := by
  unfold elemOfSl at h
  split at h
  · rename_i e' hu
    cases hb : Nat.beq (P.cellsOf e') 0 with
    | true => rw [hb] at h; cases h
    | false =>
      rw [hb] at h
      simp only [cond_false, Option.some.injEq] at h
      subst h
      have hne : P.cellsOf e' ≠ 0 := fun h0 => by rw [h0] at hb; cases hb
      exact ⟨hu, cellsOf_info hne, by omega⟩
  · cases h

theorem vcSlice_sound {t : TypeId} {x : Value} {lo hi mx : Option Value} {K : Value → Prop} (H : vcSlice P t x lo hi mx K) :
    ∃ v, (∀ w : World, (Instr.sliceAt t x lo hi mx).run P w = .ok v w) ∧ K v := by
  unfold vcSlice at H
  split at H
  · exact H.elim
  rename_i e he
  obtain ⟨hu, ⟨i, hinfo⟩, _⟩ := elemOfSl_spec he
  have hsz : ∀ w, (sizeOf e).run P w = .ok (P.cellsOf e) w := fun w => sizeOf_run hinfo w
  obtain ⟨a, n, c, rfl, H0⟩ := asS_elim H
  clear H
  have main : ∀ (l h m : Nat) (v : Value), (∀ w : World, (Instr.sliceBounds true n c lo hi mx).run P w = .ok (l, h, m) w) → v = .slice (if m = l then a else a.map (·.add (l * P.cellsOf e))) (h - l) (m - l) →
      ∀ w : World, (Instr.sliceAt t (.slice a n c) lo hi mx).run P w = .ok v w := fun l h m v hb hv w => by
    subst hv
    simp [Instr.sliceAt, Instr.slice, underlying_run hu, hsz, hb]
  split at H0
  · exact ⟨_, main 0 n c _ (fun w => by simp [Instr.sliceBounds]) (by split <;> simp [Addr.add]), H0⟩
  · obtain ⟨j, h, rfl, h0, h1, hk⟩ := asI_elim H0
    refine ⟨_, main 0 h.toNat c _ ?_ (by split <;> simp [Addr.add]), hk⟩
    intro w
    simp [Instr.sliceBounds, sliceBound_run h0 h1]
  · obtain ⟨j, l, rfl, h0, h1, hk⟩ := asI_elim H0
    refine ⟨_, main l.toNat n c _ ?_ rfl, hk⟩
    intro w
    simp [Instr.sliceBounds, sliceBound_run h0 h1]
  · obtain ⟨j, l, rfl, H1⟩ := asI_elim H0
    obtain ⟨j', h, rfl, h0, h1, h2, hk⟩ := asI_elim H1
    refine ⟨_, main l.toNat h.toNat c _ ?_ rfl, hk⟩
    have hl : l ≤ (h.toNat : Nat) := by omega
    intro w
    simp [Instr.sliceBounds, sliceBound_run (Int.le_trans h0 h1) h2, sliceBound_run h0 hl]
  · obtain ⟨j, l, rfl, H1⟩ := asI_elim H0
    obtain ⟨j', h, rfl, H2⟩ := asI_elim H1
    obtain ⟨j'', m, rfl, h0, h1, h2, h3, hk⟩ := asI_elim H2
    refine ⟨_, main l.toNat h.toNat m.toNat _ ?_ rfl, hk⟩
    have hh : h ≤ (m.toNat : Nat) := by omega
    have hl : l ≤ (h.toNat : Nat) := by omega
    intro w
    simp [Instr.sliceBounds, sliceBound_run (Int.le_trans (Int.le_trans h0 h1) h2) h3, sliceBound_run (Int.le_trans h0 h1) hh, sliceBound_run h0 hl]
  · obtain ⟨j', h, rfl, H1⟩ := asI_elim H0
    obtain ⟨j'', m, rfl, h1, h2, h3, hk⟩ := asI_elim H1
    refine ⟨_, main 0 h.toNat m.toNat _ ?_ (by split <;> simp [Addr.add]), hk⟩
    have hh : h ≤ (m.toNat : Nat) := by omega
    intro w
    simp [Instr.sliceBounds, sliceBound_run (Int.le_trans h1 h2) h3, sliceBound_run h1 hh]
  · exact H0.elim

/-! ### Maps -/
theorem checkKey_int {b : Bool} {n : Nat} {k : TypeId} {j j' : IntKind} {z : Int} {w : World} (hu : P.underlying k = some (.int j)) : (Instr.checkKey b (n + 1) k (.int j' z)).run P w = .ok () w := by
  simp [Instr.checkKey, underlying_run hu]

theorem findNow_int {j : IntKind} {n : Int} : ∀ {es : List MapEntry} {i : Nat}, (∀ e ∈ es, ∃ a, e.key = .int j a) →
    Instr.findNow (.int j) (.int j n) es i = some ((mfind n es).map fun (k, v) => (i + k, v))
  | [], i, _ => rfl
  | e :: es, i, h => by
    obtain ⟨a, ha⟩ := h e (List.mem_cons_self ..)
    simp only [Instr.findNow, ha, Instr.sameNow, if_true, mfind]
    by_cases hn : n = a
    · subst hn; simp
    · have h1 : (n == a) = false := by simpa using hn
      have h2 : ¬ a = n := fun h => hn h.symm
      simp only [h1, h2, if_false]
      rw [findNow_int (es := es) (i := i + 1) (fun e he => h e (List.mem_cons_of_mem _ he))]
      cases mfind n es with
      | none => rfl
      | some x => simp; omega

theorem findKey_int {k : TypeId} {j : IntKind} {n : Int} {es : List MapEntry} {w : World} (hu : P.underlying k = some (.int j)) (h : ∀ e ∈ es, ∃ a, e.key = .int j a) :
    (Instr.findKey k (.int j n) es).run P w = .ok (mfind n es) w := by
  have hid : (mfind n es).map (fun x : Nat × Value => (0 + x.1, x.2)) = mfind n es := by cases mfind n es <;> simp
  have h2 : Instr.findNow (.int j) (.int j n) es 0 = some (mfind n es) := by
    rw [findNow_int h]
    exact congrArg some hid
  simp [Instr.findKey, underlying_run hu, h2]

theorem mapKE_spec {t e : TypeId} {j : IntKind} (h : mapKE P t = some (j, e)) : ∃ k, P.underlying t = some (.map k e) ∧ P.underlying k = some (.int j) := by
  unfold mapKE at h
  split at h
  · rename_i k e' hu
    split at h
    · rename_i j' hk
      simp only [Option.some.injEq, Prod.mk.injEq] at h
      obtain ⟨rfl, rfl⟩ := h
      exact ⟨k, hu, hk⟩
    · cases h
  · cases h

theorem getObj_run {w : World} {r : Nat} {o : Obj} (h : w.heap[r]? = some o) (hc : ∀ c t f, o ≠ .cells c t f) : (getObj r).run P w = .ok o w := by
  simp only [getObj, Sem.run, h]
theorem setObj_run {w : World} {r : Nat} {o o' : Obj} (h : w.heap[r]? = some o) (hc : ∀ c t f, o ≠ .cells c t f) : (setObj r o').run P w = .ok () { w with heap := w.heap.setIfInBounds r o' } := by
  simp only [setObj, Sem.run, h]

theorem vcLookup_sound {t : TypeId} {m i : Value} {ok : Bool} {h : Heap} {K : Value → Prop} (H : vcLookup P t m i ok h K) :
    ∃ v, (∀ w : World, w.heap = h → (Instr.lookup t m i ok).run P w = .ok v w) ∧ K v := by
  unfold vcLookup at H
  split at H
  · exact H.elim
  rename_i j e hke
  split at H
  · exact H.elim
  rename_i z hz
  obtain ⟨k, hu, hk⟩ := mapKE_spec hke
  obtain ⟨r, rfl, H1⟩ := asM_elim H
  obtain ⟨j', n, rfl, H2⟩ := asI_elim H1
  clear H H1
  split at H2
  case isFalse => exact H2.elim
  rename_i hj
  subst hj
  rcases optE_elim H2 with ⟨rfl, H⟩ | ⟨r, rfl, es, clk, hb, hik, H⟩
  · refine ⟨_, fun w hw => ?_, H⟩
    subst hw
    have h1 := checkKey_int (P := P) (b := true) (n := 9999) (j := j') (j' := j') (z := n) (w := w) hk
    have h2 := findKey_int (P := P) (n := n) (es := []) (w := w) hk (fun e he => by cases he)
    simp only [Instr.lookup, Sem.run_bind, underlying_run hu, Result.andThen_ok]
    simp [h1, h2, mfind, zeroValue_run hz]
    try (cases ok <;> rfl)
  · have H := withSh_elim H
    refine ⟨_, fun w hw => ?_, H⟩
    subst hw
    have hg := getObj_run (P := P) hb (fun c t f h => by cases h)
    have h1 := checkKey_int (P := P) (b := es.isEmpty) (n := 9999) (j := j') (j' := j') (z := n) (w := w) hk
    have h2 := findKey_int (P := P) (n := n) (es := es.toList) (w := w) hk hik.ok
    simp only [Instr.lookup, Sem.run_bind, underlying_run hu, Result.andThen_ok, hg]
    simp [h1, h2]
    unfold mget
    cases mfind n es.toList <;> cases ok <;> simp [zeroValue_run hz]

theorem keyThatStays_run {j : IntKind} {n : Int} {old : Value} {w : World} (h : old = .int j n) : (Instr.keyThatStays old (.int j n)).run P w = .ok (.int j n) w := by
  subst h
  have : Instr.sameBits 10000 (.int j n) (.int j n) = true := by rw [Instr.sameBits]; simp
  simp [Instr.keyThatStays, this]

theorem mfind_key {j : IntKind} {n : Int} : ∀ {es : List MapEntry} {i : Nat} {v : Value}, (∀ e ∈ es, ∃ a, e.key = .int j a) → mfind n es = some (i, v) → ∃ e, es[i]? = some e ∧ e.key = .int j n ∧ e.val = v
  | [], _, _, _, h => by cases h
  | e :: es, i, v, hk, h => by
    obtain ⟨a, ha⟩ := hk e (List.mem_cons_self ..)
    simp only [mfind, ha] at h
    split at h
    · rename_i hn
      simp only [Option.some.injEq, Prod.mk.injEq] at h
      obtain ⟨rfl, rfl⟩ := h
      exact ⟨e, rfl, by rw [ha, hn], rfl⟩
    · cases hm : mfind n es with
      | none => rw [hm] at h; cases h
      | some x =>
        obtain ⟨i', v'⟩ := x
        rw [hm] at h
        simp only [Option.map_some, Option.some.injEq, Prod.mk.injEq] at h
        obtain ⟨rfl, rfl⟩ := h
        obtain ⟨e', h1, h2, h3⟩ := mfind_key (fun e he => hk e (List.mem_cons_of_mem _ he)) hm
        exact ⟨e', by simpa using h1, h2, h3⟩

theorem vcMapUpdate_sound {t : TypeId} {m i v : Value} {w : World} {K : Heap → Prop} (H : vcMapUpdate P t m i v w.heap K) :
    ∃ w', (Instr.mapUpdate t m i v).run P w = .ok () w' ∧ K w'.heap ∧ Same w w' := by
  unfold vcMapUpdate at H
  split at H
  · exact H.elim
  rename_i j e hke
  obtain ⟨k, hu, hk⟩ := mapKE_spec hke
  obtain ⟨r, rfl, H1⟩ := asM_elim H
  obtain ⟨j', n, rfl, H2⟩ := asI_elim H1
  clear H H1
  split at H2
  case isFalse => exact H2.elim
  rename_i hj
  subst hj
  obtain ⟨r, rfl, es, clk, hb, hik, H⟩ := optE_some H2
  refine ⟨_, ?_, H, same_set _ hb (fun c t f h => by cases h) (fun c t f h => by unfold mput at h; split at h <;> cases h)⟩
  have hg := getObj_run (P := P) hb (fun c t f h => by cases h)
  have h1 := checkKey_int (P := P) (b := false) (n := 9999) (j := j') (j' := j') (z := n) (w := w) hk
  have h2 := findKey_int (P := P) (n := n) (es := es.toList) (w := w) hk hik.ok
  simp only [Instr.mapUpdate, Sem.run_bind, underlying_run hu, Result.andThen_ok, hg]
  simp only [h1, h2, Result.andThen_ok]
  unfold mput
  cases hm : mfind n es.toList with
  | none => exact setObj_run hb (fun c t f h => by cases h)
  | some x =>
    obtain ⟨i, v'⟩ := x
    obtain ⟨e', he1, he2, _⟩ := mfind_key hik.ok hm
    have he1' : es[i]? = some e' := by simpa using he1
    have h3 := keyThatStays_run (P := P) (j := j') (n := n) (old := ((es[i]?).map (·.key)).getD (.int j' n)) (w := w) (by rw [he1']; exact he2)
    simp only [h3, Sem.run_bind, Result.andThen_ok]
    exact setObj_run hb (fun c t f h => by cases h)

theorem vcDelete_sound {t : TypeId} {m i : Value} {tys : Array TypeId} {ty : TypeId} {w : World} {K : Value → Heap → Prop} (ht : tys[0]? = some t) (H : vcDelete P t m i w.heap K) :
    ∃ v w', (Builtin.delete_ tys ty #[m, i]).run P w = .ok v w' ∧ K v w'.heap ∧ Same w w' := by
  unfold vcDelete at H
  split at H
  · exact H.elim
  rename_i j e hke
  obtain ⟨k, hu, hk⟩ := mapKE_spec hke
  obtain ⟨r, rfl, H1⟩ := asM_elim H
  obtain ⟨j', n, rfl, H2⟩ := asI_elim H1
  clear H H1
  split at H2
  case isFalse => exact H2.elim
  rename_i hj
  subst hj
  rcases optE_elim H2 with ⟨rfl, H⟩ | ⟨r, rfl, es, clk, hb, hik, H⟩
  · refine ⟨_, _, ?_, H, Same.refl _⟩
    have h1 := checkKey_int (P := P) (b := true) (n := 9999) (j := j') (j' := j') (z := n) (w := w) hk
    simp [Builtin.delete_, ht, underlying_run hu, h1, undef]
  · refine ⟨_, _, ?_, H, same_set _ hb (fun c t f h => by cases h) (fun c t f h => by cases h)⟩
    have hg := getObj_run (P := P) hb (fun c t f h => by cases h)
    have h1 := checkKey_int (P := P) (b := es.isEmpty) (n := 9999) (j := j') (j' := j') (z := n) (w := w) hk
    have h2 := findKey_int (P := P) (n := n) (es := es.toList) (w := w) hk hik.ok
    have h3 := fun o' => setObj_run (P := P) (o' := o') hb (fun c t f h => by cases h)
    simp [Builtin.delete_, ht, underlying_run hu, hg, h1, h2, undef]
    unfold mdel
    cases mfind n es.toList with
    | none => simp [h3]
    | some x => simp [h3]

theorem vcLen_sound {t : TypeId} {x : Value} {tys : Array TypeId} {ty : TypeId} {h : Heap} {K : Value → Prop} (ht : tys[0]? = some t) (H : vcLen P t x h K) :
    ∃ v, (∀ w : World, w.heap = h → (Builtin.len_ tys ty #[x]).run P w = .ok v w) ∧ K v := by
  unfold vcLen at H
  split at H
  · split at H
    · rename_i e hu; exact ⟨_, fun _ _ => by simp [Builtin.len_, ht, underlying_run hu, goInt], H⟩
    · exact H.elim
  · split at H
    · rename_i hu; exact ⟨_, fun _ _ => by simp [Builtin.len_, ht, underlying_run hu, goInt], H⟩
    · exact H.elim
  · split at H
    · rename_i r k e hu
      rcases optE_elim H with ⟨rfl, H⟩ | ⟨r, rfl, es, clk, hb, H⟩
      · exact ⟨_, fun _ _ => by simp [Builtin.len_, ht, underlying_run hu, goInt], H⟩
      · refine ⟨_, fun w hw => ?_, H⟩
        subst hw
        have hg := getObj_run (P := P) hb (fun c t f h => by cases h)
        simp [Builtin.len_, ht, underlying_run hu, goInt, hg]
    · exact H.elim
  · exact H.elim

theorem indexAddr_slice {t e : TypeId} {p : Addr} {len c : Nat} {j : IntKind} {n : Int} {w : World} (he : P.underlying t = some (.slice e)) (hs : ∃ i, P.info? e = some i) (h0 : 0 ≤ n) (h1 : n < len) :
    (Instr.indexAt t (.slice (some p) len c) (.int j n)).run P w = .ok (.pointer (some (p.add (n.toNat * P.cellsOf e)))) w := by
  obtain ⟨i, hi⟩ := hs
  simp [Instr.indexAt, asIntOf, underlying_run he, h0, h1, sizeOf_run hi]
theorem indexAddr_array {t e : TypeId} {p : Addr} {len : Nat} {j : IntKind} {n : Int} {w : World} (he : P.underlying t = some (.array len e)) (hs : ∃ i, P.info? e = some i) (h0 : 0 ≤ n) (h1 : n < len) :
    (Instr.indexAt t (.pointer (some p)) (.int j n)).run P w = .ok (.pointer (some (p.add (n.toNat * P.cellsOf e)))) w := by
  obtain ⟨i, hi⟩ := hs
  simp [Instr.indexAt, asIntOf, underlying_run he, h0, h1, sizeOf_run hi, Instr.sureAddr]

theorem vcIndexAddr_sound {t : TypeId} {x i : Value} {K : Value → Prop} (H : vcIndexAddr P t x i K) : ∃ v, (∀ w : World, (Instr.indexAt t x i).run P w = .ok v w) ∧ K v := by
  unfold vcIndexAddr at H
  obtain ⟨j, n, rfl, H1⟩ := asI_elim H
  clear H
  split at H1
  · rename_i e he
    obtain ⟨hu, hi, _⟩ := elemOfSl_spec he
    obtain ⟨a, len, c, rfl, H2⟩ := asS_elim H1
    obtain ⟨p, rfl, h0, h1, hk⟩ := optE_some H2
    exact ⟨_, fun _ => indexAddr_slice hu hi h0 h1, hk⟩
  · split at H1
    · rename_i len e hu
      cases hb : Nat.beq (P.cellsOf e) 0 with
      | true => rw [hb] at H1; exact H1.elim
      | false =>
        rw [hb] at H1
        have hne : P.cellsOf e ≠ 0 := fun h0 => by rw [h0] at hb; cases hb
        obtain ⟨a, rfl, H2⟩ := asP_elim H1
        obtain ⟨p, rfl, h0, h1, hk⟩ := optE_some H2
        exact ⟨_, fun _ => indexAddr_array hu (cellsOf_info hne) h0 h1, hk⟩
    · exact H1.elim

theorem vcIndex_sound {t : TypeId} {x i : Value} {K : Value → Prop} (H : vcIndex P t x i K) : ∃ v, (∀ w : World, (Instr.index t x i).run P w = .ok v w) ∧ K v := by
  unfold vcIndex at H
  obtain ⟨j, n, rfl, H1⟩ := asI_elim H
  clear H
  split at H1
  · rename_i len e hu
    split at H1
    · rename_i cs
      obtain ⟨h0, h1, H2⟩ := H1
      cases ha : isAggB P e with
      | true =>
        rw [ha] at H2
        simp only [cond_true] at H2
        split at H2
        · rename_i l hl
          cases hn : Nat.beq l.length (P.cellsOf e) with
          | false => rw [hn] at H2; exact H2.elim
          | true =>
            rw [hn] at H2
            obtain ⟨vs, hvs, hk⟩ := exL_elim H2
            obtain ⟨d, hd⟩ := isAggB_some ha
            refine ⟨_, fun w => ?_, hk⟩
            have hex : (cs.extract (n.toNat * P.cellsOf e) (n.toNat * P.cellsOf e + P.cellsOf e)) = vs.toArray := by
              rw [← hvs]
              apply Array.ext'
              simp [Array.toList_extract, List.extract_eq_take_drop]
            simp [Instr.index, asIntOf, underlying_run hu, h0, h1, sizeOf_run' hd, part, isAgg_run hd, ha, hex]
        · exact H2.elim
      | false =>
        rw [ha] at H2
        simp only [cond_false] at H2
        split at H2
        · rename_i s hs
          obtain ⟨v, hc, h1', hk⟩ := ex1_elim H2
          obtain ⟨d, hd⟩ := sh1Of_some hs
          refine ⟨_, fun w => ?_, hk⟩
          simp [Instr.index, asIntOf, underlying_run hu, h0, h1, sizeOf_run' hd, part, isAgg_run hd, ha, h1', hc]
        · exact H2.elim
    · exact H1.elim
  · rename_i hu
    split at H1
    · rename_i s
      obtain ⟨h0, h1, b, hb, hk⟩ := H1
      exact ⟨_, fun _ => by simp [Instr.index, asIntOf, underlying_run hu, h0, hb], hk⟩
    · exact H1.elim
  · exact H1.elim
end
end Go.Hv

/- The heap conditions are enough: new memory, append, copy, maps that are ranged over. -/
namespace Go.Hv
section
variable {P : Program}

theorem beq_false {a b : Nat} (h : a ≠ b) : Nat.beq a b = false := by
  cases hb : Nat.beq a b with
  | false => rfl
  | true => exact absurd (Nat.eq_of_beq_eq_true hb) h

theorem getElem!_of_some {α : Type} [Inhabited α] {a : Array α} {i : Nat} {v : α} (h : a[i]? = some v) : a[i]! = v := by
  rw [getElem!_def, h]

theorem range_map_cells {zero : Array Value} : ∀ (n : Nat), 0 < zero.size →
    ((Array.range (n * zero.size)).map fun i => zero[i % zero.size]!).toList = (List.replicate n zero.toList).flatten := by
  intro n hz
  apply List.ext_getElem?
  intro i
  have hl : ((List.replicate n zero.toList).flatten).length = n * zero.size := by simp
  rcases Nat.lt_or_ge i (n * zero.size) with h | h
  · have h1 : ((Array.range (n * zero.size)).map fun i => zero[i % zero.size]!).toList[i]? = some (zero[i % zero.size]!) := by
      simp [h]
    rw [h1]
    have hm : i % zero.size < zero.size := Nat.mod_lt _ hz
    have hd : i / zero.size < n := Nat.div_lt_of_lt_mul (by rw [Nat.mul_comm]; exact h)
    have key : ∀ (n i : Nat), i < n * zero.size → (List.replicate n zero.toList).flatten[i]? = some (zero[i % zero.size]!) := by
      intro n
      induction n with
      | zero => intro i h; simp at h
      | succ n ih =>
        intro i h
        rw [List.replicate_succ, List.flatten_cons]
        rcases Nat.lt_or_ge i zero.size with h' | h'
        · rw [List.getElem?_append_left (by simpa using h'), Nat.mod_eq_of_lt h']
          simp [h']
        · rw [List.getElem?_append_right (by simpa using h')]
          simp only [Array.length_toList]
          rw [ih (i - zero.size) (by rw [Nat.succ_mul] at h; omega), Nat.mod_eq_sub_mod h']
    rw [key n i h]
  · rw [List.getElem?_eq_none (by simp; omega), List.getElem?_eq_none (by rw [hl]; omega)]

theorem vcMakeSlice_sound {t : TypeId} {l c : Value} {w : World} {K : Value → Heap → Prop} (H : vcMakeSlice P t l c w.heap K) :
    ∃ v w', (Instr.makeSlice t l c).run P w = .ok v w' ∧ K v w'.heap ∧ Same w w' := by
  unfold vcMakeSlice at H
  split at H
  · exact H.elim
  rename_i e he
  obtain ⟨hu, ⟨i, hi⟩, _⟩ := elemOfSl_spec he
  split at H
  · exact H.elim
  rename_i z hz
  obtain ⟨j, l, rfl, H1⟩ := asI_elim H
  obtain ⟨j', c, rfl, h0, h1, h2, h3, h4, h5, hk⟩ := asI_elim H1
  clear H H1
  have hb : P.bytesOf e = i.bytes := by simp [Program.bytesOf, hi]
  have hs : P.cellsOf e = i.size := by simp [Program.cellsOf, hi]
  have hz' : i.zero = some z := by unfold zeroOf at hz; rw [hi] at hz; exact hz
  have hbc : (i.bytes : Int) * c ≤ 281474976710656 := by
    rw [hb] at h3
    have : (i.bytes : Int) * c ≤ 256 * 1099511627776 := Int.mul_le_mul (by omega) h2 (by omega) (by decide)
    omega
  have hr := run_make (P := P) w t e i z hu hi hz' j j' l c h0 h1 hbc (by omega)
  have hcells : madeCells z.cells (c.toNat * i.size) = ((List.replicate c.toNat z.cells.toList).flatten).toArray := by
    apply Array.ext'
    unfold madeCells
    rw [← hs, ← h4, range_map_cells _ h5]
  rw [hcells] at hr
  exact ⟨_, _, hr, hk, same_push _ _ rfl⟩

theorem loadCells_run {w : World} {p : Addr} {n : Nat} {vs : List Value} (h : cellsH w.heap p n = some vs) : (loadCells p n).run P w = .ok vs.toArray w := by
  obtain ⟨hl, hc⟩ := cellsH_spec h
  have := loadCellsFrom_run (P := P) (w := w) (p := p) (vs := vs) (i := 0) (acc := #[]) (fun j v hj => by simpa using hc j v hj)
  rw [hl] at this
  simpa [loadCells] using this

theorem firstCells_run {w : World} {size : Nat} {a : Option Addr} {len n c : Nat} {vs : List Value} (h : cellsOpt w.heap a (n * size) = some vs) :
    (Builtin.firstCells size n (.slice a len c)).run P w = .ok vs.toArray w := by
  cases a with
  | none =>
    simp only [cellsOpt, Option.some.injEq] at h
    subst h
    simp [Builtin.firstCells]
  | some p => simp only [Builtin.firstCells]; exact loadCells_run h

theorem growBy_le (newLen : Nat) : ∀ (r c : Nat), Builtin.growBy newLen r c ≤ c + newLen + (newLen + 768) / 4
  | 0, c => by simp [Builtin.growBy]; omega
  | r + 1, c => by
    unfold Builtin.growBy
    split
    · omega
    · rename_i h
      have key : ∀ (r c : Nat), c ≤ newLen + (newLen + 768) / 4 → Builtin.growBy newLen r c ≤ newLen + (newLen + 768) / 4 := by
        intro r
        induction r with
        | zero => intro c h; simpa [Builtin.growBy] using h
        | succ r ih =>
          intro c h
          unfold Builtin.growBy
          split
          · exact h
          · exact ih _ (by omega)
      have := key r (c + (c + 768) / 4) (by omega)
      omega

theorem nextslicecap_le (n o : Nat) : Builtin.nextslicecap n o ≤ 2 * n + 2 * o + 1024 := by
  unfold Builtin.nextslicecap
  split
  · omega
  · split
    · omega
    · have := growBy_le n 4 o
      omega

theorem zeroCells_run {z : Array Value} {n : Nat} (hz : 0 < z.size) : (Builtin.zeroCells z n).toList = (List.replicate n z.toList).flatten := by
  unfold Builtin.zeroCells
  exact range_map_cells n hz

theorem appendCap_cut (need old : Nat) (e : TypeId) (t : Nat) : need ≤ (Question.appendCap need old e).cut t := by
  simp [Question.cut]

theorem vcAppend_sound {t u : TypeId} {s x : Value} {tys : Array TypeId} {ty : TypeId} {w : World} {K : Value → Heap → Prop} (ht : tys[0]? = some t) (hu' : tys[1]? = some u) (hsl : (elemOfSl P u).isSome = true)
    (H : vcAppend P t s x w.heap K) : ∃ v w', (Builtin.append_ tys ty #[s, x]).run P w = .ok v w' ∧ K v w'.heap ∧ Same w w' := by
  unfold vcAppend at H
  split at H
  · exact H.elim
  rename_i e he
  obtain ⟨hu, ⟨i, hi⟩, hpos⟩ := elemOfSl_spec he
  split at H
  · exact H.elim
  rename_i z hz
  obtain ⟨sa, sn, sc, rfl, H1⟩ := asS_elim H
  obtain ⟨xa, xn, xc, rfl, hok, hzs, hk⟩ := asS_elim H1
  clear H H1
  obtain ⟨⟨os, hos⟩, hsnil⟩ := hok.old
  obtain ⟨ns, hns, hxnil, hone⟩ := hok.new
  have hfit := hok.fits
  have hbpos := hok.pos
  obtain ⟨e', he'⟩ := Option.isSome_iff_exists.1 hsl
  obtain ⟨hu2, _, _⟩ := elemOfSl_spec he'
  have hb : P.bytesOf e = i.bytes := by simp [Program.bytesOf, hi]
  have hlen : ns.length = xn * P.cellsOf e := by
    cases xa with
    | none => simp only [cellsOpt, Option.some.injEq] at hns; subst hns; simp [hxnil rfl]
    | some p => exact (cellsH_spec hns).1
  have hzs' : ∀ w : World, w.heap = w.heap → True := fun _ _ => trivial
  by_cases hc : sn + xn ≤ sc
  · -- in place
    have hnew := firstCells_run (P := P) (len := xn) (c := xc) hns
    cases sa with
    | none =>
      obtain ⟨h1, h2⟩ := hsnil rfl
      subst h1 h2
      refine ⟨.slice none (0 + xn) 0, w, ?_, hk ⟨none, 0 + xn, 0⟩ w.heap ⟨_, _, hos, hns, .inl ⟨hc, rfl, rfl⟩⟩, Same.refl w⟩
      have hx0 : xn = 0 := by omega
      subst hx0
      simp [Builtin.append_, ht, hu', underlying_run hu, underlying_run hu2, sizeOf_run hi, Builtin.lenOf, hnew]
    | some p =>
      have hst := hok.room p rfl hc
      obtain ⟨w', hr, hh, hs⟩ := storeCells_run (P := P) (p := p.add (sn * P.cellsOf e)) (vs := ns) (i := 0) (w := w) hst (by omega) hone
      refine ⟨.slice (some p) (sn + xn) sc, w', ?_, hk ⟨some p, sn + xn, sc⟩ w'.heap ⟨_, _, hos, hns, .inl ⟨hc, rfl, hh⟩⟩, hs⟩
      simp [Builtin.append_, ht, hu', underlying_run hu, underlying_run hu2, sizeOf_run hi, Builtin.lenOf, hc, hnew, hr]
  · -- grown
    have hroom : ¬ (281474976710656 < Builtin.nextslicecap (sn + xn) sc * i.bytes) := by
      rw [hb] at hfit
      have h1 := Nat.mul_le_mul_right i.bytes (Nat.le_trans (nextslicecap_le (sn + xn) sc) (show 2 * (sn + xn) + 2 * sc + 1024 ≤ 4 * (sn + xn) + 1024 by omega))
      omega
    have hpos2 : 0 < z.cells.size := by omega
    have hbytes : ¬ i.bytes = 0 := by omega
    obtain ⟨c', hcd⟩ : ∃ c', c' = (Question.appendCap (sn + xn) sc e).cut (w.tape w.drawn (Question.appendCap (sn + xn) sc e)) := ⟨_, rfl⟩
    have hc' : sn + xn ≤ c' := by rw [hcd]; exact appendCap_cut ..
    have hold1 : (Builtin.firstCells (P.cellsOf e) sn (.slice sa sn sc)).run P w.drew = .ok os.toArray w.drew := firstCells_run (w := w.drew) hos
    have hnew1 : (Builtin.firstCells (P.cellsOf e) xn (.slice xa xn xc)).run P w.drew = .ok ns.toArray w.drew := firstCells_run (w := w.drew) hns
    have hz1 : (zeroValue e).run P w.drew = .ok z w.drew := zeroValue_run hz w.drew
    have hf : (Question.appendCap (sn + xn) sc e).forced = false := rfl
    have hcells : (os.toArray ++ (ns.toArray ++ Builtin.zeroCells z.cells (c' - (sn + xn)))) = (os ++ ns ++ (List.replicate (c' - (sn + xn)) z.cells.toList).flatten).toArray := by
      apply Array.ext'
      simp [zeroCells_run hpos2]
    refine ⟨.slice (some ⟨w.heap.size, 0, none⟩) (sn + xn) c', w.drew.alloc (.cells (os ++ ns ++ (List.replicate (c' - (sn + xn)) z.cells.toList).flatten).toArray e (0, 0)), ?_, ?_, (Same.trans (b := w.drew) ⟨rfl, rfl, rfl, fun _ => rfl⟩ (same_push w.drew _ rfl))⟩
    · rw [← hcells]
      have hc0 : ¬ (sn + xn ≤ sc) := hc
      simp only [Builtin.append_, List.getElem?_toArray, ht, hu', List.getElem?_cons_zero, List.getElem?_cons_succ, Sem.run_bind, underlying_run hu, Result.andThen_ok, sizeOf_run hi, underlying_run hu2, Sem.run_pure]
      simp [Builtin.lenOf, hc0, typeInfo_run hi, hroom, hbytes, hf, hold1, hnew1, hz1, newRow]
      rw [← hcd]
      exact ⟨rfl, rfl⟩
    · exact hk ⟨some ⟨w.heap.size, 0, none⟩, sn + xn, c'⟩ _ ⟨_, _, hos, hns, .inr ⟨by omega, c', hc', rfl, rfl⟩⟩

theorem vcCopy_sound {t : TypeId} {d s : Value} {tys : Array TypeId} {ty : TypeId} {w : World} {K : Value → Heap → Prop} (ht : tys[0]? = some t)
    (H : vcCopy P t d s w.heap K) : ∃ v w', (Builtin.copy_ tys ty #[d, s]).run P w = .ok v w' ∧ K v w'.heap ∧ Same w w' := by
  unfold vcCopy at H
  split at H
  · exact H.elim
  rename_i e he
  obtain ⟨hu, ⟨i, hi⟩, hpos⟩ := elemOfSl_spec he
  obtain ⟨da, dn, dc, rfl, H1⟩ := asS_elim H
  obtain ⟨sa, sn, sc, rfl, H2⟩ := asS_elim H1
  clear H H1
  rcases optE_elim H2 with ⟨rfl, h0, hs0, hk⟩ | ⟨p, rfl, H⟩
  · subst h0
    refine ⟨_, w, ?_, hk, Same.refl w⟩
    have hnew : (Builtin.firstCells (P.cellsOf e) 0 (.slice sa sn sc)).run P w = .ok #[] w := by
      cases sa <;> simp [Builtin.firstCells, loadCells, loadCellsFrom]
    simp [Builtin.copy_, ht, underlying_run hu, Builtin.lenOf, sizeOf_run hi, hnew, goInt]
  · rcases optE_elim H with ⟨rfl, h0, hk⟩ | ⟨q, rfl, vs, hvs, hone, hst, hk⟩
    · subst h0
      refine ⟨_, w, ?_, hk, Same.refl w⟩
      simp [Builtin.copy_, ht, underlying_run hu, Builtin.lenOf, sizeOf_run hi, Builtin.firstCells, goInt, storeCells]
    · have hl := (cellsH_spec hvs).1
      obtain ⟨w', hr, hh, hs⟩ := storeCells_run (P := P) (p := p) (vs := vs) (i := 0) (w := w) hst (by omega) hone
      have hnew := firstCells_run (P := P) (w := w) (a := some q) (len := sn) (c := sc) hvs
      refine ⟨_, w', ?_, by rw [hh]; exact hk, hs⟩
      have hm : Nat.min sn dn = min sn dn := rfl
      simp only [Builtin.copy_, List.getElem?_toArray, ht, List.getElem?_cons_zero, List.getElem?_cons_succ, Sem.run_bind, underlying_run hu, Result.andThen_ok, sizeOf_run hi, Builtin.lenOf, Sem.run_pure, hm, hnew, hr, goInt]

theorem vcClear_sound {t : TypeId} {x : Value} {tys : Array TypeId} {ty : TypeId} {w : World} {K : Value → Heap → Prop} (ht : tys[0]? = some t) (hex : ∃ d, P.underlying t = some d)
    (H : vcClear P t x w.heap K) : ∃ v w', (Builtin.clear_ tys ty #[x]).run P w = .ok v w' ∧ K v w'.heap ∧ Same w w' := by
  obtain ⟨d, hd⟩ := hex
  unfold vcClear at H
  split at H
  · rcases optE_elim H with ⟨rfl, hk⟩ | ⟨r, rfl, es, clk, hb, hk⟩
    · exact ⟨_, w, by simp [Builtin.clear_, ht, underlying_run hd, undef], hk, Same.refl w⟩
    · have hg := getObj_run (P := P) hb (fun c t f h => by cases h)
      have h3 := fun o' => setObj_run (P := P) (o' := o') hb (fun c t f h => by cases h)
      exact ⟨_, _, by simp [Builtin.clear_, ht, underlying_run hd, undef, hg, h3], hk, same_set _ hb (fun c t f h => by cases h) (fun c t f h => by cases h)⟩
  · rename_i a n c
    split at H
    · exact H.elim
    rename_i e he
    obtain ⟨hu, ⟨i, hi⟩, hpos⟩ := elemOfSl_spec he
    split at H
    · exact H.elim
    rename_i z hz
    rcases optE_elim H with ⟨rfl, h0, hk⟩ | ⟨p, rfl, hzs, hone, hst, hk⟩
    · exact ⟨_, w, by simp [Builtin.clear_, ht, underlying_run hu, undef], hk, Same.refl w⟩
    · have hpos2 : 0 < z.cells.size := by omega
      obtain ⟨w', hr, hh, hs⟩ := storeCells_run (P := P) (p := p) (vs := (List.replicate n z.cells.toList).flatten) (i := 0) (w := w) hst (by simp [hzs]) (fun v hv => by
        simp only [List.mem_flatten, List.mem_replicate] at hv
        obtain ⟨l, ⟨_, rfl⟩, hv⟩ := hv
        exact List.all_eq_true.1 hone v hv)
      by_cases hn : n = 0
      · subst hn
        refine ⟨undef, w, by simp [Builtin.clear_, ht, underlying_run hu, undef], ?_, Same.refl w⟩
        simpa [putsH] using hk
      · refine ⟨_, w', ?_, by rw [hh]; exact hk, hs⟩
        rw [← zeroCells_run hpos2] at hr
        cases n with
        | zero => exact absurd rfl hn
        | succ n => simp [Builtin.clear_, ht, underlying_run hu, undef, zeroValue_run hz, hr]
  · exact H.elim

theorem vcMin_sound {f : Int → Int → Int} {g : Value → Value → Sem Value} (hg : ∀ j a b w, (g (.int j a) (.int j b)).run P w = .ok (.int j (f a b)) w) {K : Value → Prop} {j : IntKind} :
    ∀ {l : List Value} {a : Int}, vcMinGo f j K l a → ∃ v, (∀ w : World, (l.foldlM g (.int j a)).run P w = .ok v w) ∧ K v
  | [], a, H => ⟨_, fun _ => by simp, H⟩
  | x :: l, a, H => by
    cases x with
    | int k b =>
      simp only [vcMinGo] at H
      split at H
      · rename_i hj
        subst hj
        obtain ⟨v, hr, hk⟩ := vcMin_sound hg (l := l) H
        exact ⟨v, fun w => by simp [List.foldlM_cons, hg, hr w], hk⟩
      · exact H.elim
    | _ => exact H.elim
end
end Go.Hv

/- The heap conditions are enough: any operation. -/
namespace Go.Hv
section
variable {P : Program}

theorem fieldOff_spec {t : TypeId} {i k : Nat} (h : fieldOff P t i = some k) : ∃ fs f, P.underlying t = some (.struct fs) ∧ fs[i]? = some f ∧ P.cellsOf f.type ≠ 0 ∧ f.offset = k := by
  unfold fieldOff at h
  split at h
  · rename_i fs hu
    split at h
    · rename_i f hf
      cases hb : Nat.beq (P.cellsOf f.type) 0 with
      | true => rw [hb] at h; cases h
      | false =>
        rw [hb] at h
        simp only [cond_false, Option.some.injEq] at h
        exact ⟨fs, f, hu, hf, (fun h0 => by rw [h0] at hb; cases hb), h⟩
    · cases h
  · cases h

theorem fieldPart_spec {t : TypeId} {cs : Array Value} {i : Nat} {u : Value} {w : World} (h : fieldPart P t cs.toList i = some u) :
    (Instr.field t (.agg cs) i).run P w = .ok u w := by
  unfold fieldPart at h
  split at h
  · rename_i fs hu
    split at h
    · rename_i f hf
      cases ha : isAggB P f.type with
      | true =>
        obtain ⟨d, hd⟩ := isAggB_some ha
        rw [ha] at h
        simp only [cond_true, Option.some.injEq] at h
        subst h
        have hx : cs.extract f.offset (f.offset + P.cellsOf f.type) = ((cs.toList.drop f.offset).take (P.cellsOf f.type)).toArray := by
          apply Array.ext'
          simp [Array.toList_extract, List.extract_eq_take_drop]
        simp [Instr.field, underlying_run hu, hf, asAgg, part, isAgg_run hd, ha, sizeOf_run' hd, hx]
      | false =>
        rw [ha] at h
        simp only [cond_false] at h
        split at h
        · rename_i d hd
          have hx : cs[f.offset]? = some u := by simpa using h
          simp [Instr.field, underlying_run hu, hf, asAgg, part, isAgg_run hd, ha, hx]
        · cases h
    · cases h
  · cases h

theorem nextOK_run {r : Nat} {p : Addr} {ty : TypeId} {w : World} (hp : p.off = 0) (hr : p.block = r) (h : NextOK w.heap r) (K : Value → Heap → Prop)
    (h1 : ∀ k v h', NextOne w.heap r k v h' → K (.tuple #[.bool true, k, v]) h') (h2 : NextEnd w.heap r → K (.tuple #[.bool false]) w.heap) :
    ∃ v w', (Instr.next (.pointer (some p)) false ty).run P w = .ok v w' ∧ K v w'.heap ∧ Same w w' := by
  obtain ⟨m, since, seen, last, es, clk, hb, hm, hold, hne⟩ := h.ok
  obtain ⟨pb, po, ps⟩ := p
  simp only at hp hr
  subst hp hr
  have hg := getObj_run (P := P) hb (fun c t f h => by cases h)
  have hg2 := getObj_run (P := P) hm (fun c t f h => by cases h)
  have h3 := fun o' => setObj_run (P := P) (o' := o') hb (fun c t f h => by cases h)
  have hstale : (!seen.isEmpty && !es.isEmpty && es.all (fun e => decide (e.born ≥ last))) = false := by
    cases he : es.isEmpty with
    | true => simp
    | false =>
      have hne : es ≠ #[] := by intro h; rw [h] at he; cases he
      obtain ⟨e, he⟩ := Array.exists_mem_of_ne_empty es hne
      have h5 := (hold e (by simpa using he)).2
      have : es.all (fun e => decide (e.born ≥ last)) = false := by
        cases ha : es.all (fun e => decide (e.born ≥ last)) with
        | false => rfl
        | true =>
          have := (Array.all_eq_true_iff_forall_mem.1 ha) e he
          simp at this
          omega
      simp [this]
  have hnew : (es.filter fun e => !seen.contains e.born).filter (fun e => decide (e.born ≥ since)) = #[] := by
    rw [Array.filter_eq_empty_iff]
    intro e he
    have := (hold e (by simpa using (Array.mem_filter.1 he).1)).1
    simp; omega
  have holdf : (es.filter fun e => !seen.contains e.born).filter (fun e => decide (e.born < since)) = es.filter fun e => !seen.contains e.born := by
    rw [Array.filter_eq_self]
    intro e he
    have := (hold e (by simpa using (Array.mem_filter.1 he).1)).1
    simp; omega
  generalize hL : (es.filter fun e => !seen.contains e.born) = L at hnew holdf
  have hmemL : ∀ e ∈ L, e ∈ es.toList ∧ e.born ∉ seen.toList := fun e he => by
    rw [← hL] at he
    have := Array.mem_filter.1 he
    exact ⟨by simpa using this.1, by simpa using this.2⟩
  by_cases hemp : L = #[]
  · refine ⟨.tuple #[.bool false], w, ?_, h2 ⟨m, since, seen, last, es, clk, hb, hm, fun e he => ?_⟩, Same.refl w⟩
    · simp only [Instr.next, Sem.run_bind, hg, Result.andThen_ok, hg2, hstale, Bool.false_eq_true, if_false, hL, hnew, holdf]
      simp [hemp, Question.forced]
    · have : e ∉ L := by rw [hemp]; simp
      rw [← hL] at this
      have h4 : ¬ (e ∈ es ∧ (!seen.contains e.born) = true) := fun h => this (Array.mem_filter.2 h)
      have h5 : e ∈ es := by simpa using he
      have h6 : ¬ (!seen.contains e.born) = true := fun h => h4 ⟨h5, h⟩
      simpa using h6
  · have hpos : 0 < L.size := by
      rcases Nat.eq_zero_or_pos L.size with h | h
      · exact absurd (Array.eq_empty_of_size_eq_zero h) hemp
      · exact h
    -- the index that is chosen
    have hch : ∃ (k : Nat) (w1 : World), (choose (.mapNext L.size)).run P w = .ok k w1 ∧ k < L.size ∧ w1.heap = w.heap ∧ Same w w1 := by
      by_cases hf : L.size ≤ 1
      · exact ⟨0, w, by simp [run_choose, Question.forced, hf], hpos, rfl, Same.refl w⟩
      · exact ⟨_, w.drew, by simp [run_choose, Question.forced, hf, -World.drew_eq]; exact ⟨rfl, rfl⟩, by simp only [Question.cut]; exact Nat.mod_lt _ hpos, rfl, ⟨rfl, rfl, rfl, fun _ => rfl⟩⟩
    obtain ⟨k, w1, hrun, hk, hheap, hsame⟩ := hch
    have h3' := fun o' => setObj_run (P := P) (w := w1) (r := pb) (o' := o') (by rw [hheap]; exact hb) (fun c t f h => by cases h)
    have hmem := hmemL L[k] (Array.getElem_mem hk)
    refine ⟨.tuple #[.bool true, L[k].key, L[k].val], { w1 with heap := w1.heap.setIfInBounds pb (.mapIter (some m) since (seen.push L[k].born) clk) }, ?_,
      h1 _ _ _ ⟨m, since, seen, last, es, clk, L[k], hb, hm, hmem.1, hmem.2, rfl, rfl, by rw [hheap]⟩, hsame.trans (same_set w1 (by rw [hheap]; exact hb) (fun c t f h => by cases h) (fun c t f h => by cases h))⟩
    have hie : L.isEmpty = false := by simpa using hemp
    have hsz : ((if L.isEmpty = true then #[none] else #[]) ++ Array.map some (L ++ #[]) : Array (Option MapEntry)).size = L.size := by simp [hie]
    have hget : ((if L.isEmpty = true then #[none] else #[]) ++ Array.map some (L ++ #[]) : Array (Option MapEntry))[k]? = some (some L[k]) := by
      simp [hie, hk]
    simp only [Instr.next, Sem.run_bind, hg, Result.andThen_ok, hg2, hstale, Bool.false_eq_true, if_false, hL, hnew, holdf, hsz, hrun, hget, h3', Sem.run_pure]

theorem exRes_some {ty : TypeId} {k : Value → Prop} (h : exRes P ty k) : ∃ v, k v := exRes_elim h

theorem call_some {c : Call} {ty : TypeId} {env : Env} {h : Heap} {K : Value → Heap → Prop} (H : vcCall P ty c env h K) : ∃ args, evs env c.args.toList = some args := by
  unfold vcCall at H
  split at H
  · exact H.elim
  · rename_i args ha; exact ⟨args, ha⟩

theorem elemOfSl_under {t e : TypeId} (h : elemOfSl P t = some e) : ∃ d, P.underlying t = some d := ⟨_, (elemOfSl_spec h).1⟩

theorem builtin_run {b : Builtin} {tys : Array TypeId} {ty : TypeId} {cs : Array Bool} {args : Array Value} {w w' : World} {v : Value} {s : Sem Value} (hb : builtin b tys ty cs args = (do pure (.value (← s)))) (hs : s.run P w = .ok v w') :
    (builtin b tys ty cs args).run P w = .ok (.value v) w' := by
  rw [hb]; simp [hs]

theorem min2_int {j : IntKind} {a b : Int} {w : World} : (Builtin.min2 (.int j a) (.int j b)).run P w = .ok (.int j (minI a b)) w := by simp [Builtin.min2, minI]
theorem max2_int {j : IntKind} {a b : Int} {w : World} : (Builtin.max2 (.int j a) (.int j b)).run P w = .ok (.int j (maxI a b)) w := by simp [Builtin.max2, maxI]

theorem vcCall_sound {c : Call} {ty : TypeId} {env : Env} {ρ : Operand → Value} (hρ : ∀ x v, ev env x = some v → ρ x = v) {w : World} {K : Value → Heap → Prop} (H : vcCall P ty c env w.heap K) :
    OpOK P K w ((do let d ← resolve ρ c ty; invoke d.target d.args : Sem Next).run P w) := by
  obtain ⟨args, ha⟩ := call_some H
  have hargs := evs_arr hρ ha
  unfold vcCall at H
  rw [ha] at H
  simp only at H
  have hval : ∀ (x : Operand) (fv : Value), c.callee = .value x → ρ x = fv → HV P fv args.toArray w.heap (fun v h' => exRes P ty fun u => v = u ∧ K u h') →
      OpOK P K w ((do let d ← resolve ρ c ty; invoke d.target d.args : Sem Next).run P w) := fun x fv hc hfv HH => by
    rw [resolve_value hc, hargs, hfv]
    exact (HH.ex w rfl).mono fun v h hx => exRes_call hx
  split at H
  · -- a function by its name
    rename_i f hc
    refine hval (.func f) (.func (.func f) #[] #[]) hc (hρ _ _ rfl) ?_
    exact HV.of_func (first := #[]) (cap := #[]) (by simpa using H)
  · rename_i x _ hc
    obtain ⟨fv, hfv, hh⟩ := wV_elim H
    exact hval x fv hc (hρ _ _ hfv) hh
  · rename_i x name hc
    obtain ⟨r, hr, hh⟩ := wV_elim H
    obtain ⟨f, as, he, hcall⟩ := hh.ex
    rw [resolve_invoke hc, hargs, hρ _ _ hr]
    have h1 : (do let d ← (pure { target := Target.fn (.method name) #[], args := #[r] ++ args.toArray } : Sem Deferred); invoke d.target d.args : Sem Next).run P w = (callMethod r name args.toArray).run P w := by
      simp [invoke]
    rw [h1, he w rfl, hcall.enter]
    exact hcall.opOK fun v h hx => exRes_call hx
  · rename_i b hc
    have hr : ∀ (s : Sem Value) (v : Value) (w' : World), (∀ cs, builtin b c.argTypes ty cs args.toArray = (do pure (.value (← s)))) → s.run P w = .ok v w' → K v w'.heap → Same w w' →
        OpOK P K w ((do let d ← resolve ρ c ty; invoke d.target d.args : Sem Next).run P w) := fun s v w' hb hs hk hsame => by
      rw [resolve_builtin hc, hargs]
      simp only [Sem.run_bind, Sem.run_pure, Result.andThen_ok, invoke]
      rw [builtin_run (P := P) (hb _) hs]
      exact ⟨hk, hsame⟩
    have hty : ∀ {l : List TypeId} {t : TypeId} {i : Nat}, c.argTypes.toList = l → l[i]? = some t → c.argTypes[i]? = some t := fun hl hi => by rw [← hl] at hi; simpa using hi
    split at H
    · rename_i x t hat
      obtain ⟨v, hs, hk⟩ := vcLen_sound (P := P) (ty := ty) (hty hat rfl) H
      exact hr _ v w (fun _ => rfl) (hs w rfl) hk (Same.refl w)
    · rename_i x t hat
      split at H
      · rename_i e he
        obtain ⟨a, n, cc, rfl, hk⟩ := asS_elim H
        refine hr (Builtin.cap_ c.argTypes ty _) _ w (fun _ => rfl) ?_ hk (Same.refl w)
        have := hty hat (i := 0) rfl
        simp [Builtin.cap_, this, underlying_run (elemOfSl_spec he).1, goInt]
      · exact H.elim
    · rename_i s x t u hat
      split at H
      · rename_i e he
        obtain ⟨v, w', hs, hk, hsame⟩ := vcAppend_sound (P := P) (ty := ty) (hty hat (i := 0) rfl) (hty hat (i := 1) rfl) (by rw [he]; rfl) H
        exact hr _ v w' (fun _ => rfl) hs hk hsame
      · exact H.elim
    · rename_i d s t _ hat
      obtain ⟨v, w', hs, hk, hsame⟩ := vcCopy_sound (P := P) (ty := ty) (hty hat (i := 0) rfl) H
      exact hr _ v w' (fun _ => rfl) hs hk hsame
    · rename_i x t hat
      split at H
      · rename_i d hd
        obtain ⟨v, w', hs, hk, hsame⟩ := vcClear_sound (P := P) (ty := ty) (hty hat (i := 0) rfl) ⟨d, hd⟩ H
        exact hr _ v w' (fun _ => rfl) hs hk hsame
      · exact H.elim
    · rename_i m i t _ hat
      obtain ⟨v, w', hs, hk, hsame⟩ := vcDelete_sound (P := P) (ty := ty) (hty hat (i := 0) rfl) H
      exact hr _ v w' (fun _ => rfl) hs hk hsame
    · rename_i l _
      unfold vcMin at H
      split at H
      · rename_i j a l
        obtain ⟨v, hs, hk⟩ := vcMin_sound (P := P) (g := Builtin.min2) (fun j a b w => min2_int) H
        exact hr (Builtin.min_ c.argTypes ty _) v w (fun _ => rfl) (by simpa [Builtin.min_] using hs w) hk (Same.refl w)
      · exact H.elim
    · rename_i l _
      unfold vcMin at H
      split at H
      · rename_i j a l
        obtain ⟨v, hs, hk⟩ := vcMin_sound (P := P) (g := Builtin.max2) (fun j a b w => max2_int) H
        exact hr (Builtin.max_ c.argTypes ty _) v w (fun _ => rfl) (by simpa [Builtin.max_] using hs w) hk (Same.refl w)
      · exact H.elim
    · exact H.elim
end
end Go.Hv

/- The heap conditions are enough: any operation, joined. -/
namespace Go.Hv
section
variable {P : Program}

theorem convert_str {w : World} {s d e : TypeId} {a : Option Addr} {n c : Nat} {t : ByteArray} (hs : P.underlying s = some (.slice e)) (he : P.underlying e = some (.int .u8)) (hd : P.underlying d = some .string) (h : bytesAt w.heap a n t) :
    (convert s d (.slice a n c)).run P w = .ok (.string t) w := by
  obtain ⟨l, h1, rfl⟩ := h
  rw [run_convert_bytes_string w s d e a n c hs he hd]
  cases a with
  | none =>
    have : l = [] := by
      rcases h1 with h1 | h1
      · simp only [cellsOpt, Option.some.injEq] at h1
        cases l with
        | nil => rfl
        | cons x l => cases h1
      · exact h1.2
    subst this
    simp [Conv.bytesToString, bsOf]
  | some p =>
    rcases h1 with h1 | ⟨rfl, rfl⟩
    · exact run_bytesToString w p n c l (loadCells_run h1)
    · exact run_bytesToString w p 0 c [] (by simp [loadCells, loadCellsFrom])

theorem lay_step (vs : List Value) : ∀ (cs : List Value) (off k : Nat), off + k + vs.length ≤ cs.length →
    ((vs.zipIdx k).foldl (fun (a : Array Value) (x : Value × Nat) => a.setIfInBounds (off + x.2) x.1) cs.toArray).toList = layAt cs (off + k) vs := by
  induction vs with
  | nil => intro cs off k h; simp [layAt]
  | cons v vs ih =>
    intro cs off k h
    simp only [List.length_cons] at h
    simp only [List.zipIdx_cons, List.foldl_cons]
    have e : cs.toArray.setIfInBounds (off + k) v = (cs.set (off + k) v).toArray := by simp
    rw [e, ih (cs.set (off + k) v) off (k + 1) (by simp; omega)]
    unfold layAt
    simp only [List.length_cons]
    apply List.ext_getElem?
    intro i
    have ha : off + (k + 1) = off + k + 1 := by omega
    rw [ha]
    simp only [List.append_assoc]
    have l1 : (List.take (off + k + 1) (cs.set (off + k) v)).length = off + k + 1 := by simp; omega
    have l2 : (List.take (off + k) cs).length = off + k := by simp; omega
    rcases Nat.lt_trichotomy i (off + k) with h1 | h1 | h1
    · rw [List.getElem?_append_left (by rw [l1]; omega), List.getElem?_append_left (by rw [l2]; omega)]
      rw [List.getElem?_take_of_lt (by omega), List.getElem?_take_of_lt h1, List.getElem?_set_ne (by omega)]
    · subst h1
      rw [List.getElem?_append_left (by rw [l1]; omega), List.getElem?_append_right (by rw [l2]; omega), l2]
      rw [List.getElem?_take_of_lt (by omega), List.getElem?_set_self (by omega)]
      simp
    · have eL : (List.take (off + k + 1) (cs.set (off + k) v) ++ (vs ++ List.drop (off + k + 1 + vs.length) (cs.set (off + k) v)))[i]? = (vs ++ List.drop (off + k + 1 + vs.length) (cs.set (off + k) v))[i - (off + k + 1)]? := by
        rw [List.getElem?_append_right (by rw [l1]; omega), l1]
      have eR : (List.take (off + k) cs ++ (v :: vs ++ List.drop (off + k + (vs.length + 1)) cs))[i]? = (v :: vs ++ List.drop (off + k + (vs.length + 1)) cs)[i - (off + k)]? := by
        rw [List.getElem?_append_right (by rw [l2]; omega), l2]
      rw [eL, eR]
      have hi : i - (off + k) = (i - (off + k + 1)) + 1 := by omega
      rw [hi, List.cons_append, List.getElem?_cons_succ]
      rcases Nat.lt_or_ge (i - (off + k + 1)) vs.length with h2 | h2
      · rw [List.getElem?_append_left h2, List.getElem?_append_left h2]
      · rw [List.getElem?_append_right h2, List.getElem?_append_right h2]
        rw [List.getElem?_drop, List.getElem?_drop, List.getElem?_set_ne (by omega)]
        congr 1; omega

theorem layAt_spec (cs : List Value) (off : Nat) (vs : List Value) (h : off + vs.length ≤ cs.length) :
    (vs.toArray.zipIdx.foldl (fun (a : Array Value) (x : Value × Nat) => a.setIfInBounds (off + x.2) x.1) cs.toArray).toList = layAt cs off vs := by
  have := lay_step vs cs off 0 (by omega)
  rw [Nat.add_zero] at this
  rw [← this]
  simp

theorem fill_spec {place : Nat → Option (Nat × Nat)} : ∀ {ps : List (Nat × Value)} {cs out : List Value}, fillL place cs ps = some out → Instr.fill place cs.toArray ps = some out.toArray
  | [], cs, out, h => by simp only [fillL, Option.some.injEq] at h; subst h; rfl
  | (i, v) :: ps, cs, out, h => by
    simp only [fillL] at h
    split at h
    · cases h
    · rename_i off size hp
      cases hb : (Nat.beq v.cells.size size && Nat.ble (off + v.cells.size) cs.length) with
      | false => rw [hb] at h; cases h
      | true =>
        rw [hb] at h
        simp only [Bool.and_eq_true] at hb
        have h1 := Nat.eq_of_beq_eq_true hb.1
        have h2 := Nat.le_of_ble_eq_true hb.2
        have ih := fill_spec (cs := layAt cs off v.cells.toList) h
        simp only [Instr.fill, hp]
        have hn : ¬ (v.cells.size ≠ size ∨ off + v.cells.size > cs.length) := by omega
        have hl : (v.cells.zipIdx.foldl (fun (a : Array Value) (x : Value × Nat) => a.setIfInBounds (off + x.2) x.1) cs.toArray) = (layAt cs off v.cells.toList).toArray := by
          apply Array.ext'
          have := layAt_spec cs off v.cells.toList (by simpa using h2)
          simpa using this
        simp only [List.size_toArray]
        rw [if_neg (by simp; omega)]
        rw [← ih]
        exact congrArg (fun a => Instr.fill place a ps) hl

theorem vcOp_sound {o : Oper} {env : Env} {ρ : Operand → Value} (hρ : ∀ x v, ev env x = some v → ρ x = v) {h : Heap} {K : Value → Heap → Prop} (H : vcOp P o env h K) : opSem P o ρ h K := by
  intro w hw
  subst hw
  obtain ⟨dst, op, type, pos, after, guard⟩ := o
  unfold vcOp at H
  cases op <;> simp only at H <;> simp only [execOp]
  case move x => obtain ⟨v, hv, hk⟩ := wV_elim H; rw [hρ _ _ hv]; exact OpOK.value hk
  case assign x => obtain ⟨v, hv, hk⟩ := wV_elim H; rw [hρ _ _ hv]; exact OpOK.value (reT_elim hk)
  case pick c a b =>
    obtain ⟨v, hv, H1⟩ := wV_elim H
    obtain ⟨c', rfl, H2⟩ := asB_elim H1
    rw [hρ _ _ hv]
    simp only [asBool, Sem.run_bind, Sem.run_pure, Result.andThen_ok]
    cases c' with
    | true => obtain ⟨u, hu, hk⟩ := wV_elim H2; simp only [if_true]; rw [hρ _ _ hu]; exact OpOK.value hk
    | false => obtain ⟨u, hu, hk⟩ := wV_elim H2; simp only [Bool.false_eq_true, if_false]; rw [hρ _ _ hu]; exact OpOK.value hk
  case alloc e =>
    split at H
    · rename_i z hz
      exact okv' (v := .pointer (some ⟨w.heap.size, 0, none⟩)) (w' := { w with heap := w.heap.push (.cells z.cells e (0, 0)) }) (by simp [Instr.alloc, zeroValue_run hz, newVar, newRow]) H (same_push _ _ rfl)
    · exact H.elim
  case box e x =>
    obtain ⟨v, hv, hk⟩ := wV_elim H
    rw [hρ _ _ hv]
    exact okv' (v := .pointer (some ⟨w.heap.size, 0, none⟩)) (w' := { w with heap := w.heap.push (.cells v.cells e (0, 0)) }) (by simp [Instr.box, newVar, newRow]) hk (same_push _ _ rfl)
  case build t ps =>
    split at H
    · rename_i ps' hps
      split at H
      · rename_i cs hcs
        have hp := evParts_spec hρ hps
        have hp' : (ps.map fun (i, x) => (i, ρ x)).toList = ps' := by rw [← hp]; simp
        refine okv (v := .agg cs.toArray) ?_ H
        unfold buildV at hcs
        split at hcs
        · cases hcs
        rename_i z hz
        split at hcs
        · rename_i fs hu
          cases hall : (fs.toList.all fun f => (P.info? f.type).isSome) with
          | false => rw [hall] at hcs; cases hcs
          | true =>
            rw [hall] at hcs
            have hfill := fill_spec hcs
            have hmap : ∀ (l : List Field) (acc : Array (Nat × Nat)), (∀ f ∈ l, (P.info? f.type).isSome = true) →
                (List.mapM (fun f => do pure (f.offset, ← sizeOf f.type) : Field → Sem (Nat × Nat)) l).run P w = .ok (structPlaces P l) w := by
              intro l
              induction l with
              | nil => intro acc _; simp [structPlaces]
              | cons f l ih =>
                intro acc hl
                obtain ⟨i, hi⟩ := Option.isSome_iff_exists.1 (hl f (List.mem_cons_self ..))
                have := ih acc (fun f hf => hl f (List.mem_cons_of_mem _ hf))
                simp only [List.mapM_cons, Sem.run_bind, sizeOf_run hi, Result.andThen_ok, Sem.run_pure, this, structPlaces, List.map_cons]
            have hm := hmap fs.toList #[] (fun f hf => List.all_eq_true.1 hall f hf)
            have hm' : (Array.mapM (fun f => do pure (f.offset, ← sizeOf f.type) : Field → Sem (Nat × Nat)) fs).run P w = .ok (structPlaces P fs.toList).toArray w := by
              rw [Array.mapM_eq_mapM_toList, Sem.run_map, hm]
              rfl
            simp only [Instr.build, Sem.run_bind, zeroValue_run hz, Result.andThen_ok, underlying_run hu, hm']
            rw [hp']
            have hf2 : Instr.fill (fun x => (structPlaces P fs.toList).toArray[x]?) z.cells ps' = some cs.toArray := by
              simpa using hfill
            rw [hf2]
            rfl
        · rename_i n e hu
          cases hall : (P.info? e).isSome with
          | false => rw [hall] at hcs; cases hcs
          | true =>
            rw [hall] at hcs
            obtain ⟨i, hi⟩ := Option.isSome_iff_exists.1 hall
            have hfill := fill_spec hcs
            simp only [Instr.build, Sem.run_bind, zeroValue_run hz, Result.andThen_ok, underlying_run hu, sizeOf_run hi]
            rw [hp']
            have hf2 : Instr.fill (fun i => some (i * P.cellsOf e, P.cellsOf e)) z.cells ps' = some cs.toArray := by simpa using hfill
            rw [hf2]
            rfl
        · cases hcs
      · exact H.elim
    · exact H.elim
  case buildSlice t n ps =>
    split at H
    · rename_i e ps' he hps
      split at H
      · rename_i cs hcs
        obtain ⟨hu, ⟨i, hi⟩, hpos⟩ := elemOfSl_spec he
        have hp := evParts_spec hρ hps
        have hp' : (ps.map fun (i, x) => (i, ρ x)).toList = ps' := by rw [← hp]; simp
        refine okv' (v := .slice (some ⟨w.heap.size, 0, none⟩) n n) (w' := { w with heap := w.heap.push (.cells cs.toArray e (0, 0)) }) ?_ H (same_push _ _ rfl)
        unfold buildSl at hcs
        split at hcs
        · cases hcs
        rename_i z hz
        cases hb : (Nat.ble (n * P.cellsOf e) 4096 && Nat.beq z.cells.size (P.cellsOf e)) with
        | false => rw [hb] at hcs; cases hcs
        | true =>
          rw [hb] at hcs
          simp only [Bool.and_eq_true] at hb
          have h1 := Nat.le_of_ble_eq_true hb.1
          have h2 := Nat.eq_of_beq_eq_true hb.2
          have hfill := fill_spec hcs
          have hcells : (Array.range (n * P.cellsOf e)).map (fun i => z.cells[i % z.cells.size]!) = ((List.replicate n z.cells.toList).flatten).toArray := by
            apply Array.ext'
            rw [← h2, range_map_cells _ (by omega)]
          have hbig : ¬ (2 ^ 24 < n * P.cellsOf e) := by omega
          have hf2 : Instr.fill (fun i => some (i * P.cellsOf e, P.cellsOf e)) ((List.replicate n z.cells.toList).flatten).toArray ps' = some cs.toArray := by simpa using hfill
          by_cases h0 : n * P.cellsOf e = 0
          · have hn0 : n = 0 := by
              rcases Nat.mul_eq_zero.1 h0 with h | h
              · exact h
              · omega
            subst hn0
            simp only [Instr.buildSlice, Sem.run_bind, underlying_run hu, Result.andThen_ok, sizeOf_run hi, gt_iff_lt, h0, if_true, Nat.not_lt_zero, if_false, Sem.run_pure]
            rw [hp']
            have hr0 : Array.map (fun x => (#[] : Array Value)[x % (#[] : Array Value).size]!) (Array.range 0) = ((List.replicate 0 z.cells.toList).flatten).toArray := by simp
            rw [hr0, hf2]
            rfl
          · simp only [Instr.buildSlice, Sem.run_bind, underlying_run hu, Result.andThen_ok, sizeOf_run hi, gt_iff_lt, hbig, if_false, h0, Sem.run_pure, zeroValue_run hz, hcells]
            rw [hp', hf2]
            rfl
      · exact H.elim
    · exact H.elim
  case load t x =>
    obtain ⟨v, hv, H1⟩ := wV_elim H
    obtain ⟨a, rfl, H2⟩ := asP_elim H1
    obtain ⟨p, rfl, H3⟩ := optE_some H2
    rw [hρ _ _ hv]
    obtain ⟨u, hr, hk⟩ := vcLoad_sound H3
    exact okv (v := u) (by simp only [Instr.loadAt, Instr.sureAddr, Sem.run_bind, Sem.run_pure, Result.andThen_ok, hr w rfl]) hk
  case store t x y =>
    obtain ⟨v, hv, H1⟩ := wV_elim H
    obtain ⟨u, hu, H1⟩ := wV_elim H1
    obtain ⟨a, rfl, H2⟩ := asP_elim H1
    obtain ⟨p, rfl, H3⟩ := optE_some H2
    rw [hρ _ _ hv, hρ _ _ hu]
    obtain ⟨w', hr, hk, hs⟩ := vcStore_sound H3
    exact oku (by simp only [Instr.storeAt, Instr.sureAddr, Sem.run_bind, Sem.run_pure, Result.andThen_ok, hr]) hk hs
  case nilCheck x =>
    obtain ⟨v, hv, H1⟩ := wV_elim H
    split at H1
    · obtain ⟨p, rfl, hk⟩ := optE_some H1
      rw [hρ _ _ hv]; exact OpOK.value hk
    · rw [hρ _ _ hv]; exact OpOK.value H1
    · obtain ⟨hn, hk⟩ := H1
      have := hn.ok w { dst, op := .nilCheck x, type, pos, after, guard } ρ x rfl (hρ _ _ hv)
      simp only [execOp] at this
      rw [this]; exact OpOK.value hk
    · exact H1.elim
  case binOp op t x y yt =>
    obtain ⟨v, hv, H1⟩ := wV_elim H
    obtain ⟨u, hu, H1⟩ := wV_elim H1
    rw [hρ _ _ hv, hρ _ _ hu]
    obtain ⟨r, hr, hk⟩ := vcBin_sound H1
    exact okv (v := r) (by rw [Sem.run_bind, run_eqGuard (vcBin_guard H1).1 (vcBin_guard H1).2, Result.andThen_ok, hr w]) hk
  case unOp op t x =>
    obtain ⟨v, hv, H1⟩ := wV_elim H
    rw [hρ _ _ hv]
    split at H1
    · obtain ⟨b, rfl, hk⟩ := asB_elim H1
      exact okv (v := .bool !b) (by simp [Op.unary]) hk
    · obtain ⟨j, n, rfl, hk⟩ := asI_elim H1
      exact okv (v := .int j (j.wrap (0 - n))) (by simp [Op.unary, Op.intArith]) (arI_elim hk)
    · exact H1.elim
  case convert s d x =>
    obtain ⟨v, hv, H1⟩ := wV_elim H
    rw [hρ _ _ hv]
    split at H1
    · rename_i sd k hsd hk'
      obtain ⟨j, n, rfl, hk⟩ := asI_elim H1
      refine okv (v := .int k (k.wrap n)) ?_ (arI_elim hk)
      cases sd <;> simp [convert, underlying_run hsd, underlying_run hk', Conv.intToInt]
    · rename_i e hsd hd
      split at H1
      · rename_i he
        obtain ⟨a, n, c, rfl, H2⟩ := asS_elim H1
        obtain ⟨t, ht, hk⟩ := H2
        exact okv (v := .string t) (convert_str hsd he hd ht) hk
      · exact H1.elim
    · exact H1.elim
  case makeInterface t x =>
    obtain ⟨v, hv, H1⟩ := wV_elim H
    rw [hρ _ _ hv]
    split at H1
    · exact H1.elim
    · rename_i d hne hd
      refine okv (v := .iface t v) ?_ H1
      cases d <;> first | (simp [Instr.makeInterface, underlying_run hd]; done) | exact absurd rfl (hne _)
    · exact H1.elim
  case makeFunc fn a b =>
    split at H
    · rename_i as bs ha hb
      have e1 := evs_arr hρ ha
      have e2 := evs_arr hρ hb
      rw [e1, e2]
      exact okv (v := .func fn as.toArray bs.toArray) (by simp [Instr.makeFunc]) H
    · exact H.elim
  case makeMap t r =>
    split at H
    · exact okv' (v := .map (some w.heap.size)) (w' := { w with heap := w.heap.push (.map #[] 0) }) (by simp [Instr.makeMap]) H (same_push _ _ trivial)
    · rename_i x
      obtain ⟨v, hv, H1⟩ := wV_elim H
      obtain ⟨j, n, rfl, H2⟩ := asI_elim H1
      split at H2
      · rename_i k e hu
        simp only [Option.map_some]
        rw [hρ _ _ hv]
        exact okv' (v := .map (some w.heap.size)) (w' := { w with heap := w.heap.push (.map #[] 0) }) (by simp [Instr.makeMap, underlying_run hu, asInt, asIntOf]) H2 (same_push _ _ trivial)
      · exact H2.elim
  case makeSlice t l c =>
    obtain ⟨v, hv, H1⟩ := wV_elim H
    obtain ⟨u, hu, H1⟩ := wV_elim H1
    rw [hρ _ _ hv, hρ _ _ hu]
    obtain ⟨r, w', hr, hk, hs⟩ := vcMakeSlice_sound H1
    exact okv' hr hk hs
  case slice t x lo hi mx =>
    obtain ⟨v, hv, H1⟩ := wV_elim H
    rw [hρ _ _ hv]
    split at H1
    · rename_i a b c ha hb hc
      rw [evOpt_spec hρ ha, evOpt_spec hρ hb, evOpt_spec hρ hc]
      obtain ⟨r, hr, hk⟩ := vcSlice_sound H1
      exact okv (hr w) hk
    · exact H1.elim
  case fieldAddr t x i =>
    obtain ⟨v, hv, H1⟩ := wV_elim H
    obtain ⟨a, rfl, H2⟩ := asP_elim H1
    obtain ⟨p, rfl, H3⟩ := optE_some H2
    rw [hρ _ _ hv]
    split at H3
    · rename_i k hk'
      obtain ⟨fs, f, hu, hf, hne, rfl⟩ := fieldOff_spec hk'
      obtain ⟨fi, hfi⟩ := cellsOf_info hne
      exact okv (v := .pointer (some (p.add f.offset))) (by simp [Instr.fieldAt, underlying_run hu, hf, Instr.sureAddr, fieldPlace, sizeOf_run hfi, hne]) H3
    · exact H3.elim
  case field t x i =>
    obtain ⟨v, hv, H1⟩ := wV_elim H
    rw [hρ _ _ hv]
    split at H1
    · split at H1
      · rename_i u hu
        exact okv (fieldPart_spec hu) H1
      · exact H1.elim
    · exact H1.elim
  case indexAddr t x i =>
    obtain ⟨v, hv, H1⟩ := wV_elim H
    obtain ⟨u, hu, H1⟩ := wV_elim H1
    rw [hρ _ _ hv, hρ _ _ hu]
    obtain ⟨r, hr, hk⟩ := vcIndexAddr_sound H1
    exact okv (hr w) hk
  case index t x i =>
    obtain ⟨v, hv, H1⟩ := wV_elim H
    obtain ⟨u, hu, H1⟩ := wV_elim H1
    rw [hρ _ _ hv, hρ _ _ hu]
    obtain ⟨r, hr, hk⟩ := vcIndex_sound H1
    exact okv (hr w) hk
  case lookup t x i ok =>
    obtain ⟨v, hv, H1⟩ := wV_elim H
    obtain ⟨u, hu, H1⟩ := wV_elim H1
    rw [hρ _ _ hv, hρ _ _ hu]
    obtain ⟨r, hr, hk⟩ := vcLookup_sound H1
    exact okv (hr w rfl) hk
  case mapUpdate t m i x =>
    obtain ⟨v, hv, H1⟩ := wV_elim H
    obtain ⟨u, hu, H1⟩ := wV_elim H1
    obtain ⟨y, hy, H1⟩ := wV_elim H1
    rw [hρ _ _ hv, hρ _ _ hu, hρ _ _ hy]
    obtain ⟨w', hr, hk, hs⟩ := vcMapUpdate_sound H1
    exact oku hr hk hs
  case insert t m i x =>
    obtain ⟨v, hv, H1⟩ := wV_elim H
    obtain ⟨u, hu, H1⟩ := wV_elim H1
    obtain ⟨y, hy, H1⟩ := wV_elim H1
    rw [hρ _ _ hv, hρ _ _ hu, hρ _ _ hy]
    obtain ⟨w', hr, hk, hs⟩ := vcMapUpdate_sound H1
    exact oku hr hk hs
  case range t x =>
    obtain ⟨v, hv, H1⟩ := wV_elim H
    rw [hρ _ _ hv]
    split at H1
    · rename_i k e hu
      obtain ⟨r, rfl, H2⟩ := asM_elim H1
      obtain ⟨m, rfl, es, clk, hb, hk⟩ := optE_some H2
      have hg := getObj_run (P := P) hb (fun c t f h => by cases h)
      exact okv' (v := .pointer (some ⟨w.heap.size, 0, none⟩)) (w' := { w with heap := w.heap.push (.mapIter (some m) clk #[] clk) }) (by simp [Instr.range, underlying_run hu, hg]) hk (same_push _ _ trivial)
    · exact H1.elim
  case next x s =>
    cases s with
    | true => exact H.elim
    | false =>
      obtain ⟨v, hv, H1⟩ := wV_elim H
      rw [hρ _ _ hv]
      unfold vcNext at H1
      obtain ⟨a, rfl, H2⟩ := asP_elim H1
      obtain ⟨p, rfl, H3⟩ := optE_some H2
      obtain ⟨h0, hok, h1, h2⟩ := H3
      obtain ⟨r, w', hr, hk, hs⟩ := nextOK_run (P := P) (ty := type) h0 rfl hok K h1 h2
      exact okv' hr hk hs
  case entry x =>
    obtain ⟨v, hv, H1⟩ := wV_elim H
    rw [hρ _ _ hv]
    unfold vcEntry at H1
    obtain ⟨a, rfl, H2⟩ := asP_elim H1
    obtain ⟨p, rfl, h0, k, u, he, hk⟩ := optE_some H2
    obtain ⟨m, since, seen, last, es, e, g1, g2, g3, g4, rfl, rfl⟩ := he.ok
    have hg := getObj_run (P := P) g1 (fun c t f h => by cases h)
    have hg2 := getObj_run (P := P) g2 (fun c t f h => by cases h)
    obtain ⟨pb, po, ps⟩ := p
    simp only at h0
    subst h0
    exact okv (v := .tuple #[e.key, e.val]) (by simp [Instr.entry, hg, hg2, g3, g4]) hk
  case extract x i =>
    obtain ⟨v, hv, H1⟩ := wV_elim H
    rw [hρ _ _ hv]
    split at H1
    · split at H1
      · rename_i vs _ u hu
        exact okv (v := u) (by
          have : vs[i]? = some u := by simpa using hu
          simp [Instr.extract, this]) (reT_elim H1)
      · exact H1.elim
    · exact H1.elim
  case call c => exact vcCall_sound hρ H
  all_goals exact H.elim
end
end Go.Hv

/- Regions in the order of the text. -/
namespace Go.Hv

/-- The frame holds what is known of it; its size; what is deferred. -/
structure Good (n : Nat) (ds : List Deferred) (env : Env) (a : Act) : Prop where
  agree : ∀ t v, getE env t = some v → a.tmps[t]? = some v
  size : a.tmps.size = n
  defers : a.defers = ds

theorem Good.eval {n : Nat} {ds : List Deferred} {env : Env} {a : Act} (g : Good n ds env a) : ∀ x v, ev env x = some v → a.eval x = v := by
  intro x v h
  cases x with
  | tmp t => simp only [ev] at h; have := g.agree t v h; simp [Act.eval, this]
  | const u => simp only [ev, Option.some.injEq] at h; exact h
  | global k => simp only [ev, Option.some.injEq] at h; exact h
  | func f => simp only [ev, Option.some.injEq] at h; exact h

theorem getE_cons (i j : Nat) (v : Value) (env : Env) : getE ((i, v) :: env) j = if i = j then some v else getE env j := by
  simp only [getE]
  by_cases h : i = j
  · subst h; simp
  · simp [beq_false h, h]

theorem Good.put {n : Nat} {ds : List Deferred} {env : Env} {a : Act} (g : Good n ds env a) (dst : Option Tmp) (v : Value) : Good n ds (putE n env dst v) (a.put dst v) := by
  cases dst with
  | none => exact g
  | some d =>
    refine ⟨?_, by simp [Act.put, g.size], g.defers⟩
    intro t u h
    simp only [putE] at h
    cases hb : Nat.blt d n with
    | false => rw [hb] at h; simp [getE] at h
    | true =>
      rw [hb] at h
      simp only [cond_true, getE_cons] at h
      have hd : d < n := Nat.le_of_ble_eq_true hb
      simp only [Act.put]
      split at h
      · rename_i he
        subst he
        simp only [Option.some.injEq] at h
        subst h
        simp [g.size, hd]
      · rename_i he
        rw [Array.getElem?_setIfInBounds_ne he]
        exact g.agree t u h

theorem Good.know {n : Nat} {ds : List Deferred} {env : Env} {a : Act} (g : Good n ds env a) {t : Nat} {v : Value} (h : getE env t = some v) : Good n ds ((t, v) :: env) a := by
  refine ⟨fun u x hx => ?_, g.size, g.defers⟩
  rw [getE_cons] at hx
  split at hx
  · rename_i he; subst he; simp only [Option.some.injEq] at hx; subst hx; exact g.agree _ _ h
  · exact g.agree _ _ hx

/-! ### Guards -/
def guardSlot (all : Array Oper) (j : Nat) : Option Tmp := match all[j]? with | some o => o.dst | none => none

def guardE (all : Array Oper) (o : Oper) (env : Env) (k : Bool → Env → Prop) : Prop :=
  match o.guard with
  | none => k true env
  | some (j, want) => match guardSlot all j with
    | none => k false env
    | some t => match getE env t with
      | some (.bool b) => cond b (k want ((t, .bool true) :: env)) (k (!want) ((t, .bool false) :: env))
      | some (.tuple _) => k false env
      | _ => False

theorem guardE_sound {all : Array Oper} {o : Oper} {env : Env} {k : Bool → Env → Prop} {n : Nat} {ds : List Deferred} {a : Act} (g : Good n ds env a) (H : guardE all o env k) :
    ∃ env', Good n ds env' a ∧ k (Region.wanted o (yielded all a.tmps)) env' := by
  unfold guardE at H
  cases hg : o.guard with
  | none => rw [hg] at H; exact ⟨env, g, by simpa [Region.wanted, hg] using H⟩
  | some jw =>
    obtain ⟨j, want⟩ := jw
    rw [hg] at H
    simp only at H
    have hs : guardSlot all j = (all[j]?).bind (·.dst) := by unfold guardSlot; cases all[j]? <;> rfl
    cases ht : guardSlot all j with
    | none =>
      rw [ht] at H
      have : yielded all a.tmps j = none := by simp [yielded, ← hs, ht]
      exact ⟨env, g, by simpa [Region.wanted, hg, this] using H⟩
    | some t =>
      rw [ht] at H
      simp only at H
      split at H
      · rename_i b hb
        have hy : yielded all a.tmps j = some b := by
          have := g.agree t _ hb
          simp [yielded, ← hs, ht, this]
        have hw : Region.wanted o (yielded all a.tmps) = (b == want) := by simp [Region.wanted, hg, hy]
        cases b with
        | true => exact ⟨_, g.know hb, by rw [hw]; cases want <;> exact H⟩
        | false => exact ⟨_, g.know hb, by rw [hw]; cases want <;> exact H⟩
      · rename_i x hb
        have hy : yielded all a.tmps j = none := by
          have := g.agree t _ hb
          simp [yielded, ← hs, ht, this]
        exact ⟨env, g, by simpa [Region.wanted, hg, hy] using H⟩
      · exact H.elim

/-! ### One operation after the other -/
/-- what a call that is deferred comes to -/
def deferE (env : Env) (c : Call) : Option Deferred :=
  match c.callee with
  | .value x => (match ev env x, evs env c.args.toList with
    | some (.func fn first cap), some args => some { target := .fn fn cap, args := first ++ args.toArray }
    | _, _ => none)
  | _ => none

def stepE (P : Program) (n : Nat) (o : Oper) (env : Env) (ds : List Deferred) (h : Heap) (K : Env → List Deferred → Heap → Prop) : Prop :=
  match o.op with
  | .defer c => (match deferE env c with | some d => K (putE n env o.dst undef) (d :: ds) h | none => False)
  | _ => vcOp P o env h fun v h' => K (putE n env o.dst v) ds h'

def vcOps (P : Program) (n : Nat) (all : Array Oper) : List Oper → Env → List Deferred → Heap → (Env → List Deferred → Heap → Prop) → Prop
  | [], env, ds, h, K => K env ds h
  | o :: rest, env, ds, h, K => guardE all o env fun run env => match run with
    | true => stepE P n o env ds h fun env ds h => vcOps P n all rest env ds h K
    | false => vcOps P n all rest (putE n env o.dst undef) ds h K

/-- operations that turn the heap, and are no calls of functions -/
def turns (o : Oper) : Bool :=
  match o.op with
  | .alloc _ | .box _ _ | .buildSlice _ _ _ | .store _ _ _ | .makeMap _ _ | .makeSlice _ _ _ | .mapUpdate _ _ _ _ | .insert _ _ _ _ | .range _ _ => true
  | .call c => (match c.callee with
    | .builtin .copy | .builtin .clear | .builtin .delete => true
    | _ => false)
  | _ => false

/-- the new heap gets a name -/
def nameH (b : Bool) (h' : Heap) (k : Heap → Prop) : Prop := bif b then ∀ hn : Heap, hn = h' → k hn else k h'
theorem nameH_elim {b : Bool} {h' : Heap} {k : Heap → Prop} (H : nameH b h' k) : k h' := by
  cases b
  · exact H
  · exact H h' rfl

/-- the same, where nothing is deferred -/
def vcRun (P : Program) (n : Nat) (all : Array Oper) : List Oper → Env → Heap → (Env → Heap → Prop) → Prop
  | [], env, h, K => K env h
  | o :: rest, env, h, K => guardE all o env fun run env => match run with
    | true => vcOp P o env h fun v h' => nameH (turns o) h' fun h' => vcRun P n all rest (putE n env o.dst v) h' K
    | false => vcRun P n all rest (putE n env o.dst undef) h K

section
variable {P : Program}

/-- the fences that we walk in: all functions, any depth; in a function's own frame, or in a round of a loop -/
abbrev FR (r : Option Nat) : Fence := { fn := fun _ => True, depth := none, alive := false, round := r }

theorem opOK_no_defer {K : Value → Heap → Prop} {w : World} {o : Oper} {ρ : Operand → Value} (H : OpOK P K w ((execOp ρ o).run P w)) : ∀ c, o.op ≠ .defer c := by
  intro c hc
  unfold execOp at H
  simp only [hc, Sem.run_bind] at H
  cases hr : (resolve ρ c o.type).run P w with
  | ok d w' => rw [hr] at H; simp only [Result.andThen_ok, Sem.run_pure] at H; exact H
  | halt x w' => rw [hr] at H; exact H

theorem wp_of_opSem {r : Option Nat} {m : Nat} {o : Oper} {a : Act} {w : World} {K : Value → Heap → Prop} {next : Act → World → Prop} {Q : Exit → Act → World → Prop}
    (H : OpOK P K w ((execOp a.eval o).run P w)) (hn : ∀ v w', K v w'.heap → Same w w' → next (a.put o.dst v) w') : o.wpIn (FR r) m P a w next Q := by
  refine ⟨fun _ _ => trivial, ?_⟩
  have hs : o.semAt (FR r).round a.eval = execOp a.eval o := by
    cases r with
    | none => rfl
    | some l => exact Oper.semAt_some l _ _ (opOK_no_defer H)
  rw [hs]
  generalize (execOp a.eval o).run P w = q at H
  cases q with
  | halt x w' => exact H.elim
  | ok x w' =>
    cases x with
    | value v => exact hn _ _ H.1 H.2
    | skip => exact hn _ _ H.1 H.2
    | enter f args =>
      obtain ⟨hs, hc⟩ := H
      exact ⟨(fun h => by cases h), (callsIn_wide (n := m - 1)).2 (hc.mono fun e w'' ⟨v, he, hk, hs'⟩ => by subst he; exact hn _ _ hk (hs.trans hs'))⟩
    | round l f tmps asg bd =>
      obtain ⟨hs, hc⟩ := H
      have h2 := hc.mono (R' := fun
        | .returned v, w'' => next (a.put o.dst v) w''
        | .panicked chain, w'' => Q (.panic chain) a w''
        | .outgrown, _ => LetsOut Q) fun e w'' ⟨v, he, hk, hs'⟩ => by subst he; exact hn _ _ hk (hs.trans hs')
      exact ⟨(fun h => by cases h), trivial, fun c cs _ => h2.2 c cs (fun d hd => by cases hd)⟩
    | _ => exact H.elim

/-- the slots that a piece of code does not write stay -/
def elemN : List Nat → Nat → Bool
  | [], _ => false
  | x :: l, y => bif Nat.beq x y then true else elemN l y

def opsWrites : List Oper → List Tmp
  | [] => []
  | o :: l => match o.dst with | some d => d :: opsWrites l | none => opsWrites l

theorem elemN_cons (x y : Nat) (l : List Nat) : elemN (x :: l) y = (decide (x = y) || elemN l y) := by
  simp only [elemN]
  by_cases h : x = y
  · subst h; simp
  · simp [beq_false h, h]
theorem elemN_append (l r : List Nat) (y : Nat) : elemN (l ++ r) y = (elemN l y || elemN r y) := by
  induction l with
  | nil => simp [elemN]
  | cons x l ih => rw [List.cons_append, elemN_cons, elemN_cons, ih, Bool.or_assoc]

def Keep (ws : List Tmp) (a a' : Act) : Prop := ∀ t, elemN ws t = false → a'.tmps[t]? = a.tmps[t]?
theorem Keep.refl (ws : List Tmp) (a : Act) : Keep ws a a := fun _ _ => rfl
theorem Keep.trans {ws : List Tmp} {a b c : Act} (h : Keep ws a b) (g : Keep ws b c) : Keep ws a c := fun t ht => (g t ht).trans (h t ht)
theorem Keep.left {ws vs : List Tmp} {a b : Act} (h : Keep ws a b) : Keep (ws ++ vs) a b := fun t ht => h t (by rw [elemN_append] at ht; exact (Bool.or_eq_false_iff.1 ht).1)
theorem Keep.right {ws vs : List Tmp} {a b : Act} (h : Keep vs a b) : Keep (ws ++ vs) a b := fun t ht => h t (by rw [elemN_append] at ht; exact (Bool.or_eq_false_iff.1 ht).2)
theorem Keep.put {o : Oper} {l : List Oper} {a b : Act} {v : Value} (h : Keep (opsWrites l) (a.put o.dst v) b) : Keep (opsWrites (o :: l)) a b := by
  intro t ht
  simp only [opsWrites] at ht
  cases hd : o.dst with
  | none => rw [hd] at ht h; exact h t ht
  | some d =>
    rw [hd] at ht h
    simp only [elemN_cons, Bool.or_eq_false_iff, decide_eq_false_iff_not] at ht
    rw [h t ht.2]
    simp [Act.put, Array.getElem?_setIfInBounds_ne ht.1]

theorem vcRun_sound {r : Option Nat} {m : Nat} {n : Nat} {ds : List Deferred} {all : Array Oper} {Q : Exit → Act → World → Prop} {K : Env → Heap → Prop} :
    ∀ {l : List Oper} {env : Env} {a : Act} {w : World}, Good n ds env a → vcRun P n all l env w.heap K →
      (∀ env' a' w', Good n ds env' a' → K env' w'.heap → Same w w' → Keep (opsWrites l) a a' → Q .normal a' w') → wpListIn (FR r) m P all Q l a w
  | [], env, a, w, g, H, hQ => hQ _ _ _ g H (Same.refl w) (Keep.refl _ a)
  | o :: rest, env, a, w, g, H, hQ => by
    obtain ⟨env', g', H'⟩ := guardE_sound g H
    unfold wpListIn
    cases hw : Region.wanted o (yielded all a.tmps) with
    | true =>
      rw [hw] at H'
      simp only [if_true]
      exact (wp_of_opSem (vcOp_sound (P := P) g'.eval H' w rfl) fun v w' hk hs' =>
        vcRun_sound (g'.put o.dst v) (nameH_elim hk) fun e b w'' g'' hK hs'' hkeep => hQ _ _ _ g'' hK (hs'.trans hs'') hkeep.put)
    | false =>
      rw [hw] at H'
      simp only [Bool.false_eq_true, if_false]
      exact ⟨fun _ _ => trivial, vcRun_sound (g'.put o.dst undef) H' fun e b w'' g'' hK hs'' hkeep => hQ _ _ _ g'' hK hs'' hkeep.put⟩
end
end Go.Hv

/- Regions that draw their order: the meaning. -/
namespace Go.Hv

/-- operations that leave the heap alone (qs: the functions that do) -/
def isQ (qs : List Nat) (o : Oper) : Bool :=
  match o.op with
  | .move _ | .assign _ | .pick _ _ _ | .build _ _ | .load _ _ | .nilCheck _ | .binOp _ _ _ _ _ | .unOp _ _ _ | .convert _ _ _ | .makeInterface _ _ | .makeFunc _ _ _
  | .slice _ _ _ _ _ | .fieldAddr _ _ _ | .field _ _ _ | .indexAddr _ _ _ | .index _ _ _ | .lookup _ _ _ _ | .extract _ _ => true
  | .call c => (match c.callee with
    | .builtin .len | .builtin .cap | .builtin .min | .builtin .max => true
    | .value (.func f) => elemN qs f
    | _ => false)
  | _ => false

/-- those among them that look at the heap -/
def isSens (P : Program) (o : Oper) : Bool :=
  match o.op with
  | .load _ _ | .lookup _ _ _ _ => true
  | .convert _ d _ => (match P.underlying d with | some .string => true | _ => false)
  | .call c => (match c.callee with
    | .builtin .len => (match c.argTypes.toList with
      | [t] => (match P.underlying t with | some (.map _ _) => true | _ => false)
      | _ => true)
    | .builtin _ => false
    | _ => true)
  | _ => false

/-- an operation's one value, at a heap -/
def QY (P : Program) (pure : Bool) (o : Oper) (ρ : Operand → Value) (h : Heap) (v : Value) : Prop :=
  ∀ w : World, pure = true ∨ w.heap = h → OpOK P (fun v' h' => v' = v ∧ h' = w.heap) w ((execOp ρ o).run P w)

def dmask (o : Oper) : Nat := o.after.toList.foldl (fun s e => bif Region.binds .any e then s ||| 2 ^ e.on else s) 0

def rdy (ops : Array Oper) (T : Nat) (i : Nat) : Bool := !T.testBit i && (match ops[i]? with | some o => o.after.toList.all fun e => !Region.binds .any e || T.testBit e.on | none => false)

def readyL (ops : Array Oper) (T : Nat) : List Nat := (List.range ops.size).filter (rdy ops T)

def YH (P : Program) (ops : Array Oper) (o : Oper) (v : Value) (a : Act) (h : Heap) : Prop :=
  (Region.wanted o (yielded ops a.tmps) = true ∧ QY P (!isSens P o) o a.eval h v) ∨ (Region.wanted o (yielded ops a.tmps) = false ∧ v = undef)

def stepH (P : Program) (ops : Array Oper) (o : Oper) (a : Act) (h : Heap) (R : Act → Heap → Prop) : Prop :=
  if Region.wanted o (yielded ops a.tmps) then opSem P o a.eval h (fun v h' => R (a.put o.dst v) h') else R (a.put o.dst undef) h

/-- an operation that is over would yield what it has, still -/
def YCur (P : Program) (ops : Array Oper) (k : Nat) (a : Act) (h : Heap) : Prop :=
  ∀ o, ops[k]? = some o → Region.wanted o (yielded ops a.tmps) = true → ∃ d v, o.dst = some d ∧ a.tmps[d]? = some v ∧ QY P (!isSens P o) o a.eval h v

def effAt (qs : List Nat) (ops : Array Oper) (i : Nat) : Bool := match ops[i]? with | some o => !isQ qs o | none => false

/-- nothing that acts and is over had to wait for it -/
def live (qs : List Nat) (ops : Array Oper) (A : Nat → Nat) (k T : Nat) : Prop := ∀ e, effAt qs ops e = true → T.testBit e = true → (A e).testBit k = false

def WH (P : Program) (qs : List Nat) (ops : Array Oper) (A : Nat → Nat) (Q : Act → Heap → Prop) : Nat → Nat → List Nat → Act → Heap → Prop
  | 0, T, _, a, h => readyL ops T = [] ∧ Q a h
  | fuel + 1, T, V, a, h => (readyL ops T = [] → Q a h) ∧ ∀ i ∈ readyL ops T, ∀ o, ops[i]? = some o →
      (isQ qs o = true → ∃ v, YH P ops o v a h ∧ WH P qs ops A Q fuel (T ||| 2 ^ i) V (a.put o.dst v) h) ∧
      (isQ qs o = false → stepH P ops o a h fun a' h' => (∀ k ∈ V, live qs ops A k (T ||| 2 ^ i) → YCur P ops k a' h') ∧ WH P qs ops A Q fuel (T ||| 2 ^ i) V a' h')

section
variable {P : Program} {qs : List Nat} {ops : Array Oper} {A : Nat → Nat} {Q : Act → Heap → Prop}

theorem testBit_or_pow (T i j : Nat) : (T ||| 2 ^ i).testBit j = (T.testBit j || decide (i = j)) := by
  rw [Nat.testBit_or, Nat.testBit_two_pow]

theorem mem_readyL {T i : Nat} : i ∈ readyL ops T ↔ T.testBit i = false ∧ ∃ o, ops[i]? = some o ∧ ∀ e ∈ o.after, Region.binds .any e = true → T.testBit e.on = true := by
  unfold readyL rdy
  rw [List.mem_filter, List.mem_range]
  cases ho : ops[i]? with
  | none => simp
  | some o =>
    have hlt : i < ops.size := (Array.getElem?_eq_some_iff.1 ho).1
    simp only [hlt, true_and, Bool.and_eq_true, Bool.not_eq_true', List.all_eq_true, Bool.or_eq_true, Option.some.injEq, exists_eq_left']
    constructor
    · rintro ⟨h0, h⟩
      exact ⟨h0, fun e he hb => (h e (by simpa using he)).resolve_left (by simp [hb])⟩
    · rintro ⟨h0, h⟩
      refine ⟨h0, fun e he => ?_⟩
      cases hb : Region.binds .any e with
      | false => exact .inl rfl
      | true => exact .inr (h e (by simpa using he) hb)

theorem readyL_mono {T i j : Nat} (hj : j ∈ readyL ops T) (hne : j ≠ i) : j ∈ readyL ops (T ||| 2 ^ i) := by
  rw [mem_readyL] at *
  obtain ⟨h0, o, ho, hall⟩ := hj
  refine ⟨by rw [testBit_or_pow, h0]; simp; exact fun h => hne h.symm, o, ho, fun e he hb => ?_⟩
  rw [testBit_or_pow, hall e he hb]; rfl

structure RelT (ops : Array Oper) (T : Nat) (listed : Array Bool) : Prop where
  size : listed.size = ops.size
  bits : ∀ i, i < ops.size → listed.getD i false = T.testBit i

theorem RelT.put {T i : Nat} {listed : Array Bool} (r : RelT ops T listed) (hi : i < ops.size) : RelT ops (T ||| 2 ^ i) (listed.setIfInBounds i true) := by
  refine ⟨by simp [r.size], fun j hj => ?_⟩
  rw [testBit_or_pow]
  by_cases h : i = j
  · subst h; simp [r.size, hi]
  · rw [getD_set_ne false h, r.bits j hj]; simp [h]

theorem RelT.ready {T : Nat} {listed : Array Bool} (r : RelT ops T listed) (hon : ∀ (i : Nat) (o : Oper), ops[i]? = some o → ∀ e ∈ o.after, Region.binds .any e = true → e.on < ops.size) {i : Nat} :
    i ∈ Region.ready .any ops listed ↔ i ∈ readyL ops T := by
  rw [mem_ready, mem_readyL]
  have hd : ∀ {i : Nat}, i < ops.size → listed.getD i true = listed.getD i false := fun {i} h => by
    simp [Array.getElem?_eq_getElem (by rw [r.size]; exact h)]
  constructor
  · rintro ⟨h0, o, ho, hall⟩
    have hlt : i < ops.size := (Array.getElem?_eq_some_iff.1 ho).1
    exact ⟨by rw [← r.bits i hlt, ← hd hlt]; exact h0, o, ho, fun e he hb => by rw [← r.bits _ (hon i o ho e he hb)]; exact hall e he hb⟩
  · rintro ⟨h0, o, ho, hall⟩
    have hlt : i < ops.size := (Array.getElem?_eq_some_iff.1 ho).1
    exact ⟨by rw [hd hlt, r.bits i hlt]; exact h0, o, ho, fun e he hb => by rw [r.bits _ (hon i o ho e he hb)]; exact hall e he hb⟩

theorem wpAny_of_WH {fq : Option Nat} {m : Nat} {Q' : Exit → Act → World → Prop} {w0 : World} (hQ : ∀ a w, Same w0 w → Q a w.heap → Q' .normal a w)
    (hon : ∀ (i : Nat) (o : Oper), ops[i]? = some o → ∀ e ∈ o.after, Region.binds .any e = true → e.on < ops.size) :
    ∀ (fuel T : Nat) (V : List Nat) (listed : Array Bool) (a : Act) (w : World), RelT ops T listed → Same w0 w → WH P qs ops A Q fuel T V a w.heap → wpAnyIn (FR fq) m P .any ops Q' fuel listed a w
  | 0, T, V, listed, a, w, r, hs, H => by
    refine ⟨?_, hQ _ _ hs H.2⟩
    apply List.eq_nil_iff_forall_not_mem.2
    intro i hi
    rw [r.ready hon, H.1] at hi
    cases hi
  | fuel + 1, T, V, listed, a, w, r, hs, H => by
    refine ⟨fun h => hQ _ _ hs (H.1 (List.eq_nil_iff_forall_not_mem.2 fun i hi => by rw [← r.ready hon, h] at hi; cases hi)), fun i hi => ?_⟩
    rw [r.ready hon] at hi
    obtain ⟨_, o, ho, _⟩ := mem_readyL.1 hi
    have hlt : i < ops.size := (Array.getElem?_eq_some_iff.1 ho).1
    obtain ⟨h1, h2⟩ := H.2 i hi o ho
    have next : ∀ v w', WH P qs ops A Q fuel (T ||| 2 ^ i) V (a.put o.dst v) w'.heap → Same w w' → wpAnyIn (FR fq) m P .any ops Q' fuel (listed.setIfInBounds i true) (a.put o.dst v) w' := fun v w' hw hs' =>
      wpAny_of_WH hQ hon fuel _ V _ _ w' (r.put hlt) (hs.trans hs') hw
    unfold wpOpIn
    simp only [ho]
    cases hq : isQ qs o with
    | true =>
      obtain ⟨v, hy, hw⟩ := h1 hq
      rcases hy with ⟨hwant, hqy⟩ | ⟨hwant, rfl⟩
      · rw [if_pos hwant]
        exact (wp_of_opSem (hqy w (.inr rfl)) fun v' w' hv hs' => by
          obtain ⟨rfl, hh⟩ := hv
          exact next _ _ (by rw [hh]; exact hw) hs')
      · rw [if_neg (by simp [hwant])]
        exact ⟨fun _ _ => trivial, next _ _ hw (Same.refl w)⟩
    | false =>
      have h2 := h2 hq
      unfold stepH at h2
      cases hwant : Region.wanted o (yielded ops a.tmps) with
      | true =>
        rw [hwant] at h2
        simp only [if_true] at h2 ⊢
        exact (wp_of_opSem (h2 w rfl) fun v' w' hv hs' => next _ _ hv.2 hs')
      | false =>
        rw [hwant] at h2
        simp only [Bool.false_eq_true, if_false] at h2 ⊢
        exact ⟨fun _ _ => trivial, next _ _ h2.2 (Same.refl w)⟩
end
end Go.Hv

/- Regions that draw their order: an operation that only looks may be taken first. -/
namespace Go.Hv
section
variable {P : Program} {qs : List Nat} {ops : Array Oper} {A : Nat → Nat} {Q : Act → Heap → Prop}

/-- what is asked of a region's operations, by looking at them -/
structure RegOK (P : Program) (qs : List Nat) (ops : Array Oper) (A : Nat → Nat) : Prop where
  anc : ∀ (i : Nat) (o : Oper), ops[i]? = some o → ∀ k, (A i).testBit k = true ↔ ∃ e ∈ o.after, Region.binds .any e = true ∧ (k = e.on ∨ (A e.on).testBit k = true)
  on : ∀ (i : Nat) (o : Oper), ops[i]? = some o → ∀ e ∈ o.after, Region.binds .any e = true → e.on < ops.size
  apart : ∀ (i j : Nat) (oi oj : Oper), ops[i]? = some oi → ops[j]? = some oj → i ≠ j → (A i).testBit j = false → (A j).testBit i = false → oi.apart ops oj = true
  self : ∀ (i : Nat) (o : Oper), ops[i]? = some o → isQ qs o = true → ∀ d, o.dst = some d → d ∉ o.looksAt ops
  sens : ∀ (k i : Nat) (ok oi : Oper), ops[k]? = some ok → ops[i]? = some oi → isQ qs ok = true → isSens P ok = true → k ≠ i → (A k).testBit i = false → ∀ d, oi.dst = some d → d ∉ ok.looksAt ops ∧ ok.dst ≠ some d
  sel : ∀ (i : Nat) (o : Oper) cs b, ops[i]? = some o → o.op ≠ .select cs b

/-- all that an operation that is over had to wait for is over -/
def DC (ops : Array Oper) (A : Nat → Nat) (T : Nat) : Prop := ∀ e, e < ops.size → T.testBit e = true → ∀ k, (A e).testBit k = true → T.testBit k = true

theorem anc_of_ready (ok : RegOK P qs ops A) {T i : Nat} (dc : DC ops A T) (h : i ∈ readyL ops T) : ∀ k, (A i).testBit k = true → T.testBit k = true := by
  obtain ⟨_, o, ho, hall⟩ := mem_readyL.1 h
  intro k hk
  obtain ⟨e, he, hb, h1⟩ := (ok.anc i o ho k).1 hk
  rcases h1 with rfl | h1
  · exact hall e he hb
  · exact dc e.on (ok.on i o ho e he hb) (hall e he hb) k h1

theorem DC.put (ok : RegOK P qs ops A) {T i : Nat} (dc : DC ops A T) (h : i ∈ readyL ops T) : DC ops A (T ||| 2 ^ i) := by
  intro e he ht k hk
  rw [testBit_or_pow] at ht ⊢
  by_cases hie : i = e
  · subst hie; rw [anc_of_ready ok dc h k hk]; rfl
  · simp only [hie, decide_false, Bool.or_false] at ht
    rw [dc e he ht k hk]; rfl

theorem QY.of_same {pure : Bool} {o : Oper} {ρ ρ' : Operand → Value} {h : Heap} {v : Value} (H : QY P pure o ρ h v) (he : execOp ρ' o = execOp ρ o) : QY P pure o ρ' h v := by
  unfold QY at *
  rw [he]; exact H

theorem YH.of_same {o : Oper} {v : Value} {a a' : Act} {h : Heap} (H : YH P ops o v a h) (he : execOp a'.eval o = execOp a.eval o)
    (hw : Region.wanted o (yielded ops a'.tmps) = Region.wanted o (yielded ops a.tmps)) : YH P ops o v a' h := by
  rcases H with ⟨h1, h2⟩ | ⟨h1, h2⟩
  · exact .inl ⟨by rw [hw]; exact h1, h2.of_same he⟩
  · exact .inr ⟨by rw [hw]; exact h1, h2⟩

theorem YH.put {o : Oper} {v : Value} {a : Act} {h : Heap} {dst : Option Tmp} {u : Value} (hsel : ∀ cs b, o.op ≠ .select cs b) (hd : ∀ d, dst = some d → d ∉ o.looksAt ops) :
    YH P ops o v (a.put dst u) h ↔ YH P ops o v a h :=
  ⟨fun H => H.of_same (execOp_put o hsel a dst u hd).symm (wanted_put o a dst u hd).symm, fun H => H.of_same (execOp_put o hsel a dst u hd) (wanted_put o a dst u hd)⟩

theorem YH.pure {o : Oper} {v : Value} {a : Act} {h h' : Heap} (hp : isSens P o = false) (H : YH P ops o v a h) : YH P ops o v a h' := by
  rcases H with ⟨h1, h2⟩ | ⟨h1, h2⟩
  · refine .inl ⟨h1, fun w _ => h2 w (.inl (by simp [hp]))⟩
  · exact .inr ⟨h1, h2⟩

theorem YCur.put {k : Nat} {o : Oper} {a : Act} {h : Heap} {dst : Option Tmp} {u : Value} (ho : ops[k]? = some o) (hsel : ∀ cs b, o.op ≠ .select cs b)
    (hd : ∀ d, dst = some d → d ∉ o.looksAt ops ∧ o.dst ≠ some d) : YCur P ops k (a.put dst u) h ↔ YCur P ops k a h := by
  have e : ∀ d, o.dst = some d → (a.put dst u).tmps[d]? = a.tmps[d]? := fun d hod => by
    cases dst with
    | none => rfl
    | some x =>
      have : x ≠ d := fun he => (hd x rfl).2 (he ▸ hod)
      simp [Act.put, Array.getElem?_setIfInBounds_ne this]
  have he := execOp_put o hsel a dst u fun d hd' => (hd d hd').1
  have hw := wanted_put (ops := ops) o a dst u fun d hd' => (hd d hd').1
  constructor
  · intro H o' ho' hwant
    have : o' = o := by rw [ho] at ho'; exact (Option.some.inj ho').symm
    subst this
    obtain ⟨d, v, h1, h2, h3⟩ := H o' ho' (by rw [hw]; exact hwant)
    exact ⟨d, v, h1, by rw [← e d h1]; exact h2, h3.of_same he.symm⟩
  · intro H o' ho' hwant
    have : o' = o := by rw [ho] at ho'; exact (Option.some.inj ho').symm
    subst this
    obtain ⟨d, v, h1, h2, h3⟩ := H o' ho' (by rw [← hw]; exact hwant)
    exact ⟨d, v, h1, by rw [e d h1]; exact h2, h3.of_same he⟩

theorem opSem.mono {o : Oper} {ρ : Operand → Value} {h : Heap} {K K' : Value → Heap → Prop} (H : opSem P o ρ h K) (hk : ∀ v h', K v h' → K' v h') : opSem P o ρ h K' := by
  intro w hw
  exact (H w hw).mono hk

theorem stepH.mono {o : Oper} {a : Act} {h : Heap} {R R' : Act → Heap → Prop} (H : stepH P ops o a h R) (hr : ∀ a' h', (∃ v, a' = a.put o.dst v) → R a' h' → R' a' h') : stepH P ops o a h R' := by
  unfold stepH at *
  split
  · rename_i hw; rw [if_pos hw] at H; exact H.mono fun v h' hk => hr _ _ ⟨v, rfl⟩ hk
  · rename_i hw; rw [if_neg hw] at H; exact hr _ _ ⟨undef, rfl⟩ H

theorem stepH.put {o : Oper} {a : Act} {h : Heap} {dst : Option Tmp} {v : Value} {R : Act → Heap → Prop} (hsel : ∀ cs b, o.op ≠ .select cs b) (h1 : ∀ d, dst = some d → d ∉ o.looksAt ops) (h2 : ∀ d, dst = some d → o.dst ≠ some d)
    (H : stepH P ops o (a.put dst v) h R) : stepH P ops o a h fun a' h' => R (a'.put dst v) h' := by
  unfold stepH at *
  rw [wanted_put o a dst v h1] at H
  split
  · rename_i hw
    rw [if_pos hw] at H
    have he := execOp_put o hsel a dst v h1
    unfold opSem at *
    rw [he] at H
    intro w hww
    have := opSem.mono (P := P) (o := o) (ρ := a.eval) (h := h) (K := fun u h' => R ((a.put dst v).put o.dst u) h') (K' := fun u h' => R ((a.put o.dst u).put dst v) h') H (fun u h' hk => by
      rw [Act.put_comm a v u h2] at hk; exact hk)
    exact this w hww
  · rename_i hw
    rw [if_neg hw] at H
    rw [Act.put_comm a v undef h2] at H
    exact H

theorem WH.fewer : ∀ (fuel T : Nat) (V V' : List Nat) (a : Act) (h : Heap), (∀ k ∈ V, k ∈ V') → WH P qs ops A Q fuel T V' a h → WH P qs ops A Q fuel T V a h
  | 0, _, _, _, _, _, _, H => H
  | fuel + 1, T, V, V', a, h, hV, H => ⟨H.1, fun i hi o ho => ⟨fun hq => let ⟨v, h1, h2⟩ := (H.2 i hi o ho).1 hq; ⟨v, h1, WH.fewer fuel _ V V' _ _ hV h2⟩,
      fun hq => ((H.2 i hi o ho).2 hq).mono fun a' h' _ ⟨h1, h2⟩ => ⟨fun k hk => h1 k (hV k hk), WH.fewer fuel _ V V' _ _ hV h2⟩⟩⟩

theorem take_first (ok : RegOK P qs ops A) {n : Nat} {i : Nat} {oi : Oper} {v : Value} (hi : ops[i]? = some oi) (hq : isQ qs oi = true) (hdst : isSens P oi = true → ∃ d, oi.dst = some d ∧ d < n) :
    ∀ (fuel T : Nat) (V V' : List Nat) (a : Act) (h : Heap), a.tmps.size = n → i ∈ readyL ops T → DC ops A T → YH P ops oi v a h →
      (∀ k ∈ V, k ≠ i ∧ T.testBit k = true ∧ ∃ o, ops[k]? = some o ∧ isQ qs o = true ∧ isSens P o = true) → (∀ k ∈ V, k ∈ V') → (isSens P oi = true → i ∈ V') →
      WH P qs ops A Q fuel (T ||| 2 ^ i) V' (a.put oi.dst v) h → WH P qs ops A Q (fuel + 1) T V a h := by
  intro fuel
  induction fuel with
  | zero =>
    intro T V V' a h hn hr dc hy hV hsub hiV H
    refine ⟨fun h0 => (by rw [h0] at hr; cases hr), fun j hj oj hoj => ?_⟩
    by_cases hji : j = i
    · subst hji
      rw [hi] at hoj
      obtain rfl := Option.some.inj hoj
      exact ⟨fun _ => ⟨v, hy, WH.fewer 0 _ V V' _ _ hsub H⟩, fun hq' => by rw [hq] at hq'; cases hq'⟩
    · have := readyL_mono hj hji
      rw [H.1] at this
      cases this
  | succ fuel ih =>
    intro T V V' a h hn hr dc hy hV hsub hiV H
    refine ⟨fun h0 => (by rw [h0] at hr; cases hr), fun j hj oj hoj => ?_⟩
    by_cases hji : j = i
    · subst hji
      rw [hi] at hoj
      obtain rfl := Option.some.inj hoj
      exact ⟨fun _ => ⟨v, hy, WH.fewer _ _ V V' _ _ hsub H⟩, fun hq' => by rw [hq] at hq'; cases hq'⟩
    · have hj' := readyL_mono hj hji
      obtain ⟨H1, H2⟩ := H.2 j hj' oj hoj
      have hTi : T.testBit i = false := (mem_readyL.1 hr).1
      have hTj : T.testBit j = false := (mem_readyL.1 hj).1
      have hij : (A i).testBit j = false := by
        cases hb : (A i).testBit j with
        | false => rfl
        | true => have := anc_of_ready ok dc hr j hb; rw [hTj] at this; cases this
      have hji' : (A j).testBit i = false := by
        cases hb : (A j).testBit i with
        | false => rfl
        | true => have := anc_of_ready ok dc hj i hb; rw [hTi] at this; cases this
      obtain ⟨p1, p2, p3⟩ := Oper.apart_spec (ok.apart i j oi oj hi hoj (fun h => hji h.symm) hij hji')
      have seli := fun cs b => ok.sel i oi cs b hi
      have selj := fun cs b => ok.sel j oj cs b hoj
      have hcomm : T ||| 2 ^ i ||| 2 ^ j = T ||| 2 ^ j ||| 2 ^ i := by rw [Nat.or_assoc, Nat.or_comm (2 ^ i), ← Nat.or_assoc]
      have hr' := readyL_mono hr (fun h => hji h.symm)
      have dc' := dc.put ok hj
      have hV' : ∀ k ∈ V, k ≠ i ∧ (T ||| 2 ^ j).testBit k = true ∧ ∃ o, ops[k]? = some o ∧ isQ qs o = true ∧ isSens P o = true := fun k hk => by
        obtain ⟨h1, h2, h3⟩ := hV k hk
        exact ⟨h1, by rw [testBit_or_pow, h2]; rfl, h3⟩
      refine ⟨fun hqj => ?_, fun hqj => ?_⟩
      · obtain ⟨u, hu, hw⟩ := H1 hqj
        refine ⟨u, (YH.put selj p1).1 hu, ih (T ||| 2 ^ j) V V' (a.put oj.dst u) h (by cases oj.dst <;> simp [Act.put, hn]) hr' dc' ((YH.put seli p3).2 hy) hV' hsub hiV ?_⟩
        rw [hcomm, Act.put_comm a v u p2] at hw
        exact hw
      · have H3 := (H2 hqj).put selj p1 (fun d hd => p2 d hd)
        refine H3.mono fun a' h' ⟨u, ha'⟩ ⟨h1, h2⟩ => ?_
        have hsz : a'.tmps.size = n := by rw [ha']; cases oj.dst <;> simp [Act.put, hn]
        have hlive : ∀ k, live qs ops A k (T ||| 2 ^ j) → live qs ops A k (T ||| 2 ^ i ||| 2 ^ j) := fun k hl e he ht => by
          refine hl e he ?_
          rw [testBit_or_pow, testBit_or_pow] at ht
          rw [testBit_or_pow]
          by_cases hie : i = e
          · subst hie; simp [effAt, hi, hq] at he
          · simpa [hie] using ht
        have hself := ok.self i oi hi hq
        refine ⟨fun k hk hl => ?_, ih (T ||| 2 ^ j) V V' a' h' hsz hr' dc' ?_ hV' hsub hiV (by rw [hcomm] at h2; exact h2)⟩
        · obtain ⟨hki, hTk, o, ho, hqo, hso⟩ := hV k hk
          have hAk : (A k).testBit i = false := by
            cases hb : (A k).testBit i with
            | false => rfl
            | true => have := dc k (Array.getElem?_eq_some_iff.1 ho).1 hTk i hb; rw [hTi] at this; cases this
          exact (YCur.put ho (fun cs b => ok.sel k o cs b ho) (ok.sens k i o oi ho hi hqo hso hki hAk)).1 (h1 k (hsub k hk) (hlive k hl))
        · have hya : YH P ops oi v a' h := by rw [ha']; exact (YH.put seli p3).2 hy
          cases hs : isSens P oi with
          | false => exact hya.pure hs
          | true =>
            have hl : live qs ops A i (T ||| 2 ^ i ||| 2 ^ j) := fun e he ht => by
              cases hb : (A e).testBit i with
              | false => rfl
              | true =>
                rw [testBit_or_pow, testBit_or_pow] at ht
                by_cases hie : i = e
                · subst hie; simp [effAt, hi, hq] at he
                · by_cases hje : j = e
                  · subst hje; rw [hji'] at hb; cases hb
                  · have hte : T.testBit e = true := by simpa [hie, hje] using ht
                    have hlt : e < ops.size := by
                      unfold effAt at he
                      split at he
                      · rename_i o ho; exact (Array.getElem?_eq_some_iff.1 ho).1
                      · cases he
                    have := dc e hlt hte i hb
                    rw [hTi] at this; cases this
            rcases hya with ⟨hwant, _⟩ | ⟨hwant, hun⟩
            · have hwant' : Region.wanted oi (yielded ops (a'.put oi.dst v).tmps) = true := by rw [wanted_put oi a' oi.dst v hself]; exact hwant
              obtain ⟨d, v', hd, hv', hy'⟩ := h1 i (hiV hs) hl oi hi hwant'
              obtain ⟨d', hd', hlt⟩ := hdst hs
              rw [hd] at hd'
              obtain rfl := Option.some.inj hd'
              have : v' = v := by
                rw [hd] at hv'
                simp [Act.put, hsz, hlt] at hv'
                exact hv'.symm
              subst this
              exact .inl ⟨hwant, hy'.of_same (execOp_put oi seli a' oi.dst v' hself).symm⟩
            · exact .inr ⟨hwant, hun⟩
end
end Go.Hv

/- Regions that draw their order: the heap condition. -/
namespace Go.Hv

/-- an operation that only looks -/
def vcQ (P : Program) (o : Oper) (env : Env) (h : Heap) (K : Value → Prop) : Prop :=
  match o.op with
  | .call c => (match c.callee with
    | .value (.func f) => (match evs env c.args.toList with
      | some args => exRes P o.type fun u => HC P f args.toArray h (fun v h' => v = u ∧ h' = h) ∧ K u
      | none => False)
    | _ => vcOp P o env h fun v _ => K v)
  | _ => vcOp P o env h fun v _ => K v

def ancL (ops : Array Oper) : List Nat := (Region.before ops).toList
def ancAt (L : List Nat) (i : Nat) : Nat := L.getD i 0

def ancFold (A : Nat → Nat) : List Edge → Nat
  | [] => 0
  | e :: l => bif Region.binds .any e then (2 ^ e.on ||| A e.on) ||| ancFold A l else ancFold A l

def notLook (ops : Array Oper) (o : Oper) (dst : Option Tmp) : Bool := match dst with | some d => !(elemN (o.looksAt ops) d) | none => true
def notSame (a b : Option Tmp) : Bool := match a, b with | some x, some y => !(Nat.beq x y) | _, _ => true
def notSel (o : Oper) : Bool := match o.op with | .select _ _ => false | _ => true

def apartB (ops : Array Oper) (x y : Oper) : Bool := notLook ops y x.dst && notSame x.dst y.dst && notLook ops x y.dst

def pairB (P : Program) (qs : List Nat) (ops : Array Oper) (A : Nat → Nat) (i j : Nat) (oi oj : Oper) : Bool :=
  Nat.beq i j || (((A i).testBit j || (A j).testBit i || apartB ops oi oj) &&
    (!(isQ qs oi && isSens P oi) || (A i).testBit j || (notLook ops oi oj.dst && notSame oi.dst oj.dst)))

def allIdx (ops : List Oper) (i : Nat) (p : Nat → Oper → Bool) : Bool := match ops with | [] => true | o :: l => p i o && allIdx l (i + 1) p

def regOKB (P : Program) (qs : List Nat) (ops : Array Oper) (n : Nat) (A : Nat → Nat) : Bool :=
  allIdx ops.toList 0 fun i o =>
    Nat.beq (A i) (ancFold A o.after.toList) && (o.after.toList.all fun e => !Region.binds .any e || Nat.blt e.on ops.size) && (!isQ qs o || notLook ops o o.dst) && notSel o &&
    (!(isQ qs o && isSens P o) || (match o.dst with | some d => Nat.blt d n | none => false)) &&
    allIdx ops.toList 0 fun j o' => pairB P qs ops A i j o o'

/-- what looks at the heap, is over, and might yet come up, is looked at again -/
def reRun (P : Program) (ops : Array Oper) (env : Env) (h : Heap) : List Nat → Prop → Prop
  | [], K => K
  | i :: l, K => (match ops[i]? with
    | none => reRun P ops env h l K
    | some o => guardE ops o env fun run _ => match run with
      | true => (match o.dst with
        | some d => (match getE env d with
          | some v => vcQ P o env h (fun v' => v' = v) ∧ reRun P ops env h l K
          | none => False)
        | none => False)
      | false => reRun P ops env h l K)

def liveB (qs : List Nat) (ops : Array Oper) (A : Nat → Nat) (k T : Nat) : Bool := allIdx ops.toList 0 fun e o => isQ qs o || !T.testBit e || !(A e).testBit k

def sensAt (P : Program) (qs : List Nat) (ops : Array Oper) (k : Nat) : Bool := match ops[k]? with | some o => isQ qs o && isSens P o | none => false
def quietAt (qs : List Nat) (ops : Array Oper) (k : Nat) : Bool := match ops[k]? with | some o => isQ qs o | none => false

/-- those that are looked at again behind an operation -/
def again (P : Program) (qs : List Nat) (ops : Array Oper) (A : Nat → Nat) (T : Nat) : List Nat :=
  (List.range ops.size).filter fun k => sensAt P qs ops k && T.testBit k && liveB qs ops A k T

def conj : List Nat → (Nat → Prop) → Prop
  | [], _ => True
  | [i], k => k i
  | i :: l, k => k i ∧ conj l k

def firstQ (qs : List Nat) (ops : Array Oper) (T : Nat) : Option Nat := (readyL ops T).find? fun i => quietAt qs ops i

def vcPh (P : Program) (n : Nat) (qs : List Nat) (ops : Array Oper) (A : Nat → Nat) (K : Env → Heap → Prop) : Nat → Nat → Env → Heap → Prop
  | 0, _, _, _ => False
  | fuel + 1, T, env, h =>
    match firstQ qs ops T with
    | some i => (match ops[i]? with
      | none => False
      | some o => guardE ops o env fun run env => match run with
        | true => vcQ P o env h fun v => vcPh P n qs ops A K fuel (T ||| 2 ^ i) (putE n env o.dst v) h
        | false => vcPh P n qs ops A K fuel (T ||| 2 ^ i) (putE n env o.dst undef) h)
    | none => (match readyL ops T with
      | [] => K env h
      | l => conj l fun i => match ops[i]? with
        | none => False
        | some o => guardE ops o env fun run env => match run with
          | true => vcOp P o env h fun v h' => nameH (turns o) h' fun h' => reRun P ops (putE n env o.dst v) h' (again P qs ops A (T ||| 2 ^ i)) (vcPh P n qs ops A K fuel (T ||| 2 ^ i) (putE n env o.dst v) h')
          | false => vcPh P n qs ops A K fuel (T ||| 2 ^ i) (putE n env o.dst undef) h)

def vcDraw (P : Program) (n : Nat) (qs : List Nat) (ops : Array Oper) (env : Env) (h : Heap) (K : Env → Heap → Prop) : Prop :=
  bif regOKB P qs ops n (ancAt (ancL ops)) then vcPh P n qs ops (ancAt (ancL ops)) K (ops.size + 1) 0 env h else False

section
variable {P : Program} {qs : List Nat} {ops : Array Oper} {A : Nat → Nat}

theorem testBit_ancFold {k : Nat} : ∀ {l : List Edge}, (ancFold A l).testBit k = true ↔ ∃ e ∈ l, Region.binds .any e = true ∧ (k = e.on ∨ (A e.on).testBit k = true)
  | [] => by simp [ancFold]
  | e :: l => by
    simp only [ancFold]
    cases hb : Region.binds .any e with
    | true =>
      simp only [cond_true, Nat.testBit_or, Nat.testBit_two_pow, Bool.or_eq_true, decide_eq_true_eq, testBit_ancFold, List.mem_cons]
      constructor
      · rintro ((h | h) | ⟨e', he, h⟩)
        · exact ⟨e, .inl rfl, hb, .inl h.symm⟩
        · exact ⟨e, .inl rfl, hb, .inr h⟩
        · exact ⟨e', .inr he, h⟩
      · rintro ⟨e', rfl | he, h1, h2⟩
        · rcases h2 with h2 | h2
          · exact .inl (.inl h2.symm)
          · exact .inl (.inr h2)
        · exact .inr ⟨e', he, h1, h2⟩
    | false =>
      simp only [cond_false, testBit_ancFold, List.mem_cons]
      constructor
      · rintro ⟨e', he, h⟩; exact ⟨e', .inr he, h⟩
      · rintro ⟨e', rfl | he, h1, h2⟩
        · rw [hb] at h1; cases h1
        · exact ⟨e', he, h1, h2⟩

theorem allIdx_spec {p : Nat → Oper → Bool} : ∀ {l : List Oper} {i : Nat}, allIdx l i p = true → ∀ j o, l[j]? = some o → p (i + j) o = true
  | [], i, _, j, o, h => by simp at h
  | x :: l, i, H, j, o, h => by
    simp only [allIdx, Bool.and_eq_true] at H
    cases j with
    | zero => simp only [List.getElem?_cons_zero, Option.some.injEq] at h; subst h; exact H.1
    | succ j =>
      have := allIdx_spec H.2 j o (by simpa using h)
      rwa [Nat.add_assoc, Nat.add_comm 1 j] at this

theorem elemN_mem {l : List Nat} {y : Nat} : elemN l y = true ↔ y ∈ l := by
  induction l with
  | nil => simp [elemN]
  | cons x l ih => rw [elemN_cons, Bool.or_eq_true, ih, decide_eq_true_eq, List.mem_cons]; exact ⟨fun h => h.imp Eq.symm id, fun h => h.imp Eq.symm id⟩

theorem notLook_spec {o : Oper} {dst : Option Tmp} (h : notLook ops o dst = true) : ∀ d, dst = some d → d ∉ o.looksAt ops := by
  intro d hd
  subst hd
  simp only [notLook, Bool.not_eq_true'] at h
  intro hm
  rw [elemN_mem.2 hm] at h
  cases h
theorem notSame_spec {a b : Option Tmp} (h : notSame a b = true) : ∀ d, b = some d → a ≠ some d := by
  intro d hd ha
  subst hd ha
  simp [notSame] at h
theorem apartB_spec {x y : Oper} (h : apartB ops x y = true) : x.apart ops y = true := by
  simp only [apartB, Bool.and_eq_true] at h
  obtain ⟨⟨h1, h2⟩, h3⟩ := h
  have g1 := notLook_spec h1
  have g3 := notLook_spec h3
  unfold Oper.apart
  cases hx : x.dst with
  | none =>
    cases hy : y.dst with
    | none => rfl
    | some e => simpa using g3 e hy
  | some d =>
    cases hy : y.dst with
    | none => simpa using g1 d hx
    | some e =>
      have h4 := notSame_spec h2 e hy
      rw [hx] at h4
      have h5 : ¬ d = e := fun he => h4 (by rw [he])
      simp only [Bool.and_eq_true, Bool.not_eq_true', bne_iff_ne, ne_eq, Option.some.injEq]
      exact ⟨⟨by simpa using g1 d hx, fun he => h5 he.symm⟩, by simpa using g3 e hy⟩

theorem regOK_of {n : Nat} (h : regOKB P qs ops n A = true) : RegOK P qs ops A ∧ ∀ (i : Nat) (o : Oper), ops[i]? = some o → isQ qs o = true → isSens P o = true → ∃ d, o.dst = some d ∧ d < n := by
  have key : ∀ (i : Nat) (o : Oper), ops[i]? = some o → (Nat.beq (A i) (ancFold A o.after.toList) = true ∧ (o.after.toList.all fun e => !Region.binds .any e || Nat.blt e.on ops.size) = true ∧ (!isQ qs o || notLook ops o o.dst) = true ∧ notSel o = true ∧
      (!(isQ qs o && isSens P o) || (match o.dst with | some d => Nat.blt d n | none => false)) = true ∧ ∀ j o', ops[j]? = some o' → pairB P qs ops A i j o o' = true) := fun i o ho => by
    have := allIdx_spec h i o (by simpa using ho)
    simp only [Nat.zero_add, Bool.and_eq_true] at this
    obtain ⟨⟨⟨⟨⟨h1, h2⟩, h3⟩, h4⟩, h5⟩, h6⟩ := this
    exact ⟨h1, h2, h3, h4, h5, fun j o' ho' => by have := allIdx_spec h6 j o' (by simpa using ho'); rwa [Nat.zero_add] at this⟩
  refine ⟨⟨?_, ?_, ?_, ?_, ?_, ?_⟩, ?_⟩
  · intro i o ho k
    rw [Nat.eq_of_beq_eq_true (key i o ho).1, testBit_ancFold]
    simp
  · intro i o ho e he hb
    have := List.all_eq_true.1 (key i o ho).2.1 e (by simpa using he)
    rw [hb] at this
    simpa using this
  · intro i j oi oj hoi hoj hne h1 h2
    have := (key i oi hoi).2.2.2.2.2 j oj hoj
    simp only [pairB, beq_false hne, Bool.false_or, Bool.and_eq_true, h1, h2] at this
    exact apartB_spec this.1
  · intro i o ho hq
    have := (key i o ho).2.2.1
    rw [hq] at this
    exact notLook_spec (by simpa using this)
  · intro k i ok oi hok hoi hq hs hne hA
    have := (key k ok hok).2.2.2.2.2 i oi hoi
    simp only [pairB, beq_false hne, Bool.false_or, Bool.and_eq_true, hq, hs, hA, Bool.and_self, Bool.not_true] at this
    intro d hd
    exact ⟨notLook_spec this.2.1 d hd, notSame_spec this.2.2 d hd⟩
  · intro i o cs b ho he
    have := (key i o ho).2.2.2.1
    simp [notSel, he] at this
  · intro i o ho hq hs
    have := (key i o ho).2.2.2.2.1
    rw [hq, hs] at this
    simp only [Bool.and_self, Bool.not_true, Bool.false_or] at this
    split at this
    · rename_i d hd; exact ⟨d, hd, Nat.le_of_ble_eq_true this⟩
    · cases this
end
end Go.Hv

/- Regions that draw their order: the heap condition is enough. -/
namespace Go.Hv
section
variable {P : Program} {qs : List Nat} {ops : Array Oper} {A : Nat → Nat}

theorem qy_of_run {o : Oper} {ρ : Operand → Value} {h : Heap} {v : Value} {pure : Bool} (H : ∀ w : World, pure = true ∨ w.heap = h → (execOp ρ o).run P w = .ok (.value v) w) : QY P pure o ρ h v := by
  intro w hw
  rw [H w hw]
  exact ⟨⟨rfl, rfl⟩, Same.refl w⟩

theorem runv {s : Sem Value} {v : Value} {w : World} (h : s.run P w = .ok v w) : (do pure (.value (← s)) : Sem Next).run P w = .ok (.value v) w := by
  simp only [Sem.run_bind, h, Result.andThen_ok, Sem.run_pure]

theorem builtin_op_run {c : Call} {ty : TypeId} {ρ : Operand → Value} {b : Builtin} {args : Array Value} {s : Sem Value} {v : Value} {w : World} (hc : c.callee = .builtin b) (ha : c.args.map ρ = args)
    (hb : ∀ cs, builtin b c.argTypes ty cs args = (do pure (.value (← s)))) (hs : s.run P w = .ok v w) : ((do let d ← resolve ρ c ty; invoke d.target d.args : Sem Next).run P w) = .ok (.value v) w := by
  rw [resolve_builtin hc, ha]
  simp only [Sem.run_bind, Sem.run_pure, Result.andThen_ok, invoke]
  exact builtin_run (hb _) hs

theorem quiet_sound {o : Oper} (hq : isQ qs o = true) {env : Env} {ρ : Operand → Value} (hρ : ∀ x v, ev env x = some v → ρ x = v) {h : Heap} {K : Value → Prop} (H : vcQ P o env h K) :
    ∃ v, K v ∧ QY P (!isSens P o) o ρ h v := by
  obtain ⟨dst, op, type, pos, after, guard⟩ := o
  unfold isQ at hq
  unfold vcQ vcOp at H
  cases op <;> simp only at H hq <;> first | (cases hq; done) | skip
  case move x => obtain ⟨v, hv, hk⟩ := wV_elim H; exact ⟨v, hk, qy_of_run fun w _ => by simp only [execOp]; rw [hρ _ _ hv]; rfl⟩
  case assign x => obtain ⟨v, hv, hk⟩ := wV_elim H; exact ⟨v, reT_elim hk, qy_of_run fun w _ => by simp only [execOp]; rw [hρ _ _ hv]; rfl⟩
  case pick c a b =>
    obtain ⟨v, hv, H1⟩ := wV_elim H
    obtain ⟨c', rfl, H2⟩ := asB_elim H1
    cases c' with
    | true =>
      obtain ⟨u, hu, hk⟩ := wV_elim H2
      exact ⟨u, hk, qy_of_run fun w _ => by simp only [execOp]; rw [hρ _ _ hv]; simp only [asBool, Sem.run_bind, Sem.run_pure, Result.andThen_ok, if_true]; rw [hρ _ _ hu]⟩
    | false =>
      obtain ⟨u, hu, hk⟩ := wV_elim H2
      exact ⟨u, hk, qy_of_run fun w _ => by simp only [execOp]; rw [hρ _ _ hv]; simp only [asBool, Sem.run_bind, Sem.run_pure, Result.andThen_ok, Bool.false_eq_true, if_false]; rw [hρ _ _ hu]⟩
  case build t ps =>
    split at H
    · rename_i ps' hps
      split at H
      · rename_i cs hcs
        -- the run does not look at the world: as 'vcOp_sound' has it, at each world
        refine ⟨.agg cs.toArray, H, fun w _ => ?_⟩
        have := vcOp_sound (P := P) (o := ⟨dst, .build t ps, type, pos, after, guard⟩) (env := env) (ρ := ρ) hρ (h := w.heap) (K := fun v' h' => v' = .agg cs.toArray ∧ h' = w.heap) (by
          simp only [vcOp, hps, hcs]; exact ⟨trivial, trivial⟩)
        exact this w rfl
      · exact H.elim
    · exact H.elim
  case load t x =>
    obtain ⟨v, hv, H1⟩ := wV_elim H
    obtain ⟨a, rfl, H2⟩ := asP_elim H1
    obtain ⟨p, rfl, H3⟩ := optE_some H2
    obtain ⟨u, hr, hk⟩ := vcLoad_sound H3
    refine ⟨u, hk, qy_of_run fun w hw => ?_⟩
    have hw' : w.heap = h := hw.resolve_left (by simp [isSens])
    simp only [execOp]
    rw [hρ _ _ hv]
    exact runv (by simp only [Instr.loadAt, Instr.sureAddr, Sem.run_bind, Sem.run_pure, Result.andThen_ok, hr w hw'])
  case nilCheck x =>
    obtain ⟨v, hv, H1⟩ := wV_elim H
    split at H1
    · obtain ⟨p, rfl, hk⟩ := optE_some H1
      exact ⟨_, hk, qy_of_run fun w _ => by simp only [execOp]; rw [hρ _ _ hv]; rfl⟩
    · exact ⟨_, H1, qy_of_run fun w _ => by simp only [execOp]; rw [hρ _ _ hv]; rfl⟩
    · obtain ⟨hn, hk⟩ := H1
      exact ⟨_, hk, qy_of_run fun w _ => hn.ok w { dst, op := .nilCheck x, type, pos, after, guard } ρ x rfl (hρ _ _ hv)⟩
    · exact H1.elim
  case binOp op t x y yt =>
    obtain ⟨v, hv, H1⟩ := wV_elim H
    obtain ⟨u, hu, H1⟩ := wV_elim H1
    obtain ⟨r, hr, hk⟩ := vcBin_sound H1
    refine ⟨r, hk, qy_of_run fun w _ => ?_⟩
    simp only [execOp]
    rw [hρ _ _ hv, hρ _ _ hu]
    exact runv (by rw [Sem.run_bind, run_eqGuard (vcBin_guard H1).1 (vcBin_guard H1).2, Result.andThen_ok, hr w])
  case unOp op t x =>
    obtain ⟨v, hv, H1⟩ := wV_elim H
    split at H1
    · obtain ⟨b, rfl, hk⟩ := asB_elim H1
      exact ⟨_, hk, qy_of_run fun w _ => by simp only [execOp]; rw [hρ _ _ hv]; exact runv (by simp [Op.unary])⟩
    · obtain ⟨j, n, rfl, hk⟩ := asI_elim H1
      exact ⟨_, arI_elim hk, qy_of_run fun w _ => by simp only [execOp]; rw [hρ _ _ hv]; exact runv (by simp [Op.unary, Op.intArith])⟩
    · exact H1.elim
  case convert s d x =>
    obtain ⟨v, hv, H1⟩ := wV_elim H
    split at H1
    · rename_i sd k hsd hk'
      obtain ⟨j, n, rfl, hk⟩ := asI_elim H1
      refine ⟨_, arI_elim hk, qy_of_run fun w _ => ?_⟩
      simp only [execOp]
      rw [hρ _ _ hv]
      exact runv (by cases sd <;> simp [convert, underlying_run hsd, underlying_run hk', Conv.intToInt])
    · rename_i e hsd hd
      split at H1
      · rename_i he
        obtain ⟨a, n, c, rfl, H2⟩ := asS_elim H1
        obtain ⟨t, ht, hk⟩ := H2
        refine ⟨_, hk, qy_of_run fun w hw => ?_⟩
        have hw' : w.heap = h := hw.resolve_left (by simp [isSens, hd])
        simp only [execOp]
        rw [hρ _ _ hv]
        exact runv (convert_str hsd he hd (hw' ▸ ht))
      · exact H1.elim
    · exact H1.elim
  case makeInterface t x =>
    obtain ⟨v, hv, H1⟩ := wV_elim H
    split at H1
    · exact H1.elim
    · rename_i d hne hd
      refine ⟨_, H1, qy_of_run fun w _ => ?_⟩
      simp only [execOp]
      rw [hρ _ _ hv]
      exact runv (by cases d <;> first | (simp [Instr.makeInterface, underlying_run hd]; done) | exact absurd rfl (hne _))
    · exact H1.elim
  case makeFunc fn a b =>
    split at H
    · rename_i as bs ha hb
      refine ⟨_, H, qy_of_run fun w _ => ?_⟩
      simp only [execOp]
      rw [evs_arr hρ ha, evs_arr hρ hb]
      exact runv (by simp [Instr.makeFunc])
    · exact H.elim
  case slice t x lo hi mx =>
    obtain ⟨v, hv, H1⟩ := wV_elim H
    split at H1
    · rename_i a b c ha hb hc
      obtain ⟨r, hr, hk⟩ := vcSlice_sound H1
      refine ⟨r, hk, qy_of_run fun w _ => ?_⟩
      simp only [execOp]
      rw [hρ _ _ hv, evOpt_spec hρ ha, evOpt_spec hρ hb, evOpt_spec hρ hc]
      exact runv (hr w)
    · exact H1.elim
  case fieldAddr t x i =>
    obtain ⟨v, hv, H1⟩ := wV_elim H
    obtain ⟨a, rfl, H2⟩ := asP_elim H1
    obtain ⟨p, rfl, H3⟩ := optE_some H2
    split at H3
    · rename_i k hk'
      obtain ⟨fs, f, hu, hf, hne, rfl⟩ := fieldOff_spec hk'
      obtain ⟨fi, hfi⟩ := cellsOf_info hne
      refine ⟨_, H3, qy_of_run fun w _ => ?_⟩
      simp only [execOp]
      rw [hρ _ _ hv]
      exact runv (by simp [Instr.fieldAt, underlying_run hu, hf, Instr.sureAddr, fieldPlace, sizeOf_run hfi, hne])
    · exact H3.elim
  case field t x i =>
    obtain ⟨v, hv, H1⟩ := wV_elim H
    split at H1
    · split at H1
      · rename_i u hu
        exact ⟨u, H1, qy_of_run fun w _ => by simp only [execOp]; rw [hρ _ _ hv]; exact runv (fieldPart_spec hu)⟩
      · exact H1.elim
    · exact H1.elim
  case indexAddr t x i =>
    obtain ⟨v, hv, H1⟩ := wV_elim H
    obtain ⟨u, hu, H1⟩ := wV_elim H1
    obtain ⟨r, hr, hk⟩ := vcIndexAddr_sound H1
    exact ⟨r, hk, qy_of_run fun w _ => by simp only [execOp]; rw [hρ _ _ hv, hρ _ _ hu]; exact runv (hr w)⟩
  case index t x i =>
    obtain ⟨v, hv, H1⟩ := wV_elim H
    obtain ⟨u, hu, H1⟩ := wV_elim H1
    obtain ⟨r, hr, hk⟩ := vcIndex_sound H1
    exact ⟨r, hk, qy_of_run fun w _ => by simp only [execOp]; rw [hρ _ _ hv, hρ _ _ hu]; exact runv (hr w)⟩
  case lookup t x i ok =>
    obtain ⟨v, hv, H1⟩ := wV_elim H
    obtain ⟨u, hu, H1⟩ := wV_elim H1
    obtain ⟨r, hr, hk⟩ := vcLookup_sound H1
    refine ⟨r, hk, qy_of_run fun w hw => ?_⟩
    have hw' : w.heap = h := hw.resolve_left (by simp [isSens])
    simp only [execOp]
    rw [hρ _ _ hv, hρ _ _ hu]
    exact runv (hr w hw')
  case extract x i =>
    obtain ⟨v, hv, H1⟩ := wV_elim H
    split at H1
    · split at H1
      · rename_i vs _ u hu
        refine ⟨u, reT_elim H1, qy_of_run fun w _ => ?_⟩
        simp only [execOp]
        rw [hρ _ _ hv]
        exact runv (by
          have : vs[i]? = some u := by simpa using hu
          simp [Instr.extract, this])
      · exact H1.elim
    · exact H1.elim
  case call c =>
    split at H
    · -- a function
      rename_i f hc
      split at H
      · rename_i args ha
        obtain ⟨u, hcall, hk⟩ := exRes_elim H
        refine ⟨u, hk, fun w hw => ?_⟩
        have hs : isSens P ⟨dst, .call c, type, pos, after, guard⟩ = true := by simp [isSens, hc]
        have hw' : w.heap = h := hw.resolve_left (by simp [hs])
        subst hw'
        simp only [execOp]
        rw [resolve_value hc, evs_arr hρ ha, hρ (.func f) _ rfl]
        have : ((Deferred.ofValue (.func (.func f) #[] #[]) args.toArray) >>= fun d => invoke d.target d.args).run P w = (callFunc f args.toArray).run P w := by simp [Deferred.ofValue, invoke]
        rw [this, hcall.enter]
        exact hcall.opOK fun v h hx => hx
      · exact H.elim
    · rename_i x hnf
      unfold vcCall at H
      split at H
      · exact H.elim
      rename_i args ha
      have hargs := evs_arr hρ ha
      cases hc : c.callee with
      | invoke r m => rw [hc] at hq; cases hq
      | value x =>
        cases x with
        | func f => exact absurd hc (hnf f)
        | _ => rw [hc] at hq; cases hq
      | builtin b =>
        rw [hc] at hq H
        simp only at H
        have hty : ∀ {l : List TypeId} {t : TypeId} {i : Nat}, c.argTypes.toList = l → l[i]? = some t → c.argTypes[i]? = some t := fun hl hi => by rw [← hl] at hi; simpa using hi
        split at H
        · rename_i x t hat
          have hx := hty hat (i := 0) rfl
          by_cases hm : isSens P ⟨dst, .call c, type, pos, after, guard⟩ = true
          · obtain ⟨v, hs, hk⟩ := vcLen_sound (P := P) (ty := type) hx H
            refine ⟨v, hk, qy_of_run fun w hw => ?_⟩
            have hw' : w.heap = h := hw.resolve_left (by simp [hm])
            simp only [execOp]
            exact builtin_op_run hc hargs (fun _ => rfl) (hs w hw')
          · have hnm : ∀ k e, P.underlying t ≠ some (.map k e) := fun k e hu => hm (by simp [isSens, hc, hat, hu])
            -- not a map: the heap is not looked at
            have H' : ∀ h', vcLen P t x h' K := fun h' => by
              unfold vcLen at H ⊢
              split at H
              · exact H
              · exact H
              · split at H
                · rename_i k e hu; exact absurd hu (hnm k e)
                · exact H.elim
              · exact H.elim
            obtain ⟨v, hs, hk⟩ := vcLen_sound (P := P) (ty := type) hx H
            refine ⟨v, hk, qy_of_run fun w _ => ?_⟩
            have hlen : (Builtin.len_ c.argTypes type #[x]).run P w = .ok v w := by
              -- the value is the same at every heap
              have := hs { w with heap := h } rfl
              unfold vcLen at H
              split at H
              · split at H
                · rename_i e hu; simp [Builtin.len_, hx, underlying_run hu, goInt] at this ⊢; exact this
                · exact H.elim
              · split at H
                · rename_i hu; simp [Builtin.len_, hx, underlying_run hu, goInt] at this ⊢; exact this
                · exact H.elim
              · split at H
                · rename_i k e hu; exact absurd hu (hnm k e)
                · exact H.elim
              · exact H.elim
            simp only [execOp]
            exact builtin_op_run hc hargs (fun _ => rfl) hlen
        · rename_i x t hat
          split at H
          · rename_i e he
            obtain ⟨a, n, cc, rfl, hk⟩ := asS_elim H
            have hx := hty hat (i := 0) rfl
            refine ⟨_, hk, qy_of_run fun w _ => ?_⟩
            simp only [execOp]
            exact builtin_op_run (s := Builtin.cap_ c.argTypes type _) hc hargs (fun _ => rfl) (by simp [Builtin.cap_, hx, underlying_run (elemOfSl_spec he).1, goInt])
          · exact H.elim
        · cases hq
        · cases hq
        · cases hq
        · cases hq
        · rename_i l _
          unfold vcMin at H
          split at H
          · rename_i j a l
            obtain ⟨v, hs, hk⟩ := vcMin_sound (P := P) (g := Builtin.min2) (fun j a b w => min2_int) H
            refine ⟨v, hk, qy_of_run fun w _ => ?_⟩
            simp only [execOp]
            exact builtin_op_run (s := Builtin.min_ c.argTypes type _) hc hargs (fun _ => rfl) (by simpa [Builtin.min_] using hs w)
          · exact H.elim
        · rename_i l _
          unfold vcMin at H
          split at H
          · rename_i j a l
            obtain ⟨v, hs, hk⟩ := vcMin_sound (P := P) (g := Builtin.max2) (fun j a b w => max2_int) H
            refine ⟨v, hk, qy_of_run fun w _ => ?_⟩
            simp only [execOp]
            exact builtin_op_run (s := Builtin.max_ c.argTypes type _) hc hargs (fun _ => rfl) (by simpa [Builtin.max_] using hs w)
          · exact H.elim
        · exact H.elim
end
end Go.Hv

/- Regions that draw their order: the heap condition is enough (joined). -/
namespace Go.Hv
section
variable {P : Program} {qs : List Nat} {ops : Array Oper} {A : Nat → Nat} {n : Nat} {ds : List Deferred}

def cnt (ops : Array Oper) (T : Nat) : Nat := ((List.range ops.size).filter fun i => !T.testBit i).length

theorem cnt_put {T i : Nat} (hi : i < ops.size) (hT : T.testBit i = false) : cnt ops T = cnt ops (T ||| 2 ^ i) + 1 := by
  unfold cnt
  have key : ∀ m, i < m → ((List.range m).filter fun j => !T.testBit j).length = ((List.range m).filter fun j => !(T ||| 2 ^ i).testBit j).length + 1 := by
    intro m
    induction m with
    | zero => intro h; omega
    | succ m ih =>
      intro h
      rw [List.range_succ, List.filter_append, List.filter_append, List.length_append, List.length_append]
      rcases Nat.lt_or_ge i m with h1 | h1
      · rw [ih h1]
        have : (T ||| 2 ^ i).testBit m = T.testBit m := by rw [testBit_or_pow]; have : ¬ i = m := by omega
                                                           simp [this]
        simp only [List.filter_cons, List.filter_nil, this]
        omega
      · have him : i = m := by omega
        subst him
        have h2 : ∀ k ≤ i, (List.range k).filter (fun j => !(T ||| 2 ^ i).testBit j) = (List.range k).filter (fun j => !T.testBit j) := fun k hk => by
          apply List.filter_congr
          intro j hj
          have : ¬ i = j := by have := List.mem_range.1 hj; omega
          rw [testBit_or_pow]; simp [this]
        rw [h2 i (Nat.le_refl _)]
        simp [hT]
  exact key _ hi

theorem conj_spec {k : Nat → Prop} : ∀ {l : List Nat}, conj l k → ∀ i ∈ l, k i
  | [], _, i, hi => by cases hi
  | [x], H, i, hi => by simp only [List.mem_singleton] at hi; subst hi; exact H
  | x :: y :: l, H, i, hi => by
    rcases List.mem_cons.1 hi with rfl | hi
    · exact H.1
    · exact conj_spec H.2 i hi

theorem reRun_sound {env : Env} {a : Act} {h : Heap} (g : Good n ds env a) {K : Prop} : ∀ {l : List Nat}, reRun P ops env h l K → (∀ k ∈ l, (∃ o, ops[k]? = some o ∧ isQ qs o = true) → YCur P ops k a h) ∧ K
  | [], H => ⟨fun k hk => (by cases hk), H⟩
  | i :: l, H => by
    simp only [reRun] at H
    cases ho : ops[i]? with
    | none =>
      rw [ho] at H
      obtain ⟨h1, h2⟩ := reRun_sound g (l := l) H
      refine ⟨fun k hk hex => ?_, h2⟩
      rcases List.mem_cons.1 hk with rfl | hk
      · obtain ⟨o, ho', _⟩ := hex; rw [ho] at ho'; cases ho'
      · exact h1 k hk hex
    | some o =>
      rw [ho] at H
      obtain ⟨env', g', H'⟩ := guardE_sound g H
      cases hw : Region.wanted o (yielded ops a.tmps) with
      | true =>
        rw [hw] at H'
        simp only at H'
        split at H'
        · rename_i d hd
          split at H'
          · rename_i v hv
            obtain ⟨hq, H''⟩ := H'
            obtain ⟨h1, h2⟩ := reRun_sound g (l := l) H''
            refine ⟨fun k hk hex => ?_, h2⟩
            rcases List.mem_cons.1 hk with rfl | hk
            · intro o' ho' _
              obtain ⟨o'', ho'', hq''⟩ := hex
              rw [ho] at ho' ho''
              obtain rfl := Option.some.inj ho'
              obtain rfl := Option.some.inj ho''
              obtain ⟨v', hv', hqy⟩ := quiet_sound (qs := qs) hq'' g.eval hq
              subst hv'
              exact ⟨d, v', hd, g.agree _ _ hv, hqy⟩
            · exact h1 k hk hex
          · exact H'.elim
        · exact H'.elim
      | false =>
        rw [hw] at H'
        obtain ⟨h1, h2⟩ := reRun_sound g (l := l) H'
        refine ⟨fun k hk hex => ?_, h2⟩
        rcases List.mem_cons.1 hk with rfl | hk
        · intro o' ho' hwant
          rw [ho] at ho'
          obtain rfl := Option.some.inj ho'
          rw [hw] at hwant; cases hwant
        · exact h1 k hk hex

theorem live_put {k T i : Nat} {o : Oper} (hi : ops[i]? = some o) (hq : isQ qs o = true) (hl : live qs ops A k (T ||| 2 ^ i)) : live qs ops A k T := fun e he ht => hl e he (by rw [testBit_or_pow, ht]; rfl)

theorem liveB_spec {k T : Nat} (h : live qs ops A k T) : liveB qs ops A k T = true := by
  unfold liveB
  have key : ∀ (l : List Oper) (i : Nat), (∀ j o, l[j]? = some o → ops[i + j]? = some o) → allIdx l i (fun e o => isQ qs o || !T.testBit e || !(A e).testBit k) = true := by
    intro l
    induction l with
    | nil => intro i _; rfl
    | cons o l ih =>
      intro i hl
      simp only [allIdx, Bool.and_eq_true]
      refine ⟨?_, ih (i + 1) fun j o' hj => by have := hl (j + 1) o' (by simpa using hj); rwa [Nat.add_assoc, Nat.add_comm 1 j]⟩
      have ho := hl 0 o rfl
      rw [Nat.add_zero] at ho
      cases hq : isQ qs o with
      | true => rfl
      | false =>
        cases ht : T.testBit i with
        | false => rfl
        | true =>
          have := h i (by simp [effAt, ho, hq]) ht
          simp [this]
  exact key _ 0 fun j o hj => by simpa using hj

theorem Keep.putOp {o : Oper} {i : Nat} {a0 a : Act} {v : Value} (ho : ops[i]? = some o) (h : Keep (opsWrites ops.toList) a0 a) : Keep (opsWrites ops.toList) a0 (a.put o.dst v) := by
  intro t ht
  have hno : ∀ {l : List Oper}, elemN (opsWrites l) t = false → ∀ o ∈ l, o.dst ≠ some t := by
    intro l
    induction l with
    | nil => intro _ o ho; cases ho
    | cons x l ih =>
      intro hl o ho
      simp only [opsWrites] at hl
      rcases List.mem_cons.1 ho with rfl | ho
      · intro hd
        rw [hd] at hl
        simp [elemN_cons] at hl
      · cases hx : x.dst with
        | none => rw [hx] at hl; exact ih hl o ho
        | some d => rw [hx, elemN_cons, Bool.or_eq_false_iff] at hl; exact ih hl.2 o ho
  have hne := hno ht o (Array.mem_toList_iff.2 (Array.mem_of_getElem? ho))
  rw [← h t ht]
  cases hd : o.dst with
  | none => rfl
  | some d =>
    have : d ≠ t := fun he => hne (he ▸ hd)
    simp [Act.put, Array.getElem?_setIfInBounds_ne this]

theorem firstQ_some {T i : Nat} (h : firstQ qs ops T = some i) : i ∈ readyL ops T ∧ quietAt qs ops i = true :=
  ⟨List.mem_of_find?_eq_some h, by simpa using List.find?_some h⟩
theorem firstQ_none {T : Nat} (h : firstQ qs ops T = none) : ∀ i ∈ readyL ops T, quietAt qs ops i = false := by
  intro i hi
  have := List.find?_eq_none.1 h i hi
  simpa using this

theorem ph_WH (ok : RegOK P qs ops A) (hd : ∀ (i : Nat) (o : Oper), ops[i]? = some o → isQ qs o = true → isSens P o = true → ∃ d, o.dst = some d ∧ d < n) {K : Env → Heap → Prop} {a0 : Act} :
    ∀ (fuel T : Nat) (env : Env) (a : Act) (h : Heap) (V : List Nat), Good n ds env a → Keep (opsWrites ops.toList) a0 a → DC ops A T →
      (∀ k ∈ V, T.testBit k = true ∧ ∃ o, ops[k]? = some o ∧ isQ qs o = true ∧ isSens P o = true) → (∀ k ∈ V, live qs ops A k T → YCur P ops k a h) →
      vcPh P n qs ops A K fuel T env h → WH P qs ops A (fun a' h' => ∃ env', Good n ds env' a' ∧ K env' h' ∧ Keep (opsWrites ops.toList) a0 a') (cnt ops T) T V a h := by
  intro fuel
  induction fuel with
  | zero => intro T env a h V _ _ _ _ _ H; exact H.elim
  | succ fuel ih =>
    intro T env a h V g hkeep dc hV hcur H
    simp only [vcPh] at H
    cases hf : firstQ qs ops T with
    | some i =>
      rw [hf] at H
      obtain ⟨hr, hqa⟩ := firstQ_some hf
      obtain ⟨hTi, o, ho, _⟩ := mem_readyL.1 hr
      have hlt : i < ops.size := (Array.getElem?_eq_some_iff.1 ho).1
      have hq : isQ qs o = true := by simpa [quietAt, ho] using hqa
      simp only [ho] at H
      obtain ⟨env', g', H'⟩ := guardE_sound g H
      have hself := ok.self i o ho hq
      have sel := fun cs b => ok.sel i o cs b ho
      have dc' := dc.put ok hr
      rw [cnt_put hlt hTi]
      -- with its value
      have fin : ∀ v, YH P ops o v a h → (isSens P o = true → Region.wanted o (yielded ops a.tmps) = true → QY P (!isSens P o) o a.eval h v) →
          vcPh P n qs ops A K fuel (T ||| 2 ^ i) (putE n env' o.dst v) h → WH P qs ops A (fun a' h' => ∃ env', Good n ds env' a' ∧ K env' h' ∧ Keep (opsWrites ops.toList) a0 a') (cnt ops (T ||| 2 ^ i) + 1) T V a h := fun v hy hqy Hn => by
        have hVi : ∀ k ∈ V, k ≠ i ∧ T.testBit k = true ∧ ∃ o, ops[k]? = some o ∧ isQ qs o = true ∧ isSens P o = true := fun k hk => by
          obtain ⟨h1, h2⟩ := hV k hk
          exact ⟨fun he => (by rw [he, hTi] at h1; cases h1), h1, h2⟩
        have hV' : ∀ k ∈ V, (T ||| 2 ^ i).testBit k = true ∧ ∃ o, ops[k]? = some o ∧ isQ qs o = true ∧ isSens P o = true := fun k hk => ⟨by rw [testBit_or_pow, (hV k hk).1]; rfl, (hV k hk).2⟩
        have hcur' : ∀ k ∈ V, live qs ops A k (T ||| 2 ^ i) → YCur P ops k (a.put o.dst v) h := fun k hk hl => by
          obtain ⟨hki, hTk, ok', hok', hqk, hsk⟩ := hVi k hk
          have hAk : (A k).testBit i = false := by
            cases hb : (A k).testBit i with
            | false => rfl
            | true => have := dc k (Array.getElem?_eq_some_iff.1 hok').1 hTk i hb; rw [hTi] at this; cases this
          exact (YCur.put hok' (fun cs b => ok.sel k ok' cs b hok') (ok.sens k i ok' o hok' ho hqk hsk hki hAk)).2 (hcur k hk (live_put ho hq hl))
        cases hs : isSens P o with
        | false =>
          have := ih (T ||| 2 ^ i) (putE n env' o.dst v) (a.put o.dst v) h V (g'.put o.dst v) (hkeep.putOp ho) dc' hV' hcur' Hn
          exact take_first ok ho hq (hd i o ho hq) _ T V V a h g.size hr dc hy hVi (fun k hk => hk) (fun h => by rw [hs] at h; cases h) this
        | true =>
          obtain ⟨d, hdd, hdn⟩ := hd i o ho hq hs
          have := ih (T ||| 2 ^ i) (putE n env' o.dst v) (a.put o.dst v) h (i :: V) (g'.put o.dst v) (hkeep.putOp ho) dc'
            (fun k hk => by
              rcases List.mem_cons.1 hk with rfl | hk
              · exact ⟨by rw [testBit_or_pow]; simp, o, ho, hq, hs⟩
              · exact hV' k hk)
            (fun k hk hl => by
              rcases List.mem_cons.1 hk with rfl | hk
              · intro o' ho' hw'
                rw [ho] at ho'
                obtain rfl := Option.some.inj ho'
                rw [wanted_put o a o.dst v hself] at hw'
                exact ⟨d, v, hdd, by rw [hdd]; simp [Act.put, g.size, hdn], (hqy hs hw').of_same (execOp_put o sel a o.dst v hself)⟩
              · exact hcur' k hk hl) Hn
          exact take_first ok ho hq (hd i o ho hq) _ T V (i :: V) a h g.size hr dc hy hVi (fun k hk => List.mem_cons_of_mem _ hk) (fun _ => List.mem_cons_self ..) this
      cases hw : Region.wanted o (yielded ops a.tmps) with
      | true =>
        rw [hw] at H'
        obtain ⟨v, hk, hqy⟩ := quiet_sound (qs := qs) hq g'.eval H'
        exact fin v (.inl ⟨hw, hqy⟩) (fun _ _ => hqy) hk
      | false =>
        rw [hw] at H'
        exact fin undef (.inr ⟨hw, rfl⟩) (fun _ h => by rw [hw] at h; cases h) H'
    | none =>
      rw [hf] at H
      simp only at H
      have hnq := firstQ_none hf
      have hnil : readyL ops T = [] → ∃ env', Good n ds env' a ∧ K env' h ∧ Keep (opsWrites ops.toList) a0 a := fun h0 => by
        rw [h0] at H; exact ⟨env, g, H, hkeep⟩
      cases hc : cnt ops T with
      | zero =>
        have h0 : readyL ops T = [] := by
          apply List.eq_nil_iff_forall_not_mem.2
          intro i hi
          obtain ⟨hTi, o, ho, _⟩ := mem_readyL.1 hi
          have := cnt_put (ops := ops) (Array.getElem?_eq_some_iff.1 ho).1 hTi
          omega
        exact ⟨h0, hnil h0⟩
      | succ m =>
        refine ⟨hnil, fun i hi o ho => ?_⟩
        obtain ⟨hTi, _⟩ := mem_readyL.1 hi
        have hlt : i < ops.size := (Array.getElem?_eq_some_iff.1 ho).1
        have hq : isQ qs o = false := by simpa [quietAt, ho] using hnq i hi
        refine ⟨fun h => (by rw [hq] at h; cases h), fun _ => ?_⟩
        have hm : m = cnt ops (T ||| 2 ^ i) := by have := cnt_put hlt hTi; omega
        have Hi : guardE ops o env fun run env => match run with
            | true => vcOp P o env h fun v h' => nameH (turns o) h' fun h' => reRun P ops (putE n env o.dst v) h' (again P qs ops A (T ||| 2 ^ i)) (vcPh P n qs ops A K fuel (T ||| 2 ^ i) (putE n env o.dst v) h')
            | false => vcPh P n qs ops A K fuel (T ||| 2 ^ i) (putE n env o.dst undef) h := by
          split at H
          · rename_i h0; rw [h0] at hi; cases hi
          · have := conj_spec H i hi
            simp only [ho] at this
            exact this
        obtain ⟨env', g', H'⟩ := guardE_sound g Hi
        have dc' := dc.put ok hi
        have hV' : ∀ k ∈ V, (T ||| 2 ^ i).testBit k = true ∧ ∃ o, ops[k]? = some o ∧ isQ qs o = true ∧ isSens P o = true := fun k hk => ⟨by rw [testBit_or_pow, (hV k hk).1]; rfl, (hV k hk).2⟩
        unfold stepH
        cases hw : Region.wanted o (yielded ops a.tmps) with
        | true =>
          rw [hw] at H'
          simp only [if_true]
          refine (vcOp_sound (P := P) g'.eval H').mono fun v h' hk => ?_
          obtain ⟨h1, h2⟩ := reRun_sound (qs := qs) (g'.put o.dst v) (nameH_elim hk)
          have hcur' : ∀ k ∈ V, live qs ops A k (T ||| 2 ^ i) → YCur P ops k (a.put o.dst v) h' := fun k hk hl => by
            obtain ⟨hTk, ok', hok', hqk, hsk⟩ := hV' k hk
            refine h1 k ?_ ⟨ok', hok', hqk⟩
            unfold again
            rw [List.mem_filter, List.mem_range]
            refine ⟨(Array.getElem?_eq_some_iff.1 hok').1, ?_⟩
            simp [sensAt, hok', hqk, hsk, hTk, liveB_spec hl]
          exact ⟨hcur', by rw [hm]; exact ih _ _ _ _ V (g'.put o.dst v) (hkeep.putOp ho) dc' hV' hcur' h2⟩
        | false =>
          rw [hw] at H'
          simp only [Bool.false_eq_true, if_false]
          have hcur' : ∀ k ∈ V, live qs ops A k (T ||| 2 ^ i) → YCur P ops k (a.put o.dst undef) h := fun k hk hl => by
            obtain ⟨hTk, ok', hok', hqk, hsk⟩ := hV k hk
            have hki : k ≠ i := fun he => by rw [he, hTi] at hTk; cases hTk
            have hAk : (A k).testBit i = false := by
              cases hb : (A k).testBit i with
              | false => rfl
              | true => have := dc k (Array.getElem?_eq_some_iff.1 hok').1 hTk i hb; rw [hTi] at this; cases this
            exact (YCur.put hok' (fun cs b => ok.sel k ok' cs b hok') (ok.sens k i ok' o hok' ho hqk hsk hki hAk)).2 (hcur k hk (fun e he ht => hl e he (by rw [testBit_or_pow, ht]; rfl)))
          exact ⟨hcur', by rw [hm]; exact ih _ _ _ _ V (g'.put o.dst undef) (hkeep.putOp ho) dc' hV' hcur' H'⟩

theorem vcDraw_sound {r : Option Nat} {m : Nat} (hm : P.follows .mixedOrders = true) {id : Nat} {env : Env} {a : Act} {w : World} {K : Env → Heap → Prop} {Q : Exit → Act → World → Prop} (g : Good n ds env a) (H : vcDraw P n qs ops env w.heap K)
    (hQ : ∀ env' a' w', Good n ds env' a' → K env' w'.heap → Same w w' → Keep (opsWrites ops.toList) a a' → Q .normal a' w') : (Code.region id ops true).wpIn (FR r) m P Q a w := by
  unfold vcDraw at H
  cases hb : regOKB P qs ops n (ancAt (ancL ops)) with
  | false => rw [hb] at H; exact H.elim
  | true =>
    rw [hb] at H
    obtain ⟨ok, hd⟩ := regOK_of hb
    refine wpIn_region_any hm ?_
    have hW := ph_WH (ds := ds) (a0 := a) ok hd (ops.size + 1) 0 env a w.heap [] g (Keep.refl _ a) (fun e _ ht => by simp at ht) (fun k hk => by cases hk) (fun k hk => by cases hk) H
    have hc : cnt ops 0 = ops.size := by
      unfold cnt
      rw [List.filter_eq_self.2 (fun i _ => by simp)]
      simp
    rw [hc] at hW
    have rel : RelT ops 0 (Array.replicate ops.size false) := ⟨by simp, fun i hi => by simp [hi]⟩
    exact wpAny_of_WH (w0 := w) (fun a' w' hs ⟨env', g', hk, hkeep⟩ => hQ env' a' w' g' hk hs hkeep) (fun i o ho e he hb => ok.on i o ho e he hb) ops.size 0 [] _ a { w with drawn := w.drawn + 1 } rel ⟨rfl, rfl, rfl, fun _ => rfl⟩ hW
end
end Go.Hv

/- Pieces of code. -/
namespace Go.Hv

/-! ### Predicates on the values of some slots, by their shapes -/
def T1 : Sh1 → Type
  | .int _ => Int
  | .bool => Bool
  | .str => ByteArray
  | .ptr => Option Addr
  | .slice => Sl
  | .map => Option Nat
  | .any => Value

def Arr : List Sh1 → Type → Type
  | [], α => α
  | s :: l, α => T1 s → Arr l α

def shV : Value → Sh1
  | .int k _ => .int k
  | .bool _ => .bool
  | .string _ => .str
  | .pointer _ => .ptr
  | .slice _ _ _ => .slice
  | .map _ => .map
  | _ => .any

/-- made of a function on the values -/
def mkA {α : Type} : (l : List Sh1) → (List Value → α) → Arr l α
  | [], g => g []
  | .int k :: l, g => fun x => mkA l fun vs => g (.int k x :: vs)
  | .bool :: l, g => fun x => mkA l fun vs => g (.bool x :: vs)
  | .str :: l, g => fun x => mkA l fun vs => g (.string x :: vs)
  | .ptr :: l, g => fun x => mkA l fun vs => g (.pointer x :: vs)
  | .slice :: l, g => fun x => mkA l fun vs => g (.slice (Sl.a x) (Sl.n x) (Sl.c x) :: vs)
  | .map :: l, g => fun x => mkA l fun vs => g (.map x :: vs)
  | .any :: l, g => fun x => mkA l fun vs => g (x :: vs)

/-- asked at values -/
def atA {α : Type} : (l : List Sh1) → Arr l α → List Value → (α → Prop) → Prop
  | [], i, _, φ => φ i
  | .int k :: l, i, v :: vs, φ => asI v fun j x => if j = k then atA l (i x) vs φ else False
  | .bool :: l, i, v :: vs, φ => asB v fun x => atA l (i x) vs φ
  | .str :: l, i, v :: vs, φ => (match v with | .string x => atA l (i x) vs φ | _ => False)
  | .ptr :: l, i, v :: vs, φ => asP v fun x => atA l (i x) vs φ
  | .slice :: l, i, v :: vs, φ => asS v fun a n c => atA l (i ⟨a, n, c⟩) vs φ
  | .map :: l, i, v :: vs, φ => asM v fun x => atA l (i x) vs φ
  | .any :: l, i, v :: vs, φ => atA l (i v) vs φ
  | _ :: _, _, [], _ => False

/-- for all values -/
def allA {α β : Type} : (l : List Sh1) → Arr l α → Arr l β → (List Value → α → β → Prop) → Prop
  | [], i, j, φ => φ [] i j
  | .int k :: l, i, j, φ => ∀ x : Int, allA l (i x) (j x) fun vs a b => φ (.int k x :: vs) a b
  | .bool :: l, i, j, φ => ∀ x : Bool, allA l (i x) (j x) fun vs a b => φ (.bool x :: vs) a b
  | .str :: l, i, j, φ => ∀ x : ByteArray, allA l (i x) (j x) fun vs a b => φ (.string x :: vs) a b
  | .ptr :: l, i, j, φ => ∀ x : Option Addr, allA l (i x) (j x) fun vs a b => φ (.pointer x :: vs) a b
  | .slice :: l, i, j, φ => ∀ x : Sl, allA l (i x) (j x) fun vs a b => φ (.slice x.a x.n x.c :: vs) a b
  | .map :: l, i, j, φ => ∀ x : Option Nat, allA l (i x) (j x) fun vs a b => φ (.map x :: vs) a b
  | .any :: l, i, j, φ => ∀ x : Value, allA l (i x) (j x) fun vs a b => φ (x :: vs) a b

theorem at_mkA {α : Type} : ∀ {l : List Sh1} {g : List Value → α} {vs : List Value} {φ : α → Prop}, vs.length = l.length → atA l (mkA l g) vs φ → φ (g vs)
  | [], g, [], φ, _, h => h
  | [], g, v :: vs, φ, hl, h => by cases hl
  | s :: l, g, [], φ, hl, h => by cases hl
  | s :: l, g, v :: vs, φ, hl, h => by
    have hl' : vs.length = l.length := by simpa using hl
    cases s with
    | int k =>
      obtain ⟨j, x, rfl, h1⟩ := asI_elim h
      split at h1
      · rename_i hj; subst hj; exact at_mkA (g := fun vs => g (.int j x :: vs)) hl' h1
      · exact h1.elim
    | bool => obtain ⟨x, rfl, h1⟩ := asB_elim h; exact at_mkA (g := fun vs => g (.bool x :: vs)) hl' h1
    | str => cases v <;> first | exact h.elim | exact at_mkA (g := fun vs => g (.string _ :: vs)) hl' h
    | ptr => obtain ⟨x, rfl, h1⟩ := asP_elim h; exact at_mkA (g := fun vs => g (.pointer x :: vs)) hl' h1
    | slice => obtain ⟨a, n, c, rfl, h1⟩ := asS_elim h; exact at_mkA (g := fun vs => g (.slice a n c :: vs)) hl' h1
    | map => obtain ⟨x, rfl, h1⟩ := asM_elim h; exact at_mkA (g := fun vs => g (.map x :: vs)) hl' h1
    | any => exact at_mkA (g := fun vs => g (v :: vs)) hl' h

theorem all_mkA {α β : Type} : ∀ {l : List Sh1} {g : List Value → α} {k : List Value → β} {φ : List Value → α → β → Prop}, (∀ vs, vs.length = l.length → φ vs (g vs) (k vs)) → allA l (mkA l g) (mkA l k) φ
  | [], g, k, φ, h => h [] rfl
  | s :: l, g, k, φ, h => by
    cases s <;> (intro x; exact all_mkA fun vs hl => h _ (by simpa using hl))

/-- what holds at some values of what holds for all -/
theorem all_atA {α β : Type} : ∀ {l : List Sh1} {i : Arr l α} {j : Arr l β} {φ : List Value → α → β → Prop} {vs : List Value} {ψ : α → Prop}, vs.length = l.length → allA l i j φ → atA l i vs ψ → ∃ a b, φ vs a b ∧ ψ a ∧ ∀ χ : β → Prop, χ b → atA l j vs χ
  | [], i, j, φ, [], ψ, _, h, h' => ⟨i, j, h, h', fun χ hx => hx⟩
  | [], i, j, φ, v :: vs, ψ, hl, _, _ => by cases hl
  | s :: l, i, j, φ, [], ψ, hl, _, _ => by cases hl
  | s :: l, i, j, φ, v :: vs, ψ, hl, h, h' => by
    have hl' : vs.length = l.length := by simpa using hl
    cases s with
    | int k =>
      obtain ⟨k', x, rfl, h1⟩ := asI_elim h'
      split at h1
      · rename_i hj
        subst hj
        obtain ⟨a, b, h2, h3, h4⟩ := all_atA hl' (h x) h1
        exact ⟨a, b, h2, h3, fun χ hx => by simp only [atA, asI, if_true]; exact h4 χ hx⟩
      · exact h1.elim
    | bool => obtain ⟨x, rfl, h1⟩ := asB_elim h'; obtain ⟨a, b, h2, h3, h4⟩ := all_atA hl' (h x) h1; exact ⟨a, b, h2, h3, h4⟩
    | str =>
      cases v <;> first | exact h'.elim | skip
      obtain ⟨a, b, h2, h3, h4⟩ := all_atA hl' (h _) h'; exact ⟨a, b, h2, h3, h4⟩
    | ptr => obtain ⟨x, rfl, h1⟩ := asP_elim h'; obtain ⟨a, b, h2, h3, h4⟩ := all_atA hl' (h x) h1; exact ⟨a, b, h2, h3, h4⟩
    | slice => obtain ⟨a, n, c, rfl, h1⟩ := asS_elim h'; obtain ⟨a', b, h2, h3, h4⟩ := all_atA hl' (h ⟨a, n, c⟩) h1; exact ⟨a', b, h2, h3, h4⟩
    | map => obtain ⟨x, rfl, h1⟩ := asM_elim h'; obtain ⟨a, b, h2, h3, h4⟩ := all_atA hl' (h x) h1; exact ⟨a, b, h2, h3, h4⟩
    | any => obtain ⟨a, b, h2, h3, h4⟩ := all_atA hl' (h v) h'; exact ⟨a, b, h2, h3, h4⟩

/-! ### Which slots a piece of code writes -/
def writes : Code → List Tmp
  | .region _ ops _ => opsWrites ops.toList
  | .seq a b => writes a ++ writes b
  | .cond _ t f => writes t ++ writes f
  | .block _ c => writes c
  | .loop c => writes c
  | .scope c => writes c
  | _ => []

/-- those of the known slots that are written: each once; slots and values -/
def touched (ws : List Tmp) : Env → List Tmp → List (Tmp × Value)
  | [], _ => []
  | (t, v) :: env, seen => bif elemN seen t then touched ws env seen else bif elemN ws t then (t, v) :: touched ws env (t :: seen) else touched ws env (t :: seen)

def slotsOf : List (Tmp × Value) → List Tmp
  | [] => []
  | (t, _) :: l => t :: slotsOf l
def shsV : List (Tmp × Value) → List Sh1
  | [] => []
  | (_, v) :: l => shV v :: shsV l

/-- the known slots that are not written -/
def kept (ws : List Tmp) : Env → Env
  | [] => []
  | (t, v) :: env => bif elemN ws t then kept ws env else (t, v) :: kept ws env

def setE : List Tmp → List Value → Env → Env
  | t :: ts, v :: vs, env => (t, v) :: setE ts vs env
  | _, _, env => env

def getsE (env : Env) : List Tmp → Option (List Value)
  | [] => some []
  | t :: ts => match getE env t, getsE env ts with
    | some v, some vs => some (v :: vs)
    | _, _ => none

/-- in how many ways a piece of code comes to its end -/
def exitsTo (id : Nat) : Code → Nat
  | .seq a b => exitsTo id a + exitsTo id b
  | .cond _ t f => exitsTo id t + exitsTo id f
  | .block _ c => exitsTo id c
  | .loop c => exitsTo id c
  | .scope c => exitsTo id c
  | .exit i => bif Nat.beq i id then 1 else 0
  | _ => 0

def falls : Code → Nat
  | .skip => 1
  | .region _ _ _ => 1
  | .seq a b => falls a * falls b
  | .cond _ t f => falls t + falls f
  | .block id c => falls c + exitsTo id c
  | .loop _ => 0
  | .scope c => falls c
  | .label _ => 1
  | _ => 0

/-- what a piece of code begins with -/
def headKey : Code → Nat
  | .region i _ _ => 2 * i
  | .block i _ => 2 * i + 1
  | .seq a _ => headKey a + 100000
  | .cond _ t _ => headKey t
  | .loop c => headKey c
  | .scope c => headKey c
  | _ => 0

/-- do the ways come together behind it? Where nothing is said (30000000 + the key: yes; 60000000 + the key: no): if there are several. -/
def joinB (qs : List Nat) (a : Code) : Bool :=
  elemN qs (30000000 + headKey a) || (Nat.blt 1 (falls a) && !elemN qs (60000000 + headKey a))

theorem getE_kept {ws : List Tmp} : ∀ {env : Env} {t : Tmp} {v : Value}, getE (kept ws env) t = some v → getE env t = some v ∧ elemN ws t = false
  | [], t, v, h => by simp [kept, getE] at h
  | (i, x) :: env, t, v, h => by
    simp only [kept] at h
    cases hw : elemN ws i with
    | true =>
      rw [hw] at h
      obtain ⟨h1, h2⟩ := getE_kept (env := env) h
      refine ⟨?_, h2⟩
      rw [getE_cons]
      by_cases hi : i = t
      · subst hi; rw [hw] at h2; cases h2
      · rw [if_neg hi]; exact h1
    | false =>
      rw [hw] at h
      simp only [cond_false, getE_cons] at h
      rw [getE_cons]
      split at h
      · rename_i hi; subst hi; exact ⟨by rw [if_pos rfl]; exact h, hw⟩
      · rename_i hi
        rw [if_neg hi]
        exact getE_kept h


/-- the number of a measure at values -/
def numA : (l : List Sh1) → Arr l (Heap → Nat) → List Value → Heap → Nat
  | [], i, _, h => i h
  | .int _ :: l, i, v :: vs, h => (match v with | .int _ x => numA l (i x) vs h | _ => 0)
  | .bool :: l, i, v :: vs, h => (match v with | .bool x => numA l (i x) vs h | _ => 0)
  | .str :: l, i, v :: vs, h => (match v with | .string x => numA l (i x) vs h | _ => 0)
  | .ptr :: l, i, v :: vs, h => (match v with | .pointer x => numA l (i x) vs h | _ => 0)
  | .slice :: l, i, v :: vs, h => (match v with | .slice a n c => numA l (i ⟨a, n, c⟩) vs h | _ => 0)
  | .map :: l, i, v :: vs, h => (match v with | .map x => numA l (i x) vs h | _ => 0)
  | .any :: l, i, v :: vs, h => numA l (i v) vs h
  | _ :: _, _, [], _ => 0

theorem at_numA : ∀ {l : List Sh1} {i : Arr l (Heap → Nat)} {vs : List Value} {φ : (Heap → Nat) → Prop}, atA l i vs φ → φ (numA l i vs)
  | [], i, _, φ, h => h
  | s :: l, i, [], φ, h => by cases s <;> exact h.elim
  | s :: l, i, v :: vs, φ, h => by
    cases s with
    | int k =>
      obtain ⟨j, x, rfl, h1⟩ := asI_elim h
      split at h1
      · have := at_numA h1; exact this
      · exact h1.elim
    | bool => obtain ⟨x, rfl, h1⟩ := asB_elim h; have := at_numA h1; exact this
    | str =>
      cases v <;> first | exact h.elim | skip
      have := at_numA (l := l) h; exact this
    | ptr => obtain ⟨x, rfl, h1⟩ := asP_elim h; have := at_numA h1; exact this
    | slice => obtain ⟨a, n, c, rfl, h1⟩ := asS_elim h; have := at_numA h1; exact this
    | map => obtain ⟨x, rfl, h1⟩ := asM_elim h; have := at_numA h1; exact this
    | any => have := at_numA (l := l) h; exact this

/-! ### Code -/
inductive Ex where
  | normal
  | exit (id : Nat)
  | ret
  | goto (l : Nat)

def Ex.to : Ex → Exit
  | .normal => .normal
  | .exit id => .exit id
  | .ret => .ret
  | .goto l => .goto l

/-- several ways come together: what is asked of what follows is asked once -/
def joinE (b : Env → Heap → Prop) (env : Env) (ts : List (Tmp × Value)) (ws : List Tmp) (rest : (Env → Heap → Prop) → Prop) : Prop :=
  ∀ J : Arr (shsV ts) (Heap → Prop), allA (shsV ts) J J (fun vs f _ => ∀ h : Heap, b (setE (slotsOf ts) vs (kept ws env)) h → f h) →
    rest fun env' h' => (match getsE env' (slotsOf ts) with
      | some vs => atA (shsV ts) J vs fun f => f h'
      | none => False)

def loopE (b : Env → Heap → (Env → Heap → Prop) → Prop) (env : Env) (h : Heap) (ts : List (Tmp × Value)) (ws : List Tmp) : Prop :=
  ∃ (I : Arr (shsV ts) (Heap → Prop)) (μ : Arr (shsV ts) (Heap → Nat)),
    (match getsE env (slotsOf ts) with | some vs => atA (shsV ts) I vs fun f => f h | none => False) ∧
    allA (shsV ts) I μ fun vs f m => ∀ h : Heap, f h → b (setE (slotsOf ts) vs (kept ws env)) h fun env' h' =>
      (match getsE env' (slotsOf ts) with
      | some vs' => atA (shsV ts) I vs' (fun f' => f' h') ∧ atA (shsV ts) μ vs' fun m' => m' h' < m h
      | none => False)

/-- what a test has told of a slot -/
def setB (env : Env) (c : Operand) (b : Bool) : Env := match c with | .tmp t => (t, .bool b) :: env | _ => env

def vc (P : Program) (qs : List Nat) (n : Nat) : Code → Env → Heap → (Ex → Env → Heap → Prop) → Prop
  | .skip, env, h, Q => Q .normal env h
  | .region _ ops d, env, h, Q => bif d then vcDraw P n qs ops env h (Q .normal) else vcRun P n ops ops.toList env h (Q .normal)
  | .seq a b, env, h, Q =>
    bif joinB qs a then
      joinE (fun env h => vc P qs n b env h Q) env (touched (writes a) env []) (writes a) fun J =>
        vc P qs n a env h fun e env' h' => match e with
          | .normal => J env' h'
          | e => Q e env' h'
    else vc P qs n a env h fun e env' h' => match e with
      | .normal => vc P qs n b env' h' Q
      | e => Q e env' h'
  | .cond c t f, env, h, Q => wV env c fun v => asB v fun b => cond b (vc P qs n t (setB env c true) h Q) (vc P qs n f (setB env c false) h Q)
  | .block id c, env, h, Q => vc P qs n c env h fun e env' h' => match e with
      | .exit i => bif Nat.beq i id then Q .normal env' h' else Q (.exit i) env' h'
      | e => Q e env' h'
  | .loop c, env, h, Q => loopE (fun env h K => vc P qs n c env h fun e env' h' => match e with
      | .normal => K env' h'
      | e => Q e env' h') env h (touched (writes c) env []) (writes c)
  | .exit id, env, h, Q => Q (.exit id) env h
  | .ret, env, h, Q => Q .ret env h
  | .scope c, env, h, Q => vc P qs n c env h fun e env' h' => match e with
      | .goto _ => False
      | e => Q e env' h'
  | .label _, env, h, Q => Q .normal env h
  | .goto l, env, h, Q => Q (.goto l) env h
  | _, _, _, _ => False
end Go.Hv

/- The heap conditions are enough: pieces of code. -/
namespace Go.Hv
section
variable {P : Program} {qs : List Nat} {n : Nat} {ds : List Deferred}

theorem getE_setE : ∀ {ts : List Tmp} {vs : List Value} {env : Env} {t : Tmp} {v : Value}, getE (setE ts vs env) t = some v → getE env t = some v ∨ ∃ i : Nat, ts[i]? = some t ∧ vs[i]? = some v
  | [], vs, env, t, v, h => .inl (by simpa [setE] using h)
  | s :: ts, [], env, t, v, h => .inl (by simpa [setE] using h)
  | s :: ts, x :: vs, env, t, v, h => by
    simp only [setE, getE_cons] at h
    split at h
    · rename_i hs; subst hs; exact .inr ⟨0, rfl, by simpa using h⟩
    · rcases getE_setE h with h | ⟨i, h1, h2⟩
      · exact .inl h
      · exact .inr ⟨i + 1, by simpa using h1, by simpa using h2⟩

theorem getsE_spec {env : Env} : ∀ {ts : List Tmp} {vs : List Value}, getsE env ts = some vs → vs.length = ts.length ∧ ∀ (i : Nat) t v, ts[i]? = some t → vs[i]? = some v → getE env t = some v
  | [], vs, h => by simp only [getsE, Option.some.injEq] at h; subst h; exact ⟨rfl, fun i t v h => by simp at h⟩
  | t :: ts, vs, h => by
    simp only [getsE] at h
    split at h
    · rename_i v vs' hv hvs
      simp only [Option.some.injEq] at h
      subst h
      obtain ⟨h1, h2⟩ := getsE_spec hvs
      refine ⟨by simp [h1], fun i t' v' ht hv' => ?_⟩
      cases i with
      | zero => simp only [List.getElem?_cons_zero, Option.some.injEq] at ht hv'; subst ht hv'; exact hv
      | succ i => exact h2 i t' v' (by simpa using ht) (by simpa using hv')
    · cases h

theorem length_slots : ∀ (ts : List (Tmp × Value)), (slotsOf ts).length = (shsV ts).length
  | [] => rfl
  | (_, _) :: l => by simp [slotsOf, shsV, length_slots l]

/-- what is known behind a piece of code: what it does not write, and some slots' values -/
theorem Good.after {env env' : Env} {a a' : Act} {ws : List Tmp} {ts : List Tmp} {vs : List Value} (g : Good n ds env a) (g' : Good n ds env' a') (hk : Keep ws a a') (hv : getsE env' ts = some vs) :
    Good n ds (setE ts vs (kept ws env)) a' := by
  refine ⟨fun t v h => ?_, g'.size, g'.defers⟩
  rcases getE_setE h with h | ⟨i, h1, h2⟩
  · obtain ⟨h1, h2⟩ := getE_kept h
    rw [hk t h2]; exact g.agree _ _ h1
  · exact g'.agree _ _ ((getsE_spec hv).2 i t v h1 h2)

theorem Good.setB {env : Env} {a : Act} {c : Operand} {b : Bool} (g : Good n ds env a) (h : ev env c = some (.bool b)) : Good n ds (setB env c b) a := by
  cases c with
  | tmp t =>
    refine ⟨fun t' v hv => ?_, g.size, g.defers⟩
    simp only [Hv.setB, getE_cons] at hv
    split at hv
    · rename_i he
      subst he
      simp only [Option.some.injEq] at hv
      subst hv
      exact g.agree _ _ h
    · exact g.agree _ _ hv
  | const v => exact g
  | global x => exact g
  | func f => exact g

section
variable {F : Fence} {b : Frame} {a : Act} {k : List Item} {cs : List Frame} {w : World}
theorem stepR_scope {c : Code} : step P (lone (b.atR a (.code (.scope c) :: k)) cs w) = .next (lone (b.atR a (.code c :: .inScope c :: k)) cs w) :=
  step_lone_go (by simp [stepG, stepG.exec, Frame.atR])
theorem stepR_inScope {c : Code} : step P (lone (b.atR a (.inScope c :: k)) cs w) = .next (lone (b.atR a k) cs w) :=
  step_lone_go (by simp [stepG, stepG.exec, Frame.atR])
theorem wpIn_scope_straight {m : Nat} {Q : Exit → Act → World → Prop} {c : Code} (h : c.wpIn F m P (Exit.noGoto Q) a w) : (Code.scope c).wpIn F m P Q a w := by
  intro b k cs hro hb hr
  have h0 : (lone (b.atR a (.code (.scope c) :: k)) cs w).fenced P F := fenced_calm hb hr rfl
  obtain ⟨e, a₁, w₁, hq, harr⟩ := h b (.inScope c :: k) cs hro hb hr
  cases e with
  | normal => exact ⟨.normal, a₁, w₁, hq, .head h0 stepR_scope (StepsIn.trans harr (.one (fenced_calm hb hr rfl) stepR_inScope))⟩
  | exit id =>
    have hx : ∀ k', exitTo id (.inScope c :: k) = some k' ↔ exitTo id k = some k' := fun k' => by simp [exitTo]
    have hx0 : exitTo id (.inScope c :: k) = none ↔ exitTo id k = none := by simp [exitTo]
    exact ⟨.exit id, a₁, w₁, hq, fun k' hk => .head h0 stepR_scope (harr.1 k' ((hx k').2 hk)), fun hr' hk => let ⟨k₁, h1, h2⟩ := harr.2 hr' (hx0.2 hk); ⟨k₁, h1, .head h0 stepR_scope h2⟩⟩
  | goto l => exact hq.elim
  | ret => exact ⟨_, a₁, w₁, hq, .of_steps (.one h0 stepR_scope) harr⟩
  | panic ch => exact ⟨_, a₁, w₁, hq, .of_steps (.one h0 stepR_scope) harr⟩
  | outgrown => exact ⟨_, a₁, w₁, hq, .of_steps (.one h0 stepR_scope) harr⟩
end

theorem vc_sound {r : Option Nat} {m : Nat} (hm : P.follows .mixedOrders = true) : ∀ (c : Code) {env : Env} {a : Act} {w : World} {QH : Ex → Env → Heap → Prop} {Q : Exit → Act → World → Prop},
    Good n ds env a → vc P qs n c env w.heap QH →
    (∀ e env' a' w', Good n ds env' a' → QH e env' w'.heap → Same w w' → Keep (writes c) a a' → Q e.to a' w') → c.wpIn (FR r) m P Q a w
  | .skip, env, a, w, QH, Q, g, H, hQ => wpIn_skip (hQ .normal _ _ _ g H (Same.refl w) (Keep.refl _ a))
  | .region id ops d, env, a, w, QH, Q, g, H, hQ => by
    cases d with
    | true => exact vcDraw_sound hm g H fun env' a' w' g' hk hs hkeep => hQ .normal _ _ _ g' hk hs hkeep
    | false => exact wpIn_region_list (vcRun_sound g H fun env' a' w' g' hk hs hkeep => hQ .normal _ _ _ g' hk hs hkeep)
  | .seq x y, env, a, w, QH, Q, g, H, hQ => by
    simp only [vc] at H
    cases hf : joinB qs x with
    | false =>
      rw [hf] at H
      refine wpIn_seq (vc_sound hm x g H fun e env' a' w' g' hk hs hkeep => ?_)
      cases e with
      | normal => exact vc_sound hm y g' hk fun e env'' a'' w'' g'' hk' hs' hkeep' => hQ _ _ _ _ g'' hk' (hs.trans hs') (hkeep.left.trans hkeep'.right)
      | exit id => exact hQ (.exit id) _ _ _ g' hk hs hkeep.left
      | ret => exact hQ .ret _ _ _ g' hk hs hkeep.left
      | goto l => exact hQ (.goto l) _ _ _ g' hk hs hkeep.left
    | true =>
      rw [hf] at H
      simp only [cond_true] at H
      have H1 := H (mkA _ fun vs h => vc P qs n y (setE (slotsOf (touched (writes x) env [])) vs (kept (writes x) env)) h QH) (all_mkA fun vs hl h hb => hb)
      refine wpIn_seq (vc_sound hm x g H1 fun e env' a' w' g' hk hs hkeep => ?_)
      cases e with
      | normal =>
        simp only at hk
        split at hk
        · rename_i vs hvs
          have hl : vs.length = (shsV (touched (writes x) env [])).length := by rw [(getsE_spec hvs).1, length_slots]
          have hy := at_mkA hl hk
          exact vc_sound hm y (g.after g' hkeep hvs) hy fun e env'' a'' w'' g'' hk' hs' hkeep' => hQ _ _ _ _ g'' hk' (hs.trans hs') (hkeep.left.trans hkeep'.right)
        · exact hk.elim
      | exit id => exact hQ (.exit id) _ _ _ g' hk hs hkeep.left
      | ret => exact hQ .ret _ _ _ g' hk hs hkeep.left
      | goto l => exact hQ (.goto l) _ _ _ g' hk hs hkeep.left
  | .cond c t f, env, a, w, QH, Q, g, H, hQ => by
    obtain ⟨v, hv, H1⟩ := wV_elim (env := env) (x := c) (k := fun v => asB v fun b => cond b (vc P qs n t (setB env c true) w.heap QH) (vc P qs n f (setB env c false) w.heap QH)) H
    obtain ⟨b, rfl, H2⟩ := asB_elim H1
    have he := g.eval _ _ hv
    cases b with
    | true => exact wpIn_cond_true he (vc_sound hm t (g.setB hv) H2 fun e env' a' w' g' hk hs hkeep => hQ _ _ _ _ g' hk hs hkeep.left)
    | false => exact wpIn_cond_false he (vc_sound hm f (g.setB hv) H2 fun e env' a' w' g' hk hs hkeep => hQ _ _ _ _ g' hk hs hkeep.right)
  | .block id c, env, a, w, QH, Q, g, H, hQ => by
    refine wpIn_block (vc_sound hm c g H fun e env' a' w' g' hk hs hkeep => ?_)
    cases e with
    | normal => exact hQ .normal _ _ _ g' hk hs hkeep
    | exit i =>
      simp only [Ex.to, Exit.inBlock]
      by_cases hi : i = id
      · subst hi
        rw [if_pos rfl]
        simp only [Nat.beq_refl, cond_true] at hk
        exact hQ .normal _ _ _ g' hk hs hkeep
      · rw [if_neg hi]
        simp only [beq_false hi, cond_false] at hk
        exact hQ (.exit i) _ _ _ g' hk hs hkeep
    | ret => exact hQ .ret _ _ _ g' hk hs hkeep
    | goto l => exact hQ (.goto l) _ _ _ g' hk hs hkeep
  | .loop c, env, a, w, QH, Q, g, H, hQ => by
    obtain ⟨I, μ, h0, hround⟩ := H
    let ts := touched (writes c) env []
    refine wpIn_loop (fun a' w' => ∃ vs env', Good n ds env' a' ∧ getsE env' (slotsOf ts) = some vs ∧ atA (shsV ts) I vs (fun f => f w'.heap) ∧ Same w w' ∧ Keep (writes c) a a')
      (fun a' w' => numA (shsV ts) μ ((slotsOf ts).map fun t => a'.tmps.getD t undef) w'.heap) ?_ ?_
    · split at h0
      · rename_i vs hvs
        exact ⟨vs, env, g, hvs, h0, Same.refl w, Keep.refl _ a⟩
      · exact h0.elim
    · rintro a' w' ⟨vs, env', g', hvs, hat, hs, hkeep⟩
      have hl : vs.length = (shsV ts).length := by rw [(getsE_spec hvs).1, length_slots]
      obtain ⟨f, m, hr, hf, hmu⟩ := all_atA hl hround hat
      have gg := g.after g' hkeep hvs
      have hvals : ∀ {env' : Env} {a' : Act} {vs : List Value}, Good n ds env' a' → getsE env' (slotsOf ts) = some vs → ((slotsOf ts).map fun t => a'.tmps.getD t undef) = vs := by
        intro env' a' vs g' hvs
        obtain ⟨h1, h2⟩ := getsE_spec hvs
        apply List.ext_getElem?
        intro i
        rw [List.getElem?_map]
        cases ht : (slotsOf ts)[i]? with
        | none => rw [List.getElem?_eq_none (by rw [h1]; exact List.getElem?_eq_none_iff.1 ht)]; rfl
        | some t =>
          have hi : i < vs.length := by rw [h1]; exact (List.getElem?_eq_some_iff.1 ht).1
          have := g'.agree _ _ (h2 i t _ ht (List.getElem?_eq_getElem hi))
          rw [List.getElem?_eq_getElem hi]
          simp [this]
      have hmm : numA (shsV ts) μ vs w'.heap = m w'.heap := (hmu (fun m' => m' w'.heap = m w'.heap) rfl |> at_numA (φ := fun m' => m' w'.heap = m w'.heap))
      refine vc_sound hm c gg (hr w'.heap hf) fun e env'' a'' w'' g'' hk hs' hkeep' => ?_
      cases e with
      | normal =>
        simp only [Ex.to, Exit.then]
        simp only at hk
        split at hk
        · rename_i vs' hvs'
          obtain ⟨h1, h2⟩ := hk
          refine ⟨⟨vs', env'', g'', hvs', h1, hs.trans hs', hkeep.trans hkeep'⟩, ?_⟩
          rw [hvals g'' hvs', hvals g' hvs, hmm]
          exact at_numA (φ := fun m' => m' w''.heap < m w'.heap) h2
        · exact hk.elim
      | exit id => exact hQ (.exit id) _ _ _ g'' hk (hs.trans hs') (hkeep.trans hkeep')
      | ret => exact hQ .ret _ _ _ g'' hk (hs.trans hs') (hkeep.trans hkeep')
      | goto l => exact hQ (.goto l) _ _ _ g'' hk (hs.trans hs') (hkeep.trans hkeep')
  | .exit id, env, a, w, QH, Q, g, H, hQ => wpIn_exit (hQ (.exit id) _ _ _ g H (Same.refl w) (Keep.refl _ a))
  | .ret, env, a, w, QH, Q, g, H, hQ => wpIn_ret (hQ .ret _ _ _ g H (Same.refl w) (Keep.refl _ a))
  | .scope c, env, a, w, QH, Q, g, H, hQ => by
    refine wpIn_scope_straight (vc_sound hm c g H fun e env' a' w' g' hk hs hkeep => ?_)
    cases e with
    | normal => exact hQ .normal _ _ _ g' hk hs hkeep
    | exit i => exact hQ (.exit i) _ _ _ g' hk hs hkeep
    | ret => exact hQ .ret _ _ _ g' hk hs hkeep
    | goto l => exact hk.elim
  | .label l, env, a, w, QH, Q, g, H, hQ => wpIn_label (hQ .normal _ _ _ g H (Same.refl w) (Keep.refl _ a))
  | .goto l, env, a, w, QH, Q, g, H, hQ => wpIn_goto (hQ (.goto l) _ _ _ g H (Same.refl w) (Keep.refl _ a))
  | .rangeFunc _ _ _ _, env, a, w, QH, Q, g, H, hQ => H.elim
  | .refuse _, env, a, w, QH, Q, g, H, hQ => H.elim
end
end Go.Hv

/- Functions. -/
namespace Go.Hv

def vcRes (P : Program) (env : Env) (h : Heap) : List ResultVar → (List Value → Prop) → Prop
  | [], k => k []
  | .tmp t :: rs, k => (match getE env t with
    | some v => vcRes P env h rs fun vs => k (v :: vs)
    | none => False)
  | .cell t ty :: rs, k => (match getE env t with
    | some (.pointer (some p)) => vcLoad P ty p h fun v => vcRes P env h rs fun vs => k (v :: vs)
    | _ => False)

def retV : List Value → Value
  | [v] => v
  | vs => .tuple vs.toArray

def argEnv : Nat → List Value → Env
  | _, [] => []
  | i, v :: l => (i, v) :: argEnv (i + 1) l

def vcF (P : Program) (qs : List Nat) (fn : Func) (args : List Value) (h : Heap) (R : Value → Heap → Prop) : Prop :=
  match fn.body with
  | none => False
  | some c => bif Nat.ble args.length fn.ntmps then
      vc P qs fn.ntmps c (argEnv 0 args) h fun e env h' => match e with
        | .normal => vcRes P env h' fn.results.toList fun vs => R (retV vs) h'
        | .ret => vcRes P env h' fn.results.toList fun vs => R (retV vs) h'
        | _ => False
    else False

section
variable {P : Program}

theorem vcRes_sound {n : Nat} {ds : List Deferred} {env : Env} {a : Act} {w : World} (g : Good n ds env a) : ∀ {rs : List ResultVar} {k : List Value → Prop}, vcRes P env w.heap rs k →
    ∃ vs, (rs.mapM (fun | .tmp t => pure (a.tmps.getD t undef) | .cell x t => do loadVar t (← asAddr (a.tmps.getD x undef)) : ResultVar → Sem Value)).run P w = .ok vs w ∧ k vs
  | [], k, H => ⟨[], by simp, H⟩
  | .tmp t :: rs, k, H => by
    simp only [vcRes] at H
    split at H
    · rename_i v hv
      obtain ⟨vs, hr, hk⟩ := vcRes_sound g H
      have := g.agree _ _ hv
      refine ⟨v :: vs, ?_, hk⟩
      have hd : a.tmps.getD t undef = v := by simp [this]
      simp only [List.mapM_cons, Sem.run_bind, hd, Sem.run_pure, Result.andThen_ok, hr]
    · exact H.elim
  | .cell x t :: rs, k, H => by
    simp only [vcRes] at H
    split at H
    · rename_i p hv
      obtain ⟨v, hl, H'⟩ := vcLoad_sound H
      have hl := hl w rfl
      obtain ⟨vs, hr, hk⟩ := vcRes_sound g H'
      have := g.agree _ _ hv
      refine ⟨v :: vs, ?_, hk⟩
      have hd : a.tmps.getD x undef = .pointer (some p) := by simp [this]
      have ha : asAddr (.pointer (some p)) = pure p := rfl
      simp only [List.mapM_cons, Sem.run_bind, hd, ha, Sem.run_pure, Result.andThen_ok, hl, hr]
    · exact H.elim

theorem results_run {fn : Func} {tmps : Array Value} {w : World} {vs : List Value}
    (h : (fn.results.toList.mapM (fun | .tmp t => pure (tmps.getD t undef) | .cell x t => do loadVar t (← asAddr (tmps.getD x undef)) : ResultVar → Sem Value)).run P w = .ok vs w) :
    (results fn tmps).run P w = .ok (retV vs) w := by
  have h2 : (fn.results.mapM (fun | .tmp t => pure (tmps.getD t undef) | .cell x t => do loadVar t (← asAddr (tmps.getD x undef)) : ResultVar → Sem Value)).run P w = .ok vs.toArray w := by
    rw [Array.mapM_eq_mapM_toList, Sem.run_map, h]
    rfl
  unfold results
  rw [Sem.run_bind]
  have fin : (if h : vs.toArray.size = 1 then vs.toArray[0] else Value.tuple vs.toArray) = retV vs := by
    unfold retV
    match vs with
    | [] => rfl
    | [v] => rfl
    | a :: b :: l => simp
  have key : ∀ r : Result (Array Value), r = .ok vs.toArray w → (r.andThen fun a w' => Sem.run P (pure (if h : a.size = 1 then a[0] else Value.tuple a)) w') = Result.ok (retV vs) w := fun r hr => by
    subst hr
    simp only [Result.andThen_ok, Sem.run_pure, fin]
  exact key _ h2

theorem getE_argEnv : ∀ {l : List Value} {i t : Nat} {v : Value}, getE (argEnv i l) t = some v → i ≤ t ∧ l[t - i]? = some v
  | [], i, t, v, h => by simp [argEnv, getE] at h
  | x :: l, i, t, v, h => by
    simp only [argEnv, getE_cons] at h
    split at h
    · rename_i hi; subst hi; exact ⟨Nat.le_refl _, by simpa using h⟩
    · rename_i hi
      obtain ⟨h1, h2⟩ := getE_argEnv h
      refine ⟨by omega, ?_⟩
      have : t - i = (t - (i + 1)) + 1 := by omega
      rw [this, List.getElem?_cons_succ]
      exact h2

theorem HC.of_vc {f : FuncId} {fn : Func} {args : List Value} {h : Heap} {R : Value → Heap → Prop} (hf : P.funcs[f]? = some fn)
    (he : ∀ (as : Array Value) (w : World), (callFunc f as).run P w = .ok (.enter f as) w) (hm : P.follows .mixedOrders = true) {qs : List Nat} (H : vcF P qs fn args h R) : HC P f args.toArray h R := by
  refine ⟨he, fun w hw => ?_⟩
  subst hw
  unfold vcF at H
  split at H
  · exact H.elim
  rename_i c hb
  cases hle : Nat.ble args.length fn.ntmps with
  | false => rw [hle] at H; exact H.elim
  | true =>
    rw [hle] at H
    have hle := Nat.le_of_ble_eq_true hle
    refine calls_of_wp hf hb ?_
    have g : Good fn.ntmps [] (argEnv 0 args) { tmps := args.toArray ++ Array.replicate (fn.ntmps - args.toArray.size) undef, defers := [] } := by
      refine ⟨fun t v hv => ?_, by simp; omega, rfl⟩
      obtain ⟨_, h2⟩ := getE_argEnv hv
      rw [Nat.sub_zero] at h2
      have hlt : t < args.length := (List.getElem?_eq_some_iff.1 h2).1
      rw [Array.getElem?_append_left (by simpa using hlt)]
      simpa using h2
    refine (wpIn_wide (n := 0)).1 (vc_sound (r := none) hm c g H fun e env' a' w' g' hk hs _ => ?_)
    have fin : vcRes P env' w'.heap fn.results.toList (fun vs => R (retV vs) w'.heap) → a'.defers = [] ∧ ∃ v, (results fn a'.tmps).run P w' = .ok v w' ∧ (∃ v', Ending.returned v = .returned v' ∧ R v' w'.heap ∧ Same w w') := fun hk => by
      obtain ⟨vs, hr, hR⟩ := vcRes_sound g' hk
      exact ⟨g'.defers, retV vs, results_run hr, _, rfl, hR, hs⟩
    cases e with
    | normal => exact fin hk
    | ret => exact fin hk
    | exit id => exact hk.elim
    | goto l => exact hk.elim

theorem enter_of {f : FuncId} {fn : Func} (hf : P.funcs[f]? = some fn) (hn : (fn.name == "runtime.NumGoroutine") = false) (hb : fn.body.isNone = false) (as : Array Value) (w : World) :
    (callFunc f as).run P w = .ok (.enter f as) w := by
  have hn' : ¬ fn.name = "runtime.NumGoroutine" := by simpa using hn
  have hb' : ¬ fn.body = none := by
    intro h
    rw [h] at hb
    exact absurd hb (by simp)
  simp [callFunc, go_sem, hf, hn', hb']

/-- What a function's formula says, the call does. -/
theorem HC.of_eq {F : Prop} {f : FuncId} {fn : Func} {args : List Value} {h : Heap} {R : Value → Heap → Prop} (hf : P.funcs[f]? = some fn)
    (hn : (fn.name == "runtime.NumGoroutine") = false) (hb : fn.body.isNone = false) (hm : P.follows .mixedOrders = true) {qs : List Nat} (e : F = vcF P qs fn args h R) (H : F) : HC P f args.toArray h R :=
  HC.of_vc hf (enter_of hf hn hb) hm (qs := qs) (e ▸ H)
end
end Go.Hv
