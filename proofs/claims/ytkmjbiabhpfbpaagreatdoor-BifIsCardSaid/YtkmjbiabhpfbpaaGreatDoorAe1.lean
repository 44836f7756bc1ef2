/- The abstract evaluator: data, heap, operations, code, calls. Plain definitions, over whatever program. -/
import Derived.Recover
import Derived.ScopeJumps
import Derived.KernelRfl
namespace Go.Ae
open Go

/-- A tree of cells by number. -/
inductive Tr (α : Type) where
  | nil
  | node (l : Tr α) (v : Option α) (r : Tr α)

def Tr.get {α : Type} : Tr α → Nat → Option α
  | .nil, _ => none
  | .node l v r, n => bif Nat.beq n 0 then v else bif Nat.beq (Nat.mod n 2) 1 then l.get (Nat.div n 2) else r.get (Nat.pred (Nat.div n 2))

def Tr.setF {α : Type} : Nat → Tr α → Nat → Option α → Tr α
  | 0, t, _, _ => t
  | f + 1, .nil, n, x => bif Nat.beq n 0 then .node .nil x .nil else bif Nat.beq (Nat.mod n 2) 1 then .node (setF f .nil (Nat.div n 2) x) none .nil else .node .nil none (setF f .nil (Nat.pred (Nat.div n 2)) x)
  | f + 1, .node l v r, n, x => bif Nat.beq n 0 then .node l x r else bif Nat.beq (Nat.mod n 2) 1 then .node (setF f l (Nat.div n 2) x) v r else .node l v (setF f r (Nat.pred (Nat.div n 2)) x)

def Tr.set {α : Type} (t : Tr α) (n : Nat) (x : α) : Tr α := Tr.setF (n + 1) t n (some x)
def Tr.erase {α : Type} (t : Tr α) (n : Nat) : Tr α := Tr.setF (n + 1) t n none

def Tr.fill {α : Type} : List α → Nat → Tr α → Tr α
  | [], _, t => t
  | v :: vs, i, t => Tr.fill vs (i + 1) (t.set i v)
def Tr.of {α : Type} (l : List α) : Tr α := Tr.fill l 0 .nil

/-- What lies behind a number. 'cells': how many; how many an element has; may they only be read? -/
inductive AObj where
  | cells (c : Tr Value) (n : Nat) (esz : Nat) (ro : Bool)
  | map (es : List MapEntry) (clock : Nat)
  | sIter (s : ByteArray) (pos : Nat)

structure AHeap where
  next : Nat
  objs : Tr AObj

def AHeap.new (h : AHeap) (o : AObj) : AHeap := ⟨h.next + 1, h.objs.set h.next o⟩
def AHeap.put (h : AHeap) (b : Nat) (o : AObj) : AHeap := ⟨h.next, h.objs.set b o⟩

def readCells (c : Tr Value) (off : Nat) : Nat → Option (List Value)
  | 0 => some []
  | n + 1 => (c.get off).bind fun v => (readCells c (off + 1) n).map (v :: ·)

def AHeap.read (h : AHeap) (b off n : Nat) : Option (List Value) :=
  match h.objs.get b with
  | some (.cells c _ _ _) => readCells c off n
  | _ => none

def AHeap.write (h : AHeap) (b off : Nat) (vs : List Value) : Option AHeap :=
  match h.objs.get b with
  | some (.cells c n z false) =>
    bif Nat.ble (off + vs.length) n && vs.all (·.oneCell') then some ⟨h.next, h.objs.set b (.cells (Tr.fill vs off c) n z false)⟩ else none
  | _ => none

/-- Has a value no address in it? -/
def ground : Value → Bool
  | .bool _ | .int .. | .float .. | .string _ | .nilFunc | .nilIface | .pointer none | .slice none 0 0 | .map none => true
  | _ => false

/-- A run that asks the program alone. -/
def pureRun {α : Type} (P : Program) : Sem α → Option α
  | .pure a => some a
  | .program k => pureRun P (k P)
  | .mark _ k => pureRun P k
  | _ => none

inductive ORes where
  | val (v : Value) (h : AHeap)
  | skip (h : AHeap)
  | dfr (d : Deferred) (h : AHeap)
  | enter (f : FuncId) (args : Array Value) (h : AHeap)
  | panic (v : Value) (h : AHeap)

def groundRes (v : Value) (h : AHeap) : Option ORes := bif ground v then some (.val v h) else none

inductive AEnd where
  | ret (v : Value)
  | panic (chain : List PanicEntry)

def groundKey : Value → Bool
  | .agg cs => cs.toList.all ground
  | v => ground v

/-- What is known of values that are only handed on: an operation's answer at them. -/
class Ask where
  ask : Program → Op → (Operand → Value) → Option Value
@[reducible] def noAsk : Ask := ⟨fun _ _ _ => none⟩

section
variable (P : Program)

def zeroA (t : TypeId) : Option Value := ((P.info? t).bind (·.zero)).bind fun z => bif groundKey z then some z else none

def sizeA (t : TypeId) : Option Nat := (P.info? t).map (·.size)
def isAggA (t : TypeId) : Option Bool := (P.underlying t).map fun d => match d with | .struct _ | .array _ _ => true | _ => false

def loadA (t : TypeId) (b off : Nat) (h : AHeap) : Option Value :=
  match P.underlying t with
  | some (.struct _) | some (.array _ _) => (sizeA P t).bind fun n => (h.read b off n).map fun l => .agg ⟨l⟩
  | some _ => match h.read b off 1 with | some (v :: _) => some v | _ => none
  | none => none

def storeA (t : TypeId) (b off : Nat) (v : Value) (h : AHeap) : Option AHeap :=
  (sizeA P t).bind fun n => bif Nat.beq v.cells.size n then h.write b off v.cells.toList else none

def newA (esz : Nat) (cells : List Value) (h : AHeap) : AHeap := h.new (.cells (Tr.of cells) cells.length esz false)

/-- A slice's capacity, as it is kept: 2 * k: just k; 2 * k + 1: k or more. -/
def capAtLeast (c : Nat) : Nat := Nat.div c 2
def capSure (c : Nat) : Bool := Nat.beq (Nat.mod c 2) 0

def intOfV : Value → Option Int
  | .int _ n => some n
  | _ => none

/-- A bound of a slice expression. -/
def boundA (x : Value) (most : Nat) : Option Nat :=
  match x with
  | .int _ i => bif decide (0 ≤ i) && decide (i ≤ most) then some i.toNat else none
  | _ => none

/-- Is an element of that block so long? -/
def eszIs (h : AHeap) (b size : Nat) : Bool :=
  match h.objs.get b with
  | some (.cells _ _ z _) => Nat.beq z size
  | _ => false

def sliceOk (a : Option Addr) (size c : Nat) (m : Bool) (h : AHeap) : Bool :=
  !(Nat.beq size 0) && (match a with | some a => eszIs h a.block size | none => true) && !(Nat.beq c 1 && m)

def sliceA (t : TypeId) (x : Value) (lo hi mx : Option Value) (hp : AHeap) : Option Value :=
  match P.underlying t, x with
  | some .string, .string s =>
    match mx with
    | some _ => none
    | none =>
      (match hi with | some v => boundA v s.size | none => some s.size).bind fun h =>
      (match lo with | some v => boundA v h | none => some 0).bind fun l => some (.string (s.extract l h))
  | some (.slice elem), .slice a len c =>
    let cap := capAtLeast c
    (match mx with | some v => (boundA v cap).map fun m => (m, true) | none => some (cap, capSure c)).bind fun (m, sure) =>
    (match hi with | some v => boundA v m | none => match mx with | none => bif Nat.ble len m then some len else none | _ => none).bind fun h =>
    (match lo with | some v => boundA v h | none => some 0).bind fun l =>
    (sizeA P elem).bind fun size =>
    bif !(sliceOk a size c mx.isSome hp) then none else
    -- an empty rest at the capacity's end: its address is not told
    bif Nat.beq m l && !(Nat.beq l 0) then some (.slice a 0 1) else
    some (.slice (a.map fun (x : Addr) => x.add (l * size)) (h - l) (2 * (m - l) + (bif sure then 0 else 1)))
  | _, _ => none

/-- What is appended or copied: how many, and their cells. -/
def srcA (size most : Nat) (x : Value) (h : AHeap) : Option (Nat × List Value) :=
  match x with
  | .slice (some a) n _ => (h.read a.block a.off (Nat.min n most * size)).map fun l => (Nat.min n most, l)
  | .slice none n _ => some (Nat.min n most, [])
  | .string s => bif Nat.beq size 1 then some (Nat.min s.size most, (s.extract 0 (Nat.min s.size most)).data.toList.map fun (b : UInt8) => Value.int .u8 b.toNat) else none
  | _ => none

def roomA (elem : TypeId) (need : Nat) : Bool :=
  match P.info? elem with
  | some i => Nat.ble need 1099511627776 && Nat.ble (need * i.bytes) 140737488355328
  | none => false

def zOkA (elem : TypeId) (size : Nat) : Bool :=
  match zeroA P elem with
  | some z => Nat.beq z.cells.size size
  | none => false

/-- A new row, its beginning known. -/
def growA (elem : TypeId) (size need : Nat) (l : List Value) (h : AHeap) : Option (Value × AHeap) :=
  bif roomA P elem need && zOkA P elem size then some (.slice (some ⟨h.next, 0, none⟩) need (2 * need + 1), newA size l h) else none

/-- A row that may, or may not, be longer than is known: it is the new slice's from now on. -/
def extendA (elem : TypeId) (size len need b : Nat) (new : List Value) (h : AHeap) : Option (Value × AHeap) :=
  match h.objs.get b with
  | some (.cells cs n' z false) =>
    bif Nat.blt 0 len && Nat.beq n' (len * size) && Nat.beq z size && new.all (·.oneCell') && roomA P elem need && zOkA P elem size then
      some (.slice (some ⟨h.next, 0, none⟩) need (2 * need + 1), ⟨h.next + 1, (h.objs.erase b).set h.next (.cells (Tr.fill new n' cs) (need * size) size false)⟩)
    else none
  | _ => none

def plainArg : List TypeId → Bool
  | [] => true
  | xt :: _ => match P.underlying xt with | some (.int _) => false | some _ => true | none => false

def appendA (argTypes : Array TypeId) (args : Array Value) (h : AHeap) : Option (Value × AHeap) :=
  match argTypes.toList, args.toList with
  | st :: xts, .slice base len c :: x :: _ =>
    match P.underlying st with
    | some (.slice elem) =>
      bif !(plainArg P xts) then none else
      (sizeA P elem).bind fun size =>
      bif Nat.beq size 0 then none else
      (srcA size 1099511627776 x h).bind fun p =>
      bif Nat.ble 1099511627776 p.1 || !(Nat.beq p.2.length (p.1 * size)) then none else bif Nat.beq p.1 0 then some (.slice base len c, h) else
      match base with
      | none => growA P elem size (len + p.1) p.2 h
      | some a =>
        bif Nat.ble (len + p.1) (capAtLeast c) then
          (h.write a.block (a.off + len * size) p.2).map fun h' => (.slice base (len + p.1) c, h')
        else bif capSure c then (h.read a.block a.off (len * size)).bind fun old => growA P elem size (len + p.1) (old ++ p.2) h
        else bif Nat.beq a.off 0 then extendA P elem size len (len + p.1) a.block p.2 h else none
    | _ => none
  | _, _ => none

/-- Two comparable values of which one is nil, the other an address. -/
def eqA (t : TypeId) (x y : Value) : Option Bool :=
  match P.underlying t, x, y with
  | some (.pointer _), .pointer none, .pointer (some _) => some false
  | some (.pointer _), .pointer (some _), .pointer none => some false
  | some (.slice _), .slice none _ _, .slice (some _) _ _ => some false
  | some (.slice _), .slice (some _) _ _, .slice none _ _ => some false
  | some (.map _ _), .map none, .map (some _) => some false
  | some (.map _ _), .map (some _), .map none => some false
  | some (.func _ _ _), .nilFunc, .func _ _ _ => some false
  | some (.func _ _ _), .func _ _ _, .nilFunc => some false
  | some (.interface _), .nilIface, .iface _ _ => some false
  | some (.interface _), .iface _ _, .nilIface => some false
  | _, _, _ => none

def lenA (t : TypeId) (x : Value) (h : AHeap) : Option Value :=
  match P.underlying t, x with
  | some .string, .string s => some (goInt s.size)
  | some (.array n _), _ => some (goInt n)
  | some (.slice _), .slice _ n _ => some (goInt n)
  | some (.map _ _), .map none => some (goInt 0)
  | some (.map _ _), .map (some r) => match h.objs.get r with | some (.map es _) => some (goInt es.length) | _ => none
  | _, _ => none

def copyA (argTypes : Array TypeId) (args : Array Value) (h : AHeap) : Option (Value × AHeap) :=
  match argTypes.toList, args.toList with
  | dt :: _, .slice base dlen _ :: src :: _ =>
    match P.underlying dt with
    | some (.slice elem) =>
      (sizeA P elem).bind fun size =>
      (srcA size dlen src h).bind fun p =>
      match base with
      | some a => bif Nat.beq p.1 0 then bif p.2.isEmpty then some (goInt p.1, h) else none else (h.write a.block a.off p.2).map fun h' => (goInt p.1, h')
      | none => some (goInt p.1, h)
    | _ => none
  | _, _ => none

def findA (t : TypeId) (k : Value) (es : List MapEntry) : Option (Option (Nat × Value)) := pureRun P (Instr.findKey t k es)

def lookupA (t : TypeId) (x k : Value) (ok : Bool) (h : AHeap) : Option Value :=
  match P.underlying t with
  | some (.map key elem) =>
    bif !groundKey k then none else
    (match x with
      | .map none => some []
      | .map (some r) => match h.objs.get r with | some (.map es _) => some es | _ => none
      | _ => none).bind fun es =>
    (pureRun P (Instr.checkKey es.isEmpty 10000 key k)).bind fun _ =>
    (findA P key k es).bind fun r =>
    match r with
    | some (_, v) => some (if ok then .tuple #[v, .bool true] else v)
    | none => (zeroA P elem).map fun z => if ok then .tuple #[z, .bool false] else z
  | _ => none

def mapSetA (t : TypeId) (x k v : Value) (h : AHeap) : Option AHeap :=
  match P.underlying t, x with
  | some (.map key _), .map (some r) =>
    bif !groundKey k then none else
    match h.objs.get r with
    | some (.map es clock) =>
      (pureRun P (Instr.checkKey false 10000 key k)).bind fun _ =>
      (findA P key k es).bind fun f =>
      match f with
      | some (i, _) =>
        (pureRun P (Instr.keyThatStays (((es[i]?).map (·.key)).getD k) k)).map fun k' => h.put r (.map (es.modify i fun e => { e with key := k', val := v }) clock)
      | none => some (h.put r (.map (es ++ [{ key := k, val := v, born := clock }]) (clock + 1)))
    | _ => none
  | _, _ => none

def deleteA (t : TypeId) (x k : Value) (h : AHeap) : Option AHeap :=
  match P.underlying t, x with
  | some (.map key _), .map none => bif !groundKey k then none else (pureRun P (Instr.checkKey true 10000 key k)).map fun _ => h
  | some (.map key _), .map (some r) =>
    bif !groundKey k then none else
    match h.objs.get r with
    | some (.map es clock) =>
      (pureRun P (Instr.checkKey es.isEmpty 10000 key k)).bind fun _ =>
      (findA P key k es).map fun f =>
      match f with
      | some (i, _) => h.put r (.map (es.eraseIdx i) clock)
      | none => h
    | _ => none
  | _, _ => none

def mapEntryA (t : TypeId) (x k : Value) (h : AHeap) : Option (Value × AHeap) :=
  match P.underlying t, x with
  | some (.map key elem), .map (some r) =>
    bif !groundKey k then none else
    match h.objs.get r with
    | some (.map es clock) =>
      (pureRun P (Instr.checkKey false 10000 key k)).bind fun _ =>
      (findA P key k es).bind fun f =>
      match f with
      | some (i, v) =>
        (pureRun P (Instr.keyThatStays (((es[i]?).map (·.key)).getD k) k)).map fun k' =>
          (.tuple #[v, goInt (((es[i]?).map (·.born)).getD 0)], h.put r (.map (es.modify i fun e => { e with key := k' }) clock))
      | none => (zeroA P elem).map fun z =>
          (.tuple #[z, goInt clock], h.put r (.map (es ++ [{ key := k, val := z, born := clock }]) (clock + 1)))
    | _ => none
  | _, _ => none

def entryStoreA (x stamp v : Value) (h : AHeap) : Option AHeap :=
  match x, stamp with
  | .map (some r), .int _ born =>
    match h.objs.get r with
    | some (.map es clock) =>
      match es.findIdx? (fun e => decide ((e.born : Int) = born)) with
      | some i => some (h.put r (.map (es.modify i fun e => { e with val := v }) clock))
      | none => none
    | _ => none
  | _, _ => none

def builtinA (b : Builtin) (argTypes : Array TypeId) (args : Array Value) (h : AHeap) : Option ORes :=
  match b with
  | .append => (appendA P argTypes args h).map fun (v, h') => .val v h'
  | .len => match argTypes.toList, args.toList with | t :: _, x :: _ => (lenA P t x h).map fun v => .val v h | _, _ => none
  | .cap => match argTypes.toList, args.toList with
    | t :: _, .slice _ _ c :: _ => (match P.underlying t with | some (.slice _) => bif capSure c then some (.val (goInt (capAtLeast c)) h) else none | _ => none)
    | _, _ => none
  | .copy => (copyA P argTypes args h).map fun (v, h') => .val v h'
  | .delete => match argTypes.toList, args.toList with | t :: _, x :: k :: _ => (deleteA P t x k h).map fun h' => .val (.tuple #[]) h' | _, _ => none
  | .panic => match args.getD 0 .nilIface with | .iface t v => some (.panic (.iface t v) h) | _ => none
  | .max => bif args.toList.all ground then (pureRun P (Builtin.max_ argTypes 0 args)).bind fun v => groundRes v h else none
  | .min => bif args.toList.all ground then (pureRun P (Builtin.min_ argTypes 0 args)).bind fun v => groundRes v h else none
  | _ => none

/-- A method's function and its receiver: the value itself, or a part of what it points to. -/
def methodA (t : TypeId) (v : Value) (name : String) : Option (FuncId × Value) :=
  (P.info? t).bind fun i =>
  (i.methods.find? (·.name == name)).bind fun m =>
  match m.path.toList, m.func with
  | [], some (f, ptr) =>
    match P.underlying t, ptr with
    | some (.pointer _), true => some (f, v)
    | some (.pointer _), false => none
    | some _, false => some (f, v)
    | _, _ => none
  | [s], some (f, true) =>
    bif s.deref then
      match P.underlying s.struct, v with
      | some (.struct fields), .pointer (some a) =>
        (fields[s.index]?).bind fun fd =>
        (sizeA P fd.type).bind fun n =>
        bif Nat.beq n 0 then none else
        match P.underlying fd.type with
        | some (.pointer _) => none
        | some _ => some (f, .pointer (some (a.add fd.offset)))
        | none => none
      | _, _ => none
    else none
  | _, _ => none

/-- A function that is called: entered, or, where it has no text, told by the model. -/
def enterA (f : FuncId) (args : Array Value) (h : AHeap) : Option ORes :=
  (P.funcs[f]?).bind fun fn =>
  match fn.body with
  | some _ => bif fn.name == "runtime.NumGoroutine" then none else some (.enter f args h)
  | none =>
    bif args.toList.all ground then
      match pureRun P (callFunc f args) with
      | some (.value v) => groundRes v h
      | _ => none
    else none

def invokeA (d : Deferred) (h : AHeap) : Option ORes :=
  match d.target with
  | .fn (.func f) captured => enterA P f (d.args ++ captured) h
  | .fn (.method name) _ =>
    match d.args.toList with
    | .iface t v :: rest => (methodA P t v name).bind fun p => enterA P p.1 ⟨p.2 :: rest⟩ h
    | _ => none
  | _ => none

def resolveA (ρ : Operand → Value) (c : Call) : Option Deferred :=
  let args := c.args.map ρ
  match c.callee with
  | .builtin _ => none
  | .invoke recv name => some { target := .fn (.method name) #[], args := #[ρ recv] ++ args }
  | .value f => match ρ f with
    | .func fn first captured => some { target := .fn fn captured, args := first ++ args }
    | _ => none

/-- Cells as bytes. -/
def bytesA : List Value → Option (List UInt8)
  | [] => some []
  | .int .u8 n :: l => (bytesA l).map (UInt8.ofNat n.toNat :: ·)
  | _ => none

/-- Where the fields lie, and how long they are. -/
def placesA : List Field → Option (List (Nat × Nat))
  | [] => some []
  | f :: fs => (sizeA P f.type).bind fun n => (placesA fs).map ((f.offset, n) :: ·)

def partA (t : TypeId) (cs : List Value) (off : Nat) : Option Value :=
  match P.underlying t with
  | some (.struct _) | some (.array _ _) => (sizeA P t).map fun n => .agg ⟨(cs.drop off).take n⟩
  | some _ => cs[off]?
  | none => none

def opA0 (ρ : Operand → Value) (o : Oper) (h : AHeap) : Option ORes :=
  match o.op with
  | .move x | .assign x => some (.val (ρ x) h)
  | .pick c a b => match ρ c with | .bool t => some (.val (bif t then ρ a else ρ b) h) | _ => none
  | .alloc elem => (zeroA P elem).map fun z => .val (.pointer (some ⟨h.next, 0, none⟩)) (newA 1 z.cells.toList h)
  | .box _ x => some (.val (.pointer (some ⟨h.next, 0, none⟩)) (newA 1 (ρ x).cells.toList h))
  | .build t parts =>
    match P.underlying t with
    | some (.struct fields) =>
      (zeroA P t).bind fun zero =>
      (placesA P fields.toList).bind fun places =>
      (Instr.fill (places[·]?) zero.cells (parts.toList.map fun p => (p.1, ρ p.2))).map fun cells => .val (.agg cells) h
    | some (.array _ elem) =>
      (zeroA P t).bind fun zero =>
      (sizeA P elem).bind fun size =>
      (Instr.fill (fun i => some (i * size, size)) zero.cells (parts.toList.map fun p => (p.1, ρ p.2))).map fun cells => .val (.agg cells) h
    | _ => none
  | .buildSlice t len parts =>
    match P.underlying t with
    | some (.slice elem) =>
      (sizeA P elem).bind fun size =>
      bif Nat.beq size 0 || Nat.blt (2 ^ 24) (len * size) then none else
      (bif Nat.beq len 0 then some #[] else (zeroA P elem).map (·.cells)).bind fun zero =>
      (Instr.fill (fun i => some (i * size, size)) ((Array.range (len * size)).map (zero[· % zero.size]!)) (parts.toList.map fun p => (p.1, ρ p.2))).map fun cells =>
        .val (.slice (some ⟨h.next, 0, none⟩) len (2 * len)) (newA size cells.toList h)
    | _ => none
  | .load t a => match ρ a with | .pointer (some a) => (loadA P t a.block a.off h).map fun v => .val v h | _ => none
  | .store t a x => match ρ a with | .pointer (some a) => (storeA P t a.block a.off (ρ x) h).map fun h' => .skip h' | _ => none
  | .nilCheck x => match ρ x with
    | .pointer (some a) => some (.val (.pointer (some a)) h)
    | .iface t v => some (.val (.iface t v) h)
    | .func (.func f) a b => some (.val (.func (.func f) a b) h)
    | _ => none
  | .binOp op t x y _ =>
    bif groundKey (ρ x) && groundKey (ρ y) then (pureRun P (do eqGuard op t x y (ρ x) (ρ y); binOp op t (ρ x) (ρ y))).bind fun v => groundRes v h
    else match op with
    | .eql => (eqA P t (ρ x) (ρ y)).map fun b => .val (.bool b) h
    | .neq => (eqA P t (ρ x) (ρ y)).map fun b => .val (.bool (!b)) h
    | _ => none
  | .unOp op _ x => bif ground (ρ x) then (pureRun P (Op.unary op (ρ x))).bind fun v => groundRes v h else none
  | .convert src dst x =>
    match P.underlying src, P.underlying dst, ρ x with
    | some .string, some (.slice e), .string s =>
      (match P.underlying e with
        | some (.int .u8) => some (.val (.slice (some ⟨h.next, 0, none⟩) s.size (2 * s.size + 1)) (newA 1 (s.data.toList.map fun (b : UInt8) => Value.int .u8 b.toNat) h))
        | _ => none)
    | some (.slice e), some .string, .slice none _ _ =>
      (match P.underlying e with | some (.int .u8) => some (.val (.string .empty) h) | _ => none)
    | some (.slice e), some .string, .slice (some a) len _ =>
      (match P.underlying e with
        | some (.int .u8) => (h.read a.block a.off len).bind fun l =>
            (bytesA l).map fun bs => .val (.string ⟨⟨bs⟩⟩) h
        | _ => none)
    | some _, some _, v => bif ground v then (pureRun P (convert src dst v)).bind fun v' => groundRes v' h else none
    | _, _, _ => none
  | .makeInterface t x => match P.underlying t with | some (.interface _) => none | some _ => some (.val (.iface t (ρ x)) h) | none => none
  | .makeFunc fn first captured => some (.val (.func fn (first.map ρ) (captured.map ρ)) h)
  | .makeMap t r => match r with
    | none => some (.val (.map (some h.next)) (h.new (.map [] 0)))
    | some hint => match P.underlying t, ρ hint with | some (.map _ _), .int _ _ => some (.val (.map (some h.next)) (h.new (.map [] 0))) | _, _ => none
  | .makeSlice t l c =>
    match P.underlying t, ρ l, ρ c with
    | some (.slice elem), .int _ l, .int _ c =>
      (P.info? elem).bind fun i =>
      bif decide (0 ≤ l) && decide (l ≤ c) && decide (c * i.bytes ≤ 2 ^ 40) && decide (c ≤ 2 ^ 40) && !(Nat.beq i.size 0) then
        (zeroA P elem).map fun z =>
          .val (.slice (some ⟨h.next, 0, none⟩) l.toNat (2 * c.toNat)) (newA i.size ((Array.range (c.toNat * i.size)).map (z.cells[· % z.cells.size]!)).toList h)
      else none
    | _, _, _ => none
  | .slice t x lo hi mx => (sliceA P t (ρ x) (lo.map ρ) (hi.map ρ) (mx.map ρ) h).map fun v => .val v h
  | .fieldAddr s x f =>
    match P.underlying s, ρ x with
    | some (.struct fields), .pointer (some a) =>
      (fields[f]?).bind fun fd => (sizeA P fd.type).bind fun n => bif Nat.beq n 0 then none else some (.val (.pointer (some (a.add fd.offset))) h)
    | _, _ => none
  | .field t x f =>
    match P.underlying t, ρ x with
    | some (.struct fields), .agg cs => (fields[f]?).bind fun fd => (partA P fd.type cs.toList fd.offset).map fun v => .val v h
    | _, _ => none
  | .indexAddr t x ix =>
    match P.underlying t, ρ x, ρ ix with
    | some (.slice elem), .slice (some a) len _, .int _ i =>
      bif decide (0 ≤ i) && decide (i < len) then (sizeA P elem).map fun n => .val (.pointer (some (a.add (i.toNat * n)))) h else none
    | some (.array len elem), .pointer (some a), .int _ i =>
      bif decide (0 ≤ i) && decide (i < len) then (sizeA P elem).map fun n => .val (.pointer (some (a.add (i.toNat * n)))) h else none
    | _, _, _ => none
  | .index t x ix =>
    match P.underlying t, ρ x, ρ ix with
    | some (.array len elem), .agg cs, .int _ i =>
      bif decide (0 ≤ i) && decide (i < len) then (sizeA P elem).bind fun n => (partA P elem cs.toList (i.toNat * n)).map fun v => .val v h else none
    | some .string, .string s, .int _ i =>
      bif decide (0 ≤ i) then match s.data.toList[i.toNat]? with | some b => some (.val (.int .u8 b.toNat) h) | none => none else none
    | _, _, _ => none
  | .lookup t x ix ok => (lookupA P t (ρ x) (ρ ix) ok h).map fun v => .val v h
  | .mapUpdate t m k x => (mapSetA P t (ρ m) (ρ k) (ρ x) h).map fun h' => .skip h'
  | .mapEntry t m k => (mapEntryA P t (ρ m) (ρ k) h).map fun (v, h') => .val v h'
  | .entryStore _ m s x => (entryStoreA (ρ m) (ρ s) (ρ x) h).map fun h' => .skip h'
  | .range t x => match P.underlying t, ρ x with
    | some .string, .string s => some (.val (.pointer (some ⟨h.next, 0, none⟩)) (h.new (.sIter s 0)))
    | _, _ => none
  | .next it isString => match ρ it, isString with
    | .pointer (some ⟨r, 0, _⟩), true =>
      (match h.objs.get r with
        | some (.sIter s pos) =>
          bif Nat.blt pos s.size then
            let d := Utf8.decode s pos
            some (.val (.tuple #[.bool true, goInt pos, .int .i32 d.1]) (h.put r (.sIter s (pos + d.2))))
          else some (.val (.tuple #[.bool false]) h)
        | _ => none)
    | _, _ => none
  | .typeAssert x _ asserted ok =>
    match P.underlying asserted, ρ x with
    | some (.interface want), .iface t v =>
      (P.info? t).bind fun i => match Instr.missingMethod want i.methods with
      | none => some (.val (if ok then .tuple #[.iface t v, .bool true] else .iface t v) h)
      | some _ => bif ok then (zeroA P asserted).map fun z => .val (.tuple #[z, .bool false]) h else none
    | some d, .iface t v =>
      bif Nat.beq t asserted then (match d with | .interface _ => none | _ => some (.val (if ok then .tuple #[v, .bool true] else v) h))
      else bif ok then (zeroA P asserted).map fun z => .val (.tuple #[z, .bool false]) h else none
    | some _, .nilIface => bif ok then (zeroA P asserted).map fun z => .val (.tuple #[z, .bool false]) h else none
    | _, _ => none
  | .extract x i => match ρ x with | .tuple vs => (vs[i]?).map fun v => .val v h | _ => none
  | .call c => match c.callee with
    | .builtin b => builtinA P b c.argTypes (c.args.map ρ) h
    | _ => (resolveA ρ c).bind fun d => invokeA P d h
  | .defer c => (resolveA ρ c).map fun d => .dfr d h
  | .panic x => match ρ x with | .iface t v => some (.panic (.iface t v) h) | _ => none
  | _ => none

/-- Of what may be told to 'ask', and told by it. -/
def flat : Value → Bool
  | .chan (some _) => true
  | v => ground v

def askable : Op → Bool
  | .binOp .. | .unOp .. | .convert .. => true
  | .call c => match c.callee with | .builtin _ => true | _ => false
  | _ => false

def opA [Ask] (ρ : Operand → Value) (o : Oper) (h : AHeap) : Option ORes :=
  bif askable o.op then
    match Ask.ask P o.op ρ with
    | some v => bif flat v then some (.val v h) else none
    | none => opA0 P ρ o h
  else opA0 P ρ o h

end

/-- Where a run of a piece of code stands. -/
structure St where
  tm : Tr Value
  ds : List Deferred
  h : AHeap

inductive AExit where
  | normal
  | exit (id : Nat)
  | goto (l : Nat)
  | ret
  | panic (chain : List PanicEntry)

def ev (tm : Tr Value) : Operand → Value
  | .tmp t => (tm.get t).getD undef
  | .const v => v
  | .global g => .pointer (some ⟨g, 0, none⟩)
  | .func f => .func (.func f) #[] #[]

def putT (tm : Tr Value) (dst : Option Tmp) (v : Value) : Tr Value :=
  match dst with
  | some d => tm.set d v
  | none => tm

/-- Is an operation of a region wanted? -/
def wantedA (ops : List Oper) (o : Oper) (tm : Tr Value) : Option Bool :=
  match o.guard with
  | none => some true
  | some (j, want) =>
    match (ops[j]?).bind (·.dst) with
    | none => some false
    | some d => match (tm.get d).getD undef with
      | .bool b => some (bif want then b else !b)
      | .tuple _ => some false
      | _ => none

abbrev CallA := FuncId → Array Value → AHeap → Option (AEnd × AHeap)

def opsA [Ask] (P : Program) (call : CallA) (all : List Oper) : List Oper → St → Option (AExit × St)
  | [], s => some (.normal, s)
  | o :: rest, s =>
    match wantedA all o s.tm with
    | none => none
    | some false => opsA P call all rest ⟨putT s.tm o.dst undef, s.ds, s.h⟩
    | some true =>
      match opA P (ev s.tm) o s.h with
      | some (.val v h) => opsA P call all rest ⟨putT s.tm o.dst v, s.ds, h⟩
      | some (.skip h) => opsA P call all rest ⟨putT s.tm o.dst undef, s.ds, h⟩
      | some (.dfr d h) => opsA P call all rest ⟨putT s.tm o.dst undef, d :: s.ds, h⟩
      | some (.enter f args h) =>
        match call f args h with
        | some (.ret v, h') => opsA P call all rest ⟨putT s.tm o.dst v, s.ds, h'⟩
        | some (.panic chain, h') => some (.panic chain, ⟨s.tm, s.ds, h'⟩)
        | none => none
      | some (.panic v h) => some (.panic [{ v, recovered := false }], ⟨s.tm, s.ds, h⟩)
      | none => none

/-! A region that draws its order. -/

/-- Must operation j come ahead of operation i? -/
def aheadA (ops : List Oper) : Nat → Nat → Nat → Bool
  | 0, _, _ => false
  | f + 1, j, i =>
    match ops[i]? with
    | none => false
    | some o => o.after.toList.any fun e => Region.binds .any e && (Nat.beq e.on j || aheadA ops f j e.on)

/-- Does an operation do no more than look? -/
def looksA (P : Program) : Op → Bool
  | .move _ | .assign _ | .pick .. | .build .. | .load .. | .nilCheck _ | .binOp .. | .unOp .. | .makeInterface .. | .makeFunc .. | .slice .. | .fieldAddr .. | .field .. | .indexAddr .. | .index ..
  | .lookup .. | .typeAssert .. | .extract .. => true
  | .convert src _ _ => match P.underlying src with | some (.int _) | some (.float _) => true | _ => false
  | .call c => match c.callee with
    | .builtin .len => true
    | .value (.func f) => match P.funcs[f]? with | some fn => fn.body.isNone | none => false
    | _ => false
  | _ => false

/-- The temporaries at which an operation looks. -/
def lookedA (ops : List Oper) (o : Oper) : List Tmp :=
  (o.op.operands.toList.filterMap fun | .tmp t => some t | _ => none) ++
  (match o.guard with
   | some (g, _) => ((ops[g]?).bind (·.dst)).toList
   | none => [])

/-- One operation as it was done: its number, what stood there, whether it was wanted, what it told, whether it may have turned memory. -/
structure DRec where
  i : Nat
  o : Oper
  tm : Tr Value
  w : Bool
  v : Value
  act : Bool
  h : AHeap
  h' : AHeap

/-- The operations in one order. -/
def recsA [Ask] (P : Program) (call : CallA) (ops : List Oper) : List Nat → Tr Value → AHeap → Option (List DRec × Tr Value × AHeap)
  | [], tm, h => some ([], tm, h)
  | i :: rest, tm, h =>
    match ops[i]? with
    | none => none
    | some o =>
      let go (w : Bool) (v : Value) (act : Bool) (h' : AHeap) : Option (List DRec × Tr Value × AHeap) :=
        (recsA P call ops rest (putT tm o.dst v) h').map fun r => (⟨i, o, tm, w, v, act, h, h'⟩ :: r.1, r.2)
      match wantedA ops o tm with
      | none => none
      | some false => go false undef false h
      | some true =>
        bif looksA P o.op then
          match opA P (ev tm) o h with
          | some (.val v _) => go true v false h
          | _ => none
        else
          match opA P (ev tm) o h with
          | some (.val v h') => go true v true h'
          | some (.skip h') => go true undef true h'
          | some (.enter f args h1) =>
            match call f args h1 with
            | some (.ret v, h') => go true v true h'
            | _ => none
          | _ => none

mutual
def eqV : Value → Value → Bool
  | .bool a, .bool b => a == b
  | .int j a, .int k b => decide (j = k) && decide (a = b)
  | .float j a, .float k b => decide (j = k) && Nat.beq a b
  | .string a, .string b => decide (a.data.toList = b.data.toList)
  | .pointer a, .pointer b => decide (a = b)
  | .slice a l c, .slice b m d => decide (a = b) && Nat.beq l m && Nat.beq c d
  | .map a, .map b => decide (a = b)
  | .chan a, .chan b => decide (a = b)
  | .nilFunc, .nilFunc => true
  | .nilIface, .nilIface => true
  | .func f ⟨a⟩ ⟨c⟩, .func g ⟨b⟩ ⟨d⟩ => decide (f = g) && eqVs a b && eqVs c d
  | .iface t v, .iface u w => Nat.beq t u && eqV v w
  | .agg ⟨a⟩, .agg ⟨b⟩ => eqVs a b
  | .tuple ⟨a⟩, .tuple ⟨b⟩ => eqVs a b
  | _, _ => false
def eqVs : List Value → List Value → Bool
  | [], [] => true
  | v :: l, w :: m => eqV v w && eqVs l m
  | _, _ => false
end

def tellsA [Ask] (P : Program) (r : DRec) (h : AHeap) : Bool :=
  match opA P (ev r.tm) r.o h with
  | some (.val v _) => eqV v r.v
  | _ => false

/-- A new variable: the operations beside which it is made need not be told. -/
def newsA : Op → Bool
  | .alloc _ => true
  | _ => false

/-- Wherever it may stand among those that turn memory, it tells the same. -/
def anywhereA [Ask] (P : Program) (ops : List Oper) (n : Nat) (r : DRec) : AHeap → List DRec → Bool
  | h, [] => tellsA P r h
  | h, l :: rest => (aheadA ops n l.i r.i || (rest.any fun q => !(newsA q.o.op) && aheadA ops n q.i r.i) || tellsA P r h) && (aheadA ops n r.i l.i || anywhereA P ops n r l.h' rest)

/-- What must hold of two operations, the first one ahead of the other in the order that was taken. -/
def pairOk (ops : List Oper) (n : Nat) (p q : DRec) : Bool :=
  !(aheadA ops n q.i p.i) && !(Nat.beq p.i q.i) &&
  (match p.o.dst with
    | some d => !(q.o.dst == some d) && (!((lookedA ops q.o).contains d) || aheadA ops n p.i q.i)
    | none => true) &&
  (match q.o.dst with
    | some d => !((lookedA ops p.o).contains d) || aheadA ops n p.i q.i
    | none => true)

/-- Those that turn memory are told one behind the other, but for new variables: at these none looks before all that stood ahead of them is done. -/
def looseOk (ops : List Oper) (n : Nat) : List DRec → List DRec → Bool
  | _, [] => true
  | bef, a :: l =>
    (!a.act || bef.all fun p => aheadA ops n p.i a.i || (newsA a.o.op && l.all fun r => !((lookedA ops r.o).any fun t => a.o.dst == some t) || aheadA ops n p.i r.i)) &&
    looseOk ops n (bif a.act then a :: bef else bef) l

def pairsOk (ops : List Oper) (n : Nat) : List DRec → Bool
  | [] => true
  | p :: l => (l.all fun q => pairOk ops n p q) && pairsOk ops n l

/-- Each operation is there; those that an operation waits for are there, and are others. -/
def edgesOk (ops : List Oper) (recs : List DRec) : Bool :=
  ((List.range ops.length).all fun i => recs.any fun r => Nat.beq r.i i) &&
  recs.all fun r => r.o.after.toList.all fun e => !(Region.binds .any e) || (Nat.blt e.on ops.length && !(Nat.beq e.on r.i))

def drawA [Ask] (P : Program) (call : CallA) (ops : List Oper) (s : St) : Option (AExit × St) :=
  match recsA P call ops (Region.linearise .any ⟨ops⟩ 0) s.tm s.h with
  | none => none
  | some (recs, tm, h) =>
    bif P.follows .mixedOrders && edgesOk ops recs && pairsOk ops ops.length recs && looseOk ops ops.length [] recs &&
        (recs.all fun r => r.act || !r.w || anywhereA P ops ops.length r s.h (recs.filter (·.act))) then
      some (.normal, ⟨tm, s.ds, h⟩)
    else none

mutual
def codeA [Ask] (P : Program) (call : CallA) : Nat → Code → St → Option (AExit × St)
  | 0, _, _ => none
  | f + 1, c, s =>
    match c with
    | .skip | .label _ => some (.normal, s)
    | .region _ ops false => opsA P call ops.toList ops.toList s
    | .region _ ops true => drawA P call ops.toList s
    | .seq a b => match codeA P call f a s with
      | some (.normal, s') => codeA P call f b s'
      | r => r
    | .cond c a b => match ev s.tm c with
      | .bool true => codeA P call f a s
      | .bool false => codeA P call f b s
      | _ => none
    | .block id c => match codeA P call f c s with
      | some (.exit id', s') => some (bif Nat.beq id' id then .normal else .exit id', s')
      | r => r
    | .loop c => match codeA P call f c s with
      | some (.normal, s') => codeA P call f (.loop c) s'
      | r => r
    | .exit id => some (.exit id, s)
    | .goto l => some (.goto l, s)
    | .ret => some (.ret, s)
    | .scope c => scopeA P call f c c s
    | _ => none
def scopeA [Ask] (P : Program) (call : CallA) : Nat → Code → Code → St → Option (AExit × St)
  | 0, _, _, _ => none
  | f + 1, c, x, s =>
    match codeA P call f x s with
    | some (.goto l, s') => match findLabel c l with
      | some rest => scopeA P call f c rest s'
      | none => some (.goto l, s')
    | r => r
end

def resA (P : Program) (tm : Tr Value) (h : AHeap) : List ResultVar → Option (List Value)
  | [] => some []
  | .tmp t :: l => (resA P tm h l).map ((tm.get t).getD undef :: ·)
  | .cell a t :: l =>
    match (tm.get a).getD undef with
    | .pointer (some a) => (loadA P t a.block a.off h).bind fun v => (resA P tm h l).map (v :: ·)
    | _ => none

def resultsA (P : Program) (fn : Func) (tm : Tr Value) (h : AHeap) : Option Value :=
  (resA P tm h fn.results.toList).map fun vs =>
  match vs with
  | [v] => v
  | vs => .tuple ⟨vs⟩

/-- Does a deferred function begin with recover? Where its answer goes, and what is behind it. -/
def recFirst : Code → Option (Option Tmp × Code)
  | .seq (.region _ ops false) rest =>
    match ops.toList with
    | [o] => match o.op, o.guard with
      | .call c, none => match c.callee with
        | .builtin .recover => some (o.dst, rest)
        | _ => none
      | _, _ => none
    | _ => none
  | _ => none

/-- What recover tells, and what its caller goes on with. -/
def recTold : Option (List PanicEntry) → Value × Option (List PanicEntry)
  | some ({ v, recovered := false, goexit := false } :: older) => (v, some ({ v, recovered := true } :: older))
  | u => (.nilIface, u)

def settleA : Option (List PanicEntry) → Option (List PanicEntry)
  | some ({ recovered := true, .. } :: older) =>
    match older.dropWhile (!·.goexit) with
    | [] => none
    | r => some r
  | u => u

def raisedA (u : Option (List PanicEntry)) (chain : List PanicEntry) : Option (List PanicEntry) :=
  match u with
  | some old => some (chain ++ old)
  | none => some chain

/-- A deferred call: what it comes to, what its caller goes on with. -/
abbrev CallDA := FuncId → Array Value → Option (List PanicEntry) → AHeap → Option (AEnd × Option (List PanicEntry) × AHeap)

/-- The deferred calls of a frame that is left. -/
def leaveA (P : Program) (callD : CallDA) (fn : Func) (tm : Tr Value) : List Deferred → Option (List PanicEntry) → AHeap → Option (AEnd × AHeap)
  | [], none, h => (resultsA P fn tm h).map fun v => (.ret v, h)
  | [], some chain, h => some (.panic chain, h)
  | d :: ds, u, h =>
    match invokeA P d h with
    | some (.enter f args h') =>
      match callD f args u h' with
      | some (.ret _, u', h'') => leaveA P callD fn tm ds (settleA u') h''
      | some (.panic chain, u', h'') => leaveA P callD fn tm ds (raisedA u' chain) h''
      | none => none
    | _ => none

/-- What a body without deferred calls of its own comes to. -/
def endA (P : Program) (fn : Func) : Option (AExit × St) → Option (AEnd × AHeap)
  | some (.normal, s) | some (.ret, s) => match s.ds with | [] => (resultsA P fn s.tm s.h).map fun v => (.ret v, s.h) | _ => none
  | some (.panic chain, s) => match s.ds with | [] => some (.panic chain, s.h) | _ => none
  | _ => none

def fuelA : Nat := 1000000

def callDA [Ask] (P : Program) (call : CallA) : CallDA := fun f args u h =>
  (P.funcs[f]?).bind fun fn =>
  fn.body.bind fun c =>
  match recFirst c with
  | some (dst, rest) => (endA P fn (codeA P call fuelA rest ⟨putT (Tr.of args.toList) dst (recTold u).1, [], h⟩)).map fun r => (r.1, (recTold u).2, r.2)
  | none => (endA P fn (codeA P call fuelA c ⟨Tr.of args.toList, [], h⟩)).map fun r => (r.1, u, r.2)

def callA [Ask] (P : Program) (S : FuncId → Option CallA) : Nat → CallA
  | 0, _, _, _ => none
  | n + 1, f, args, h =>
    match S f with
    | some g => g f args h
    | none =>
      (P.funcs[f]?).bind fun fn =>
      fn.body.bind fun c =>
      match codeA P (callA P S n) fuelA c ⟨Tr.of args.toList, [], h⟩ with
      | some (.normal, s) => leaveA P (callDA P (callA P S n)) fn s.tm s.ds none s.h
      | some (.ret, s) => leaveA P (callDA P (callA P S n)) fn s.tm s.ds none s.h
      | some (.panic chain, s) => leaveA P (callDA P (callA P S n)) fn s.tm s.ds (some chain) s.h
      | _ => none

/-! What a program's text must be like: constants without addresses, places that are there. -/
def operandWf (G : Nat) : Operand → Bool
  | .const v => ground v
  | .global g => Nat.blt g G
  | _ => true
def operWf (n G : Nat) (o : Oper) : Bool := (match o.dst with | some d => Nat.blt d n | none => true) && o.op.operands.toList.all (operandWf G)
def codeWf (n G : Nat) : Code → Bool
  | .region _ ops _ => ops.toList.all (operWf n G)
  | .seq a b => codeWf n G a && codeWf n G b
  | .cond c a b => operandWf G c && codeWf n G a && codeWf n G b
  | .block _ c | .loop c | .scope c => codeWf n G c
  | _ => true
def progWf (P : Program) : Bool := P.funcs.toList.all fun fn => match fn.body with | some c => codeWf fn.ntmps P.globals.size c | none => true

end Go.Ae
