/-
  THE ABSTRACT LAYER (3): the model's code, compiled to the small operations. A plain function of the loaded program; what it does not take it answers by none.
-/
import Derived.Test.YtjcncbejnplakaaA2
import Derived.Laws.StructEq
namespace Go.Abs
open Go

def isAggB (P : Program) (t : TypeId) : Bool :=
  match P.underlying t with
  | some (.struct _) | some (.array _ _) => true
  | _ => false

/-- The cells of a type's zero, and how many they are. -/
def zeroOf (P : Program) (t : TypeId) : Option (List Value) :=
  match P.info? t with
  | some i => match i.zero with
    | some z => if z.cells.toList.all plain && z.cells.size == i.size then some z.cells.toList else none
    | none => none
  | none => none

def zeroVal (P : Program) (t : TypeId) : Option Value :=
  match P.info? t with
  | some i => match i.zero with
    | some z => if plainC z then some z else none
    | none => none
  | none => none

def sizeB (P : Program) (t : TypeId) : Option Nat := (P.info? t).map (·.size)

def okOpd (P : Program) : Operand → Bool
  | .const v => plainC v
  | .global g => decide (g < P.globals.size)
  | _ => true

def plansOf (P : Program) (pl : TypeId → Option Plan) : List Field → Option (List (Nat × Option Nat × Plan))
  | [] => some []
  | f :: fs =>
    if f.name = "_" then plansOf P pl fs else
    match pl f.type, plansOf P pl fs with
    | some p, some rest =>
      if isAggB P f.type then (sizeB P f.type).map fun n => (f.offset, some n, p) :: rest
      else some ((f.offset, none, p) :: rest)
    | _, _ => none

def planOf (P : Program) : Nat → TypeId → Option Plan
  | 0, _ => none
  | d + 1, t =>
    match P.underlying t with
    | some .bool => some .bool
    | some (.int _) => some .int
    | some .string => some .str
    | some (.pointer _) => some .ptr
    | some (.slice _) => some .nilSlice
    | some (.map _ _) => some .nilMap
    | some (.func _ _ _) => some .nilFunc
    | some (.interface _) => some .iface
    | some (.struct fs) => if P.stoodInHeld t then none else (plansOf P (planOf P d) fs.toList).map .node
    | _ => none

def isConstB : Operand → Bool
  | .const _ => true
  | _ => false

/-- The methods of a name, by the dynamic type: those whose receiver is the value itself. -/
def methodsOf (P : Program) (name : String) : List (TypeId × FuncId) :=
  (List.range P.types.size).filterMap fun t =>
    match P.info? t with
    | some i => match i.methods.find? (·.name == name) with
      | some m => match m.path.isEmpty, m.func, P.underlying t with
        | true, some (f, true), some (.pointer _) => some (t, f)
        | _, _, _ => none
      | none => none
    | none => none

def partsOf (P : Program) (place : Nat → Option (Nat × Nat)) : List (Nat × Operand) → Option (List (Nat × Nat × Operand))
  | [] => some []
  | (i, x) :: rest => match place i, partsOf P place rest with
    | some (off, n), some r => some ((off, n, x) :: r)
    | _, _ => none

def goodFunc (P : Program) (f : FuncId) : Bool :=
  match P.funcs[f]? with
  | some fn => fn.body.isSome && !(fn.name == "runtime.NumGoroutine")
  | none => false

def compCall (P : Program) (c : Call) : Option IOp :=
  match c.callee with
  | .value f => some (.call f c.args.toList)
  | .invoke recv name => some (.invoke recv (methodsOf P name) c.args.toList)
  | .builtin b =>
    match b, c.args.toList, c.argTypes.toList with
    | .len, [x], [t] => match P.underlying t with
      | some .string => some (.lenT x)
      | some (.slice _) => some (.len x)
      | some (.array n _) => some (.lenK n)
      | _ => none
    | .cap, [x], [t] => match P.underlying t with
      | some (.slice _) => some (.capS x)
      | _ => none
    | .append, [s, x], [t, u] => match P.underlying t, P.underlying u with
      | some (.slice e), some (.slice _) => match P.info? e, zeroOf P e with
        | some i, some _ => if 0 < i.size then some (.app e i.size i.bytes s x) else none
        | _, _ => none
      | _, _ => none
    | .copy, [d, s], [t, _] => match P.underlying t with
      | some (.slice e) => match P.info? e with
        | some i => if 0 < i.size then some (.copy i.size d s) else none
        | none => none
      | _ => none
    | .clear, [x], [t] => match P.underlying t with
      | some (.slice e) => match zeroOf P e with
        | some z => if 0 < z.length then some (.clearS z x) else none
        | none => none
      | _ => none
    | .max, [x, y], _ => some (.mx x y)
    | .min, [x, y], _ => some (.mn x y)
    | _, _, _ => none

def placeS (P : Program) (fields : Array Field) (i : Nat) : Option (Nat × Nat) :=
  (fields[i]?).bind fun f => (sizeB P f.type).map fun n => (f.offset, n)

def compOp0 (P : Program) (o : Op) : Option IOp :=
  match o with
  | .move x | .assign x => some (.mv x)
  | .nilCheck x => some (.nilChk x)
  | .pick c a b => some (.pick c a b)
  | .alloc e => (zeroOf P e).map (.new e)
  | .box e x => some (.box e x)
  | .build t parts => match P.underlying t, zeroOf P t with
    | some (.struct fields), some z =>
      if fields.all fun f => (P.info? f.type).isSome then
        (partsOf P (placeS P fields) parts.toList).map (.build z)
      else none
    | some (.array _ e), some z => match sizeB P e with
      | some n => (partsOf P (fun i => some (i * n, n)) parts.toList).map (.build z)
      | none => none
    | _, _ => none
  | .buildSlice t len parts => match P.underlying t with
    | some (.slice e) => match zeroOf P e, sizeB P e with
      | some z, some n =>
        if 0 < n ∧ len * n ≤ 16777216 then (partsOf P (fun i => some (i * n, n)) parts.toList).map (.bslice e len (zeros z len)) else none
      | _, _ => none
    | _ => none
  | .load t a => if isAggB P t then (sizeB P t).map fun n => .loadN n a else if (P.underlying t).isSome then some (.load1 a) else none
  | .store t a v => match sizeB P t with
    | some n => if isAggB P t then some (.storeN n a v) else if n = 1 then some (.store1 a v) else none
    | none => none
  | .binOp op t x y _ =>
    match op with
    | .eql | .neq => match P.underlying t with
      | some (.int _) | some .string => some (.bin op x y)
      | some (.interface _) => if isConstB x || isConstB y then some (.eqv (op == .neq) .iface x y) else none
      | some (.struct _) => if P.eqGuardType P.depth t then none else (planOf P 8 t).map fun pl => .eqv (op == .neq) pl x y
      | some _ => (planOf P 8 t).map fun pl => .eqv (op == .neq) pl x y
      | none => none
    | _ => some (.bin op x y)
  | .unOp op _ x => some (.un op x)
  | .convert src dst x => match P.underlying src, P.underlying dst with
    | some _, some (.int k) => some (.conv k x)
    | some .string, some .string => some (.convS x)
    | _, _ => none
  | .makeInterface t x => match P.underlying t with
    | some (.interface _) => none
    | some _ => some (.iface t x)
    | none => none
  | .makeFunc f first cap => match f with
    | .yield _ => none
    | _ => some (.fn f first.toList cap.toList)
  | .makeSlice t l c => match P.underlying t with
    | some (.slice e) => match P.info? e, zeroOf P e with
      | some i, some z => if 0 < i.size then some (.mks e i.bytes z l c) else none
      | _, _ => none
    | _ => none
  | .slice t x lo hi mx => match P.underlying t with
    | some (.array n e) => (sizeB P e).map fun s => .slP n s x lo hi mx
    | some .string => if mx.isNone then some (.slT x lo hi) else none
    | some (.slice e) => (sizeB P e).map fun s => .sl s x lo hi mx
    | some (.pointer arr) => match P.underlying arr with
      | some (.array n e) => (sizeB P e).map fun s => .slP n s x lo hi mx
      | _ => none
    | _ => none
  | .fieldAddr s x f => match P.underlying s with
    | some (.struct fields) => match fields[f]? with
      | some fd => match sizeB P fd.type with
        | some n => if 0 < n then some (.faddr fd.offset x) else none
        | none => none
      | none => none
    | _ => none
  | .field t x f => match P.underlying t with
    | some (.struct fields) => match fields[f]? with
      | some fd => if isAggB P fd.type then (sizeB P fd.type).map fun n => .fldN fd.offset n x
        else if (P.underlying fd.type).isSome then some (.fld1 fd.offset x) else none
      | none => none
    | _ => none
  | .indexAddr t x i => match P.underlying t with
    | some (.slice e) => match sizeB P e with
      | some n => if 0 < n then some (.idxS n x i) else none
      | none => none
    | some (.array len e) => match sizeB P e with
      | some n => if 0 < n then some (.idxP len n x i) else none
      | none => none
    | _ => none
  | .index t x i => match P.underlying t with
    | some (.array len e) => match sizeB P e with
      | some n => if isAggB P e then some (.idxN len n x i) else if (P.underlying e).isSome then some (.idx1 len n x i) else none
      | none => none
    | some .string => some (.idxT x i)
    | _ => none
  | .extract x i => some (.ext x i)
  | .call c => compCall P c
  | .typeAssert x _ asserted ok => match P.underlying asserted, zeroVal P asserted with
    | some (.interface _), _ => none
    | some _, some z => some (.assertT asserted z ok x)
    | _, _ => none
  | _ => none

def IOp.isCall : IOp → Bool
  | .call _ _ | .invoke _ _ _ => true
  | _ => false

def compOp (P : Program) (o : Op) : Option IOp :=
  match o with
  | .call ⟨.value f, args, _⟩ => some (.call f args.toList)
  | .call ⟨.invoke recv name, args, _⟩ => some (.invoke recv (methodsOf P name) args.toList)
  | o => match compOp0 P o with
    | some i => if i.isCall then none else some i
    | none => none

theorem compOp_0 {P : Program} {o : Op} {i : IOp} (h : compOp P o = some i) : compOp0 P o = some i := by
  unfold compOp at h
  split at h
  · cases h; rfl
  · cases h; rfl
  · split at h
    · split at h
      · cases h
      · rename_i h1 _; cases h; exact h1
    · cases h

theorem compOp_call {P : Program} {o : Op} {f : Operand} {args : List Operand} (h : compOp P o = some (.call f args)) : ∃ c, o = .call c ∧ c.callee = .value f ∧ c.args.toList = args := by
  unfold compOp at h
  split at h
  · cases h; exact ⟨_, rfl, rfl, rfl⟩
  · cases h
  · split at h
    · split at h
      · cases h
      · rename_i h2; cases h; exact absurd rfl h2
    · cases h

theorem compOp_invoke {P : Program} {o : Op} {r : Operand} {tbl : List (TypeId × FuncId)} {args : List Operand} (h : compOp P o = some (.invoke r tbl args)) :
    ∃ c name, o = .call c ∧ c.callee = .invoke r name ∧ tbl = methodsOf P name ∧ c.args.toList = args := by
  unfold compOp at h
  split at h
  · cases h
  · cases h; exact ⟨_, _, rfl, rfl, rfl, rfl⟩
  · split at h
    · split at h
      · cases h
      · rename_i h2; cases h; exact absurd rfl h2
    · cases h

/-- 0: touches no memory; 1: looks at it; 2: makes or writes. (A call in a region that draws must leave all as it was.) -/
def IOp.cls : IOp → Nat
  | .load1 _ | .loadN _ _ | .call _ _ | .invoke _ _ _ => 1
  | .new _ _ | .box _ _ | .bslice _ _ _ _ | .mks _ _ _ _ _ => 3
  | .store1 _ _ | .storeN _ _ _ | .app _ _ _ _ _ | .copy _ _ _ | .clearS _ _ => 2
  | _ => 0

def opdSlots : List Operand → List Nat
  | [] => []
  | .tmp t :: xs => t :: opdSlots xs
  | _ :: xs => opdSlots xs

def guardOf (ops : Array Oper) (o : Oper) : Option (Option (Nat × Bool)) :=
  match o.guard with
  | none => some none
  | some (j, want) => match (ops[j]?).bind (·.dst) with
    | some d => some (some (d, want))
    | none => none

def dstOk (n : Nat) : Option Nat → Bool
  | some d => decide (d < n)
  | none => true

def compOper (P : Program) (n : Nat) (ops : Array Oper) (o : Oper) : Option AOper :=
  if o.op.operands.toList.all (okOpd P) && dstOk n o.dst then
    match compOp P o.op, guardOf ops o with
    | some i, some g => some { dst := o.dst, op := i, guard := g }
    | _, _ => none
  else none

def compOpers (P : Program) (n : Nat) (ops : Array Oper) : List Oper → Option (List AOper)
  | [] => some []
  | o :: rest => match compOper P n ops o, compOpers P n ops rest with
    | some a, some r => some (a :: r)
    | _, _ => none

def optO : Option Operand → List Operand
  | some x => [x]
  | none => []

/-- What an operation looks at. -/
def IOp.opds : IOp → List Operand
  | .mv x | .nilChk x | .box _ x | .load1 x | .loadN _ x | .un _ x | .conv _ x | .convS x | .faddr _ x | .fld1 _ x | .fldN _ _ x | .iface _ x | .ext x _ | .len x | .lenT x | .capS x
  | .clearS _ x | .assertI _ _ _ x | .assertT _ _ _ x => [x]
  | .pick c a b => [c, a, b]
  | .new _ _ | .lenK _ => []
  | .build _ ps | .bslice _ _ _ ps => ps.map fun p => p.2.2
  | .store1 a v | .storeN _ a v | .bin _ a v | .eqv _ _ a v | .idxS _ a v | .idxP _ _ a v | .idx1 _ _ a v | .idxN _ _ a v | .idxT a v | .mks _ _ _ a v | .app _ _ _ a v | .copy _ a v | .mx a v | .mn a v => [a, v]
  | .sl _ x lo hi m | .slP _ _ x lo hi m => x :: (optO lo ++ optO hi ++ optO m)
  | .slT x lo hi => x :: (optO lo ++ optO hi)
  | .fn _ p q => p ++ q
  | .call f args => f :: args
  | .invoke r _ args => r :: args

/-- The slots that an operation looks at. -/
def looks (o : AOper) : List Nat :=
  opdSlots o.op.opds ++ (match o.guard with | some (d, _) => [d] | none => [])

def IOp.isC : IOp → Bool
  | .call _ _ | .invoke _ _ _ => true
  | _ => false

def indep (x y : AOper) : Bool :=
  !x.op.isC &&
  (x.op.cls == 0 || y.op.cls == 0 || (x.op.cls == 1 && (y.op.cls == 1 || y.op.cls == 3))) &&
  (match x.dst with | some d => !(looks y).contains d && y.dst != some d | none => true) &&
  (match y.dst with | some d => !(looks x).contains d | none => true)

def esOf (ops : Array Oper) (i : Nat) : List Nat :=
  match ops[i]? with
  | some o => (o.after.toList.filter (Region.binds .any)).map (·.on)
  | none => []

/-- What must have been done ahead of each operation. -/
def ancs (ops : Array Oper) : Nat → List (List Nat)
  | 0 => []
  | i + 1 => ancs ops i ++ [esOf ops i ++ (esOf ops i).flatMap fun j => (ancs ops i).getD j []]

/-- The order in which a region that draws is told: a call only when nothing else is ready. -/
def pickNext (ops : Array Oper) (al : List AOper) (rest : List Nat) : Option Nat :=
  let ready := rest.filter fun i => (esOf ops i).all fun j => !rest.contains j
  let easy := fun i => match al[i]? with
    | some o => !o.op.isC && decide (o.op.cls ≤ 1)
    | none => false
  let calm := fun i => match al[i]? with
    | some o => !o.op.isC
    | none => false
  match ready.find? easy with
  | some i => some i
  | none => match ready.find? calm with
    | some i => some i
    | none => ready.head?

def drawOrd (ops : Array Oper) (al : List AOper) : Nat → List Nat → List Nat
  | 0, _ => []
  | n + 1, rest => match pickNext ops al rest with
    | some i => i :: drawOrd ops al n (rest.filter fun j => j != i)
    | none => []

def pairOk (ops : Array Oper) (al : List AOper) (an : List (List Nat)) : List Nat → Bool
  | [] => true
  | a :: rest => rest.all (fun i => (an.getD i []).contains a || (match al[a]?, al[i]? with
      | some x, some y => indep x y
      | _, _ => false)) && rest.all (fun i => !(esOf ops a).contains i) && !rest.contains a && pairOk ops al an rest

def drawOk (ops : Array Oper) (al : List AOper) (ord : List Nat) : Bool :=
  let an := ancs ops ops.size
  ((List.range ops.size).all fun i =>
    match ops[i]? with
      | some o => o.after.toList.all fun e => !Region.binds .any e || decide (e.on < i)
      | none => false) &&
  ((List.range ops.size).all fun i => ord.contains i) && (ord.all fun i => decide (i < ops.size)) && pairOk ops al an ord

def compC (P : Program) (n : Nat) : Code → Option ACode
  | .skip => some .skip
  | .region _ ops draw =>
    match compOpers P n ops ops.toList with
    | some l => if draw then
        (let ord := drawOrd ops l ops.size (List.range ops.size)
         if drawOk ops l ord then some (.region (ord.filterMap fun i => l[i]?) true) else none)
      else some (.region l false)
    | none => none
  | .seq a b => match compC P n a, compC P n b with
    | some x, some y => some (.seq x y)
    | _, _ => none
  | .cond c a b => if okOpd P c then
      match compC P n a, compC P n b with
      | some x, some y => some (.cond c x y)
      | _, _ => none
    else none
  | .block id a => (compC P n a).map (.block id)
  | .loop a => (compC P n a).map .loop
  | .rangeFunc f ps a b => if okOpd P f && ps.all fun p => decide (p < n) then
      match compC P n a, compC P n b with
      | some x, some y => some (.rangeFunc f ps.toList x y)
      | _, _ => none
    else none
  | .exit id => some (.exit id)
  | .scope a => compC P n a
  | .label _ => some .skip
  | .ret => some .ret
  | .goto _ | .refuse _ => none

/-- Where a result lies. -/
inductive ARes where
  | tmp (t : Nat)
  | cell1 (t : Nat)
  | cellN (n t : Nat)
  deriving Inhabited

def compRes (P : Program) : ResultVar → Option ARes
  | .tmp t => some (.tmp t)
  | .cell a t => if isAggB P t then (sizeB P t).map fun n => .cellN n a else if (P.underlying t).isSome then some (.cell1 a) else none

def compRess (P : Program) : List ResultVar → Option (List ARes)
  | [] => some []
  | r :: rs => match compRes P r, compRess P rs with
    | some x, some xs => some (x :: xs)
    | _, _ => none

structure AFunc where
  n : Nat
  results : List ARes
  code : ACode

def compF (P : Program) (f : FuncId) : Option AFunc :=
  match P.funcs[f]? with
  | some fn => if !goodFunc P f then none else
    match fn.body, compRess P fn.results.toList with
    | some c, some rs => (compC P fn.ntmps c).map fun code => { n := fn.ntmps, results := rs, code }
    | _, _ => none
  | none => none

end Go.Abs
