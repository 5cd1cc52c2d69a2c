/-
  THE ABSTRACT LAYER (1): what an abstract heap is, the small operations that the model's code is compiled to, and how each is evaluated.
  Own text of this place: no program in sight. (Block numbers of the abstract heap are drawn one after the other; an append that outgrows what is known of a row makes a new abstract block.)
-/
import Derived.RangeFuncLeaves
import Derived.Laws.Append
import Derived.Laws.Cells
namespace Go.Abs
open Go

/-- Values of one cell. -/
def one : Value → Bool
  | .agg _ | .tuple _ => false
  | _ => true

/-- A constant cell without an address. -/
def plain : Value → Bool
  | .bool _ | .int _ _ | .string _ | .pointer none | .slice none 0 0 | .nilFunc | .nilIface | .map none => true
  | _ => false

/-- A constant without an address. -/
def plainC : Value → Bool
  | .agg cs => cs.toList.all plain
  | .tuple cs => cs.toList.all plain
  | v => plain v

/-- How two values of one type are held against each other. -/
inductive Plan where
  | bool | int | str | ptr | nilSlice | nilMap | nilFunc | iface
  | node (parts : List (Nat × Option Nat × Plan))
  deriving Inhabited

/-- The small operations. -/
inductive IOp where
  | mv (x : Operand)
  | nilChk (x : Operand)
  | pick (c a b : Operand)
  | new (elem : TypeId) (zero : List Value)
  | box (elem : TypeId) (x : Operand)
  | build (zero : List Value) (parts : List (Nat × Nat × Operand))
  | bslice (elem : TypeId) (len : Nat) (zero : List Value) (parts : List (Nat × Nat × Operand))
  | load1 (a : Operand)
  | loadN (n : Nat) (a : Operand)
  | store1 (a v : Operand)
  | storeN (n : Nat) (a v : Operand)
  | bin (op : BinOp) (x y : Operand)
  | eqv (neg : Bool) (pl : Plan) (x y : Operand)
  | un (op : UnOp) (x : Operand)
  | conv (k : IntKind) (x : Operand)
  | convS (x : Operand)
  | faddr (off : Nat) (x : Operand)
  | fld1 (off : Nat) (x : Operand)
  | fldN (off n : Nat) (x : Operand)
  | idxS (sz : Nat) (x i : Operand)
  | idxP (len sz : Nat) (x i : Operand)
  | idx1 (len sz : Nat) (x i : Operand)
  | idxN (len sz : Nat) (x i : Operand)
  | idxT (x i : Operand)
  | sl (sz : Nat) (x : Operand) (lo hi mx : Option Operand)
  | slT (x : Operand) (lo hi : Option Operand)
  | slP (n sz : Nat) (x : Operand) (lo hi mx : Option Operand)
  | iface (t : TypeId) (x : Operand)
  | fn (f : Fn) (first cap : List Operand)
  | mks (elem : TypeId) (bytes : Nat) (zero : List Value) (l c : Operand)
  | ext (x : Operand) (i : Nat)
  | len (x : Operand)
  | lenT (x : Operand)
  | lenK (n : Nat)
  | capS (x : Operand)
  | app (elem : TypeId) (sz bytes : Nat) (s x : Operand)
  | copy (sz : Nat) (d s : Operand)
  | clearS (zero : List Value) (x : Operand)
  | mx (x y : Operand)
  | mn (x y : Operand)
  | assertI (tys : List TypeId) (zero : List Value) (ok : Bool) (x : Operand)
  | assertT (t : TypeId) (zero : Value) (ok : Bool) (x : Operand)
  | call (f : Operand) (args : List Operand)
  | invoke (recv : Operand) (tbl : List (TypeId × FuncId)) (args : List Operand)
  deriving Inhabited

structure AOper where
  dst : Option Nat
  op : IOp
  guard : Option (Nat × Bool)
  deriving Inhabited

inductive ACode where
  | skip
  | region (ops : List AOper) (draw : Bool)
  | seq (a b : ACode)
  | cond (c : Operand) (a b : ACode)
  | block (id : Nat) (a : ACode)
  | loop (a : ACode)
  | rangeFunc (f : Operand) (params : List Nat) (assign body : ACode)
  | exit (id : Nat)
  | ret
  deriving Inhabited

abbrev Env := Nat → Option Value

def upd (env : Env) (t : Nat) (v : Value) : Env := fun i => if i = t then some v else env i
def put (env : Env) : Option Nat → Value → Env
  | some t, v => upd env t v
  | none, _ => env

inductive AExit where
  | normal | exit (id : Nat) | ret
  deriving Inhabited, DecidableEq

/-- The state of a range over a function. -/
structure LoopA where
  state : LoopState
  pending : Option AExit
  env : Env
  params : List Nat
  assign : ACode
  body : ACode
  n : Nat

inductive Blk where
  | row (cells : List Value) (elem : TypeId) (wr : Bool)
  | loop (L : LoopA)

structure AH where
  blk : Nat → Option Blk
  next : Nat

def AH.set (H : AH) (b : Nat) (B : Blk) : AH := { H with blk := fun i => if i = b then some B else H.blk i }
def AH.kill (H : AH) (b : Nat) : AH := { H with blk := fun i => if i = b then none else H.blk i }
def AH.alloc (H : AH) (B : Blk) : AH := { blk := fun i => if i = H.next then some B else H.blk i, next := H.next + 1 }

def aval (env : Env) : Operand → Option Value
  | .tmp t => env t
  | .const v => some v
  | .global g => some (.pointer (some ⟨g, 0, none⟩))
  | .func f => some (.func (.func f) #[] #[])

def avals (env : Env) : List Operand → Option (List Value)
  | [] => some []
  | x :: xs => match aval env x, avals env xs with
    | some v, some vs => some (v :: vs)
    | _, _ => none

/-- The cells of a value that may be stored. -/
def cellsOf : Value → Option (List Value)
  | .agg cs => some cs.toList
  | .tuple _ => none
  | v => some [v]

/-- n cells from a place on. -/
def cut (cells : List Value) (off n : Nat) : Option (List Value) :=
  if off + n ≤ cells.length then some ((cells.drop off).take n) else none

/-- Cells put over others, from a place on. -/
def over (cells : List Value) (off : Nat) (news : List Value) : List Value :=
  cells.take off ++ news ++ cells.drop (off + news.length)

def fillA (env : Env) (cells : List Value) : List (Nat × Nat × Operand) → Option (List Value)
  | [] => some cells
  | (off, n, x) :: rest =>
    match aval env x with
    | some v => match cellsOf v with
      | some cs => if cs.length = n ∧ off + n ≤ cells.length then fillA env (over cells off cs) rest else none
      | none => none
    | none => none

def abin (op : BinOp) : Value → Value → Option Value
  | .int k a, .int k' b =>
    match op with
    | .shl => if b < 0 then none else some (.int k (k.wrap (a * 2 ^ (min b.toNat k.bits))))
    | .shr => if b < 0 then none else some (.int k (a.fdiv (2 ^ (min b.toNat k.bits))))
    | _ =>
      if k ≠ k' then none else
      match op with
      | .add => some (.int k (k.wrap (a + b)))
      | .sub => some (.int k (k.wrap (a - b)))
      | .mul => some (.int k (k.wrap (a * b)))
      | .quo => if b = 0 then none else some (.int k (k.wrap (a.tdiv b)))
      | .rem => if b = 0 then none else some (.int k (a.tmod b))
      | .and => some (.int k (k.wrap (BitVec.ofInt k.bits a &&& BitVec.ofInt k.bits b).toNat))
      | .or => some (.int k (k.wrap (BitVec.ofInt k.bits a ||| BitVec.ofInt k.bits b).toNat))
      | .xor => some (.int k (k.wrap (BitVec.ofInt k.bits a ^^^ BitVec.ofInt k.bits b).toNat))
      | .andNot => some (.int k (k.wrap (BitVec.ofInt k.bits a &&& ~~~BitVec.ofInt k.bits b).toNat))
      | .eql => some (.bool (a == b))
      | .neq => some (.bool (a != b))
      | .lss => some (.bool (decide (a < b)))
      | .leq => some (.bool (decide (a ≤ b)))
      | .gtr => some (.bool (decide (a > b)))
      | .geq => some (.bool (decide (a ≥ b)))
      | _ => none
  | .string a, .string b =>
    match op with
    | .add => if ((a.size + b.size : Nat) : Int) > 9223372036854775807 then none else some (.string (a ++ b))
    | .eql => some (.bool (a.toList == b.toList))
    | .neq => some (.bool !(a.toList == b.toList))
    | .lss => some (.bool (Op.bytesLess a.toList b.toList))
    | .leq => some (.bool (Op.bytesLess a.toList b.toList || a.toList == b.toList))
    | .gtr => some (.bool !(Op.bytesLess a.toList b.toList || a.toList == b.toList))
    | .geq => some (.bool !(Op.bytesLess a.toList b.toList))
    | _ => none
  | _, _ => none

def aun (op : UnOp) : Value → Option Value
  | .int k n => match op with
    | .neg => some (.int k (k.wrap (0 - n)))
    | .xor => some (.int k (k.wrap (BitVec.ofInt k.bits (if k.signed then -1 else k.max) ^^^ BitVec.ofInt k.bits n).toNat))
    | _ => none
  | .bool b => match op with
    | .not => some (.bool !b)
    | _ => none
  | _ => none

/-- A part of a value: one cell, or n as an aggregate. -/
def partA (cs : List Value) (off : Nat) : Option Nat → Option Value
  | none => cs[off]?
  | some n => some (.agg ((cs.drop off).take n).toArray)

mutual
def eqA : Plan → Value → Value → Option Bool
  | .bool, .bool a, .bool b => some (a == b)
  | .int, .int k a, .int k' b => if k = k' then some (a == b) else none
  | .str, .string a, .string b => some (a == b)
  | .ptr, .pointer none, .pointer b => some b.isNone
  | .ptr, .pointer (some _), .pointer none => some false
  | .nilSlice, .slice none _ _, .slice b _ _ => some b.isNone
  | .nilSlice, .slice (some _) _ _, .slice none _ _ => some false
  | .nilMap, .map none, .map b => some b.isNone
  | .nilMap, .map (some _), .map none => some false
  | .nilFunc, .nilFunc, .nilFunc => some true
  | .nilFunc, .nilFunc, .func _ _ _ => some false
  | .nilFunc, .func _ _ _, .nilFunc => some false
  | .iface, .nilIface, .nilIface => some true
  | .iface, .nilIface, .iface _ _ => some false
  | .iface, .iface _ _, .nilIface => some false
  | .node ps, .agg xs, .agg ys => eqAll ps xs.toList ys.toList
  | _, _, _ => none
def eqAll : List (Nat × Option Nat × Plan) → List Value → List Value → Option Bool
  | [], _, _ => some true
  | (off, n, pl) :: rest, xs, ys =>
    match partA xs off n, partA ys off n with
    | some x, some y => match eqA pl x y with
      | some true => eqAll rest xs ys
      | some false => some false
      | none => none
    | _, _ => none
end

def asIntA : Value → Option Int
  | .int _ n => some n
  | _ => none

/-- A bound of a slice expression: from 0 to y. -/
def boundA (env : Env) (y : Nat) : Option Operand → Nat → Option Nat
  | none, d => some d
  | some x, _ => match aval env x with
    | some (.int _ i) => if 0 ≤ i ∧ i ≤ y then some i.toNat else none
    | _ => none

/-- low, high and max of a slice expression. -/
def boundsA (env : Env) (len cap : Nat) (lo hi mx : Option Operand) : Option (Nat × Nat × Nat) :=
  match boundA env cap mx cap with
  | none => none
  | some m => if mx.isSome && hi.isNone then none else match boundA env m hi len with
    | none => none
    | some h => match boundA env h lo 0 with
      | none => none
      | some l => some (l, h, m)

/-- A row that may be read. -/
def AH.cells (H : AH) (b : Nat) : Option (List Value) :=
  match H.blk b with
  | some (.row cs _ _) => some cs
  | _ => none

/-- The elements of a slice. -/
def elemsA (H : AH) (sz : Nat) : Value → Option (List Value)
  | .slice none 0 0 => some []
  | .slice (some ⟨b, off, _⟩) len _ => if len = 0 then some [] else (H.cells b).bind fun cs => cut cs off (len * sz)
  | _ => none

/-- Cells written over a row that may be written. -/
def writeA (H : AH) (b off : Nat) (news : List Value) : Option AH :=
  match H.blk b with
  | some (.row cs e true) => if off + news.length ≤ cs.length then some (H.set b (.row (over cs off news) e true)) else none
  | _ => none

def roomA : Int := 140737488355328

/-- append: within what is known of the row; else a new block. -/
def appendA (H : AH) (elem : TypeId) (sz bytes : Nat) (s : Value) (m : Nat) (news : List Value) : Option (Value × AH) :=
  match s with
  | .slice none 0 0 =>
    if m = 0 then some (s, H) else
    if m * bytes ≤ 140737488355328 ∧ m ≤ 9223372036854775807 then
      some (.slice (some ⟨H.next, 0, some sz⟩) m m, H.alloc (.row news elem true))
    else none
  | .slice (some ⟨b, off, sp⟩) len cap =>
    if m = 0 then some (s, H) else
    if len + m ≤ cap then
      (writeA H b (off + len * sz) news).map fun H' => (.slice (some ⟨b, off, sp⟩) (len + m) cap, H')
    else if (len + m) * bytes ≤ 140737488355328 ∧ len + m ≤ 9223372036854775807 then
      match elemsA H sz s with
      | some olds =>
        match sp with
        | none => some (.slice (some ⟨H.next, 0, some sz⟩) (len + m) (len + m), H.alloc (.row (olds ++ news) elem true))
        | some t => match H.blk b with
          | some (.row _ e true) => if t = sz ∧ e = elem then some (.slice (some ⟨H.next, 0, some sz⟩) (len + m) (len + m), (H.kill b).alloc (.row (olds ++ news) elem true)) else none
          | _ => none
      | none => none
    else none
  | _ => none

def zeros (zero : List Value) : Nat → List Value
  | 0 => []
  | n + 1 => zero ++ zeros zero n

def ieval (op : IOp) (env : Env) (H : AH) : Option (Value × AH) :=
  match op with
  | .mv x => (aval env x).map (·, H)
  | .nilChk x => match aval env x with
    | some (.pointer (some a)) => some (.pointer (some a), H)
    | some (.func (.func f) p q) => some (.func (.func f) p q, H)
    | some (.func (.yield f) p q) => some (.func (.yield f) p q, H)
    | some (.iface t v) => some (.iface t v, H)
    | _ => none
  | .pick c a b => match aval env c with
    | some (.bool t) => (aval env (if t then a else b)).map (·, H)
    | _ => none
  | .new elem zero => some (.pointer (some ⟨H.next, 0, none⟩), H.alloc (.row zero elem true))
  | .box elem x => match aval env x with
    | some v => (cellsOf v).map fun cs => (.pointer (some ⟨H.next, 0, none⟩), H.alloc (.row cs elem true))
    | none => none
  | .build zero parts => (fillA env zero parts).map fun cs => (.agg cs.toArray, H)
  | .bslice elem len zero parts => (fillA env zero parts).map fun cs => (.slice (some ⟨H.next, 0, none⟩) len len, H.alloc (.row cs elem true))
  | .load1 a => match aval env a with
    | some (.pointer (some ⟨b, off, none⟩)) => ((H.cells b).bind fun cs => cs[off]?).map (·, H)
    | _ => none
  | .loadN n a => match aval env a with
    | some (.pointer (some ⟨b, off, none⟩)) => ((H.cells b).bind fun cs => cut cs off n).map fun cs => (.agg cs.toArray, H)
    | _ => none
  | .store1 a v => match aval env a, aval env v with
    | some (.pointer (some ⟨b, off, none⟩)), some v => if one v then (writeA H b off [v]).map (undef, ·) else none
    | _, _ => none
  | .storeN n a v => match aval env a, aval env v with
    | some (.pointer (some ⟨b, off, none⟩)), some (.agg cs) => if cs.size = n then (writeA H b off cs.toList).map (undef, ·) else none
    | _, _ => none
  | .bin op x y => match aval env x, aval env y with
    | some a, some b => (abin op a b).map (·, H)
    | _, _ => none
  | .eqv neg pl x y => match aval env x, aval env y with
    | some a, some b => (eqA pl a b).map fun r => (.bool (if neg then !r else r), H)
    | _, _ => none
  | .un op x => match aval env x with
    | some a => (aun op a).map (·, H)
    | none => none
  | .conv k x => match aval env x with
    | some (.int _ n) => some (.int k (k.wrap n), H)
    | _ => none
  | .convS x => match aval env x with
    | some (.string s) => some (.string s, H)
    | _ => none
  | .faddr off x => match aval env x with
    | some (.pointer (some ⟨b, o, none⟩)) => some (.pointer (some ⟨b, o + off, none⟩), H)
    | _ => none
  | .fld1 off x => match aval env x with
    | some (.agg cs) => (cs[off]?).map (·, H)
    | _ => none
  | .fldN off n x => match aval env x with
    | some (.agg cs) => some (.agg (cs.extract off (off + n)), H)
    | _ => none
  | .idxS sz x i => match aval env x, aval env i with
    | some (.slice (some ⟨b, off, _⟩) len _), some (.int _ n) => if 0 ≤ n ∧ n < len then some (.pointer (some ⟨b, off + n.toNat * sz, none⟩), H) else none
    | _, _ => none
  | .idxP len sz x i => match aval env x, aval env i with
    | some (.pointer (some ⟨b, off, none⟩)), some (.int _ n) => if 0 ≤ n ∧ n < len then some (.pointer (some ⟨b, off + n.toNat * sz, none⟩), H) else none
    | _, _ => none
  | .idx1 len sz x i => match aval env x, aval env i with
    | some (.agg cs), some (.int _ n) => if 0 ≤ n ∧ n < len then (cs[n.toNat * sz]?).map (·, H) else none
    | _, _ => none
  | .idxN len sz x i => match aval env x, aval env i with
    | some (.agg cs), some (.int _ n) => if 0 ≤ n ∧ n < len then some (.agg (cs.extract (n.toNat * sz) (n.toNat * sz + sz)), H) else none
    | _, _ => none
  | .idxT x i => match aval env x, aval env i with
    | some (.string s), some (.int _ n) => if 0 ≤ n then (s[n.toNat]?).map fun b => (.int .u8 b.toNat, H) else none
    | _, _ => none
  | .sl sz x lo hi mx => match aval env x with
    | some (.slice none 0 0) => match boundsA env 0 0 lo hi mx with
      | some _ => some (.slice none 0 0, H)
      | none => none
    | some (.slice (some ⟨b, off, sp⟩) len cap) => match boundsA env len cap lo hi mx with
      | some (l, h, m) =>
        match sp, mx with
        | some t, none => if t = sz then some (.slice (some ⟨b, off + l * sz, some t⟩) (h - l) (m - l), H) else none
        | _, _ => some (.slice (some ⟨b, if m = l then off else off + l * sz, none⟩) (h - l) (m - l), H)
      | none => none
    | _ => none
  | .slT x lo hi => match aval env x with
    | some (.string s) => match boundsA env s.size s.size lo hi none with
      | some (l, h, _) => some (.string (s.extract l h), H)
      | none => none
    | _ => none
  | .slP n sz x lo hi mx => match aval env x with
    | some (.pointer (some ⟨b, off, none⟩)) => match boundsA env n n lo hi mx with
      | some (l, h, m) => some (.slice (some ⟨b, if m = l then off else off + l * sz, none⟩) (h - l) (m - l), H)
      | none => none
    | _ => none
  | .iface t x => (aval env x).map fun v => (.iface t v, H)
  | .fn f first cap => match avals env first, avals env cap with
    | some p, some q => some (.func f p.toArray q.toArray, H)
    | _, _ => none
  | .mks elem bytes zero l c => match aval env l, aval env c with
    | some (.int .i64 l), some (.int .i64 c) =>
      if 0 ≤ l ∧ l ≤ c ∧ c ≤ 9223372036854775807 ∧ bytes * c ≤ 281474976710656 then
        some (.slice (some ⟨H.next, 0, none⟩) l.toNat c.toNat, H.alloc (.row (zeros zero c.toNat) elem true))
      else none
    | _, _ => none
  | .ext x i => match aval env x with
    | some (.tuple vs) => (vs[i]?).map (·, H)
    | _ => none
  | .len x => match aval env x with
    | some (.slice _ n _) => some (.int .i64 n, H)
    | _ => none
  | .lenT x => match aval env x with
    | some (.string s) => some (.int .i64 s.size, H)
    | _ => none
  | .lenK n => some (.int .i64 n, H)
  | .capS x => match aval env x with
    | some (.slice (some ⟨_, _, none⟩) _ c) => some (.int .i64 c, H)
    | some (.slice none _ c) => some (.int .i64 c, H)
    | _ => none
  | .app elem sz bytes s x => match aval env s, aval env x with
    | some s, some (.slice a m c) => match elemsA H sz (.slice a m c) with
      | some news => appendA H elem sz bytes s m news
      | none => none
    | _, _ => none
  | .copy sz d s => match aval env d, aval env s with
    | some (.slice none 0 0), some (.slice _ _ _) => some (.int .i64 0, H)
    | some (.slice (some ⟨b, off, _⟩) len _), some (.slice a m c) =>
      let n := min m len
      if n = 0 then some (.int .i64 0, H) else
      match elemsA H sz (.slice a n c) with
      | some news => (writeA H b off news).map fun H' => (.int .i64 n, H')
      | none => none
    | _, _ => none
  | .clearS zero x => match aval env x with
    | some (.slice none _ _) => some (undef, H)
    | some (.slice (some ⟨b, off, _⟩) len _) => if len = 0 then some (undef, H) else (writeA H b off (zeros zero len)).map (undef, ·)
    | _ => none
  | .mx x y => match aval env x, aval env y with
    | some (.int k a), some (.int _ b) => some (.int k (if b > a then b else a), H)
    | _, _ => none
  | .mn x y => match aval env x, aval env y with
    | some (.int k a), some (.int _ b) => some (.int k (if b < a then b else a), H)
    | _, _ => none
  | .assertI _ _ _ _ => none
  | .assertT t zero ok x => match aval env x with
    | some (.iface u v) => if u = t then some (if ok then .tuple #[v, .bool true] else v, H) else if ok then some (.tuple #[zero, .bool false], H) else none
    | some .nilIface => if ok then some (.tuple #[zero, .bool false], H) else none
    | _ => none
  | .call _ _ => none
  | .invoke _ _ _ => none

end Go.Abs
