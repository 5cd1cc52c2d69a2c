/-
  THE ABSTRACT LAYER (1): what an abstract heap is, the small operations that the model's code is compiled to, and how each is evaluated.
  Own text of this place: no program in sight. (Block numbers of the abstract heap are drawn one after the other; an append that outgrows what is known of a row makes a new abstract block.)
-/
import Derived.RangeFuncLeaves
import Derived.Laws.Append
import Derived.Laws.Cells
import Derived.Below
import Derived.Laws.StructEq
import Derived.Laws.CopyRow
import Derived.Laws.IdiomCopy
import Derived.Laws.Entries
namespace Go.Abs
open Go
def one : Value → Bool
 | .agg _ | .tuple _ => false
 | _ => true
def plain : Value → Bool
 | .bool _ | .int _ _ | .string _ | .pointer none | .slice none 0 0 | .nilFunc | .nilIface | .map none => true
 | _ => false
def plainC : Value → Bool
 | .agg cs => cs.toList.all plain
 | .tuple cs => cs.toList.all plain
 | v => plain v
inductive Plan where
 | bool | int | str | ptr | nilSlice | nilMap | nilFunc | iface
 | node (parts : List (Nat × Option Nat × Plan))
 deriving Inhabited
inductive IOp where
 | mv (x : Operand)
 | nilChk (x : Operand)
 | pick (c a b : Operand)
 | new (elem : TypeId) (zero : List Value)
 | box (elem : TypeId) (x : Operand)
 | build (zero : List Value) (parts : List (Nat × Nat × Operand))
 | bslice (elem : TypeId) (len : Nat) (zero : List Value) (parts : List (Nat × Nat × Operand))
 | load1 (a : Operand)
 | loadN (n : Nat) (a : Operand)
 | store1 (a v : Operand)
 | storeN (n : Nat) (a v : Operand)
 | bin (op : BinOp) (x y : Operand)
 | eqv (neg : Bool) (pl : Plan) (x y : Operand)
 | un (op : UnOp) (x : Operand)
 | conv (k : IntKind) (x : Operand)
 | convS (x : Operand)
 | bstr (x : Operand)
 | faddr (off : Nat) (x : Operand)
 | fld1 (off : Nat) (x : Operand)
 | fldN (off n : Nat) (x : Operand)
 | idxS (sz : Nat) (x i : Operand)
 | idxP (len sz : Nat) (x i : Operand)
 | idx1 (len sz : Nat) (x i : Operand)
 | idxN (len sz : Nat) (x i : Operand)
 | idxT (x i : Operand)
 | sl (sz : Nat) (x : Operand) (lo hi mx : Option Operand)
 | slT (x : Operand) (lo hi : Option Operand)
 | slP (n sz : Nat) (x : Operand) (lo hi mx : Option Operand)
 | iface (t : TypeId) (x : Operand)
 | fn (f : Fn) (first cap : List Operand)
 | mks (elem : TypeId) (bytes : Nat) (zero : List Value) (l c : Operand)
 | ext (x : Operand) (i : Nat)
 | len (x : Operand)
 | lenT (x : Operand)
 | lenK (n : Nat)
 | capS (x : Operand)
 | app (elem : TypeId) (sz bytes : Nat) (s x : Operand)
 | copy (sz : Nat) (d s : Operand)
 | clearS (zero : List Value) (x : Operand)
 | mx (x y : Operand)
 | mn (x y : Operand)
 | assertI (tys : List TypeId) (zero : List Value) (ok : Bool) (x : Operand)
 | assertT (t : TypeId) (zero : Value) (ok : Bool) (x : Operand)
 | call (f : Operand) (args : List Operand)
 | invoke (recv : Operand) (tbl : List (TypeId × FuncId)) (args : List Operand)
 deriving Inhabited
structure AOper where
 dst : Option Nat
 op : IOp
 guard : Option (Nat × Bool)
 deriving Inhabited
inductive ACode where
 | skip
 | region (ops : List AOper) (draw : Bool)
 | seq (a b : ACode)
 | cond (c : Operand) (a b : ACode)
 | block (id : Nat) (a : ACode)
 | loop (a : ACode)
 | rangeFunc (f : Operand) (params : List Nat) (assign body : ACode)
 | exit (id : Nat)
 | ret
 | mix (room : Nat) (ops : List (Nat × AOper × List Nat))
 deriving Inhabited
abbrev Env:=Nat → Option Value
def upd (env : Env) (t : Nat) (v : Value) : Env:=fun i => if i = t then some v else env i
def put (env : Env) : Option Nat → Value → Env
 | some t,v => upd env t v
 | none,_ => env
inductive AExit where
 | normal | exit (id : Nat) | ret
 deriving Inhabited,DecidableEq
structure LoopA where
 state : LoopState
 pending : Option AExit
 env : Env
 params : List Nat
 assign : ACode
 body : ACode
 n : Nat
inductive Blk where
 | row (cells : List Value) (elem : TypeId) (wr : Bool)
 | loop (L : LoopA)
structure AH where
 blk : Nat → Option Blk
 next : Nat
def AH.set (H : AH) (b : Nat) (B : Blk) : AH:={ H with blk:=fun i => if i = b then some B else H.blk i }
def AH.kill (H : AH) (b : Nat) : AH:={ H with blk:=fun i => if i = b then none else H.blk i }
def AH.alloc (H : AH) (B : Blk) : AH:={ blk:=fun i => if i = H.next then some B else H.blk i,next:=H.next + 1 }
def AH.allocAt (H : AH) (id : Nat) (B : Blk) : AH:={ blk:=fun i => if i = id then some B else H.blk i,next:=if id < H.next then H.next else id + 1 }
theorem AH.allocAt_next (H : AH) (B : Blk) : H.allocAt H.next B = H.alloc B:=by simp [AH.allocAt,AH.alloc]
def AH.room (H : AH) (m : Nat) : AH:={ blk:=H.blk,next:=H.next + m }
def aval (env : Env) : Operand → Option Value
 | .tmp t => env t
 | .const v => some v
 | .global g => some (.pointer (some ⟨g,0,none⟩))
 | .func f => some (.func (.func f) #[] #[])
def avals (env : Env) : List Operand → Option (List Value)
 | [] => some []
 | x :: xs => match aval env x,avals env xs with
  | some v,some vs => some (v :: vs)
  | _,_ => none
def cellsOf : Value → Option (List Value)
 | .agg cs => some cs.toList
 | .tuple _ => none
 | v => some [v]
def cut (cells : List Value) (off n : Nat) : Option (List Value) :=
 if off + n ≤ cells.length then some ((cells.drop off).take n) else none
def over (cells : List Value) (off : Nat) (news : List Value) : List Value :=
 cells.take off ++ news ++ cells.drop (off + news.length)
def fillA (env : Env) (cells : List Value) : List (Nat × Nat × Operand) → Option (List Value)
 | [] => some cells
 | (off,n,x) :: rest =>
  match aval env x with
  | some v => match cellsOf v with
   | some cs => if cs.length = n ∧ off + n ≤ cells.length then fillA env (over cells off cs) rest else none
   | none => none
  | none => none
def abin (op : BinOp) : Value → Value → Option Value
 | .int k a,.int k' b =>
  match op with
  | .shl => if b < 0 then none else some (.int k (k.wrap (a * 2 ^ (min b.toNat k.bits))))
  | .shr => if b < 0 then none else some (.int k (a.fdiv (2 ^ (min b.toNat k.bits))))
  | _ =>
   if k ≠ k' then none else
   match op with
   | .add => some (.int k (k.wrap (a + b)))
   | .sub => some (.int k (k.wrap (a - b)))
   | .mul => some (.int k (k.wrap (a * b)))
   | .quo => if b = 0 then none else some (.int k (k.wrap (a.tdiv b)))
   | .rem => if b = 0 then none else some (.int k (a.tmod b))
   | .and => some (.int k (k.wrap (BitVec.ofInt k.bits a &&& BitVec.ofInt k.bits b).toNat))
   | .or => some (.int k (k.wrap (BitVec.ofInt k.bits a ||| BitVec.ofInt k.bits b).toNat))
   | .xor => some (.int k (k.wrap (BitVec.ofInt k.bits a ^^^ BitVec.ofInt k.bits b).toNat))
   | .andNot => some (.int k (k.wrap (BitVec.ofInt k.bits a &&& ~~~BitVec.ofInt k.bits b).toNat))
   | .eql => some (.bool (a == b))
   | .neq => some (.bool (a != b))
   | .lss => some (.bool (decide (a < b)))
   | .leq => some (.bool (decide (a ≤ b)))
   | .gtr => some (.bool (decide (a > b)))
   | .geq => some (.bool (decide (a ≥ b)))
   | _ => none
 | .string a,.string b =>
  match op with
  | .add => if ((a.size + b.size : Nat) : Int) > 9223372036854775807 then none else some (.string (a ++ b))
  | .eql => some (.bool (a.toList == b.toList))
  | .neq => some (.bool !(a.toList == b.toList))
  | .lss => some (.bool (Op.bytesLess a.toList b.toList))
  | .leq => some (.bool (Op.bytesLess a.toList b.toList || a.toList == b.toList))
  | .gtr => some (.bool !(Op.bytesLess a.toList b.toList || a.toList == b.toList))
  | .geq => some (.bool !(Op.bytesLess a.toList b.toList))
  | _ => none
 | _,_ => none
def aun (op : UnOp) : Value → Option Value
 | .int k n => match op with
  | .neg => some (.int k (k.wrap (0 - n)))
  | .xor => some (.int k (k.wrap (BitVec.ofInt k.bits (if k.signed then -1 else k.max) ^^^ BitVec.ofInt k.bits n).toNat))
  | _ => none
 | .bool b => match op with
  | .not => some (.bool !b)
  | _ => none
 | _ => none
def partA (cs : List Value) (off : Nat) : Option Nat → Option Value
 | none => cs[off]?
 | some n => some (.agg ((cs.drop off).take n).toArray)
mutual
def eqA : Plan → Value → Value → Option Bool
 | .bool,.bool a,.bool b => some (a == b)
 | .int,.int k a,.int k' b => if k = k' then some (a == b) else none
 | .str,.string a,.string b => some (a == b)
 | .ptr,.pointer none,.pointer b => some b.isNone
 | .ptr,.pointer (some _),.pointer none => some false
 | .nilSlice,.slice none _ _,.slice b _ _ => some b.isNone
 | .nilSlice,.slice (some _) _ _,.slice none _ _ => some false
 | .nilMap,.map none,.map b => some b.isNone
 | .nilMap,.map (some _),.map none => some false
 | .nilFunc,.nilFunc,.nilFunc => some true
 | .nilFunc,.nilFunc,.func _ _ _ => some false
 | .nilFunc,.func _ _ _,.nilFunc => some false
 | .iface,.nilIface,.nilIface => some true
 | .iface,.nilIface,.iface _ _ => some false
 | .iface,.iface _ _,.nilIface => some false
 | .node ps,.agg xs,.agg ys => eqAll ps xs.toList ys.toList
 | _,_,_ => none
def eqAll : List (Nat × Option Nat × Plan) → List Value → List Value → Option Bool
 | [],_,_ => some true
 | (off,n,pl) :: rest,xs,ys =>
  match partA xs off n,partA ys off n with
  | some x,some y => match eqA pl x y with
   | some true => eqAll rest xs ys
   | some false => some false
   | none => none
  | _,_ => none
end
def asIntA : Value → Option Int
 | .int _ n => some n
 | _ => none
def boundA (env : Env) (y : Nat) : Option Operand → Nat → Option Nat
 | none,d => some d
 | some x,_ => match aval env x with
  | some (.int _ i) => if 0 ≤ i ∧ i ≤ y then some i.toNat else none
  | _ => none
def boundsA (env : Env) (len cap : Nat) (lo hi mx : Option Operand) : Option (Nat × Nat × Nat) :=
 match boundA env cap mx cap with
 | none => none
 | some m => if mx.isSome && hi.isNone then none else match boundA env m hi len with
  | none => none
  | some h => match boundA env h lo 0 with
   | none => none
   | some l => some (l,h,m)
def AH.cells (H : AH) (b : Nat) : Option (List Value) :=
 match H.blk b with
 | some (.row cs _ _) => some cs
 | _ => none
def elemsA (H : AH) (sz : Nat) : Value → Option (List Value)
 | .slice none 0 0 => some []
 | .slice (some ⟨b,off,_⟩) len _ => if len = 0 then some [] else (H.cells b).bind fun cs => cut cs off (len * sz)
 | _ => none
def writeA (H : AH) (b off : Nat) (news : List Value) : Option AH :=
 match H.blk b with
 | some (.row cs e true) => if off + news.length ≤ cs.length then some (H.set b (.row (over cs off news) e true)) else none
 | _ => none
def appendA (H : AH) (elem : TypeId) (sz bytes : Nat) (s : Value) (m : Nat) (news : List Value) : Option (Value × AH) :=
 match s with
 | .slice none 0 0 =>
  if m = 0 then some (s,H) else
  if m * bytes ≤ 140737488355328 ∧ m ≤ 9223372036854775807 then
   some (.slice (some ⟨H.next,0,some sz⟩) m m,H.alloc (.row news elem true))
  else none
 | .slice (some ⟨b,off,sp⟩) len cap =>
  if m = 0 then some (s,H) else
  if len + m ≤ cap then
   (writeA H b (off + len * sz) news).map fun H' => (.slice (some ⟨b,off,sp⟩) (len + m) cap,H')
  else if (len + m) * bytes ≤ 140737488355328 ∧ len + m ≤ 9223372036854775807 then
   match elemsA H sz s with
   | some olds =>
    match sp with
    | none => some (.slice (some ⟨H.next,0,some sz⟩) (len + m) (len + m),H.alloc (.row (olds ++ news) elem true))
    | some t => match H.blk b with
     | some (.row _ e true) => if t = sz ∧ e = elem then some (.slice (some ⟨H.next,0,some sz⟩) (len + m) (len + m),(H.kill b).alloc (.row (olds ++ news) elem true)) else none
     | _ => none
   | none => none
  else none
 | _ => none
def appendAt (id : Nat) (H : AH) (elem : TypeId) (sz bytes : Nat) (s : Value) (m : Nat) (news : List Value) : Option (Value × AH) :=
 match s with
 | .slice none 0 0 =>
  if m = 0 then some (s,H) else
  if m * bytes ≤ 140737488355328 ∧ m ≤ 9223372036854775807 then
   some (.slice (some ⟨id,0,some sz⟩) m m,H.allocAt id (.row news elem true))
  else none
 | .slice (some ⟨b,off,sp⟩) len cap =>
  if m = 0 then some (s,H) else
  if len + m ≤ cap then
   (writeA H b (off + len * sz) news).map fun H' => (.slice (some ⟨b,off,sp⟩) (len + m) cap,H')
  else if (len + m) * bytes ≤ 140737488355328 ∧ len + m ≤ 9223372036854775807 then
   match elemsA H sz s with
   | some olds =>
    match sp with
    | none => some (.slice (some ⟨id,0,some sz⟩) (len + m) (len + m),H.allocAt id (.row (olds ++ news) elem true))
    | some t => match H.blk b with
     | some (.row _ e true) => if t = sz ∧ e = elem then some (.slice (some ⟨id,0,some sz⟩) (len + m) (len + m),(H.kill b).allocAt id (.row (olds ++ news) elem true)) else none
     | _ => none
   | none => none
  else none
 | _ => none
theorem appendA_at (H : AH) (elem sz bytes : Nat) (s : Value) (m : Nat) (news : List Value) : appendA H elem sz bytes s m news = appendAt H.next H elem sz bytes s m news:=by
 unfold appendA appendAt
 simp only [AH.allocAt_next]
 have hk : ∀ b B,(H.kill b).allocAt H.next B = (H.kill b).alloc B:=fun b B => AH.allocAt_next (H.kill b) B
 simp only [hk]
def bytesL : List Value → ByteArray → Option ByteArray
 | [],s => some s
 | .int .u8 n :: r,s => bytesL r (s.push (UInt8.ofNat n.toNat))
 | _,_ => none
def bstrA (H : AH) (v : Value) : Option Value :=
 match v with
 | .slice a n c => match elemsA H 1 (.slice a n c) with
  | some l => (bytesL l .empty).map .string
  | none => none
 | _ => none
def zeros (zero : List Value) : Nat → List Value
 | 0 => []
 | n + 1 => zero ++ zeros zero n
def ieval (op : IOp) (env : Env) (H : AH) : Option (Value × AH) :=
 match op with
 | .mv x => (aval env x).map (·,H)
 | .nilChk x => match aval env x with
  | some (.pointer (some a)) => some (.pointer (some a),H)
  | some (.func (.func f) p q) => some (.func (.func f) p q,H)
  | some (.func (.yield f) p q) => some (.func (.yield f) p q,H)
  | some (.iface t v) => some (.iface t v,H)
  | _ => none
 | .pick c a b => match aval env c with
  | some (.bool t) => (aval env (if t then a else b)).map (·,H)
  | _ => none
 | .new elem zero => some (.pointer (some ⟨H.next,0,none⟩),H.alloc (.row zero elem true))
 | .box elem x => match aval env x with
  | some v => (cellsOf v).map fun cs => (.pointer (some ⟨H.next,0,none⟩),H.alloc (.row cs elem true))
  | none => none
 | .build zero parts => (fillA env zero parts).map fun cs => (.agg cs.toArray,H)
 | .bslice elem len zero parts => (fillA env zero parts).map fun cs => (.slice (some ⟨H.next,0,none⟩) len len,H.alloc (.row cs elem true))
 | .load1 a => match aval env a with
  | some (.pointer (some ⟨b,off,none⟩)) => ((H.cells b).bind fun cs => cs[off]?).map (·,H)
  | _ => none
 | .loadN n a => match aval env a with
  | some (.pointer (some ⟨b,off,none⟩)) => ((H.cells b).bind fun cs => cut cs off n).map fun cs => (.agg cs.toArray,H)
  | _ => none
 | .store1 a v => match aval env a,aval env v with
  | some (.pointer (some ⟨b,off,none⟩)),some v => if one v then (writeA H b off [v]).map (undef,·) else none
  | _,_ => none
 | .storeN n a v => match aval env a,aval env v with
  | some (.pointer (some ⟨b,off,none⟩)),some (.agg cs) => if cs.size = n then (writeA H b off cs.toList).map (undef,·) else none
  | _,_ => none
 | .bin op x y => match aval env x,aval env y with
  | some a,some b => (abin op a b).map (·,H)
  | _,_ => none
 | .eqv neg pl x y => match aval env x,aval env y with
  | some a,some b => (eqA pl a b).map fun r => (.bool (if neg then !r else r),H)
  | _,_ => none
 | .un op x => match aval env x with
  | some a => (aun op a).map (·,H)
  | none => none
 | .bstr x => match aval env x with
  | some v => (bstrA H v).map (·,H)
  | none => none
 | .conv k x => match aval env x with
  | some (.int _ n) => some (.int k (k.wrap n),H)
  | _ => none
 | .convS x => match aval env x with
  | some (.string s) => some (.string s,H)
  | _ => none
 | .faddr off x => match aval env x with
  | some (.pointer (some ⟨b,o,none⟩)) => some (.pointer (some ⟨b,o + off,none⟩),H)
  | _ => none
 | .fld1 off x => match aval env x with
  | some (.agg cs) => (cs[off]?).map (·,H)
  | _ => none
 | .fldN off n x => match aval env x with
  | some (.agg cs) => some (.agg (cs.extract off (off + n)),H)
  | _ => none
 | .idxS sz x i => match aval env x,aval env i with
  | some (.slice (some ⟨b,off,_⟩) len _),some (.int _ n) => if 0 ≤ n ∧ n < len then some (.pointer (some ⟨b,off + n.toNat * sz,none⟩),H) else none
  | _,_ => none
 | .idxP len sz x i => match aval env x,aval env i with
  | some (.pointer (some ⟨b,off,none⟩)),some (.int _ n) => if 0 ≤ n ∧ n < len then some (.pointer (some ⟨b,off + n.toNat * sz,none⟩),H) else none
  | _,_ => none
 | .idx1 len sz x i => match aval env x,aval env i with
  | some (.agg cs),some (.int _ n) => if 0 ≤ n ∧ n < len then (cs[n.toNat * sz]?).map (·,H) else none
  | _,_ => none
 | .idxN len sz x i => match aval env x,aval env i with
  | some (.agg cs),some (.int _ n) => if 0 ≤ n ∧ n < len then some (.agg (cs.extract (n.toNat * sz) (n.toNat * sz + sz)),H) else none
  | _,_ => none
 | .idxT x i => match aval env x,aval env i with
  | some (.string s),some (.int _ n) => if 0 ≤ n then (s[n.toNat]?).map fun b => (.int .u8 b.toNat,H) else none
  | _,_ => none
 | .sl sz x lo hi mx => match aval env x with
  | some (.slice none 0 0) => match boundsA env 0 0 lo hi mx with
   | some _ => some (.slice none 0 0,H)
   | none => none
  | some (.slice (some ⟨b,off,sp⟩) len cap) => match boundsA env len cap lo hi mx with
   | some (l,h,m) =>
    match sp,mx with
    | some t,none => if t = sz then some (.slice (some ⟨b,off + l * sz,some t⟩) (h - l) (m - l),H) else none
    | _,_ => some (.slice (some ⟨b,if m = l then off else off + l * sz,none⟩) (h - l) (m - l),H)
   | none => none
  | _ => none
 | .slT x lo hi => match aval env x with
  | some (.string s) => match boundsA env s.size s.size lo hi none with
   | some (l,h,_) => some (.string (s.extract l h),H)
   | none => none
  | _ => none
 | .slP n sz x lo hi mx => match aval env x with
  | some (.pointer (some ⟨b,off,none⟩)) => match boundsA env n n lo hi mx with
   | some (l,h,m) => some (.slice (some ⟨b,if m = l then off else off + l * sz,none⟩) (h - l) (m - l),H)
   | none => none
  | _ => none
 | .iface t x => (aval env x).map fun v => (.iface t v,H)
 | .fn f first cap => match avals env first,avals env cap with
  | some p,some q => some (.func f p.toArray q.toArray,H)
  | _,_ => none
 | .mks elem bytes zero l c => match aval env l,aval env c with
  | some (.int .i64 l),some (.int .i64 c) =>
   if 0 ≤ l ∧ l ≤ c ∧ c ≤ 9223372036854775807 ∧ bytes * c ≤ 281474976710656 then
    some (.slice (some ⟨H.next,0,none⟩) l.toNat c.toNat,H.alloc (.row (zeros zero c.toNat) elem true))
   else none
  | _,_ => none
 | .ext x i => match aval env x with
  | some (.tuple vs) => (vs[i]?).map (·,H)
  | _ => none
 | .len x => match aval env x with
  | some (.slice _ n _) => some (.int .i64 n,H)
  | _ => none
 | .lenT x => match aval env x with
  | some (.string s) => some (.int .i64 s.size,H)
  | _ => none
 | .lenK n => some (.int .i64 n,H)
 | .capS x => match aval env x with
  | some (.slice (some ⟨_,_,none⟩) _ c) => some (.int .i64 c,H)
  | some (.slice none _ c) => some (.int .i64 c,H)
  | _ => none
 | .app elem sz bytes s x => match aval env s,aval env x with
  | some s,some (.slice a m c) => match elemsA H sz (.slice a m c) with
   | some news => appendA H elem sz bytes s m news
   | none => none
  | _,_ => none
 | .copy sz d s => match aval env d,aval env s with
  | some (.slice none 0 0),some (.slice _ _ _) => some (.int .i64 0,H)
  | some (.slice (some ⟨b,off,_⟩) len _),some (.slice a m c) =>
   let n:=min m len
   if n = 0 then some (.int .i64 0,H) else
   match elemsA H sz (.slice a n c) with
   | some news => (writeA H b off news).map fun H' => (.int .i64 n,H')
   | none => none
  | _,_ => none
 | .clearS zero x => match aval env x with
  | some (.slice none _ _) => some (undef,H)
  | some (.slice (some ⟨b,off,_⟩) len _) => if len = 0 then some (undef,H) else (writeA H b off (zeros zero len)).map (undef,·)
  | _ => none
 | .mx x y => match aval env x,aval env y with
  | some (.int k a),some (.int _ b) => some (.int k (if b > a then b else a),H)
  | _,_ => none
 | .mn x y => match aval env x,aval env y with
  | some (.int k a),some (.int _ b) => some (.int k (if b < a then b else a),H)
  | _,_ => none
 | .assertI _ _ _ _ => none
 | .assertT t zero ok x => match aval env x with
  | some (.iface u v) => if u = t then some (if ok then .tuple #[v,.bool true] else v,H) else if ok then some (.tuple #[zero,.bool false],H) else none
  | some .nilIface => if ok then some (.tuple #[zero,.bool false],H) else none
  | _ => none
 | .call _ _ => none
 | .invoke _ _ _ => none
def ievalAt (id : Nat) (op : IOp) (env : Env) (H : AH) : Option (Value × AH) :=
 match op with
 | .new elem zero => some (.pointer (some ⟨id,0,none⟩),H.allocAt id (.row zero elem true))
 | .box elem x => match aval env x with
  | some v => (cellsOf v).map fun cs => (.pointer (some ⟨id,0,none⟩),H.allocAt id (.row cs elem true))
  | none => none
 | .bslice elem len zero parts => (fillA env zero parts).map fun cs => (.slice (some ⟨id,0,none⟩) len len,H.allocAt id (.row cs elem true))
 | .mks elem bytes zero l c => match aval env l,aval env c with
  | some (.int .i64 l),some (.int .i64 c) =>
   if 0 ≤ l ∧ l ≤ c ∧ c ≤ 9223372036854775807 ∧ bytes * c ≤ 281474976710656 then
    some (.slice (some ⟨id,0,none⟩) l.toNat c.toNat,H.allocAt id (.row (zeros zero c.toNat) elem true))
   else none
  | _,_ => none
 | .app elem sz bytes s x => match aval env s,aval env x with
  | some s,some (.slice a m c) => match elemsA H sz (.slice a m c) with
   | some news => appendAt id H elem sz bytes s m news
   | none => none
  | _,_ => none
 | op => ieval op env H
theorem ieval_at (op : IOp) (env : Env) (H : AH) : ieval op env H = ievalAt H.next op env H:=by
 cases op <;> first | rfl | (simp only [ieval,ievalAt,AH.allocAt_next,appendA_at])
structure Foot where
 r : List Nat
 w : List Nat
def blkOf : Option Value → List Nat
 | some (.pointer (some a)) => [a.block]
 | some (.slice (some a) _ _) => [a.block]
 | _ => []
def foot (id : Nat) (op : IOp) (env : Env) : Foot :=
 match op with
 | .load1 a | .loadN _ a | .bstr a => ⟨blkOf (aval env a),[]⟩
 | .store1 a _ | .storeN _ a _ => ⟨[],blkOf (aval env a)⟩
 | .new _ _ | .box _ _ | .bslice _ _ _ _ | .mks _ _ _ _ _ => ⟨[],[id]⟩
 | .app _ _ _ s x => ⟨blkOf (aval env x),id :: blkOf (aval env s)⟩
 | .copy _ d x => ⟨blkOf (aval env x),blkOf (aval env d)⟩
 | .clearS _ x => ⟨[],blkOf (aval env x)⟩
 | _ => ⟨[],[]⟩
def apart (F G : Foot) : Prop:=(∀ b ∈ F.w,b ∉ G.r ∧ b ∉ G.w) ∧ ∀ b ∈ F.r,b ∉ G.w
end Go.Abs
/-
 THE ABSTRACT LAYER (2): how an abstract state stands for a world of the model.
-/
namespace Go.Abs
open Go Go.RowKit
structure Emb where
 blk : Nat
 base : Nat
 fin : Nat
 sz : Nat
abbrev Rho:=Nat → Option Emb
inductive VR (ρ : Rho) : Value → Value → Prop
 | bool (b : Bool) : VR ρ (.bool b) (.bool b)
 | int (k : IntKind) (n : Int) : VR ρ (.int k n) (.int k n)
 | string (s : ByteArray) : VR ρ (.string s) (.string s)
 | nilPtr : VR ρ (.pointer none) (.pointer none)
 | ptr (b off : Nat) (e : Emb) (h : ρ b = some e) : VR ρ (.pointer (some ⟨b,off,none⟩)) (.pointer (some ⟨e.blk,e.base + off,none⟩))
 | nilSlice : VR ρ (.slice none 0 0) (.slice none 0 0)
 | slice (b off : Nat) (e : Emb) (len cap : Nat) (h : ρ b = some e) (hl : len ≤ cap) : VR ρ (.slice (some ⟨b,off,none⟩) len cap) (.slice (some ⟨e.blk,e.base + off,none⟩) len cap)
 | opn (b off : Nat) (e : Emb) (len cap cap' : Nat) (h : ρ b = some e) (hl : len ≤ cap) (hc : cap ≤ cap') (hf : off + cap' * e.sz = e.fin) :
   VR ρ (.slice (some ⟨b,off,some e.sz⟩) len cap) (.slice (some ⟨e.blk,e.base + off,none⟩) len cap')
 | zslice (a a' : Addr) : VR ρ (.slice (some a) 0 0) (.slice (some a') 0 0)
 | nilFunc : VR ρ .nilFunc .nilFunc
 | func (fn : Fn) (p p' q q' : Array Value) (hfn : ∀ l,fn ≠ .yield l) (hp : p.size = p'.size) (hq : q.size = q'.size)
   (h1 : ∀ i (h : i < p.size) (h' : i < p'.size),VR ρ p[i] p'[i]) (h2 : ∀ i (h : i < q.size) (h' : i < q'.size),VR ρ q[i] q'[i]) : VR ρ (.func fn p q) (.func fn p' q')
 | yield (l : Nat) (e : Emb) (h : ρ l = some e) : VR ρ (.func (.yield l) #[] #[]) (.func (.yield e.blk) #[] #[])
 | iface (t : TypeId) (v v' : Value) (h : VR ρ v v') : VR ρ (.iface t v) (.iface t v')
 | nilIface : VR ρ .nilIface .nilIface
 | agg (p p' : Array Value) (hp : p.size = p'.size) (h1 : ∀ i (h : i < p.size) (h' : i < p'.size),VR ρ p[i] p'[i]) (ho : ∀ i (h : i < p.size),one p[i] = true) : VR ρ (.agg p) (.agg p')
 | tuple (p p' : Array Value) (hp : p.size = p'.size) (h1 : ∀ i (h : i < p.size) (h' : i < p'.size),VR ρ p[i] p'[i]) : VR ρ (.tuple p) (.tuple p')
 | nilMap : VR ρ (.map none) (.map none)
def Rho.le (ρ ρ' : Rho) : Prop:=∀ b e,ρ b = some e → ρ' b = some e
theorem Rho.le_refl (ρ : Rho) : ρ.le ρ:=fun _ _ h => h
theorem Rho.le_trans {a b c : Rho} (h : a.le b) (k : b.le c) : a.le c:=fun x e hx => k x e (h x e hx)
theorem VR.mono {ρ ρ' : Rho} (hle : ρ.le ρ') {v v' : Value} (h : VR ρ v v') : VR ρ' v v':=by
 induction h with
 | bool b => exact .bool b
 | int k n => exact .int k n
 | string s => exact .string s
 | nilPtr => exact .nilPtr
 | ptr b off e h => exact .ptr b off e (hle _ _ h)
 | nilSlice => exact .nilSlice
 | slice b off e len cap h hl => exact .slice b off e len cap (hle _ _ h) hl
 | opn b off e len cap cap' h hl hc hf => exact .opn b off e len cap cap' (hle _ _ h) hl hc hf
 | zslice a a' => exact .zslice a a'
 | nilFunc => exact .nilFunc
 | func fn p p' q q' hfn hp hq _ _ ih1 ih2 => exact .func fn p p' q q' hfn hp hq ih1 ih2
 | yield l e h => exact .yield l e (hle _ _ h)
 | iface t v v' _ ih => exact .iface t v v' ih
 | nilIface => exact .nilIface
 | agg p p' hp _ ho ih => exact .agg p p' hp ih ho
 | tuple p p' hp _ ih => exact .tuple p p' hp ih
 | nilMap => exact .nilMap
theorem VR.one {ρ : Rho} {v v' : Value} (h : VR ρ v v') : one v' = one v:=by
 cases h <;> rfl
theorem oneCell'_eq (v : Value) : v.oneCell' = one v:=by cases v <;> rfl
theorem VR.of_plain {ρ : Rho} {v : Value} (h : plain v = true) : VR ρ v v:=by
 cases v with
 | bool b => exact .bool b
 | int k n => exact .int k n
 | string s => exact .string s
 | pointer a => cases a with
  | none => exact .nilPtr
  | some a => simp [plain] at h
 | slice a l c =>
  cases a with
  | some a => simp [plain] at h
  | none =>
   cases l <;> cases c <;> simp [plain] at h
   exact .nilSlice
 | map r => cases r with
  | none => exact .nilMap
  | some r => simp [plain] at h
 | nilFunc => exact .nilFunc
 | nilIface => exact .nilIface
 | _ => simp [plain] at h
theorem one_of_plain {v : Value} (h : plain v = true) : one v = true:=by
 cases v <;> simp_all [plain,one]
theorem VR.of_plainC {ρ : Rho} {v : Value} (h : plainC v = true) : VR ρ v v:=by
 cases v with
 | agg cs =>
  simp only [plainC,List.all_eq_true] at h
  refine .agg cs cs rfl (fun i h1 _ => VR.of_plain (h _ ?_)) (fun i h1 => one_of_plain (h _ ?_)) <;> simp
 | tuple cs =>
  simp only [plainC,List.all_eq_true] at h
  refine .tuple cs cs rfl (fun i h1 _ => VR.of_plain (h _ ?_)); simp
 | _ => exact VR.of_plain h
inductive VRs (ρ : Rho) : List Value → List Value → Prop
 | nil : VRs ρ [] []
 | cons {v v' : Value} {vs vs' : List Value} (h : VR ρ v v') (t : VRs ρ vs vs') : VRs ρ (v :: vs) (v' :: vs')
theorem VRs.mono {ρ ρ' : Rho} (hle : ρ.le ρ') {vs vs' : List Value} (h : VRs ρ vs vs') : VRs ρ' vs vs':=by
 induction h with
 | nil => exact .nil
 | cons h _ ih => exact .cons (h.mono hle) ih
theorem VRs.length {ρ : Rho} {vs vs' : List Value} (h : VRs ρ vs vs') : vs'.length = vs.length:=by
 induction h with
 | nil => rfl
 | cons _ _ ih => simp [ih]
theorem VRs.get {ρ : Rho} {vs vs' : List Value} (h : VRs ρ vs vs') : ∀ (i : Nat) (v : Value),vs[i]? = some v → ∃ v',vs'[i]? = some v' ∧ VR ρ v v':=by
 induction h with
 | nil => intro i v hv; simp at hv
 | cons h _ ih =>
  intro i v hv
  cases i with
  | zero => simp at hv; subst hv; exact ⟨_,rfl,h⟩
  | succ i => simpa using ih i v (by simpa using hv)
theorem VRs.of_get {ρ : Rho} : ∀ {vs vs' : List Value},vs.length = vs'.length → (∀ i (h : i < vs.length) (h' : i < vs'.length),VR ρ vs[i] vs'[i]) → VRs ρ vs vs'
 | [],[],_,_ => .nil
 | [],_ :: _,h,_ => by simp at h
 | _ :: _,[],h,_ => by simp at h
 | v :: vs,v' :: vs',h,hg => .cons (hg 0 (by simp) (by simp)) (VRs.of_get (by simpa using h) fun i h1 h2 => hg (i + 1) (by simpa using h1) (by simpa using h2))
theorem VRs.toGet {ρ : Rho} {vs vs' : List Value} (h : VRs ρ vs vs') : ∀ i (h1 : i < vs.length) (h2 : i < vs'.length),VR ρ vs[i] vs'[i]:=by
 intro i h1 h2
 obtain ⟨v',hv',hr⟩:=h.get i vs[i] (by simp)
 rw [List.getElem?_eq_getElem h2] at hv'
 cases hv'
 exact hr
theorem VRs.append {ρ : Rho} {a a' b b' : List Value} (h : VRs ρ a a') (k : VRs ρ b b') : VRs ρ (a ++ b) (a' ++ b'):=by
 induction h with
 | nil => exact k
 | cons h _ ih => exact .cons h ih
theorem VRs.take {ρ : Rho} {a a' : List Value} (h : VRs ρ a a') : ∀ n,VRs ρ (a.take n) (a'.take n):=by
 induction h with
 | nil => intro n; simp; exact .nil
 | cons h _ ih => intro n; cases n with
  | zero => exact .nil
  | succ n => exact .cons h (ih n)
theorem VRs.drop {ρ : Rho} {a a' : List Value} (h : VRs ρ a a') : ∀ n,VRs ρ (a.drop n) (a'.drop n):=by
 induction h with
 | nil => intro n; simp; exact .nil
 | cons h t ih => intro n; cases n with
  | zero => exact .cons h t
  | succ n => exact ih n
theorem VRs.of_plain {ρ : Rho} : ∀ {vs : List Value},vs.all plain = true → VRs ρ vs vs
 | [],_ => .nil
 | v :: vs,h => by
  simp only [List.all_cons,Bool.and_eq_true] at h
  exact .cons (VR.of_plain h.1) (VRs.of_plain h.2)
def ones (vs : List Value) : Prop:=∀ v ∈ vs,one v = true
theorem VRs.ones {ρ : Rho} {vs vs' : List Value} (h : VRs ρ vs vs') (ho : ones vs) : Abs.ones vs':=by
 induction h with
 | nil => exact ho
 | cons h _ ih =>
  intro x hx
  rcases List.mem_cons.1 hx with rfl | hx
  ·rw [h.one]; exact ho _ (by simp)
  ·exact ih (fun y hy => ho y (by simp [hy])) x hx
theorem VR.agg_list {ρ : Rho} {p : Array Value} {v' : Value} (h : VR ρ (.agg p) v') : ∃ p' : Array Value,v' = .agg p' ∧ VRs ρ p.toList p'.toList ∧ ones p.toList:=by
 cases h with
 | agg _ p' hp h1 ho =>
  refine ⟨p',rfl,VRs.of_get (by simpa using hp) (fun i h2 h3 => by simpa using h1 i (by simpa using h2) (by simpa using h3)),?_⟩
  intro v hv
  obtain ⟨i,hi,rfl⟩:=List.getElem_of_mem hv
  simpa using ho i (by simpa using hi)
theorem VR.mk_agg {ρ : Rho} {l l' : List Value} (h : VRs ρ l l') (ho : ones l) : VR ρ (.agg l.toArray) (.agg l'.toArray):=by
 refine .agg _ _ (by simpa using h.length.symm) (fun i h1 h2 => ?_) (fun i h1 => ho _ ?_)
 ·simpa using h.toGet i (by simpa using h1) (by simpa using h2)
 ·simp
def EnvR (n : Nat) (ρ : Rho) (env : Env) (tmps : Array Value) : Prop :=
 tmps.size = n ∧ ∀ t v,env t = some v → ∃ v',tmps[t]? = some v' ∧ VR ρ v v'
theorem EnvR.mono {n : Nat} {ρ ρ' : Rho} (hle : ρ.le ρ') {env : Env} {tmps : Array Value} (h : EnvR n ρ env tmps) : EnvR n ρ' env tmps :=
 ⟨h.1,fun t v hv => let ⟨v',h1,h2⟩:=h.2 t v hv; ⟨v',h1,h2.mono hle⟩⟩
theorem EnvR.put {n : Nat} {ρ : Rho} {env : Env} {a : Act} {dst : Option Nat} {v v' : Value} (h : EnvR n ρ env a.tmps) (hd : ∀ d,dst = some d → d < n) (hv : VR ρ v v') :
  EnvR n ρ (put env dst v) (a.put dst v').tmps:=by
 cases dst with
 | none => exact h
 | some d =>
  have hdn:=hd d rfl
  refine ⟨by simpa [Act.put] using h.1,fun t u hu => ?_⟩
  simp only [Abs.put,upd] at hu
  by_cases ht : t = d
  ·subst ht
   simp at hu
   subst hu
   exact ⟨v',by simp [Act.put,h.1,hdn],hv⟩
  ·simp only [ht,if_false] at hu
   obtain ⟨u',h1,h2⟩:=h.2 t u hu
   exact ⟨u',by simp [Act.put,Array.getElem?_setIfInBounds_ne (Ne.symm ht),h1],h2⟩
def exitOf : AExit → Option Code
 | .normal => none
 | .exit id => some (.exit id)
 | .ret => some .ret
end Go.Abs
/-
 THE ABSTRACT LAYER (3): the model's code,compiled to the small operations. A plain function of the loaded program; what it does not take it answers by none.
-/
namespace Go.Abs
open Go
def isAggB (P : Program) (t : TypeId) : Bool :=
 match P.underlying t with
 | some (.struct _) | some (.array _ _) => true
 | _ => false
def zeroOf (P : Program) (t : TypeId) : Option (List Value) :=
 match P.info? t with
 | some i => match i.zero with
  | some z => if z.cells.toList.all plain && z.cells.size == i.size then some z.cells.toList else none
  | none => none
 | none => none
def zeroVal (P : Program) (t : TypeId) : Option Value :=
 match P.info? t with
 | some i => match i.zero with
  | some z => if plainC z then some z else none
  | none => none
 | none => none
def sizeB (P : Program) (t : TypeId) : Option Nat:=(P.info? t).map (·.size)
def okOpd (P : Program) : Operand → Bool
 | .const v => plainC v
 | .global g => decide (g < P.globals.size)
 | _ => true
def plansOf (P : Program) (pl : TypeId → Option Plan) : List Field → Option (List (Nat × Option Nat × Plan))
 | [] => some []
 | f :: fs =>
  if f.name = "_" then plansOf P pl fs else
  match pl f.type,plansOf P pl fs with
  | some p,some rest =>
   if isAggB P f.type then (sizeB P f.type).map fun n => (f.offset,some n,p) :: rest
   else some ((f.offset,none,p) :: rest)
  | _,_ => none
def planOf (P : Program) : Nat → TypeId → Option Plan
 | 0,_ => none
 | d + 1,t =>
  match P.underlying t with
  | some .bool => some .bool
  | some (.int _) => some .int
  | some .string => some .str
  | some (.pointer _) => some .ptr
  | some (.slice _) => some .nilSlice
  | some (.map _ _) => some .nilMap
  | some (.func _ _ _) => some .nilFunc
  | some (.interface _) => some .iface
  | some (.struct fs) => if P.stoodInHeld t then none else (plansOf P (planOf P d) fs.toList).map .node
  | _ => none
def isConstB : Operand → Bool
 | .const _ => true
 | _ => false
def methodsOf (P : Program) (name : String) : List (TypeId × FuncId) :=
 (List.range P.types.size).filterMap fun t =>
  match P.info? t with
  | some i => match i.methods.find? (·.name == name) with
   | some m => match m.path.isEmpty,m.func,P.underlying t with
    | true,some (f,true),some (.pointer _) => some (t,f)
    | _,_,_ => none
   | none => none
  | none => none
def partsOf (P : Program) (place : Nat → Option (Nat × Nat)) : List (Nat × Operand) → Option (List (Nat × Nat × Operand))
 | [] => some []
 | (i,x) :: rest => match place i,partsOf P place rest with
  | some (off,n),some r => some ((off,n,x) :: r)
  | _,_ => none
def goodFunc (P : Program) (f : FuncId) : Bool :=
 match P.funcs[f]? with
 | some fn => fn.body.isSome && !(fn.name == "runtime.NumGoroutine")
 | none => false
def extK (P : Program) (f : FuncId) : Option Bool :=
 match P.funcs[f]? with
 | some fn => if fn.body.isNone && (Extern.findNext fn).isNone then (if fn.name == "math/bits.Add64" then some true else if fn.name == "math/bits.Sub64" then some false else none) else none
 | none => none
def extV (k : Bool) (args : List Value) : Option Value :=
 match args with
 | [.int .u64 x,.int .u64 y,.int .u64 c] => if c.toNat ≤ 1 then some (if k then .tuple #[.int .u64 (((x.toNat + y.toNat + c.toNat) % 18446744073709551616 : Nat) : Int),.int .u64 (((x.toNat + y.toNat + c.toNat) / 18446744073709551616 : Nat) : Int)]
   else .tuple #[.int .u64 (((x.toNat + 18446744073709551616 - y.toNat - c.toNat) % 18446744073709551616 : Nat) : Int),.int .u64 ((if x.toNat < y.toNat + c.toNat then 1 else 0 : Nat) : Int)]) else none
 | _ => none
theorem good_ext {P : Program} {f : FuncId} (h : goodFunc P f = true) : extK P f = none:=by
 unfold goodFunc at h
 unfold extK
 split at h
 ·rename_i fn hf
  simp only [Bool.and_eq_true] at h
  cases hb : fn.body with
  | none => rw [hb] at h; simp at h
  | some b => simp
 ·cases h
def compCall (P : Program) (c : Call) : Option IOp :=
 match c.callee with
 | .value f => some (.call f c.args.toList)
 | .invoke recv name => some (.invoke recv (methodsOf P name) c.args.toList)
 | .builtin b =>
  match b,c.args.toList,c.argTypes.toList with
  | .len,[x],[t] => match P.underlying t with
   | some .string => some (.lenT x)
   | some (.slice _) => some (.len x)
   | some (.array n _) => some (.lenK n)
   | _ => none
  | .cap,[x],[t] => match P.underlying t with
   | some (.slice _) => some (.capS x)
   | _ => none
  | .append,[s,x],[t,u] => match P.underlying t,P.underlying u with
   | some (.slice e),some (.slice _) => match P.info? e,zeroOf P e with
    | some i,some _ => if 0 < i.size then some (.app e i.size i.bytes s x) else none
    | _,_ => none
   | _,_ => none
  | .copy,[d,s],[t,_] => match P.underlying t with
   | some (.slice e) => match P.info? e with
    | some i => if 0 < i.size then some (.copy i.size d s) else none
    | none => none
   | _ => none
  | .clear,[x],[t] => match P.underlying t with
   | some (.slice e) => match zeroOf P e with
    | some z => if 0 < z.length then some (.clearS z x) else none
    | none => none
   | _ => none
  | .max,[x,y],_ => some (.mx x y)
  | .min,[x,y],_ => some (.mn x y)
  | _,_,_ => none
def placeS (P : Program) (fields : Array Field) (i : Nat) : Option (Nat × Nat) :=
 (fields[i]?).bind fun f => (sizeB P f.type).map fun n => (f.offset,n)
def compOp0 (P : Program) (o : Op) : Option IOp :=
 match o with
 | .move x | .assign x => some (.mv x)
 | .nilCheck x => some (.nilChk x)
 | .pick c a b => some (.pick c a b)
 | .alloc e => (zeroOf P e).map (.new e)
 | .box e x => some (.box e x)
 | .build t parts => match P.underlying t,zeroOf P t with
  | some (.struct fields),some z =>
   if fields.all fun f => (P.info? f.type).isSome then
    (partsOf P (placeS P fields) parts.toList).map (.build z)
   else none
  | some (.array _ e),some z => match sizeB P e with
   | some n => (partsOf P (fun i => some (i * n,n)) parts.toList).map (.build z)
   | none => none
  | _,_ => none
 | .buildSlice t len parts => match P.underlying t with
  | some (.slice e) => match zeroOf P e,sizeB P e with
   | some z,some n =>
    if 0 < n ∧ len * n ≤ 16777216 then (partsOf P (fun i => some (i * n,n)) parts.toList).map (.bslice e len (zeros z len)) else none
   | _,_ => none
  | _ => none
 | .load t a => if isAggB P t then (sizeB P t).map fun n => .loadN n a else if (P.underlying t).isSome then some (.load1 a) else none
 | .store t a v => match sizeB P t with
  | some n => if isAggB P t then some (.storeN n a v) else if n = 1 then some (.store1 a v) else none
  | none => none
 | .binOp op t x y _ =>
  match op with
  | .eql | .neq => match P.underlying t with
   | some (.int _) | some .string => some (.bin op x y)
   | some (.interface _) => if isConstB x || isConstB y then some (.eqv (op == .neq) .iface x y) else none
   | some (.struct _) => if P.eqGuardType P.depth t then none else (planOf P 8 t).map fun pl => .eqv (op == .neq) pl x y
   | some _ => (planOf P 8 t).map fun pl => .eqv (op == .neq) pl x y
   | none => none
  | _ => some (.bin op x y)
 | .unOp op _ x => some (.un op x)
 | .convert src dst x => match P.underlying src,P.underlying dst with
  | some _,some (.int k) => some (.conv k x)
  | some .string,some .string => some (.convS x)
  | some (.slice e),some .string => match P.underlying e with
   | some (.int .u8) => some (.bstr x)
   | _ => none
  | _,_ => none
 | .makeInterface t x => match P.underlying t with
  | some (.interface _) => none
  | some _ => some (.iface t x)
  | none => none
 | .makeFunc f first cap => match f with
  | .yield _ => none
  | _ => some (.fn f first.toList cap.toList)
 | .makeSlice t l c => match P.underlying t with
  | some (.slice e) => match P.info? e,zeroOf P e with
   | some i,some z => if 0 < i.size then some (.mks e i.bytes z l c) else none
   | _,_ => none
  | _ => none
 | .slice t x lo hi mx => match P.underlying t with
  | some (.array n e) => (sizeB P e).map fun s => .slP n s x lo hi mx
  | some .string => if mx.isNone then some (.slT x lo hi) else none
  | some (.slice e) => (sizeB P e).map fun s => .sl s x lo hi mx
  | some (.pointer arr) => match P.underlying arr with
   | some (.array n e) => (sizeB P e).map fun s => .slP n s x lo hi mx
   | _ => none
  | _ => none
 | .fieldAddr s x f => match P.underlying s with
  | some (.struct fields) => match fields[f]? with
   | some fd => match sizeB P fd.type with
    | some n => if 0 < n then some (.faddr fd.offset x) else none
    | none => none
   | none => none
  | _ => none
 | .field t x f => match P.underlying t with
  | some (.struct fields) => match fields[f]? with
   | some fd => if isAggB P fd.type then (sizeB P fd.type).map fun n => .fldN fd.offset n x
    else if (P.underlying fd.type).isSome then some (.fld1 fd.offset x) else none
   | none => none
  | _ => none
 | .indexAddr t x i => match P.underlying t with
  | some (.slice e) => match sizeB P e with
   | some n => if 0 < n then some (.idxS n x i) else none
   | none => none
  | some (.array len e) => match sizeB P e with
   | some n => if 0 < n then some (.idxP len n x i) else none
   | none => none
  | _ => none
 | .index t x i => match P.underlying t with
  | some (.array len e) => match sizeB P e with
   | some n => if isAggB P e then some (.idxN len n x i) else if (P.underlying e).isSome then some (.idx1 len n x i) else none
   | none => none
  | some .string => some (.idxT x i)
  | _ => none
 | .extract x i => some (.ext x i)
 | .call c => compCall P c
 | .panic x => some (.assertI [] [] false x)
 | .typeAssert x _ asserted ok => match P.underlying asserted,zeroVal P asserted with
  | some (.interface _),_ => none
  | some _,some z => some (.assertT asserted z ok x)
  | _,_ => none
 | _ => none
def IOp.isCall : IOp → Bool
 | .call _ _ | .invoke _ _ _ => true
 | _ => false
def compOp (P : Program) (o : Op) : Option IOp :=
 match o with
 | .call ⟨.value f,args,_⟩ => some (.call f args.toList)
 | .call ⟨.invoke recv name,args,_⟩ => some (.invoke recv (methodsOf P name) args.toList)
 | o => match compOp0 P o with
  | some i => if i.isCall then none else some i
  | none => none
theorem compOp_0 {P : Program} {o : Op} {i : IOp} (h : compOp P o = some i) : compOp0 P o = some i:=by
 unfold compOp at h
 split at h
 ·cases h; rfl
 ·cases h; rfl
 ·split at h
  ·split at h
   ·cases h
   ·rename_i h1 _; cases h; exact h1
  ·cases h
theorem compOp_call {P : Program} {o : Op} {f : Operand} {args : List Operand} (h : compOp P o = some (.call f args)) : ∃ c,o = .call c ∧ c.callee = .value f ∧ c.args.toList = args:=by
 unfold compOp at h
 split at h
 ·cases h; exact ⟨_,rfl,rfl,rfl⟩
 ·cases h
 ·split at h
  ·split at h
   ·cases h
   ·rename_i h2; cases h; exact absurd rfl h2
  ·cases h
theorem compOp_invoke {P : Program} {o : Op} {r : Operand} {tbl : List (TypeId × FuncId)} {args : List Operand} (h : compOp P o = some (.invoke r tbl args)) :
  ∃ c name,o = .call c ∧ c.callee = .invoke r name ∧ tbl = methodsOf P name ∧ c.args.toList = args:=by
 unfold compOp at h
 split at h
 ·cases h
 ·cases h; exact ⟨_,_,rfl,rfl,rfl,rfl⟩
 ·split at h
  ·split at h
   ·cases h
   ·rename_i h2; cases h; exact absurd rfl h2
  ·cases h
def IOp.cls : IOp → Nat
 | .load1 _ | .loadN _ _ | .bstr _ | .call _ _ | .invoke _ _ _ => 1
 | .new _ _ | .box _ _ | .bslice _ _ _ _ | .mks _ _ _ _ _ => 3
 | .store1 _ _ | .storeN _ _ _ | .app _ _ _ _ _ | .copy _ _ _ | .clearS _ _ => 2
 | _ => 0
def opdSlots : List Operand → List Nat
 | [] => []
 | .tmp t :: xs => t :: opdSlots xs
 | _ :: xs => opdSlots xs
def guardOf (ops : Array Oper) (o : Oper) : Option (Option (Nat × Bool)) :=
 match o.guard with
 | none => some none
 | some (j,want) => match (ops[j]?).bind (·.dst) with
  | some d => some (some (d,want))
  | none => none
def dstOk (n : Nat) : Option Nat → Bool
 | some d => decide (d < n)
 | none => true
def compOper (P : Program) (n : Nat) (ops : Array Oper) (o : Oper) : Option AOper :=
 if o.op.operands.toList.all (okOpd P) && dstOk n o.dst then
  match compOp P o.op,guardOf ops o with
  | some i,some g => some { dst:=o.dst,op:=i,guard:=g }
  | _,_ => none
 else none
def compOpers (P : Program) (n : Nat) (ops : Array Oper) : List Oper → Option (List AOper)
 | [] => some []
 | o :: rest => match compOper P n ops o,compOpers P n ops rest with
  | some a,some r => some (a :: r)
  | _,_ => none
def optO : Option Operand → List Operand
 | some x => [x]
 | none => []
def IOp.opds : IOp → List Operand
 | .mv x | .nilChk x | .box _ x | .load1 x | .loadN _ x | .un _ x | .conv _ x | .convS x | .bstr x | .faddr _ x | .fld1 _ x | .fldN _ _ x | .iface _ x | .ext x _ | .len x | .lenT x | .capS x
 | .clearS _ x | .assertI _ _ _ x | .assertT _ _ _ x => [x]
 | .pick c a b => [c,a,b]
 | .new _ _ | .lenK _ => []
 | .build _ ps | .bslice _ _ _ ps => ps.map fun p => p.2.2
 | .store1 a v | .storeN _ a v | .bin _ a v | .eqv _ _ a v | .idxS _ a v | .idxP _ _ a v | .idx1 _ _ a v | .idxN _ _ a v | .idxT a v | .mks _ _ _ a v | .app _ _ _ a v | .copy _ a v | .mx a v | .mn a v => [a,v]
 | .sl _ x lo hi m | .slP _ _ x lo hi m => x :: (optO lo ++ optO hi ++ optO m)
 | .slT x lo hi => x :: (optO lo ++ optO hi)
 | .fn _ p q => p ++ q
 | .call f args => f :: args
 | .invoke r _ args => r :: args
def looks (o : AOper) : List Nat :=
 opdSlots o.op.opds ++ (match o.guard with | some (d,_) => [d] | none => [])
def IOp.isC : IOp → Bool
 | .call _ _ | .invoke _ _ _ => true
 | _ => false
def IOp.isInv : IOp → Bool
 | .invoke _ _ _ => true
 | _ => false
def indep (x y : AOper) : Bool :=
 !x.op.isC &&
 (x.op.cls == 0 || y.op.cls == 0 || (x.op.cls == 1 && (y.op.cls == 1 || y.op.cls == 3))) &&
 (match x.dst with | some d => !(looks y).contains d && y.dst != some d | none => true) &&
 (match y.dst with | some d => !(looks x).contains d | none => true)
def esOf (ops : Array Oper) (i : Nat) : List Nat :=
 match ops[i]? with
 | some o => (o.after.toList.filter (Region.binds .any)).map (·.on)
 | none => []
def maskOf (i : Nat) (an : List Nat) : List Nat → Nat
 | [] => 0
 | j :: r => Nat.lor (Nat.lor (Nat.shiftLeft 1 j) (an.getD (i - 1 - j) 0)) (maskOf i an r)
def ancs (ops : Array Oper) : Nat → List Nat
 | 0 => []
 | i + 1 => maskOf i (ancs ops i) (esOf ops i) :: ancs ops i
def isAnc (m : Nat) (an : List Nat) (i a : Nat) : Bool:=Nat.testBit (an.getD (m - 1 - i) 0) a
def pickNext (ops : Array Oper) (al : List AOper) (rest : List Nat) : Option Nat :=
 let ready:=rest.filter fun i => (esOf ops i).all fun j => !rest.contains j
 let easy:=fun i => match al[i]? with
  | some o => !o.op.isC && decide (o.op.cls ≤ 1)
  | none => false
 let calm:=fun i => match al[i]? with
  | some o => !o.op.isC
  | none => false
 match ready.find? easy with
 | some i => some i
 | none => match ready.find? calm with
  | some i => some i
  | none => ready.head?
def drawOrd (ops : Array Oper) (al : List AOper) : Nat → List Nat → List Nat
 | 0,_ => []
 | n + 1,rest => match pickNext ops al rest with
  | some i => i :: drawOrd ops al n (rest.filter fun j => j != i)
  | none => []
def pairOk (ops : Array Oper) (al : List AOper) (an : List Nat) : List Nat → Bool
 | [] => true
 | a :: rest => rest.all (fun i => isAnc ops.size an i a || (match al[a]?,al[i]? with
   | some x,some y => indep x y
   | _,_ => false)) && rest.all (fun i => !(esOf ops a).contains i) && !rest.contains a && pairOk ops al an rest
def drawOk (ops : Array Oper) (al : List AOper) (ord : List Nat) : Bool :=
 let an:=ancs ops ops.size
 ((List.range ops.size).all fun i =>
   match ops[i]? with
    | some o => o.after.toList.all fun e => !Region.binds .any e || decide (e.on < i)
    | none => false) &&
 ((List.range ops.size).all fun i => ord.contains i) && (ord.all fun i => decide (i < ops.size)) && pairOk ops al an ord
def slotsOk (x y : AOper) : Bool :=
 !x.op.isInv && !y.op.isInv &&
 (match x.dst with | some d => !(looks y).contains d && y.dst != some d | none => true) &&
 (match y.dst with | some d => !(looks x).contains d | none => true)
def mixPair (ops : Array Oper) (al : List AOper) (an : List Nat) : List Nat → Bool
 | [] => true
 | a :: rest => rest.all (fun i => isAnc ops.size an i a || (match al[a]?,al[i]? with
   | some x,some y => slotsOk x y
   | _,_ => false)) && rest.all (fun i => !(esOf ops a).contains i) && !rest.contains a && mixPair ops al an rest
def mop (ops : Array Oper) (al : List AOper) (i : Nat) : Option (Nat × AOper × List Nat) :=
 (al[i]?).map fun o => (i,o,(List.range ops.size).filter fun k => !isAnc ops.size (ancs ops ops.size) i k && k != i)
def mixOk (ops : Array Oper) (al : List AOper) (ord : List Nat) : Bool :=
 let an:=ancs ops ops.size
 (al.all fun o => !o.op.isInv) &&
 ((List.range ops.size).all fun i =>
   match ops[i]? with
    | some o => o.after.toList.all fun e => !Region.binds .any e || decide (e.on < i)
    | none => false) &&
 ((List.range ops.size).all fun i => ord.contains i) && (ord.all fun i => decide (i < ops.size)) && mixPair ops al an ord
def bold (P : Program) (o : AOper) : Bool :=
 match o.op with
 | .invoke _ _ _ => true
 | .call (.func f) _ => match P.funcs[f]? with
  | some fn => match fn.params[0]? with
   | some t => match P.underlying t with
    | some (.pointer _) => true
    | some (.slice _) => fn.params.size == 3
    | _ => false
   | none => false
  | none => false
 | _ => false
def alone (P : Program) (ops : Array Oper) (al : List AOper) (ord : List Nat) (i : Nat) : Bool :=
 (match al[i]? with | some o => bold P o | none => false) &&
 (ord.takeWhile fun k => k != i).all fun a => isAnc ops.size (ancs ops ops.size) i a || (match al[a]? with | some x => x.op.cls == 0 && !x.op.isC | none => false)
def wild (P : Program) (ops : Array Oper) (al : List AOper) (ord : List Nat) : Bool :=
 ord.any (alone P ops al ord) && (ord.any fun i => !alone P ops al ord i && (match al[i]? with | some o => bold P o | none => false)) && mixOk ops al ord
def drawC (al : List AOper) (g : Nat → Bool) : List Nat → ACode
 | [] => .skip
 | i :: rest => match al[i]? with
  | some o => .seq (.region [o] (!g i)) (drawC al g rest)
  | none => .skip
def compC (P : Program) (n : Nat) : Code → Option ACode
 | .skip => some .skip
 | .region _ ops draw =>
  match compOpers P n ops ops.toList with
  | some l => if draw then
    (let ord:=drawOrd ops l ops.size (List.range ops.size)
     if drawOk ops l ord && !wild P ops l ord then some (if ord.any (alone P ops l ord) then drawC l (alone P ops l ord) ord else .region (ord.filterMap fun i => l[i]?) true)
     else if mixOk ops l ord then some (.mix ops.size (ord.filterMap (mop ops l)))
     else none)
   else some (.region l false)
  | none => none
 | .seq a b => match compC P n a,compC P n b with
  | some x,some y => some (.seq x y)
  | _,_ => none
 | .cond c a b => if okOpd P c then
   match compC P n a,compC P n b with
   | some x,some y => some (.cond c x y)
   | _,_ => none
  else none
 | .block id a => (compC P n a).map (.block id)
 | .loop a => (compC P n a).map .loop
 | .rangeFunc f ps a b => if okOpd P f && ps.all fun p => decide (p < n) then
   match compC P n a,compC P n b with
   | some x,some y => some (.rangeFunc f ps.toList x y)
   | _,_ => none
  else none
 | .exit id => some (.exit id)
 | .scope a => compC P n a
 | .label _ => some .skip
 | .ret => some .ret
 | .goto _ | .refuse _ => none
inductive ARes where
 | tmp (t : Nat)
 | cell1 (t : Nat)
 | cellN (n t : Nat)
 deriving Inhabited
def compRes (P : Program) : ResultVar → Option ARes
 | .tmp t => some (.tmp t)
 | .cell a t => if isAggB P t then (sizeB P t).map fun n => .cellN n a else if (P.underlying t).isSome then some (.cell1 a) else none
def compRess (P : Program) : List ResultVar → Option (List ARes)
 | [] => some []
 | r :: rs => match compRes P r,compRess P rs with
  | some x,some xs => some (x :: xs)
  | _,_ => none
structure AFunc where
 n : Nat
 results : List ARes
 code : ACode
def compF (P : Program) (f : FuncId) : Option AFunc :=
 match P.funcs[f]? with
 | some fn => if !goodFunc P f then none else
  match fn.body,compRess P fn.results.toList with
  | some c,some rs => (compC P fn.ntmps c).map fun code => { n:=fn.ntmps,results:=rs,code }
  | _,_ => none
 | none => none
end Go.Abs
/-
 THE ABSTRACT LAYER (4): when an abstract heap stands for a world; new blocks,stores,blocks that are forgotten.
-/
namespace Go.Abs
open Go Go.RowKit
def Row (P : Program) (ρ : Rho) (w : World) (B0 : Nat) (e : Emb) (cells : List Value) (elem : TypeId) (wr : Bool) : Prop :=
 ∃ c t fr cells',w.heap[e.blk]? = some (.cells c t fr) ∧ VRs ρ cells cells' ∧ ones cells ∧ (∀ i,i < cells.length → c[e.base + i]? = cells'[i]?) ∧
  (wr = true → B0 ≤ e.blk ∧ fr = (0,0) ∧ t = elem ∧ cells.length ≤ e.fin ∧ e.base + e.fin = c.size ∧ e.sz = P.cellsOf elem)
def Loops (P : Program) (ρ : Rho) (w : World) (B0 : Nat) (e : Emb) (L : LoopA) : Prop :=
 ∃ r : Loop,w.heap[e.blk]? = some (.loop r) ∧ B0 ≤ e.blk ∧ r.state = L.state ∧ r.pending = L.pending.bind exitOf ∧ r.params.toList = L.params ∧ EnvR L.n ρ L.env r.tmps ∧
  compC P L.n r.assign = some L.assign ∧ compC P L.n r.body = some L.body ∧ ∀ p ∈ L.params,p < L.n
def Holds (P : Program) (ρ : Rho) (w : World) (B0 : Nat) (e : Emb) : Blk → Prop
 | .row cells elem wr => Row P ρ w B0 e cells elem wr
 | .loop L => Loops P ρ w B0 e L
def Blk.mine : Blk → Bool
 | .row _ _ wr => wr
 | .loop _ => true
structure Sim (P : Program) (B0 : Nat) (ρ : Rho) (H : AH) (w : World) : Prop where
 fresh : ∀ b e,ρ b = some e → b < H.next ∧ e.blk < w.heap.size
 live : ∀ b B,H.blk b = some B → ∃ e,ρ b = some e ∧ Holds P ρ w B0 e B
 inj : ∀ b b' B B' e e',H.blk b = some B → H.blk b' = some B' → ρ b = some e → ρ b' = some e' → e.blk = e'.blk → b = b' ∨ (B.mine = false ∧ B'.mine = false)
 glob : ∀ g,g < P.globals.size → ∃ e,ρ g = some e ∧ e.blk = g ∧ e.base = 0
 base : B0 ≤ w.heap.size
structure Ext (B0 : Nat) (w w' : World) : Prop where
 below : Below B0 w w'
 defd : ∀ k ds,k < w.heap.size → w.heap[k]? = some (.deferred ds) → w'.heap[k]? = some (.deferred ds)
 loopd : ∀ (k : Nat) (r : Loop),w.heap[k]? = some (Obj.loop r) → ∃ r' : Loop,w'.heap[k]? = some (Obj.loop r')
theorem Ext.refl (B0 : Nat) (w : World) : Ext B0 w w:=⟨Below.refl _ _,fun _ _ _ h => h,fun _ r h => ⟨r,h⟩⟩
theorem Ext.trans {B0 : Nat} {a b c : World} (h : Ext B0 a b) (k : Ext B0 b c) : Ext B0 a c :=
 ⟨h.below.trans k.below,fun i ds hi hd => k.defd i ds (Nat.lt_of_lt_of_le hi h.below.size) (h.defd i ds hi hd),
  fun i r hr => let ⟨r',h1⟩:=h.loopd i r hr; k.loopd i r' h1⟩
structure Stp (P : Program) (B0 : Nat) (ρ : Rho) (w : World) (ρ' : Rho) (H' : AH) (w' : World) : Prop where
 sim : Sim P B0 ρ' H' w'
 le : ρ.le ρ'
 ext : Ext B0 w w'
theorem Stp.refl {P : Program} {B0 : Nat} {ρ : Rho} {H : AH} {w : World} (h : Sim P B0 ρ H w) : Stp P B0 ρ w ρ H w:=⟨h,Rho.le_refl _,Ext.refl _ _⟩
theorem Stp.trans {P : Program} {B0 : Nat} {ρ ρ' ρ'' : Rho} {H' H'' : AH} {w w' w'' : World} (h : Stp P B0 ρ w ρ' H' w') (k : Stp P B0 ρ' w' ρ'' H'' w'') : Stp P B0 ρ w ρ'' H'' w'' :=
 ⟨k.sim,Rho.le_trans h.le k.le,h.ext.trans k.ext⟩
theorem Holds.keep {P : Program} {ρ ρ' : Rho} {w w' : World} {B0 : Nat} {e : Emb} {B : Blk} (hle : ρ.le ρ') (hh : w'.heap[e.blk]? = w.heap[e.blk]?) (h : Holds P ρ w B0 e B) : Holds P ρ' w' B0 e B:=by
 cases B with
 | row cells elem wr =>
  obtain ⟨c,t,fr,cells',h1,h2,h3,h4,h5⟩:=h
  exact ⟨c,t,fr,cells',by rw [hh]; exact h1,h2.mono hle,h3,h4,h5⟩
 | loop L =>
  obtain ⟨r,h1,h2,h3,h4,h5,h6,h7⟩:=h
  exact ⟨r,by rw [hh]; exact h1,h2,h3,h4,h5,h6.mono hle,h7⟩
theorem Sim.same {P : Program} {B0 : Nat} {ρ : Rho} {H : AH} {w w' : World} (h : Sim P B0 ρ H w) (hh : w'.heap = w.heap) : Sim P B0 ρ H w' where
 fresh:=fun b e he => by rw [hh]; exact h.fresh b e he
 live:=fun b B hB => let ⟨e,he,hr⟩:=h.live b B hB; ⟨e,he,hr.keep (Rho.le_refl _) (by rw [hh])⟩
 inj:=h.inj
 glob:=h.glob
 base:=by rw [hh]; exact h.base
def Rho.add (ρ : Rho) (b : Nat) (e : Emb) : Rho:=fun i => if i = b then some e else ρ i
theorem Rho.le_add {ρ : Rho} {b : Nat} {e : Emb} (h : ρ b = none) : ρ.le (ρ.add b e):=by
 intro x f hx
 unfold Rho.add
 split
 ·rename_i hb; subst hb; rw [h] at hx; cases hx
 ·exact hx
theorem Sim.new_none {P : Program} {B0 : Nat} {ρ : Rho} {H : AH} {w : World} (h : Sim P B0 ρ H w) : ρ H.next = none:=by
 cases hc : ρ H.next with
 | none => rfl
 | some e => exact absurd (h.fresh _ _ hc).1 (Nat.lt_irrefl _)
theorem Sim.pushAt {P : Program} {B0 : Nat} {ρ : Rho} {H : AH} {w w' : World} {id : Nat} (h : Sim P B0 ρ H w) (hn : ρ id = none) (o : Obj) (B : Blk) (e : Emb) (he : e.blk = w.heap.size)
  (hh : w'.heap = w.heap.push o) (hos : w'.os = w.os) (ht : w'.tape = w.tape) (hout : w'.output = w.output)
  (hB : Holds P (ρ.add id e) w' B0 e B) : Stp P B0 ρ w (ρ.add id e) (H.allocAt id B) w':=by
 have hle : ρ.le (ρ.add id e):=Rho.le_add hn
 have hold : ∀ k,k < w.heap.size → w'.heap[k]? = w.heap[k]?:=fun k hk => by rw [hh,Array.getElem?_push,if_neg (by omega)]
 refine ⟨⟨?_,?_,?_,?_,?_⟩,hle,⟨⟨hos,ht,hout,by rw [hh]; simp,fun k hk => hold k (Nat.lt_of_lt_of_le hk h.base)⟩,fun k ds hk hd => by rw [hold k hk]; exact hd,
  fun k r hr => ⟨r,by rw [hold k (Array.getElem?_eq_some_iff.1 hr).1]; exact hr⟩⟩⟩
 ·intro b f hf
  simp only [Rho.add] at hf
  split at hf
  ·rename_i hb; cases hf; subst hb; exact ⟨by show b < (if b < H.next then H.next else b + 1); split <;> omega,by rw [hh,he]; simp⟩
  ·have:=h.fresh b f hf
   exact ⟨by show b < (if id < H.next then H.next else id + 1); split <;> omega,by rw [hh]; simp; omega⟩
 ·intro b C hC
  simp only [AH.allocAt] at hC
  split at hC
  ·rename_i hb; cases hC; subst hb; exact ⟨e,by simp [Rho.add],hB⟩
  ·obtain ⟨f,hf,hr⟩:=h.live b C hC
   exact ⟨f,hle _ _ hf,hr.keep hle (hold _ (h.fresh _ _ hf).2)⟩
 ·intro b b' C C' f f' hC hC' hf hf' hff
  simp only [AH.allocAt] at hC hC'
  by_cases hb : b = id
  ·by_cases hb' : b' = id
   ·left; omega
   ·have h1 : f = e:=by simpa [Rho.add,hb] using hf.symm
    have h2 : ρ b' = some f':=by simpa [Rho.add,hb'] using hf'
    have:=(h.fresh _ _ h2).2
    subst h1; omega
  ·by_cases hb' : b' = id
   ·have h1 : f' = e:=by simpa [Rho.add,hb'] using hf'.symm
    have h2 : ρ b = some f:=by simpa [Rho.add,hb] using hf
    have:=(h.fresh _ _ h2).2
    subst h1; omega
   ·rw [if_neg hb] at hC
    rw [if_neg hb'] at hC'
    exact h.inj b b' C C' f f' hC hC' (by simpa [Rho.add,hb] using hf) (by simpa [Rho.add,hb'] using hf') hff
 ·intro g hg
  obtain ⟨f,hf,h1,h2⟩:=h.glob g hg
  exact ⟨f,hle _ _ hf,h1,h2⟩
 ·rw [hh]; simp; have:=h.base; omega
theorem Sim.push_rowAt {P : Program} {B0 : Nat} {ρ : Rho} {H : AH} {w w' : World} {id : Nat} (h : Sim P B0 ρ H w) (hn : ρ id = none) (elem : TypeId) (cells cells' rest : List Value)
  (hv : VRs ρ cells cells') (ho : ones cells) (hh : w'.heap = w.heap.push (.cells (cells' ++ rest).toArray elem (0,0))) (hos : w'.os = w.os) (ht : w'.tape = w.tape) (hout : w'.output = w.output) :
  Stp P B0 ρ w (ρ.add id ⟨w.heap.size,0,(cells' ++ rest).length,P.cellsOf elem⟩) (H.allocAt id (.row cells elem true)) w':=by
 refine h.pushAt hn _ _ _ rfl hh hos ht hout ⟨(cells' ++ rest).toArray,elem,(0,0),cells',by rw [hh]; simp,hv.mono (Rho.le_add hn),ho,?_,fun _ => ⟨h.base,rfl,rfl,?_,by simp,rfl⟩⟩
 ·intro i hi
  simp only [Nat.zero_add,List.getElem?_toArray]
  rw [List.getElem?_append_left (by rw [hv.length]; exact hi)]
 ·simp [hv.length]
theorem Sim.push {P : Program} {B0 : Nat} {ρ : Rho} {H : AH} {w w' : World} (h : Sim P B0 ρ H w) (o : Obj) (B : Blk) (e : Emb) (he : e.blk = w.heap.size)
  (hh : w'.heap = w.heap.push o) (hos : w'.os = w.os) (ht : w'.tape = w.tape) (hout : w'.output = w.output)
  (hB : Holds P (ρ.add H.next e) w' B0 e B) : Stp P B0 ρ w (ρ.add H.next e) (H.alloc B) w':=by
 rw [← AH.allocAt_next]
 exact h.pushAt h.new_none o B e he hh hos ht hout hB
theorem Sim.kill {P : Program} {B0 : Nat} {ρ : Rho} {H : AH} {w : World} (h : Sim P B0 ρ H w) (b : Nat) : Sim P B0 ρ (H.kill b) w where
 fresh:=h.fresh
 live:=fun c C hC => by
  simp only [AH.kill] at hC
  split at hC
  ·cases hC
  ·exact h.live c C hC
 inj:=fun c c' C C' e e' hC hC' => by
  simp only [AH.kill] at hC hC'
  split at hC
  ·cases hC
  ·split at hC'
   ·cases hC'
   ·exact h.inj c c' C C' e e' hC hC'
 glob:=h.glob
 base:=h.base
theorem over_length {cells : List Value} {off : Nat} {news : List Value} (h : off + news.length ≤ cells.length) : (over cells off news).length = cells.length:=by
 simp [over]; omega
theorem VRs.over {ρ : Rho} {a a' b b' : List Value} (h : VRs ρ a a') (k : VRs ρ b b') (off : Nat) : VRs ρ (Abs.over a off b) (Abs.over a' off b'):=by
 unfold Abs.over
 rw [k.length]
 exact ((h.take off).append k).append (h.drop _)
theorem ones_over {a b : List Value} (h : ones a) (k : ones b) (off : Nat) : ones (Abs.over a off b):=by
 intro v hv
 simp only [Abs.over,List.mem_append] at hv
 rcases hv with (hv | hv) | hv
 ·exact h v (List.mem_of_mem_take hv)
 ·exact k v hv
 ·exact h v (List.mem_of_mem_drop hv)
theorem over_get {c : List Value} {off : Nat} {news : List Value} (h : off + news.length ≤ c.length) (i : Nat) :
  (over c off news)[i]? = if i < off then c[i]? else if i < off + news.length then news[i - off]? else c[i]?:=by
 unfold over
 split
 ·rename_i hi
  rw [List.append_assoc,List.getElem?_append_left (by simp; omega),List.getElem?_take_of_lt hi]
 ·rename_i hi
  split
  ·rename_i h2
   rw [List.append_assoc,List.getElem?_append_right (by simp; omega),List.getElem?_append_left (by simp; omega)]
   congr 1; simp; omega
  ·rename_i h2
   rw [List.getElem?_append_right (by simp; omega),List.getElem?_drop]
   congr 1; simp; omega
theorem Sim.write {P : Program} {B0 : Nat} {ρ : Rho} {H H' : AH} {w : World} (h : Sim P B0 ρ H w) {b off : Nat} {e : Emb} (he : ρ b = some e) {news news' : List Value}
  (hw : writeA H b off news = some H') (hv : VRs ρ news news') (ho : ones news) :
  ∃ w',(storeCells ⟨e.blk,e.base + off,none⟩ news').run P w = .ok () w' ∧ Stp P B0 ρ w ρ H' w':=by
 unfold writeA at hw
 split at hw
 ·rename_i cs elem hb
  split at hw
  ·rename_i hl
   cases hw
   obtain ⟨e2,he2,c,t,fr,cells',h1,h2,h3,h4,h5⟩:=h.live _ _ hb
   rw [he] at he2
   cases he2
   obtain ⟨k1,rfl,rfl,k2,k3,k4⟩:=h5 rfl
   have hlen:=hv.length
   have hcl:=h2.length
   have hfit : e.base + off + 0 + news'.length ≤ c.size:=by omega
   have ho' : ∀ v ∈ news',v.oneCell' = true:=fun v hv' => by rw [oneCell'_eq]; exact hv.ones ho v hv'
   have hrun:=run_storeCells_at P e.blk (e.base + off) t news' 0 c w h1 hfit ho'
   refine ⟨_,hrun,?_⟩
   generalize hc2 : (List.take (e.base + off + 0) c.toList ++ news' ++ List.drop (e.base + off + 0 + news'.length) c.toList).toArray = c2
   have hc2l : c2.toList = over c.toList (e.base + off) news':=by subst hc2; simp [over]
   have hc2s : c2.size = c.size:=by
    have:=congrArg List.length hc2l
    rw [over_length (by simpa using hfit)] at this
    simpa using this
   have hself:=setRow_heap w e.blk c c2 t (0,0) h1
   have hoth:=fun k (hk : k ≠ e.blk) => setRow_other w e.blk k c2 hk
   have hsz : (w.setRow e.blk c2).heap.size = w.heap.size:=by simp [World.setRow]
   refine ⟨⟨?_,?_,?_,h.glob,by rw [hsz]; exact h.base⟩,Rho.le_refl _,⟨⟨rfl,rfl,rfl,by rw [hsz]; exact Nat.le_refl _,fun k hk => hoth k (by omega)⟩,?_,fun k r hr => ⟨r,by rw [hoth k (fun hke => by rw [hke,h1] at hr; cases hr)]; exact hr⟩⟩⟩
   ·intro x f hf; rw [hsz]; exact h.fresh x f hf
   ·intro x B hB
    simp only [AH.set] at hB
    split at hB
    ·rename_i hx
     cases hB
     subst hx
     refine ⟨e,he,c2,t,(0,0),over cells' off news',hself,h2.over hv off,ones_over h3 ho off,?_,fun _ => ⟨k1,rfl,rfl,by rw [over_length hl]; exact k2,by rw [hc2s]; exact k3,k4⟩⟩
     intro i hi
     rw [over_length hl] at hi
     rw [← Array.getElem?_toList,hc2l,over_get (by simpa using hfit),over_get (by rw [hcl]; omega)]
     have:=h4 i hi
     rw [← Array.getElem?_toList] at this
     by_cases hi1 : i < off
     ·rw [if_pos (by omega),if_pos hi1]; exact this
     ·rw [if_neg (by omega),if_neg hi1]
      by_cases hi2 : i < off + news'.length
      ·rw [if_pos (by omega),if_pos hi2]; congr 1; omega
      ·rw [if_neg (by omega),if_neg hi2]; exact this
    ·rename_i hx
     obtain ⟨f,hf,hr⟩:=h.live x B hB
     refine ⟨f,hf,hr.keep (Rho.le_refl _) (hoth _ fun hfe => ?_)⟩
     rcases h.inj x b B _ f e hB hb hf he hfe with h' | h'
     ·exact hx h'
     ·simp [Blk.mine] at h'
   ·intro x x' B B' f f' hB hB' hf hf' hff
    simp only [AH.set] at hB hB'
    by_cases hx : x = b
    ·by_cases hx' : x' = b
     ·left; omega
     ·rw [if_neg hx'] at hB'
      subst hx
      rcases h.inj x x' _ B' f f' hb hB' hf hf' hff with h' | h'
      ·exact .inl h'
      ·simp [Blk.mine] at h'
    ·rw [if_neg hx] at hB
     by_cases hx' : x' = b
     ·subst hx'
      rcases h.inj x x' B _ f f' hB hb hf hf' hff with h' | h'
      ·exact .inl h'
      ·simp [Blk.mine] at h'
     ·rw [if_neg hx'] at hB'
      exact h.inj x x' B B' f f' hB hB' hf hf' hff
   ·intro k ds hk hd
    by_cases hke : k = e.blk
    ·subst hke; rw [h1] at hd; cases hd
    ·rw [hoth k hke]; exact hd
  ·cases hw
 ·cases hw
theorem Sim.read {P : Program} {B0 : Nat} {ρ : Rho} {H : AH} {w : World} (h : Sim P B0 ρ H w) {b : Nat} {e : Emb} (he : ρ b = some e) {cs : List Value} (hc : H.cells b = some cs) :
  ∃ cs',VRs ρ cs cs' ∧ ones cs ∧ ∀ i,i < cs.length → w.cell? ⟨e.blk,e.base + i,none⟩ = cs'[i]?:=by
 unfold AH.cells at hc
 split at hc
 ·rename_i cells elem wr hb
  cases hc
  obtain ⟨e2,he2,c,t,fr,cells',h1,h2,h3,h4,_⟩:=h.live _ _ hb
  rw [he] at he2
  cases he2
  exact ⟨cells',h2,h3,fun i hi => by simp [World.cell?,h1,h4 i hi]⟩
 ·cases hc
theorem cut_some {cells : List Value} {off n : Nat} {r : List Value} (h : cut cells off n = some r) : off + n ≤ cells.length ∧ r = (cells.drop off).take n ∧ r.length = n:=by
 unfold cut at h
 split at h
 ·cases h; refine ⟨‹_›,rfl,by simp; omega⟩
 ·cases h
end Go.Abs
/-
 THE ABSTRACT LAYER (5): each small operation is what the model's does: those that touch no memory.
-/
set_option linter.unusedSimpArgs false
set_option linter.unusedVariables false
namespace Go.Abs
open Go Go.RowKit
theorem aval_sound {P : Program} {B0 n : Nat} {ρ : Rho} {H : AH} {w : World} {env : Env} {a : Act} (hs : Sim P B0 ρ H w) (he : EnvR n ρ env a.tmps) {x : Operand} (hk : okOpd P x = true) {v : Value}
  (hv : aval env x = some v) : VR ρ v (a.eval x):=by
 cases x with
 | tmp t =>
  obtain ⟨v',h1,h2⟩:=he.2 t v hv
  simpa [Act.eval,h1] using h2
 | const u => cases hv; exact VR.of_plainC hk
 | global g =>
  cases hv
  obtain ⟨e,h1,h2,h3⟩:=hs.glob g (by simpa [okOpd] using hk)
  have:=VR.ptr (ρ:=ρ) g 0 e h1
  rw [h2,h3] at this
  exact this
 | func f => cases hv; exact .func _ _ _ _ _ (fun l h => by cases h) rfl rfl (fun i h => by simp at h) (fun i h => by simp at h)
theorem avals_sound {P : Program} {B0 n : Nat} {ρ : Rho} {H : AH} {w : World} {env : Env} {a : Act} (hs : Sim P B0 ρ H w) (he : EnvR n ρ env a.tmps) :
  ∀ {xs : List Operand},xs.all (okOpd P) = true → ∀ {vs : List Value},avals env xs = some vs → VRs ρ vs (xs.map a.eval)
 | [],_,vs,h => by simp [avals] at h; subst h; exact .nil
 | x :: xs,hk,vs,h => by
  simp only [List.all_cons,Bool.and_eq_true] at hk
  simp only [avals] at h
  split at h
  ·rename_i v us h1 h2
   cases h
   exact .cons (aval_sound hs he hk.1 h1) (avals_sound hs he hk.2 h2)
  ·cases h
def Only (id : Nat) (ρ ρ' : Rho) : Prop:=∀ b,ρ b = none → ρ' b ≠ none → b = id
theorem Only.refl {id : Nat} {ρ : Rho} : Only id ρ ρ:=fun _ h k => absurd h k
theorem Only.add {id : Nat} {ρ : Rho} {e : Emb} : Only id ρ (ρ.add id e):=fun b h k => by
 by_cases hb : b = id
 ·exact hb
 ·simp [Rho.add,hb,h] at k
structure Up (n0 : Nat) (ρ ρ' : Rho) (H' : AH) : Prop where
 next : n0 ≤ H'.next
 old : ∀ b,b < n0 → ρ b = none → ρ' b = none
theorem Up.refl {n0 : Nat} {ρ : Rho} {H : AH} (h : n0 ≤ H.next) : Up n0 ρ ρ H:=⟨h,fun _ _ h => h⟩
theorem Up.trans {n0 : Nat} {ρ ρ' ρ'' : Rho} {H' H'' : AH} (h : Up n0 ρ ρ' H') (k : Up n0 ρ' ρ'' H'') : Up n0 ρ ρ'' H'':=⟨k.next,fun b hb hn => k.old b hb (h.old b hb hn)⟩
theorem Up.less {n0 n1 : Nat} {ρ ρ' : Rho} {H' : AH} (h : Up n1 ρ ρ' H') (hn : n0 ≤ n1) : Up n0 ρ ρ' H':=⟨Nat.le_trans hn h.next,fun b hb h0 => h.old b (Nat.lt_of_lt_of_le hb hn) h0⟩
theorem Only.up {id n0 : Nat} {ρ ρ' : Rho} {H' : AH} (h : Only id ρ ρ') (hid : n0 ≤ id) (hn : n0 ≤ H'.next) : Up n0 ρ ρ' H':=⟨hn,fun b hb h0 => by
 cases hr : ρ' b with
 | none => rfl
 | some e => have:=h b h0 (by simp [hr]); omega⟩
def Fine (id : Nat) (P : Program) (B0 : Nat) (ρ : Rho) (w : World) (r : Result Next) (v : Value) (H' : AH) : Prop :=
 ∃ v' w' ρ',(r = .ok (.value v') w' ∨ (r = .ok .skip w' ∧ v' = undef)) ∧ Stp P B0 ρ w ρ' H' w' ∧ VR ρ' v v' ∧ Only id ρ ρ'
theorem Fine.pure {id : Nat} {P : Program} {B0 : Nat} {ρ : Rho} {H : AH} {w : World} {r : Result Next} {v v' : Value} (hs : Sim P B0 ρ H w) (hr : r = .ok (.value v') w) (hv : VR ρ v v') : Fine id P B0 ρ w r v H :=
 ⟨v',w,ρ,.inl hr,Stp.refl hs,hv,.refl⟩
/-! ### numbers,bools,strings -/
theorem abin_sound {P : Program} {w : World} {op : BinOp} {t : TypeId} {x y r : Value} (h : abin op x y = some r) :
  (binOp op t x y).run P w = .ok r w ∧ plain r = true:=by
 unfold abin at h
 split at h
 ·rename_i k a k' b
  cases op <;> simp only at h
  case shl => split at h <;> cases h; simp [binOp,Op.shift, *,plain]
  case shr => split at h <;> cases h; simp [binOp,Op.shift, *,plain]
  all_goals
   split at h
   ·cases h
   ·rename_i hk
    have hk' : k = k':=by simpa using hk
    subst hk'
    first
     | (cases h; simp [binOp,Op.intArith,Op.intBits,Op.intCmp,plain]; done)
     | (split at h <;> cases h; simp [binOp,Op.intDiv, *,plain])
 ·rename_i a b
  cases op <;> simp only at h
  all_goals
   first
    | (cases h; simp [binOp,Op.stringOp,plain]; done)
    | cases h
    | (split at h
       ·cases h
       ·rename_i hl; cases h
        simp [binOp,Op.stringOp,plain]
        omega)
 ·cases h
theorem aun_sound {P : Program} {w : World} {op : UnOp} {x r : Value} (h : aun op x = some r) : (Op.unary op x).run P w = .ok r w ∧ plain r = true:=by
 unfold aun at h
 split at h
 ·cases op <;> simp only at h <;> cases h <;> simp [Op.unary,Op.intArith,Op.intBits,plain]
 ·cases op <;> simp only at h <;> cases h <;> simp [Op.unary,plain]
 ·cases h
theorem VR.int_inv {ρ : Rho} {k : IntKind} {m : Int} {v' : Value} (h : VR ρ (.int k m) v') : v' = .int k m:=by cases h; rfl
theorem VR.bool_inv {ρ : Rho} {b : Bool} {v' : Value} (h : VR ρ (.bool b) v') : v' = .bool b:=by cases h; rfl
theorem VR.string_inv {ρ : Rho} {s : ByteArray} {v' : Value} (h : VR ρ (.string s) v') : v' = .string s:=by cases h; rfl
theorem abin_args {op : BinOp} {x y r : Value} (h : abin op x y = some r) : (∃ k a k' b,x = .int k a ∧ y = .int k' b) ∨ (∃ a b,x = .string a ∧ y = .string b):=by
 unfold abin at h
 split at h
 ·exact .inl ⟨_,_,_,_,rfl,rfl⟩
 ·exact .inr ⟨_,_,rfl,rfl⟩
 ·cases h
theorem abin_rel {ρ : Rho} {P : Program} {w : World} {op : BinOp} {t : TypeId} {x y x' y' r : Value} (h : abin op x y = some r) (hx : VR ρ x x') (hy : VR ρ y y') :
  (binOp op t x' y').run P w = .ok r w ∧ VR ρ r r:=by
 have hp:=abin_sound (P:=P) (w:=w) (t:=t) h
 have : x' = x ∧ y' = y:=by
  rcases abin_args h with ⟨k,a,k',b,rfl,rfl⟩ | ⟨a,b,rfl,rfl⟩
  ·exact ⟨hx.int_inv,hy.int_inv⟩
  ·exact ⟨hx.string_inv,hy.string_inv⟩
 rw [this.1,this.2]
 exact ⟨hp.1,VR.of_plain hp.2⟩
theorem eqGuard_scalar {P : Program} {w : World} {op : BinOp} {t : TypeId} {ox oy : Operand} {x y : Value}
  (h : (∃ k a k' b,x = .int k a ∧ y = .int k' b) ∨ (∃ a b,x = .string a ∧ y = .string b)) : (eqGuard op t ox oy x y).run P w = .ok () w:=by
 rcases h with ⟨k,a,k',b,rfl,rfl⟩ | ⟨a,b,rfl,rfl⟩ <;> simp [eqGuard] <;> split <;> rfl
/-! ### comparing by a plan -/
theorem part_rel {P : Program} {ρ : Rho} {w : World} {t : TypeId} {cs cs' : Array Value} {off : Nat} {n : Option Nat} {v : Value}
  (hr : VRs ρ cs.toList cs'.toList) (ho : ones cs.toList) (hp : partA cs.toList off n = some v)
  (hn : n = if isAggB P t then (sizeB P t) else none) (hs : isAggB P t = true → (sizeB P t).isSome) (ht : (P.underlying t).isSome) :
  ∃ v',(part t cs' off).run P w = .ok v' w ∧ VR ρ v v':=by
 obtain ⟨d,hd⟩:=Option.isSome_iff_exists.1 ht
 by_cases hag : isAggB P t = true
 ·rw [hag] at hn
  obtain ⟨m,hm⟩:=Option.isSome_iff_exists.1 (hs hag)
  simp only [if_true,hm] at hn
  subst hn
  simp only [partA,Option.some.injEq] at hp
  subst hp
  unfold sizeB at hm
  cases hi : P.info? t with
  | none => simp [hi] at hm
  | some i =>
   simp [hi] at hm
   refine ⟨.agg (cs'.extract off (off + m)),?_,?_⟩
   ·unfold isAggB at hag
    rw [hd] at hag
    cases d <;> simp at hag <;> simp [part,isAgg,run_underlying hd,sizeOf,typeInfo,hi,hm]
   ·have:=VR.mk_agg ((hr.drop off).take m) (fun u hu => ho u (List.mem_of_mem_drop (List.mem_of_mem_take hu)))
    have he : cs'.extract off (off + m) = ((cs'.toList.drop off).take m).toArray:=by
     apply Array.ext'
     simp
    rw [he]
    exact this
 ·simp only [hag] at hn
  subst hn
  simp only [partA] at hp
  obtain ⟨v',h1,h2⟩:=hr.get off v hp
  refine ⟨v',?_,h2⟩
  have h1' : cs'[off]? = some v':=by simpa using h1
  unfold isAggB at hag
  rw [hd] at hag
  cases d <;> simp at hag <;> simp [part,isAgg,run_underlying hd,h1']
theorem eqA_bool {x y : Value} {r : Bool} (h : eqA .bool x y = some r) : ∃ a b,x = .bool a ∧ y = .bool b ∧ r = (a == b):=by
 unfold eqA at h; split at h <;> first | contradiction | (cases h; exact ⟨_,_,rfl,rfl,rfl⟩)
theorem eqA_str {x y : Value} {r : Bool} (h : eqA .str x y = some r) : ∃ a b,x = .string a ∧ y = .string b ∧ r = (a == b):=by
 unfold eqA at h; split at h <;> first | contradiction | (cases h; exact ⟨_,_,rfl,rfl,rfl⟩)
theorem eqA_int {x y : Value} {r : Bool} (h : eqA .int x y = some r) : ∃ k a b,x = .int k a ∧ y = .int k b ∧ r = (a == b):=by
 unfold eqA at h
 split at h <;> first | contradiction | (split at h <;> first | contradiction | (rename_i hk; subst hk; cases h; exact ⟨_,_,_,rfl,rfl,rfl⟩))
theorem eqA_ptr {x y : Value} {r : Bool} (h : eqA .ptr x y = some r) : (∃ b,x = .pointer none ∧ y = .pointer b ∧ r = b.isNone) ∨ (∃ a,x = .pointer (some a) ∧ y = .pointer none ∧ r = false):=by
 unfold eqA at h; split at h <;> first | contradiction | (cases h; first | exact .inl ⟨_,rfl,rfl,rfl⟩ | exact .inr ⟨_,rfl,rfl,rfl⟩)
theorem eqA_slice {x y : Value} {r : Bool} (h : eqA .nilSlice x y = some r) : (∃ l c b m d,x = .slice none l c ∧ y = .slice b m d ∧ r = b.isNone) ∨ (∃ a l c m d,x = .slice (some a) l c ∧ y = .slice none m d ∧ r = false):=by
 unfold eqA at h; split at h <;> first | contradiction | (cases h; first | exact .inl ⟨_,_,_,_,_,rfl,rfl,rfl⟩ | exact .inr ⟨_,_,_,_,_,rfl,rfl,rfl⟩)
theorem eqA_map {x y : Value} {r : Bool} (h : eqA .nilMap x y = some r) : (∃ b,x = .map none ∧ y = .map b ∧ r = b.isNone) ∨ (∃ a,x = .map (some a) ∧ y = .map none ∧ r = false):=by
 unfold eqA at h; split at h <;> first | contradiction | (cases h; first | exact .inl ⟨_,rfl,rfl,rfl⟩ | exact .inr ⟨_,rfl,rfl,rfl⟩)
theorem eqA_func {x y : Value} {r : Bool} (h : eqA .nilFunc x y = some r) : (x = .nilFunc ∧ y = .nilFunc ∧ r = true) ∨ (∃ f p q,x = .nilFunc ∧ y = .func f p q ∧ r = false) ∨ (∃ f p q,x = .func f p q ∧ y = .nilFunc ∧ r = false):=by
 unfold eqA at h; split at h <;> first | contradiction | (cases h; first | exact .inl ⟨rfl,rfl,rfl⟩ | exact .inr (.inl ⟨_,_,_,rfl,rfl,rfl⟩) | exact .inr (.inr ⟨_,_,_,rfl,rfl,rfl⟩))
theorem eqA_iface {x y : Value} {r : Bool} (h : eqA .iface x y = some r) : (x = .nilIface ∧ y = .nilIface ∧ r = true) ∨ (∃ f p,x = .nilIface ∧ y = .iface f p ∧ r = false) ∨ (∃ f p,x = .iface f p ∧ y = .nilIface ∧ r = false):=by
 unfold eqA at h; split at h <;> first | contradiction | (cases h; first | exact .inl ⟨rfl,rfl,rfl⟩ | exact .inr (.inl ⟨_,_,rfl,rfl,rfl⟩) | exact .inr (.inr ⟨_,_,rfl,rfl,rfl⟩))
theorem eqA_node {ps : List (Nat × Option Nat × Plan)} {x y : Value} {r : Bool} (h : eqA (.node ps) x y = some r) : ∃ xs ys,x = .agg xs ∧ y = .agg ys ∧ eqAll ps xs.toList ys.toList = some r:=by
 unfold eqA at h
 split at h <;> first | contradiction | (rename_i hp; cases hp; exact ⟨_,_,rfl,rfl,h⟩) | (cases h)
section
variable {P : Program} {t : TypeId} (w : World) (D : Nat)
theorem req_bool (hu : P.underlying t = some .bool) (a b : Bool) : (Op.equalIn (D + 1) t (.bool a) (.bool b)).run P w = .ok (a == b) w:=by
 unfold Op.equalIn; rw [Sem.run_bind,run_underlying hu]; rfl
theorem req_str (hu : P.underlying t = some .string) (a b : ByteArray) : (Op.equalIn (D + 1) t (.string a) (.string b)).run P w = .ok (a == b) w:=by
 unfold Op.equalIn; rw [Sem.run_bind,run_underlying hu]; rfl
theorem req_int {k' : IntKind} (hu : P.underlying t = some (.int k')) (k : IntKind) (a b : Int) : (Op.equalIn (D + 1) t (.int k a) (.int k b)).run P w = .ok (a == b) w:=by
 unfold Op.equalIn; rw [Sem.run_bind,run_underlying hu,Result.andThen_ok]
 show (if k = k then (Pure.pure (a == b) : Sem Bool) else _).run P w = _
 rw [if_pos rfl]; rfl
theorem req_ptr1 {el : TypeId} (hu : P.underlying t = some (.pointer el)) (b : Option Addr) : (Op.equalIn (D + 1) t (.pointer none) (.pointer b)).run P w = .ok b.isNone w:=by
 unfold Op.equalIn; rw [Sem.run_bind,run_underlying hu]; cases b <;> rfl
theorem req_ptr2 {el : TypeId} (hu : P.underlying t = some (.pointer el)) (a : Addr) : (Op.equalIn (D + 1) t (.pointer (some a)) (.pointer none)).run P w = .ok false w:=by
 unfold Op.equalIn; rw [Sem.run_bind,run_underlying hu]; rfl
theorem req_sl1 {el : TypeId} (hu : P.underlying t = some (.slice el)) (l c : Nat) (b : Option Addr) (m d : Nat) : (Op.equalIn (D + 1) t (.slice none l c) (.slice b m d)).run P w = .ok b.isNone w:=by
 unfold Op.equalIn; rw [Sem.run_bind,run_underlying hu]; cases b <;> rfl
theorem req_sl2 {el : TypeId} (hu : P.underlying t = some (.slice el)) (a : Addr) (l c m d : Nat) : (Op.equalIn (D + 1) t (.slice (some a) l c) (.slice none m d)).run P w = .ok false w:=by
 unfold Op.equalIn; rw [Sem.run_bind,run_underlying hu]; rfl
theorem req_map1 {k el : TypeId} (hu : P.underlying t = some (.map k el)) (b : Option Nat) : (Op.equalIn (D + 1) t (.map none) (.map b)).run P w = .ok b.isNone w:=by
 unfold Op.equalIn; rw [Sem.run_bind,run_underlying hu]; cases b <;> rfl
theorem req_fn1 {a b : Array TypeId} {c : Bool} (hu : P.underlying t = some (.func a b c)) : (Op.equalIn (D + 1) t .nilFunc .nilFunc).run P w = .ok true w:=by
 unfold Op.equalIn; rw [Sem.run_bind,run_underlying hu]; rfl
theorem req_fn2 {a b : Array TypeId} {c : Bool} (hu : P.underlying t = some (.func a b c)) (f : Fn) (p q : Array Value) : (Op.equalIn (D + 1) t .nilFunc (.func f p q)).run P w = .ok false w:=by
 unfold Op.equalIn; rw [Sem.run_bind,run_underlying hu]; rfl
theorem req_fn3 {a b : Array TypeId} {c : Bool} (hu : P.underlying t = some (.func a b c)) (f : Fn) (p q : Array Value) : (Op.equalIn (D + 1) t (.func f p q) .nilFunc).run P w = .ok false w:=by
 unfold Op.equalIn; rw [Sem.run_bind,run_underlying hu]; rfl
theorem req_if1 {ms : Array (String × TypeId)} (hu : P.underlying t = some (.interface ms)) : (Op.equalIn (D + 1) t .nilIface .nilIface).run P w = .ok true w:=by
 unfold Op.equalIn; rw [Sem.run_bind,run_underlying hu]; rfl
theorem req_if2 {ms : Array (String × TypeId)} (hu : P.underlying t = some (.interface ms)) (u : TypeId) (v : Value) : (Op.equalIn (D + 1) t .nilIface (.iface u v)).run P w = .ok false w:=by
 unfold Op.equalIn; rw [Sem.run_bind,run_underlying hu]; rfl
theorem req_if3 {ms : Array (String × TypeId)} (hu : P.underlying t = some (.interface ms)) (u : TypeId) (v : Value) : (Op.equalIn (D + 1) t (.iface u v) .nilIface).run P w = .ok false w:=by
 unfold Op.equalIn; rw [Sem.run_bind,run_underlying hu]; rfl
end
theorem eqA_sound {P : Program} {ρ : Rho} {w : World} : ∀ (d : Nat) (t : TypeId) (pl : Plan) (D : Nat),planOf P d t = some pl → d ≤ D → ∀ {x y x' y' : Value} {r : Bool},VR ρ x x' → VR ρ y y' → eqA pl x y = some r →
  (Op.equalIn D t x' y').run P w = .ok r w:=by
 intro d
 induction d with
 | zero => intro t pl D h; simp [planOf] at h
 | succ d ih =>
  intro t pl D h hD x y x' y' r hx hy he
  obtain ⟨D,rfl⟩ : ∃ m,D = m + 1:=⟨D - 1,by omega⟩
  simp only [planOf] at h
  cases hu : P.underlying t with
  | none => simp [hu] at h
  | some desc =>
   rw [hu] at h
   cases desc <;> simp only at h
   case bool =>
    cases h
    obtain ⟨a,b,rfl,rfl,rfl⟩:=eqA_bool he
    rw [hx.bool_inv,hy.bool_inv]
    exact req_bool w D hu a b
   case int k =>
    cases h
    obtain ⟨k,a,b,rfl,rfl,rfl⟩:=eqA_int he
    rw [hx.int_inv,hy.int_inv]
    exact req_int w D hu k a b
   case string =>
    cases h
    obtain ⟨a,b,rfl,rfl,rfl⟩:=eqA_str he
    rw [hx.string_inv,hy.string_inv]
    exact req_str w D hu a b
   case pointer el =>
    cases h
    rcases eqA_ptr he with ⟨b,rfl,rfl,rfl⟩ | ⟨a,rfl,rfl,rfl⟩
    ·cases hx
     cases hy <;> exact req_ptr1 w D hu _
    ·cases hy
     cases hx <;> exact req_ptr2 w D hu _
   case slice el =>
    cases h
    rcases eqA_slice he with ⟨l,c,b,m,d,rfl,rfl,rfl⟩ | ⟨a,l,c,m,d,rfl,rfl,rfl⟩
    ·cases hx
     cases hy <;> exact req_sl1 w D hu _ _ _ _ _
    ·cases hy
     cases hx <;> exact req_sl2 w D hu _ _ _ _ _
   case map k el =>
    cases h
    rcases eqA_map he with ⟨b,rfl,rfl,rfl⟩ | ⟨a,rfl,rfl,rfl⟩
    ·cases hx
     cases hy <;> exact req_map1 w D hu _
    ·cases hx
   case func a b c =>
    cases h
    rcases eqA_func he with ⟨rfl,rfl,rfl⟩ | ⟨f,p,q,rfl,rfl,rfl⟩ | ⟨f,p,q,rfl,rfl,rfl⟩
    ·cases hx; cases hy; exact req_fn1 w D hu
    ·cases hx; cases hy <;> exact req_fn2 w D hu _ _ _
    ·cases hy; cases hx <;> exact req_fn3 w D hu _ _ _
   case interface ms =>
    cases h
    rcases eqA_iface he with ⟨rfl,rfl,rfl⟩ | ⟨f,p,rfl,rfl,rfl⟩ | ⟨f,p,rfl,rfl,rfl⟩
    ·cases hx; cases hy; exact req_if1 w D hu
    ·cases hx; cases hy; exact req_if2 w D hu _ _
    ·cases hy; cases hx; exact req_if3 w D hu _ _
   case struct fs =>
    split at h
    ·cases h
    ·rename_i hst
     have hst' : P.stoodInHeld t = false:=by simpa using hst
     cases hp : plansOf P (planOf P d) fs.toList with
     | none => simp [hp] at h
     | some ps =>
      rw [hp] at h
      cases h
      obtain ⟨xs,ys,rfl,rfl,he2⟩:=eqA_node he
      clear he
      have he:=he2
      clear he2
      obtain ⟨xs',rfl,hxs,hox⟩:=hx.agg_list
      obtain ⟨ys',rfl,hys,hoy⟩:=hy.agg_list
      have hfo : P.fieldsOf t = fs:=by simp [Program.fieldsOf,hu]
      rw [run_equalIn_struct w D t xs' ys' (by rw [hfo]; exact hu) hst',hfo]
      clear hu hfo hst hst'
      generalize fs.toList = l at hp ⊢
      revert he
      revert hp
      revert ps
      induction l with
      | nil =>
       intro ps hp he
       simp [plansOf] at hp
       subst hp
       simp [eqAll] at he
       subst he
       simp [Op.eqFields]
      | cons f fs ihl =>
       intro ps hp he
       simp only [plansOf] at hp
       split at hp
       ·rename_i hnm
        simp only [Op.eqFields,hnm,ne_eq,not_true_eq_false,if_false]
        exact ihl ps hp he
       ·rename_i hnm
        split at hp
        ·rename_i p rest h1 h2
         have key : ∀ n,ps = (f.offset,n,p) :: rest → n = (if isAggB P f.type then sizeB P f.type else none) → (isAggB P f.type = true → (sizeB P f.type).isSome) → (Op.eqFields D xs' ys' (f :: fs)).run P w = .ok r w:=by
          intro n hps hn hsz
          subst hps
          simp only [eqAll] at he
          have hut : (P.underlying f.type).isSome:=by
           cases hq : P.underlying f.type with
           | none => cases d <;> simp [planOf,hq] at h1
           | some _ => rfl
          split at he
          ·rename_i u v hu hv
           obtain ⟨u',hu1,hu2⟩:=part_rel (P:=P) (w:=w) (t:=f.type) hxs hox hu hn hsz hut
           obtain ⟨v',hv1,hv2⟩:=part_rel (P:=P) (w:=w) (t:=f.type) hys hoy hv hn hsz hut
           split at he
           ·rename_i hq
            have:=ih f.type p D h1 (by omega) hu2 hv2 hq
            simp only [Op.eqFields,ne_eq,hnm,not_false_eq_true,if_true,Sem.run_bind,hu1,hv1,this,Result.andThen_ok]
            simpa using ihl rest h2 he
           ·rename_i hq
            cases he
            have:=ih f.type p D h1 (by omega) hu2 hv2 hq
            simp [Op.eqFields,hnm,hu1,hv1,this]
           ·cases he
          ·cases he
         split at hp
         ·rename_i hag
          cases hz : sizeB P f.type with
          | none => simp [hz] at hp
          | some m =>
           simp [hz] at hp
           exact key (some m) hp.symm (by simp [hag,hz]) (by simp [hz])
         ·rename_i hag
          simp at hp
          exact key none hp.symm (by simp [hag]) (fun h => absurd h hag)
        ·cases hp
   all_goals cases h
end Go.Abs
