/-
  THE ABSTRACT LAYER (22): which rules the walks take by themselves.
-/
import Derived.Test.YtjcncbejnplakaaA21
import Derived.IntWalk
set_option linter.unusedSimpArgs false
set_option linter.unusedVariables false
namespace Go.Abs
open Go

@[simp] theorem upd_apply {env : Env} {t s : Nat} {v : Value} : upd env t v s = if s = t then some v else env s := Eq.trans rfl rfl

@[simp] theorem eqs_bool {a b : Bool} : eqA .bool (.bool a) (.bool b) = some (a == b) := Eq.trans rfl rfl
@[simp] theorem eqs_int {k : IntKind} {a b : Int} : eqA .int (.int k a) (.int k b) = some (a == b) := by simp [eqA]
@[simp] theorem eqs_str {a b : ByteArray} : eqA .str (.string a) (.string b) = some (a == b) := Eq.trans rfl rfl
@[simp] theorem eqs_ptr1 {b : Option Addr} : eqA .ptr (.pointer none) (.pointer b) = some b.isNone := Eq.trans rfl rfl
@[simp] theorem eqs_ptr2 {a : Addr} : eqA .ptr (.pointer (some a)) (.pointer none) = some false := Eq.trans rfl rfl
@[simp] theorem eqs_nilSlice1 {n c m d : Nat} {b : Option Addr} : eqA .nilSlice (.slice none n c) (.slice b m d) = some b.isNone := Eq.trans rfl rfl
@[simp] theorem eqs_nilSlice2 {n c m d : Nat} {a : Addr} : eqA .nilSlice (.slice (some a) n c) (.slice none m d) = some false := Eq.trans rfl rfl
@[simp] theorem eqs_nilMap1 {b : Option Nat} : eqA .nilMap (.map none) (.map b) = some b.isNone := Eq.trans rfl rfl
@[simp] theorem eqs_nilMap2 {a : Nat} : eqA .nilMap (.map (some a)) (.map none) = some false := Eq.trans rfl rfl
@[simp] theorem eqs_nilFunc1 : eqA .nilFunc .nilFunc .nilFunc = some true := Eq.trans rfl rfl
@[simp] theorem eqs_nilFunc2 {f : Fn} {p q : Array Value} : eqA .nilFunc (.func f p q) .nilFunc = some false := Eq.trans rfl rfl
@[simp] theorem eqs_nilFunc3 {f : Fn} {p q : Array Value} : eqA .nilFunc .nilFunc (.func f p q) = some false := Eq.trans rfl rfl
@[simp] theorem eqs_iface1 : eqA .iface .nilIface .nilIface = some true := Eq.trans rfl rfl
@[simp] theorem eqs_iface2 {t : TypeId} {v : Value} : eqA .iface .nilIface (.iface t v) = some false := Eq.trans rfl rfl
@[simp] theorem eqs_iface3 {t : TypeId} {v : Value} : eqA .iface (.iface t v) .nilIface = some false := Eq.trans rfl rfl
@[simp] theorem eqs_node {ps : List (Nat × Option Nat × Plan)} {a b : Array Value} : eqA (.node ps) (.agg a) (.agg b) = eqAll ps a.toList b.toList := Eq.trans rfl rfl
@[simp] theorem eqAll_nil {a b : List Value} : eqAll [] a b = some true := Eq.trans rfl rfl
def eqNext (ps : List (Nat × Option Nat × Plan)) (xs ys : List Value) : Option Bool → Option Bool
  | some true => eqAll ps xs ys
  | some false => some false
  | none => none
@[simp] theorem eqNext_some {ps : List (Nat × Option Nat × Plan)} {a b : List Value} {t : Bool} : eqNext ps a b (some t) = if t = true then eqAll ps a b else some false := by cases t <;> simp [eqNext]
theorem eqAll_cons1 {off : Nat} {n : Option Nat} {pl : Plan} {ps : List (Nat × Option Nat × Plan)} {xs ys : List Value} {x y : Value} (h1 : partA xs off n = some x) (h2 : partA ys off n = some y) : eqAll ((off, n, pl) :: ps) xs ys = eqNext ps xs ys (eqA pl x y) := by
  simp only [eqAll, h1, h2]
  unfold eqNext
  cases eqA pl x y with
  | none => rfl
  | some b => cases b <;> rfl

@[simp] theorem cellsOf_int {k : IntKind} {n : Int} : cellsOf (.int k n) = some [.int k n] := Eq.trans rfl rfl
@[simp] theorem one_int {k : IntKind} {n : Int} : one (.int k n) = true := Eq.trans rfl rfl
@[simp] theorem cellsOf_bool {b : Bool} : cellsOf (.bool b) = some [.bool b] := Eq.trans rfl rfl
@[simp] theorem one_bool {b : Bool} : one (.bool b) = true := Eq.trans rfl rfl
@[simp] theorem cellsOf_string {s : ByteArray} : cellsOf (.string s) = some [.string s] := Eq.trans rfl rfl
@[simp] theorem one_string {s : ByteArray} : one (.string s) = true := Eq.trans rfl rfl
@[simp] theorem cellsOf_pointer {a : Option Addr} : cellsOf (.pointer a) = some [.pointer a] := Eq.trans rfl rfl
@[simp] theorem one_pointer {a : Option Addr} : one (.pointer a) = true := Eq.trans rfl rfl
@[simp] theorem cellsOf_slice {a : Option Addr} {n c : Nat} : cellsOf (.slice a n c) = some [.slice a n c] := Eq.trans rfl rfl
@[simp] theorem one_slice {a : Option Addr} {n c : Nat} : one (.slice a n c) = true := Eq.trans rfl rfl
@[simp] theorem cellsOf_map {a : Option Nat} : cellsOf (.map a) = some [.map a] := Eq.trans rfl rfl
@[simp] theorem one_map {a : Option Nat} : one (.map a) = true := Eq.trans rfl rfl
@[simp] theorem cellsOf_func {f : Fn} {p q : Array Value} : cellsOf (.func f p q) = some [.func f p q] := Eq.trans rfl rfl
@[simp] theorem one_func {f : Fn} {p q : Array Value} : one (.func f p q) = true := Eq.trans rfl rfl
@[simp] theorem cellsOf_nilFunc  : cellsOf (.nilFunc) = some [.nilFunc] := Eq.trans rfl rfl
@[simp] theorem one_nilFunc  : one (.nilFunc) = true := Eq.trans rfl rfl
@[simp] theorem cellsOf_nilIface  : cellsOf (.nilIface) = some [.nilIface] := Eq.trans rfl rfl
@[simp] theorem one_nilIface  : one (.nilIface) = true := Eq.trans rfl rfl
@[simp] theorem cellsOf_iface {t : TypeId} {v : Value} : cellsOf (.iface t v) = some [.iface t v] := Eq.trans rfl rfl
@[simp] theorem one_iface {t : TypeId} {v : Value} : one (.iface t v) = true := Eq.trans rfl rfl
@[simp] theorem cellsOf_agg {cs : Array Value} : cellsOf (.agg cs) = some cs.toList := Eq.trans rfl rfl
theorem cellsOf_one {v : Value} (h : one v = true) : cellsOf v = some [v] := by cases v <;> first | rfl | cases h

attribute [simp] List.getElem?_cons_zero List.getElem?_cons_succ
attribute [simp] ieval aval avals abin aun resOf fillA asIntA boundA boundsA partA

@[simp] theorem ressOf_cons {env : Env} {H : AH} {r : ARes} {rs : List ARes} : ressOf env H (r :: rs) = match resOf env H r, ressOf env H rs with
    | some v, some vs => some (v :: vs)
    | _, _ => none := rfl

theorem int_beq (a b : Int) : (a == b) = decide (a = b) := by by_cases h : a = b <;> simp [h]
theorem int_bne (a b : Int) : (a != b) = decide (a ≠ b) := by by_cases h : a = b <;> simp [h]
attribute [simp] int_beq int_bne

@[simp] theorem over_nil {cs : List Value} : over cs 0 [] = cs := by simp [over]
@[simp] theorem over_zero {c n : Value} {cs ns : List Value} : over (c :: cs) 0 (n :: ns) = n :: over cs 0 ns := by simp [over]
@[simp] theorem over_cons {c : Value} {cs ns : List Value} {k : Nat} : over (c :: cs) (k + 1) ns = c :: over cs k ns := by simp [over, Nat.add_right_comm k 1]

theorem AFnD.of {P : Program} {f : FuncId} {vs : List Value} {H : AH} {K : Value → AH → Prop} {v : Value} (h : AFn P f vs H fun u H' => u = v ∧ H' = H) (hk : K v H) : AFnD P f vs H K :=
  h.mono fun u H' hu => by obtain ⟨rfl, rfl⟩ := hu; exact ⟨fun _ _ h => h, hk⟩
/-- A call in a region that draws: it may make new blocks. -/
theorem AFnD.from {P : Program} {f : FuncId} {vs : List Value} {H : AH} {K Q : Value → AH → Prop} (h : AFn P f vs H Q) (hq : ∀ v H', WF H' → Q v H' → Grow H H' ∧ K v H') : AFnD P f vs H K := h.mono' hq
theorem Keep.grow {H H' : AH} (hk : Keep [] H H') (hw : WF H) : Grow H H' := fun b B hB => by rw [hk.blk b (hw.lt hB) (by simp), hB]
theorem AFn.pure {P : Program} {f : FuncId} {vs : List Value} {H : AH} {K : Value → AH → Prop} {v : Value} (h : AFn P f vs H fun u H' => u = v ∧ H' = H) (hk : K v H) : AFn P f vs H K :=
  h.mono fun u H' hu => by obtain ⟨rfl, rfl⟩ := hu; exact hk

end Go.Abs
