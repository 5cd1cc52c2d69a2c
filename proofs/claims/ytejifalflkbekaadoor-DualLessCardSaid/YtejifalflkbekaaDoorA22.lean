/-
  THE ABSTRACT LAYER (20): rules by which code is walked on the abstract side: one rewriting rule for each small operation and each form of code; loops; what a step leaves alone.
-/
import Derived.Test.YtejifalflkbekaaDoorA19
import Derived.IntWalk
import Derived.WalkKit
import Derived.ProofKit
import Derived.OpenShut
import Derived.Carry
import Derived.ChangeArms
set_option linter.unusedSimpArgs false
set_option linter.unusedVariables false
namespace Go.Abs
open Go
theorem AFn.mono' {P : Program} {f : FuncId} {args : List Value} {H : AH} {Q Q' : Value → AH → Prop} (h : AFn P f args H Q) (hq : ∀ v H',WF H' → Q v H' → Q' v H') : AFn P f args H Q' :=
 fun B0 ρ w args' hs ha => (h B0 ρ w args' hs ha).mono fun _ _ ⟨v',v,H',ρ',h1,h2,hu,h3,h4⟩ => ⟨v',v,H',ρ',h1,h2,hu,h3,hq _ _ h2.sim.wf h4⟩
theorem AFn.mono_next {P : Program} {f : FuncId} {args : List Value} {H : AH} {Q Q' : Value → AH → Prop} (h : AFn P f args H Q) (hq : ∀ v H',WF H' → H.next ≤ H'.next → Q v H' → Q' v H') : AFn P f args H Q' :=
 fun B0 ρ w args' hs ha => (h B0 ρ w args' hs ha).mono fun _ _ ⟨v',v,H',ρ',h1,h2,hu,h3,h4⟩ => ⟨v',v,H',ρ',h1,h2,hu,h3,hq _ _ h2.sim.wf hu.next h4⟩
theorem AFn.wf {P : Program} {f : FuncId} {args : List Value} {H : AH} {Q : Value → AH → Prop} (h : WF H → AFn P f args H Q) : AFn P f args H Q :=
 fun B0 ρ w args' hs ha => h hs.wf B0 ρ w args' hs ha
def argsEnv : Nat → List Value → Env
 | _,[] => fun _ => none
 | k,v :: vs => upd (argsEnv (k + 1) vs) k v
theorem argsEnv_get : ∀ (vs : List Value) (k t : Nat),argsEnv k vs t = if k ≤ t then vs[t - k]? else none
 | [],k,t => by simp [argsEnv]
 | v :: vs,k,t => by
  simp only [argsEnv,upd]
  by_cases h : t = k
  ·subst h; simp
  ·rw [if_neg h,argsEnv_get vs (k + 1) t]
   by_cases hk : k ≤ t
   ·rw [if_pos (by omega),if_pos hk,show t - k = (t - (k + 1)) + 1 by omega,List.getElem?_cons_succ]
   ·rw [if_neg (by omega),if_neg hk]
theorem argsEnv_eq (vs : List Value) : argsEnv 0 vs = fun t => vs[t]?:=by funext t; rw [argsEnv_get]; simp
@[simp] theorem argsEnv_nil {k : Nat} : argsEnv k [] = fun _ => none:=Eq.trans rfl rfl
@[simp] theorem argsEnv_cons {k : Nat} {v : Value} {vs : List Value} : argsEnv k (v :: vs) = upd (argsEnv (k + 1) vs) k v:=Eq.trans rfl rfl
theorem AFn.enter {P : Program} (hm : P.follows .mixedOrders = true) {f : FuncId} {F : AFunc} {args : List Value} {H : AH} {Q : Value → AH → Prop} (hF : compF P f = some F) (hl : (decide (args.length ≤ F.n)) = true)
  (h : WF H → wpC P F.n F.code (bodyK F.results Q) (argsEnv 0 args) H) : AFn P f args H Q :=
 AFn.wf fun hw => AFn.intro hm hF (of_decide_eq_true hl) (by rw [← argsEnv_eq]; exact h hw)
def andThen (o : Option (Value × AH)) (k : Value → AH → Prop) : Prop :=
 match o with
 | some (v,H) => k v H
 | none => False
@[simp] theorem andThen_some {v : Value} {H : AH} {k : Value → AH → Prop} : andThen (some (v,H)) k = k v H:=Eq.trans rfl rfl
def restK (P : Program) (dr : Bool) (K : Env → AH → Prop) (rest : List AOper) (env : Env) (d : Option Nat) : Value → AH → Prop:=fun u H' => wpO P dr K rest (put env d u) H'
@[simp] theorem restK_app {P : Program} {dr : Bool} {K : Env → AH → Prop} {rest : List AOper} {env : Env} {d : Option Nat} {u : Value} {H : AH} : restK P dr K rest env d u H = wpO P dr K rest (put env d u) H:=Eq.trans rfl rfl
def guardK (P : Program) (dr : Bool) (K : Env → AH → Prop) (rest : List AOper) (env : Env) (H : AH) (d : Option Nat) (op : IOp) (b : Bool) (o : Option Value) : Prop :=
 match o with
 | some (.bool t) => if t == b then wpO P dr K (⟨d,op,none⟩ :: rest) env H else wpO P dr K rest (put env d undef) H
 | some _ => wpO P dr K rest (put env d undef) H
 | none => False
@[simp] theorem guardK_tt {P : Program} {dr : Bool} {K : Env → AH → Prop} {rest : List AOper} {env : Env} {H : AH} {d : Option Nat} {op : IOp} : guardK P dr K rest env H d op true (some (.bool true)) = wpO P dr K (⟨d,op,none⟩ :: rest) env H:=by simp [guardK]
@[simp] theorem guardK_ff {P : Program} {dr : Bool} {K : Env → AH → Prop} {rest : List AOper} {env : Env} {H : AH} {d : Option Nat} {op : IOp} : guardK P dr K rest env H d op false (some (.bool false)) = wpO P dr K (⟨d,op,none⟩ :: rest) env H:=by simp [guardK]
@[simp] theorem guardK_tf {P : Program} {dr : Bool} {K : Env → AH → Prop} {rest : List AOper} {env : Env} {H : AH} {d : Option Nat} {op : IOp} : guardK P dr K rest env H d op true (some (.bool false)) = wpO P dr K rest (put env d undef) H:=by simp [guardK]
@[simp] theorem guardK_ft {P : Program} {dr : Bool} {K : Env → AH → Prop} {rest : List AOper} {env : Env} {H : AH} {d : Option Nat} {op : IOp} : guardK P dr K rest env H d op false (some (.bool true)) = wpO P dr K rest (put env d undef) H:=by simp [guardK]
def callK (P : Program) (K : Env → AH → Prop) (rest : List AOper) (env : Env) (H : AH) (d : Option Nat) (o : Option Value) (vs : Option (List Value)) : Prop :=
 match o,vs with
 | some v,some vs => ACall P v vs H (restK P false K rest env d)
 | _,_ => False
@[simp] theorem callK_some {P : Program} {K : Env → AH → Prop} {rest : List AOper} {env : Env} {H : AH} {d : Option Nat} {v : Value} {vs : List Value} : callK P K rest env H d (some v) (some vs) = ACall P v vs H (restK P false K rest env d):=Eq.trans rfl rfl
def ACallD (P : Program) (fv : Value) (vs : List Value) (H : AH) (K : Value → AH → Prop) : Prop:=ACall P fv vs H fun v H' => Grow H H' ∧ K v H'
def AFnD (P : Program) (f : FuncId) (vs : List Value) (H : AH) (K : Value → AH → Prop) : Prop:=AFn P f vs H fun v H' => Grow H H' ∧ K v H'
def callD (P : Program) (K : Env → AH → Prop) (rest : List AOper) (env : Env) (H : AH) (d : Option Nat) (o : Option Value) (vs : Option (List Value)) : Prop :=
 match o,vs with
 | some v,some vs => ACallD P v vs H (restK P true K rest env d)
 | _,_ => False
@[simp] theorem callD_some {P : Program} {K : Env → AH → Prop} {rest : List AOper} {env : Env} {H : AH} {d : Option Nat} {v : Value} {vs : List Value} : callD P K rest env H d (some v) (some vs) = ACallD P v vs H (restK P true K rest env d):=Eq.trans rfl rfl
def condK (P : Program) (n : Nat) (a b : ACode) (Q : AExit → Env → AH → Prop) (env : Env) (H : AH) (o : Option Value) : Prop :=
 match o with
 | some (.bool t) => if t then wpC P n a Q env H else wpC P n b Q env H
 | _ => False
section
variable {P : Program} {n : Nat} {a b : ACode} {Q : AExit → Env → AH → Prop} {env : Env} {H : AH}
@[simp] theorem condK_true : condK P n a b Q env H (some (.bool true)) = wpC P n a Q env H:=by simp [condK]
@[simp] theorem condK_false : condK P n a b Q env H (some (.bool false)) = wpC P n b Q env H:=by simp [condK]
theorem condK_of {t : Bool} (h1 : t = true → wpC P n a Q env H) (h2 : t = false → wpC P n b Q env H) : condK P n a b Q env H (some (.bool t)):=by
 cases t <;> simp [h1,h2]
end
def isCall : IOp → Bool
 | .call _ _ => true
 | .invoke _ _ _ => true
 | _ => false
section
variable {P : Program} {dr : Bool} {K : Env → AH → Prop} {rest : List AOper} {env : Env} {H : AH}
theorem wpO_op {d : Option Nat} {op : IOp} (h : isCall op = false) : wpO P dr K (⟨d,op,none⟩ :: rest) env H = andThen (ieval op env H) (restK P dr K rest env d):=by
 cases op <;> first | (cases h; done) | rfl
theorem stepA_guard {d : Option Nat} {op : IOp} {t : Nat} {b : Bool} : wpO P dr K (⟨d,op,some (t,b)⟩ :: rest) env H = guardK P dr K rest env H d op b (env t):=by
 show stepA P dr ⟨d,op,some (t,b)⟩ (wpO P dr K rest) env H = _
 have hg : guardA env (some (t,b)) = match env t with
  | some (.bool c) => some (c == b)
  | some _ => some false
  | none => none:=rfl
 have h0 : ∀ (K : Env → AH → Prop) g,stepA P dr ⟨d,op,some g⟩ K env H = match guardA env (some g) with
  | none => False
  | some false => K (put env d undef) H
  | some true => stepA P dr ⟨d,op,none⟩ K env H:=by
  intro K g
  unfold stepA
  cases guardA env (some g) with
  | none => rfl
  | some x => cases x <;> rfl
 have h1 : stepA P dr ⟨d,op,none⟩ (wpO P dr K rest) env H = wpO P dr K (⟨d,op,none⟩ :: rest) env H:=rfl
 rw [h0,hg,h1]
 unfold guardK
 generalize wpO P dr K (⟨d,op,none⟩ :: rest) env H = p
 generalize env t = o
 cases o with
 | none => rfl
 | some v =>
  cases v <;> simp only []
  rename_i c
  cases hc : (c == b) <;> simp
attribute [simp] stepA_guard
@[simp] theorem wpO_call {d : Option Nat} {f : Operand} {args : List Operand} : wpO P false K (⟨d,.call f args,none⟩ :: rest) env H = callK P K rest env H d (aval env f) (avals env args):=by
  have h0 : wpO P false K (⟨d,.call f args,none⟩ :: rest) env H = match aval env f,avals env args with
    | some fv,some vs => ACall P fv vs H fun v H' => wpO P false K rest (put env d v) H'
    | _,_ => False:=rfl
  rw [h0]
  unfold callK
  cases aval env f <;> cases avals env args <;> rfl
@[simp] theorem wpO_calld {d : Option Nat} {f : Operand} {args : List Operand} : wpO P true K (⟨d,.call f args,none⟩ :: rest) env H = callD P K rest env H d (aval env f) (avals env args):=by
  have h0 : wpO P true K (⟨d,.call f args,none⟩ :: rest) env H = match aval env f,avals env args with
    | some fv,some vs => ACall P fv vs H fun v H' => Grow H H' ∧ wpO P true K rest (put env d v) H'
    | _,_ => False:=rfl
  rw [h0]
  unfold callD
  cases aval env f <;> cases avals env args <;> rfl
@[simp] theorem wpO_nil : wpO P dr K [] env H = K env H:=Eq.trans rfl rfl
theorem ACall_fn {f : FuncId} {vs : List Value} {Q : Value → AH → Prop} (hg : goodFunc P f = true) : ACall P (.func (.func f) #[] #[]) vs H Q = AFn P f vs H Q:=by
 simp [ACall,good_ext hg,hg]
theorem ACallD_fn {f : FuncId} {vs : List Value} {Q : Value → AH → Prop} (hg : goodFunc P f = true) : ACallD P (.func (.func f) #[] #[]) vs H Q = AFnD P f vs H Q:=by
 simp [ACallD,AFnD,ACall,good_ext hg,hg]
@[simp] theorem wpO_mv {d : Option Nat}  {x} : wpO P dr K (⟨d,.mv x,none⟩ :: rest) env H = andThen (ieval (.mv x) env H) (restK P dr K rest env d):=wpO_op rfl
@[simp] theorem wpO_pick {d : Option Nat}  {c} {a} {b} : wpO P dr K (⟨d,.pick c a b,none⟩ :: rest) env H = andThen (ieval (.pick c a b) env H) (restK P dr K rest env d):=wpO_op rfl
@[simp] theorem wpO_new {d : Option Nat}  {e} {z} : wpO P dr K (⟨d,.new e z,none⟩ :: rest) env H = andThen (ieval (.new e z) env H) (restK P dr K rest env d):=wpO_op rfl
@[simp] theorem wpO_box {d : Option Nat}  {e} {x} : wpO P dr K (⟨d,.box e x,none⟩ :: rest) env H = andThen (ieval (.box e x) env H) (restK P dr K rest env d):=wpO_op rfl
@[simp] theorem wpO_build {d : Option Nat}  {z} {p} : wpO P dr K (⟨d,.build z p,none⟩ :: rest) env H = andThen (ieval (.build z p) env H) (restK P dr K rest env d):=wpO_op rfl
@[simp] theorem wpO_bslice {d : Option Nat}  {e} {l} {z} {p} : wpO P dr K (⟨d,.bslice e l z p,none⟩ :: rest) env H = andThen (ieval (.bslice e l z p) env H) (restK P dr K rest env d):=wpO_op rfl
@[simp] theorem wpO_load1 {d : Option Nat}  {a} : wpO P dr K (⟨d,.load1 a,none⟩ :: rest) env H = andThen (ieval (.load1 a) env H) (restK P dr K rest env d):=wpO_op rfl
@[simp] theorem wpO_loadN {d : Option Nat}  {n} {a} : wpO P dr K (⟨d,.loadN n a,none⟩ :: rest) env H = andThen (ieval (.loadN n a) env H) (restK P dr K rest env d):=wpO_op rfl
@[simp] theorem wpO_store1 {d : Option Nat}  {a} {v} : wpO P dr K (⟨d,.store1 a v,none⟩ :: rest) env H = andThen (ieval (.store1 a v) env H) (restK P dr K rest env d):=wpO_op rfl
@[simp] theorem wpO_storeN {d : Option Nat}  {n} {a} {v} : wpO P dr K (⟨d,.storeN n a v,none⟩ :: rest) env H = andThen (ieval (.storeN n a v) env H) (restK P dr K rest env d):=wpO_op rfl
@[simp] theorem wpO_bin {d : Option Nat}  {o} {x} {y} : wpO P dr K (⟨d,.bin o x y,none⟩ :: rest) env H = andThen (ieval (.bin o x y) env H) (restK P dr K rest env d):=wpO_op rfl
@[simp] theorem wpO_eqv {d : Option Nat}  {g} {p} {x} {y} : wpO P dr K (⟨d,.eqv g p x y,none⟩ :: rest) env H = andThen (ieval (.eqv g p x y) env H) (restK P dr K rest env d):=wpO_op rfl
@[simp] theorem wpO_un {d : Option Nat}  {o} {x} : wpO P dr K (⟨d,.un o x,none⟩ :: rest) env H = andThen (ieval (.un o x) env H) (restK P dr K rest env d):=wpO_op rfl
@[simp] theorem wpO_conv {d : Option Nat}  {k} {x} : wpO P dr K (⟨d,.conv k x,none⟩ :: rest) env H = andThen (ieval (.conv k x) env H) (restK P dr K rest env d):=wpO_op rfl
@[simp] theorem wpO_faddr {d : Option Nat}  {o} {x} : wpO P dr K (⟨d,.faddr o x,none⟩ :: rest) env H = andThen (ieval (.faddr o x) env H) (restK P dr K rest env d):=wpO_op rfl
@[simp] theorem wpO_idxS {d : Option Nat}  {s} {x} {i} : wpO P dr K (⟨d,.idxS s x i,none⟩ :: rest) env H = andThen (ieval (.idxS s x i) env H) (restK P dr K rest env d):=wpO_op rfl
@[simp] theorem wpO_sl {d : Option Nat}  {s} {x} {l} {h} {m} : wpO P dr K (⟨d,.sl s x l h m,none⟩ :: rest) env H = andThen (ieval (.sl s x l h m) env H) (restK P dr K rest env d):=wpO_op rfl
@[simp] theorem wpO_mks {d : Option Nat}  {e} {b} {z} {l} {c} : wpO P dr K (⟨d,.mks e b z l c,none⟩ :: rest) env H = andThen (ieval (.mks e b z l c) env H) (restK P dr K rest env d):=wpO_op rfl
@[simp] theorem wpO_ext {d : Option Nat}  {x} {i} : wpO P dr K (⟨d,.ext x i,none⟩ :: rest) env H = andThen (ieval (.ext x i) env H) (restK P dr K rest env d):=wpO_op rfl
@[simp] theorem wpO_len {d : Option Nat}  {x} : wpO P dr K (⟨d,.len x,none⟩ :: rest) env H = andThen (ieval (.len x) env H) (restK P dr K rest env d):=wpO_op rfl
@[simp] theorem wpO_app {d : Option Nat}  {e} {s} {b} {x} {y} : wpO P dr K (⟨d,.app e s b x y,none⟩ :: rest) env H = andThen (ieval (.app e s b x y) env H) (restK P dr K rest env d):=wpO_op rfl
@[simp] theorem wpO_mx {d : Option Nat}  {x} {y} : wpO P dr K (⟨d,.mx x y,none⟩ :: rest) env H = andThen (ieval (.mx x y) env H) (restK P dr K rest env d):=wpO_op rfl
@[simp] theorem wpO_mn {d : Option Nat}  {x} {y} : wpO P dr K (⟨d,.mn x y,none⟩ :: rest) env H = andThen (ieval (.mn x y) env H) (restK P dr K rest env d):=wpO_op rfl
variable {n : Nat} {Q : AExit → Env → AH → Prop}
def nextK (P : Program) (n : Nat) (b : ACode) (Q : AExit → Env → AH → Prop) (e : AExit) (env : Env) (H : AH) : Prop :=
 match e with
 | .normal => wpC P n b Q env H
 | e => Q e env H
@[simp] theorem nextK_normal {b : ACode} : nextK P n b Q .normal env H = wpC P n b Q env H:=Eq.trans rfl rfl
@[simp] theorem nextK_exit {b : ACode} {i : Nat} : nextK P n b Q (.exit i) env H = Q (.exit i) env H:=Eq.trans rfl rfl
@[simp] theorem nextK_ret {b : ACode} : nextK P n b Q .ret env H = Q .ret env H:=Eq.trans rfl rfl
def blockK (id : Nat) (Q : AExit → Env → AH → Prop) (e : AExit) (env : Env) (H : AH) : Prop :=
 match e with
 | .exit i => if i = id then Q .normal env H else Q (.exit i) env H
 | e => Q e env H
@[simp] theorem blockK_normal {id : Nat} : blockK id Q .normal env H = Q .normal env H:=Eq.trans rfl rfl
@[simp] theorem blockK_exit_same {id : Nat} : blockK id Q (.exit id) env H = Q .normal env H:=by simp [blockK]
@[simp] theorem blockK_exit {id i : Nat} (h : i ≠ id) : blockK id Q (.exit i) env H = Q (.exit i) env H:=by simp [blockK,h]
@[simp] theorem blockK_ret {id : Nat} : blockK id Q .ret env H = Q .ret env H:=Eq.trans rfl rfl
@[simp] theorem wpC_skip : wpC P n .skip Q env H = Q .normal env H:=Eq.trans rfl rfl
@[simp] theorem wpC_region {ops : List AOper} {dr : Bool} : wpC P n (.region ops dr) Q env H = wpO P dr (Q .normal) ops env H:=Eq.trans rfl rfl
@[simp] theorem wpC_seq {a b : ACode} : wpC P n (.seq a b) Q env H = wpC P n a (nextK P n b Q) env H:=by
  have : nextK P n b Q = fun e env H => match e with
   | .normal => wpC P n b Q env H
   | e => Q e env H:=by funext e env H; cases e <;> rfl
  rw [this]; rfl
@[simp] theorem wpC_cond {c : Operand} {a b : ACode} : wpC P n (.cond c a b) Q env H = condK P n a b Q env H (aval env c):=by
  simp only [wpC]; unfold condK; split <;> (try split) <;> simp_all
@[simp] theorem wpC_block {id : Nat} {a : ACode} : wpC P n (.block id a) Q env H = wpC P n a (blockK id Q) env H:=by
  have : blockK id Q = fun e env H => match e with
   | .exit i => if i = id then Q .normal env H else Q (.exit i) env H
   | e => Q e env H:=by funext e env H; cases e <;> rfl
  rw [this]; rfl
@[simp] theorem wpC_exit {id : Nat} : wpC P n (.exit id) Q env H = Q (.exit id) env H:=Eq.trans rfl rfl
@[simp] theorem wpC_ret : wpC P n .ret Q env H = Q .ret env H:=Eq.trans rfl rfl
def resK (o : Option (List Value)) (Q : Value → AH → Prop) (H : AH) : Prop :=
 match o with
 | some vs => Q (retV vs) H
 | none => False
@[simp] theorem resK_some {vs : List Value} {Q : Value → AH → Prop} : resK (some vs) Q H = Q (retV vs) H:=Eq.trans rfl rfl
@[simp] theorem bodyK_ret {rs : List ARes} {Q : Value → AH → Prop} : bodyK rs Q .ret env H = resK (ressOf env H rs) Q H:=by
  simp only [bodyK,resK]; split <;> simp_all
@[simp] theorem retV_one {v : Value} : retV [v] = v:=Eq.trans rfl rfl
@[simp] theorem retV_two {v w : Value} {vs : List Value} : retV (v :: w :: vs) = .tuple (v :: w :: vs).toArray:=Eq.trans rfl rfl
@[simp] theorem ressOf_nil : ressOf env H [] = some []:=Eq.trans rfl rfl
@[simp] theorem put_some {t : Nat} {v : Value} : put env (some t) v = upd env t v:=Eq.trans rfl rfl
@[simp] theorem put_none {v : Value} : put env none v = env:=Eq.trans rfl rfl
@[simp] theorem AH.alloc_next {B : Blk} : (H.alloc B).next = H.next + 1:=Eq.trans rfl rfl
@[simp] theorem AH.set_next {b : Nat} {B : Blk} : (H.set b B).next = H.next:=Eq.trans rfl rfl
@[simp] theorem AH.kill_next {b : Nat} : (H.kill b).next = H.next:=Eq.trans rfl rfl
@[simp] theorem AH.alloc_blk {B : Blk} {b : Nat} : (H.alloc B).blk b = if b = H.next then some B else H.blk b:=Eq.trans rfl rfl
@[simp] theorem AH.set_blk {B : Blk} {a b : Nat} : (H.set a B).blk b = if b = a then some B else H.blk b:=Eq.trans rfl rfl
theorem AH.alloc_blk_new {B : Blk} : (H.alloc B).blk H.next = some B:=by simp [AH.alloc]
theorem AH.alloc_blk_ne {B : Blk} {b : Nat} (h : b ≠ H.next) : (H.alloc B).blk b = H.blk b:=by simp [AH.alloc,h]
theorem AH.set_blk_same {B : Blk} {b : Nat} : (H.set b B).blk b = some B:=by simp [AH.set]
theorem AH.set_blk_ne {B : Blk} {a b : Nat} (h : b ≠ a) : (H.set a B).blk b = H.blk b:=by simp [AH.set,h]
theorem AH.kill_blk_ne {a b : Nat} (h : b ≠ a) : (H.kill a).blk b = H.blk b:=by simp [AH.kill,h]
theorem AH.cells_alloc_new {cs : List Value} {e : TypeId} {wr : Bool} : (H.alloc (.row cs e wr)).cells H.next = some cs:=by simp [AH.cells]
theorem AH.cells_set_same {cs : List Value} {e : TypeId} {wr : Bool} {b : Nat} : (H.set b (.row cs e wr)).cells b = some cs:=by simp [AH.cells]
theorem AH.cells_set_ne {B : Blk} {a b : Nat} (h : b ≠ a) : (H.set a B).cells b = H.cells b:=by simp [AH.cells,h]
@[simp] theorem AH.cells_alloc {cs : List Value} {e : TypeId} {wr : Bool} {b : Nat} : (H.alloc (.row cs e wr)).cells b = if b = H.next then some cs else H.cells b:=by
  simp only [AH.cells,AH.alloc]; by_cases h : b = H.next <;> simp [h]
@[simp] theorem AH.cells_set {cs : List Value} {e : TypeId} {wr : Bool} {a b : Nat} : (H.set a (.row cs e wr)).cells b = if b = a then some cs else H.cells b:=by
  simp only [AH.cells,AH.set]; by_cases h : b = a <;> simp [h]
theorem AH.cells_of {b : Nat} {cs : List Value} {e : TypeId} {wr : Bool} (h : H.blk b = some (.row cs e wr)) : H.cells b = some cs:=by simp [AH.cells,h]
theorem writeA_of {b off : Nat} {cs news : List Value} {e : TypeId} (h : H.blk b = some (.row cs e true)) (hl : off + news.length ≤ cs.length) : writeA H b off news = some (H.set b (.row (over cs off news) e true)):=by
 simp [writeA,h,hl]
theorem writeA_row {b off : Nat} {cs news : List Value} {e : TypeId} (h : H.blk b = some (.row cs e true)) : writeA H b off news = if off + news.length ≤ cs.length then some (H.set b (.row (over cs off news) e true)) else none:=by
 simp [writeA,h]
@[simp] theorem AH.alloc_set {B C : Blk} : (H.alloc B).set H.next C = H.alloc C:=by
  simp [AH.set,AH.alloc]; funext i; by_cases h : i = H.next <;> simp [h]
theorem WF.alloc (h : WF H) {B : Blk} : WF (H.alloc B):=by
 intro b C hb
 simp only [AH.alloc] at hb ⊢
 split at hb
 ·omega
 ·have:=h b C hb; omega
theorem WF.set (h : WF H) {b : Nat} {B : Blk} (hb : b < H.next) : WF (H.set b B):=by
 intro a C ha
 simp only [AH.set] at ha ⊢
 split at ha
 ·omega
 ·exact h a C ha
theorem WF.kill (h : WF H) {b : Nat} : WF (H.kill b):=by
 intro a C ha
 simp only [AH.kill] at ha ⊢
 split at ha
 ·cases ha
 ·exact h a C ha
theorem loop_rule {body : ACode} (I : Nat → Env → AH → Prop)
  (hs : ∀ j env H,I j env H → wpC P n body (fun e env H => match e with
   | .normal => ∃ j',j' < j ∧ I j' env H
   | e => Q e env H) env H) {j : Nat} (h : I j env H) : wpC P n (.loop body) Q env H:=by
 refine ⟨j + 1,?_⟩
 have key : ∀ j,∀ j' env H,j' ≤ j → I j' env H → loopP (wpC P n body) Q (j + 1) env H:=by
  intro j
  induction j with
  | zero =>
   intro j' env H hj hI
   refine wpC_mono body (fun e env H h => ?_) (hs j' env H hI)
   cases e with
   | normal => obtain ⟨j2,h2,_⟩:=h; omega
   | exit i => exact h
   | ret => exact h
  | succ j ih =>
   intro j' env H hj hI
   refine wpC_mono body (fun e env H h => ?_) (hs j' env H hI)
   cases e with
   | normal => obtain ⟨j2,h2,h3⟩:=h; exact ih j2 env H (by omega) h3
   | exit i => exact h
   | ret => exact h
 exact key j j env H (Nat.le_refl _) h
end
def wrO : List AOper → List Nat
 | [] => []
 | o :: rest => match o.dst with
  | some t => t :: wrO rest
  | none => wrO rest
def wrM : List (Nat × AOper × List Nat) → List Nat
 | [] => []
 | (_,o,_) :: rest => match o.dst with
  | some t => t :: wrM rest
  | none => wrM rest
def wrC : ACode → List Nat
 | .region ops _ => wrO ops
 | .seq a b => wrC a ++ wrC b
 | .cond _ a b => wrC a ++ wrC b
 | .block _ a => wrC a
 | .loop a => wrC a
 | .mix _ ops => wrM ops
 | _ => []
section
variable {P : Program} {n : Nat}
theorem stepA_env {dr : Bool} {o : AOper} {K : Env → AH → Prop} {env : Env} {H : AH} (h : stepA P dr o K env H) :
  stepA P dr o (fun env' H' => K env' H' ∧ ∃ v,env' = put env o.dst v) env H:=by
 unfold stepA at *
 cases hg : guardA env o.guard with
 | none => simp only [hg] at h
 | some b =>
  cases b with
  | false => simp only [hg] at h ⊢; exact ⟨h,_,rfl⟩
  | true =>
   simp only [hg] at h ⊢
   cases ho : o.op <;> simp only [ho] at h ⊢
   case call f args =>
    split at h
    ·rename_i fv vs h1 h2
     cases dr with
     | true =>
      simp only [if_true] at h ⊢
      exact h.mono fun _ _ hk => ⟨hk.1,hk.2,_,rfl⟩
     | false =>
      simp only [Bool.false_eq_true,if_false] at h ⊢
      exact h.mono fun _ _ hk => ⟨hk,_,rfl⟩
    ·exact h
   case invoke r tbl args =>
    split at h
    ·rename_i fv vs h1 h2
     cases dr with
     | true => exact h.mono fun _ _ hk => ⟨hk.1,hk.2,_,rfl⟩
     | false => exact h.mono fun _ _ hk => ⟨hk,_,rfl⟩
    ·exact h
   all_goals
    split at h
    ·exact ⟨h,_,rfl⟩
    ·exact h
theorem wpO_env {dr : Bool} : ∀ {ops : List AOper} {K : Env → AH → Prop} {env : Env} {H : AH},wpO P dr K ops env H → wpO P dr (fun env' H' => K env' H' ∧ ∀ t,t ∉ wrO ops → env' t = env t) ops env H
 | [],K,env,H,h => ⟨h,fun _ _ => rfl⟩
 | o :: rest,K,env,H,h => by
  refine stepA_mono (fun env' H' h => ?_) (stepA_env (show stepA P dr o (wpO P dr K rest) env H from h))
  obtain ⟨h,v,rfl⟩:=h
  refine wpO_mono (fun env2 H2 h2 => ⟨h2.1,fun t ht => ?_⟩) (wpO_env h)
  cases hd : o.dst with
  | none =>
   simp only [wrO,hd] at ht
   rw [h2.2 t ht,hd]; rfl
  | some s =>
   simp only [wrO,hd,List.mem_cons,not_or] at ht
   rw [h2.2 t ht.2,hd]; simp [put,upd,ht.1]
theorem wpM_env {P : Program} {N : Nat} : ∀ {ops : List (Nat × AOper × List Nat)} {K : Env → AH → Prop} {log : List (Nat × Foot)} {env : Env} {H : AH},wpM P K N ops log env H → wpM P (fun env' H' => K env' H' ∧ ∀ t,t ∉ wrM ops → env' t = env t) N ops log env H
 | [],K,log,env,H,h => ⟨h,fun _ _ => rfl⟩
 | (i,o,cf) :: rest,K,log,env,H,h => by
  have key : ∀ {v : Value} {H' : AH} {l : List (Nat × Foot)},wpM P K N rest l (put env o.dst v) H' → wpM P (fun env' H' => K env' H' ∧ ∀ t,t ∉ wrM ((i,o,cf) :: rest) → env' t = env t) N rest l (put env o.dst v) H':=fun {v H' l} h3 => by
   refine wpM_mono (fun env2 H2 h2 => ⟨h2.1,fun t ht => ?_⟩) (wpM_env h3)
   cases hd : o.dst with
   | none =>
    simp only [wrM,hd] at ht
    rw [h2.2 t ht,hd]; rfl
   | some s =>
    simp only [wrM,hd,List.mem_cons,not_or] at ht
    rw [h2.2 t ht.2,hd]
    simp only [put,upd]
    rw [if_neg ht.1]
  rcases wpS_iff.1 (show wpS P N i o cf (late i rest = true) log env H _ from h) with ⟨v,H',F,h1,h2,h3⟩ | ⟨h1,h2,h3⟩
  ·exact wpS_iff.2 (.inl ⟨v,H',F,h1,h2,key h3⟩)
  ·exact wpS_iff.2 (.inr ⟨h1,h2,wpG_mono (fun _ h => h) (fun v H' _ h => key h) h3⟩)
theorem wpC_env : ∀ (c : ACode) {Q : AExit → Env → AH → Prop} {env : Env} {H : AH},wpC P n c Q env H → wpC P n c (fun e env' H' => Q e env' H' ∧ ∀ t,t ∉ wrC c → env' t = env t) env H
 | .skip,Q,env,H,h => ⟨h,fun _ _ => rfl⟩
 | .region ops dr,Q,env,H,h => wpO_env (K:=Q .normal) h
 | .seq a b,Q,env,H,h => by
  refine wpC_mono a (fun e env' H' h => ?_) (wpC_env a h)
  cases e with
  | normal => exact wpC_mono b (fun e env2 H2 h2 => ⟨h2.1,fun t ht => by simp [wrC] at ht; rw [h2.2 t ht.2,h.2 t ht.1]⟩) (wpC_env b h.1)
  | exit i => exact ⟨h.1,fun t ht => by simp [wrC] at ht; exact h.2 t ht.1⟩
  | ret => exact ⟨h.1,fun t ht => by simp [wrC] at ht; exact h.2 t ht.1⟩
 | .cond c a b,Q,env,H,h => by
  simp only [wpC] at h ⊢
  split at h
  ·rename_i t _
   cases t
   ·exact wpC_mono b (fun e env' H' h => ⟨h.1,fun t ht => by simp [wrC] at ht; exact h.2 t ht.2⟩) (wpC_env b h)
   ·exact wpC_mono a (fun e env' H' h => ⟨h.1,fun t ht => by simp [wrC] at ht; exact h.2 t ht.1⟩) (wpC_env a h)
  ·exact h
 | .block id a,Q,env,H,h => by
  refine wpC_mono a (fun e env' H' h => ?_) (wpC_env a h)
  cases e with
  | normal => exact h
  | exit i =>
   obtain ⟨h1,h2⟩:=h
   simp only at h1 ⊢
   split
   ·rename_i hi; rw [if_pos hi] at h1; exact ⟨h1,h2⟩
   ·rename_i hi; rw [if_neg hi] at h1; exact ⟨h1,h2⟩
  | ret => exact h
 | .loop a,Q,env,H,h => by
  obtain ⟨k,h⟩:=h
  refine ⟨k,?_⟩
  have key : ∀ (k : Nat) (env0 env : Env) (H : AH),(∀ t,t ∉ wrC a → env t = env0 t) → loopP (wpC P n a) Q k env H → loopP (wpC P n a) (fun e env' H' => Q e env' H' ∧ ∀ t,t ∉ wrC a → env' t = env0 t) k env H:=by
   intro k
   induction k with
   | zero => intro env0 env H _ h; exact h
   | succ k ih =>
    intro env0 env H h0 h
    refine wpC_mono a (fun e env' H' h => ?_) (wpC_env a h)
    have h3 : ∀ t,t ∉ wrC a → env' t = env0 t:=fun t ht => by rw [h.2 t ht,h0 t ht]
    cases e with
    | normal => exact ih env0 env' H' h3 h.1
    | exit i => exact ⟨h.1,h3⟩
    | ret => exact ⟨h.1,h3⟩
  exact key k env env H (fun _ _ => rfl) h
 | .rangeFunc f ps assign body,Q,env,H,h => by
  simp only [wpC] at h ⊢
  split at h
  ·refine ⟨h.1,h.2.mono fun v H' h => ?_⟩
   unfold rangeK at *
   split at h
   ·rename_i L _
    refine ⟨h.1,?_⟩
    have h2:=h.2
    split at h2
    ·exact ⟨h2,fun _ _ => rfl⟩
    ·exact ⟨h2.1,h2.2,fun _ _ => rfl⟩
   ·exact h
  ·exact h
 | .exit id,Q,env,H,h => ⟨h,fun _ _ => rfl⟩
 | .ret,Q,env,H,h => ⟨h,fun _ _ => rfl⟩
 | .mix m ops,Q,env,H,h => wpM_env (K:=Q .normal) h
theorem wpC_use {c : ACode} {Q Q' : AExit → Env → AH → Prop} {env : Env} {H : AH} (h : wpC P n c Q env H) (hq : ∀ e env' H',Q e env' H' → (∀ t,t ∉ wrC c → env' t = env t) → Q' e env' H') : wpC P n c Q' env H :=
 wpC_mono c (fun e env' H' h => hq e env' H' h.1 h.2) (wpC_env c h)
end
end Go.Abs
/-
 THE ABSTRACT LAYER (21): what a step leaves alone; slices of one's own,and slices that are only read.
-/
set_option linter.unusedSimpArgs false
set_option linter.unusedVariables false
namespace Go.Abs
open Go
structure Keep (S : List Nat) (H H' : AH) : Prop where
 next : H.next ≤ H'.next
 blk : ∀ b,b < H.next → b ∉ S → H'.blk b = H.blk b
theorem Keep.refl {S : List Nat} {H : AH} : Keep S H H:=⟨Nat.le_refl _,fun _ _ _ => rfl⟩
theorem Keep.trans {S S' : List Nat} {H H' H'' : AH} (h : Keep S H H') (k : Keep S' H' H'') (hs : ∀ b ∈ S',b < H.next → b ∈ S) : Keep S H H'' :=
 ⟨Nat.le_trans h.next k.next,fun b hb hn => by rw [k.blk b (Nat.lt_of_lt_of_le hb h.next) (fun hc => hn (hs b hc hb)),h.blk b hb hn]⟩
theorem Keep.trans' {S : List Nat} {H H' H'' : AH} (h : Keep S H H') (k : Keep S H' H'') : Keep S H H'':=h.trans k fun _ h _ => h
theorem Keep.mono {S S' : List Nat} {H H' : AH} (h : Keep S H H') (hs : ∀ b ∈ S,b < H.next → b ∈ S') : Keep S' H H':=⟨h.next,fun b hb hn => h.blk b hb fun hc => hn (hs b hc hb)⟩
theorem Keep.set {S : List Nat} {H : AH} {b : Nat} {B : Blk} (hb : b ∈ S ∨ H.next ≤ b) : Keep S H (H.set b B):=by
 refine ⟨Nat.le_refl _,fun a ha hn => AH.set_blk_ne ?_⟩
 rintro rfl
 rcases hb with h | h
 ·exact hn h
 ·omega
theorem Keep.kill {S : List Nat} {H : AH} {b : Nat} (hb : b ∈ S ∨ H.next ≤ b) : Keep S H (H.kill b):=by
 refine ⟨Nat.le_refl _,fun a ha hn => AH.kill_blk_ne ?_⟩
 rintro rfl
 rcases hb with h | h
 ·exact hn h
 ·omega
theorem Keep.alloc {S : List Nat} {H : AH} {B : Blk} : Keep S H (H.alloc B):=⟨by simp,fun b hb _ => AH.alloc_blk_ne (Nat.ne_of_lt hb)⟩
theorem WF.lt {H : AH} (h : WF H) {b : Nat} {B : Blk} (hb : H.blk b = some B) : b < H.next:=h b B hb
theorem cut_eq {cs : List Value} {off n : Nat} (h : off + n ≤ cs.length) : cut cs off n = some ((cs.drop off).take n):=by simp [cut,h]
theorem cut_spec {cs r : List Value} {off n : Nat} (h : cut cs off n = some r) : off + n ≤ cs.length ∧ r = (cs.drop off).take n ∧ r.length = n ∧ ∀ k,k < n → cs[off + k]? = r[k]?:=by
 unfold cut at h
 split at h
 ·rename_i hl
  cases h
  refine ⟨hl,rfl,by simp; omega,fun k hk => ?_⟩
  rw [List.getElem?_take_of_lt hk,List.getElem?_drop]
 ·cases h
theorem over_get' {cs news : List Value} {off : Nat} (h : off + news.length ≤ cs.length) (k : Nat) : (over cs off news)[k]? = if off ≤ k ∧ k < off + news.length then news[k - off]? else cs[k]?:=by
 unfold over
 rw [List.append_assoc]
 by_cases h1 : k < off
 ·rw [if_neg (by omega),List.getElem?_append_left (by simp; omega),List.getElem?_take_of_lt h1]
 ·have hl : (cs.take off).length = off:=by simp; omega
  rw [List.getElem?_append_right (by omega),hl]
  by_cases h2 : k < off + news.length
  ·rw [if_pos (by omega),List.getElem?_append_left (by omega)]
  ·rw [if_neg (by omega),List.getElem?_append_right (by omega),List.getElem?_drop]
   congr 1; omega
theorem over_cut {cs news : List Value} {off k n : Nat} (hk : k + news.length ≤ n) (h : off + n ≤ cs.length) :
  ((over cs (off + k) news).drop off).take n = over ((cs.drop off).take n) k news:=by
 apply List.ext_getElem?
 intro i
 have hl1 : ((cs.drop off).take n).length = n:=by simp; omega
 by_cases hi : i < n
 ·rw [List.getElem?_take_of_lt hi,List.getElem?_drop,over_get' (by omega),over_get' (by omega),List.getElem?_take_of_lt hi,List.getElem?_drop]
  by_cases hc : k ≤ i ∧ i < k + news.length
  ·rw [if_pos (by omega),if_pos (by omega)]; congr 1; omega
  ·rw [if_neg (by omega),if_neg (by omega)]
 ·rw [List.getElem?_eq_none (by simp; omega),List.getElem?_eq_none (by rw [over_length (by omega)]; omega)]
def Own (H : AH) (elem sz : Nat) (v : Value) (n : Nat) (cells : List Value) (S : List Nat) : Prop :=
 (v = .slice none 0 0 ∧ n = 0 ∧ cells = [] ∧ S = []) ∨
 ∃ b off sp cap cs,v = .slice (some ⟨b,off,sp⟩) n cap ∧ S = [b] ∧ H.blk b = some (.row cs elem true) ∧ off + cap * sz ≤ cs.length ∧ n ≤ cap ∧ cells = (cs.drop off).take (n * sz) ∧ (sp = none ∨ sp = some sz)
theorem Own.nil {H : AH} {elem sz : Nat} : Own H elem sz (.slice none 0 0) 0 [] []:=.inl ⟨rfl,rfl,rfl,rfl⟩
theorem Own.slice {H : AH} {elem sz n : Nat} {v : Value} {cells : List Value} {S : List Nat} (h : Own H elem sz v n cells S) : ∃ a c,v = .slice a n c:=by
 rcases h with ⟨rfl,rfl,_⟩ | ⟨b,off,sp,cap,cs,rfl,_⟩
 ·exact ⟨_,_,rfl⟩
 ·exact ⟨_,_,rfl⟩
theorem Own.len {H : AH} {elem sz n : Nat} {v : Value} {cells : List Value} {S : List Nat} (h : Own H elem sz v n cells S) : cells.length = n * sz:=by
 rcases h with ⟨rfl,rfl,rfl,_⟩ | ⟨b,off,sp,cap,cs,rfl,_,_,h1,h2,rfl,_⟩
 ·simp
 ·have:=Nat.mul_le_mul_right sz h2; simp; omega
theorem Own.keep {H H' : AH} {elem sz n : Nat} {v : Value} {cells : List Value} {S : List Nat} (h : Own H elem sz v n cells S) (hk : ∀ b ∈ S,H'.blk b = H.blk b) : Own H' elem sz v n cells S:=by
 rcases h with h | ⟨b,off,sp,cap,cs,h0,h1,h2,h3⟩
 ·exact .inl h
 ·exact .inr ⟨b,off,sp,cap,cs,h0,h1,by rw [hk b (by simp [h1]),h2],h3⟩
theorem Own.lt {H : AH} {elem sz n : Nat} {v : Value} {cells : List Value} {S : List Nat} (h : Own H elem sz v n cells S) (hw : WF H) : ∀ b ∈ S,b < H.next:=by
 intro b hb
 rcases h with ⟨_,_,_,rfl⟩ | ⟨b',off,sp,cap,cs,h0,rfl,h2,h3⟩
 ·simp at hb
 ·simp at hb; subst hb; exact hw _ _ h2
theorem Own.at {H : AH} {elem sz n : Nat} {v : Value} {cells : List Value} {S : List Nat} (h : Own H elem sz v n cells S) (hn : 0 < n) :
  ∃ b off sp cap cs,v = .slice (some ⟨b,off,sp⟩) n cap ∧ S = [b] ∧ H.blk b = some (.row cs elem true) ∧ H.cells b = some cs ∧ off + cap * sz ≤ cs.length ∧ n ≤ cap ∧ (sp = none ∨ sp = some sz) ∧ (∀ k,k < n * sz → cs[off + k]? = cells[k]?) ∧ cut cs off (n * sz) = some cells:=by
 rcases h with ⟨_,h,_⟩ | ⟨b,off,sp,cap,cs,h0,h1,h2,h3,h4,h5,h6⟩
 ·omega
 ·have hl:=Nat.mul_le_mul_right sz h4
  refine ⟨b,off,sp,cap,cs,h0,h1,h2,AH.cells_of h2,h3,h4,h6,fun k hk => ?_,by rw [cut_eq (by omega),h5]⟩
  rw [h5,List.getElem?_take_of_lt hk,List.getElem?_drop]
theorem Own.elems {H : AH} {elem sz n : Nat} {v : Value} {cells : List Value} {S : List Nat} (h : Own H elem sz v n cells S) : elemsA H sz v = some cells:=by
 rcases h with ⟨rfl,rfl,rfl,_⟩ | ⟨b,off,sp,cap,cs,rfl,h1,h2,h3,h4,rfl,h6⟩
 ·rfl
 ·have hl:=Nat.mul_le_mul_right sz h4
  by_cases hn : n = 0
  ·subst hn; simp [elemsA]
  ·simp [elemsA,hn,AH.cells_of h2,cut_eq (show off + n * sz ≤ cs.length by omega)]
theorem Own.write {H : AH} {elem sz n b off cap : Nat} {sp : Option Nat} {cells cs : List Value} {S : List Nat} (h : Own H elem sz (.slice (some ⟨b,off,sp⟩) n cap) n cells S) (hb : H.blk b = some (.row cs elem true)) {k : Nat} {news : List Value}
  (hk : k + news.length ≤ n * sz) :
  writeA H b (off + k) news = some (H.set b (.row (over cs (off + k) news) elem true)) ∧ Own (H.set b (.row (over cs (off + k) news) elem true)) elem sz (.slice (some ⟨b,off,sp⟩) n cap) n (over cells k news) S ∧ S = [b]:=by
 rcases h with ⟨h,_⟩ | ⟨b',off',sp',cap',cs',h0,h1,h2,h3,h4,h5,h6⟩
 ·cases h
 ·cases h0
  rw [hb] at h2
  cases h2
  have hl:=Nat.mul_le_mul_right sz h4
  refine ⟨writeA_of hb (by omega),.inr ⟨b,off,sp,cap,_,rfl,h1,AH.set_blk_same,?_,h4,?_,h6⟩,h1⟩
  ·rw [over_length (by omega)]; exact h3
  ·rw [over_cut hk (by omega),h5]
theorem Own.append {H : AH} {elem sz n bytes m : Nat} {v : Value} {cells news : List Value} {S : List Nat} (h : Own H elem sz v n cells S) (hw : WF H) (hm : news.length = m * sz) (hroom : (n + m) * bytes ≤ 140737488355328) (hmax : n + m ≤ 9223372036854775807) :
  ∃ v' H' S',appendA H elem sz bytes v m news = some (v',H') ∧ Own H' elem sz v' (n + m) (cells ++ news) S' ∧ (S' = S ∨ S' = [H.next]) ∧ Keep S H H' ∧ WF H' ∧ ∀ b ∈ S',b ∈ S ∨ b = H.next:=by
 by_cases hm0 : m = 0
 ·subst hm0
  have : news = []:=by simpa using hm
  subst this
  refine ⟨v,H,S,?_,by simpa using h,.inl rfl,.refl,hw,fun b hb => .inl hb⟩
  rcases h with ⟨rfl,_⟩ | ⟨b,off,sp,cap,cs,rfl,_⟩ <;> simp [appendA]
 have helems:=h.elems
 have hlen:=h.len
 have hnew : ∀ H0 : AH,H0.next = H.next → Own (H0.alloc (.row (cells ++ news) elem true)) elem sz (.slice (some ⟨H.next,0,some sz⟩) (n + m) (n + m)) (n + m) (cells ++ news) [H.next]:=by
  intro H0 h0
  refine .inr ⟨H.next,0,some sz,n + m,cells ++ news,rfl,rfl,by rw [← h0]; simp,?_,Nat.le_refl _,?_,.inr rfl⟩
  ·simp [hlen,hm,Nat.add_mul]
  ·rw [List.drop_zero,List.take_of_length_le]; simp [hlen,hm,Nat.add_mul]
 rcases h with ⟨rfl,rfl,rfl,rfl⟩ | ⟨b,off,sp,cap,cs,rfl,rfl,h2,h3,h4,h5,h6⟩
 ·refine ⟨_,_,[H.next],?_,hnew H rfl,.inr rfl,.alloc,hw.alloc,fun b hb => .inr (by simpa using hb)⟩
  simp only [appendA,hm0,if_false]
  rw [if_pos ⟨by simpa using hroom,by omega⟩]
  simp
 ·by_cases hc : n + m ≤ cap
  ·have hl:=Nat.mul_le_mul_right sz hc
   rw [Nat.add_mul] at hl
   refine ⟨.slice (some ⟨b,off,sp⟩) (n + m) cap,H.set b (.row (over cs (off + n * sz) news) elem true),[b],?_,.inr ⟨b,off,sp,cap,_,rfl,rfl,AH.set_blk_same,by rw [over_length (by omega)]; exact h3,hc,?_,h6⟩,.inl rfl,.set (by simp),hw.set (hw _ _ h2),fun b hb => .inl hb⟩
   ·simp only [appendA,hm0,if_false,hc,if_true,writeA_of h2 (show off + n * sz + news.length ≤ cs.length by omega)]; rfl
   ·rw [Nat.add_mul,h5]
    apply List.ext_getElem?
    intro i
    have hcl : ((cs.drop off).take (n * sz)).length = n * sz:=by simp; omega
    by_cases hi : i < n * sz + m * sz
    ·rw [List.getElem?_take_of_lt hi,List.getElem?_drop,over_get' (by omega)]
     by_cases hi2 : i < n * sz
     ·rw [if_neg (by omega),List.getElem?_append_left (by omega),List.getElem?_take_of_lt hi2,List.getElem?_drop]
     ·rw [if_pos (by omega),List.getElem?_append_right (by omega),hcl]; congr 1; omega
    ·rw [List.getElem?_eq_none (by simp; omega),List.getElem?_eq_none (by simp [over]; omega)]
  ·rcases h6 with rfl | rfl
   ·refine ⟨_,_,[H.next],?_,hnew H rfl,.inr rfl,.alloc,hw.alloc,fun b hb => .inr (by simpa using hb)⟩
    simp only [appendA,hm0,if_false,hc]
    rw [if_pos ⟨hroom,hmax⟩,helems]
   ·refine ⟨_,_,[H.next],?_,hnew (H.kill b) rfl,.inr rfl,(Keep.kill (S:=[b]) (by simp)).trans' .alloc,hw.kill.alloc,fun b hb => .inr (by simpa using hb)⟩
    simp only [appendA,hm0,if_false,hc]
    rw [if_pos ⟨hroom,hmax⟩,helems]
    simp [h2]
theorem Own.alloc {H : AH} {elem sz n : Nat} {v : Value} {cells : List Value} {S : List Nat} (h : Own H elem sz v n cells S) (hw : WF H) {B : Blk} : Own (H.alloc B) elem sz v n cells S :=
 h.keep fun b hb => AH.alloc_blk_ne (Nat.ne_of_lt (h.lt hw b hb))
theorem Own.kept {H H' : AH} {elem sz n : Nat} {v : Value} {cells : List Value} {S T : List Nat} (h : Own H elem sz v n cells S) (hw : WF H) (hk : Keep T H H') (hd : ∀ b ∈ S,b ∉ T) : Own H' elem sz v n cells S :=
 h.keep fun b hb => hk.blk b (h.lt hw b hb) (hd b hb)
theorem Own.push {H : AH} {elem sz n : Nat} {v : Value} {cells : List Value} {S : List Nat} (h : Own H elem sz v n cells S) (hw : WF H) (e2 : TypeId) (bytes : Nat) (m : Nat) (news : List Value) (hm : news.length = m * sz) (hroom : (n + m) * bytes ≤ 140737488355328) (hmax : n + m ≤ 9223372036854775807) :
  ∃ a' c' H' S',appendA (H.alloc (.row news e2 true)) elem sz bytes v m news = some (.slice a' (n + m) c',H') ∧ Own H' elem sz (.slice a' (n + m) c') (n + m) (cells ++ news) S' ∧ Keep S H H' ∧ WF H' ∧ ∀ b ∈ S',b ∈ S ∨ H.next ≤ b:=by
 obtain ⟨v',H',S',q1,q2,q3,q4,q5,q6⟩:=(h.alloc hw (B:=.row news e2 true)).append hw.alloc (bytes:=bytes) hm hroom hmax
 obtain ⟨a',c',rfl⟩:=q2.slice
 refine ⟨a',c',H',S',q1,q2,Keep.alloc.trans' q4,q5,fun b hb => ?_⟩
 rcases q6 b hb with h | h
 ·exact .inl h
 ·simp at h; right; omega
end Go.Abs
/-
 THE ABSTRACT LAYER (22): which rules the walks take by themselves.
-/
set_option linter.unusedSimpArgs false
set_option linter.unusedVariables false
namespace Go.Abs
open Go
@[simp] theorem upd_apply {env : Env} {t s : Nat} {v : Value} : upd env t v s = if s = t then some v else env s:=Eq.trans rfl rfl
@[simp] theorem eqs_nilSlice1 {n c m d : Nat} {b : Option Addr} : eqA .nilSlice (.slice none n c) (.slice b m d) = some b.isNone:=Eq.trans rfl rfl
@[simp] theorem eqs_nilSlice2 {n c m d : Nat} {a : Addr} : eqA .nilSlice (.slice (some a) n c) (.slice none m d) = some false:=Eq.trans rfl rfl
@[simp] theorem cellsOf_int {k : IntKind} {n : Int} : cellsOf (.int k n) = some [.int k n]:=Eq.trans rfl rfl
@[simp] theorem one_int {k : IntKind} {n : Int} : one (.int k n) = true:=Eq.trans rfl rfl
@[simp] theorem cellsOf_slice {a : Option Addr} {n c : Nat} : cellsOf (.slice a n c) = some [.slice a n c]:=Eq.trans rfl rfl
@[simp] theorem cellsOf_agg {cs : Array Value} : cellsOf (.agg cs) = some cs.toList:=Eq.trans rfl rfl
attribute [simp] List.getElem?_cons_zero List.getElem?_cons_succ
attribute [simp] ieval aval avals abin aun resOf fillA asIntA boundA boundsA partA
@[simp] theorem ressOf_cons {env : Env} {H : AH} {r : ARes} {rs : List ARes} : ressOf env H (r :: rs) = match resOf env H r,ressOf env H rs with
  | some v,some vs => some (v :: vs)
  | _,_ => none:=rfl
theorem int_beq (a b : Int) : (a == b) = decide (a = b):=by by_cases h : a = b <;> simp [h]
theorem int_bne (a b : Int) : (a != b) = decide (a ≠ b):=by by_cases h : a = b <;> simp [h]
attribute [simp] int_beq int_bne
@[simp] theorem over_nil {cs : List Value} : over cs 0 [] = cs:=by simp [over]
@[simp] theorem over_zero {c n : Value} {cs ns : List Value} : over (c :: cs) 0 (n :: ns) = n :: over cs 0 ns:=by simp [over]
@[simp] theorem over_cons {c : Value} {cs ns : List Value} {k : Nat} : over (c :: cs) (k + 1) ns = c :: over cs k ns:=by simp [over,Nat.add_right_comm k 1]
theorem AFnD.of {P : Program} {f : FuncId} {vs : List Value} {H : AH} {K : Value → AH → Prop} {v : Value} (h : AFn P f vs H fun u H' => u = v ∧ H' = H) (hk : K v H) : AFnD P f vs H K :=
 h.mono fun u H' hu => by obtain ⟨rfl,rfl⟩:=hu; exact ⟨fun _ _ h => h,hk⟩
theorem AFnD.from {P : Program} {f : FuncId} {vs : List Value} {H : AH} {K Q : Value → AH → Prop} (h : AFn P f vs H Q) (hq : ∀ v H',WF H' → Q v H' → Grow H H' ∧ K v H') : AFnD P f vs H K:=h.mono' hq
theorem Keep.grow {H H' : AH} (hk : Keep [] H H') (hw : WF H) : Grow H H':=fun b B hB => by rw [hk.blk b (hw.lt hB) (by simp),hB]
theorem AFn.pure {P : Program} {f : FuncId} {vs : List Value} {H : AH} {K : Value → AH → Prop} {v : Value} (h : AFn P f vs H fun u H' => u = v ∧ H' = H) (hk : K v H) : AFn P f vs H K :=
 h.mono fun u H' hu => by obtain ⟨rfl,rfl⟩:=hu; exact hk
end Go.Abs
/-
 THE ABSTRACT LAYER (22b): regions whose operations may be done in any order.
-/
set_option linter.unusedSimpArgs false
set_option linter.unusedVariables false
namespace Go.Abs
open Go
section
variable {P : Program} {n id : Nat} {env : Env} {H : AH} {K : Env → AH → Prop} {N : Nat} {rest : List (Nat × AOper × List Nat)} {log : List (Nat × Foot)} {Q : AExit → Env → AH → Prop}
@[simp] theorem AH.room_next {m : Nat} : (H.room m).next = H.next + m:=Eq.trans rfl rfl
@[simp] theorem AH.room_cells {m b : Nat} : (H.room m).cells b = H.cells b:=Eq.trans rfl rfl
theorem WF.room (h : WF H) {m : Nat} : WF (H.room m):=fun b B hb => by have:=h b B hb; show b < H.next + m; omega
theorem Keep.room {S : List Nat} {m : Nat} : Keep S H (H.room m):=⟨by show H.next ≤ H.next + m; omega,fun _ _ _ => rfl⟩
def AH.late (H : AH) (id : Nat) (B : Blk) : AH:={ blk:=fun i => if i = id then some B else H.blk i,next:=id + 1 }
@[simp] theorem AH.allocAt_if {B : Blk} : H.allocAt id B = if id < H.next then H.set id B else H.late id B:=by
  unfold AH.allocAt AH.set AH.late
  split <;> rfl
@[simp] theorem wpC_mix {m : Nat} {ops : List (Nat × AOper × List Nat)} : wpC P n (.mix m ops) Q env H = wpM P (Q .normal) H.next ops [] env (H.room m):=Eq.trans rfl rfl
def restM (P : Program) (K : Env → AH → Prop) (N : Nat) (rest : List (Nat × AOper × List Nat)) (log : List (Nat × Foot)) (env : Env) (d : Option Nat) (i : Nat) (cf : List Nat) (F : Foot) : Value → AH → Prop:=fun v H' => chk cf log F ∧ wpM P K N rest ((i,F) :: log) (put env d v) H'
@[simp] theorem restM_apply {d : Option Nat} {i : Nat} {cf : List Nat} {F : Foot} {v : Value} {H' : AH} : restM P K N rest log env d i cf F v H' = (chk cf log F ∧ wpM P K N rest ((i,F) :: log) (put env d v) H'):=Eq.trans rfl rfl
@[simp] theorem wpM_nil : wpM P K N [] log env H = K env H:=Eq.trans rfl rfl
def callM (P : Program) (K : Env → AH → Prop) (N : Nat) (rest : List (Nat × AOper × List Nat)) (log : List (Nat × Foot)) (env : Env) (H : AH) (d : Option Nat) (i : Nat) (cf : List Nat) : Option Value → Option (List Value) → Prop
 | some fv,some vs => (∃ v R,CalmCall P fv vs R H v ∧ restM P K N rest log env d i cf ⟨R,[]⟩ v H) ∨
   (late i rest = true ∧ ∃ X Y,mind cf log X Y ∧ GrowCall P fv vs X Y H fun v H' => wpM P K N rest ((i,⟨[],[]⟩) :: log) (put env d v) H')
 | _,_ => False
theorem callM_grow {d : Option Nat} {i : Nat} {cf : List Nat} {fv : Value} {vs : List Value} {X Y : List Nat} (hl : late i rest = true) (hm : mind cf log X Y) (h : GrowCall P fv vs X Y H fun v H' => wpM P K N rest ((i,⟨[],[]⟩) :: log) (put env d v) H') : callM P K N rest log env H d i cf (some fv) (some vs):=.inr ⟨hl,X,Y,hm,h⟩
def doM (P : Program) (K : Env → AH → Prop) (N : Nat) (rest : List (Nat × AOper × List Nat)) (log : List (Nat × Foot)) (env : Env) (H : AH) (d : Option Nat) (op : IOp) (i : Nat) (cf : List Nat) : Prop :=
 match op with
 | .call f args => callM P K N rest log env H d i cf (aval env f) (avals env args)
 | op => andThen (ievalAt (N + i) op env H) (restM P K N rest log env d i cf (foot (N + i) op env))
theorem doM_op {d : Option Nat} {op : IOp} {i : Nat} {cf : List Nat} (h : op.isC = false) : doM P K N rest log env H d op i cf = andThen (ievalAt (N + i) op env H) (restM P K N rest log env d i cf (foot (N + i) op env)):=by
 cases op <;> first | rfl | cases h
theorem doM_iff {d : Option Nat} {op : IOp} {i : Nat} {cf : List Nat} {g : Option (Nat × Bool)} : doM P K N rest log env H d op i cf = ((∃ v H' F,StepI P (N + i) op env H v H' F ∧ chk cf log F ∧ wpM P K N rest ((i,F) :: log) (put env d v) H') ∨
  (late i rest = true ∧ wpG P ⟨d,op,g⟩ cf log env H fun v H' => wpM P K N rest ((i,⟨[],[]⟩) :: log) (put env d v) H')):=by
 apply propext
 by_cases hc : op.isC = false
 ·have hno : ∀ {Kx : Value → AH → Prop},¬ wpG P ⟨d,op,g⟩ cf log env H Kx:=by
   rintro Kx ⟨f,args,_,_,_,_,h,_⟩
   simp only at h
   subst h
   cases hc
  rw [doM_op hc]
  simp only [StepI_op hc]
  cases hv : ievalAt (N + i) op env H with
  | none => simp [andThen,hno]
  | some p =>
   obtain ⟨v,H'⟩:=p
   simp only [andThen_some,restM_apply]
   exact ⟨fun h => .inl ⟨v,H',_,⟨rfl,rfl⟩,h.1,h.2⟩,fun h => by
    rcases h with ⟨v',H2,F,⟨h1,h2⟩,h3,h⟩ | ⟨_,h⟩
    ·cases h1; subst h2; exact ⟨h3,h⟩
    ·exact (hno h).elim⟩
 ·cases op <;> try (exact absurd rfl hc)
  ·rename_i f args
   show callM P K N rest log env H d i cf (aval env f) (avals env args) ↔ _
   constructor
   ·intro h
    unfold callM at h
    split at h
    ·rename_i fv vs h1 h2
     rcases h with ⟨v,R,h3,h4⟩ | ⟨hl,X,Y,h3,h4⟩
     ·exact .inl ⟨v,H,⟨R,[]⟩,⟨fv,vs,h1,h2,rfl,rfl,h3⟩,h4.1,h4.2⟩
     ·exact .inr ⟨hl,f,args,fv,vs,X,Y,rfl,h1,h2,h3,h4⟩
    ·exact h.elim
   ·rintro (⟨v,H',F,⟨fv,vs,h1,h2,rfl,h4,h5⟩,h6,h7⟩ | ⟨hl,f',args',fv,vs,X,Y,he,h1,h2,h3,h4⟩)
    ·rw [h1,h2]
     obtain ⟨r,w⟩:=F
     subst h4
     exact .inl ⟨v,r,h5,h6,h7⟩
    ·cases he
     rw [h1,h2]
     exact .inr ⟨hl,X,Y,h3,h4⟩
  ·constructor
   ·intro h; exact h.elim
   ·rintro (⟨v,H',F,h,_⟩ | ⟨_,f',args',fv,vs,X,Y,he,_⟩)
    ·exact (StepI_inv rfl h).elim
    ·cases he
@[simp] theorem wpM_op {i : Nat} {d : Option Nat} {op : IOp} {cf : List Nat} : wpM P K N ((i,⟨d,op,none⟩,cf) :: rest) log env H = doM P K N rest log env H d op i cf:=by
  rw [doM_iff (g:=none)]
  rfl
@[simp] theorem doM_new {d : Option Nat} {i : Nat} {cf : List Nat} {e : TypeId} {z : List Value} : doM P K N rest log env H d (.new e z) i cf = andThen (ievalAt (N + i) (.new e z) env H) (restM P K N rest log env d i cf (foot (N + i) (.new e z) env)):=Eq.trans rfl rfl
@[simp] theorem doM_bslice {d : Option Nat} {i : Nat} {cf : List Nat} {e : TypeId} {l : Nat} {z : List Value} {ps : List (Nat × Nat × Operand)} : doM P K N rest log env H d (.bslice e l z ps) i cf = andThen (ievalAt (N + i) (.bslice e l z ps) env H) (restM P K N rest log env d i cf (foot (N + i) (.bslice e l z ps) env)):=Eq.trans rfl rfl
@[simp] theorem doM_app {d : Option Nat} {i : Nat} {cf : List Nat} {e z b : Nat} {s x : Operand} : doM P K N rest log env H d (.app e z b s x) i cf = andThen (ievalAt (N + i) (.app e z b s x) env H) (restM P K N rest log env d i cf (foot (N + i) (.app e z b s x) env)):=Eq.trans rfl rfl
@[simp] theorem doM_mv {d : Option Nat} {i : Nat} {cf : List Nat} {a0 : Operand} : doM P K N rest log env H d (.mv a0) i cf = andThen (ievalAt (N + i) (.mv a0) env H) (restM P K N rest log env d i cf (foot (N + i) (.mv a0) env)):=Eq.trans rfl rfl
@[simp] theorem doM_build {d : Option Nat} {i : Nat} {cf : List Nat} {a0 : List Value} {a1 : List (Nat × Nat × Operand)} : doM P K N rest log env H d (.build a0 a1) i cf = andThen (ievalAt (N + i) (.build a0 a1) env H) (restM P K N rest log env d i cf (foot (N + i) (.build a0 a1) env)):=Eq.trans rfl rfl
@[simp] theorem doM_load1 {d : Option Nat} {i : Nat} {cf : List Nat} {a0 : Operand} : doM P K N rest log env H d (.load1 a0) i cf = andThen (ievalAt (N + i) (.load1 a0) env H) (restM P K N rest log env d i cf (foot (N + i) (.load1 a0) env)):=Eq.trans rfl rfl
@[simp] theorem doM_loadN {d : Option Nat} {i : Nat} {cf : List Nat} {a0 : Nat} {a1 : Operand} : doM P K N rest log env H d (.loadN a0 a1) i cf = andThen (ievalAt (N + i) (.loadN a0 a1) env H) (restM P K N rest log env d i cf (foot (N + i) (.loadN a0 a1) env)):=Eq.trans rfl rfl
@[simp] theorem doM_storeN {d : Option Nat} {i : Nat} {cf : List Nat} {a0 : Nat} {a1 : Operand} {a2 : Operand} : doM P K N rest log env H d (.storeN a0 a1 a2) i cf = andThen (ievalAt (N + i) (.storeN a0 a1 a2) env H) (restM P K N rest log env d i cf (foot (N + i) (.storeN a0 a1 a2) env)):=Eq.trans rfl rfl
@[simp] theorem doM_faddr {d : Option Nat} {i : Nat} {cf : List Nat} {a0 : Nat} {a1 : Operand} : doM P K N rest log env H d (.faddr a0 a1) i cf = andThen (ievalAt (N + i) (.faddr a0 a1) env H) (restM P K N rest log env d i cf (foot (N + i) (.faddr a0 a1) env)):=Eq.trans rfl rfl
@[simp] theorem doM_call {d : Option Nat} {i : Nat} {cf : List Nat} {f : Operand} {args : List Operand} : doM P K N rest log env H d (.call f args) i cf = callM P K N rest log env H d i cf (aval env f) (avals env args):=Eq.trans rfl rfl
@[simp] theorem chk_nil {cf : List Nat} {F : Foot} : chk cf [] F = True:=by simp [chk]
@[simp] theorem chk_cons {cf : List Nat} {k : Nat} {F G : Foot} : chk cf ((k,G) :: log) F = ((if k ∈ cf then apart F G else True) ∧ chk cf log F):=by
  simp only [chk,List.forall_mem_cons]
  by_cases h : k ∈ cf <;> simp [h]
def off1 (a : Nat) : List Nat → Prop
 | [] => True
 | b :: m => a ≠ b ∧ off1 a m
def offs : List Nat → List Nat → Prop
 | [],_ => True
 | a :: l,m => off1 a m ∧ offs l m
@[simp] theorem off1_nil {a : Nat} : off1 a [] = True:=Eq.trans rfl rfl
theorem off1_cons {a b : Nat} {m : List Nat} : off1 a (b :: m) = (a ≠ b ∧ off1 a m):=Eq.trans rfl rfl
theorem off1_ne {a b : Nat} {m : List Nat} (h : a ≠ b) : off1 a (b :: m) = off1 a m:=by simp [off1,h]
@[simp] theorem offs_nil {m : List Nat} : offs [] m = True:=Eq.trans rfl rfl
@[simp] theorem offs_cons {a : Nat} {l m : List Nat} : offs (a :: l) m = (off1 a m ∧ offs l m):=Eq.trans rfl rfl
theorem off1_iff {a : Nat} {m : List Nat} : off1 a m ↔ a ∉ m:=by
 induction m with
 | nil => simp
 | cons b m ih => simp [off1_cons,ih]
theorem offs_iff {m l : List Nat} : offs l m ↔ ∀ a ∈ l,a ∉ m:=by
 induction l with
 | nil => simp
 | cons a l ih => simp [off1_iff,ih]
@[simp] theorem apart_mk {r1 w1 r2 w2 : List Nat} : apart ⟨r1,w1⟩ ⟨r2,w2⟩ = (offs w1 r2 ∧ offs w1 w2 ∧ offs r1 w2):=by
  apply propext
  simp only [apart,offs_iff]
  exact ⟨fun h => ⟨fun a ha => (h.1 a ha).1,fun a ha => (h.1 a ha).2,h.2⟩,fun h => ⟨fun a ha => ⟨h.1 a ha,h.2.1 a ha⟩,h.2.2⟩⟩
@[simp] theorem blkOf_ptr {a : Addr} : blkOf (some (.pointer (some a))) = [a.block]:=Eq.trans rfl rfl
@[simp] theorem blkOf_slice {a : Addr} {k c : Nat} : blkOf (some (.slice (some a) k c)) = [a.block]:=Eq.trans rfl rfl
attribute [simp] off1_ne
@[simp] theorem ievalAt_new {e : TypeId} {z : List Value} : ievalAt id (.new e z) env H = some (.pointer (some ⟨id,0,none⟩),H.allocAt id (.row z e true)):=Eq.trans rfl rfl
@[simp] theorem ievalAt_box {e : TypeId} {x : Operand} : ievalAt id (.box e x) env H = match aval env x with
  | some v => (cellsOf v).map fun cs => (.pointer (some ⟨id,0,none⟩),H.allocAt id (.row cs e true))
  | none => none:=Eq.trans rfl rfl
@[simp] theorem ievalAt_bslice {e : TypeId} {l : Nat} {z : List Value} {ps : List (Nat × Nat × Operand)} : ievalAt id (.bslice e l z ps) env H = (fillA env z ps).map fun cs => (.slice (some ⟨id,0,none⟩) l l,H.allocAt id (.row cs e true)):=Eq.trans rfl rfl
@[simp] theorem ievalAt_mks {e : TypeId} {b : Nat} {z : List Value} {x y : Operand} : ievalAt id (.mks e b z x y) env H = match aval env x,aval env y with
  | some (.int .i64 l),some (.int .i64 c) =>
   if 0 ≤ l ∧ l ≤ c ∧ c ≤ 9223372036854775807 ∧ b * c ≤ 281474976710656 then
    some (.slice (some ⟨id,0,none⟩) l.toNat c.toNat,H.allocAt id (.row (zeros z c.toNat) e true))
   else none
  | _,_ => none:=Eq.trans rfl rfl
@[simp] theorem ievalAt_app {e z b : Nat} {s x : Operand} : ievalAt id (.app e z b s x) env H = match aval env s,aval env x with
  | some s,some (.slice a m c) => match elemsA H z (.slice a m c) with
   | some news => appendAt id H e z b s m news
   | none => none
  | _,_ => none:=Eq.trans rfl rfl
@[simp] theorem foot_load1 {x : Operand} : foot id (.load1 x) env = ⟨blkOf (aval env x),[]⟩:=Eq.trans rfl rfl
@[simp] theorem foot_loadN {m : Nat} {x : Operand} : foot id (.loadN m x) env = ⟨blkOf (aval env x),[]⟩:=Eq.trans rfl rfl
@[simp] theorem foot_storeN {m : Nat} {x y : Operand} : foot id (.storeN m x y) env = ⟨[],blkOf (aval env x)⟩:=Eq.trans rfl rfl
@[simp] theorem foot_new {e : TypeId} {z : List Value} : foot id (.new e z) env = ⟨[],[id]⟩:=Eq.trans rfl rfl
@[simp] theorem foot_bslice {e : TypeId} {l : Nat} {z : List Value} {ps : List (Nat × Nat × Operand)} : foot id (.bslice e l z ps) env = ⟨[],[id]⟩:=Eq.trans rfl rfl
@[simp] theorem foot_app {e z b : Nat} {s x : Operand} : foot id (.app e z b s x) env = ⟨blkOf (aval env x),id :: blkOf (aval env s)⟩:=Eq.trans rfl rfl
@[simp] theorem ievalAt_mv {a0 : Operand} : ievalAt id (.mv a0) env H = ieval (.mv a0) env H:=Eq.trans rfl rfl
@[simp] theorem foot_mv {a0 : Operand} : foot id (.mv a0) env = ⟨[],[]⟩:=Eq.trans rfl rfl
@[simp] theorem ievalAt_build {a0 : List Value} {a1 : List (Nat × Nat × Operand)} : ievalAt id (.build a0 a1) env H = ieval (.build a0 a1) env H:=Eq.trans rfl rfl
@[simp] theorem foot_build {a0 : List Value} {a1 : List (Nat × Nat × Operand)} : foot id (.build a0 a1) env = ⟨[],[]⟩:=Eq.trans rfl rfl
@[simp] theorem ievalAt_load1 {a0 : Operand} : ievalAt id (.load1 a0) env H = ieval (.load1 a0) env H:=Eq.trans rfl rfl
@[simp] theorem ievalAt_loadN {a0 : Nat} {a1 : Operand} : ievalAt id (.loadN a0 a1) env H = ieval (.loadN a0 a1) env H:=Eq.trans rfl rfl
@[simp] theorem ievalAt_storeN {a0 : Nat} {a1 : Operand} {a2 : Operand} : ievalAt id (.storeN a0 a1 a2) env H = ieval (.storeN a0 a1 a2) env H:=Eq.trans rfl rfl
@[simp] theorem ievalAt_faddr {a0 : Nat} {a1 : Operand} : ievalAt id (.faddr a0 a1) env H = ieval (.faddr a0 a1) env H:=Eq.trans rfl rfl
@[simp] theorem foot_faddr {a0 : Nat} {a1 : Operand} : foot id (.faddr a0 a1) env = ⟨[],[]⟩:=Eq.trans rfl rfl
end
end Go.Abs
namespace Go.Abs
open Go Go.RowKit Go.ChangeShapes
def startR (n : Nat) : Rho:=fun b => if b < n then some ⟨b,0,0,0⟩ else none
section
variable {H : Type} {enc : TypeId × Value → H} {P : Program}
theorem post_below {f : Func} {s : ChangeSpec} {apart fresh handsOn again : Bool} {W W' : World} {args : Array Value} {v : Value} {ds gs : List (DataW H)} {before pa pv : List MemPlace}
  (hW : DataW.Whole enc P f.params.toList s.vars apart W args.toList ds gs before)
  (hres : ∀ (b : Nat) (sp : Nat → Bool) (hd : Bool),DataW.TrodAll enc P W' b sp hd f.resultTypes.toList (v.resultList f.resultTypes.size) (s.fn H (ds ++ gs)).results [])
  (hargs : ∀ sp : Nat → Bool,(∀ p ∈ before,sp p.block = true) → DataW.TrodAll enc P W' 0 sp true f.params.toList args.toList (s.fn H (ds ++ gs)).args pa)
  (hvars : ∀ sp : Nat → Bool,(∀ p ∈ before,sp p.block = true) → DataW.TrodVars enc P W' sp s.vars (s.fn H (ds ++ gs)).vars pv)
  (hps : before = pa ++ pv) (hb : Below W.heap.size W W')
  (hok : ∀ (j : Nat) (t : TypeId) (r : Value),f.resultTypes[j]? = some t → (v.resultList f.resultTypes.size)[j]? = some r → Value.okWide P W' .any 0 t r) :
  s.post enc P f apart fresh handsOn again W args v W':=by
 have hold : ∀ p ∈ before,(fun b => decide (b < W.heap.size)) p.block = true:=fun p hp => by simpa using hW.lt p hp
 have hlt : ∀ p ∈ before,p.block < W.heap.size:=fun p hp => by simpa using hW.lt p hp
 refine ⟨ds,gs,before,[],pa,pv,hW,hres _ _ _,hargs _ hold,hvars _ hold,World.keptBut_mono (fun p hp => ⟨hp,?_⟩) (hb.frame (· ∈ before)),fun _ => ?_⟩
 ·rw [hps,List.mem_append] at hp
  exact Or.inr hp
 ·obtain ⟨_,_,_,_,_,hz,hn⟩:=hW
  refine ⟨hok,_,_,([] ++ pa) ++ pv,⟨[] ++ pa,pv,trodAll_append (hargs _ (fun _ _ => rfl)) (hres _ _ _),hvars _ (fun _ _ => rfl),rfl,?_,?_⟩,?_⟩
  ·intro b off hp
   have hp' : MemPlace.cell b off ∈ before:=by rw [hps]; simpa using hp
   rw [hb.frozen (hlt _ hp')]
   exact hz b off hp'
  ·intro ha
   have:=hn ha
   rw [hps] at this
   simpa using this
  ·intro p hp _
   rw [hps]
   simpa using hp
end
theorem AFn.tells {P : Program} {f : FuncId} {args : List Value} {H : AH} {Q : AH → Prop} (h : AFn P f args H fun v H' => v = .bool true ∧ Q H') {ρ : Rho} {w : World} {args' : Array Value} (hs : Sim P w.heap.size ρ H w) (ha : VRs ρ args args'.toList) :
  Calls P f args' w fun e w' => e = .returned (.bool true) ∧ Below w.heap.size w w' :=
 (h.calls hs ha).mono fun e w' ⟨v',v,H',ρ',he,hs',hb,hv,hq,_⟩ => by
  subst hq
  cases hv
  exact ⟨he,hb⟩
end Go.Abs
/-
 THE ABSTRACT LAYER (24): loops that count up; slices of numbers.
-/
namespace Go.Abs
open Go
def roundsK (k N : Nat) (I : Nat → Env → AH → Prop) (Q : AExit → Env → AH → Prop) (e : AExit) (env : Env) (H : AH) : Prop :=
 match e with
 | .normal => k < N ∧ I (k + 1) env H
 | e => Q e env H
section
variable {P : Program} {n : Nat} {k N : Nat} {I : Nat → Env → AH → Prop} {Q : AExit → Env → AH → Prop} {env : Env} {H : AH}
@[simp] theorem roundsK_normal : roundsK k N I Q .normal env H = (k < N ∧ I (k + 1) env H):=Eq.trans rfl rfl
@[simp] theorem roundsK_exit {i : Nat} : roundsK k N I Q (.exit i) env H = Q (.exit i) env H:=Eq.trans rfl rfl
@[simp] theorem roundsK_ret : roundsK k N I Q .ret env H = Q .ret env H:=Eq.trans rfl rfl
theorem loop_upto {body : ACode} (N : Nat) (I : Nat → Env → AH → Prop) (h : I 0 env H)
  (hs : ∀ k env H,k ≤ N → I k env H → wpC P n body (roundsK k N I Q) env H) : wpC P n (.loop body) Q env H:=by
 refine loop_rule (fun j env H => ∃ k,k ≤ N ∧ j = N - k ∧ I k env H) ?_ (j:=N) ⟨0,by omega,by omega,h⟩
 rintro j env H ⟨k,hk,rfl,hI⟩
 refine wpC_mono body (fun e env H h => ?_) (hs k env H hk hI)
 cases e with
 | normal => exact ⟨N - (k + 1),by have:=h.1; omega,k + 1,h.1,rfl,h.2⟩
 | exit i => exact h
 | ret => exact h
end
end Go.Abs
/-
 THE ABSTRACT LAYER (25): slices that are only read.
-/
namespace Go.Abs
open Go
def Rd (H : AH) (sz : Nat) (v : Value) (n : Nat) (cells : List Value) : Prop :=
 (v = .slice none 0 0 ∧ n = 0 ∧ cells = []) ∨ (v = .slice (some ⟨0,0,none⟩) 0 0 ∧ n = 0 ∧ cells = []) ∨ ∃ b off cap cs,v = .slice (some ⟨b,off,none⟩) n cap ∧ n ≤ cap ∧ H.cells b = some cs ∧ cut cs off (n * sz) = some cells
theorem Rd.nil {H : AH} {sz : Nat} : Rd H sz (.slice none 0 0) 0 []:=.inl ⟨rfl,rfl,rfl⟩
theorem Rd.len {H : AH} {sz n : Nat} {v : Value} {cells : List Value} (h : Rd H sz v n cells) : cells.length = n * sz:=by
 rcases h with ⟨rfl,rfl,rfl⟩ | ⟨rfl,rfl,rfl⟩ | ⟨b,off,cap,cs,rfl,_,_,h⟩
 ·simp
 ·simp
 ·exact (cut_spec h).2.2.1
theorem Rd.kept {H H' : AH} {sz n : Nat} {v : Value} {cells : List Value} (h : Rd H sz v n cells) (hw : WF H) (hk : Keep [] H H') : Rd H' sz v n cells:=by
 rcases h with h | h | ⟨b,off,cap,cs,h1,h2,h3,h4⟩
 ·exact .inl h
 ·exact .inr (.inl h)
 ·refine .inr <| .inr ⟨b,off,cap,cs,h1,h2,?_,h4⟩
  have : H.blk b ≠ none:=fun hn => by simp [AH.cells,hn] at h3
  obtain ⟨B,hB⟩:=Option.ne_none_iff_exists'.1 this
  simp only [AH.cells,hk.blk b (hw.lt hB) (by simp)]
  exact h3
end Go.Abs
/-
 THE ABSTRACT LAYER (26): a statement's arguments,opened: numbers,truths,texts,structs and slices of them,slices of slices.
-/
namespace Go.Abs
open Go Go.RowKit Go.ChangeShapes
inductive Sh where
 | int (k : IntKind) | bool | str
 | slice (e : Sh) (sz : Nat)
 | nil
 | cons (m : Nat) (h t : Sh)
def okFs (P : Program) (f : Sh → TypeId → Bool) (tot : Nat) : List Field → Nat → Sh → Bool
 | [],off,.nil => off == tot
 | fd :: fs,off,.cons m s t => fd.offset == off && P.cellsOf fd.type == m && f s fd.type && okFs P f tot fs (off + m) t
 | _,_,_ => false
def repFs (e : TypeId) (m len : Nat) : List Field:=(List.range len).map fun i => { name:="",type:=e,offset:=i * m,embedded:=false,tag:="",pkgPath:="",byteOffset:=0 }
def okSh (P : Program) : Nat → Sh → TypeId → Bool
 | 0,_,_ => false
 | n + 1,s,t => match P.underlying t,s with
  | some (.int k'),.int k => decide (k = k')
  | some .bool,.bool => true
  | some .string,.str => true
  | some (.slice e),.slice s sz => P.cellsOf e == sz && decide (0 < sz) && okSh P n s e
  | some (.struct fs),s => okFs P (okSh P n) (P.cellsOf t) fs.toList 0 s
  | some (.array len e),s => okFs P (okSh P n) (P.cellsOf t) (repFs e (P.cellsOf e) len) 0 s
  | _,_ => false
def Is (H : AH) : Sh → List Value → Prop
 | .int k,cs => ∃ n,cs = [.int k n] ∧ (Lit.int k n).wf = true
 | .bool,cs => ∃ b,cs = [.bool b]
 | .str,cs => ∃ s,cs = [.string s] ∧ s.size ≤ maxLen
 | .nil,cs => cs = []
 | .cons m h t,cs => m ≤ cs.length ∧ Is H h (cs.take m) ∧ Is H t (cs.drop m)
 | .slice e sz,cs => ∃ v n cells,cs = [v] ∧ Rd H sz v n cells ∧ n ≤ maxLen ∧ ∀ i,i < n → Is H e ((cells.drop (i * sz)).take sz)
theorem Is.kept {H H' : AH} (hw : WF H) (hk : Keep [] H H') : ∀ (s : Sh) {cs : List Value},Is H s cs → Is H' s cs
 | .int _,_,h => h
 | .bool,_,h => h
 | .str,_,h => h
 | .nil,_,h => h
 | .cons m a b,_,h => ⟨h.1,Is.kept hw hk a h.2.1,Is.kept hw hk b h.2.2⟩
 | .slice e sz,_,⟨v,n,cells,h1,h2,h3,h4⟩ => ⟨v,n,cells,h1,h2.kept hw hk,h3,fun i hi => Is.kept hw hk e (h4 i hi)⟩
def RO (H : AH) : Prop:=∀ b B,H.blk b = some B → B.mine = false
def Opened (P : Program) (B0 : Nat) (w : World) (ρ : Rho) (H : AH) (cs : List Value) (K : AH → List Value → Prop) : Prop :=
 ∃ ρ' H' avs,Sim P B0 ρ' H' w ∧ RO H' ∧ ρ.le ρ' ∧ Keep [] H H' ∧ VRs ρ' avs cs ∧ ones avs ∧ K H' avs
section
variable {T : Type} {enc : TypeId × Value → T} {P : Program} {B0 : Nat} {w : World}
theorem Sim.arg {ρ : Rho} {H : AH} (h : Sim P B0 ρ H w) (hro : RO H) {blk base : Nat} {c : Array Value} {t : TypeId} {fr : Nat × Nat} (hb : w.heap[blk]? = some (.cells c t fr)) {cells cells' : List Value} (hv : VRs ρ cells cells') (ho : ones cells) (hc : ∀ i,i < cells.length → c[base + i]? = cells'[i]?) :
  Sim P B0 (ρ.add H.next ⟨blk,base,0,0⟩) (H.alloc (.row cells 0 false)) w ∧ ρ.le (ρ.add H.next ⟨blk,base,0,0⟩) ∧ RO (H.alloc (.row cells 0 false)):=by
 have hle : ρ.le (ρ.add H.next ⟨blk,base,0,0⟩):=Rho.le_add h.new_none
 have hbl:=(Array.getElem?_eq_some_iff.1 hb).1
 have hro' : RO (H.alloc (.row cells 0 false)):=by
  intro b B hB
  simp only [AH.alloc] at hB
  split at hB
  ·cases hB; rfl
  ·exact hro b B hB
 refine ⟨⟨?_,?_,?_,?_,h.base⟩,hle,hro'⟩
 ·intro b e he
  simp only [Rho.add] at he
  split at he
  ·rename_i hb; cases he; subst hb; exact ⟨Nat.lt_succ_self _,hbl⟩
  ·have:=h.fresh b e he; exact ⟨Nat.lt_succ_of_lt this.1,this.2⟩
 ·intro b B hB
  simp only [AH.alloc] at hB
  split at hB
  ·rename_i hb'
   cases hB; subst hb'
   exact ⟨⟨blk,base,0,0⟩,by simp [Rho.add],c,t,fr,cells',hb,hv.mono hle,ho,hc,fun h => by cases h⟩
  ·obtain ⟨e,he,hr⟩:=h.live b B hB
   exact ⟨e,hle _ _ he,hr.keep hle rfl⟩
 ·intro b b' B B' e e' hB hB' _ _ _
  exact .inr ⟨hro' b B hB,hro' b' B' hB'⟩
 ·intro g hg
  obtain ⟨e,he,h1,h2⟩:=h.glob g hg
  exact ⟨e,hle _ _ he,h1,h2⟩
theorem add_add (a : Addr) (i j : Nat) : (a.add i).add j = a.add (i + j):=by
 obtain ⟨b,o,sp⟩:=a
 simp only [Addr.add]
 by_cases h1 : i = 0 <;> by_cases h2 : j = 0 <;> simp [h1,h2,Nat.add_assoc]
theorem open_sh (n : Nat) : ∀ (s : Sh) (t : TypeId),okSh P n s t = true → ∀ (fuel : Nat) (cs : List Value) (x : DataW T × List MemPlace),DataW.trod enc P w 0 (fun _ => true) true fuel t cs = some x →
  ∀ (ρ : Rho) (H : AH),Sim P B0 ρ H w → RO H → Opened P B0 w ρ H cs fun H' avs => Is H' s avs:=by
 induction n with
 | zero => intro s t h; cases h
 | succ n ih =>
  intro s t hs fuel cs x hx ρ H hsim hro
  -- the fields,one after the other
  have low : ∀ (tot : Nat) (l : List Field) (off : Nat) (sh : Sh),okFs P (okSh P n) tot l off sh = true → off ≤ tot:=by
   intro tot l
   induction l with
   | nil => intro off sh h; cases sh <;> simp [okFs] at h; omega
   | cons fd l ihl =>
    intro off sh h
    cases sh <;> simp only [okFs,Bool.and_eq_true,Bool.false_eq_true] at h
    have:=ihl _ _ h.2
    omega
  have key : ∀ (tot m : Nat),cs.length = tot → ∀ (l : List Field) (off : Nat) (sh : Sh),okFs P (okSh P n) tot l off sh = true → (∀ f ∈ l,∃ y,DataW.trod enc P w 0 (fun _ => true) true m f.type ((cs.drop f.offset).take (P.cellsOf f.type)) = some y) →
    ∀ (ρ : Rho) (H : AH),Sim P B0 ρ H w → RO H → Opened P B0 w ρ H (cs.drop off) fun H' avs => Is H' sh avs:=by
   intro tot m hcl l
   induction l with
   | nil =>
    intro off sh h _ ρ H hsim hro
    cases sh <;> simp [okFs] at h
    subst h
    rw [List.drop_of_length_le (by omega)]
    exact ⟨ρ,H,[],hsim,hro,Rho.le_refl _,.refl,.nil,(by intro u hu; cases hu),rfl⟩
   | cons fd l ihl =>
    intro off sh h hall ρ H hsim hro
    cases sh <;> simp only [okFs,Bool.and_eq_true,beq_iff_eq,Bool.false_eq_true] at h
    rename_i m' s' t'
    obtain ⟨⟨⟨h1,h2⟩,h3⟩,h4⟩:=h
    have hlow:=low _ _ _ _ h4
    obtain ⟨y,hy⟩:=hall fd (by simp)
    rw [h1,h2] at hy
    obtain ⟨ρ1,H1,avs,s1,s2,s3,s4,s5,s6,s7⟩:=ih s' fd.type h3 m _ y hy ρ H hsim hro
    obtain ⟨ρ2,H2,avs2,t1,t2,t3,t4,t5,t6,t7⟩:=ihl (off + m') t' h4 (fun f hf => hall f (by simp [hf])) ρ1 H1 s1 s2
    have l1:=s5.length
    have hl1 : avs.length = m':=by rw [← l1]; simp; omega
    have hcs : cs.drop off = (cs.drop off).take m' ++ cs.drop (off + m'):=by rw [← List.drop_drop,List.take_append_drop]
    rw [hcs]
    refine ⟨ρ2,H2,avs ++ avs2,t1,t2,Rho.le_trans s3 t3,s4.trans' t4,(s5.mono t3).append t5,?_,by simp; omega,?_,?_⟩
    ·intro u hu
     rcases List.mem_append.1 hu with h | h
     ·exact s6 u h
     ·exact t6 u h
    ·rw [← hl1,List.take_left]; exact Is.kept s1.wf t4 s' s7
    ·rw [← hl1,List.drop_left]; exact t7
  unfold okSh at hs
  split at hs
  ·rename_i k' k ht
   have hk : k = k':=by simpa using hs
   subst hk
   obtain ⟨z,rfl,_,hwf⟩:=DataW.trod_int ht hx
   exact ⟨ρ,H,[.int k z],hsim,hro,Rho.le_refl _,.refl,.cons (.int _ _) .nil,by intro u hu; simp at hu; subst hu; rfl,z,rfl,hwf⟩
  ·rename_i ht
   obtain ⟨z,rfl,_⟩:=DataW.trod_bool ht hx
   exact ⟨ρ,H,[.bool z],hsim,hro,Rho.le_refl _,.refl,.cons (.bool _) .nil,by intro u hu; simp at hu; subst hu; rfl,z,rfl⟩
  ·rename_i ht
   obtain ⟨z,rfl,_,hz⟩:=DataW.trod_string ht hx
   exact ⟨ρ,H,[.string z],hsim,hro,Rho.le_refl _,.refl,.cons (.string _) .nil,by intro u hu; simp at hu; subst hu; rfl,z,rfl,hz⟩
  ·rename_i e s sz ht
   simp only [Bool.and_eq_true,beq_iff_eq,decide_eq_true_eq] at hs
   obtain ⟨⟨hsz,hpos⟩,hse⟩:=hs
   rcases DataW.trod_slice ht hx with ⟨rfl,_⟩ | ⟨a,len,cap,elems,rest,m,_,rfl,_,hb,hl,hm,hlen,hel,hsp,hns⟩
   ·exact ⟨ρ,H,[.slice none 0 0],hsim,hro,Rho.le_refl _,.refl,.cons .nilSlice .nil,by intro u hu; simp at hu; subst hu; rfl,_,0,[],rfl,.nil,Nat.zero_le _,fun i hi => by omega⟩
   rw [hsz] at hel hsp
   by_cases hc0 : cap = 0
   ·obtain rfl : len = 0:=by omega
    subst hc0
    exact ⟨ρ,H,[.slice (some ⟨0,0,none⟩) 0 0],hsim,hro,Rho.le_refl _,.refl,.cons (.zslice _ _) .nil,by intro u hu; simp at hu; subst hu; rfl,_,0,[],rfl,.inr (.inl ⟨rfl,rfl,rfl⟩),Nat.zero_le _,fun i hi => by omega⟩
   -- the elements,one after the other
   have each : ∀ k,k ≤ len → ∃ acs : List Value,acs.length = k * sz ∧ (∀ j,j < k * sz → w.cell? (a.add j) = acs[j]?) ∧
     Opened P B0 w ρ H acs fun H' avs => ∀ i,i < k → Is H' s ((avs.drop (i * sz)).take sz):=by
    intro k
    induction k with
    | zero => intro _; exact ⟨[],by simp,fun j hj => by omega,ρ,H,[],hsim,hro,Rho.le_refl _,.refl,.nil,(by intro u hu; cases hu),fun i hi => by omega⟩
    | succ k ihk =>
     intro hk
     obtain ⟨acs,h1,h2,ρ1,H1,avs,s1,s2,s3,s4,s5,s6,s7⟩:=ihk (by omega)
     have hget:=hel k (by omega)
     rw [List.getElem?_eq_getElem (show k < elems.length by omega),Option.bind_eq_some_iff] at hget
     obtain ⟨cs',hcs',htr⟩:=hget
     obtain ⟨_,hcl,hcc⟩:=World.cells?_some hcs'
     obtain ⟨ρ2,H2,avs2,t1,t2,t3,t4,t5,t6,t7⟩:=ih s e hse m cs' _ htr ρ1 H1 s1 s2
     have l1:=s5.length
     have l2:=t5.length
     refine ⟨acs ++ cs',by simp [h1,hcl,Nat.add_mul],?_,ρ2,H2,avs ++ avs2,t1,t2,Rho.le_trans s3 t3,s4.trans' t4,(s5.mono t3).append t5,?_,?_⟩
     ·intro j hj
      by_cases hj2 : j < k * sz
      ·rw [List.getElem?_append_left (show j < acs.length by omega)]; exact h2 j hj2
      ·rw [List.getElem?_append_right (show acs.length ≤ j by omega),h1]
       have hj3 : j < k * sz + sz:=by rw [Nat.add_mul] at hj; omega
       have:=hcc (j - k * sz) (by omega)
       rw [← this,add_add]
       congr 2
       omega
     ·intro u hu
      rcases List.mem_append.1 hu with h | h
      ·exact s6 u h
      ·exact t6 u h
     ·intro i hi
      by_cases hik : i < k
      ·have hmul : (i + 1) * sz ≤ k * sz:=Nat.mul_le_mul_right _ hik
       rw [Nat.add_mul] at hmul
       rw [List.drop_append_of_le_length (by omega),List.take_append_of_le_length (by simp; omega)]
       exact Is.kept s1.wf t4 s (s7 i hik)
      ·obtain rfl : i = k:=by omega
       have hal : avs.length = i * sz:=by omega
       rw [← hal,List.drop_left,List.take_of_length_le (by omega)]
       exact t7
   obtain ⟨acs,h1,h2,ρ1,H1,avs,s1,s2,s3,s4,s5,s6,s7⟩:=each len (Nat.le_refl _)
   -- the block
   have hblk : ∃ v,w.cell? a = some v:=by
    have hz : ∀ (cs' : List Value),w.cells? 0 a sz = some cs' → ∃ v,w.cell? a = some v:=by
     intro cs' hcs'
     obtain ⟨_,hcl,hcc⟩:=World.cells?_some hcs'
     have:=hcc 0 hpos
     have ha : a.add 0 = a:=by cases a; rfl
     rw [ha] at this
     exact ⟨_,this.trans (List.getElem?_eq_getElem (by omega))⟩
    by_cases hl0 : len = 0
    ·obtain ⟨q1,q2⟩:=hsp rfl
     have:=q2 0 (by omega)
     rw [List.getElem?_eq_getElem (show 0 < rest.length by omega),Option.bind_eq_some_iff] at this
     obtain ⟨cs',hcs',_⟩:=this
     have ha : a.add ((len + 0) * sz) = a:=by subst hl0; cases a; simp [Addr.add]
     rw [ha] at hcs'
     exact hz cs' hcs'
    ·have:=hel 0 (by omega)
     rw [List.getElem?_eq_getElem (show 0 < elems.length by omega),Option.bind_eq_some_iff] at this
     obtain ⟨cs',hcs',_⟩:=this
     have ha : a.add (0 * sz) = a:=by cases a; simp [Addr.add]
     rw [ha] at hcs'
     exact hz cs' hcs'
   obtain ⟨blk,off,spot⟩:=a
   obtain ⟨v0,hv0⟩:=hblk
   have hspot : spot = none:=by simpa using World.cell?_spot hv0
   subst hspot
   cases hheap : w.heap[blk]? with
   | none => simp [World.cell?,hheap] at hv0
   | some o =>
    cases o with
    | cells c tt fr =>
     have l1:=s5.length
     obtain ⟨u1,u2,u3⟩:=s1.arg s2 hheap (base:=off) s5 s6 (fun i hi => by
      have:=h2 i (by omega)
      rw [Go.WideShapes.add_plain] at this
      simpa [World.cell?,hheap] using this)
     refine ⟨_,_,[.slice (some ⟨H1.next,0,none⟩) len cap],u1,u3,Rho.le_trans s3 u2,s4.trans' .alloc,?_,by intro u hu; simp at hu; subst hu; rfl,_,len,avs,rfl,?_,by omega,fun i hi => Is.kept s1.wf .alloc s (s7 i hi)⟩
     ·refine .cons ?_ .nil
      have:=VR.slice (ρ:=ρ1.add H1.next ⟨blk,off,0,0⟩) H1.next 0 ⟨blk,off,0,0⟩ len cap (by simp [Rho.add]) hl
      simpa using this
     ·exact .inr (.inr ⟨H1.next,0,cap,avs,rfl,hl,by simp,by rw [cut_eq (show 0 + len * sz ≤ avs.length by omega),List.drop_zero,List.take_of_length_le (by omega)]⟩)
    | _ => simp [World.cell?,hheap] at hv0
  ·rename_i _ fs ht
   obtain ⟨xs,m,_,_,hcl,hxl,hf⟩:=DataW.trod_struct ht hx
   have hall : ∀ f ∈ fs.toList,∃ y,DataW.trod enc P w 0 (fun _ => true) true m f.type ((cs.drop f.offset).take (P.cellsOf f.type)) = some y:=by
    intro f hf'
    obtain ⟨i,hi⟩:=List.getElem?_of_mem hf'
    have hi' : fs[i]? = some f:=by simpa using hi
    have:=hf i f hi'
    have hlt : i < xs.length:=by rw [hxl]; exact (Array.getElem?_eq_some_iff.1 hi').1
    exact ⟨_,this.trans (List.getElem?_eq_getElem hlt)⟩
   have:=key _ m hcl fs.toList 0 _ hs hall ρ H hsim hro
   simpa using this
  ·rename_i _ len e ht
   obtain ⟨xs,m,_,_,hcl,hxl,hel⟩:=DataW.trod_array ht hx
   have hall : ∀ f ∈ repFs e (P.cellsOf e) len,∃ y,DataW.trod enc P w 0 (fun _ => true) true m f.type ((cs.drop f.offset).take (P.cellsOf f.type)) = some y:=by
    intro f hf
    obtain ⟨i,hi,rfl⟩:=List.mem_map.1 hf
    have hi' : i < len:=by simpa using hi
    exact ⟨_,(hel i hi').trans (List.getElem?_eq_getElem (by omega))⟩
   have:=key _ m hcl (repFs e (P.cellsOf e) len) 0 _ hs hall ρ H hsim hro
   simpa using this
  ·cases hs
end
end Go.Abs
/-
 THE ABSTRACT LAYER (27): all arguments of a statement's function; the row's last step.
-/
namespace Go.Abs
open Go Go.RowKit Go.ChangeShapes
section
variable {T : Type} {enc : TypeId × Value → T} {P : Program} {B0 : Nat} {w : World}
def Sh.single : Sh → Bool
 | .nil | .cons _ _ _ => false
 | _ => true
def okArgs (P : Program) (n : Nat) : List Sh → List TypeId → Bool
 | [],[] => true
 | s :: ss,t :: ts => okSh P n s t && okArgs P n ss ts
 | _,_ => false
def IsArg (H : AH) (s : Sh) (v : Value) : Prop:=if s.single then Is H s [v] else ∃ cs,v = .agg cs ∧ Is H s cs.toList
theorem IsArg.kept {H H' : AH} (hw : WF H) (hk : Keep [] H H') {s : Sh} {v : Value} (h : IsArg H s v) : IsArg H' s v:=by
 unfold IsArg at *
 split
 ·rename_i hs; rw [if_pos hs] at h; exact Is.kept hw hk s h
 ·rename_i hs; rw [if_neg hs] at h; obtain ⟨cs,h1,h2⟩:=h; exact ⟨cs,h1,Is.kept hw hk s h2⟩
def IsAll (H : AH) : List Sh → List Value → Prop
 | [],[] => True
 | s :: ss,v :: vs => IsArg H s v ∧ IsAll H ss vs
 | _,_ => False
theorem IsAll.cons_inv {H : AH} {s : Sh} {ss : List Sh} {vs : List Value} (h : IsAll H (s :: ss) vs) : ∃ v l,vs = v :: l ∧ IsArg H s v ∧ IsAll H ss l:=by
 cases vs with
 | nil => exact h.elim
 | cons v l => exact ⟨v,l,rfl,h.1,h.2⟩
theorem IsAll.nil_inv {H : AH} {vs : List Value} (h : IsAll H [] vs) : vs = []:=by
 cases vs with
 | nil => rfl
 | cons v l => exact h.elim
theorem okFs_single {f : Sh → TypeId → Bool} {tot off : Nat} {l : List Field} {s : Sh} (hs : s.single = true) : okFs P f tot l off s = false:=by
 cases s <;> cases l <;> simp [Sh.single,okFs] at hs ⊢
theorem okWide_single {n : Nat} {s : Sh} {t : TypeId} {r : Reach} {b : Nat} {v : Value} (hs : s.single = true) (ho : okSh P n s t = true) (h : Value.okWide P w r b t v) : v.cells.toList = [v]:=by
 cases v with
 | agg cs =>
  exfalso
  cases n with
  | zero => cases ho
  | succ n =>
   unfold okSh at ho
   split at ho
   ·rename_i hu; simp [Value.okWide,hu,Cell.okWide,Cell.ok] at h
   ·rename_i hu; simp [Value.okWide,hu,Cell.okWide,Cell.ok] at h
   ·rename_i hu; simp [Value.okWide,hu,Cell.okWide,Cell.ok] at h
   ·rename_i hu; simp [Value.okWide,hu,Cell.okWide,Cell.ok] at h
   ·rw [okFs_single hs] at ho; cases ho
   ·rw [okFs_single hs] at ho; cases ho
   ·cases ho
 | _ => rfl
theorem okWide_agg {n : Nat} {s : Sh} {t : TypeId} {r : Reach} {b : Nat} {v : Value} (hs : s.single = false) (ho : okSh P n s t = true) (h : Value.okWide P w r b t v) : ∃ cs,v = .agg cs:=by
 cases n with
 | zero => cases ho
 | succ n =>
  unfold okSh at ho
  split at ho
  ·cases hs
  ·cases hs
  ·cases hs
  ·cases hs
  ·rename_i fs _ hu
   cases v with
   | agg cs => exact ⟨cs,rfl⟩
   | _ => exfalso; simp [Value.okWide,hu,Cell.okWide,Cell.ok] at h
  ·rename_i len e _ hu
   cases v with
   | agg cs => exact ⟨cs,rfl⟩
   | _ => exfalso; simp [Value.okWide,hu,Cell.okWide,Cell.ok] at h
  ·cases ho
def OpenedA (P : Program) (B0 : Nat) (w : World) (ρ : Rho) (H : AH) (vs : List Value) (K : AH → List Value → Prop) : Prop :=
 ∃ ρ' H' avs,Sim P B0 ρ' H' w ∧ RO H' ∧ ρ.le ρ' ∧ Keep [] H H' ∧ VRs ρ' avs vs ∧ K H' avs
theorem open_args (n : Nat) (b : Nat) : ∀ (ss : List Sh) (ts : List TypeId) (vs : List Value) (ds : List (DataW T)) (p : List MemPlace),okArgs P n ss ts = true → DataW.TrodAll enc P w 0 (fun _ => true) true ts vs ds p →
  (∀ (j : Nat) t v,ts[j]? = some t → vs[j]? = some v → Value.okWide P w .any b t v) → ∀ (ρ : Rho) (H : AH),Sim P B0 ρ H w → RO H → OpenedA P B0 w ρ H vs fun H' avs => IsAll H' ss avs
 | [],[],vs,ds,p,_,h,_,ρ,H,hs,hro => by
  cases vs <;> cases ds <;> simp [DataW.TrodAll] at h
  exact ⟨ρ,H,[],hs,hro,Rho.le_refl _,.refl,.nil,trivial⟩
 | s :: ss,t :: ts,vs,ds,p,ho,h,hval,ρ,H,hs,hro => by
  obtain ⟨v,vs',d,ds',p',q',rfl,rfl,rfl,h1,h2⟩:=trodAll_cons h
  simp only [okArgs,Bool.and_eq_true] at ho
  obtain ⟨ho2,ho3⟩:=ho
  obtain ⟨fuel,hf⟩:=h1
  cases hsg : s.single with
  | true =>
   rw [okWide_single hsg ho2 (hval 0 t v rfl rfl)] at hf
   obtain ⟨ρ1,H1,avs,s1,s2,s3,s4,s5,s6,s7⟩:=open_sh n s t ho2 fuel [v] _ hf ρ H hs hro
   obtain ⟨ρ2,H2,avs2,t1,t2,t3,t4,t5,t7⟩:=open_args n b ss ts vs' ds' q' ho3 h2 (fun j t v hj hv => hval (j + 1) t v hj hv) ρ1 H1 s1 s2
   have l1:=s5.length
   match avs,l1,s5,s6,s7 with
   | [a],_,s5,s6,s7 =>
    exact ⟨ρ2,H2,a :: avs2,t1,t2,Rho.le_trans s3 t3,s4.trans' t4,(s5.mono t3).append t5,IsArg.kept s1.wf t4 (by unfold IsArg; rw [if_pos hsg]; exact s7),t7⟩
  | false =>
   obtain ⟨cs,rfl⟩:=okWide_agg hsg ho2 (hval 0 t v rfl rfl)
   obtain ⟨ρ1,H1,avs,s1,s2,s3,s4,s5,s6,s7⟩:=open_sh n s t ho2 fuel cs.toList _ hf ρ H hs hro
   obtain ⟨ρ2,H2,avs2,t1,t2,t3,t4,t5,t7⟩:=open_args n b ss ts vs' ds' q' ho3 h2 (fun j t v hj hv => hval (j + 1) t v hj hv) ρ1 H1 s1 s2
   have hagg : VR ρ1 (.agg avs.toArray) (.agg cs):=by simpa using VR.mk_agg s5 s6
   exact ⟨ρ2,H2,.agg avs.toArray :: avs2,t1,t2,Rho.le_trans s3 t3,s4.trans' t4,.cons (hagg.mono t3) t5,IsArg.kept s1.wf t4 (by unfold IsArg; rw [if_neg (by simp [hsg])]; exact ⟨_,rfl,by simpa using s7⟩),t7⟩
 | [],_ :: _,_,_,_,ho,_,_,_,_,_,_ => by cases ho
 | _ :: _,[],_,_,_,ho,_,_,_,_,_,_ => by cases ho
theorem stays_all (hl : laidOutB P = true) {W W' : World} (hb : Below W.heap.size W W') {sp : Nat → Bool} : ∀ (ts : List TypeId) (vs : List Value) (ds : List (DataW T)) (p : List MemPlace),(ts.all fun t => P.readableRec t && decide (t < P.types.size)) = true →
  DataW.TrodAll enc P W 0 (fun _ => true) true ts vs ds p → (∀ x ∈ p,x.block < W.heap.size) → (∀ x ∈ p,sp x.block = true) → DataW.TrodAll enc P W' 0 sp true ts vs ds p
 | [],vs,ds,p,_,h,_,_ => by
  cases vs <;> cases ds <;> simp [DataW.TrodAll] at h
  subst h
  exact rfl
 | t :: ts,vs,ds,p,hr,h,hlt,hsp => by
  obtain ⟨v,vs',d,ds',p',q',rfl,rfl,rfl,h1,h2⟩:=trodAll_cons h
  simp only [List.all_cons,Bool.and_eq_true,decide_eq_true_eq] at hr
  obtain ⟨⟨hr1,hr2⟩,hr3⟩:=hr
  refine ⟨p',q',WideElems.Trod_stays hl hr1 hr2 h1 (fun x hx => hb.same (hlt x (List.mem_append_left _ hx))) (fun x hx => hsp x (List.mem_append_left _ hx)),?_,rfl⟩
  exact stays_all hl hb ts vs' ds' q' (by simpa using hr3) h2 (fun x hx => hlt x (List.mem_append_right _ hx)) (fun x hx => hsp x (List.mem_append_right _ hx))
end
end Go.Abs
