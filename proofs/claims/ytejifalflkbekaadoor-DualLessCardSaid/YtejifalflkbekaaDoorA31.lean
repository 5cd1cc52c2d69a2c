/-
  THE ABSTRACT LAYER (28): compiled code, run: what is reckoned on closed data is what a walk comes to.
-/
import Derived.Test.YtejifalflkbekaaDoorA22
import Derived.LaidMore
import Derived.OpenShut
set_option linter.unusedSimpArgs false
set_option linter.unusedVariables false
namespace Go.Abs
open Go
def tgt (env : Env) : IOp → Option Nat
 | .store1 a _ | .storeN _ a _ => match aval env a with
  | some (.pointer (some ⟨b,_,_⟩)) => some b
  | _ => none
 | .app _ _ _ s _ => match aval env s with
  | some (.slice (some ⟨b,_,_⟩) _ _) => some b
  | _ => none
 | .copy _ d _ => match aval env d with
  | some (.slice (some ⟨b,_,_⟩) _ _) => some b
  | _ => none
 | .clearS _ d => match aval env d with
  | some (.slice (some ⟨b,_,_⟩) _ _) => some b
  | _ => none
 | _ => none
def loOf (env : Env) (op : IOp) (lo : Nat) : Nat :=
 match tgt env op with
 | some b => if b < lo then b else lo
 | none => lo
abbrev CallR:=Value → List Value → AH → Nat → Option (Value × AH × Nat)
def evO (call : CallR) (draw : Bool) : List AOper → Env → AH → Nat → Option (Env × AH × Nat)
 | [],env,H,lo => some (env,H,lo)
 | o :: rest,env,H,lo =>
  match guardA env o.guard with
  | none => none
  | some false => evO call draw rest (put env o.dst undef) H lo
  | some true =>
   match o.op with
   | .call f args => match aval env f,avals env args with
    | some fv,some vs =>
     match call fv vs H (if draw then H.next else lo) with
     | some (v,H',lo') => if draw && decide (lo' < H.next) then none else evO call draw rest (put env o.dst v) H' (if lo' < lo then lo' else lo)
     | none => none
    | _,_ => none
   | .invoke r tbl args => match aval env r,avals env args with
    | some (.iface t (.pointer (some p))),some vs => match lookT tbl t with
     | some g => match call (.func (.func g) #[] #[]) (.pointer (some p) :: vs) H (if draw then H.next else lo) with
      | some (v,H',lo') => if draw && decide (lo' < H.next) then none else evO call draw rest (put env o.dst v) H' (if lo' < lo then lo' else lo)
      | none => none
     | none => none
    | _,_ => none
   | op => match ieval op env H with
    | some (v,H') => evO call draw rest (put env o.dst v) H' (loOf env op lo)
    | none => none
def apartB (F G : Foot) : Bool:=F.w.all (fun b => !G.r.contains b && !G.w.contains b) && F.r.all fun b => !G.w.contains b
def chkB (cf : List Nat) (log : List (Nat × Foot)) (F : Foot) : Bool:=log.all fun e => !cf.contains e.1 || apartB F e.2
def lowsOf : List Nat → Nat → Nat
 | [],lo => lo
 | b :: l,lo => lowsOf l (if b < lo then b else lo)
def evM (N : Nat) : List (Nat × AOper × List Nat) → List (Nat × Foot) → Env → AH → Nat → Option (Env × AH × Nat)
 | [],_,env,H,lo => some (env,H,lo)
 | (i,o,cf) :: rest,log,env,H,lo => match guardA env o.guard with
  | none => none
  | some false => evM N rest ((i,⟨[],[]⟩) :: log) (put env o.dst undef) H lo
  | some true => match ievalAt (N + i) o.op env H with
   | none => none
   | some (v,H') => if (chkB cf log (foot (N + i) o.op env) && decide (N + i < H.next) && !o.op.isC) = true then evM N rest ((i,foot (N + i) o.op env) :: log) (put env o.dst v) H' (lowsOf (foot (N + i) o.op env).w lo) else none
def evL (step : Env → AH → Nat → Option (AExit × Env × AH × Nat)) : Nat → Env → AH → Nat → Option (AExit × Env × AH × Nat)
 | 0,_,_,_ => none
 | k + 1,env,H,lo => match step env H lo with
  | some (.normal,env',H',lo') => evL step k env' H' lo'
  | r => r
def evR (l : Nat) (env : Env) (lo : Nat) (H : AH) : Option (AExit × Env × AH × Nat) :=
 match H.blk l with
 | some (.loop L) => match L.state with
  | .busy => none
  | _ => match L.pending with
   | none => some (.normal,env,H.set l (.loop { L with state:=.exhausted }),lo)
   | some .normal => none
   | some e => some (e,env,H.set l (.loop { L with state:=.exhausted }),lo)
 | _ => none
def evC (call : CallR) (k n : Nat) : ACode → Env → AH → Nat → Option (AExit × Env × AH × Nat)
 | .skip,env,H,lo => some (.normal,env,H,lo)
 | .region ops draw,env,H,lo => match evO call draw ops env H lo with
  | some (env',H',lo') => some (.normal,env',H',lo')
  | none => none
 | .seq a b,env,H,lo => match evC call k n a env H lo with
  | some (.normal,env',H',lo') => evC call k n b env' H' lo'
  | r => r
 | .cond c a b,env,H,lo => match aval env c with
  | some (.bool true) => evC call k n a env H lo
  | some (.bool false) => evC call k n b env H lo
  | _ => none
 | .block id a,env,H,lo => match evC call k n a env H lo with
  | some (.exit i,env',H',lo') => some (if i = id then .normal else .exit i,env',H',lo')
  | r => r
 | .loop a,env,H,lo => evL (evC call k n a) k env H lo
 | .rangeFunc f ps a b,env,H,lo => match aval env f with
  | some (.func (.func g) p q) => match call (.func (.func g) p q) [.func (.yield H.next) #[] #[]] (H.alloc (.loop { state:=.ready,pending:=none,env,params:=ps,assign:=a,body:=b,n })) lo with
   | some (_,H',lo') => evR H.next env lo' H'
   | none => none
  | _ => none
 | .exit id,env,H,lo => some (.exit id,env,H,lo)
 | .ret,env,H,lo => some (.ret,env,H,lo)
 | .mix m ops,env,H,lo => match evM H.next ops [] env (H.room m) lo with
  | some (env',H',lo') => some (.normal,env',H',lo')
  | none => none
def lookF : List (Nat × AFunc) → Nat → Option AFunc
 | [],_ => none
 | (g,F) :: rest,f => if g = f then some F else lookF rest f
def evY (call : CallR) (k : Nat) (l : Nat) (args : List Value) (H : AH) (lo : Nat) : Option (Value × AH × Nat) :=
 match H.blk l with
 | some (.loop L) => if args.length = L.params.length then
   match evC call k L.n L.assign (putAll L.env L.params args) H lo with
   | some (.normal,env1,H1,lo1) => match H1.blk l with
    | some (.loop L1) => match L1.state with
     | .ready => match evC call k L.n L.body env1 (H1.set l (.loop { L1 with state:=.busy })) (if l < lo1 then l else lo1) with
      | some (e,_,H2,lo2) => match H2.blk l with
       | some (.loop L2) => match e with
        | .normal => some (.bool true,H2.set l (.loop { L2 with state:=.ready,pending:=none }),if l < lo2 then l else lo2)
        | e => some (.bool false,H2.set l (.loop { L2 with state:=.done,pending:=some e }),if l < lo2 then l else lo2)
       | _ => none
      | none => none
     | _ => none
    | _ => none
   | _ => none
  else none
 | _ => none
def extF (k : Bool) : AFunc:=⟨0,[],.exit (if k then 900001 else 900002)⟩
def isExt (F : AFunc) : Option Bool :=
 match F.code with
 | .exit 900001 => some true
 | .exit 900002 => some false
 | _ => none
def evG (call : CallR) (T : List (Nat × AFunc)) (k : Nat) (f : FuncId) (args : List Value) (H : AH) (lo : Nat) : Option (Value × AH × Nat) :=
 match lookF T f with
 | some F => match isExt F with
  | some x => (extV x args).map fun v => (v,H,lo)
  | none => if args.length ≤ F.n then
   match evC call k F.n F.code (fun t => args[t]?) H lo with
   | some (.exit _,_,_,_) => none
   | some (_,env,H',lo') => match ressOf env H' F.results with
    | some vs => some (retV vs,H',lo')
    | none => none
   | none => none
  else none
 | none => none
def evF (T : List (Nat × AFunc)) (k : Nat) : Nat → CallR
 | 0 => fun _ _ _ _ => none
 | d + 1 => fun fv args H lo => match fv with
  | .func (.func f) first cap => evG (evF T k d) T k f (first.toList ++ args ++ cap.toList) H lo
  | .func (.yield l) first cap => if first.size = 0 ∧ cap.size = 0 then evY (evF T k d) k l args H lo else none
  | _ => none
structure Low (H : AH) (lo : Nat) (H' : AH) (lo' : Nat) : Prop where
 lo : lo' ≤ lo
 next : H.next ≤ H'.next
 wf : WF H'
 blk : ∀ b,b < H.next → b < lo' → H'.blk b = H.blk b
theorem Low.refl {H : AH} {lo : Nat} (h : WF H) : Low H lo H lo:=⟨Nat.le_refl _,Nat.le_refl _,h,fun _ _ _ => rfl⟩
theorem Low.trans {H H1 H2 : AH} {a b c : Nat} (h : Low H a H1 b) (k : Low H1 b H2 c) : Low H a H2 c :=
 ⟨Nat.le_trans k.lo h.lo,Nat.le_trans h.next k.next,k.wf,fun x hx hl => by rw [k.blk x (Nat.lt_of_lt_of_le hx h.next) hl,h.blk x hx (Nat.lt_of_lt_of_le hl k.lo)]⟩
theorem writeA_other {H H' : AH} {b off : Nat} {news : List Value} (h : writeA H b off news = some H') : H'.next = H.next ∧ ∀ a,a ≠ b → H'.blk a = H.blk a:=by
 unfold writeA at h
 split at h
 ·split at h
  ·cases h; exact ⟨rfl,fun a ha => AH.set_blk_ne ha⟩
  ·cases h
 ·cases h
theorem appendA_other {H H' : AH} {elem sz bytes m : Nat} {s v : Value} {news : List Value} (h : appendA H elem sz bytes s m news = some (v,H')) :
  H.next ≤ H'.next ∧ ∀ a,a < H.next → (∀ b off sp n c,s = .slice (some ⟨b,off,sp⟩) n c → a ≠ b) → H'.blk a = H.blk a:=by
 unfold appendA at h
 repeat' split at h
 all_goals first
  | (cases h; done)
  | (cases h; exact ⟨Nat.le_refl _,fun _ _ _ => rfl⟩)
  | (cases h; exact ⟨by simp,fun a ha _ => AH.alloc_blk_ne (Nat.ne_of_lt ha)⟩)
  | (obtain ⟨H2,h1,h2⟩:=opt_map_some h; cases h2; obtain ⟨q1,q2⟩:=writeA_other h1; exact ⟨by omega,fun a ha hb => q2 a (hb _ _ _ _ _ rfl)⟩)
  | (cases h; exact ⟨by simp,fun a ha hb => by rw [AH.alloc_blk_ne (by simpa using Nat.ne_of_lt ha),AH.kill_blk_ne (hb _ _ _ _ _ rfl)]⟩)
theorem ieval_other {op : IOp} {env : Env} {H H' : AH} {v : Value} (h : ieval op env H = some (v,H')) :
  H.next ≤ H'.next ∧ ∀ a,a < H.next → tgt env op ≠ some a → H'.blk a = H.blk a:=by
 by_cases h0 : op.cls = 0
 ·obtain ⟨rfl,_⟩:=ieval_pure h0 h; exact ⟨Nat.le_refl _,fun _ _ _ => rfl⟩
 by_cases h1 : op.cls = 1
 ·obtain rfl:=ieval_read h1 h; exact ⟨Nat.le_refl _,fun _ _ _ => rfl⟩
 cases op <;> try (first | exact absurd rfl h0 | exact absurd rfl h1)
 all_goals simp only [ieval] at h
 case new => cases h; exact ⟨by simp,fun a ha _ => AH.alloc_blk_ne (Nat.ne_of_lt ha)⟩
 case box =>
  split at h
  ·obtain ⟨cs,_,h2⟩:=opt_map_some h; cases h2; exact ⟨by simp,fun a ha _ => AH.alloc_blk_ne (Nat.ne_of_lt ha)⟩
  ·cases h
 case bslice => obtain ⟨cs,_,h2⟩:=opt_map_some h; cases h2; exact ⟨by simp,fun a ha _ => AH.alloc_blk_ne (Nat.ne_of_lt ha)⟩
 case mks =>
  split at h
  ·split at h
   ·cases h; exact ⟨by simp,fun a ha _ => AH.alloc_blk_ne (Nat.ne_of_lt ha)⟩
   ·cases h
  ·cases h
 case store1 =>
  split at h
  ·rename_i h1 h2
   split at h
   ·obtain ⟨H2,h3,h4⟩:=opt_map_some h; cases h4; obtain ⟨q1,q2⟩:=writeA_other h3
    exact ⟨by omega,fun a ha hn => q2 a fun hab => hn (by subst hab; simp only [tgt,h1])⟩
   ·cases h
  ·cases h
 case storeN =>
  split at h
  ·rename_i h1 h2
   split at h
   ·obtain ⟨H2,h3,h4⟩:=opt_map_some h; cases h4; obtain ⟨q1,q2⟩:=writeA_other h3
    exact ⟨by omega,fun a ha hn => q2 a fun hab => hn (by subst hab; simp only [tgt,h1])⟩
   ·cases h
  ·cases h
 case app =>
  split at h
  ·rename_i h1 h2
   split at h
   ·obtain ⟨q1,q2⟩:=appendA_other h
    refine ⟨q1,fun a ha hn => q2 a ha fun b off sp n c hs hab => hn ?_⟩
    subst hab; subst hs; simp only [tgt,h1]
   ·cases h
  ·cases h
 case copy =>
  split at h
  ·cases h; exact ⟨Nat.le_refl _,fun _ _ _ => rfl⟩
  ·rename_i h1 h2
   split at h
   ·cases h; exact ⟨Nat.le_refl _,fun _ _ _ => rfl⟩
   ·split at h
    ·obtain ⟨H2,h3,h4⟩:=opt_map_some h; cases h4; obtain ⟨q1,q2⟩:=writeA_other h3
     exact ⟨by omega,fun a ha hn => q2 a fun hab => hn (by subst hab; simp only [tgt,h1])⟩
    ·cases h
  ·cases h
 case clearS =>
  split at h
  ·cases h; exact ⟨Nat.le_refl _,fun _ _ _ => rfl⟩
  ·rename_i h1
   split at h
   ·cases h; exact ⟨Nat.le_refl _,fun _ _ _ => rfl⟩
   ·obtain ⟨H2,h3,h4⟩:=opt_map_some h; cases h4; obtain ⟨q1,q2⟩:=writeA_other h3
    exact ⟨by omega,fun a ha hn => q2 a fun hab => hn (by subst hab; simp only [tgt,h1])⟩
  ·cases h
theorem ieval_low {op : IOp} {env : Env} {H H' : AH} {v : Value} {lo : Nat} (hw : WF H) (h : ieval op env H = some (v,H')) : Low H lo H' (loOf env op lo):=by
 obtain ⟨h1,h2⟩:=ieval_other h
 refine ⟨?_,h1,ieval_wf hw h,fun b hb hl => h2 b hb fun ht => ?_⟩
 ·unfold loOf; split
  ·split <;> omega
  ·omega
 ·unfold loOf at hl; rw [ht] at hl; simp only at hl; split at hl <;> omega
theorem chkB_spec {cf : List Nat} {log : List (Nat × Foot)} {F : Foot} (h : chkB cf log F = true) : chk cf log F:=by
 intro e he hc
 have:=(List.all_eq_true.1 h) e he
 have hcc : cf.contains e.1 = true:=by simpa using hc
 rw [hcc] at this
 simp only [Bool.not_true,Bool.false_or,apartB,Bool.and_eq_true,List.all_eq_true,Bool.not_eq_true'] at this
 exact ⟨fun b hb => ⟨by simpa using (this.1 b hb).1,by simpa using (this.1 b hb).2⟩,fun b hb => by simpa using this.2 b hb⟩
theorem lowsOf_le : ∀ (l : List Nat) (lo : Nat),lowsOf l lo ≤ lo ∧ ∀ b ∈ l,lowsOf l lo ≤ b
 | [],lo => ⟨Nat.le_refl _,fun _ h => by simp at h⟩
 | a :: l,lo => by
  obtain ⟨h1,h2⟩:=lowsOf_le l (if a < lo then a else lo)
  unfold lowsOf
  have h3 : (if a < lo then a else lo) ≤ lo ∧ (if a < lo then a else lo) ≤ a:=by split <;> omega
  refine ⟨by omega,fun b hb => ?_⟩
  rcases List.mem_cons.1 hb with rfl | hb
  ·omega
  ·exact h2 b hb
theorem allocAt_wf {H : AH} {id : Nat} {B : Blk} (hw : WF H) : WF (H.allocAt id B):=by
 intro b C hb
 simp only [AH.allocAt] at hb ⊢
 split at hb
 ·split <;> omega
 ·have:=hw b C hb
  split <;> omega
theorem appendAt_wf {id : Nat} {H H' : AH} (hw : WF H) {elem sz bytes m : Nat} {s v : Value} {news : List Value} (h : appendAt id H elem sz bytes s m news = some (v,H')) : WF H':=by
 unfold appendAt at h
 repeat' (split at h)
 all_goals first
  | (cases h; done)
  | (cases h; exact hw)
  | (cases h; exact allocAt_wf hw)
  | (cases h; exact allocAt_wf (kill_wf hw _))
  | (obtain ⟨u,hu,hq⟩:=opt_map_some h; cases hq; exact writeA_wf hw hu)
def IOp.isAl : IOp → Bool
 | .new _ _ | .box _ _ | .bslice _ _ _ _ | .mks _ _ _ _ _ | .app _ _ _ _ _ => true
 | _ => false
theorem ievalAt_else {id : Nat} {op : IOp} {env : Env} {H : AH} (h : op.isAl = false) : ievalAt id op env H = ieval op env H:=by cases op <;> first | rfl | cases h
theorem ievalAt_wf {id : Nat} {op : IOp} {env : Env} {H H' : AH} {v : Value} (hw : WF H) (h : ievalAt id op env H = some (v,H')) : WF H':=by
 by_cases hal : op.isAl = false
 ·rw [ievalAt_else hal] at h; exact ieval_wf hw h
 cases op <;> try (exact absurd rfl hal)
 case new => cases h; exact allocAt_wf hw
 case box =>
  rw [ievalAt_box] at h
  split at h
  ·obtain ⟨cs,_,h2⟩:=opt_map_some h; cases h2; exact allocAt_wf hw
  ·cases h
 case bslice => rw [ievalAt_bslice] at h; obtain ⟨cs,_,h2⟩:=opt_map_some h; cases h2; exact allocAt_wf hw
 case mks =>
  rw [ievalAt_mks] at h
  split at h
  ·split at h
   ·cases h; exact allocAt_wf hw
   ·cases h
  ·cases h
 case app =>
  rw [ievalAt_app] at h
  split at h
  ·split at h
   ·exact appendAt_wf hw h
   ·cases h
  ·cases h
theorem evM_sound {P : Program} {N : Nat} : ∀ {ops : List (Nat × AOper × List Nat)} {log : List (Nat × Foot)} {env env' : Env} {H H' : AH} {lo lo' : Nat},WF H → evM N ops log env H lo = some (env',H',lo') →
  Low H lo H' lo' ∧ ∀ K : Env → AH → Prop,K env' H' → wpM P K N ops log env H
 | [],log,env,env',H,H',lo,lo',hw,h => by simp only [evM] at h; cases h; exact ⟨.refl hw,fun K hK => hK⟩
 | (i,o,cf) :: rest,log,env,env',H,H',lo,lo',hw,h => by
  rw [evM] at h
  suffices hx : Low H lo H' lo' ∧ ∀ K : Env → AH → Prop,K env' H' → ∃ v H1 F,StepM P (N + i) o env H v H1 F ∧ chk cf log F ∧ wpM P K N rest ((i,F) :: log) (put env o.dst v) H1 from
   ⟨hx.1,fun K hK => let ⟨v,H1,F,h1,h2,h3⟩:=hx.2 K hK; wpM_step h1 h2 h3⟩
  unfold StepM
  cases hg : guardA env o.guard with
  | none => simp only [hg] at h; cases h
  | some t =>
   cases t with
   | false =>
    simp only [hg] at h ⊢
    obtain ⟨r1,r2⟩:=evM_sound hw h
    exact ⟨r1,fun K hK => ⟨undef,H,⟨[],[]⟩,⟨rfl,rfl,rfl⟩,chk_none,r2 K hK⟩⟩
   | true =>
    simp only [hg] at h ⊢
    split at h
    ·cases h
    ·rename_i v H1 hv
     split at h
     ·rename_i hc
      simp only [Bool.and_eq_true,decide_eq_true_eq,Bool.not_eq_true'] at hc
      obtain ⟨⟨c1,c2⟩,c3⟩:=hc
      obtain ⟨l1,l2,_⟩:=ievalAt_local c3 c2 hv
      have hw1:=ievalAt_wf hw hv
      obtain ⟨r1,r2⟩:=evM_sound hw1 h
      obtain ⟨q1,q2⟩:=lowsOf_le (foot (N + i) o.op env).w lo
      exact ⟨Low.trans ⟨q1,by omega,hw1,fun b hb hl => l2 b fun hm => by have:=q2 b hm; omega⟩ r1,fun K hK => ⟨v,H1,_,(StepI_op c3).2 ⟨hv,rfl⟩,chkB_spec c1,r2 K hK⟩⟩
     ·cases h
structure Low1 (l : Nat) (H : AH) (lo : Nat) (H' : AH) (lo' : Nat) : Prop where
 lo : lo' ≤ lo
 next : H.next ≤ H'.next
 wf : WF H'
 blk : ∀ b,b < H.next → b < lo' → b ≠ l → H'.blk b = H.blk b
theorem evR_sound {l lo lo' : Nat} {env env' : Env} {H H' : AH} {e : AExit} (hw : WF H) (hl : l < H.next) (h : evR l env lo H = some (e,env',H',lo')) : Low1 l H lo H' lo' ∧ ∀ Q : AExit → Env → AH → Prop,Q e env' H' → rangeK l Q env H:=by
 unfold evR at h
 unfold rangeK
 split at h
 ·rename_i L hL
  split at h
  ·cases h
  ·rename_i hs
   split at h
   ·rename_i hp
    cases h
    refine ⟨⟨Nat.le_refl _,Nat.le_refl _,hw.set hl,fun b _ _ hn => AH.set_blk_ne hn⟩,fun Q hQ => ?_⟩
    rw [hL]
    cases L
    simp only at hp
    subst hp
    exact ⟨hs,hQ⟩
   ·cases h
   ·rename_i e' hne hp
    cases h
    refine ⟨⟨Nat.le_refl _,Nat.le_refl _,hw.set hl,fun b _ _ hn => AH.set_blk_ne hn⟩,fun Q hQ => ?_⟩
    rw [hL]
    cases L
    simp only at hp
    subst hp
    exact ⟨hs,hne,hQ⟩
 ·cases h
theorem extV_ints {k : Bool} {args : List Value} {v : Value} (h : extV k args = some v) : ∀ a ∈ args,∃ n,a = .int .u64 n:=by
 unfold extV at h
 split at h
 ·rename_i x y c
  intro a ha
  simp only [List.mem_cons,List.not_mem_nil,or_false] at ha
  rcases ha with rfl | rfl | rfl <;> exact ⟨_,rfl⟩
 ·cases h
theorem ACall_plain {P : Program} {f : FuncId} {p : Addr} {vs : List Value} {H : AH} {Q : Value → AH → Prop} (h : ACall P (.func (.func f) #[] #[]) (.pointer (some p) :: vs) H Q) : goodFunc P f = true ∧ AFn P f (.pointer (some p) :: vs) H Q:=by
 unfold ACall at h
 simp only at h
 split at h
 ·obtain ⟨v,hv,_⟩:=h
  obtain ⟨n,hn⟩:=extV_ints hv (.pointer (some p)) (by simp)
  cases hn
 ·simpa using h
theorem ACall_yield {P : Program} {g : FuncId} {p q : Array Value} {l : Nat} {H : AH} {Q : Value → AH → Prop} (h : ACall P (.func (.func g) p q) [.func (.yield l) #[] #[]] H Q) : extK P g = none:=by
 unfold ACall at h
 simp only at h
 split at h
 ·obtain ⟨v,hv,_⟩:=h
  obtain ⟨n,hn⟩:=extV_ints hv (.func (.yield l) #[] #[]) (by simp)
  cases hn
 ·assumption
def CallOk (P : Program) (call : CallR) : Prop:=∀ fv vs H lo v H' lo',WF H → call fv vs H lo = some (v,H',lo') →
 Low H lo H' lo' ∧ ACall P fv vs H fun u H2 => u = v ∧ H2 = H'
section
variable {P : Program} {call : CallR} (hcall : CallOk P call)
include hcall
theorem evO_sound {draw : Bool} : ∀ {ops : List AOper} {env env' : Env} {H H' : AH} {lo lo' : Nat},WF H → evO call draw ops env H lo = some (env',H',lo') →
  Low H lo H' lo' ∧ ∀ K : Env → AH → Prop,K env' H' → wpO P draw K ops env H
 | [],env,env',H,H',lo,lo',hw,h => by
  simp only [evO] at h; cases h
  exact ⟨.refl hw,fun K hK => hK⟩
 | o :: rest,env,env',H,H',lo,lo',hw,h => by
  simp only [evO] at h
  simp only [wpO,stepA]
  cases hg : guardA env o.guard with
  | none => simp only [hg] at h; cases h
  | some t =>
   cases t with
   | false =>
    simp only [hg] at h ⊢
    exact evO_sound hw h
   | true =>
    simp only [hg] at h ⊢
    by_cases hic : o.op.isC = true
    ·cases ho : o.op <;> simp only [ho,IOp.isC] at hic h ⊢ <;> try (cases hic; done)
     ·split at h
      ·rename_i fv vs h1 h2
       split at h
       ·rename_i v H1 lo1 h3
        split at h
        ·cases h
        ·rename_i hd
         obtain ⟨q2,q3⟩:=hcall _ _ _ _ _ _ _ hw h3
         obtain ⟨r1,r2⟩:=evO_sound q2.wf h
         have hlow : Low H lo H1 (if lo1 < lo then lo1 else lo):=by
          refine ⟨by split <;> omega,q2.next,q2.wf,fun b hb hl => q2.blk b hb ?_⟩
          have:=q2.lo
          cases draw <;> simp at this hd <;> split at hl <;> omega
         refine ⟨hlow.trans r1,fun K hK => ?_⟩
         rw [h1,h2]
         cases draw with
         | false =>
          simp only [Bool.false_eq_true,if_false]
          exact q3.mono fun u H2 ⟨e1,e2⟩ => by subst e1 e2; exact r2 K hK
         | true =>
          simp only [if_true]
          refine q3.mono fun u H2 ⟨e1,e2⟩ => ?_
          subst e1 e2
          simp at hd
          exact ⟨fun b B hB => by rw [q2.blk b (hw b B hB) (by have:=hw b B hB; omega),hB],r2 K hK⟩
       ·cases h
      ·cases h
     ·split at h
      ·rename_i t p vs h1 h2
       split at h
       ·rename_i g hl
        split at h
        ·rename_i v H1 lo1 h3
         split at h
         ·cases h
         ·rename_i hd
          obtain ⟨q2,q3⟩:=hcall _ _ _ _ _ _ _ hw h3
          obtain ⟨q1,q3⟩:=ACall_plain q3
          obtain ⟨r1,r2⟩:=evO_sound q2.wf h
          have hlow : Low H lo H1 (if lo1 < lo then lo1 else lo):=by
           refine ⟨by split <;> omega,q2.next,q2.wf,fun b hb hl => q2.blk b hb ?_⟩
           have:=q2.lo
           cases draw <;> simp at this hd <;> split at hl <;> omega
          refine ⟨hlow.trans r1,fun K hK => ?_⟩
          rw [h1,h2]
          cases draw with
          | false =>
           simp only [AInv,hl]
           exact ⟨q1,q3.mono fun u H2 ⟨e1,e2⟩ => by subst e1 e2; exact r2 K hK⟩
          | true =>
           simp only [AInv,hl]
           refine ⟨q1,q3.mono fun u H2 ⟨e1,e2⟩ => ?_⟩
           subst e1 e2
           simp at hd
           exact ⟨fun b B hB => by rw [q2.blk b (hw b B hB) (by have:=hw b B hB; omega),hB],r2 K hK⟩
        ·cases h
       ·cases h
      ·cases h
    ·have hstep : ∀ K : Env → AH → Prop,(match ieval o.op env H with | some (v,H') => K (put env o.dst v) H' | none => False) → stepA P draw o K env H:=by
      intro K hK
      unfold stepA
      rw [hg]
      cases ho : o.op <;> simp only [ho,IOp.isC] at hic hK ⊢ <;> first | exact hK | exact absurd trivial hic
     have h' : (match ieval o.op env H with | some (v,H') => evO call draw rest (put env o.dst v) H' (loOf env o.op lo) | none => none) = some (env',H',lo'):=by
      cases ho : o.op <;> simp only [ho,IOp.isC] at hic h ⊢ <;> first | exact h | exact absurd trivial hic
     cases hi : ieval o.op env H with
     | none => simp only [hi] at h'; cases h'
     | some p =>
      obtain ⟨v,H1⟩:=p
      simp only [hi] at h'
      have hl1:=ieval_low (lo:=lo) hw hi
      obtain ⟨r1,r2⟩:=evO_sound hl1.wf h'
      refine ⟨hl1.trans r1,fun K hK => ?_⟩
      have:=hstep (wpO P draw K rest) (by rw [hi]; exact r2 K hK)
      unfold stepA at this
      rw [hg] at this
      exact this
theorem evC_sound {k n : Nat} : ∀ (c : ACode) {e : AExit} {env env' : Env} {H H' : AH} {lo lo' : Nat},WF H → evC call k n c env H lo = some (e,env',H',lo') →
  Low H lo H' lo' ∧ ∀ Q : AExit → Env → AH → Prop,Q e env' H' → wpC P n c Q env H
 | .skip,e,env,env',H,H',lo,lo',hw,h => by simp only [evC] at h; cases h; exact ⟨.refl hw,fun Q hQ => hQ⟩
 | .region ops draw,e,env,env',H,H',lo,lo',hw,h => by
  simp only [evC] at h
  split at h
  ·rename_i h1
   cases h
   obtain ⟨r1,r2⟩:=evO_sound hcall hw h1
   exact ⟨r1,fun Q hQ => r2 _ hQ⟩
  ·cases h
 | .seq a b,e,env,env',H,H',lo,lo',hw,h => by
  simp only [evC] at h
  cases ha : evC call k n a env H lo with
  | none => simp only [ha] at h; cases h
  | some p =>
   obtain ⟨e1,env1,H1,lo1⟩:=p
   obtain ⟨r1,r2⟩:=evC_sound a hw ha
   rw [ha] at h
   cases e1 with
   | normal =>
    simp only at h
    obtain ⟨s1,s2⟩:=evC_sound b r1.wf h
    exact ⟨r1.trans s1,fun Q hQ => r2 _ (s2 Q hQ)⟩
   | exit i => cases h; exact ⟨r1,fun Q hQ => r2 _ hQ⟩
   | ret => cases h; exact ⟨r1,fun Q hQ => r2 _ hQ⟩
 | .cond c a b,e,env,env',H,H',lo,lo',hw,h => by
  simp only [evC] at h
  split at h
  ·rename_i h1
   obtain ⟨r1,r2⟩:=evC_sound a hw h
   exact ⟨r1,fun Q hQ => by simp only [wpC,h1,if_true]; exact r2 Q hQ⟩
  ·rename_i h1
   obtain ⟨r1,r2⟩:=evC_sound b hw h
   exact ⟨r1,fun Q hQ => by simp only [wpC,h1]; exact r2 Q hQ⟩
  ·cases h
 | .block id a,e,env,env',H,H',lo,lo',hw,h => by
  simp only [evC] at h
  cases ha : evC call k n a env H lo with
  | none => simp only [ha] at h; cases h
  | some p =>
   obtain ⟨e1,env1,H1,lo1⟩:=p
   obtain ⟨r1,r2⟩:=evC_sound a hw ha
   rw [ha] at h
   cases e1 with
   | normal => cases h; exact ⟨r1,fun Q hQ => r2 _ hQ⟩
   | exit i =>
    simp only at h
    cases h
    refine ⟨r1,fun Q hQ => r2 _ ?_⟩
    simp only
    split
    ·rename_i hi; simpa [hi] using hQ
    ·rename_i hi; simpa [hi] using hQ
   | ret => cases h; exact ⟨r1,fun Q hQ => r2 _ hQ⟩
 | .loop a,e,env,env',H,H',lo,lo',hw,h => by
  simp only [evC] at h
  have key : ∀ (j : Nat) (env : Env) (H : AH) (lo : Nat),WF H → evL (evC call k n a) j env H lo = some (e,env',H',lo') → Low H lo H' lo' ∧ ∀ Q : AExit → Env → AH → Prop,Q e env' H' → loopP (wpC P n a) Q j env H:=by
   intro j
   induction j with
   | zero => intro env H lo hw h; cases h
   | succ j ih =>
    intro env H lo hw h
    simp only [evL] at h
    cases ha : evC call k n a env H lo with
    | none => simp only [ha] at h; cases h
    | some p =>
     obtain ⟨e1,env1,H1,lo1⟩:=p
     obtain ⟨r1,r2⟩:=evC_sound a hw ha
     rw [ha] at h
     cases e1 with
     | normal =>
      simp only at h
      obtain ⟨s1,s2⟩:=ih env1 H1 lo1 r1.wf h
      exact ⟨r1.trans s1,fun Q hQ => r2 _ (s2 Q hQ)⟩
     | exit i => cases h; exact ⟨r1,fun Q hQ => r2 _ hQ⟩
     | ret => cases h; exact ⟨r1,fun Q hQ => r2 _ hQ⟩
  obtain ⟨r1,r2⟩:=key k env H lo hw h
  exact ⟨r1,fun Q hQ => ⟨k,r2 Q hQ⟩⟩
 | .rangeFunc f ps a b,e,env,env',H,H',lo,lo',hw,h => by
  simp only [evC] at h
  split at h
  ·rename_i g p q hf
   split at h
   ·rename_i v H1 lo1 h1
    obtain ⟨q1,q2⟩:=hcall _ _ _ _ _ _ _ hw.alloc h1
    obtain ⟨s1,s2⟩:=evR_sound q1.wf (Nat.lt_of_lt_of_le (Nat.lt_succ_self _) q1.next) h
    refine ⟨⟨by have:=q1.lo; have:=s1.lo; omega,by have h3:=q1.next; have h4:=s1.next; simp only [AH.alloc_next] at h3; omega,s1.wf,fun c hc hl => ?_⟩,fun Q hQ => ?_⟩
    ·have h2:=q1.next
     simp only [AH.alloc_next] at h2
     rw [s1.blk c (by omega) hl (by omega),q1.blk c (by simp; omega) (by have:=s1.lo; omega),AH.alloc_blk_ne (by omega)]
    ·simp only [wpC,hf]
     exact ⟨ACall_yield q2,q2.mono fun u H2 ⟨_,e2⟩ => by subst e2; exact s2 Q hQ⟩
   ·cases h
  ·cases h
 | .exit id,e,env,env',H,H',lo,lo',hw,h => by simp only [evC] at h; cases h; exact ⟨.refl hw,fun Q hQ => hQ⟩
 | .ret,e,env,env',H,H',lo,lo',hw,h => by simp only [evC] at h; cases h; exact ⟨.refl hw,fun Q hQ => hQ⟩
 | .mix m ops,e,env,env',H,H',lo,lo',hw,h => by
  simp only [evC] at h
  split at h
  ·rename_i h1
   cases h
   obtain ⟨r1,r2⟩:=evM_sound (H:=H.room m) hw.room h1
   refine ⟨(Low.trans ⟨Nat.le_refl _,by show H.next ≤ H.next + m; omega,hw.room,fun _ _ _ => rfl⟩ r1),fun Q hQ => r2 (Q .normal) hQ⟩
  ·cases h
end
def TabOk (P : Program) (T : List (Nat × AFunc)) : Prop:=∀ p ∈ T,(isExt p.2 = none ∧ compF P p.1 = some p.2 ∧ goodFunc P p.1 = true) ∨ ∃ k,isExt p.2 = some k ∧ extK P p.1 = some k
theorem TabOk.nil {P : Program} : TabOk P []:=fun _ h => by cases h
theorem TabOk.cons {P : Program} {T : List (Nat × AFunc)} {f : Nat} {F : AFunc} (h1 : compF P f = some F) (h2 : goodFunc P f = true) (h : TabOk P T) (h3 : isExt F = none:=by rfl) : TabOk P ((f,F) :: T):=by
 intro p hp
 rcases List.mem_cons.1 hp with rfl | hp
 ·exact .inl ⟨h3,h1,h2⟩
 ·exact h p hp
theorem TabOk.ext {P : Program} {T : List (Nat × AFunc)} {f : Nat} {k : Bool} (h1 : extK P f = some k) (h : TabOk P T) : TabOk P ((f,extF k) :: T):=by
 intro p hp
 rcases List.mem_cons.1 hp with rfl | hp
 ·exact .inr ⟨k,by cases k <;> rfl,h1⟩
 ·exact h p hp
theorem lookF_mem {T : List (Nat × AFunc)} {f : Nat} {F : AFunc} (h : lookF T f = some F) : (f,F) ∈ T:=by
 induction T with
 | nil => cases h
 | cons p T ih =>
  obtain ⟨g,G⟩:=p
  simp only [lookF] at h
  split at h
  ·rename_i hg; cases h; simp [hg]
  ·exact List.mem_cons_of_mem _ (ih h)
theorem evY_sound {P : Program} (hm : P.follows .mixedOrders = true) {call : CallR} (hcall : CallOk P call) {k l : Nat} {args : List Value} {H H' : AH} {lo lo' : Nat} {v : Value} (hw : WF H) (h : evY call k l args H lo = some (v,H',lo')) :
  Low H lo H' lo' ∧ AYield P l args H fun u H2 => u = v ∧ H2 = H':=by
 unfold evY at h
 split at h
 ·rename_i L hL
  have hll:=hw.lt hL
  split at h
  ·rename_i hlen
   split at h
   ·rename_i env1 H1 lo1 h1
    obtain ⟨r1,r2⟩:=evC_sound (P:=P) (n:=L.n) hcall L.assign hw h1
    split at h
    ·rename_i L1 hL1
     have hl1:=r1.wf.lt hL1
     split at h
     ·rename_i hready
      split at h
      ·rename_i e env2 H2 lo2 h2
       obtain ⟨s1,s2⟩:=evC_sound (P:=P) (n:=L.n) hcall L.body (r1.wf.set hl1) h2
       split at h
       ·rename_i L2 hL2
        have hl2:=s1.wf.lt hL2
        have n1:=r1.next
        have n2:=s1.next
        have o1:=r1.lo
        have o2:=s1.lo
        have key : ∀ B,Low H lo (H2.set l B) (if l < lo2 then l else lo2):=fun B => by
         refine ⟨?_,by simp at n2 ⊢; omega,s1.wf.set hl2,fun b hb hlt => ?_⟩
         ·split <;> split at o2 <;> omega
         ·have hbl : b ≠ l ∧ b < lo2:=by split at hlt <;> omega
          rw [AH.set_blk_ne hbl.1,s1.blk b (by simp; omega) hbl.2,AH.set_blk_ne hbl.1,r1.blk b hb (by split at o2 <;> omega)]
        have fin : ∀ Q : Value → AH → Prop,roundK l Q e env2 H2 → AYield P l args H Q:=fun Q hQ =>
         AYield.intro hm hL hlen (r2 _ ⟨rfl,L1,hL1,hready,s2 _ hQ⟩)
        split at h
        ·cases h
         exact ⟨key _,fin _ ⟨L2,hL2,rfl,rfl⟩⟩
        ·rename_i hne
         cases h
         refine ⟨key _,fin _ ⟨L2,hL2,?_⟩⟩
         cases e with
         | normal => exact absurd rfl hne
         | exit i => exact ⟨rfl,rfl⟩
         | ret => exact ⟨rfl,rfl⟩
       ·cases h
      ·cases h
     ·cases h
    ·cases h
   ·cases h
  ·cases h
 ·cases h
theorem evG_sound {P : Program} (hm : P.follows .mixedOrders = true) {T : List (Nat × AFunc)} (hT : TabOk P T) {call : CallR} (hcall : CallOk P call) {k : Nat} {f : FuncId} {vs : List Value} {H H' : AH} {lo lo' : Nat} {v : Value} (hw : WF H) (h : evG call T k f vs H lo = some (v,H',lo')) :
  Low H lo H' lo' ∧ match extK P f with
   | some k => ∃ u,extV k vs = some u ∧ u = v ∧ H = H'
   | none => goodFunc P f = true ∧ AFn P f vs H fun u H2 => u = v ∧ H2 = H':=by
 unfold evG at h
 split at h
 ·rename_i F hF
  rcases hT _ (lookF_mem hF) with ⟨hx,h1,h2⟩ | ⟨x,hx,h1⟩
  ·simp only at hx h1 h2
   rw [hx] at h
   rw [good_ext h2]
   simp only at h ⊢
   split at h
   ·rename_i hl
    cases hc : evC call k F.n F.code (fun t => vs[t]?) H lo with
    | none => simp only [hc] at h; cases h
    | some p =>
     obtain ⟨e,env,H1,lo1⟩:=p
     obtain ⟨r1,r2⟩:=evC_sound (P:=P) (n:=F.n) hcall F.code hw hc
     rw [hc] at h
     cases e with
     | exit i => cases h
     | normal =>
      simp only at h
      split at h
      ·rename_i ws hws
       cases h
       refine ⟨r1,h2,AFn.intro hm h1 hl (r2 _ ?_)⟩
       simp only [bodyK,hws]
       exact ⟨trivial,trivial⟩
      ·cases h
     | ret =>
      simp only at h
      split at h
      ·rename_i ws hws
       cases h
       refine ⟨r1,h2,AFn.intro hm h1 hl (r2 _ ?_)⟩
       simp only [bodyK,hws]
       exact ⟨trivial,trivial⟩
      ·cases h
   ·cases h
  ·simp only at hx h1
   rw [hx] at h
   rw [h1]
   simp only at h ⊢
   obtain ⟨u,hu,hq⟩:=opt_map_some h
   cases hq
   exact ⟨.refl hw,_,hu,rfl,rfl⟩
 ·cases h
theorem evF_sound {P : Program} (hm : P.follows .mixedOrders = true) {T : List (Nat × AFunc)} (hT : TabOk P T) {k : Nat} : ∀ d,CallOk P (evF T k d)
 | 0 => fun f vs H lo v H' lo' hw h => by cases h
 | d + 1 => fun fv vs H lo v H' lo' hw h => by
  simp only [evF] at h
  split at h
  ·obtain ⟨q1,q2⟩:=evG_sound hm hT (evF_sound hm hT d) hw h
   refine ⟨q1,?_⟩
   unfold ACall
   split at q2
   ·rename_i x hx
    simp only [hx]
    obtain ⟨u,h1,e1,e2⟩:=q2
    subst e1
    exact ⟨_,h1,rfl,e2⟩
   ·rename_i hx
    simp only [hx]
    exact q2
  ·split at h
   ·rename_i l first cap hs
    obtain ⟨q1,q2⟩:=evY_sound hm (evF_sound hm hT d) hw h
    exact ⟨q1,Array.size_eq_zero_iff.1 hs.1,Array.size_eq_zero_iff.1 hs.2,q2⟩
   ·cases h
  ·cases h
theorem VR.plain_eq {ρ : Rho} {v v' : Value} (hp : plain v = true) (h : VR ρ v v') : v' = v:=by
 cases h <;> first | rfl | (simp [plain] at hp)
end Go.Abs
/-
 THE ABSTRACT LAYER (29): a call on closed data leaves all as it was; what is told of it is reckoned on a heap of its own.
-/
set_option linter.unusedSimpArgs false
set_option linter.unusedVariables false
namespace Go.Abs
open Go Go.RowKit
abbrev GTab:=List (Nat × List Value)
def lookG : GTab → Nat → Option Blk
 | [],_ => none
 | (g,cs) :: rest,b => if g = b then some (.row cs 0 false) else lookG rest b
theorem lookG_mem {G : GTab} {b : Nat} {B : Blk} (h : lookG G b = some B) : ∃ cs,(b,cs) ∈ G ∧ B = .row cs 0 false:=by
 induction G with
 | nil => cases h
 | cons p G ih =>
  obtain ⟨g,cs⟩:=p
  simp only [lookG] at h
  split at h
  ·rename_i hg; subst hg; cases h; exact ⟨cs,by simp,rfl⟩
  ·obtain ⟨cs,h1,h2⟩:=ih h; exact ⟨cs,by simp [h1],h2⟩
def groundH (n : Nat) (G : GTab) : AH:=⟨lookG G,n⟩
def GroundA (G : GTab) (H : AH) : Prop:=∀ p ∈ G,H.cells p.1 = some p.2
theorem cells_blk {H : AH} {b : Nat} {cs : List Value} (h : H.cells b = some cs) : ∃ e wr,H.blk b = some (.row cs e wr):=by
 unfold AH.cells at h
 split at h
 ·rename_i cs' e wr hb; cases h; exact ⟨e,wr,hb⟩
 ·cases h
theorem cells_kept {H H' : AH} (hw : WF H) (hk : Keep [] H H') {b : Nat} {cs : List Value} (h : H.cells b = some cs) : H'.cells b = some cs:=by
 obtain ⟨e,wr,hb⟩:=cells_blk h
 exact AH.cells_of (by rw [hk.blk b (hw.lt hb) (by simp)]; exact hb)
theorem GroundA.kept {G : GTab} {H H' : AH} (h : GroundA G H) (hw : WF H) (hk : Keep [] H H') : GroundA G H':=fun p hp => cells_kept hw hk (h p hp)
theorem GroundA.of {G : GTab} {H H' : AH} (h : GroundA G H) (hk : ∀ b,H'.cells b = H.cells b) : GroundA G H':=fun p hp => by rw [hk,h p hp]
def goodG (n : Nat) (G : GTab) : Bool:=G.all fun p => decide (p.1 < n) && p.2.all plain
theorem VRs.plain_eq {ρ : Rho} : ∀ {vs vs' : List Value},vs.all plain = true → VRs ρ vs vs' → vs' = vs
 | _,_,_,.nil => rfl
 | _,_,hp,.cons h t => by
  simp only [List.all_cons,Bool.and_eq_true] at hp
  rw [h.plain_eq hp.1,t.plain_eq hp.2]
theorem below_mono {B0 B1 : Nat} {w w' : World} (h : Below B1 w w') (hl : B0 ≤ B1) : Below B0 w w' :=
 ⟨h.os,h.tape,h.output,h.size,fun k hk => h.block k (Nat.lt_of_lt_of_le hk hl)⟩
theorem Sim.ground {P : Program} {B0 : Nat} {ρ : Rho} {H : AH} {w : World} {G : GTab} (hs : Sim P B0 ρ H w) (hg : GroundA G H) (hG : goodG P.globals.size G = true) :
  Sim P w.heap.size (fun b => if b < P.globals.size then ρ b else none) (groundH P.globals.size G) w:=by
 simp only [goodG,List.all_eq_true,Bool.and_eq_true,decide_eq_true_eq] at hG
 refine ⟨?_,?_,?_,?_,Nat.le_refl _⟩
 ·intro b e he
  split at he
  ·rename_i hb; exact ⟨hb,(hs.fresh b e he).2⟩
  ·cases he
 ·intro b B hB
  obtain ⟨cs,hm,rfl⟩:=lookG_mem hB
  obtain ⟨ty,wr,hblk⟩:=cells_blk (hg _ hm)
  obtain ⟨e,he,c,t,fr,cells',h1,h2,h3,h4,h5⟩:=hs.live _ _ hblk
  have hb:=hG _ hm
  refine ⟨e,by simp [hb.1,he],c,t,fr,cells',h1,?_,h3,h4,fun h => by cases h⟩
  have hp : cs.all plain = true:=by simpa using hb.2
  rw [h2.plain_eq hp]
  exact VRs.of_plain hp
 ·intro b b' B B' e e' hB hB' _ _ _
  obtain ⟨cs,_,rfl⟩:=lookG_mem hB
  obtain ⟨cs',_,rfl⟩:=lookG_mem hB'
  exact .inr ⟨rfl,rfl⟩
 ·intro g hgl
  obtain ⟨e,he,h1,h2⟩:=hs.glob g hgl
  exact ⟨e,by simp [hgl,he],h1,h2⟩
theorem AFn.closed {P : Program} {f : FuncId} {args : List Value} {H : AH} {G : GTab} {v0 : Value} (h : AFn P f args (groundH P.globals.size G) fun u _ => u = v0) (ha : args.all plain = true) (hv : plain v0 = true)
  (hG : goodG P.globals.size G = true) (hg : GroundA G H) : AFn P f args H fun u H' => u = v0 ∧ H' = H:=by
 intro B0 ρ w args' hs hargs
 have hs2:=hs.ground hg hG
 have ha2 : VRs (fun b => if b < P.globals.size then ρ b else none) args args'.toList:=by rw [hargs.plain_eq ha]; exact VRs.of_plain ha
 refine (h _ _ _ _ hs2 ha2).mono ?_
 rintro e w' ⟨v',v,H',ρ',rfl,hst,_,hr,rfl⟩
 obtain rfl:=hr.plain_eq hv
 have hsz : w.heap.size ≤ w'.heap.size:=hst.ext.below.size
 refine ⟨v',v',H,ρ,rfl,⟨⟨?_,?_,hs.inj,hs.glob,Nat.le_trans hs.base hsz⟩,Rho.le_refl _,⟨below_mono hst.ext.below hs.base,hst.ext.defd,hst.ext.loopd⟩⟩,.refl (Nat.le_refl _),VR.of_plain hv,rfl,rfl⟩
 ·intro b e he; have:=hs.fresh b e he; exact ⟨this.1,by omega⟩
 ·intro b B hB
  obtain ⟨e,he,hh⟩:=hs.live b B hB
  exact ⟨e,he,hh.keep (Rho.le_refl _) (hst.ext.below.block _ (hs.fresh b e he).2)⟩
theorem groundH_wf {n : Nat} {G : GTab} (hG : goodG n G = true) : WF (groundH n G):=by
 intro b B hB
 obtain ⟨cs,hm,rfl⟩:=lookG_mem hB
 simp only [goodG,List.all_eq_true,Bool.and_eq_true,decide_eq_true_eq] at hG
 exact (hG _ hm).1
theorem AFn.reckon {P : Program} (hm : P.follows .mixedOrders = true) {T : List (Nat × AFunc)} (hT : TabOk P T) {G : GTab} (k d : Nat) {f : FuncId} {args : List Value} {v0 : Value} {H : AH}
  (hG : goodG P.globals.size G = true) (h : (evF T k d (.func (.func f) #[] #[]) args (groundH P.globals.size G) 0).map (·.1) = some v0) (ha : args.all plain = true) (hv : plain v0 = true) (hg : GroundA G H) (hgood : goodFunc P f = true:=by kernel_rfl) :
  AFn P f args H fun u H' => u = v0 ∧ H' = H:=by
 obtain ⟨⟨v,H',lo'⟩,h1,rfl⟩:=opt_map_some h
 obtain ⟨_,h2⟩:=evF_sound hm hT d _ _ _ _ _ _ _ (groundH_wf hG) h1
 rw [ACall_fn hgood] at h2
 exact AFn.closed (h2.mono fun u H2 hu => hu.1) ha hv hG hg
end Go.Abs
/-
 THE ABSTRACT LAYER (30): numbers of kind uint64,as natural numbers.
-/
set_option linter.unusedSimpArgs false
set_option linter.unusedVariables false
namespace Go.Abs
open Go
def uv (n : Nat) : Value:=.int .u64 n
theorem uv_def (n : Nat) : uv n = Value.int .u64 n:=Eq.trans rfl rfl
@[simp] theorem one_uv {n : Nat} : one (uv n) = true:=rfl
@[simp] theorem cellsOf_uv {n : Nat} : cellsOf (uv n) = some [uv n]:=rfl
theorem ofInt_nat (n : Nat) : BitVec.ofInt 64 (n : Int) = BitVec.ofNat 64 n:=by
 apply BitVec.eq_of_toInt_eq; simp [BitVec.toInt_ofInt,BitVec.toInt_ofNat]
theorem wrap_u64 {n : Nat} (h : n < 18446744073709551616) : IntKind.u64.wrap (n : Int) = n:=by
 simp [IntKind.wrap,IntKind.signed,IntKind.bits]; omega
def andNotN (a b : Nat) : Nat:=(BitVec.ofNat 64 a &&& ~~~BitVec.ofNat 64 b).toNat
theorem andNotN_lt (a b : Nat) : andNotN a b < 18446744073709551616:=(BitVec.ofNat 64 a &&& ~~~BitVec.ofNat 64 b).isLt
theorem andNotN_bit (a b i : Nat) (h : i < 64) : (andNotN a b).testBit i = (a.testBit i && !b.testBit i):=by
 rw [andNotN,← BitVec.getLsbD,BitVec.getLsbD_and,BitVec.getLsbD_not,BitVec.getLsbD_ofNat,BitVec.getLsbD_ofNat]
 simp [h]
theorem and_lt' {a b : Nat} (h : a < 18446744073709551616) : a &&& b < 18446744073709551616:=Nat.lt_of_le_of_lt Nat.and_le_left h
theorem or_lt' {a b : Nat} (h : a < 18446744073709551616) (k : b < 18446744073709551616) : a ||| b < 18446744073709551616:=Nat.or_lt_two_pow (n:=64) h k
section
variable {a b : Nat}
theorem uv_and (ha : a < 18446744073709551616) (hb : b < 18446744073709551616) : abin .and (uv a) (uv b) = some (uv (a &&& b)):=by
 rw [show abin .and (uv a) (uv b) = some (.int .u64 (IntKind.u64.wrap (((BitVec.ofInt 64 (a : Int) &&& BitVec.ofInt 64 (b : Int)).toNat : Nat) : Int))) from rfl,ofInt_nat,ofInt_nat,BitVec.toNat_and,BitVec.toNat_ofNat,BitVec.toNat_ofNat,Nat.mod_eq_of_lt ha,Nat.mod_eq_of_lt hb,wrap_u64 (and_lt' ha)]; rfl
theorem uv_or (ha : a < 18446744073709551616) (hb : b < 18446744073709551616) : abin .or (uv a) (uv b) = some (uv (a ||| b)):=by
 rw [show abin .or (uv a) (uv b) = some (.int .u64 (IntKind.u64.wrap (((BitVec.ofInt 64 (a : Int) ||| BitVec.ofInt 64 (b : Int)).toNat : Nat) : Int))) from rfl,ofInt_nat,ofInt_nat,BitVec.toNat_or,BitVec.toNat_ofNat,BitVec.toNat_ofNat,Nat.mod_eq_of_lt ha,Nat.mod_eq_of_lt hb,wrap_u64 (or_lt' ha hb)]; rfl
theorem uv_andNot : abin .andNot (uv a) (uv b) = some (uv (andNotN a b)):=by
 rw [show abin .andNot (uv a) (uv b) = some (.int .u64 (IntKind.u64.wrap (((BitVec.ofInt 64 (a : Int) &&& ~~~BitVec.ofInt 64 (b : Int)).toNat : Nat) : Int))) from rfl,ofInt_nat,ofInt_nat,
  show (BitVec.ofNat 64 a &&& ~~~BitVec.ofNat 64 b).toNat = andNotN a b from rfl,wrap_u64 (andNotN_lt a b)]; rfl
theorem uv_add (h : a + b < 18446744073709551616) : abin .add (uv a) (uv b) = some (uv (a + b)):=by
 simp only [abin,uv,ne_eq,not_true,if_false]
 rw [← Int.natCast_add,wrap_u64 h]
theorem uv_sub (hb : b ≤ a) (ha : a < 18446744073709551616) : abin .sub (uv a) (uv b) = some (uv (a - b)):=by
 simp only [abin,uv,ne_eq,not_true,if_false]
 rw [← Int.natCast_sub hb,wrap_u64 (by omega)]
theorem min64 {n : Nat} : min ((n : Int).toNat) (IntKind.u64.bits) = min n 64:=by simp [IntKind.bits]
theorem uv_shr {k : IntKind} {n : Nat} (ha : a < 18446744073709551616) : abin .shr (uv a) (.int k n) = some (uv (a / 2 ^ n)):=by
 simp only [abin,uv]
 rw [if_neg (by omega),min64]
 congr 2
 have : ((a : Int).fdiv (2 ^ min n 64)) = ((a / 2 ^ min n 64 : Nat) : Int):=by
  rw [Int.fdiv_eq_ediv_of_nonneg _ (Int.pow_nonneg (by omega))]; norm_cast
 rw [this]
 by_cases h : n ≤ 64
 ·rw [Nat.min_eq_left h]
 ·rw [Nat.min_eq_right (by omega),Nat.div_eq_of_lt (show a < 2 ^ 64 from ha),Nat.div_eq_of_lt (Nat.lt_of_lt_of_le (show a < 2 ^ 64 from ha) (Nat.pow_le_pow_right (by omega) (by omega)))]
theorem uv_shl1 {k : IntKind} {n : Nat} (h : n < 64) : abin .shl (uv 1) (.int k n) = some (uv (2 ^ n)):=by
 simp only [abin,uv]
 rw [if_neg (by omega),min64,Nat.min_eq_left (by omega)]
 congr 2
 have hlt : 2 ^ n < 18446744073709551616:=Nat.pow_lt_pow_right (a:=2) (n:=64) (by omega) h
 have:=wrap_u64 hlt
 simpa using this
theorem uv_eql : abin .eql (uv a) (uv b) = some (.bool (decide (a = b))):=by simp [abin,uv]; omega
end
end Go.Abs
/-
 THE ABSTRACT LAYER (31): slices that are only read,wherever they were made.
-/
set_option linter.unusedSimpArgs false
set_option linter.unusedVariables false
namespace Go.Abs
open Go
theorem cells_lt {H : AH} (hw : WF H) {b : Nat} {cs : List Value} (h : H.cells b = some cs) : b < H.next:=by
 obtain ⟨e,wr,hb⟩:=cells_blk h
 exact hw.lt hb
def up (p : Nat → Prop) (n : Nat) : Nat → Prop:=fun b => p b ∨ n ≤ b
def Vw (p : Nat → Prop) (H : AH) (sz : Nat) (v : Value) (n : Nat) (cells : List Value) : Prop :=
 cells.length = n * sz ∧ ((n = 0 ∧ ∃ a c,v = .slice a 0 c ∧ (a = none → c = 0)) ∨
  ∃ b off sp cap cs,v = .slice (some ⟨b,off,sp⟩) n cap ∧ n ≤ cap ∧ (sp = none ∨ sp = some sz) ∧ H.cells b = some cs ∧ cut cs off (n * sz) = some cells ∧ p b)
theorem Vw.len {p : Nat → Prop} {H : AH} {sz n : Nat} {v : Value} {cells : List Value} (h : Vw p H sz v n cells) : cells.length = n * sz:=h.1
theorem Vw.slice {p : Nat → Prop} {H : AH} {sz n : Nat} {v : Value} {cells : List Value} (h : Vw p H sz v n cells) : ∃ a c,v = .slice a n c:=by
 rcases h.2 with ⟨rfl,a,c,rfl,_⟩ | ⟨b,off,sp,cap,cs,rfl,_⟩
 ·exact ⟨_,_,rfl⟩
 ·exact ⟨_,_,rfl⟩
theorem Vw.kept {p : Nat → Prop} {H H' : AH} {sz n : Nat} {v : Value} {cells : List Value} (h : Vw p H sz v n cells) (hw : WF H) (hk : Keep [] H H') : Vw p H' sz v n cells:=by
 refine ⟨h.1,?_⟩
 rcases h.2 with h | ⟨b,off,sp,cap,cs,h1,h2,h3,h4,h5,hp⟩
 ·exact .inl h
 ·refine .inr ⟨b,off,sp,cap,cs,h1,h2,h3,?_,h5,hp⟩
  have : H.blk b ≠ none:=fun hn => by simp [AH.cells,hn] at h4
  obtain ⟨B,hB⟩:=Option.ne_none_iff_exists'.1 this
  simp only [AH.cells,hk.blk b (hw.lt hB) (by simp)]
  exact h4
theorem Vw.at {p : Nat → Prop} {H : AH} {sz n : Nat} {v : Value} {cells : List Value} (h : Vw p H sz v n cells) (hn : 0 < n) :
  ∃ b off sp cap cs,v = .slice (some ⟨b,off,sp⟩) n cap ∧ n ≤ cap ∧ (sp = none ∨ sp = some sz) ∧ H.cells b = some cs ∧ off + n * sz ≤ cs.length ∧ (∀ k,k < n * sz → cs[off + k]? = cells[k]?) ∧ cut cs off (n * sz) = some cells ∧ p b:=by
 rcases h.2 with ⟨h,_⟩ | ⟨b,off,sp,cap,cs,h1,h2,h3,h4,h5,hp⟩
 ·omega
 ·obtain ⟨q1,q2,q3,q4⟩:=cut_spec h5
  exact ⟨b,off,sp,cap,cs,h1,h2,h3,h4,q1,q4,h5,hp⟩
theorem Vw.elems {p : Nat → Prop} {H : AH} {sz n : Nat} {v : Value} {cells : List Value} (h : Vw p H sz v n cells) : elemsA H sz v = some cells:=by
 rcases h with ⟨hl,⟨rfl,a,c,rfl,ha⟩ | ⟨b,off,sp,cap,cs,rfl,h2,h3,h4,h5,_⟩⟩
 ·have : cells = []:=by simpa using hl
  subst this
  cases a with
  | none => rw [ha rfl]; rfl
  | some a => obtain ⟨b,o,s⟩:=a; simp [elemsA]
 ·by_cases hn : n = 0
  ·subst hn
   have : cells = []:=by simpa using hl
   subst this
   simp [elemsA]
  ·simp [elemsA,hn,h4,h5]
theorem Own.vw {p : Nat → Prop} {H : AH} {elem sz n : Nat} {v : Value} {cells : List Value} {S : List Nat} (h : Own H elem sz v n cells S) (hp : ∀ b ∈ S,p b) : Vw p H sz v n cells:=by
 refine ⟨h.len,?_⟩
 rcases h with ⟨rfl,rfl,rfl,_⟩ | ⟨b,off,sp,cap,cs,rfl,h1,h2,h3,h4,h5,h6⟩
 ·exact .inl ⟨rfl,_,_,rfl,fun _ => rfl⟩
 ·have hl:=Nat.mul_le_mul_right sz h4
  exact .inr ⟨b,off,sp,cap,cs,rfl,h4,h6,AH.cells_of h2,by rw [cut_eq (by omega),h5],hp b (by simp [h1])⟩
theorem Rd.vw {p : Nat → Prop} {H : AH} {sz n : Nat} {v : Value} {cells : List Value} (h : Rd H sz v n cells) (hw : WF H) (hp : ∀ b,b < H.next → p b) : Vw p H sz v n cells:=by
 refine ⟨h.len,?_⟩
 rcases h with ⟨rfl,rfl,rfl⟩ | ⟨rfl,rfl,rfl⟩ | ⟨b,off,cap,cs,rfl,h1,h2,h3⟩
 ·exact .inl ⟨rfl,_,_,rfl,fun _ => rfl⟩
 ·exact .inl ⟨rfl,_,_,rfl,fun h => by cases h⟩
 ·exact .inr ⟨b,off,none,cap,cs,rfl,h1,.inl rfl,h2,h3,hp b (cells_lt hw h2)⟩
theorem Vw.nil {p : Nat → Prop} {H : AH} {sz : Nat} : Vw p H sz (.slice none 0 0) 0 []:=⟨by simp,.inl ⟨rfl,_,_,rfl,fun _ => rfl⟩⟩
theorem Vw.first {p : Nat → Prop} {H : AH} {sz n b off cap : Nat} {sp : Option Nat} {cells : List Value} (h : Vw p H sz (.slice (some ⟨b,off,sp⟩) n cap) n cells) {k : Nat} (hk : k ≤ n) (c : Nat) (hc : k ≤ c) : Vw p H sz (.slice (some ⟨b,off,sp⟩) k c) k (cells.take (k * sz)):=by
 have hl:=h.1
 have hm:=Nat.mul_le_mul_right sz hk
 refine ⟨by simp; omega,?_⟩
 rcases h.2 with ⟨rfl,_⟩ | ⟨b',off',sp',cap',cs,h1,h2,h3,h4,h5,hp⟩
 ·exact .inl ⟨by omega,_,_,by rw [show k = 0 by omega],fun h => by cases h⟩
 ·cases h1
  obtain ⟨q1,q2,q3,q4⟩:=cut_spec h5
  refine .inr ⟨b,off,sp,c,cs,rfl,hc,h3,h4,?_,hp⟩
  rw [cut_eq (by omega),q2,List.take_take,Nat.min_eq_left hm]
theorem Vw.agg {p : Nat → Prop} {H : AH} {sz n : Nat} {v : Value} {cells : List Value} (h : Vw p H sz v n cells) : one v = true ∧ cellsOf v = some [v]:=by
 obtain ⟨a,c,rfl⟩:=h.slice
 exact ⟨rfl,rfl⟩
theorem Vw.mono {p q : Nat → Prop} {H : AH} {sz n : Nat} {v : Value} {cells : List Value} (h : Vw p H sz v n cells) (hpq : ∀ b,p b → q b) : Vw q H sz v n cells:=by
 refine ⟨h.1,?_⟩
 rcases h.2 with h | ⟨b,off,sp,cap,cs,h1,h2,h3,h4,h5,hp⟩
 ·exact .inl h
 ·exact .inr ⟨b,off,sp,cap,cs,h1,h2,h3,h4,h5,hpq b hp⟩
theorem Vw.over {p : Nat → Prop} {H H' : AH} {sz n : Nat} {v : Value} {cells : List Value} (h : Vw p H sz v n cells) (hk : ∀ b,p b → H'.cells b = H.cells b) : Vw p H' sz v n cells:=by
 refine ⟨h.1,?_⟩
 rcases h.2 with h | ⟨b,off,sp,cap,cs,h1,h2,h3,h4,h5,hp⟩
 ·exact .inl h
 ·exact .inr ⟨b,off,sp,cap,cs,h1,h2,h3,by rw [hk b hp,h4],h5,hp⟩
end Go.Abs
namespace Go.Abs
open Go Go.RowKit
def AH.ro (H : AH) : AH:={ H with blk:=fun b => match H.blk b with
 | some (.row cs e _) => some (.row cs e false)
 | _ => none }
def SameC (H H0 : AH) : Prop:=H0.next = H.next ∧ ∀ b,H0.cells b = H.cells b
theorem AH.ro_same (H : AH) : SameC H H.ro:=by
 refine ⟨rfl,fun b => ?_⟩
 unfold AH.cells AH.ro
 simp only
 cases h : H.blk b with
 | none => rfl
 | some B => cases B <;> rfl
theorem Sim.ro {P : Program} {B0 : Nat} {ρ : Rho} {H : AH} {w : World} (h : Sim P B0 ρ H w) : Sim P w.heap.size ρ H.ro w:=by
 have hro : ∀ b B,H.ro.blk b = some B → ∃ cs e wr,H.blk b = some (.row cs e wr) ∧ B = .row cs e false:=by
  intro b B hB
  unfold AH.ro at hB
  simp only at hB
  split at hB
  ·rename_i cs e wr hb; cases hB; exact ⟨_,_,_,hb,rfl⟩
  ·cases hB
 refine ⟨h.fresh,?_,?_,h.glob,Nat.le_refl _⟩
 ·intro b B hB
  obtain ⟨cs,e,wr,hb,rfl⟩:=hro b B hB
  obtain ⟨em,he,c,t,fr,cells',h1,h2,h3,h4,h5⟩:=h.live _ _ hb
  exact ⟨em,he,c,t,fr,cells',h1,h2,h3,h4,fun h => by cases h⟩
 ·intro b b' B B' e e' hB hB' _ _ _
  obtain ⟨_,_,_,_,rfl⟩:=hro b B hB
  obtain ⟨_,_,_,_,rfl⟩:=hro b' B' hB'
  exact .inr ⟨rfl,rfl⟩
theorem VR.plainC_eq {ρ : Rho} {v v' : Value} (hp : plainC v = true) (h : VR ρ v v') : v' = v:=by
 cases v with
 | agg cs =>
  cases h with
  | agg _ p' hp' h1 _ =>
   simp only [plainC,List.all_eq_true] at hp
   congr 1
   refine (Array.ext (by omega) fun i a b => ?_).symm
   exact ((h1 i a b).plain_eq (hp _ (by simp))).symm
 | tuple cs =>
  cases h with
  | tuple _ p' hp' h1 =>
   simp only [plainC,List.all_eq_true] at hp
   congr 1
   refine (Array.ext (by omega) fun i a b => ?_).symm
   exact ((h1 i a b).plain_eq (hp _ (by simp))).symm
 | _ => exact h.plain_eq hp
theorem AFn.calm {P : Program} {f : FuncId} {args : List Value} {H : AH} {v0 : Value} (h : ∀ H0,SameC H H0 → AFn P f args H0 fun u _ => u = v0) (hv : plainC v0 = true) :
  AFn P f args H fun u H' => u = v0 ∧ H' = H:=by
 intro B0 ρ w args' hs hargs
 refine (h H.ro H.ro_same _ _ _ _ hs.ro hargs).mono ?_
 rintro e w' ⟨v',v,H',ρ',rfl,hst,_,hr,rfl⟩
 obtain rfl:=hr.plainC_eq hv
 have hsz : w.heap.size ≤ w'.heap.size:=hst.ext.below.size
 refine ⟨v',v',H,ρ,rfl,⟨⟨?_,?_,hs.inj,hs.glob,Nat.le_trans hs.base hsz⟩,Rho.le_refl _,⟨below_mono hst.ext.below hs.base,hst.ext.defd,hst.ext.loopd⟩⟩,.refl (Nat.le_refl _),VR.of_plainC hv,rfl,rfl⟩
 ·intro b e he; have:=hs.fresh b e he; exact ⟨this.1,by omega⟩
 ·intro b B hB
  obtain ⟨e,he,hh⟩:=hs.live b B hB
  exact ⟨e,he,hh.keep (Rho.le_refl _) (hst.ext.below.block _ (hs.fresh b e he).2)⟩
theorem GrowCall.of {P : Program} {f : FuncId} {vs : List Value} {X Y : List Nat} {H : AH} {K : Value → AH → Prop} (hg : goodFunc P f = true) (h : ∀ Hx : AH,Hx.next = H.next → (∀ b,b ∉ X → Hx.blk b = H.blk b) → WF Hx → AFn P f vs Hx fun v H' => WF H' → H.next ≤ H'.next → (∀ b,b ∈ X ∨ b ∈ Y → H'.blk b = Hx.blk b) ∧ K v (graft X H H')) :
  GrowCall P (.func (.func f) #[] #[]) vs X Y H K:=fun Hx hn hb => by
 rw [ACall_fn hg]
 exact AFn.wf fun hw => (h Hx hn hb hw).mono_next fun v H' w' hle hq => by
  obtain ⟨q1,q2⟩:=hq w' (by omega)
  exact ⟨q1,by omega,q2⟩
theorem Vw.same {p : Nat → Prop} {H H0 : AH} {sz n : Nat} {v : Value} {cells : List Value} (h : Vw p H sz v n cells) (hs : SameC H H0) : Vw p H0 sz v n cells:=by
 refine ⟨h.1,?_⟩
 rcases h.2 with h | ⟨b,off,sp,cap,cs,h1,h2,h3,h4,h5,hp⟩
 ·exact .inl h
 ·exact .inr ⟨b,off,sp,cap,cs,h1,h2,h3,by rw [hs.2,h4],h5,hp⟩
theorem Keep.new_set {H H' : AH} {b : Nat} {B : Blk} (hb : H.next ≤ b) (h : Keep [] H H') : Keep [] H (H'.set b B) :=
 ⟨h.next,fun a ha hn => by rw [AH.set_blk_ne (by omega)]; exact h.blk a ha hn⟩
theorem Keep.new_alloc {H H' : AH} {B : Blk} (h : Keep [] H H') : Keep [] H (H'.alloc B):=h.trans' .alloc
theorem Own.pos {H : AH} {elem sz n : Nat} {v : Value} {cells : List Value} {S : List Nat} (h : Own H elem sz v n cells S) (hn : 0 < n) :
  ∃ b off sp cap cs,v = .slice (some ⟨b,off,sp⟩) n cap ∧ S = [b] ∧ H.blk b = some (.row cs elem true) ∧ H.cells b = some cs ∧ (sp = none ∨ sp = some sz) ∧ ∀ k,k < n * sz → cs[off + k]? = cells[k]?:=by
 obtain ⟨b,off,sp,cap,cs,h1,h2,h3,h4,_,_,h7,h8,_⟩:=h.at hn
 exact ⟨b,off,sp,cap,cs,h1,h2,h3,h4,h7,h8⟩
theorem over_one {cells : List Value} {k : Nat} {v : Value} (h : k < cells.length) : over cells k [v] = cells.set k v:=by
 rw [List.set_eq_take_append_cons_drop,if_pos h]
 simp [over]
end Go.Abs
/-
 THE ABSTRACT LAYER (33): a list that is built up by appends.
-/
namespace Go.Abs
open Go
end Go.Abs
/-
 THE ABSTRACT LAYER (34): a statement that lists package-level variables: where its walk starts.
-/
namespace Go.Abs
open Go Go.RowKit Go.ChangeShapes
def GroundW (G : GTab) (w : World) : Prop:=∀ p ∈ G,∃ c t fr,w.heap[p.1]? = some (.cells c t fr) ∧ ∀ i,i < p.2.length → c[i]? = p.2[i]?
theorem Sim.startG (P : Program) (W : World) {G : GTab} (hg : P.globals.size ≤ W.heap.size) (hG : goodG P.globals.size G = true) (hw : GroundW G W) : Sim P W.heap.size (startR P.globals.size) (groundH P.globals.size G) W:=by
 simp only [goodG,List.all_eq_true,Bool.and_eq_true,decide_eq_true_eq] at hG
 refine ⟨?_,?_,?_,?_,Nat.le_refl _⟩
 ·intro b e he
  simp only [startR] at he
  split at he
  ·cases he; rename_i h; exact ⟨h,by show b < _; omega⟩
  ·cases he
 ·intro b B hB
  obtain ⟨cs,hm,rfl⟩:=lookG_mem hB
  obtain ⟨c,t,fr,h1,h2⟩:=hw _ hm
  have hb:=hG _ hm
  have hp : cs.all plain = true:=by simpa using hb.2
  exact ⟨⟨b,0,0,0⟩,by simp [startR,hb.1],c,t,fr,cs,h1,VRs.of_plain hp,ones_of_plain hp,fun i hi => by simpa using h2 i hi,fun h => by cases h⟩
 ·intro b b' B B' e e' hB hB' _ _ _
  obtain ⟨_,_,rfl⟩:=lookG_mem hB
  obtain ⟨_,_,rfl⟩:=lookG_mem hB'
  exact .inr ⟨rfl,rfl⟩
 ·intro g hgl
  exact ⟨_,by simp only [startR,hgl,if_true]; rfl,rfl,rfl⟩
theorem groundA_start {n : Nat} {G : GTab} (h : ∀ p ∈ G,lookG G p.1 = some (.row p.2 0 false)) : GroundA G (groundH n G):=fun p hp => AH.cells_of (h p hp)
theorem laid_first {P : Program} {W : World} {name : String} {g : Nat} {t e : TypeId} {k : IntKind} {n : Nat} {zs : List Int} (hgn : P.globalNamed name = some g) (ht : (P.globals[g]?).map (·.type) = some t) (hu : P.underlying t = some (.array n e)) (hue : P.underlying e = some (.int k))
  (hce : P.cellsOf e = 1) (hlen : zs.length = n) (h0 : 0 < n) {rest : List (String × DataW Unit)} {ps : List MemPlace} (h : DataW.LaidVars P W ((name,.agg (zs.map fun z => .lit (.int k z))) :: rest) ps) : (∃ c t fr,W.heap[g]? = some (.cells c t fr) ∧ ∀ i,i < (zs.map (Value.int k)).length → c[i]? = (zs.map (Value.int k))[i]?) ∧ ∃ q,DataW.LaidVars P W rest q:=by
 obtain ⟨g0,t0,cs0,f0,p0,q0,hg0,ht0,hv0,hd0,hrest,_⟩:=h
 refine ⟨?_,q0,hrest⟩
 obtain rfl:=Option.some.inj (hgn.symm.trans hg0)
 obtain rfl:=Option.some.inj (ht.symm.trans ht0)
 obtain ⟨xs,m1,rfl,hx1,hl,hn3,hel⟩:=DataW.trod_array hu hd0
 simp only [Prod.mk.injEq,DataW.agg.injEq] at hx1
 have hcell : ∀ i (hi : i < n),cs0.toList[i]? = some (.int k (zs[i]'(by omega))):=by
  intro i hi
  have h1:=hel i hi
  rw [hce,Nat.mul_one,List.getElem?_eq_getElem (by omega)] at h1
  obtain ⟨z,e1,e2,_⟩:=DataW.trod_int hue h1
  have h2 : (zs.map fun z => (DataW.lit (.int k z) : DataW Unit))[i]? = (xs.map (·.1))[i]?:=by rw [hx1.1]
  rw [List.getElem?_map,List.getElem?_map,List.getElem?_eq_getElem (by omega),List.getElem?_eq_getElem (by omega),e2] at h2
  simp only [Option.map_some,Option.some.injEq,DataW.lit.injEq,Lit.int.injEq,true_and] at h2
  rw [h2]
  have h3 : (cs0.toList.drop i).take 1 = [.int k z]:=e1
  have h4 : ((cs0.toList.drop i).take 1)[0]? = some (.int k z):=by rw [h3]; rfl
  rw [List.getElem?_take_of_lt (by omega),List.getElem?_drop] at h4
  exact h4
 have hW:=World.var?_cell hgn hv0
 have h00:=hW 0
 rw [← Array.getElem?_toList,hcell 0 h0] at h00
 unfold World.cell? at h00
 split at h00
 ·rename_i c t fr hb
  refine ⟨c,t,fr,hb,fun i hi => ?_⟩
  have hi' : i < n:=by simpa [hlen] using hi
  have hWi:=hW i
  rw [← Array.getElem?_toList,hcell i hi'] at hWi
  unfold World.cell? at hWi
  simp only at hb hWi
  rw [hb] at hWi
  simp only [Option.isSome_none,Bool.false_eq_true,if_false] at hWi
  rw [hWi,List.getElem?_map,List.getElem?_eq_getElem (by omega)]
  rfl
 ·cases h00
theorem laid_one {P : Program} {W : World} {name : String} {g : Nat} {t e : TypeId} {k : IntKind} {n : Nat} {zs : List Int} (hgn : P.globalNamed name = some g) (ht : (P.globals[g]?).map (·.type) = some t) (hu : P.underlying t = some (.array n e)) (hue : P.underlying e = some (.int k))
  (hce : P.cellsOf e = 1) (hlen : zs.length = n) (h0 : 0 < n) (h : laidMet P [(name,.agg (zs.map fun z => .lit (.int k z)))] W) : ∃ c t fr,W.heap[g]? = some (.cells c t fr) ∧ ∀ i,i < (zs.map (Value.int k)).length → c[i]? = (zs.map (Value.int k))[i]?:=by
 obtain ⟨ps,h,_⟩:=h
 exact (laid_first hgn ht hu hue hce hlen h0 h).1
section
variable {T : Type} {enc : TypeId × Value → T} {P : Program} {w : World}
theorem groundH_ro {n : Nat} {G : GTab} : RO (groundH n G):=by
 intro b B hB
 obtain ⟨_,_,rfl⟩:=lookG_mem hB
 rfl
theorem walk_allG {f : FuncId} {ss : List Sh} {ts : List TypeId} {args : Array Value} {ds : List (DataW T)} {p : List MemPlace} {n b : Nat} {G : GTab} {Q : AH → AH → Prop} (hg : P.globals.size ≤ w.heap.size) (hG : goodG P.globals.size G = true) (hgs : ∀ p ∈ G,lookG G p.1 = some (.row p.2 0 false)) (hGW : GroundW G w)
  (ho : okArgs P n ss ts = true) (hA : DataW.TrodAll enc P w 0 (fun _ => true) true ts args.toList ds p)
  (hval : ∀ (j : Nat) t v,ts[j]? = some t → args.toList[j]? = some v → Value.okWide P w .any b t v) (hlaw : ∀ (avs : List Value) (H : AH),GroundA G H → IsAll H ss avs → AFn P f avs H fun v H' => v = .bool true ∧ Q H H') :
  Calls P f args w fun e w' => e = .returned (.bool true) ∧ Below w.heap.size w w':=by
 obtain ⟨ρ,H,avs,s1,s2,s3,s4,s5,s7⟩:=open_args (B0:=w.heap.size) n b ss ts args.toList ds p ho hA hval _ _ (Sim.startG P w hg hG hGW) groundH_ro
 exact AFn.tells (hlaw avs H ((groundA_start hgs).kept (groundH_wf hG) s4) s7) s1 s5
end
end Go.Abs
/-
 THE ABSTRACT LAYER (35): slices of numbers and of truths among the arguments.
-/
namespace Go.Abs
open Go
theorem wf_i64 {n : Int} (h : (Lit.int .i64 n).wf = true) : -9223372036854775808 ≤ n ∧ n ≤ 9223372036854775807:=by
 simpa [Lit.wf,IntKind.min,IntKind.max,IntKind.signed,IntKind.bits] using h
end Go.Abs
