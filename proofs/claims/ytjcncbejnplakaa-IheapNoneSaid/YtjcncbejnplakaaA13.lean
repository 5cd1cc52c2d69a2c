/-
  THE ABSTRACT LAYER (13): calls, and the code between them, on the abstract side; what each says of the model.
-/
import Derived.Test.YtjcncbejnplakaaA12
import Derived.OrdersIn
set_option linter.unusedSimpArgs false
set_option linter.unusedVariables false
namespace Go.Abs
open Go Go.RowKit

def Fr (r : Option Nat) : Fence := { Fence.wide with round := r }

/-- What a call leaves. -/
def Post (P : Program) (B0 : Nat) (ρ : Rho) (w : World) (Q : Value → AH → Prop) : Ending → World → Prop := fun e w' =>
  ∃ v' v H' ρ', e = .returned v' ∧ Stp P B0 ρ w ρ' H' w' ∧ VR ρ' v v' ∧ Q v H'

/-- A call of function f at these arguments, on this heap, returns, and Q holds of what it leaves. -/
def AFn (P : Program) (f : FuncId) (args : List Value) (H : AH) (Q : Value → AH → Prop) : Prop :=
  ∀ B0 ρ w (args' : Array Value), Sim P B0 ρ H w → VRs ρ args args'.toList → CallsIn Fence.wide 0 P f args' w (Post P B0 ρ w Q)

/-- A call of the yield of loop l. -/
def AYield (P : Program) (l : Nat) (args : List Value) (H : AH) (Q : Value → AH → Prop) : Prop :=
  ∀ B0 ρ w e (args' : Array Value), Sim P B0 ρ H w → ρ l = some e → VRs ρ args args'.toList →
    ∃ fn tmps assign body, (Instr.yield e.blk args').run P w = .ok (.round e.blk fn tmps assign body) w ∧ RoundIn Fence.wide 0 P e.blk fn tmps assign body w (Post P B0 ρ w Q)

/-- A call of a function value. -/
def ACall (P : Program) (fv : Value) (args : List Value) (H : AH) (Q : Value → AH → Prop) : Prop :=
  match fv with
  | .func (.func f) first cap => goodFunc P f = true ∧ AFn P f (first.toList ++ args ++ cap.toList) H Q
  | .func (.yield l) first cap => first = #[] ∧ cap = #[] ∧ AYield P l args H Q
  | _ => False

def lookT (tbl : List (TypeId × FuncId)) (t : TypeId) : Option FuncId :=
  match tbl with
  | [] => none
  | (u, f) :: rest => if u = t then some f else lookT rest t

/-- A method called on an interface value. -/
def AInv (P : Program) (recv : Value) (tbl : List (TypeId × FuncId)) (args : List Value) (H : AH) (Q : Value → AH → Prop) : Prop :=
  match recv with
  | .iface t (.pointer (some p)) => match lookT tbl t with
    | some f => goodFunc P f = true ∧ AFn P f (.pointer (some p) :: args) H Q
    | none => False
  | _ => False

theorem Post.mono {P : Program} {B0 : Nat} {ρ : Rho} {w : World} {Q Q' : Value → AH → Prop} (h : ∀ v H, Q v H → Q' v H) {e : Ending} {w' : World} (hp : Post P B0 ρ w Q e w') : Post P B0 ρ w Q' e w' := by
  obtain ⟨v', v, H', ρ', h1, h2, h3, h4⟩ := hp
  exact ⟨v', v, H', ρ', h1, h2, h3, h _ _ h4⟩

theorem AFn.mono {P : Program} {f : FuncId} {args : List Value} {H : AH} {Q Q' : Value → AH → Prop} (h : AFn P f args H Q) (hq : ∀ v H, Q v H → Q' v H) : AFn P f args H Q' :=
  fun B0 ρ w args' hs ha => (h B0 ρ w args' hs ha).mono fun _ _ hp => Post.mono hq hp

theorem AYield.mono {P : Program} {l : Nat} {args : List Value} {H : AH} {Q Q' : Value → AH → Prop} (h : AYield P l args H Q) (hq : ∀ v H, Q v H → Q' v H) : AYield P l args H Q' :=
  fun B0 ρ w e args' hs hl ha => let ⟨fn, tmps, assign, body, h1, h2⟩ := h B0 ρ w e args' hs hl ha; ⟨fn, tmps, assign, body, h1, h2.mono fun _ _ hp => Post.mono hq hp⟩

theorem ACall.mono {P : Program} {fv : Value} {args : List Value} {H : AH} {Q Q' : Value → AH → Prop} (h : ACall P fv args H Q) (hq : ∀ v H, Q v H → Q' v H) : ACall P fv args H Q' := by
  unfold ACall at *
  split at h
  · exact ⟨h.1, h.2.mono hq⟩
  · exact ⟨h.1, h.2.1, h.2.2.mono hq⟩
  · exact h

theorem AInv.mono {P : Program} {recv : Value} {tbl : List (TypeId × FuncId)} {args : List Value} {H : AH} {Q Q' : Value → AH → Prop} (h : AInv P recv tbl args H Q) (hq : ∀ v H, Q v H → Q' v H) : AInv P recv tbl args H Q' := by
  unfold AInv at *
  split at h
  · split at h
    · exact ⟨h.1, h.2.mono hq⟩
    · exact h
  · exact h

/-- Live blocks are below the next one. -/
def WF (H : AH) : Prop := ∀ b B, H.blk b = some B → b < H.next

theorem Sim.wf {P : Program} {B0 : Nat} {ρ : Rho} {H : AH} {w : World} (h : Sim P B0 ρ H w) : WF H := fun b B hB => let ⟨e, he, _⟩ := h.live b B hB; (h.fresh b e he).1

theorem Post.mono_wf {P : Program} {B0 : Nat} {ρ : Rho} {w : World} {Q Q' : Value → AH → Prop} (h : ∀ v H, WF H → Q v H → Q' v H) {e : Ending} {w' : World} (hp : Post P B0 ρ w Q e w') : Post P B0 ρ w Q' e w' := by
  obtain ⟨v', v, H', ρ', h1, h2, h3, h4⟩ := hp
  exact ⟨v', v, H', ρ', h1, h2, h3, h _ _ h2.sim.wf h4⟩
theorem AFn.mono_wf {P : Program} {f : FuncId} {args : List Value} {H : AH} {Q Q' : Value → AH → Prop} (h : AFn P f args H Q) (hq : ∀ v H, WF H → Q v H → Q' v H) : AFn P f args H Q' :=
  fun B0 ρ w args' hs ha => (h B0 ρ w args' hs ha).mono fun _ _ hp => Post.mono_wf hq hp
theorem AYield.mono_wf {P : Program} {l : Nat} {args : List Value} {H : AH} {Q Q' : Value → AH → Prop} (h : AYield P l args H Q) (hq : ∀ v H, WF H → Q v H → Q' v H) : AYield P l args H Q' :=
  fun B0 ρ w e args' hs hl ha => let ⟨fn, tmps, assign, body, h1, h2⟩ := h B0 ρ w e args' hs hl ha; ⟨fn, tmps, assign, body, h1, h2.mono fun _ _ hp => Post.mono_wf hq hp⟩
theorem ACall.mono_wf {P : Program} {fv : Value} {args : List Value} {H : AH} {Q Q' : Value → AH → Prop} (h : ACall P fv args H Q) (hq : ∀ v H, WF H → Q v H → Q' v H) : ACall P fv args H Q' := by
  unfold ACall at *
  split at h
  · exact ⟨h.1, h.2.mono_wf hq⟩
  · exact ⟨h.1, h.2.1, h.2.2.mono_wf hq⟩
  · exact h
theorem AInv.mono_wf {P : Program} {recv : Value} {tbl : List (TypeId × FuncId)} {args : List Value} {H : AH} {Q Q' : Value → AH → Prop} (h : AInv P recv tbl args H Q) (hq : ∀ v H, WF H → Q v H → Q' v H) : AInv P recv tbl args H Q' := by
  unfold AInv at *
  split at h
  · split at h
    · exact ⟨h.1, h.2.mono_wf hq⟩
    · exact h
  · exact h

/-- Is a guarded operation to be done? -/
def guardA (env : Env) : Option (Nat × Bool) → Option Bool
  | none => some true
  | some (d, want) => match env d with
    | some (.bool b) => some (b == want)
    | some _ => some false
    | none => none

/-- All that lives is as it was; there may be more. -/
def Grow (H H' : AH) : Prop := ∀ b B, H.blk b = some B → H'.blk b = some B

def stepA (P : Program) (draw : Bool) (o : AOper) (K : Env → AH → Prop) (env : Env) (H : AH) : Prop :=
  match guardA env o.guard with
  | none => False
  | some false => K (put env o.dst undef) H
  | some true =>
    match o.op with
    | .call f args => match aval env f, avals env args with
      | some fv, some vs =>
        if draw then ACall P fv vs H fun v H' => Grow H H' ∧ K (put env o.dst v) H'
        else ACall P fv vs H fun v H' => K (put env o.dst v) H'
      | _, _ => False
    | .invoke r tbl args => match aval env r, avals env args with
      | some rv, some vs =>
        if draw then AInv P rv tbl vs H fun v H' => Grow H H' ∧ K (put env o.dst v) H'
        else AInv P rv tbl vs H fun v H' => K (put env o.dst v) H'
      | _, _ => False
    | op => match ieval op env H with
      | some (v, H') => K (put env o.dst v) H'
      | none => False

def wpO (P : Program) (draw : Bool) (K : Env → AH → Prop) : List AOper → Env → AH → Prop
  | [], env, H => K env H
  | o :: rest, env, H => stepA P draw o (wpO P draw K rest) env H

theorem stepA_mono {P : Program} {draw : Bool} {o : AOper} {K K' : Env → AH → Prop} (hk : ∀ env H, K env H → K' env H) {env : Env} {H : AH} (h : stepA P draw o K env H) : stepA P draw o K' env H := by
  unfold stepA at *
  cases hg : guardA env o.guard with
  | none => simp only [hg] at h
  | some b =>
    cases b with
    | false => simp only [hg] at h ⊢; exact hk _ _ h
    | true =>
      simp only [hg] at h ⊢
      cases ho : o.op <;> simp only [ho] at h ⊢
      case call f args =>
        split at h
        · rename_i fv vs h1 h2
          cases draw with
          | true => exact h.mono fun _ _ hk' => ⟨hk'.1, hk _ _ hk'.2⟩
          | false => exact h.mono fun _ _ => hk _ _
        · exact h
      case invoke r tbl args =>
        split at h
        · rename_i fv vs h1 h2
          cases draw with
          | true => exact h.mono fun _ _ hk' => ⟨hk'.1, hk _ _ hk'.2⟩
          | false => exact h.mono fun _ _ => hk _ _
        · exact h
      all_goals
        split at h
        · exact hk _ _ h
        · exact h

/-! ### the model's side -/

def mark (r : Nat) : Deferred := { target := .collected r, args := #[] }

def Marks (lo : Nat) (a : Act) (w : World) : Prop :=
  ∃ rs : List Nat, a.defers = rs.map mark ∧ rs.Nodup ∧ ∀ r ∈ rs, lo ≤ r ∧ w.heap[r]? = some (.deferred (some []))

theorem Marks.ext {lo B0 : Nat} {a : Act} {w w' : World} (h : Marks lo a w) (he : Ext B0 w w') : Marks lo a w' := by
  obtain ⟨rs, h1, h2, h3⟩ := h
  exact ⟨rs, h1, h2, fun r hr => ⟨(h3 r hr).1, he.defd r _ (Array.getElem?_eq_some_iff.1 (h3 r hr).2).1 (h3 r hr).2⟩⟩

theorem Marks.put {lo : Nat} {a : Act} {w : World} (h : Marks lo a w) (dst : Option Tmp) (v : Value) : Marks lo (a.put dst v) w := by
  obtain ⟨rs, h1, h2, h3⟩ := h
  exact ⟨rs, by cases dst <;> simpa [Act.put] using h1, h2, h3⟩

/-- The state of both sides between two operations. -/
structure Both (P : Program) (B0 n lo : Nat) (ρ0 : Rho) (w0 : World) (ρ : Rho) (env : Env) (H : AH) (a : Act) (w : World) : Prop where
  stp : Stp P B0 ρ0 w0 ρ H w
  env : EnvR n ρ env a.tmps
  marks : Marks lo a w

theorem goodFunc_spec {P : Program} {f : FuncId} (h : goodFunc P f = true) (args : Array Value) (w : World) : (callFunc f args).run P w = .ok (.enter f args) w := by
  unfold goodFunc at h
  split at h
  · rename_i fn hf
    simp only [Bool.and_eq_true, Bool.not_eq_true'] at h
    have h2 : ¬ fn.body = none := by cases hb : fn.body <;> simp [hb] at h ⊢
    have h3 : ¬ fn.name = "runtime.NumGoroutine" := by simpa using h.2
    simp [callFunc, hf, h3, h2]
  · cases h

/-- What the call of a function value comes to. -/
theorem ACall.runs {P : Program} {fv : Value} {args : List Value} {H : AH} {Q : Value → AH → Prop} (h : ACall P fv args H Q) {B0 : Nat} {ρ : Rho} {w : World} {fv' : Value} {args' : Array Value}
    (hs : Sim P B0 ρ H w) (hf : VR ρ fv fv') (ha : VRs ρ args args'.toList) (r : Option Nat) :
    ∃ d nx, (Deferred.ofValue fv' args').run P w = .ok d w ∧ (invoke d.target d.args).run P w = .ok nx w ∧
      ((∃ f as, nx = .enter f as ∧ CallsIn (Fr r) 0 P f as w (Post P B0 ρ w Q)) ∨
       (∃ l fn tmps assign body, nx = .round l fn tmps assign body ∧ RoundIn (Fr r) 0 P l fn tmps assign body w (Post P B0 ρ w Q))) := by
  unfold ACall at h
  split at h
  · rename_i f first cap
    obtain ⟨hg, h⟩ := h
    cases hf with
    | func _ _ p' _ q' hfn hp hq h1 h2 =>
      refine ⟨{ target := .fn (.func f) q', args := p' ++ args' }, .enter f (p' ++ args' ++ q'), rfl, ?_, .inl ⟨f, _, rfl, ?_⟩⟩
      · simp only [invoke]; exact goodFunc_spec hg _ w
      · refine h B0 ρ w _ hs ?_
        have e1 : VRs ρ first.toList p'.toList := VRs.of_get (by simpa using hp) (fun i a b => by simpa using h1 i (by simpa using a) (by simpa using b))
        have e2 : VRs ρ cap.toList q'.toList := VRs.of_get (by simpa using hq) (fun i a b => by simpa using h2 i (by simpa using a) (by simpa using b))
        simp only [Array.toList_append]
        exact (e1.append ha).append e2
  · rename_i l first cap
    obtain ⟨rfl, rfl, h⟩ := h
    cases hf with
    | func _ _ _ _ _ hfn => exact absurd rfl (hfn l)
    | yield _ e he =>
      obtain ⟨fn, tmps, assign, body, h1, h2⟩ := h B0 ρ w e args' hs he ha
      refine ⟨{ target := .fn (.yield e.blk) #[], args := args' }, _, ?_, ?_, .inr ⟨e.blk, fn, tmps, assign, body, rfl, h2⟩⟩
      · simp [Deferred.ofValue]
      · simp only [invoke]; exact h1
  · exact h.elim

theorem ACall.runs_fn {P : Program} {f : FuncId} {p q : Array Value} {args : List Value} {H : AH} {Q : Value → AH → Prop} (h : ACall P (.func (.func f) p q) args H Q) {B0 : Nat} {ρ : Rho} {w : World} {fv' : Value} {args' : Array Value}
    (hs : Sim P B0 ρ H w) (hf : VR ρ (.func (.func f) p q) fv') (ha : VRs ρ args args'.toList) (r : Option Nat) :
    ∃ d f as, (Deferred.ofValue fv' args').run P w = .ok d w ∧ (invoke d.target d.args).run P w = .ok (.enter f as) w ∧ CallsIn (Fr r) 0 P f as w (Post P B0 ρ w Q) := by
  obtain ⟨hg, h⟩ := h
  cases hf with
  | func _ _ p' _ q' hfn hp hq h1 h2 =>
    refine ⟨{ target := .fn (.func f) q', args := p' ++ args' }, f, (p' ++ args' ++ q'), rfl, ?_, ?_⟩
    · simp only [invoke]; exact goodFunc_spec hg _ w
    · refine h B0 ρ w _ hs ?_
      have e1 : VRs ρ p.toList p'.toList := VRs.of_get (by simpa using hp) (fun i a b => by simpa using h1 i (by simpa using a) (by simpa using b))
      have e2 : VRs ρ q.toList q'.toList := VRs.of_get (by simpa using hq) (fun i a b => by simpa using h2 i (by simpa using a) (by simpa using b))
      simp only [Array.toList_append]
      exact (e1.append ha).append e2

end Go.Abs
