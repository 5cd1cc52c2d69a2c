/-
  THE ABSTRACT LAYER (17): code; functions; ranges over a function.
-/
import Derived.Test.YtjcncbejnplakaaA16
import Derived.Scope
set_option linter.unusedSimpArgs false
set_option linter.unusedVariables false
namespace Go.Abs
open Go Go.RowKit

/-- A loop that ends within so many rounds. -/
def loopP (step : (AExit → Env → AH → Prop) → Env → AH → Prop) (Q : AExit → Env → AH → Prop) : Nat → Env → AH → Prop
  | 0, _, _ => False
  | n + 1, env, H => step (fun e env H => match e with
    | .normal => loopP step Q n env H
    | e => Q e env H) env H

/-- What is asked behind a range over a function. -/
def rangeK (l : Nat) (Q : AExit → Env → AH → Prop) (env : Env) (H : AH) : Prop :=
  match H.blk l with
  | some (.loop L) => L.state ≠ .busy ∧ match L.pending with
    | none => Q .normal env (H.set l (.loop { L with state := .exhausted }))
    | some e => e ≠ .normal ∧ Q e env (H.set l (.loop { L with state := .exhausted }))
  | _ => False

def wpC (P : Program) (n : Nat) : ACode → (AExit → Env → AH → Prop) → Env → AH → Prop
  | .skip, Q, env, H => Q .normal env H
  | .region ops draw, Q, env, H => wpO P draw (Q .normal) ops env H
  | .seq a b, Q, env, H => wpC P n a (fun e env H => match e with
    | .normal => wpC P n b Q env H
    | e => Q e env H) env H
  | .cond c a b, Q, env, H => match aval env c with
    | some (.bool t) => if t then wpC P n a Q env H else wpC P n b Q env H
    | _ => False
  | .block id a, Q, env, H => wpC P n a (fun e env H => match e with
    | .exit i => if i = id then Q .normal env H else Q (.exit i) env H
    | e => Q e env H) env H
  | .loop a, Q, env, H => ∃ k, loopP (wpC P n a) Q k env H
  | .rangeFunc f ps assign body, Q, env, H => match aval env f with
    | some (.func (.func g) p q) => ACall P (.func (.func g) p q) [.func (.yield H.next) #[] #[]] (H.alloc (.loop { state := .ready, pending := none, env, params := ps, assign, body, n })) fun _ H' => rangeK H.next Q env H'
    | _ => False
  | .exit id, Q, env, H => Q (.exit id) env H
  | .ret, Q, env, H => Q .ret env H

theorem loopP_mono {step : (AExit → Env → AH → Prop) → Env → AH → Prop} (hstep : ∀ {Q Q' : AExit → Env → AH → Prop}, (∀ e env H, Q e env H → Q' e env H) → ∀ {env H}, step Q env H → step Q' env H)
    {Q Q' : AExit → Env → AH → Prop} (hq : ∀ e env H, Q e env H → Q' e env H) : ∀ (k : Nat) {env : Env} {H : AH}, loopP step Q k env H → loopP step Q' k env H
  | 0, env, H, h => h
  | k + 1, env, H, h => hstep (fun e env H h => by
      cases e with
      | normal => exact loopP_mono hstep hq k h
      | exit id => exact hq _ _ _ h
      | ret => exact hq _ _ _ h) h

theorem wpO_mono {P : Program} {draw : Bool} {K K' : Env → AH → Prop} (hk : ∀ env H, K env H → K' env H) : ∀ {ops : List AOper} {env : Env} {H : AH}, wpO P draw K ops env H → wpO P draw K' ops env H
  | [], _, _, h => hk _ _ h
  | _ :: _, _, _, h => stepA_mono (fun _ _ h => wpO_mono hk h) h

theorem wpC_mono {P : Program} {n : Nat} : ∀ (c : ACode) {Q Q' : AExit → Env → AH → Prop}, (∀ e env H, Q e env H → Q' e env H) → ∀ {env : Env} {H : AH}, wpC P n c Q env H → wpC P n c Q' env H
  | .skip, Q, Q', hq, env, H, h => hq _ _ _ h
  | .region ops draw, Q, Q', hq, env, H, h => wpO_mono (fun env H => hq .normal env H) h
  | .seq a b, Q, Q', hq, env, H, h => wpC_mono a (fun e env H h => by
      cases e with
      | normal => exact wpC_mono b hq h
      | exit id => exact hq _ _ _ h
      | ret => exact hq _ _ _ h) h
  | .cond c a b, Q, Q', hq, env, H, h => by
    simp only [wpC] at h ⊢
    split at h
    · rename_i t _
      cases t
      · exact wpC_mono b hq h
      · exact wpC_mono a hq h
    · exact h
  | .block id a, Q, Q', hq, env, H, h => wpC_mono a (fun e env H h => by
      cases e with
      | normal => exact hq _ _ _ h
      | exit i =>
        simp only at h ⊢
        split
        · rename_i hi; rw [if_pos hi] at h; exact hq _ _ _ h
        · rename_i hi; rw [if_neg hi] at h; exact hq _ _ _ h
      | ret => exact hq _ _ _ h) h
  | .loop a, Q, Q', hq, env, H, h => by
    obtain ⟨k, h⟩ := h
    exact ⟨k, loopP_mono (step := wpC P n a) (fun {Q Q'} hq {env H} h => wpC_mono a hq h) hq k h⟩
  | .rangeFunc f ps assign body, Q, Q', hq, env, H, h => by
    simp only [wpC] at h ⊢
    split at h
    · refine h.mono fun v H' h => ?_
      unfold rangeK at *
      split at h
      · rename_i L _
        refine ⟨h.1, ?_⟩
        have h2 := h.2
        split at h2
        · exact hq _ _ _ h2
        · exact ⟨h2.1, hq _ _ _ h2.2⟩
      · exact h
    · exact h
  | .exit id, Q, Q', hq, env, H, h => hq _ _ _ h
  | .ret, Q, Q', hq, env, H, h => hq _ _ _ h

/-! ### what it says of the model -/

def toExit : AExit → Exit
  | .normal => .normal
  | .exit id => .exit id
  | .ret => .ret

def PostC (P : Program) (B0 n lo : Nat) (ρ0 : Rho) (w0 : World) (Q : AExit → Env → AH → Prop) : Exit → Act → World → Prop := fun e a w =>
  ∃ e' env H ρ, e = toExit e' ∧ Both P B0 n lo ρ0 w0 ρ env H a w ∧ Q e' env H

theorem stepR_scope {P : Program} {b : Frame} {a : Act} {k : List Item} {cs : List Frame} {w : World} {c : Code} :
    step P (lone (b.atR a (.code (.scope c) :: k)) cs w) = .next (lone (b.atR a (.code c :: .inScope c :: k)) cs w) :=
  step_lone_go (by simp [stepG, stepG.exec, Frame.atR])
theorem stepR_inScope {P : Program} {b : Frame} {a : Act} {k : List Item} {cs : List Frame} {w : World} {c : Code} :
    step P (lone (b.atR a (.inScope c :: k)) cs w) = .next (lone (b.atR a k) cs w) :=
  step_lone_go (by simp [stepG, stepG.exec, Frame.atR])

theorem wpIn_scope {P : Program} {F : Fence} {m : Nat} {Q : Exit → Act → World → Prop} {a : Act} {w : World} {c : Code} (h : c.wpIn F m P Q a w) (hg : ∀ l a w, ¬ Q (.goto l) a w) : (Code.scope c).wpIn F m P Q a w := by
  intro b k cs hro hb hr
  have h0 : (lone (b.atR a (.code (.scope c) :: k)) cs w).fenced P F := fenced_calm hb hr rfl
  obtain ⟨e, a₁, w₁, hq, harr⟩ := h b (.inScope c :: k) cs hro hb hr
  have hx : ∀ id, exitTo id (.inScope c :: k) = exitTo id k := fun id => rfl
  cases e with
  | normal => exact ⟨.normal, a₁, w₁, hq, .head h0 stepR_scope (StepsIn.trans harr (.one (fenced_calm hb hr rfl) stepR_inScope))⟩
  | exit id => exact ⟨.exit id, a₁, w₁, hq, fun k' hk => .head h0 stepR_scope (harr.1 k' (by rw [hx]; exact hk)), fun hr' hk => let ⟨k₁, h1, h2⟩ := harr.2 hr' (by rw [hx]; exact hk); ⟨k₁, h1, .head h0 stepR_scope h2⟩⟩
  | goto l => exact absurd hq (hg l _ _)
  | ret => exact ⟨_, a₁, w₁, hq, .of_steps (.one h0 stepR_scope) harr⟩
  | panic ch => exact ⟨_, a₁, w₁, hq, .of_steps (.one h0 stepR_scope) harr⟩
  | outgrown => exact ⟨_, a₁, w₁, hq, .of_steps (b := b) (k := k) (cs := cs) (e := .outgrown) (.one h0 stepR_scope) harr⟩

theorem cond_sound {P : Program} {B0 n lo : Nat} {ρ0 ρ : Rho} {w0 w : World} {env : Env} {H : AH} {a : Act} {c : Operand} {t : Bool} (hb : Both P B0 n lo ρ0 w0 ρ env H a w) (hk : okOpd P c = true) (h : aval env c = some (.bool t)) : a.eval c = .bool t :=
  (aval_sound hb.stp.sim hb.env hk h).bool_inv

/-- A block of the model's that stands for nothing. -/
theorem Sim.idle {P : Program} {B0 : Nat} {ρ : Rho} {H : AH} {w w' : World} (h : Sim P B0 ρ H w) (o : Obj) (hh : w'.heap = w.heap.push o) (hos : w'.os = w.os) (ht : w'.tape = w.tape) (hout : w'.output = w.output) : Stp P B0 ρ w ρ H w' := by
  have hold : ∀ k, k < w.heap.size → w'.heap[k]? = w.heap[k]? := fun k hk => by rw [hh, Array.getElem?_push, if_neg (by omega)]
  refine ⟨⟨fun b e he => ?_, fun b B hB => ?_, h.inj, h.glob, ?_⟩, Rho.le_refl _, ⟨⟨hos, ht, hout, by rw [hh]; simp, fun k hk => hold k (Nat.lt_of_lt_of_le hk h.base)⟩, fun k ds hk hd => by rw [hold k hk]; exact hd, fun k r hr => ⟨r, by rw [hold k (Array.getElem?_eq_some_iff.1 hr).1]; exact hr⟩⟩⟩
  · have := h.fresh b e he; exact ⟨this.1, by rw [hh]; simp; omega⟩
  · obtain ⟨e, he, hr⟩ := h.live b B hB
    exact ⟨e, he, hr.keep (Rho.le_refl _) (hold _ (h.fresh _ _ he).2)⟩
  · rw [hh]; simp; have := h.base; omega

/-- The state of a range over a function is set. -/
theorem Sim.setLoop {P : Program} {B0 : Nat} {ρ : Rho} {H : AH} {w : World} (h : Sim P B0 ρ H w) {l : Nat} {e : Emb} {L L' : LoopA} {r' : Loop} (hl : H.blk l = some (.loop L)) (he : ρ l = some e)
    (hL : ∀ w', w'.heap[e.blk]? = some (.loop r') → Loops P ρ w' B0 e L') : Stp P B0 ρ w ρ (H.set l (.loop L')) { w with heap := w.heap.setIfInBounds e.blk (.loop r') } := by
  obtain ⟨e2, he2, r, hr, hbase, _⟩ := h.live _ _ hl
  rw [he] at he2
  cases he2
  have hlt := (h.fresh _ _ he).2
  have hoth : ∀ k, k ≠ e.blk → (w.heap.setIfInBounds e.blk (.loop r'))[k]? = w.heap[k]? := fun k hk => Array.getElem?_setIfInBounds_ne (Ne.symm hk)
  have hself : (w.heap.setIfInBounds e.blk (.loop r'))[e.blk]? = some (.loop r') := by simp [hlt]
  refine ⟨⟨fun b f hf => ?_, fun b B hB => ?_, fun b b' B B' f f' hB hB' hf hf' hff => ?_, h.glob, by simpa using h.base⟩, Rho.le_refl _, ⟨⟨rfl, rfl, rfl, by simp, fun k hk => hoth k (by omega)⟩, fun k ds hk hd => ?_, fun k q hq => ?_⟩⟩
  · have := h.fresh b f hf; exact ⟨this.1, by simpa using this.2⟩
  · simp only [AH.set] at hB
    split at hB
    · rename_i hb; cases hB; subst hb; exact ⟨e, he, hL _ hself⟩
    · rename_i hb
      obtain ⟨f, hf, hr2⟩ := h.live b B hB
      refine ⟨f, hf, hr2.keep (Rho.le_refl _) (hoth _ fun hfe => ?_)⟩
      rcases h.inj b l B _ f e hB hl hf he hfe with h' | h'
      · exact hb h'
      · simp [Blk.mine] at h'
  · simp only [AH.set] at hB hB'
    by_cases hb : b = l
    · by_cases hb' : b' = l
      · left; omega
      · rw [if_neg hb'] at hB'
        subst hb
        rcases h.inj b b' _ B' f f' hl hB' hf hf' hff with h' | h'
        · exact .inl h'
        · simp [Blk.mine] at h'
    · rw [if_neg hb] at hB
      by_cases hb' : b' = l
      · subst hb'
        rcases h.inj b b' B _ f f' hB hl hf hf' hff with h' | h'
        · exact .inl h'
        · simp [Blk.mine] at h'
      · rw [if_neg hb'] at hB'
        exact h.inj b b' B B' f f' hB hB' hf hf' hff
  · by_cases hk2 : k = e.blk
    · subst hk2; rw [hr] at hd; cases hd
    · show (w.heap.setIfInBounds e.blk (.loop r'))[k]? = _
      rw [hoth k hk2]; exact hd
  · by_cases hk2 : k = e.blk
    · subst hk2; exact ⟨r', hself⟩
    · exact ⟨q, by show (w.heap.setIfInBounds e.blk (.loop r'))[k]? = _; rw [hoth k hk2]; exact hq⟩

theorem getLoop_run {P : Program} {w : World} {k : Nat} {r : Loop} (h : w.heap[k]? = some (.loop r)) : (Instr.getLoop k).run P w = .ok r w := by
  simp [Instr.getLoop, getObj, Sem.run, h]

theorem setObj_run {P : Program} {w : World} {k : Nat} {r r' : Loop} (h : w.heap[k]? = some (.loop r)) : (setObj k (.loop r')).run P w = .ok () { w with heap := w.heap.setIfInBounds k (.loop r') } := by
  simp [setObj, Sem.run, h]

/-- CODE: what is shown of the compiled code holds of the model's. -/
theorem code_sound {P : Program} (hm : P.follows .mixedOrders = true) {B0 n lo : Nat} {ρ0 : Rho} {w0 : World} (hlo : lo ≤ w0.heap.size) {r : Option Nat} (hrl : ∀ l, r = some l → ∃ R, w0.heap[l]? = some (.loop R)) : ∀ (c : Code) {ac : ACode} {Q : AExit → Env → AH → Prop}, compC P n c = some ac →
    ∀ {ρ env H a w}, wpC P n ac Q env H → Both P B0 n lo ρ0 w0 ρ env H a w → c.wpIn (Fr r) 0 P (PostC P B0 n lo ρ0 w0 Q) a w
  | .skip, ac, Q, hc, ρ, env, H, a, w, h, hb => by
    cases hc
    exact wpIn_skip ⟨.normal, env, H, ρ, rfl, hb, h⟩
  | .label l, ac, Q, hc, ρ, env, H, a, w, h, hb => by
    cases hc
    exact wpIn_label ⟨.normal, env, H, ρ, rfl, hb, h⟩
  | .exit id, ac, Q, hc, ρ, env, H, a, w, h, hb => by
    cases hc
    exact wpIn_exit ⟨.exit id, env, H, ρ, rfl, hb, h⟩
  | .ret, ac, Q, hc, ρ, env, H, a, w, h, hb => by
    cases hc
    exact wpIn_ret ⟨.ret, env, H, ρ, rfl, hb, h⟩
  | .goto l, ac, Q, hc, ρ, env, H, a, w, h, hb => by cases hc
  | .refuse s, ac, Q, hc, ρ, env, H, a, w, h, hb => by cases hc
  | .region id ops draw, ac, Q, hc, ρ, env, H, a, w, h, hb => by
    simp only [compC] at hc
    split at hc
    · rename_i al hal
      cases draw with
      | false =>
        simp only [Bool.false_eq_true, if_false] at hc
        cases hc
        refine wpIn_region ?_
        have := region_sound (r := r) (ops := ops) (K := Q .normal) (Q' := PostC P B0 n lo ρ0 w0 Q) (fun ρ' env' H' a' w' hb' hk => ⟨.normal, env', H', ρ', rfl, hb', hk⟩) ops.toList al 0 (by simp) (by simp) hal h hb
        simpa [List.range_eq_range'] using this
      | true =>
        simp only [if_true] at hc
        split at hc
        · rename_i hd
          cases hc
          exact drawn_sound hm hd hal (fun ρ' env' H' a' w' hb' hk => ⟨.normal, env', H', ρ', rfl, hb', hk⟩) h hb
        · cases hc
    · cases hc
  | .seq x y, ac, Q, hc, ρ, env, H, a, w, h, hb => by
    simp only [compC] at hc
    split at hc
    · rename_i ax ay hx hy
      cases hc
      refine wpIn_seq (wpIn_mono (code_sound hm hlo hrl x hx h hb) ?_)
      rintro e a1 w1 ⟨e', env1, H1, ρ1, rfl, hb1, hq⟩
      cases e' with
      | normal => exact code_sound hm hlo hrl y hy hq hb1
      | exit id => exact ⟨.exit id, env1, H1, ρ1, rfl, hb1, hq⟩
      | ret => exact ⟨.ret, env1, H1, ρ1, rfl, hb1, hq⟩
    · cases hc
  | .cond c x y, ac, Q, hc, ρ, env, H, a, w, h, hb => by
    simp only [compC] at hc
    split at hc
    · rename_i hk
      split at hc
      · rename_i ax ay hx hy
        cases hc
        simp only [wpC] at h
        split at h
        · rename_i t ht
          refine wpIn_cond (cond_sound hb hk ht) ?_
          cases t with
          | true => exact code_sound hm hlo hrl x hx h hb
          | false => exact code_sound hm hlo hrl y hy h hb
        · exact h.elim
      · cases hc
    · cases hc
  | .block id x, ac, Q, hc, ρ, env, H, a, w, h, hb => by
    simp only [compC] at hc
    obtain ⟨ax, hx, rfl⟩ := opt_map_some hc
    refine wpIn_block (wpIn_mono (code_sound hm hlo hrl x hx h hb) ?_)
    rintro e a1 w1 ⟨e', env1, H1, ρ1, rfl, hb1, hq⟩
    cases e' with
    | normal => exact ⟨.normal, env1, H1, ρ1, rfl, hb1, hq⟩
    | exit i =>
      simp only [toExit, Exit.inBlock]
      simp only at hq
      by_cases hi : i = id
      · rw [if_pos hi] at hq ⊢; exact ⟨.normal, env1, H1, ρ1, rfl, hb1, hq⟩
      · rw [if_neg hi] at hq ⊢; exact ⟨.exit i, env1, H1, ρ1, rfl, hb1, hq⟩
    | ret => exact ⟨.ret, env1, H1, ρ1, rfl, hb1, hq⟩
  | .scope x, ac, Q, hc, ρ, env, H, a, w, h, hb => by
    simp only [compC] at hc
    refine wpIn_scope (code_sound hm hlo hrl x hc h hb) ?_
    rintro l a w ⟨e', env1, H1, ρ1, he, _⟩
    cases e' <;> cases he
  | .loop x, ac, Q, hc, ρ, env, H, a, w, h, hb => by
    simp only [compC] at hc
    obtain ⟨ax, hx, rfl⟩ := opt_map_some hc
    simp only [wpC] at h
    obtain ⟨k, h⟩ := h
    have key : ∀ k a w, (∃ ρ env H, loopP (wpC P n ax) Q k env H ∧ Both P B0 n lo ρ0 w0 ρ env H a w) → ∀ (b : Frame) (kk : List Item) (cs : List Frame), b.roundOf = (Fr r).round → (Fr r).fn b.fn → (Fr r).room (cs.length + 1 + 0) →
        ∃ e a' w', PostC P B0 n lo ρ0 w0 Q e a' w' ∧ ArrivesIn (Machine.fenced P (Fr r)) P (lone (b.atR a (.code x :: .inLoop x :: kk)) cs w) b kk cs e a' w' := by
      intro k
      induction k with
      | zero => rintro a w ⟨_, _, _, h1, _⟩; exact h1.elim
      | succ k ih =>
        rintro a w ⟨ρ1, env1, H1, h1, hb1⟩ b kk cs hro hbf hr
        simp only [loopP] at h1
        obtain ⟨e, a1, w1, ⟨e', env2, H2, ρ2, rfl, hb2, hq⟩, harr⟩ := code_sound hm hlo hrl x hx h1 hb1 b (.inLoop x :: kk) cs hro hbf hr
        cases e' with
        | normal =>
          obtain ⟨e2, a2, w2, hq2, harr2⟩ := ih a1 w1 ⟨ρ2, env2, H2, hq, hb2⟩ b kk cs hro hbf hr
          exact ⟨e2, a2, w2, hq2, .of_steps (StepsIn.trans harr (.one (fenced_calm hbf hr rfl) stepR_inLoop)) harr2⟩
        | exit id => exact ⟨_, a1, w1, ⟨.exit id, env2, H2, ρ2, rfl, hb2, hq⟩, .pass (x := .inLoop x) rfl (fun _ _ => .inl (by simp [toExit])) harr⟩
        | ret => exact ⟨_, a1, w1, ⟨.ret, env2, H2, ρ2, rfl, hb2, hq⟩, .pass (x := .inLoop x) rfl (fun _ _ => .inl (by simp [toExit])) harr⟩
    intro b kk cs hro hbf hr
    obtain ⟨e, a', w', hq, harr⟩ := key k a w ⟨ρ, env, H, h, hb⟩ b kk cs hro hbf hr
    exact ⟨e, a', w', hq, .of_steps (.one (fenced_calm hbf hr rfl) stepR_loop) harr⟩
  | .rangeFunc f ps x y, ac, Q, hc, ρ, env, H, a, w, h, hb => by
    simp only [compC] at hc
    split at hc
    · rename_i hcond
      simp only [Bool.and_eq_true] at hcond
      obtain ⟨hk, hps⟩ := hcond
      split at hc
      · rename_i ax ay hx hy
        cases hc
        simp only [wpC] at h
        split at h
        · rename_i g p q hfv
          refine wpIn_rangeFunc fun fn _ => ?_
          -- the record is laid
          have lay : ∀ (mk : List Deferred) (dn : Nat) (w1 : World), Stp P B0 ρ w ρ H w1 → Marks lo { a with defers := mk ++ a.defers } w1 →
              (Instr.enterLoop fn a.tmps ps x y r).run P w = .ok (w1.heap.size, mk) (w1.alloc (.loop { state := .ready, pending := none, fn, tmps := a.tmps, params := ps, assign := x, body := y, defers := dn })) →
              ∃ (l : Nat) (mark : List Deferred) (w₁ : World) (d : Deferred) (w₁' : World) (f_1 : FuncId) (args : Array Value) (w₂ : World),
                (Instr.enterLoop fn a.tmps ps x y (Fr r).round).run P w = .ok (l, mark) w₁ ∧ (resolve a.eval (rangeCall f l) 0).run P w₁ = .ok d w₁' ∧
                (∀ f', Target.leads P w₁' d.target d.args = some f' → (Fr r).fn f') ∧ (invoke d.target d.args).run P w₁' = .ok (.enter f_1 args) w₂ ∧ ((Fr r).depth.isSome = true → 1 ≤ 0) ∧
                CallsIn (Fr r) (0 - 1) P f_1 args w₂ (rangePost (Fr r) 0 P l (PostC P B0 n lo ρ0 w0 Q) { a with defers := mark ++ a.defers }) := by
            intro mk dn w1 hst1 hmk hrun
            generalize hR : ({ state := .ready, pending := none, fn, tmps := a.tmps, params := ps, assign := x, body := y, defers := dn } : Loop) = R at hrun
            have hs1 := hst1.sim
            have hst2 := hs1.push (w' := w1.alloc (.loop R)) (.loop R) (.loop { state := .ready, pending := none, env, params := ps.toList, assign := ax, body := ay, n }) ⟨w1.heap.size, 0, 0, 0⟩ rfl rfl rfl rfl rfl
              ⟨R, heap_alloc_new _ _, hs1.base, by rw [← hR], by rw [← hR]; rfl, by rw [← hR], by rw [← hR]; exact (hb.env.mono (Rho.le_add hs1.new_none)), by rw [← hR]; exact hx, by rw [← hR]; exact hy, by
                intro p hp
                have := (Array.all_eq_true_iff_forall_mem.1 hps) p (by simpa using hp)
                simpa using this⟩
            have hfv' := (aval_sound hb.stp.sim hb.env hk hfv).mono hst2.le
            have hyv : VRs (ρ.add H.next ⟨w1.heap.size, 0, 0, 0⟩) [.func (.yield H.next) #[] #[]] (#[Value.func (.yield w1.heap.size) #[] #[]]).toList :=
              .cons (.yield H.next ⟨w1.heap.size, 0, 0, 0⟩ (by simp [Rho.add])) .nil
            obtain ⟨d, f1, as, e1, e2, hcalls⟩ := h.runs_fn hst2.sim hfv' hyv r
            · refine ⟨w1.heap.size, mk, _, d, _, f1, as, _, hrun, ?_, fun _ _ => trivial, e2, fun h => by simp [Fr, Fence.wide] at h, hcalls.mono ?_⟩
              · simp only [resolve, rangeCall, List.map_toArray, List.map_cons, List.map_nil]
                exact e1
              · rintro e w3 ⟨v', v, H3, ρ3, rfl, hst3, hvr, hq⟩
                -- behind the call
                unfold rangeK at hq
                split at hq
                · rename_i L hL
                  obtain ⟨hnb, hq⟩ := hq
                  have hle3 : ρ3 H.next = some ⟨w1.heap.size, 0, 0, 0⟩ := hst3.le _ _ (by simp [Rho.add])
                  obtain ⟨e4, he4, R3, r1, r2, r3, r4, r5, r6, r7, r8, r9⟩ := hst3.sim.live _ _ hL
                  rw [hle3] at he4
                  cases he4
                  have hset := hst3.sim.setLoop (L' := { L with state := .exhausted }) (r' := { R3 with state := .exhausted }) hL hle3 (fun w' hw' => ⟨_, hw', r2, rfl, r4, r5, r6, r7, r8, r9⟩)
                  generalize hRf : ({ R3 with state := .exhausted } : Loop) = Rf at hset
                  have hend : (Instr.endLoop w1.heap.size).run P w3 = .ok R3.pending { w3 with heap := w3.heap.setIfInBounds w1.heap.size (.loop Rf) } := by
                    have hbz : (R3.state == LoopState.busy) = false := by
                      rw [r3]
                      cases hst : L.state <;> first | rfl | exact absurd hst hnb
                    unfold Instr.endLoop
                    rw [Sem.run_bind, getLoop_run r1, Result.andThen_ok]
                    simp only [hbz, Bool.false_eq_true, if_false, hRf, Sem.run_bind, Sem.run_pure, Result.andThen_ok, setObj_run r1]
                  have hall := ((hst1.trans hst2).trans hst3).trans hset
                  have hmk3 := hmk.ext ((hst2.trans hst3).trans hset).ext
                  generalize ({ w3 with heap := w3.heap.setIfInBounds w1.heap.size (.loop Rf) } : World) = wf at hend hall hmk3 hset
                  generalize (H3.set H.next (.loop { L with state := .exhausted })) = Hf at hq hall hset
                  have hboth : Both P B0 n lo ρ0 w0 ρ3 env Hf { a with defers := mk ++ a.defers } wf := ⟨hb.stp.trans hall, hb.env.mono hall.le, hmk3⟩
                  refine ⟨R3.pending, _, hend, ?_⟩
                  rw [r4]
                  cases hpd : L.pending with
                  | none =>
                    rw [hpd] at hq
                    exact ⟨.normal, env, _, ρ3, rfl, hboth, hq⟩
                  | some e5 =>
                    rw [hpd] at hq
                    obtain ⟨hne, hq⟩ := hq
                    cases e5 with
                    | normal => exact absurd rfl hne
                    | exit id => exact wpIn_exit ⟨.exit id, env, _, ρ3, rfl, hboth, hq⟩
                    | ret => exact wpIn_ret ⟨.ret, env, _, ρ3, rfl, hboth, hq⟩
                · exact hq.elim
          cases r with
          | none =>
            have hst1 : Stp P B0 ρ w ρ H (w.alloc (.deferred (some []))) := hb.stp.sim.idle (.deferred (some [])) rfl rfl rfl rfl
            refine lay [mark w.heap.size] w.heap.size (w.alloc (.deferred (some []))) hst1 ?_ ?_
            · obtain ⟨rs, m1, m2, m3⟩ := hb.marks
              refine ⟨w.heap.size :: rs, by simp [m1], List.nodup_cons.2 ⟨fun hin => ?_, m2⟩, ?_⟩
              · have := (Array.getElem?_eq_some_iff.1 (m3 _ hin).2).1; omega
              · intro q hq
                rcases List.mem_cons.1 hq with rfl | hq
                · exact ⟨Nat.le_trans hlo hb.stp.ext.below.size, heap_alloc_new _ _⟩
                · have := m3 q hq
                  exact ⟨this.1, hst1.ext.defd q _ (Array.getElem?_eq_some_iff.1 this.2).1 this.2⟩
            · simp [Instr.enterLoop, mark]
          | some l =>
            obtain ⟨R0, hR0⟩ := hrl l rfl
            obtain ⟨R1, hR1⟩ := hb.stp.ext.loopd l R0 hR0
            refine lay [] R1.defers w (Stp.refl hb.stp.sim) hb.marks ?_
            simp [Instr.enterLoop, getLoop_run hR1]
        · exact h.elim
      · cases hc
    · cases hc

end Go.Abs
