/-
  THE ABSTRACT LAYER (28): compiled code, run: what is reckoned on closed data is what a walk comes to.
-/
import Derived.Test.YtjcncbejnplakaaA27
set_option linter.unusedSimpArgs false
set_option linter.unusedVariables false
namespace Go.Abs
open Go

/-- The block that an operation may write. -/
def tgt (env : Env) : IOp → Option Nat
  | .store1 a _ | .storeN _ a _ => match aval env a with
    | some (.pointer (some ⟨b, _, _⟩)) => some b
    | _ => none
  | .app _ _ _ s _ => match aval env s with
    | some (.slice (some ⟨b, _, _⟩) _ _) => some b
    | _ => none
  | .copy _ d _ => match aval env d with
    | some (.slice (some ⟨b, _, _⟩) _ _) => some b
    | _ => none
  | .clearS _ d => match aval env d with
    | some (.slice (some ⟨b, _, _⟩) _ _) => some b
    | _ => none
  | _ => none

def loOf (env : Env) (op : IOp) (lo : Nat) : Nat :=
  match tgt env op with
  | some b => if b < lo then b else lo
  | none => lo

abbrev CallR := FuncId → List Value → AH → Nat → Option (Value × AH × Nat)

def evO (call : CallR) (draw : Bool) : List AOper → Env → AH → Nat → Option (Env × AH × Nat)
  | [], env, H, lo => some (env, H, lo)
  | o :: rest, env, H, lo =>
    match guardA env o.guard with
    | none => none
    | some false => evO call draw rest (put env o.dst undef) H lo
    | some true =>
      match o.op with
      | .call f args => match aval env f, avals env args with
        | some (.func (.func g) first cap), some vs =>
          match call g (first.toList ++ vs ++ cap.toList) H (if draw then H.next else lo) with
          | some (v, H', lo') => if draw && decide (lo' < H.next) then none else evO call draw rest (put env o.dst v) H' (if lo' < lo then lo' else lo)
          | none => none
        | _, _ => none
      | .invoke _ _ _ => none
      | op => match ieval op env H with
        | some (v, H') => evO call draw rest (put env o.dst v) H' (loOf env op lo)
        | none => none

def evL (step : Env → AH → Nat → Option (AExit × Env × AH × Nat)) : Nat → Env → AH → Nat → Option (AExit × Env × AH × Nat)
  | 0, _, _, _ => none
  | k + 1, env, H, lo => match step env H lo with
    | some (.normal, env', H', lo') => evL step k env' H' lo'
    | r => r

def evC (call : CallR) (k : Nat) : ACode → Env → AH → Nat → Option (AExit × Env × AH × Nat)
  | .skip, env, H, lo => some (.normal, env, H, lo)
  | .region ops draw, env, H, lo => match evO call draw ops env H lo with
    | some (env', H', lo') => some (.normal, env', H', lo')
    | none => none
  | .seq a b, env, H, lo => match evC call k a env H lo with
    | some (.normal, env', H', lo') => evC call k b env' H' lo'
    | r => r
  | .cond c a b, env, H, lo => match aval env c with
    | some (.bool true) => evC call k a env H lo
    | some (.bool false) => evC call k b env H lo
    | _ => none
  | .block id a, env, H, lo => match evC call k a env H lo with
    | some (.exit i, env', H', lo') => some (if i = id then .normal else .exit i, env', H', lo')
    | r => r
  | .loop a, env, H, lo => evL (evC call k a) k env H lo
  | .rangeFunc _ _ _ _, _, _, _ => none
  | .exit id, env, H, lo => some (.exit id, env, H, lo)
  | .ret, env, H, lo => some (.ret, env, H, lo)

def lookF : List (Nat × AFunc) → Nat → Option AFunc
  | [], _ => none
  | (g, F) :: rest, f => if g = f then some F else lookF rest f

def evF (T : List (Nat × AFunc)) (k : Nat) : Nat → CallR
  | 0 => fun _ _ _ _ => none
  | d + 1 => fun f args H lo => match lookF T f with
    | some F => if args.length ≤ F.n then
        match evC (evF T k d) k F.code (fun t => args[t]?) H lo with
        | some (.exit _, _, _, _) => none
        | some (_, env, H', lo') => match ressOf env H' F.results with
          | some vs => some (retV vs, H', lo')
          | none => none
        | none => none
      else none
    | none => none

/-- What a run leaves alone. -/
structure Low (H : AH) (lo : Nat) (H' : AH) (lo' : Nat) : Prop where
  lo : lo' ≤ lo
  next : H.next ≤ H'.next
  wf : WF H'
  blk : ∀ b, b < H.next → b < lo' → H'.blk b = H.blk b

theorem Low.refl {H : AH} {lo : Nat} (h : WF H) : Low H lo H lo := ⟨Nat.le_refl _, Nat.le_refl _, h, fun _ _ _ => rfl⟩
theorem Low.trans {H H1 H2 : AH} {a b c : Nat} (h : Low H a H1 b) (k : Low H1 b H2 c) : Low H a H2 c :=
  ⟨Nat.le_trans k.lo h.lo, Nat.le_trans h.next k.next, k.wf, fun x hx hl => by rw [k.blk x (Nat.lt_of_lt_of_le hx h.next) hl, h.blk x hx (Nat.lt_of_lt_of_le hl k.lo)]⟩

theorem writeA_other {H H' : AH} {b off : Nat} {news : List Value} (h : writeA H b off news = some H') : H'.next = H.next ∧ ∀ a, a ≠ b → H'.blk a = H.blk a := by
  unfold writeA at h
  split at h
  · split at h
    · cases h; exact ⟨rfl, fun a ha => AH.set_blk_ne ha⟩
    · cases h
  · cases h

theorem appendA_other {H H' : AH} {elem sz bytes m : Nat} {s v : Value} {news : List Value} (h : appendA H elem sz bytes s m news = some (v, H')) :
    H.next ≤ H'.next ∧ ∀ a, a < H.next → (∀ b off sp n c, s = .slice (some ⟨b, off, sp⟩) n c → a ≠ b) → H'.blk a = H.blk a := by
  unfold appendA at h
  repeat' split at h
  all_goals first
    | (cases h; done)
    | (cases h; exact ⟨Nat.le_refl _, fun _ _ _ => rfl⟩)
    | (cases h; exact ⟨by simp, fun a ha _ => AH.alloc_blk_ne (Nat.ne_of_lt ha)⟩)
    | (obtain ⟨H2, h1, h2⟩ := opt_map_some h; cases h2; obtain ⟨q1, q2⟩ := writeA_other h1; exact ⟨by omega, fun a ha hb => q2 a (hb _ _ _ _ _ rfl)⟩)
    | (cases h; exact ⟨by simp, fun a ha hb => by rw [AH.alloc_blk_ne (by simpa using Nat.ne_of_lt ha), AH.kill_blk_ne (hb _ _ _ _ _ rfl)]⟩)

theorem ieval_other {op : IOp} {env : Env} {H H' : AH} {v : Value} (h : ieval op env H = some (v, H')) :
    H.next ≤ H'.next ∧ ∀ a, a < H.next → tgt env op ≠ some a → H'.blk a = H.blk a := by
  by_cases h0 : op.cls = 0
  · obtain ⟨rfl, _⟩ := ieval_pure h0 h; exact ⟨Nat.le_refl _, fun _ _ _ => rfl⟩
  by_cases h1 : op.cls = 1
  · obtain rfl := ieval_read h1 h; exact ⟨Nat.le_refl _, fun _ _ _ => rfl⟩
  cases op <;> try (first | exact absurd rfl h0 | exact absurd rfl h1)
  all_goals simp only [ieval] at h
  case new => cases h; exact ⟨by simp, fun a ha _ => AH.alloc_blk_ne (Nat.ne_of_lt ha)⟩
  case box =>
    split at h
    · obtain ⟨cs, _, h2⟩ := opt_map_some h; cases h2; exact ⟨by simp, fun a ha _ => AH.alloc_blk_ne (Nat.ne_of_lt ha)⟩
    · cases h
  case bslice => obtain ⟨cs, _, h2⟩ := opt_map_some h; cases h2; exact ⟨by simp, fun a ha _ => AH.alloc_blk_ne (Nat.ne_of_lt ha)⟩
  case mks =>
    split at h
    · split at h
      · cases h; exact ⟨by simp, fun a ha _ => AH.alloc_blk_ne (Nat.ne_of_lt ha)⟩
      · cases h
    · cases h
  case store1 =>
    split at h
    · rename_i h1 h2
      split at h
      · obtain ⟨H2, h3, h4⟩ := opt_map_some h; cases h4; obtain ⟨q1, q2⟩ := writeA_other h3
        exact ⟨by omega, fun a ha hn => q2 a fun hab => hn (by subst hab; simp only [tgt, h1])⟩
      · cases h
    · cases h
  case storeN =>
    split at h
    · rename_i h1 h2
      split at h
      · obtain ⟨H2, h3, h4⟩ := opt_map_some h; cases h4; obtain ⟨q1, q2⟩ := writeA_other h3
        exact ⟨by omega, fun a ha hn => q2 a fun hab => hn (by subst hab; simp only [tgt, h1])⟩
      · cases h
    · cases h
  case app =>
    split at h
    · rename_i h1 h2
      split at h
      · obtain ⟨q1, q2⟩ := appendA_other h
        refine ⟨q1, fun a ha hn => q2 a ha fun b off sp n c hs hab => hn ?_⟩
        subst hab; subst hs; simp only [tgt, h1]
      · cases h
    · cases h
  case copy =>
    split at h
    · cases h; exact ⟨Nat.le_refl _, fun _ _ _ => rfl⟩
    · rename_i h1 h2
      split at h
      · cases h; exact ⟨Nat.le_refl _, fun _ _ _ => rfl⟩
      · split at h
        · obtain ⟨H2, h3, h4⟩ := opt_map_some h; cases h4; obtain ⟨q1, q2⟩ := writeA_other h3
          exact ⟨by omega, fun a ha hn => q2 a fun hab => hn (by subst hab; simp only [tgt, h1])⟩
        · cases h
    · cases h
  case clearS =>
    split at h
    · cases h; exact ⟨Nat.le_refl _, fun _ _ _ => rfl⟩
    · rename_i h1
      split at h
      · cases h; exact ⟨Nat.le_refl _, fun _ _ _ => rfl⟩
      · obtain ⟨H2, h3, h4⟩ := opt_map_some h; cases h4; obtain ⟨q1, q2⟩ := writeA_other h3
        exact ⟨by omega, fun a ha hn => q2 a fun hab => hn (by subst hab; simp only [tgt, h1])⟩
    · cases h

theorem ieval_low {op : IOp} {env : Env} {H H' : AH} {v : Value} {lo : Nat} (hw : WF H) (h : ieval op env H = some (v, H')) : Low H lo H' (loOf env op lo) := by
  obtain ⟨h1, h2⟩ := ieval_other h
  refine ⟨?_, h1, ieval_wf hw h, fun b hb hl => h2 b hb fun ht => ?_⟩
  · unfold loOf; split
    · split <;> omega
    · omega
  · unfold loOf at hl; rw [ht] at hl; simp only at hl; split at hl <;> omega

/-- What a run of calls is known to do. -/
def CallOk (P : Program) (call : CallR) : Prop := ∀ f vs H lo v H' lo', WF H → call f vs H lo = some (v, H', lo') →
  goodFunc P f = true ∧ Low H lo H' lo' ∧ AFn P f vs H fun u H2 => u = v ∧ H2 = H'

section
variable {P : Program} {call : CallR} (hcall : CallOk P call)
include hcall

theorem evO_sound {draw : Bool} : ∀ {ops : List AOper} {env env' : Env} {H H' : AH} {lo lo' : Nat}, WF H → evO call draw ops env H lo = some (env', H', lo') →
    Low H lo H' lo' ∧ ∀ K : Env → AH → Prop, K env' H' → wpO P draw K ops env H
  | [], env, env', H, H', lo, lo', hw, h => by
    simp only [evO] at h; cases h
    exact ⟨.refl hw, fun K hK => hK⟩
  | o :: rest, env, env', H, H', lo, lo', hw, h => by
    simp only [evO] at h
    simp only [wpO, stepA]
    cases hg : guardA env o.guard with
    | none => simp only [hg] at h; cases h
    | some t =>
      cases t with
      | false =>
        simp only [hg] at h ⊢
        exact evO_sound hw h
      | true =>
        simp only [hg] at h ⊢
        by_cases hic : o.op.isC = true
        · cases ho : o.op <;> simp only [ho, IOp.isC] at hic h ⊢ <;> try (cases hic; done)
          · split at h
            · rename_i g first cap vs h1 h2
              split at h
              · rename_i v H1 lo1 h3
                split at h
                · cases h
                · rename_i hd
                  obtain ⟨q1, q2, q3⟩ := hcall _ _ _ _ _ _ _ hw h3
                  obtain ⟨r1, r2⟩ := evO_sound q2.wf h
                  have hlow : Low H lo H1 (if lo1 < lo then lo1 else lo) := by
                    refine ⟨by split <;> omega, q2.next, q2.wf, fun b hb hl => q2.blk b hb ?_⟩
                    have := q2.lo
                    cases draw <;> simp at this hd <;> split at hl <;> omega
                  refine ⟨hlow.trans r1, fun K hK => ?_⟩
                  rw [h1, h2]
                  cases draw with
                  | false => exact ⟨q1, q3.mono fun u H2 ⟨e1, e2⟩ => by subst e1 e2; exact r2 K hK⟩
                  | true =>
                    refine ⟨q1, q3.mono fun u H2 ⟨e1, e2⟩ => ?_⟩
                    subst e1 e2
                    simp at hd
                    exact ⟨fun b B hB => by rw [q2.blk b (hw b B hB) (by have := hw b B hB; omega), hB], r2 K hK⟩
              · cases h
            · cases h
          · cases h
        · have hstep : ∀ K : Env → AH → Prop, (match ieval o.op env H with | some (v, H') => K (put env o.dst v) H' | none => False) → stepA P draw o K env H := by
            intro K hK
            unfold stepA
            rw [hg]
            cases ho : o.op <;> simp only [ho, IOp.isC] at hic hK ⊢ <;> first | exact hK | exact absurd trivial hic
          have h' : (match ieval o.op env H with | some (v, H') => evO call draw rest (put env o.dst v) H' (loOf env o.op lo) | none => none) = some (env', H', lo') := by
            cases ho : o.op <;> simp only [ho, IOp.isC] at hic h ⊢ <;> first | exact h | exact absurd trivial hic
          cases hi : ieval o.op env H with
          | none => simp only [hi] at h'; cases h'
          | some p =>
            obtain ⟨v, H1⟩ := p
            simp only [hi] at h'
            have hl1 := ieval_low (lo := lo) hw hi
            obtain ⟨r1, r2⟩ := evO_sound hl1.wf h'
            refine ⟨hl1.trans r1, fun K hK => ?_⟩
            have := hstep (wpO P draw K rest) (by rw [hi]; exact r2 K hK)
            unfold stepA at this
            rw [hg] at this
            exact this

theorem evC_sound {k n : Nat} : ∀ (c : ACode) {e : AExit} {env env' : Env} {H H' : AH} {lo lo' : Nat}, WF H → evC call k c env H lo = some (e, env', H', lo') →
    Low H lo H' lo' ∧ ∀ Q : AExit → Env → AH → Prop, Q e env' H' → wpC P n c Q env H
  | .skip, e, env, env', H, H', lo, lo', hw, h => by simp only [evC] at h; cases h; exact ⟨.refl hw, fun Q hQ => hQ⟩
  | .region ops draw, e, env, env', H, H', lo, lo', hw, h => by
    simp only [evC] at h
    split at h
    · rename_i h1
      cases h
      obtain ⟨r1, r2⟩ := evO_sound hcall hw h1
      exact ⟨r1, fun Q hQ => r2 _ hQ⟩
    · cases h
  | .seq a b, e, env, env', H, H', lo, lo', hw, h => by
    simp only [evC] at h
    cases ha : evC call k a env H lo with
    | none => simp only [ha] at h; cases h
    | some p =>
      obtain ⟨e1, env1, H1, lo1⟩ := p
      obtain ⟨r1, r2⟩ := evC_sound a hw ha
      rw [ha] at h
      cases e1 with
      | normal =>
        simp only at h
        obtain ⟨s1, s2⟩ := evC_sound b r1.wf h
        exact ⟨r1.trans s1, fun Q hQ => r2 _ (s2 Q hQ)⟩
      | exit i => cases h; exact ⟨r1, fun Q hQ => r2 _ hQ⟩
      | ret => cases h; exact ⟨r1, fun Q hQ => r2 _ hQ⟩
  | .cond c a b, e, env, env', H, H', lo, lo', hw, h => by
    simp only [evC] at h
    split at h
    · rename_i h1
      obtain ⟨r1, r2⟩ := evC_sound a hw h
      exact ⟨r1, fun Q hQ => by simp only [wpC, h1, if_true]; exact r2 Q hQ⟩
    · rename_i h1
      obtain ⟨r1, r2⟩ := evC_sound b hw h
      exact ⟨r1, fun Q hQ => by simp only [wpC, h1]; exact r2 Q hQ⟩
    · cases h
  | .block id a, e, env, env', H, H', lo, lo', hw, h => by
    simp only [evC] at h
    cases ha : evC call k a env H lo with
    | none => simp only [ha] at h; cases h
    | some p =>
      obtain ⟨e1, env1, H1, lo1⟩ := p
      obtain ⟨r1, r2⟩ := evC_sound a hw ha
      rw [ha] at h
      cases e1 with
      | normal => cases h; exact ⟨r1, fun Q hQ => r2 _ hQ⟩
      | exit i =>
        simp only at h
        cases h
        refine ⟨r1, fun Q hQ => r2 _ ?_⟩
        simp only
        split
        · rename_i hi; simpa [hi] using hQ
        · rename_i hi; simpa [hi] using hQ
      | ret => cases h; exact ⟨r1, fun Q hQ => r2 _ hQ⟩
  | .loop a, e, env, env', H, H', lo, lo', hw, h => by
    simp only [evC] at h
    have key : ∀ (j : Nat) (env : Env) (H : AH) (lo : Nat), WF H → evL (evC call k a) j env H lo = some (e, env', H', lo') → Low H lo H' lo' ∧ ∀ Q : AExit → Env → AH → Prop, Q e env' H' → loopP (wpC P n a) Q j env H := by
      intro j
      induction j with
      | zero => intro env H lo hw h; cases h
      | succ j ih =>
        intro env H lo hw h
        simp only [evL] at h
        cases ha : evC call k a env H lo with
        | none => simp only [ha] at h; cases h
        | some p =>
          obtain ⟨e1, env1, H1, lo1⟩ := p
          obtain ⟨r1, r2⟩ := evC_sound a hw ha
          rw [ha] at h
          cases e1 with
          | normal =>
            simp only at h
            obtain ⟨s1, s2⟩ := ih env1 H1 lo1 r1.wf h
            exact ⟨r1.trans s1, fun Q hQ => r2 _ (s2 Q hQ)⟩
          | exit i => cases h; exact ⟨r1, fun Q hQ => r2 _ hQ⟩
          | ret => cases h; exact ⟨r1, fun Q hQ => r2 _ hQ⟩
    obtain ⟨r1, r2⟩ := key k env H lo hw h
    exact ⟨r1, fun Q hQ => ⟨k, r2 Q hQ⟩⟩
  | .rangeFunc _ _ _ _, e, env, env', H, H', lo, lo', hw, h => by simp only [evC] at h; cases h
  | .exit id, e, env, env', H, H', lo, lo', hw, h => by simp only [evC] at h; cases h; exact ⟨.refl hw, fun Q hQ => hQ⟩
  | .ret, e, env, env', H, H', lo, lo', hw, h => by simp only [evC] at h; cases h; exact ⟨.refl hw, fun Q hQ => hQ⟩
end

/-- What is asked of a table of compiled functions. -/
def TabOk (P : Program) (T : List (Nat × AFunc)) : Prop := ∀ p ∈ T, compF P p.1 = some p.2 ∧ goodFunc P p.1 = true
theorem TabOk.nil {P : Program} : TabOk P [] := fun _ h => by cases h
theorem TabOk.cons {P : Program} {T : List (Nat × AFunc)} {f : Nat} {F : AFunc} (h1 : compF P f = some F) (h2 : goodFunc P f = true) (h : TabOk P T) : TabOk P ((f, F) :: T) := by
  intro p hp
  rcases List.mem_cons.1 hp with rfl | hp
  · exact ⟨h1, h2⟩
  · exact h p hp
theorem lookF_mem {T : List (Nat × AFunc)} {f : Nat} {F : AFunc} (h : lookF T f = some F) : (f, F) ∈ T := by
  induction T with
  | nil => cases h
  | cons p T ih =>
    obtain ⟨g, G⟩ := p
    simp only [lookF] at h
    split at h
    · rename_i hg; cases h; simp [hg]
    · exact List.mem_cons_of_mem _ (ih h)

theorem evF_sound {P : Program} (hm : P.follows .mixedOrders = true) {T : List (Nat × AFunc)} (hT : TabOk P T) {k : Nat} : ∀ d, CallOk P (evF T k d)
  | 0 => fun f vs H lo v H' lo' hw h => by simp only [evF] at h; cases h
  | d + 1 => fun f vs H lo v H' lo' hw h => by
    simp only [evF] at h
    split at h
    · rename_i F hF
      obtain ⟨h1, h2⟩ := hT _ (lookF_mem hF)
      split at h
      · rename_i hl
        cases hc : evC (evF T k d) k F.code (fun t => vs[t]?) H lo with
        | none => simp only [hc] at h; cases h
        | some p =>
          obtain ⟨e, env, H1, lo1⟩ := p
          obtain ⟨r1, r2⟩ := evC_sound (P := P) (n := F.n) (evF_sound hm hT d) F.code hw hc
          rw [hc] at h
          cases e with
          | exit i => cases h
          | normal =>
            simp only at h
            split at h
            · rename_i ws hws
              cases h
              refine ⟨h2, r1, AFn.intro hm h1 hl (r2 _ ?_)⟩
              simp only [bodyK, hws]
              exact ⟨trivial, trivial⟩
            · cases h
          | ret =>
            simp only at h
            split at h
            · rename_i ws hws
              cases h
              refine ⟨h2, r1, AFn.intro hm h1 hl (r2 _ ?_)⟩
              simp only [bodyK, hws]
              exact ⟨trivial, trivial⟩
            · cases h
      · cases h
    · cases h

/-- What is read out of an abstract value that has no address. -/
theorem VR.plain_eq {ρ : Rho} {v v' : Value} (hp : plain v = true) (h : VR ρ v v') : v' = v := by
  cases h <;> first | rfl | (simp [plain] at hp)

end Go.Abs
