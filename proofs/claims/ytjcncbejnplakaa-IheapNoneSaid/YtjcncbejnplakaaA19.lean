/-
  THE ABSTRACT LAYER (19): a round of a range over a function.
-/
import Derived.Test.YtjcncbejnplakaaA18
set_option linter.unusedSimpArgs false
set_option linter.unusedVariables false
namespace Go.Abs
open Go Go.RowKit

def putAll (env : Env) : List Nat → List Value → Env
  | p :: ps, v :: vs => putAll (upd env p v) ps vs
  | _, _ => env

/-- What is asked at a round's end. -/
def roundK (l : Nat) (Q : Value → AH → Prop) : AExit → Env → AH → Prop := fun e env H =>
  ∃ L, H.blk l = some (.loop L) ∧ match e with
    | .normal => Q (.bool true) (H.set l (.loop { L with state := .ready, pending := none }))
    | e => Q (.bool false) (H.set l (.loop { L with state := .done, pending := some e }))

theorem putAll_rel {n : Nat} {ρ : Rho} : ∀ (ps : List Nat) (vs vs' : List Value) (env : Env) (tmps : Array Value), VRs ρ vs vs' → (∀ p ∈ ps, p < n) → EnvR n ρ env tmps →
    EnvR n ρ (putAll env ps vs) ((ps.zip vs').foldl (fun (tmps : Array Value) (x : Nat × Value) => tmps.setIfInBounds x.1 x.2) tmps)
  | [], vs, vs', env, tmps, hv, hp, he => by cases vs <;> simpa [putAll] using he
  | p :: ps, [], vs', env, tmps, hv, hp, he => by cases hv; simpa [putAll] using he
  | p :: ps, v :: vs, vs', env, tmps, hv, hp, he => by
    cases hv with
    | cons h t =>
      simp only [List.zip_cons_cons, List.foldl_cons, putAll]
      refine putAll_rel ps vs _ _ _ t (fun q hq => hp q (by simp [hq])) ?_
      have := EnvR.put (a := { tmps := tmps, defers := [] }) (dst := some p) he (fun d hd => by cases hd; exact hp p (by simp)) h
      exact this

theorem AYield.intro {P : Program} (hm : P.follows .mixedOrders = true) {l : Nat} {L : LoopA} {args : List Value} {H : AH} {Q : Value → AH → Prop} (hl : H.blk l = some (.loop L)) (hargs : args.length = L.params.length)
    (h : wpC P L.n L.assign (fun e env1 H1 => e = .normal ∧ ∃ L1, H1.blk l = some (.loop L1) ∧ L1.state = .ready ∧ wpC P L.n L.body (roundK l Q) env1 (H1.set l (.loop { L1 with state := .busy }))) (putAll L.env L.params args) H) :
    AYield P l args H Q := by
  intro B0 ρ w e args' hs he ha
  obtain ⟨e2, he2, r, r1, r2, r3, r4, r5, r6, r7, r8, r9⟩ := hs.live _ _ hl
  rw [he] at he2
  cases he2
  have hlen := ha.length
  simp only [Array.length_toList] at hlen
  have hpl : r.params.size = L.params.length := by have := congrArg List.length r5; simpa using this
  refine ⟨r.fn, (r.params.zip args').foldl (fun tmps (x : Nat × Value) => match x with | (t, a) => tmps.setIfInBounds t a) r.tmps, r.assign, r.body, ?_, ?_⟩
  · unfold Instr.yield
    rw [Sem.run_bind, getLoop_run r1, Result.andThen_ok]
    have : ¬ args'.size ≠ r.params.size := by omega
    simp only [if_neg this, Sem.run_bind, Sem.run_pure, Result.andThen_ok]
  · refine roundIn_of_wpIn (F := Fence.wide) trivial ?_
    have henv := putAll_rel L.params args args'.toList L.env r.tmps ha r9 r6
    have htm : (L.params.zip args'.toList).foldl (fun (tmps : Array Value) (x : Nat × Value) => tmps.setIfInBounds x.1 x.2) r.tmps = (r.params.zip args').foldl (fun tmps (x : Nat × Value) => match x with | (t, a) => tmps.setIfInBounds t a) r.tmps := by
      rw [← r5, ← Array.toList_zip, Array.foldl_toList]
    rw [htm] at henv
    have hboth : Both P B0 L.n w.heap.size ρ w ρ (putAll L.env L.params args) H { tmps := (r.params.zip args').foldl (fun tmps (x : Nat × Value) => match x with | (t, a) => tmps.setIfInBounds t a) r.tmps, defers := [] } w :=
      ⟨Stp.refl hs, henv, ⟨[], rfl, List.nodup_nil, fun r hr => by simp at hr⟩⟩
    have hrl : ∀ k, some e.blk = some k → ∃ R, w.heap[k]? = some (Obj.loop R) := fun k hk => by cases hk; exact ⟨r, r1⟩
    have hc1 := code_sound (r := some e.blk) hm (Nat.le_refl w.heap.size) hrl r.assign r7 h hboth
    refine wpIn_mono hc1 ?_
    rintro ex a1 w1 ⟨e', env1, H1, ρ1, rfl, hb1, rfl, L1, hL1, hready, hbody⟩
    have hle1 := hb1.stp.le _ _ he
    obtain ⟨e3, he3, q, q1, q2, q3, q4, q5, q6, q7, q8, q9⟩ := hb1.stp.sim.live _ _ hL1
    rw [hle1] at he3
    cases he3
    have hset := hb1.stp.sim.setLoop (L' := { L1 with state := .busy }) (r' := { q with state := .busy }) hL1 hle1 (fun w' hw' => ⟨_, hw', q2, rfl, q4, q5, q6, q7, q8, q9⟩)
    refine ⟨{ w1 with heap := w1.heap.setIfInBounds e.blk (.loop { q with state := .busy }) }, ?_, ?_⟩
    · unfold Instr.beginRound
      rw [Sem.run_bind, getLoop_run q1, Result.andThen_ok, Sem.run_bind, setObj_run q1, Result.andThen_ok, q3, hready]
      rfl
    · have hboth2 : Both P B0 L.n w.heap.size ρ w ρ1 env1 (H1.set l (.loop { L1 with state := .busy })) a1 { w1 with heap := w1.heap.setIfInBounds e.blk (.loop { q with state := .busy }) } :=
        ⟨hb1.stp.trans hset, hb1.env, hb1.marks.ext hset.ext⟩
      have hc2 := code_sound (r := some e.blk) hm (Nat.le_refl w.heap.size) hrl r.body r8 hbody hboth2
      refine wpIn_mono hc2 ?_
      rintro ex2 a2 w2 ⟨e', env2, H2, ρ2, rfl, hb2, L2, hL2, hq⟩
      have hle2 := hb2.stp.le _ _ he
      obtain ⟨e4, he4, p, p1, p2, p3, p4, p5, p6, p7, p8, p9⟩ := hb2.stp.sim.live _ _ hL2
      rw [hle2] at he4
      cases he4
      have endr : ∀ (jump : Option Code) (ap : Option AExit) (st : LoopState), jump = ap.bind exitOf → st = (if jump.isNone then .ready else .done) → Q (.bool jump.isNone) (H2.set l (.loop { L2 with state := st, pending := ap })) →
          ∃ v w', (Instr.endRound e.blk jump).run P w2 = .ok v w' ∧ Post P B0 ρ w Q (.returned v) w' := by
        intro jump ap st hj hst hQ
        have hset2 := hb2.stp.sim.setLoop (L' := { L2 with state := st, pending := ap }) (r' := { p with state := st, pending := jump }) hL2 hle2 (fun w' hw' => ⟨_, hw', p2, rfl, hj, p5, p6, p7, p8, p9⟩)
        refine ⟨.bool jump.isNone, { w2 with heap := w2.heap.setIfInBounds e.blk (.loop { p with state := st, pending := jump }) }, ?_, .bool jump.isNone, .bool jump.isNone, _, ρ2, rfl, hb2.stp.trans hset2, .bool _, hQ⟩
        unfold Instr.endRound
        rw [Sem.run_bind, getLoop_run p1, Result.andThen_ok, Sem.run_bind, ← hst, setObj_run p1, Result.andThen_ok]
        rfl
      cases e' with
      | normal => exact endr none none .ready rfl rfl hq
      | exit id => exact endr (some (.exit id)) (some (.exit id)) .done rfl rfl hq
      | ret => exact endr (some .ret) (some .ret) .done rfl rfl hq

/-- The model's call, out of the abstract one. -/
theorem AFn.calls {P : Program} {f : FuncId} {args : List Value} {H : AH} {Q : Value → AH → Prop} (h : AFn P f args H Q) {B0 : Nat} {ρ : Rho} {w : World} {args' : Array Value} (hs : Sim P B0 ρ H w) (ha : VRs ρ args args'.toList) :
    Calls P f args' w fun e w' => ∃ v' v H' ρ', e = .returned v' ∧ Sim P B0 ρ' H' w' ∧ Below B0 w w' ∧ VR ρ' v v' ∧ Q v H' :=
  (callsIn_wide.1 (h B0 ρ w args' hs ha)).mono fun e w' ⟨v', v, H', ρ', h1, h2, h3, h4⟩ => ⟨v', v, H', ρ', h1, h2.sim, h2.ext.below, h3, h4⟩

end Go.Abs
