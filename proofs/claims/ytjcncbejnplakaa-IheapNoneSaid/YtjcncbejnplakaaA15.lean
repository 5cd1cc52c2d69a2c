/-
  THE ABSTRACT LAYER (15): a region that draws its order: every order comes to what the text's order comes to.
-/
import Derived.Test.YtjcncbejnplakaaA14
set_option linter.unusedSimpArgs false
set_option linter.unusedVariables false
namespace Go.Abs
open Go Go.RowKit

theorem avals_congr {env env' : Env} : ∀ {xs : List Operand}, (∀ x ∈ xs, aval env x = aval env' x) → avals env xs = avals env' xs
  | [], _ => rfl
  | x :: xs, h => by
    simp only [avals]
    rw [h x (by simp), avals_congr fun y hy => h y (by simp [hy])]

theorem fillA_congr {env env' : Env} : ∀ {ps : List (Nat × Nat × Operand)} {cells : List Value}, (∀ p ∈ ps, aval env p.2.2 = aval env' p.2.2) → fillA env cells ps = fillA env' cells ps
  | [], _, _ => rfl
  | (off, n, x) :: ps, cells, h => by
    have h1 : aval env x = aval env' x := h (off, n, x) (by simp)
    simp only [fillA, h1]
    split
    · split
      · split
        · exact fillA_congr (ps := ps) fun p hp => h p (List.mem_cons_of_mem _ hp)
        · rfl
      · rfl
    · rfl

theorem boundA_congr {env env' : Env} {y d : Nat} {o : Option Operand} (h : ∀ x ∈ optO o, aval env x = aval env' x) : boundA env y o d = boundA env' y o d := by
  cases o with
  | none => rfl
  | some x => simp only [boundA]; rw [h x (by simp [optO])]

theorem boundsA_congr {env env' : Env} {l c : Nat} {lo hi mx : Option Operand} (h1 : ∀ x ∈ optO lo, aval env x = aval env' x) (h2 : ∀ x ∈ optO hi, aval env x = aval env' x) (h3 : ∀ x ∈ optO mx, aval env x = aval env' x) :
    boundsA env l c lo hi mx = boundsA env' l c lo hi mx := by
  unfold boundsA
  simp only [boundA_congr h1, boundA_congr h2, boundA_congr h3]

theorem ieval_congr {env env' : Env} {H : AH} (op : IOp) (h : ∀ x ∈ op.opds, aval env x = aval env' x) : ieval op env H = ieval op env' H := by
  cases op <;> simp only [IOp.opds] at h <;> simp only [ieval]
  case build z ps => rw [fillA_congr fun p hp => h _ (List.mem_map.2 ⟨p, hp, rfl⟩)]
  case bslice e l z ps => rw [fillA_congr fun p hp => h _ (List.mem_map.2 ⟨p, hp, rfl⟩)]
  case fn f p q => rw [avals_congr fun x hx => h x (List.mem_append_left _ hx), avals_congr fun x hx => h x (List.mem_append_right _ hx)]
  case sl sz x lo hi mx =>
    rw [h x (by simp)]
    simp only [fun l c => boundsA_congr (l := l) (c := c) (fun y hy => h y (by simp [hy])) (fun y hy => h y (by simp [hy])) (fun y hy => h y (by simp [hy])) (lo := lo) (hi := hi) (mx := mx)]
  case slP n sz x lo hi mx =>
    rw [h x (by simp)]
    simp only [fun l c => boundsA_congr (l := l) (c := c) (fun y hy => h y (by simp [hy])) (fun y hy => h y (by simp [hy])) (fun y hy => h y (by simp [hy])) (lo := lo) (hi := hi) (mx := mx)]
  case slT x lo hi =>
    rw [h x (by simp)]
    simp only [fun l c => boundsA_congr (l := l) (c := c) (mx := none) (fun y hy => h y (by simp [hy])) (fun y hy => h y (by simp [hy])) (fun y hy => by simp [optO] at hy) (lo := lo) (hi := hi)]
  case pick c x y =>
    rw [h c (by simp)]
    split
    · rename_i t _
      cases t
      · simp only [Bool.false_eq_true, if_false]; rw [h y (by simp)]
      · simp only [if_true]; rw [h x (by simp)]
    · rfl
  all_goals first
    | rfl
    | (rename_i x y; rw [h x (by simp), h y (by simp)]; done)
    | (rename_i x; rw [h x (by simp)]; done)
    | (rename_i x y; rw [h x (by simp)]; done)

/-- An operation that touches no memory. -/
theorem ieval_pure {op : IOp} (hc : op.cls = 0) {env : Env} {H H' : AH} {v : Value} (h : ieval op env H = some (v, H')) : H' = H ∧ ∀ H2, ieval op env H2 = some (v, H2) := by
  cases op <;> simp only [IOp.cls] at hc <;> try (cases hc; done)
  all_goals
    simp only [ieval] at h ⊢
    repeat' (split at h)
    all_goals first
      | (cases h; done)
      | (cases h; refine ⟨rfl, fun H2 => ?_⟩; simp [*]; done)
      | (obtain ⟨u, hu, hq⟩ := opt_map_some h; cases hq; refine ⟨rfl, fun H2 => ?_⟩; simp [*]; done)

theorem ieval_read {op : IOp} (hc : op.cls = 1) {env : Env} {H H' : AH} {v : Value} (h : ieval op env H = some (v, H')) : H' = H := by
  cases op <;> simp only [IOp.cls] at hc <;> try (cases hc; done)
  all_goals
    simp only [ieval] at h
    repeat' (split at h)
    all_goals first
      | (cases h; done)
      | (cases h; rfl)
      | (obtain ⟨u, hu, hq⟩ := opt_map_some h; cases hq; rfl)


/-- A step that is no call, as a relation. -/
def StepRel (P : Program) (o : AOper) (env : Env) (H : AH) (v : Value) (H' : AH) : Prop :=
  match guardA env o.guard with
  | none => False
  | some false => v = undef ∧ H' = H
  | some true => ieval o.op env H = some (v, H')

theorem stepA_iff {P : Program} {o : AOper} (hn : o.op.isC = false) {K : Env → AH → Prop} {env : Env} {H : AH} : stepA P true o K env H ↔ ∃ v H', StepRel P o env H v H' ∧ K (put env o.dst v) H' := by
  unfold stepA StepRel
  cases hg : guardA env o.guard with
  | none => simp
  | some b =>
    cases b with
    | false =>
      simp only
      exact ⟨fun h => ⟨undef, H, ⟨rfl, rfl⟩, h⟩, fun ⟨v, H', ⟨h1, h2⟩, h3⟩ => by subst h1; subst h2; exact h3⟩
    | true =>
      cases ho : o.op
      case call f args => rw [ho] at hn; cases hn
      case invoke r tbl args => rw [ho] at hn; cases hn
      all_goals
        simp only
        constructor
        · intro h
          split at h
          · rename_i v H' hv; exact ⟨v, H', hv, h⟩
          · exact h.elim
        · rintro ⟨v, H', hv, h⟩
          rw [hv]
          exact h

theorem mem_opdSlots {t : Nat} : ∀ {xs : List Operand}, Operand.tmp t ∈ xs → t ∈ opdSlots xs
  | [], h => by simp at h
  | x :: xs, h => by
    rcases List.mem_cons.1 h with h | h
    · subst h; simp [opdSlots]
    · have := mem_opdSlots h
      cases x <;> simp [opdSlots, this]

theorem aval_put {env : Env} {d : Nat} {v : Value} {x : Operand} (h : x ≠ .tmp d) : aval (upd env d v) x = aval env x := by
  cases x with
  | tmp t => simp only [aval, upd]; rw [if_neg]; intro ht; subst ht; exact h rfl
  | _ => rfl

theorem opds_put {env : Env} {dst : Option Nat} {v : Value} {o : AOper} (h : ∀ d, dst = some d → d ∉ looks o) : ∀ x ∈ o.op.opds, aval (put env dst v) x = aval env x := by
  intro x hx
  cases dst with
  | none => rfl
  | some d => exact aval_put fun hxd => h d rfl (by subst hxd; exact List.mem_append_left _ (mem_opdSlots hx))

theorem guard_put {env : Env} {dst : Option Nat} {v : Value} {o : AOper} (h : ∀ d, dst = some d → d ∉ looks o) : guardA (put env dst v) o.guard = guardA env o.guard := by
  cases dst with
  | none => rfl
  | some d =>
    cases hg : o.guard with
    | none => rfl
    | some g =>
      obtain ⟨s, want⟩ := g
      have hne : s ≠ d := fun e => h d rfl (by subst e; simp [looks, hg])
      simp [guardA, put, upd, hne]

/-- A step looks at its own slots alone. -/
theorem StepRel.put {P : Program} {o : AOper} {env : Env} {H H' : AH} {v u : Value} {dst : Option Nat} (h : ∀ d, dst = some d → d ∉ looks o) : StepRel P o (put env dst u) H v H' ↔ StepRel P o env H v H' := by
  have h1 := opds_put (v := u) (env := env) h
  unfold StepRel
  rw [guard_put h]
  cases hg : guardA env o.guard with
  | none => exact Iff.rfl
  | some b =>
    cases b with
    | false => exact Iff.rfl
    | true =>
      simp only
      rw [ieval_congr (env := Abs.put env dst u) (env' := env) o.op h1]

theorem StepRel.pure {P : Program} {o : AOper} (hc : o.op.cls = 0) {env : Env} {H H' : AH} {v : Value} (h : StepRel P o env H v H') : H' = H ∧ ∀ H2, StepRel P o env H2 v H2 := by
  unfold StepRel at *
  cases hg : guardA env o.guard with
  | none => simp only [hg] at h
  | some b =>
    cases b with
    | false => simp only [hg] at h ⊢; exact ⟨h.2, fun H2 => ⟨h.1, trivial⟩⟩
    | true =>
      simp only [hg] at h ⊢
      exact ieval_pure hc h

theorem StepRel.read {P : Program} {o : AOper} (hc : o.op.cls = 1) {env : Env} {H H' : AH} {v : Value} (h : StepRel P o env H v H') : H' = H := by
  unfold StepRel at *
  cases hg : guardA env o.guard with
  | none => simp only [hg] at h
  | some b =>
    cases b with
    | false => simp only [hg] at h; exact h.2
    | true =>
      simp only [hg] at h
      exact ieval_read hc h

theorem Grow.cells {H H' : AH} (h : Grow H H') {b : Nat} {cs : List Value} (hc : H.cells b = some cs) : H'.cells b = some cs := by
  unfold AH.cells at hc ⊢
  split at hc
  · rename_i e; rw [h _ _ e]; exact hc
  · cases hc

theorem ieval_read_grow {op : IOp} (hc : op.cls = 1) {env : Env} {H H1 H' : AH} {v : Value} (h : ieval op env H = some (v, H')) (hg : Grow H H1) : ieval op env H1 = some (v, H1) := by
  cases op <;> simp only [IOp.cls] at hc <;> try (cases hc; done)
  case load1 a =>
    simp only [ieval] at h ⊢
    split at h
    · obtain ⟨u, hu, hq⟩ := opt_map_some h
      cases hq
      obtain ⟨cs, hcs, hg2⟩ := Option.bind_eq_some_iff.1 hu
      rename_i e
      simp [e, hg.cells hcs, hg2]
    · cases h
  case loadN n a =>
    simp only [ieval] at h ⊢
    split at h
    · obtain ⟨u, hu, hq⟩ := opt_map_some h
      cases hq
      obtain ⟨cs, hcs, hg2⟩ := Option.bind_eq_some_iff.1 hu
      rename_i e
      simp [e, hg.cells hcs, hg2]
    · cases h
  all_goals
    simp only [ieval] at h
    cases h

theorem StepRel.grow {P : Program} {o : AOper} (hc : o.op.cls = 0 ∨ o.op.cls = 1) {env : Env} {H H1 H' : AH} {v : Value} (h : StepRel P o env H v H') (hg : Grow H H1) : StepRel P o env H1 v H1 := by
  rcases hc with hc | hc
  · exact (h.pure hc).2 H1
  · unfold StepRel at *
    cases hgd : guardA env o.guard with
    | none => simp only [hgd] at h
    | some b =>
      cases b with
      | false => simp only [hgd] at h ⊢; exact ⟨h.1, trivial⟩
      | true =>
        simp only [hgd] at h ⊢
        exact ieval_read_grow hc h hg

theorem put_comm {env : Env} {x y : Option Nat} {v u : Value} (h : ∀ d, x = some d → y ≠ some d) : put (put env x v) y u = put (put env y u) x v := by
  cases x with
  | none => rfl
  | some d =>
    cases y with
    | none => rfl
    | some e =>
      have hne : e ≠ d := fun he => h d rfl (by rw [he])
      funext i
      simp only [put, upd]
      by_cases h1 : i = e
      · subst h1; simp [hne]
      · simp [h1]

theorem indep_spec {x y : AOper} (h : indep x y = true) : x.op.isC = false ∧ (x.op.cls = 0 ∨ y.op.cls = 0 ∨ (x.op.cls = 1 ∧ (y.op.cls = 1 ∨ y.op.cls = 3))) ∧ (∀ d, x.dst = some d → d ∉ looks y) ∧ (∀ d, x.dst = some d → y.dst ≠ some d) ∧ (∀ d, y.dst = some d → d ∉ looks x) := by
  unfold indep at h
  simp only [Bool.and_eq_true, Bool.or_eq_true, beq_iff_eq, Bool.not_eq_true'] at h
  obtain ⟨⟨⟨h0, h1⟩, h2⟩, h3⟩ := h
  refine ⟨h0, ?_, fun d hd => ?_, fun d hd => ?_, fun d hd => ?_⟩
  · rcases h1 with (h1 | h1) | h1
    · exact .inl h1
    · exact .inr (.inl h1)
    · exact .inr (.inr h1)
  · rw [hd] at h2; simp at h2; exact h2.1
  · rw [hd] at h2; simp at h2; exact h2.2
  · rw [hd] at h3; simp at h3; exact h3

theorem writeA_wf {H H' : AH} (hw : WF H) {b off : Nat} {news : List Value} (h : writeA H b off news = some H') : WF H' := by
  unfold writeA at h
  split at h
  · rename_i cs e hb
    split at h
    · cases h
      intro a C ha
      simp only [AH.set] at ha ⊢
      split at ha
      · rename_i hab; subst hab; exact hw _ _ hb
      · exact hw a C ha
    · cases h
  · cases h
theorem alloc_wf {H : AH} (hw : WF H) (B : Blk) : WF (H.alloc B) := by
  intro b C hb
  simp only [AH.alloc] at hb ⊢
  split at hb
  · omega
  · have := hw b C hb; omega
theorem kill_wf {H : AH} (hw : WF H) (a : Nat) : WF (H.kill a) := by
  intro b C hb
  simp only [AH.kill] at hb ⊢
  split at hb
  · cases hb
  · exact hw b C hb
theorem alloc_grow {H : AH} (hw : WF H) (B : Blk) : Grow H (H.alloc B) := by
  intro b C hb
  have := hw b C hb
  simp only [AH.alloc]
  rw [if_neg (by omega)]
  exact hb

theorem ieval_allocs {op : IOp} (hc : op.cls = 3) {env : Env} {H H' : AH} {v : Value} (hw : WF H) (h : ieval op env H = some (v, H')) : Grow H H' ∧ WF H' := by
  cases op <;> simp only [IOp.cls] at hc <;> try (cases hc; done)
  all_goals
    simp only [ieval] at h
    repeat' (split at h)
    all_goals first
      | (cases h; done)
      | (cases h; exact ⟨alloc_grow hw _, alloc_wf hw _⟩)
      | (obtain ⟨u, hu, hq⟩ := opt_map_some h; cases hq; exact ⟨alloc_grow hw _, alloc_wf hw _⟩)

theorem appendA_wf {H H' : AH} (hw : WF H) {elem sz bytes m : Nat} {s v : Value} {news : List Value} (h : appendA H elem sz bytes s m news = some (v, H')) : WF H' := by
  unfold appendA at h
  repeat' (split at h)
  all_goals first
    | (cases h; done)
    | (cases h; exact hw)
    | (cases h; exact alloc_wf hw _)
    | (cases h; exact alloc_wf (kill_wf hw _) _)
    | (obtain ⟨u, hu, hq⟩ := opt_map_some h; cases hq; exact writeA_wf hw hu)

theorem ieval_wf {op : IOp} {env : Env} {H H' : AH} {v : Value} (hw : WF H) (h : ieval op env H = some (v, H')) : WF H' := by
  by_cases h0 : op.cls = 0
  · rw [(ieval_pure h0 h).1]; exact hw
  by_cases h1 : op.cls = 1
  · rw [ieval_read h1 h]; exact hw
  by_cases h3 : op.cls = 3
  · exact (ieval_allocs h3 hw h).2
  cases op <;> try (first | exact absurd rfl h0 | exact absurd rfl h1 | exact absurd rfl h3)
  all_goals
    simp only [ieval] at h
    repeat' (split at h)
    all_goals first
      | (cases h; done)
      | (cases h; exact hw)
      | (exact appendA_wf hw h)
      | (obtain ⟨u, hu, hq⟩ := opt_map_some h; cases hq; exact writeA_wf hw hu)

theorem StepRel.allocs {P : Program} {o : AOper} (hc : o.op.cls = 3) {env : Env} {H H' : AH} {v : Value} (hw : WF H) (h : StepRel P o env H v H') : Grow H H' := by
  unfold StepRel at h
  cases hg : guardA env o.guard with
  | none => simp only [hg] at h
  | some b =>
    cases b with
    | false => simp only [hg] at h; rw [h.2]; exact fun _ _ h => h
    | true => simp only [hg] at h; exact (ieval_allocs hc hw h).1

theorem stepA_mono_wf {P : Program} {o : AOper} {K K' : Env → AH → Prop} {env : Env} {H : AH} (hw : WF H) (hk : ∀ env H, WF H → K env H → K' env H) (h : stepA P true o K env H) : stepA P true o K' env H := by
  cases hc : o.op.isC with
  | false =>
    rw [stepA_iff hc] at h ⊢
    obtain ⟨v, H', r, h⟩ := h
    refine ⟨v, H', r, hk _ _ ?_ h⟩
    unfold StepRel at r
    cases hg : guardA env o.guard with
    | none => simp only [hg] at r
    | some b =>
      cases b with
      | false => simp only [hg] at r; rw [r.2]; exact hw
      | true => simp only [hg] at r; exact ieval_wf hw r
  | true =>
    unfold stepA at *
    cases hg : guardA env o.guard with
    | none => simp only [hg] at h
    | some b =>
      cases b with
      | false => simp only [hg] at h ⊢; exact hk _ _ hw h
      | true =>
        simp only [hg] at h ⊢
        cases hop : o.op
        case call f args =>
          simp only [hop] at h ⊢
          split at h
          · simp only [if_true] at h ⊢
            exact h.mono_wf fun v H' hw' hq => ⟨hq.1, hk _ _ hw' hq.2⟩
          · exact h
        case invoke r tbl args =>
          simp only [hop] at h ⊢
          split at h
          · simp only [if_true] at h ⊢
            exact h.mono_wf fun v H' hw' hq => ⟨hq.1, hk _ _ hw' hq.2⟩
          · exact h
        all_goals
          rw [hop] at hc
          cases hc

theorem isC_cls {op : IOp} (h : op.isC = true) : op.cls = 1 := by cases op <;> first | rfl | cases h

/-- A call, and what was done ahead of it. -/
theorem swap_call {P : Program} {y : AOper} (hy : y.op.isC = true) {env : Env} {H : AH} {K K' : Env → AH → Prop} {dst : Option Nat} {u : Value} (h1 : ∀ d, dst = some d → d ∉ looks y) (h : stepA P true y K (put env dst u) H)
    (hk : ∀ v H', Grow H H' → K (put (put env dst u) y.dst v) H' → K' (put env y.dst v) H') : stepA P true y K' env H := by
  have ho := opds_put (v := u) (env := env) h1
  have hgd := guard_put (v := u) (env := env) h1
  unfold stepA at *
  rw [hgd] at h
  cases hg : guardA env y.guard with
  | none => simp only [hg] at h
  | some b =>
    cases b with
    | false => simp only [hg] at h ⊢; exact hk _ _ (fun _ _ h => h) h
    | true =>
      simp only [hg] at h ⊢
      cases hop : y.op
      case call f args =>
        rw [hop] at ho
        simp only [hop] at h ⊢
        rw [ho f (by simp [IOp.opds]), avals_congr (env := Abs.put env dst u) (env' := env) fun x hx => ho x (by simp [IOp.opds, hx])] at h
        split at h
        · simp only [if_true] at h ⊢
          exact h.mono fun v H' hq => ⟨hq.1, hk _ _ hq.1 hq.2⟩
        · exact h
      case invoke r tbl args =>
        rw [hop] at ho
        simp only [hop] at h ⊢
        rw [ho r (by simp [IOp.opds]), avals_congr (env := Abs.put env dst u) (env' := env) fun x hx => ho x (by simp [IOp.opds, hx])] at h
        split at h
        · simp only [if_true] at h ⊢
          exact h.mono fun v H' hq => ⟨hq.1, hk _ _ hq.1 hq.2⟩
        · exact h
      all_goals
        rw [hop] at hy
        cases hy

/-- Two operations that don't hang on one another may change places. -/
theorem swap {P : Program} {x y : AOper} (h : indep x y = true) {K : Env → AH → Prop} {env : Env} {H : AH} (hw : WF H) (hh : stepA P true x (stepA P true y K) env H) : stepA P true y (stepA P true x K) env H := by
  obtain ⟨hx, hc, h1, h2, h3⟩ := indep_spec h
  rw [stepA_iff hx] at hh
  obtain ⟨v1, H1, r1, hh⟩ := hh
  cases hy : y.op.isC with
  | true =>
    have hy1 := isC_cls hy
    have hx1 : x.op.cls = 0 ∨ x.op.cls = 1 := by
      rcases hc with hc | hc | hc
      · exact .inl hc
      · rw [hy1] at hc; cases hc
      · exact .inr hc.1
    have e1 : H1 = H := by
      rcases hx1 with hc | hc
      · exact (r1.pure hc).1
      · exact r1.read hc
    subst e1
    refine swap_call hy h1 hh fun v H' hg hk => ?_
    rw [stepA_iff hx]
    exact ⟨v1, H', (StepRel.put h3).2 (r1.grow hx1 hg), by rw [(put_comm h2).symm]; exact hk⟩
  | false =>
    rw [stepA_iff hy] at hh
    obtain ⟨v2, H2, r2, hk⟩ := hh
    rw [StepRel.put h1] at r2
    have hcomm : Abs.put (Abs.put env y.dst v2) x.dst v1 = Abs.put (Abs.put env x.dst v1) y.dst v2 := (put_comm h2).symm
    rw [stepA_iff hy]
    rcases hc with hc | hc | ⟨hc1, hc2⟩
    · obtain ⟨rfl, q⟩ := r1.pure hc
      refine ⟨v2, H2, r2, ?_⟩
      rw [stepA_iff hx]
      exact ⟨v1, H2, (StepRel.put h3).2 (q H2), by rw [hcomm]; exact hk⟩
    · obtain ⟨rfl, q⟩ := r2.pure hc
      refine ⟨v2, H, q H, ?_⟩
      rw [stepA_iff hx]
      exact ⟨v1, _, (StepRel.put h3).2 r1, by rw [hcomm]; exact hk⟩
    · have e1 := r1.read hc1
      subst e1
      have hg : Grow H1 H2 := by
        rcases hc2 with hc2 | hc2
        · rw [r2.read hc2]; exact fun _ _ h => h
        · exact r2.allocs hc2 hw
      refine ⟨v2, _, r2, ?_⟩
      rw [stepA_iff hx]
      exact ⟨v1, _, (StepRel.put h3).2 (r1.grow (.inr hc1) hg), by rw [hcomm]; exact hk⟩

/-- The operations of these places, one after the other. -/
def wpI (P : Program) (K : Env → AH → Prop) (al : List AOper) : List Nat → Env → AH → Prop
  | [], env, H => K env H
  | i :: rest, env, H => match al[i]? with
    | some o => stepA P true o (wpI P K al rest) env H
    | none => False

theorem wpO_wpI {P : Program} {K : Env → AH → Prop} {al : List AOper} : ∀ (ord : List Nat), (∀ i ∈ ord, i < al.length) → ∀ {env H}, wpO P true K (ord.filterMap fun i => al[i]?) env H → wpI P K al ord env H
  | [], _, env, H, h => h
  | i :: ord, hlt, env, H, h => by
    have hi : al[i]? = some (al[i]'(hlt i (by simp))) := by simp
    simp only [wpI, hi]
    rw [List.filterMap_cons, hi] at h
    exact stepA_mono (fun env H hk => wpO_wpI ord (fun j hj => hlt j (by simp [hj])) hk) h

theorem wpI_front {P : Program} {K : Env → AH → Prop} {al : List AOper} {i : Nat} {y : AOper} (hi : al[i]? = some y) : ∀ (A B : List Nat), (∀ a ∈ A, ∃ x, al[a]? = some x ∧ indep x y = true) → ∀ {env H}, WF H → wpI P K al (A ++ i :: B) env H →
    wpI P K al (i :: (A ++ B)) env H
  | [], B, _, env, H, _, h => h
  | a :: A, B, hA, env, H, hw, h => by
    obtain ⟨x, hx, hind⟩ := hA a (by simp)
    simp only [List.cons_append, wpI, hx] at h
    have h2 : stepA P true x (wpI P K al (i :: (A ++ B))) env H := stepA_mono_wf hw (fun env H hw hk => wpI_front hi A B (fun b hb => hA b (by simp [hb])) hw hk) h
    have e : wpI P K al (i :: (A ++ B)) = stepA P true y (wpI P K al (A ++ B)) := by
      funext env H
      simp only [wpI, hi]
    rw [e] at h2
    have h3 := swap hind hw h2
    simp only [wpI, hi, List.cons_append, hx]
    exact h3

end Go.Abs
