/-
  THE ABSTRACT LAYER (27): all arguments of a statement's function; the row's last step.
-/
import Derived.Test.YtjcncbejnplakaaA26
set_option linter.unusedSimpArgs false
set_option linter.unusedVariables false
namespace Go.Abs
open Go Go.RowKit Go.ChangeShapes

section
variable {T : Type} {enc : TypeId × Value → T} {P : Program} {B0 : Nat} {w : World}

/-- The shape of one argument that is no struct. -/
def Sh.single : Sh → Bool
  | .nil | .cons _ _ _ => false
  | _ => true

def okArgs (P : Program) (n : Nat) : List Sh → List TypeId → Bool
  | [], [] => true
  | s :: ss, t :: ts => okSh P n s t && okArgs P n ss ts
  | _, _ => false

/-- One argument: a cell, or a struct or an array by its cells. -/
def IsArg (H : AH) (s : Sh) (v : Value) : Prop := if s.single then Is H s [v] else ∃ cs, v = .agg cs ∧ Is H s cs.toList
theorem IsArg.kept {H H' : AH} (hw : WF H) (hk : Keep [] H H') {s : Sh} {v : Value} (h : IsArg H s v) : IsArg H' s v := by
  unfold IsArg at *
  split
  · rename_i hs; rw [if_pos hs] at h; exact Is.kept hw hk s h
  · rename_i hs; rw [if_neg hs] at h; obtain ⟨cs, h1, h2⟩ := h; exact ⟨cs, h1, Is.kept hw hk s h2⟩

def IsAll (H : AH) : List Sh → List Value → Prop
  | [], [] => True
  | s :: ss, v :: vs => IsArg H s v ∧ IsAll H ss vs
  | _, _ => False

theorem IsAll.kept {H H' : AH} (hw : WF H) (hk : Keep [] H H') : ∀ {ss : List Sh} {vs : List Value}, IsAll H ss vs → IsAll H' ss vs
  | [], [], _ => trivial
  | s :: ss, v :: vs, h => ⟨h.1.kept hw hk, IsAll.kept hw hk h.2⟩
  | [], _ :: _, h => h.elim
  | _ :: _, [], h => h.elim

theorem IsAll.cons_inv {H : AH} {s : Sh} {ss : List Sh} {vs : List Value} (h : IsAll H (s :: ss) vs) : ∃ v l, vs = v :: l ∧ IsArg H s v ∧ IsAll H ss l := by
  cases vs with
  | nil => exact h.elim
  | cons v l => exact ⟨v, l, rfl, h.1, h.2⟩
theorem IsAll.nil_inv {H : AH} {vs : List Value} (h : IsAll H [] vs) : vs = [] := by
  cases vs with
  | nil => rfl
  | cons v l => exact h.elim

theorem IsArg.int_inv {H : AH} {k : IntKind} {v : Value} (h : IsArg H (.int k) v) : ∃ n, v = .int k n ∧ (Lit.int k n).wf = true := by
  obtain ⟨n, h1, h2⟩ := h
  exact ⟨n, by simpa using h1, h2⟩
theorem IsArg.bool_inv {H : AH} {v : Value} (h : IsArg H .bool v) : ∃ b, v = .bool b := by
  obtain ⟨n, h1⟩ := h
  exact ⟨n, by simpa using h1⟩
theorem IsArg.str_inv {H : AH} {v : Value} (h : IsArg H .str v) : ∃ s, v = .string s ∧ s.size ≤ maxLen := by
  obtain ⟨n, h1, h2⟩ := h
  exact ⟨n, by simpa using h1, h2⟩
theorem IsArg.slice_inv {H : AH} {e : Sh} {sz : Nat} {v : Value} (h : IsArg H (.slice e sz) v) : ∃ n cells, Rd H sz v n cells ∧ n ≤ 9223372036854775807 ∧ ∀ i, i < n → Is H e ((cells.drop (i * sz)).take sz) := by
  obtain ⟨u, n, cells, h1, h2, h3, h4⟩ := h
  have : v = u := by simpa using h1
  subst this
  exact ⟨n, cells, h2, by unfold maxLen at h3; omega, h4⟩

theorem okFs_single {f : Sh → TypeId → Bool} {tot off : Nat} {l : List Field} {s : Sh} (hs : s.single = true) : okFs P f tot l off s = false := by
  cases s <;> cases l <;> simp [Sh.single, okFs] at hs ⊢

theorem okWide_single {n : Nat} {s : Sh} {t : TypeId} {r : Reach} {b : Nat} {v : Value} (hs : s.single = true) (ho : okSh P n s t = true) (h : Value.okWide P w r b t v) : v.cells.toList = [v] := by
  cases v with
  | agg cs =>
    exfalso
    cases n with
    | zero => cases ho
    | succ n =>
      unfold okSh at ho
      split at ho
      · rename_i hu; simp [Value.okWide, hu, Cell.okWide, Cell.ok] at h
      · rename_i hu; simp [Value.okWide, hu, Cell.okWide, Cell.ok] at h
      · rename_i hu; simp [Value.okWide, hu, Cell.okWide, Cell.ok] at h
      · rename_i hu; simp [Value.okWide, hu, Cell.okWide, Cell.ok] at h
      · rw [okFs_single hs] at ho; cases ho
      · rw [okFs_single hs] at ho; cases ho
      · cases ho
  | _ => rfl

theorem okWide_agg {n : Nat} {s : Sh} {t : TypeId} {r : Reach} {b : Nat} {v : Value} (hs : s.single = false) (ho : okSh P n s t = true) (h : Value.okWide P w r b t v) : ∃ cs, v = .agg cs := by
  cases n with
  | zero => cases ho
  | succ n =>
    unfold okSh at ho
    split at ho
    · cases hs
    · cases hs
    · cases hs
    · cases hs
    · rename_i fs _ hu
      cases v with
      | agg cs => exact ⟨cs, rfl⟩
      | _ => exfalso; simp [Value.okWide, hu, Cell.okWide, Cell.ok] at h
    · rename_i len e _ hu
      cases v with
      | agg cs => exact ⟨cs, rfl⟩
      | _ => exfalso; simp [Value.okWide, hu, Cell.okWide, Cell.ok] at h
    · cases ho

/-- What opening arguments leaves. -/
def OpenedA (P : Program) (B0 : Nat) (w : World) (ρ : Rho) (H : AH) (vs : List Value) (K : AH → List Value → Prop) : Prop :=
  ∃ ρ' H' avs, Sim P B0 ρ' H' w ∧ RO H' ∧ ρ.le ρ' ∧ Keep [] H H' ∧ VRs ρ' avs vs ∧ K H' avs

theorem open_args (n : Nat) (b : Nat) : ∀ (ss : List Sh) (ts : List TypeId) (vs : List Value) (ds : List (DataW T)) (p : List MemPlace), okArgs P n ss ts = true → DataW.TrodAll enc P w 0 (fun _ => true) true ts vs ds p →
    (∀ (j : Nat) t v, ts[j]? = some t → vs[j]? = some v → Value.okWide P w .any b t v) → ∀ (ρ : Rho) (H : AH), Sim P B0 ρ H w → RO H → OpenedA P B0 w ρ H vs fun H' avs => IsAll H' ss avs
  | [], [], vs, ds, p, _, h, _, ρ, H, hs, hro => by
    cases vs <;> cases ds <;> simp [DataW.TrodAll] at h
    exact ⟨ρ, H, [], hs, hro, Rho.le_refl _, .refl, .nil, trivial⟩
  | s :: ss, t :: ts, vs, ds, p, ho, h, hval, ρ, H, hs, hro => by
    obtain ⟨v, vs', d, ds', p', q', rfl, rfl, rfl, h1, h2⟩ := trodAll_cons h
    simp only [okArgs, Bool.and_eq_true] at ho
    obtain ⟨ho2, ho3⟩ := ho
    obtain ⟨fuel, hf⟩ := h1
    cases hsg : s.single with
    | true =>
      rw [okWide_single hsg ho2 (hval 0 t v rfl rfl)] at hf
      obtain ⟨ρ1, H1, avs, s1, s2, s3, s4, s5, s6, s7⟩ := open_sh n s t ho2 fuel [v] _ hf ρ H hs hro
      obtain ⟨ρ2, H2, avs2, t1, t2, t3, t4, t5, t7⟩ := open_args n b ss ts vs' ds' q' ho3 h2 (fun j t v hj hv => hval (j + 1) t v hj hv) ρ1 H1 s1 s2
      have l1 := s5.length
      match avs, l1, s5, s6, s7 with
      | [a], _, s5, s6, s7 =>
        exact ⟨ρ2, H2, a :: avs2, t1, t2, Rho.le_trans s3 t3, s4.trans' t4, (s5.mono t3).append t5, IsArg.kept s1.wf t4 (by unfold IsArg; rw [if_pos hsg]; exact s7), t7⟩
    | false =>
      obtain ⟨cs, rfl⟩ := okWide_agg hsg ho2 (hval 0 t v rfl rfl)
      obtain ⟨ρ1, H1, avs, s1, s2, s3, s4, s5, s6, s7⟩ := open_sh n s t ho2 fuel cs.toList _ hf ρ H hs hro
      obtain ⟨ρ2, H2, avs2, t1, t2, t3, t4, t5, t7⟩ := open_args n b ss ts vs' ds' q' ho3 h2 (fun j t v hj hv => hval (j + 1) t v hj hv) ρ1 H1 s1 s2
      have hagg : VR ρ1 (.agg avs.toArray) (.agg cs) := by simpa using VR.mk_agg s5 s6
      exact ⟨ρ2, H2, .agg avs.toArray :: avs2, t1, t2, Rho.le_trans s3 t3, s4.trans' t4, .cons (hagg.mono t3) t5, IsArg.kept s1.wf t4 (by unfold IsArg; rw [if_neg (by simp [hsg])]; exact ⟨_, rfl, by simpa using s7⟩), t7⟩
  | [], _ :: _, _, _, _, ho, _, _, _, _, _, _ => by cases ho
  | _ :: _, [], _, _, _, ho, _, _, _, _, _, _ => by cases ho

/-- The walk of a statement's function: of arguments of these shapes it tells true. -/
theorem walk_all {f : FuncId} {ss : List Sh} {ts : List TypeId} {args : Array Value} {ds : List (DataW T)} {p : List MemPlace} {n b : Nat} {Q : AH → AH → Prop} (hg : P.globals.size ≤ w.heap.size) (ho : okArgs P n ss ts = true) (hA : DataW.TrodAll enc P w 0 (fun _ => true) true ts args.toList ds p)
    (hval : ∀ (j : Nat) t v, ts[j]? = some t → args.toList[j]? = some v → Value.okWide P w .any b t v) (hlaw : ∀ (avs : List Value) (H : AH), IsAll H ss avs → AFn P f avs H fun v H' => v = .bool true ∧ Q H H') :
    Calls P f args w fun e w' => e = .returned (.bool true) ∧ Below w.heap.size w w' := by
  obtain ⟨ρ, H, avs, s1, s2, s3, s4, s5, s7⟩ := open_args (B0 := w.heap.size) n b ss ts args.toList ds p ho hA hval _ _ (Sim.start P w hg) (fun b B h => by simp [startH] at h)
  exact AFn.tells (hlaw avs H s7) s1 s5

theorem stays_all (hl : laidOutB P = true) {W W' : World} (hb : Below W.heap.size W W') {sp : Nat → Bool} : ∀ (ts : List TypeId) (vs : List Value) (ds : List (DataW T)) (p : List MemPlace), (ts.all fun t => P.readableRec t && decide (t < P.types.size)) = true →
    DataW.TrodAll enc P W 0 (fun _ => true) true ts vs ds p → (∀ x ∈ p, x.block < W.heap.size) → (∀ x ∈ p, sp x.block = true) → DataW.TrodAll enc P W' 0 sp true ts vs ds p
  | [], vs, ds, p, _, h, _, _ => by
    cases vs <;> cases ds <;> simp [DataW.TrodAll] at h
    subst h
    exact rfl
  | t :: ts, vs, ds, p, hr, h, hlt, hsp => by
    obtain ⟨v, vs', d, ds', p', q', rfl, rfl, rfl, h1, h2⟩ := trodAll_cons h
    simp only [List.all_cons, Bool.and_eq_true, decide_eq_true_eq] at hr
    obtain ⟨⟨hr1, hr2⟩, hr3⟩ := hr
    refine ⟨p', q', WideElems.Trod_stays hl hr1 hr2 h1 (fun x hx => hb.same (hlt x (List.mem_append_left _ hx))) (fun x hx => hsp x (List.mem_append_left _ hx)), ?_, rfl⟩
    exact stays_all hl hb ts vs' ds' q' (by simpa using hr3) h2 (fun x hx => hlt x (List.mem_append_right _ hx)) (fun x hx => hsp x (List.mem_append_right _ hx))
end
end Go.Abs
