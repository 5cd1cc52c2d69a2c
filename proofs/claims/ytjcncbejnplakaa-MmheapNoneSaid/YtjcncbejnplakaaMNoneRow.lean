/-
  The row of MmheapNone.
-/
import Derived.Test.YtjcncbejnplakaaRows
import Derived.Test.YtjcncbejnplakaaMNone
import Derived.Test.YtjcncbejnplakaaA35
import Derived.Test.YtjcncbejnplakaaA27
import Derived.WalkKit
import Derived.ProofKit
import Derived.OpenShut
namespace Go.Proofs.Ytjcncbejnplakaa.mmheapNone
open Go.Abs Go.ChangeShapes Go.WideShapes Go.ChangeAt Go.RowKit
set_option linter.unusedVariables false      -- a walk need not use every 'w<i>' (that an integer argument fits its kind)

theorem own : ownKnob Try.prog.godebug = none := by kernel_rfl

def shapes : List Sh := [.cons 1 (.int .i64) (.cons 1 (.int .i64) (.cons 1 (.int .i64) (.cons 1 (.int .i64) .nil)))]

theorem four_inv {H : AH} {k : IntKind} {v : Value} (h : IsArg H (.cons 1 (.int k) (.cons 1 (.int k) (.cons 1 (.int k) (.cons 1 (.int k) .nil)))) v) : ∃ x y z u, v = .agg #[.int k x, .int k y, .int k z, .int k u] := by
  unfold IsArg at h
  rw [if_neg (by simp [Sh.single])] at h
  obtain ⟨⟨cs⟩, rfl, h1, ⟨x, e1, w1⟩, h2, ⟨y, e2, w2⟩, h3, ⟨z, e3, w3⟩, h4, ⟨u, e4, w4⟩, h5⟩ := h
  match cs, e1, e2, e3, e4, h5 with
  | [a, b, c, d], e1, e2, e3, e4, _ =>
    simp at e1 e2 e3 e4
    subst e1 e2 e3 e4
    exact ⟨x, y, z, u, rfl⟩
  | [], e1, _, _, _, _ => simp at e1
  | [_], _, e2, _, _, _ => simp at e2
  | [_, _], _, _, e3, _, _ => simp at e3
  | [_, _, _], _, _, _, e4, _ => simp at e4
  | _ :: _ :: _ :: _ :: _ :: _, _, _, _, _, h5 => simp [Is] at h5

theorem walk_law (avs : List Value) (H : AH) (h : IsAll H shapes avs) : AFn Try.prog 8 avs H fun v H' => v = .bool true ∧ Keep [] H H' := by
  obtain ⟨a, l, rfl, h1, h2⟩ := h.cons_inv
  obtain rfl := h2.nil_inv
  obtain ⟨x, y, z, u, rfl⟩ := four_inv h1
  exact (MmheapNone_abs x y z u).mono fun v H' ⟨h1, h2⟩ => ⟨h1, h2 ▸ .refl⟩

/-! ### THE ROW's STEP -/
set_option maxRecDepth 100000 in
theorem lifted (os : Os) (started : os.Started) (H : Type) (enc : TypeId × Value → H) :
    ReturnsInHanded {} Try.checked os 8 .any (Rows.mmheapNoneSpec.pre6 enc Try.prog Try.f8 Rows.mmheapNoneRow.domain false) (Rows.mmheapNoneSpec.post enc Try.prog Try.f8 false true false false) := by
  refine returnsInHanded_of_change (C := Try.checked) own started (by kernel_rfl) Try.func8
    (ChangeSpec.witness6 (enc := enc) (C := Try.checked) false ⟨#[], #[.agg #[.int .i64 0, .int .i64 0, .int .i64 0, .int .i64 0]], []⟩ 8 (by kernel_rfl) (by kernel_rfl) (by kernel_rfl) (by kernel_rfl)) ?_
  intro W base args ds gs before hval0 hW hcnd _
  have hW' := hW
  obtain ⟨p, q, hA0, hV, rfl, hfz, hnd⟩ := hW
  have hA : DataW.TrodAll enc Try.prog W 0 (fun _ => true) true Try.f8.params.toList args.toList ds p := hA0
  obtain ⟨rfl, rfl⟩ := trodVars_none hV
  have hlt : ∀ x ∈ p, x.block < W.heap.size := fun x hx => by simpa using hW'.lt x (by simpa using hx)
  have hlen : ∃ d1, ds = [d1] := by
    rw [Try.params8] at hA
    obtain ⟨v0, vs0, d0, ds0, p0, q0, _, rfl, _, _, r0⟩ := trodAll_cons hA
    obtain ⟨_, rfl, _⟩ := trodAll_nil r0
    exact ⟨_, rfl⟩
  obtain ⟨d1, rfl⟩ := hlen
  have hg : Try.prog.globals.size ≤ W.heap.size := by rw [show Try.prog.globals.size = 0 by kernel_rfl]; omega
  refine (walk_all (n := 10) hg (by kernel_rfl) hA (fun j t v hj hv => hval0 j t v (by simpa using hj) (by simpa using hv)) walk_law).mono fun e W' ⟨he, hb⟩ => ?_
  subst he
  have hl : laidOutB Try.prog = true := by kernel_rfl
  have hst : ∀ sp : Nat → Bool, (∀ x ∈ p, sp x.block = true) → DataW.TrodAll enc Try.prog W' 0 sp true Try.f8.params.toList args.toList [d1] p :=
    fun sp hsp => stays_all hl hb _ _ _ _ (by kernel_rfl) hA hlt hsp
  exact ⟨_, rfl, post_below (pa := p) (pv := []) hW' (fun _ _ _ => (trodAll_cons_mk (shut_bool Try.underlying4 _) trodAll_mk0)) (fun sp hsp => hst sp (fun x hx => hsp x (by simpa using hx))) (fun _ _ => rfl) (by simp)
    hb (ok_one (by kernel_rfl) rfl (okWide_bool_mk Try.underlying4 _))⟩

theorem over : Rows.mmheapNoneRow.holds Try.pinned (OpenSpec.ofChange Rows.mmheapNoneSpec) :=
  OpenClaim.holds_of_wide 8 Try.f8 rfl rfl rfl rfl rfl rfl rfl ⟨rfl, rfl, rfl, rfl, rfl⟩ rfl rfl rfl rfl rfl (by kernel_rfl) Try.func8 (by kernel_rfl)
    (of_decide_eq_true (by kernel_rfl)) (by unfold Func.isWrapper; first | (rw [if_pos (by decide +kernel)]; kernel_rfl) | (rw [if_neg (by decide +kernel)]; exact ⟨rfl, rfl⟩))
    (fun os started H enc _ => lifted os started H enc)

/-- ████ THE STATEMENT ████ -/
theorem proved : Rows.MmheapNoneSaid :=
  over
#print axioms proved
end Go.Proofs.Ytjcncbejnplakaa.mmheapNone
