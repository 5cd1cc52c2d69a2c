/-
  The row of DeheapAlike.
-/
import Derived.Test.YtgecnmjohhmfjaaRows
import Derived.Test.YtgecnmjohhmfjaaAlike3
import Derived.Test.YtgecnmjohhmfjaaA31
import Derived.Test.YtgecnmjohhmfjaaA22
import Derived.WalkKit
import Derived.ProofKit
import Derived.OpenShut
namespace Go.Proofs.Ytgecnmjohhmfjaa.deheapAlike
open Go.Abs Go.ChangeShapes Go.WideShapes Go.ChangeAt Go.RowKit
set_option linter.unusedVariables false      -- a walk need not use every 'w<i>' (that an integer argument fits its kind)
theorem own : ownKnob Try.prog.godebug = none := by kernel_rfl
def shapes : List Sh := [.slice (.cons 1 (.int .i64) (.cons 1 (.int .i64) (.cons 1 (.int .i64) (.cons 1 (.int .i64) .nil)))) 4, .slice (.cons 1 (.int .i64) (.cons 4 (.cons 1 (.int .i64) (.cons 1 (.int .i64) (.cons 1 (.int .i64) (.cons 1 (.int .i64) .nil)))) (.cons 1 (.int .i64) .nil))) 6]
theorem ents_of (n : Nat) (cells : List Value) (hl : cells.length = n * 4) (H : AH) (h : ∀ i, i < n → Is H (.cons 1 (.int .i64) (.cons 1 (.int .i64) (.cons 1 (.int .i64) (.cons 1 (.int .i64) .nil)))) ((cells.drop (i * 4)).take 4)) : ∃ L : List Ent, cells = cellsE L ∧ L.length = n := by
  induction n generalizing cells with
  | zero => exact ⟨[], by cases cells <;> simp at hl; rfl, rfl⟩
  | succ n ih =>
    obtain ⟨x, hx⟩ : ∃ x : Ent, cells.take 4 = x.cells := by
      have h0 := h 0 (by omega)
      simp only [Nat.zero_mul, List.drop_zero] at h0
      match cells, hl with
      | a :: b :: c :: d :: r, _ =>
        obtain ⟨_, ⟨x, e1, w1⟩, _, ⟨y, e2, w2⟩, _, ⟨z, e3, w3⟩, _, ⟨u, e4, w4⟩, _⟩ := h0
        simp at e1 e2 e3 e4
        exact ⟨⟨x, y, z, u⟩, by simp [e1, e2, e3, e4, Ent.cells]⟩
      | [], hl => simp at hl
      | [_], hl => simp at hl; omega
      | [_, _], hl => simp at hl; omega
      | [_, _, _], hl => simp at hl; omega
    obtain ⟨L, hL, hn⟩ := ih (cells.drop 4) (by simp [hl]; omega) (fun k hk => by
      have := h (k + 1) (by omega)
      rw [List.drop_drop, show 4 + k * 4 = (k + 1) * 4 by omega]
      exact this)
    refine ⟨x :: L, ?_, by simp [hn]⟩
    rw [← List.take_append_drop 4 cells, hx, hL]
    rfl
theorem acts_of (n : Nat) (cells : List Value) (hl : cells.length = n * 6) (H : AH) (h : ∀ i, i < n → Is H (.cons 1 (.int .i64) (.cons 4 (.cons 1 (.int .i64) (.cons 1 (.int .i64) (.cons 1 (.int .i64) (.cons 1 (.int .i64) .nil)))) (.cons 1 (.int .i64) .nil))) ((cells.drop (i * 6)).take 6)) : ∃ L : List (Int × Ent × Int), cells = cellsD L ∧ L.length = n := by
  induction n generalizing cells with
  | zero => exact ⟨[], by cases cells <;> simp at hl; rfl, rfl⟩
  | succ n ih =>
    obtain ⟨p, hx⟩ : ∃ p : Int × Ent × Int, cells.take 6 = [.int .i64 p.1, .int .i64 p.2.1.b, .int .i64 p.2.1.d, .int .i64 p.2.1.s, .int .i64 p.2.1.i, .int .i64 p.2.2] := by
      have h0 := h 0 (by omega)
      simp only [Nat.zero_mul, List.drop_zero] at h0
      match cells, hl with
      | z :: a :: b :: c :: d :: m :: r, _ =>
        obtain ⟨_, ⟨z', e0, w0⟩, _, ⟨_, ⟨x, e1, w1⟩, _, ⟨y, e2, w2⟩, _, ⟨z, e3, w3⟩, _, ⟨u, e4, w4⟩, _⟩, _, ⟨m', e5, w5⟩, _⟩ := h0
        simp at e0 e1 e2 e3 e4 e5
        exact ⟨(z', ⟨x, y, z, u⟩, m'), by simp [e0, e1, e2, e3, e4, e5]⟩
      | [], hl => simp at hl
      | [_], hl => simp at hl; omega
      | [_, _], hl => simp at hl; omega
      | [_, _, _], hl => simp at hl; omega
      | [_, _, _, _], hl => simp at hl; omega
      | [_, _, _, _, _], hl => simp at hl; omega
    obtain ⟨L, hL, hn⟩ := ih (cells.drop 6) (by simp [hl]; omega) (fun k hk => by
      have := h (k + 1) (by omega)
      rw [List.drop_drop, show 6 + k * 6 = (k + 1) * 6 by omega]
      exact this)
    refine ⟨p :: L, ?_, by simp [hn]⟩
    rw [← List.take_append_drop 6 cells, hx, hL]
    rfl
theorem walk_law (avs : List Value) (H : AH) (h : IsAll H shapes avs) : AFn Try.prog 5 avs H fun v H' => v = .bool true ∧ Keep [] H H' := by
  obtain ⟨b, l, rfl, h3, h4⟩ := h.cons_inv
  obtain ⟨c, l, rfl, h5, h6⟩ := h4.cons_inv
  obtain rfl := h6.nil_inv
  obtain ⟨n, cells, hrd, hn, hall⟩ := h3.slice_inv
  obtain ⟨L, rfl, rfl⟩ := ents_of n cells hrd.len H hall
  obtain ⟨n, cells, hrd2, hn2, hall2⟩ := h5.slice_inv
  obtain ⟨A, rfl, rfl⟩ := acts_of n cells hrd2.len H hall2
  exact (DeheapAlike_abs hrd hrd2).mono fun v H' ⟨h1, h2⟩ => ⟨h1, h2 ▸ .refl⟩
/-! ### THE ROW's STEP -/
set_option maxRecDepth 100000 in
theorem lifted (os : Os) (started : os.Started) (H : Type) (enc : TypeId × Value → H) :
    ReturnsInHanded {} Try.checked os 5 .any (Rows.deheapAlikeSpec.pre6 enc Try.prog Try.f5 Rows.deheapAlikeRow.domain false) (Rows.deheapAlikeSpec.post enc Try.prog Try.f5 false true false false) := by
  refine returnsInHanded_of_change (C := Try.checked) own started (by kernel_rfl) Try.func5
    (ChangeSpec.witness6 (enc := enc) (C := Try.checked) false ⟨#[], #[.slice none 0 0, .slice none 0 0], []⟩ 8 (by kernel_rfl) (by kernel_rfl) (by kernel_rfl) (by kernel_rfl)) ?_
  intro W base args ds gs before hval0 hW hcnd _
  have hW' := hW
  obtain ⟨p, q, hA0, hV, rfl, hfz, hnd⟩ := hW
  have hA : DataW.TrodAll enc Try.prog W 0 (fun _ => true) true Try.f5.params.toList args.toList ds p := hA0
  obtain ⟨rfl, rfl⟩ := trodVars_none hV
  have hlt : ∀ x ∈ p, x.block < W.heap.size := fun x hx => by simpa using hW'.lt x (by simpa using hx)
  have hlen : ∃ d1 d2, ds = [d1, d2] := by
    rw [Try.params5] at hA
    obtain ⟨v0, vs0, d0', ds0, p0, q0, _, rfl, _, _, r0⟩ := trodAll_cons hA
    obtain ⟨v1, vs1, d1', ds1, p1, q1, _, rfl, _, _, r1⟩ := trodAll_cons r0
    obtain ⟨_, rfl, _⟩ := trodAll_nil r1
    exact ⟨_, _, rfl⟩
  obtain ⟨d1, d2, rfl⟩ := hlen
  have hg : Try.prog.globals.size ≤ W.heap.size := by rw [show Try.prog.globals.size = 0 by kernel_rfl]; omega
  refine (walk_all (n := 10) hg (by kernel_rfl) hA (fun j t v hj hv => hval0 j t v (by simpa using hj) (by simpa using hv)) walk_law).mono fun e W' ⟨he, hb⟩ => ?_
  subst he
  have hl : laidOutB Try.prog = true := by kernel_rfl
  have hst : ∀ sp : Nat → Bool, (∀ x ∈ p, sp x.block = true) → DataW.TrodAll enc Try.prog W' 0 sp true Try.f5.params.toList args.toList [d1, d2] p :=
    fun sp hsp => stays_all hl hb _ _ _ _ (by kernel_rfl) hA hlt hsp
  exact ⟨_, rfl, post_below (pa := p) (pv := []) hW' (fun _ _ _ => (trodAll_cons_mk (shut_bool Try.underlying4 _) trodAll_mk0)) (fun sp hsp => hst sp (fun x hx => hsp x (by simpa using hx))) (fun _ _ => rfl) (by simp)
    hb (ok_one (by kernel_rfl) rfl (okWide_bool_mk Try.underlying4 _))⟩
theorem over : Rows.deheapAlikeRow.holds Try.pinned (OpenSpec.ofChange Rows.deheapAlikeSpec) :=
  OpenClaim.holds_of_wide 5 Try.f5 rfl rfl rfl rfl rfl rfl rfl ⟨rfl, rfl, rfl, rfl, rfl⟩ rfl rfl rfl rfl rfl (by kernel_rfl) Try.func5 (by kernel_rfl)
    (of_decide_eq_true (by kernel_rfl)) (by unfold Func.isWrapper; first | (rw [if_pos (by decide +kernel)]; kernel_rfl) | (rw [if_neg (by decide +kernel)]; exact ⟨rfl, rfl⟩))
    (fun os started H enc _ => lifted os started H enc)
theorem proved : Rows.DeheapAlikeSaid :=
  over
#print axioms proved
end Go.Proofs.Ytgecnmjohhmfjaa.deheapAlike
