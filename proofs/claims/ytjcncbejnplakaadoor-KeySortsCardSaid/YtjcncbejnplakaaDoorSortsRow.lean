/-
  The row of KeySorts, and its card.
-/
import Derived.Test.YtjcncbejnplakaaDoorRows
import Derived.Test.YtjcncbejnplakaaDoorCards
import Derived.Test.YtjcncbejnplakaaDoorTie
import Derived.Test.YtjcncbejnplakaaDoorLaw04s
import Derived.Test.YtjcncbejnplakaaDoorA35
import Derived.WalkKit
import Derived.ProofKit
import Derived.OpenShut
import Derived.Stop.Joined
import Derived.SevenTiedAt
namespace Go.Proofs.YtjcncbejnplakaaDoor.keySorts
open Go.Abs Go.ChangeShapes Go.WideShapes Go.ChangeAt Go.RowKit Go.WideElems
set_option linter.unusedVariables false

theorem own : ownKnob Tryd.prog.godebug = none := by kernel_rfl
abbrev laidL : List (String × DataW Unit) := [("math/bits.deBruijn32tab", Rows.laid_math_bits_deBruijn32tab), ("math/bits.deBruijn64tab", Rows.laid_math_bits_deBruijn64tab), ("internal/strconv.uint64pow10", Rows.laid_internal_strconv_uint64pow10)]

theorem of_laid {W : World} (h : laidMetH Tryd.prog laidL W) : GroundW G W := by
  rw [MakeChecks.laidMetH_plain _ _ _ (by kernel_rfl)] at h
  obtain ⟨ps, h, _⟩ := h
  obtain ⟨h1, q1, h⟩ := laid_first (g := 1) (t := T_32_uint8) (e := T_uint8) (k := .u8) (n := 32) (zs := deB32.map fun (n : Nat) => (n : Int)) (by kernel_rfl) (by kernel_rfl) (by kernel_rfl) (by kernel_rfl) (by kernel_rfl) (by kernel_rfl) (by decide) h
  obtain ⟨h2, q2, h⟩ := laid_first (g := 2) (t := T_64_uint8) (e := T_uint8) (k := .u8) (n := 64) (zs := deB.map fun (n : Nat) => (n : Int)) (by kernel_rfl) (by kernel_rfl) (by kernel_rfl) (by kernel_rfl) (by kernel_rfl) (by kernel_rfl) (by decide) h
  obtain ⟨h3, q3, h⟩ := laid_first (g := 0) (t := T_20_uint64) (e := T_uint64) (k := .u64) (n := 20) (zs := pow10.map fun (n : Nat) => (n : Int)) (by kernel_rfl) (by kernel_rfl) (by kernel_rfl) (by kernel_rfl) (by kernel_rfl) (by kernel_rfl) (by decide) h
  intro p hp
  rcases G_mem hp with rfl | rfl | rfl
  · obtain ⟨c, t, fr, e1, e2⟩ := h3
    refine ⟨c, t, fr, e1, fun i hi => ?_⟩
    rw [e2 i (by simpa using hi), List.map_map]
    rfl
  · obtain ⟨c, t, fr, e1, e2⟩ := h1
    refine ⟨c, t, fr, e1, fun i hi => ?_⟩
    rw [e2 i (by simpa using hi), List.map_map]
    rfl
  · obtain ⟨c, t, fr, e1, e2⟩ := h2
    refine ⟨c, t, fr, e1, fun i hi => ?_⟩
    rw [e2 i (by simpa using hi), List.map_map]
    rfl

def shapes : List Sh := [.slice (.cons 1 (.int .i64) (.cons 1 (.int .i64) (.cons 1 (.int .i64) (.cons 1 (.int .i64) .nil)))) 4]

theorem ents_of (n : Nat) (cells : List Value) (hl : cells.length = n * 4) (H : AH) (h : ∀ i, i < n → Is H (.cons 1 (.int .i64) (.cons 1 (.int .i64) (.cons 1 (.int .i64) (.cons 1 (.int .i64) .nil)))) ((cells.drop (i * 4)).take 4)) : ∃ L : List Ent, cells = cellsE L ∧ L.length = n := by
  induction n generalizing cells with
  | zero => exact ⟨[], by cases cells <;> simp at hl; rfl, rfl⟩
  | succ n ih =>
    obtain ⟨x, hx⟩ : ∃ x : Ent, cells.take 4 = x.cells := by
      have h0 := h 0 (by omega)
      simp only [Nat.zero_mul, List.drop_zero] at h0
      match cells, hl with
      | a :: b :: c :: d :: r, _ =>
        obtain ⟨_, ⟨x, e1, w1⟩, _, ⟨y, e2, w2⟩, _, ⟨z, e3, w3⟩, _, ⟨u, e4, w4⟩, _⟩ := h0
        simp at e1 e2 e3 e4
        exact ⟨⟨x, y, z, u⟩, by simp [e1, e2, e3, e4, Ent.cells]⟩
      | [], hl => simp at hl
      | [_], hl => simp at hl; omega
      | [_, _], hl => simp at hl; omega
      | [_, _, _], hl => simp at hl; omega
    obtain ⟨L, hL, hn⟩ := ih (cells.drop 4) (by simp [hl]; omega) (fun k hk => by
      have := h (k + 1) (by omega)
      rw [List.drop_drop, show 4 + k * 4 = (k + 1) * 4 by omega]
      exact this)
    refine ⟨x :: L, ?_, by simp [hn]⟩
    rw [← List.take_append_drop 4 cells, hx, hL]
    rfl

theorem walk_law (avs : List Value) (H : AH) (hg : GroundA G H) (h : IsAll H shapes avs) : AFn Tryd.prog 5 avs H fun v H' => v = .bool true ∧ Keep [] H H' := by
  obtain ⟨a, l, rfl, h1, h2⟩ := h.cons_inv
  obtain rfl := h2.nil_inv
  obtain ⟨n, cells, hrd, hn, hall⟩ := h1.slice_inv
  obtain ⟨L, rfl, rfl⟩ := ents_of n cells hrd.len H hall
  exact (KeySorts_abs hrd).mono fun v H' ⟨h1, h2⟩ => ⟨h1, h2 ▸ .refl⟩

theorem door_met (os : Os) (args : Array Value) : laidMetH Tryd.prog laidL ((World.doorLaid Tryd.prog 400 os).forCall (fun _ _ => 0) ⟨#[], args, []⟩).memory :=
  laidMetH_of_parts3 (fuel := 8) (laidMet_of_run' 8 (by kernel_rfl) (by kernel_rfl)) (by kernel_rfl) (by kernel_rfl)

set_option maxRecDepth 100000 in
theorem lifted (os : Os) (started : os.Started) (H : Type) (enc : TypeId × Value → H) :
    ReturnsInHanded {} Tryd.checked os 5 .any (fun w args => (Rows.keySortsSpec.pre enc Tryd.prog Tryd.f5 [] false w args ∧ laidMetH Tryd.prog laidL w) ∧ sizedMet enc Tryd.prog Tryd.f5 (OpenSpec.ofChange Rows.keySortsSpec) false w args)
      (Rows.keySortsSpec.post enc Tryd.prog Tryd.f5 false true false false) := by
  refine returnsInHanded_of_change_and (C := Tryd.checked) (X := fun w _ => laidMetH Tryd.prog laidL w) (fun _ _ _ hh h => h.of_heap hh) own started (by kernel_rfl) Tryd.func5
    (ChangeSpec.witness_shaped (enc := enc) (C := Tryd.checked) (os := os) (X := fun w _ => laidMetH Tryd.prog laidL w) false (World.doorLaid Tryd.prog 400 os) #[.slice none 0 0] 8 rfl (World.shaped_of_RefB (by kernel_rfl) (by kernel_rfl)) (by kernel_rfl) (by kernel_rfl) (by kernel_rfl) (door_met os _)) ?_
  intro W base args ds gs before hval0 hW _ _ hL _
  have hW' := hW
  obtain ⟨p, q, hA0, hV, rfl, hfz, hnd⟩ := hW
  have hA : DataW.TrodAll enc Tryd.prog W 0 (fun _ => true) true Tryd.f5.params.toList args.toList ds p := hA0
  obtain ⟨rfl, rfl⟩ := trodVars_none hV
  have hlt : ∀ x ∈ p, x.block < W.heap.size := fun x hx => by simpa using hW'.lt x (by simpa using hx)
  have hlen : ∃ d1, ds = [d1] := by
    rw [Tryd.params5] at hA
    obtain ⟨v0, vs0, d0', ds0, p0, q0, _, rfl, _, _, r0⟩ := trodAll_cons hA
    obtain ⟨_, rfl, _⟩ := trodAll_nil r0
    exact ⟨_, rfl⟩
  obtain ⟨d1, rfl⟩ := hlen
  have hGW := of_laid hL
  have hg : Tryd.prog.globals.size ≤ W.heap.size := by
    rw [show Tryd.prog.globals.size = 3 by kernel_rfl]
    obtain ⟨c, t, fr, h1, _⟩ := hGW (2, deB.map fun (n : Nat) => (.int .u8 n : Value)) (by unfold G; simp)
    exact (Array.getElem?_eq_some_iff.1 h1).1
  refine (walk_allG (n := 10) (G := G) hg goodG_ok G_look hGW (by kernel_rfl) hA (fun j t v hj hv => hval0 j t v (by simpa using hj) (by simpa using hv)) walk_law).mono fun e W' ⟨he, hb⟩ => ?_
  subst he
  have hl : laidOutB Tryd.prog = true := by kernel_rfl
  have hst : ∀ sp : Nat → Bool, (∀ x ∈ p, sp x.block = true) → DataW.TrodAll enc Tryd.prog W' 0 sp true Tryd.f5.params.toList args.toList [d1] p :=
    fun sp hsp => stays_all hl hb _ _ _ _ (by kernel_rfl) hA hlt hsp
  exact ⟨_, rfl, post_below (pa := p) (pv := []) hW' (fun _ _ _ => (trodAll_cons_mk (shut_bool Tryd.underlying4 _) trodAll_mk0)) (fun sp hsp => hst sp (fun x hx => hsp x (by simpa using hx))) (fun _ _ => rfl) (by simp)
    hb (ok_one (by kernel_rfl) rfl (okWide_bool_mk Tryd.underlying4 _))⟩

theorem over : Rows.keySortsRow.holds Tryd.pinned (OpenSpec.ofChange Rows.keySortsSpec) :=
  OpenClaim.holds_of_wide 5 Tryd.f5 rfl rfl rfl rfl rfl rfl rfl ⟨rfl, rfl, rfl, rfl, rfl⟩ rfl rfl rfl rfl rfl (by kernel_rfl) Tryd.func5 (by kernel_rfl)
    (of_decide_eq_true (by kernel_rfl)) (by unfold Func.isWrapper; first | (rw [if_pos (by decide +kernel)]; kernel_rfl) | (rw [if_neg (by decide +kernel)]; exact ⟨rfl, rfl⟩))
    (fun os started H enc _ => lifted os started H enc)

/-- ████ THE STATEMENT ████ -/
theorem proved : Rows.KeySortsCardSaid :=
  Claim7.holds_tied_plain_at .later [] [.data, .data, .data] true (true, "8d2449f12b2f779bb2ff15576f20d267a23f17f0c0d941401bb496ace23e0c44") false
    over (fun _ h => by cases h) (by kernel_rfl) (fun _ h => by cases h) keySorts_row_tie rfl ⟨rfl, rfl⟩ (by kernel_rfl) rfl
    (fun f fn hf hfn => by
      obtain rfl : f = 5 := Option.some.inj ((show Tryd.prog.funcNamed "secateur/secateurlaw04.KeySorts" = some 5 by kernel_rfl).symm.trans hf) |>.symm
      obtain rfl : fn = Tryd.f5 := (Option.some.inj (Tryd.func5.symm.trans hfn)).symm
      exact ⟨by kernel_rfl, fun j t ht => by
        have hm : t ∈ Tryd.f5.params.toList := by simpa using Array.mem_of_getElem? ht
        have hall : (Tryd.f5.params.toList.all fun u => !Tryd.prog.wantsStandIn u) = true := by kernel_rfl
        exact (show Tryd.prog.wantsStandIn t = false by simpa using List.all_eq_true.1 hall t hm)⟩)
    (by kernel_rfl)
#print axioms proved
end Go.Proofs.YtjcncbejnplakaaDoor.keySorts
