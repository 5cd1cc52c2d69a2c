/-
  package brute: At.
-/
import Derived.Test.YtlcddhgfkkjhkaaBrute5
set_option maxRecDepth 100000
set_option linter.unusedSimpArgs false
set_option linter.unusedVariables false
namespace Go.Proofs.Ytlcddhgfkkjhkaa
open Go Go.Abs

theorem keep_grow {H H' : AH} (hw : WF H) (hk : Keep [] H H') : Grow H H' := fun b B hb => by rw [hk.blk b (hw b B hb) (by simp)]; exact hb
def fix1 (k : Int) : Nat := if k = 2 then 1 else 0
theorem fixed_spec {H : AH} (k : Int) : AFn Try.prog F_brute_fixed [.int .i64 k] H fun u H' => u = .int .i64 (fix1 k) ∧ H' = H := by
  refine AFn.enter mixed ir_brute_fixed_eq (by simp [ir_brute_fixed]) fun hw => ?_
  unfold fix1
  by_cases h : k = 2 <;> simp (disch := omega) [-getElem?_pos, if_pos, if_neg, decide_eq_true, decide_eq_false, ir_brute_fixed, h]

theorem prod_stay {f : Nat → Int} (hf : ∀ k, 1 ≤ f k) {N : Nat} (h : prodI f N = 1048577) : ∀ {M : Nat}, N ≤ M → prodI f M = 1048577
  | M, hNM => by
    induction M with
    | zero => obtain rfl : N = 0 := by omega
              exact h
    | succ M ih =>
      by_cases hM : N = M + 1
      · rw [← hM]; exact h
      · have := ih (by omega)
        have h1 := hf M
        show (if prodI f M * f M < 1048577 then prodI f M * f M else 1048577) = 1048577
        rw [this, if_neg (by omega)]
theorem prod_fac_le {N : Nat} (h : prodI (fun k => (k : Int) + 1) N ≤ 1048576) : N < 10 := by
  have h10 : prodI (fun k => (k : Int) + 1) 10 = 1048577 := by decide
  by_cases hN : N < 10
  · exact hN
  · rw [prod_stay (fun k => by omega) h10 (by omega)] at h; omega
theorem prod_two_le {N : Nat} (h : prodI (fun _ => 2) N ≤ 1048576) : N < 21 ∧ prodI (fun _ => 2) N = ((2 ^ N : Nat) : Int) := by
  have h21 : prodI (fun _ => 2) 21 = 1048577 := by decide
  have h20 : ∀ N : Fin 21, prodI (fun _ => 2) N.1 = ((2 ^ N.1 : Nat) : Int) := by decide
  by_cases hN : N < 21
  · exact ⟨hN, h20 ⟨N, hN⟩⟩
  · rw [prod_stay (fun k => by omega) h21 (by omega)] at h; omega

/-- The answers of an instance that may be: how many decisions, and how many answers. -/
theorem count_sub {x : InstD} (hc : x.countE = 0) (hk : x.kind = 0 ∨ x.kind = 3) : x.Ok ∧ ∃ N : Nat, N < 21 ∧ x.n = (N : Int) ∧ x.count = ((2 ^ N : Nat) : Int) := by
  unfold InstD.countE at hc
  split at hc
  · rename_i h0
    have hok := InstD.check_ok.1 h0
    split at hc
    · omega
    · rename_i hm
      have hr := InstD.n_range hok
      have h1 : x.many = prodI (fun _ => 2) x.n.toNat := by unfold InstD.many; simp only [hk, if_true]
      have h2 := prod_two_le (N := x.n.toNat) (by rw [← h1]; omega)
      refine ⟨hok, x.n.toNat, h2.1, by omega, ?_⟩
      unfold InstD.count
      rw [if_pos h0, if_neg hm, h1, h2.2]
  · rename_i h0; exact absurd hc h0
theorem count_ord {x : InstD} (hc : x.countE = 0) (hk : ¬ (x.kind = 0 ∨ x.kind = 3)) : x.Ok ∧ fix1 x.kind ≤ x.cost.length ∧ x.cost.length - fix1 x.kind < 10 ∧ x.count = (fac (x.cost.length - fix1 x.kind) : Int) ∧ x.cost.length ≤ 64 := by
  unfold InstD.countE at hc
  split at hc
  · rename_i h0
    have hok := InstD.check_ok.1 h0
    split at hc
    · omega
    · rename_i hm
      have hr := InstD.n_range hok
      have k0 := hok.kind0
      have k4 := hok.kind4
      have hsq := hok.few.sq (by omega)
      have hn : x.n.toNat = x.cost.length - fix1 x.kind := by
        unfold InstD.n fix1
        rw [if_pos h0]
        by_cases k1 : x.kind = 1
        · simp [k1]
        · have k2 : x.kind = 2 := by omega
          simp [k2]
      have h1 : x.many = prodI (fun k => (k : Int) + 1) x.n.toNat := by unfold InstD.many; simp only [hk, if_false]
      have h2 := prod_fac_le (N := x.n.toNat) (by rw [← h1]; omega)
      refine ⟨hok, ?_, by omega, ?_, hsq.2⟩
      · unfold fix1; split <;> omega
      · unfold InstD.count
        rw [if_pos h0, if_neg hm, h1, prod_fac h2, hn]
  · rename_i h0; exact absurd hc h0

/-- The answer of a place. -/
def _root_.Go.Abs.InstD.at (x : InstD) (k : Nat) : List Int :=
  if x.kind = 0 ∨ x.kind = 3 then chosenL 20 0 k else restL 0 (fix1 x.kind) ++ orderL (x.cost.length - fix1 x.kind) (restL (fix1 x.kind) x.cost.length) k

theorem At_spec {H : AH} {v : Value} {x : InstD} {k : Nat} (hx : InstV (fun b => b < H.next) H v x) (hc : x.countE = 0) (hk : (k : Int) < x.count) : AFn Try.prog F_brute_At [v, .int .i64 k] H fun u H' => ∃ w, u = .tuple #[w, .int .i64 0] ∧ NewL H w (x.at k) H' := by
  obtain ⟨iv, cv, sv, rfl, i1, i2, i3, h1, h2, h3⟩ := id hx
  refine AFn.enter mixed ir_brute_At_eq (by simp [ir_brute_At]) fun hw => ?_
  have bc : (H.alloc (.row (instC x iv cv sv) T_inst_Inst true)).cells H.next = some (instC x iv cv sv) := AH.cells_alloc_new
  have hx1 := (hx.kept hw (.alloc (B := .row (instC x iv cv sv) T_inst_Inst true))).any
  have w1 := WF.alloc hw (B := .row (instC x iv cv sv) T_inst_Inst true)
  have k1 : Keep [] H (H.alloc (.row (instC x iv cv sv) T_inst_Inst true)) := .alloc
  generalize hq : H.next = q at *
  simp (disch := omega) [-getElem?_pos, if_pos, if_neg, decide_eq_true, decide_eq_false, ir_brute_At, hq, inst_cut]
  generalize H.alloc (.row (instC x iv cv sv) T_inst_Inst true) = H1 at *
  refine AFn.pure (Count_spec hx1) ?_
  have hk2 : ¬ x.count ≤ (k : Int) := by omega
  simp (disch := omega) [-getElem?_pos, if_pos, if_neg, decide_eq_true, decide_eq_false, hc, hk, hk2, bc, inst_cut]
  refine AFn.pure (subsets_spec _) ?_
  by_cases hs : x.kind = 0 ∨ x.kind = 3
  · obtain ⟨hok, N, hN, hn, hcn⟩ := count_sub hc hs
    rw [hcn] at hk
    have hp : (2 : Nat) ^ N ≤ 2 ^ 20 := Nat.pow_le_pow_right (by omega) (by omega)
    simp (disch := omega) [-getElem?_pos, if_pos, if_neg, decide_eq_true, decide_eq_false, hs]
    refine (chosen_spec (m := k) (f := 20) (by omega) (by omega)).mono' fun u H2 w2 hN2 => ?_
    obtain ⟨S, hA, k2, hS⟩ := id hN2
    simp (disch := omega) [-getElem?_pos, if_pos, if_neg, decide_eq_true, decide_eq_false, hA.cell]
    have : x.at k = chosenL 20 0 k := by unfold InstD.at; rw [if_pos hs]
    rw [this]
    have := k1.next
    exact ⟨S, hA, k1.trans' k2, fun b hb => by have := hS b hb; omega⟩
  · obtain ⟨hok, hf1, hf2, hcn, hcl⟩ := count_ord hc hs
    rw [hcn] at hk
    obtain ⟨ca, cc, rfl⟩ := h2.slice
    simp (disch := omega) [-getElem?_pos, if_pos, if_neg, decide_eq_true, decide_eq_false, hs, bc]
    refine AFnD.of (fixed_spec _) ?_
    simp (disch := omega) [-getElem?_pos, if_pos, if_neg, decide_eq_true, decide_eq_false, ]
    refine AFnD.from (order_spec (n := x.cost.length) (a := fix1 x.kind) (pl := k) (by omega) hf2 hf1 (by omega)) fun u H2 w2 hN2 => ?_
    obtain ⟨S, hA, k2, hS⟩ := id hN2
    refine ⟨keep_grow w1 k2, ?_⟩
    simp (disch := omega) [-getElem?_pos, if_pos, if_neg, decide_eq_true, decide_eq_false, hA.cell]
    have : x.at k = restL 0 (fix1 x.kind) ++ orderL (x.cost.length - fix1 x.kind) (restL (fix1 x.kind) x.cost.length) k := by unfold InstD.at; rw [if_neg hs]
    rw [this]
    have := k1.next
    exact ⟨S, hA, k1.trans' k2, fun b hb => by have := hS b hb; omega⟩
end Go.Proofs.Ytlcddhgfkkjhkaa
