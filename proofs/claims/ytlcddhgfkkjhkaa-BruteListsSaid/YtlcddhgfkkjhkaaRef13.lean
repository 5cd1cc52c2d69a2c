/-
  The document's brute: Count.
-/
import Derived.Test.YtlcddhgfkkjhkaaRef09c
import Derived.Test.YtlcddhgfkkjhkaaBrute6
set_option maxRecDepth 100000
set_option linter.unusedSimpArgs false
set_option linter.unusedVariables false
namespace Go.Proofs.Ytlcddhgfkkjhkaa
open Go Go.Abs

def fOf (x : InstD) : Nat → Int := fun k => if x.kind = 0 ∨ x.kind = 3 then 2 else (k : Int) + 1
def K13I (H1 : AH) (q : Nat) (x : InstD) (N : Nat) (k : Nat) (env : Env) (H' : AH) : Prop :=
  H' = H1 ∧ env 1 = some (.pointer (some ⟨q, 0, none⟩)) ∧ env 5 = some (.int .i64 N) ∧ env 7 = some (.int .i64 ((k : Int) + 1)) ∧ ∃ P : Int, env 6 = some (.int .i64 P) ∧ 1 ≤ P ∧ P ≤ 4294967296 ∧ (P ≤ 1048576 → prodI (fOf x) k = P) ∧ (1048576 < P → prodI (fOf x) k = 1048577)
def K13Q (H1 : AH) (x : InstD) (N : Nat) (e : AExit) (env : Env) (H' : AH) : Prop :=
  H' = H1 ∧ e = .exit 0 ∧ ∃ P : Int, env 6 = some (.int .i64 P) ∧ (P ≤ 1048576 → prodI (fOf x) N = P) ∧ (1048576 < P → prodI (fOf x) N = 1048577)
theorem fOf_pos {x : InstD} (k : Nat) : 1 ≤ fOf x k := by unfold fOf; split <;> omega
theorem count13_l0 {H1 : AH} {q : Nat} {x : InstD} {iv cv sv : Value} (bc : H1.cells q = some (instC x iv cv sv)) {N : Nat} (hN : N ≤ 4096) {env : Env} (h : K13I H1 q x N 0 env H1) : wpC Try.prog 40 (.loop ir_ref13_Count_l0) (K13Q H1 x N) env H1 := by
  refine loop_upto N (K13I H1 q x N) (Q := K13Q H1 x N) h ?_
  rintro k env H' hk ⟨rfl, e1, e5, e7, P, e6, p1, p2, p3, p4⟩
  by_cases hkn : k < N
  · have hkn' : (k : Int) + 1 ≤ N := by omega
    by_cases hP : P ≤ 1048576
    · have hp := p3 hP
      have step : ∀ z, z = P * fOf x k → 1 ≤ z → ((z ≤ 1048576 → prodI (fOf x) (k + 1) = z) ∧ (1048576 < z → prodI (fOf x) (k + 1) = 1048577)) := fun z hz h1 => by
        have : prodI (fOf x) (k + 1) = if z < 1048577 then z else 1048577 := by rw [hz, ← hp]; rfl
        rw [this]
        constructor
        · intro h; rw [if_pos (by omega)]
        · intro h; rw [if_neg (by omega)]
      by_cases hs : x.kind = 0 ∨ x.kind = 3
      · have hf : fOf x k = 2 := by unfold fOf; rw [if_pos hs]
        obtain ⟨s1, s2⟩ := step (2 * P) (by rw [hf, Int.mul_comm]) (by omega)
        rcases hs with hs | hs
        · simp (disch := omega) [-getElem?_pos, if_pos, if_neg, decide_eq_true, decide_eq_false, ir_ref13_Count_l0, e1, e5, e6, e7, bc, hkn', hP, hs, IntWalk.i64_in]
          exact ⟨hkn, rfl, by simp [e1], by simp [e5], by simp, 2 * P, by simp, by omega, by omega, s1, s2⟩
        · simp (disch := omega) [-getElem?_pos, if_pos, if_neg, decide_eq_true, decide_eq_false, ir_ref13_Count_l0, e1, e5, e6, e7, bc, hkn', hP, hs, IntWalk.i64_in]
          exact ⟨hkn, rfl, by simp [e1], by simp [e5], by simp, 2 * P, by simp, by omega, by omega, s1, s2⟩
      · have hf : fOf x k = (k : Int) + 1 := by unfold fOf; rw [if_neg hs]
        have hb : ((k : Int) + 1) * P ≤ 4096 * 1048576 := Int.mul_le_mul (by omega) hP (by omega) (by omega)
        have hb0 : 1 ≤ ((k : Int) + 1) * P := by
          have := Int.mul_le_mul (a := 1) (b := 1) (c := (k : Int) + 1) (d := P) (by omega) p1 (by omega) (by omega)
          simpa using this
        obtain ⟨s1, s2⟩ := step (((k : Int) + 1) * P) (by rw [hf, Int.mul_comm]) hb0
        have hs0 : ¬ x.kind = 0 := fun h => hs (.inl h)
        have hs3 : ¬ x.kind = 3 := fun h => hs (.inr h)
        have hmul : abin .mul (.int .i64 ((k : Int) + 1)) (.int .i64 P) = some (.int .i64 (((k : Int) + 1) * P)) := by
          simp only [abin]
          rw [if_neg (by simp), IntWalk.i64_in _ (by omega)]
        generalize ((k : Int) + 1) * P = Z at *
        simp (disch := omega) [-getElem?_pos, if_pos, if_neg, decide_eq_true, decide_eq_false, ir_ref13_Count_l0, e1, e5, e6, e7, bc, hkn', hP, hs0, hs3, ↓hmul, IntWalk.i64_in]
        exact ⟨hkn, rfl, by simp [e1], by simp [e5], by simp, Z, by simp, by omega, by omega, s1, s2⟩
    · have := prod_stay (f := fOf x) (fun k => fOf_pos k) (p4 (by omega)) (M := N) (by omega)
      simp (disch := omega) [-getElem?_pos, if_pos, if_neg, decide_eq_true, decide_eq_false, ir_ref13_Count_l0, e1, e5, e6, e7, hkn', hP]
      exact ⟨rfl, rfl, P, by simp [e6], fun h => absurd h hP, fun _ => this⟩
  · obtain rfl : k = N := by omega
    have hkn' : ¬ (k : Int) + 1 ≤ k := by omega
    simp (disch := omega) [-getElem?_pos, if_pos, if_neg, decide_eq_true, decide_eq_false, ir_ref13_Count_l0, e1, e5, e6, e7, hkn']
    exact ⟨rfl, rfl, P, by simp [e6], p3, p4⟩

theorem Count13_spec {p : Nat → Prop} {H : AH} {v : Value} {x : InstD} (hx : InstV p H v x) : AFn Try.prog F_ref13_Count [v] H fun u H' => u = .tuple #[.int .i64 x.count, .int .i64 x.countE] ∧ H' = H := by
  refine AFn.calm (fun H0 hs => ?_) rfl
  have hx0 := hx.same hs
  obtain ⟨iv, cv, sv, rfl, i1, i2, i3, h1, h2, h3⟩ := id hx0
  refine AFn.enter mixed ir_ref13_Count_eq (by simp [ir_ref13_Count]) fun hw => ?_
  have bc : (H0.alloc (.row (instC x iv cv sv) T_secateurref09_Inst true)).cells H0.next = some (instC x iv cv sv) := AH.cells_alloc_new
  have hx1 := (hx0.kept hw (.alloc (B := .row (instC x iv cv sv) T_secateurref09_Inst true))).any
  generalize hq : H0.next = q at *
  simp (disch := omega) [-getElem?_pos, if_pos, if_neg, decide_eq_true, decide_eq_false, ir_ref13_Count, hq, inst_cut]
  generalize H0.alloc (.row (instC x iv cv sv) T_secateurref09_Inst true) = H1 at *
  refine AFn.pure (Check9_spec hx1) ?_
  unfold InstD.count InstD.countE
  by_cases hc : x.check = 0
  · obtain ⟨n0, n1⟩ := InstD.n_range (InstD.check_ok.1 hc)
    obtain ⟨N, hN⟩ : ∃ N : Nat, x.n = (N : Int) := ⟨x.n.toNat, by omega⟩
    have hm : x.many = prodI (fOf x) N := by unfold InstD.many fOf; rw [hN, Int.toNat_natCast]
    simp (disch := omega) [-getElem?_pos, if_pos, if_neg, decide_eq_true, decide_eq_false, hc, bc, inst_cut]
    refine AFn.pure (N9_spec hx1) ?_
    rw [hN]
    simp (disch := omega) [-getElem?_pos, if_pos, if_neg, decide_eq_true, decide_eq_false, ]
    refine wpC_use (count13_l0 bc (N := N) (by omega) ⟨rfl, by simp, by simp, by simp, 1, by simp, by omega, by omega, fun _ => rfl, fun h => absurd h (by omega)⟩) ?_
    rintro e env2 H3 ⟨rfl, rfl, P, e6, p3, p4⟩ hu
    by_cases hP : 1048576 < P
    · have hmm := p4 hP
      rw [← hm] at hmm
      have hgt : 1048576 < x.many := by omega
      simp (disch := omega) [-getElem?_pos, if_pos, if_neg, decide_eq_true, decide_eq_false, e6, hP, hgt]
    · simp (disch := omega) [-getElem?_pos, if_pos, if_neg, decide_eq_true, decide_eq_false, e6, hP]
      rw [hm, p3 (by omega)]
  · simp (disch := omega) [-getElem?_pos, if_pos, if_neg, decide_eq_true, decide_eq_false, hc]
end Go.Proofs.Ytlcddhgfkkjhkaa
