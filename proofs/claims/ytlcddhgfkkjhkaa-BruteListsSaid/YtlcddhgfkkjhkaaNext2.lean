/-
  package brute: next, the next order, in place.
-/
import Derived.Test.YtlcddhgfkkjhkaaRev
import Derived.Test.YtlcddhgfkkjhkaaNext
import Derived.Test.YtlcddhgfkkjhkaaSlLo
set_option maxRecDepth 100000
set_option linter.unusedSimpArgs false
set_option linter.unusedVariables false
namespace Go.Abs
open Go
/-- The cells of numbers. -/
def iC (X : List Int) : List Value := X.map (.int .i64)
theorem iC_len {X : List Int} : (iC X).length = X.length := by simp [iC]
theorem iC_get {X : List Int} {i : Nat} (h : i < X.length) : (iC X)[i]? = some (.int .i64 (X.getD i 0)) := by
  simp [iC, h]
theorem iC_of {cs : List Value} {X : List Int} (hl : cs.length = X.length) (h : ∀ i, i < X.length → cs[i]? = some (.int .i64 (X.getD i 0))) : cs = iC X := by
  apply List.ext_getElem?
  intro i
  by_cases hi : i < X.length
  · rw [h i hi, iC_get hi]
  · rw [List.getElem?_eq_none (by omega), List.getElem?_eq_none (by rw [iC_len]; omega)]
theorem iC_set {X : List Int} {i : Nat} {a : Int} (h : i < X.length) : over (iC X) i [.int .i64 a] = iC (X.set i a) := by
  rw [over_one (by rw [iC_len]; exact h)]
  simp [iC, List.map_set]

/-- The rest falls from a place on. -/
def FallsFrom (X : List Int) (m : Nat) : Prop := ∀ j, m ≤ j → j + 1 < X.length → X.getD (j + 1) 0 ≤ X.getD j 0
theorem FallsFrom.none {X : List Int} {m : Nat} (h : FallsFrom X m) : nextL (X.drop m) = none := by
  refine next_none.2 (falls fun i hi => ?_)
  have := h (m + i) (by omega) (by simp at hi; omega)
  simp at hi
  rw [List.getElem_drop, List.getElem_drop]
  rw [List.getD_eq_getElem?_getD, List.getD_eq_getElem?_getD, List.getElem?_eq_getElem (by omega), List.getElem?_eq_getElem (by omega)] at this
  exact this

/-- What the walk of next does, in plain terms. -/
theorem next_step {X : List Int} {f m k : Nat} (hf : f ≤ m) (hk : k < X.length) (hmk : m < k) (hfall : FallsFrom X (m + 1)) (hgt : X.getD m 0 < X.getD k 0) (hle : ∀ j, k < j → j < X.length → X.getD j 0 ≤ X.getD m 0) :
    nextL (X.drop f) = some ((X.drop f).take (m - f) ++ X.getD k 0 :: ((X.drop (m + 1)).set (k - (m + 1)) (X.getD m 0)).reverse) := by
  have hm : m < X.length := by omega
  have hsp : X.drop f = (X.drop f).take (m - f) ++ X.drop m := by
    conv => lhs; rw [← List.take_append_drop (m - f) (X.drop f)]
    rw [List.drop_drop, show f + (m - f) = m by omega]
  have hdm : X.drop m = X.getD m 0 :: X.drop (m + 1) := by
    rw [List.getD_eq_getElem?_getD, List.getElem?_eq_getElem hm]
    exact (List.getElem_cons_drop hm).symm
  conv => lhs; rw [hsp]
  refine next_front ?_
  rw [hdm, next_cons, hfall.none]
  generalize hL : X.drop (m + 1) = L
  have hLl : L.length = X.length - (m + 1) := by rw [← hL, List.length_drop]
  have hLg : ∀ i, i < L.length → L.getD i 0 = X.getD (m + 1 + i) 0 := fun i hi => by
    rw [← hL, List.getD_eq_getElem?_getD, List.getD_eq_getElem?_getD, List.getElem?_drop]
  have hrev : ∀ i, i < L.length → L.reverse.getD i 0 = L.getD (L.length - 1 - i) 0 := fun i hi => by
    rw [List.getD_eq_getElem?_getD, List.getD_eq_getElem?_getD, List.getElem?_reverse hi]
  have hkl : k - (m + 1) < L.length := by omega
  have hfi : L.reverse.findIdx? (fun y => decide (X.getD m 0 < y)) = some (L.length - 1 - (k - (m + 1))) := by
    rw [List.findIdx?_eq_some_iff_getElem]
    refine ⟨by rw [List.length_reverse]; omega, ?_, fun j hj => ?_⟩
    · rw [List.getElem_reverse]
      have h1 : L[L.length - 1 - (L.length - 1 - (k - (m + 1)))]'(by omega) = L.getD (k - (m + 1)) 0 := by
        rw [List.getD_eq_getElem?_getD, List.getElem?_eq_getElem hkl]
        have : L.length - 1 - (L.length - 1 - (k - (m + 1))) = k - (m + 1) := by omega
        simp [this]
      rw [h1, hLg _ hkl, show m + 1 + (k - (m + 1)) = k by omega]
      simpa using hgt
    · rw [List.getElem_reverse]
      have h1 : L[L.length - 1 - j]'(by omega) = L.getD (L.length - 1 - j) 0 := by
        rw [List.getD_eq_getElem?_getD, List.getElem?_eq_getElem (by omega)]; rfl
      rw [h1, hLg _ (by omega)]
      have := hle (m + 1 + (L.length - 1 - j)) (by omega) (by omega)
      simp only [decide_eq_true_eq]; omega
  rw [hfi]
  show some _ = some _
  congr 1
  rw [hrev _ (by omega), show L.length - 1 - (L.length - 1 - (k - (m + 1))) = k - (m + 1) by omega, hLg _ hkl, show m + 1 + (k - (m + 1)) = k by omega]
  congr 1
  apply List.ext_getElem (by simp)
  intro i h1 h2
  simp only [List.length_set, List.length_reverse] at h1 h2
  simp only [List.getElem_set, List.getElem_reverse, List.length_set]
  by_cases hi : L.length - 1 - (k - (m + 1)) = i
  · rw [if_pos hi, if_pos (by omega)]
  · rw [if_neg hi, if_neg (by omega)]
end Go.Abs
namespace Go.Proofs.Ytlcddhgfkkjhkaa
open Go Go.Abs

def Nx1I (H : AH) (b : Nat) (X : List Int) (f : Nat) (k : Nat) (env : Env) (H' : AH) : Prop :=
  H' = H ∧ env 0 = some (.slice (some ⟨b, 0, none⟩) X.length X.length) ∧ env 1 = some (.int .i64 f) ∧ env 5 = some (.int .i64 ((X.length : Int) - 2 - k)) ∧ FallsFrom X (X.length - 1 - k)
def Nx1Q (H : AH) (X : List Int) (f : Nat) (e : AExit) (env : Env) (H' : AH) : Prop :=
  H' = H ∧ e = .exit 0 ∧ ((∃ i : Int, env 5 = some (.int .i64 i) ∧ i < f ∧ FallsFrom X f) ∨ ∃ m : Nat, env 5 = some (.int .i64 m) ∧ f ≤ m ∧ m + 1 < X.length ∧ X.getD m 0 < X.getD (m + 1) 0 ∧ FallsFrom X (m + 1))
theorem next_l1 {H : AH} {b : Nat} {X : List Int} {f : Nat} (hb : H.cells b = some (iC X)) (hX : X.length ≤ 1000) (hf : f ≤ 1000) {env : Env} (h : Nx1I H b X f 0 env H) : wpC Try.prog 63 (.loop ir_brute_next_l1) (Nx1Q H X f) env H := by
  refine loop_upto X.length (Nx1I H b X f) (Q := Nx1Q H X f) h ?_
  rintro k env H' hk ⟨rfl, e0, e1, e5, hF⟩
  by_cases hi : (f : Int) ≤ (X.length : Int) - 2 - k
  · obtain ⟨m, hm⟩ : ∃ m : Nat, (X.length : Int) - 2 - k = m := ⟨X.length - 2 - k, by omega⟩
    rw [hm] at e5
    have hml : m < X.length := by omega
    have hml1 : m + 1 < X.length := by omega
    have hfm : (f : Int) ≤ (m : Int) := by omega
    have g1 := iC_get hml
    have g2 := iC_get hml1
    have hF' : FallsFrom X (m + 1) := by rw [show m + 1 = X.length - 1 - k by omega]; exact hF
    generalize hx : X.getD m 0 = x at *
    generalize hy : X.getD (m + 1) 0 = y at *
    generalize hcs : iC X = cs at *
    by_cases hxy : y ≤ x
    · simp (disch := omega) [-getElem?_pos, if_pos, if_neg, decide_eq_true, decide_eq_false, ir_brute_next_l1, e0, e1, e5, hfm, hml, hml1, hb, g1, g2, hxy, IntWalk.i64_in]
      refine ⟨by omega, rfl, by simp [e0], by simp [e1], by simp; omega, fun j hj hj2 => ?_⟩
      by_cases hjm : j = m
      · subst hjm; rw [hx, hy]; exact hxy
      · exact hF' j (by omega) hj2
    · simp (disch := omega) [-getElem?_pos, if_pos, if_neg, decide_eq_true, decide_eq_false, ir_brute_next_l1, e0, e1, e5, hfm, hml, hml1, hb, g1, g2, hxy, IntWalk.i64_in]
      exact ⟨rfl, rfl, .inr ⟨m, by simp [e5], by omega, hml1, by rw [hx, hy]; omega, hF'⟩⟩
  · have hi' : ((f : Int) ≤ (X.length : Int) - 2 - k) = False := eq_false hi
    generalize hii : (X.length : Int) - 2 - k = i at *
    simp (disch := omega) [-getElem?_pos, if_pos, if_neg, decide_eq_true, decide_eq_false, ir_brute_next_l1, e0, e1, e5, hi', IntWalk.i64_in]
    refine ⟨rfl, rfl, .inl ⟨i, by simp [e5], by omega, fun j hj hj2 => hF j (by omega) hj2⟩⟩

def Nx0I (H : AH) (b : Nat) (X : List Int) (m : Nat) (k : Nat) (env : Env) (H' : AH) : Prop :=
  H' = H ∧ env 0 = some (.slice (some ⟨b, 0, none⟩) X.length X.length) ∧ env 5 = some (.int .i64 m) ∧ env 6 = some (.int .i64 ((X.length : Int) - 1 - k)) ∧ ∀ j, X.length - 1 - k < j → j < X.length → X.getD j 0 ≤ X.getD m 0
def Nx0Q (H : AH) (X : List Int) (m : Nat) (e : AExit) (env : Env) (H' : AH) : Prop :=
  H' = H ∧ e = .exit 2 ∧ ∃ k : Nat, env 6 = some (.int .i64 k) ∧ m < k ∧ k < X.length ∧ X.getD m 0 < X.getD k 0 ∧ ∀ j, k < j → j < X.length → X.getD j 0 ≤ X.getD m 0
theorem next_l0 {H : AH} {b : Nat} {X : List Int} {m : Nat} (hb : H.cells b = some (iC X)) (hX : X.length ≤ 1000) (hm : m + 1 < X.length) (hgt : X.getD m 0 < X.getD (m + 1) 0) {env : Env} (h : Nx0I H b X m 0 env H) : wpC Try.prog 63 (.loop ir_brute_next_l0) (Nx0Q H X m) env H := by
  refine loop_upto (X.length - 1 - m) (Nx0I H b X m) (Q := Nx0Q H X m) h ?_
  rintro k env H' hk ⟨rfl, e0, e5, e6, hF⟩
  obtain ⟨j, hj⟩ : ∃ j : Nat, (X.length : Int) - 1 - k = j := ⟨X.length - 1 - k, by omega⟩
  rw [hj] at e6
  have hjl : j < X.length := by omega
  have hml : m < X.length := by omega
  have g1 := iC_get hjl
  have g2 := iC_get hml
  have hjm : j = X.length - 1 - k := by omega
  rw [← hjm] at hF
  have hne : X.getD j 0 ≤ X.getD m 0 → m + 1 < j ∨ j = m := fun h => by
    by_cases h1 : j = m + 1
    · subst h1; omega
    · omega
  generalize hx : X.getD m 0 = x at *
  generalize hy : X.getD j 0 = y at *
  generalize hcs : iC X = cs at *
  by_cases hxy : y ≤ x
  · by_cases hkk : k < X.length - 1 - m
    · simp (disch := omega) [-getElem?_pos, if_pos, if_neg, decide_eq_true, decide_eq_false, ir_brute_next_l0, e0, e5, e6, hjl, hml, hb, g1, g2, hxy, IntWalk.i64_in]
      refine ⟨hkk, rfl, by simp [e0], by simp [e5], by simp; omega, fun i hi hi2 => ?_⟩
      by_cases hij : i = j
      · subst hij; rw [hx, hy]; exact hxy
      · rw [hx]; exact hF i (by omega) hi2
    · have : j = m := by omega
      have h1 := hF (m + 1) (by omega) hm
      omega
  · simp (disch := omega) [-getElem?_pos, if_pos, if_neg, decide_eq_true, decide_eq_false, ir_brute_next_l0, e0, e5, e6, hjl, hml, hb, g1, g2, hxy, IntWalk.i64_in]
    refine ⟨rfl, rfl, j, by simp [e6], ?_, hjl, by rw [hx, hy]; omega, fun i h1 h2 => by rw [hx]; exact hF i h1 h2⟩
    have : j ≠ m := fun h => by subst h; omega
    omega

/-- What next leaves. -/
def NextP (H : AH) (b : Nat) (X : List Int) (f : Nat) (u : Value) (H' : AH) : Prop :=
  match nextL (X.drop f) with
  | some Z => u = .bool true ∧ WF H' ∧ Keep [b] H H' ∧ H'.blk b = some (.row (iC (X.take f ++ Z)) T_int true)
  | none => u = .bool false ∧ H' = H
theorem next_spec {H : AH} {b : Nat} {X : List Int} {f : Nat} (hb : H.blk b = some (.row (iC X) T_int true)) (hX : X.length ≤ 1000) (hf : f ≤ X.length) : AFn Try.prog F_brute_next [.slice (some ⟨b, 0, none⟩) X.length X.length, .int .i64 f] H (NextP H b X f) := by
  refine AFn.enter mixed ir_brute_next_eq (by simp [ir_brute_next]) fun hw => ?_
  have cb := AH.cells_of hb
  simp (disch := omega) [-getElem?_pos, if_pos, if_neg, decide_eq_true, decide_eq_false, ir_brute_next, IntWalk.i64_in]
  refine wpC_use (next_l1 (b := b) (X := X) (f := f) cb hX (by omega) ⟨rfl, by simp, by simp, by simp, fun j h1 h2 => by omega⟩) ?_
  rintro e env1 H' ⟨rfl, rfl, hq⟩ hu
  have u0 := hu 0 (by decide)
  have u1 := hu 1 (by decide)
  rcases hq with ⟨i, e5, hi, hF⟩ | ⟨m, e5, hfm, hm1, hgt, hF⟩
  · have hn := hF.none
    simp (disch := omega) [-getElem?_pos, if_pos, if_neg, decide_eq_true, decide_eq_false, e5, u0, u1, hi]
    unfold NextP
    rw [hn]
    exact ⟨rfl, rfl⟩
  · have hmf : ¬ (m : Int) < (f : Int) := by omega
    simp (disch := omega) [-getElem?_pos, if_pos, if_neg, decide_eq_true, decide_eq_false, e5, u0, u1, hmf, IntWalk.i64_in]
    refine wpC_use (next_l0 (b := b) (X := X) (m := m) cb hX hm1 hgt ⟨rfl, by simp [u0], by simp [e5], by simp, fun j h1 h2 => by omega⟩) ?_
    rintro e env2 H2 ⟨rfl, rfl, k, e6, hmk, hk, hgk, hle⟩ hu2
    have v0 := hu2 0 (by decide)
    have v5 := hu2 5 (by decide)
    simp only [upd_apply] at v0 v5
    have hml : m < X.length := by omega
    have hst := next_step hfm hk hmk hF hgk hle
    have g1 := iC_get hk
    have g2 := iC_get hml
    have w1 := writeA_of (off := m) (news := [Value.int .i64 (X.getD k 0)]) hb (by rw [iC_len]; simp; omega)
    rw [iC_set hml] at w1
    have hkl1 : k < (X.set m (X.getD k 0)).length := by rw [List.length_set]; exact hk
    have w2 := writeA_of (H := H2.set b (.row (iC (X.set m (X.getD k 0))) T_int true)) (off := k) (news := [Value.int .i64 (X.getD m 0)]) AH.set_blk_same (by rw [iC_len]; simp; omega)
    rw [iC_set hkl1, AH.set_set] at w2
    generalize hY : (X.set m (X.getD k 0)).set k (X.getD m 0) = Y at *
    have hYl : Y.length = X.length := by rw [← hY]; simp
    have hYd : Y.drop (m + 1) = (X.drop (m + 1)).set (k - (m + 1)) (X.getD m 0) := by
      rw [← hY, List.drop_set, if_neg (by omega), List.drop_set, if_pos (by omega)]
    have hYt : Y.take m = X.take m := by
      rw [← hY, List.take_set, List.take_set, List.set_eq_of_length_le (by rw [List.length_set, List.length_take]; omega), List.set_eq_of_length_le (by rw [List.length_take]; omega)]
    have hYm : Y.getD m 0 = X.getD k 0 := by
      rw [← hY, List.getD_eq_getElem?_getD, List.getElem?_set_ne (by omega), List.getElem?_set_self hml]; rfl
    have hRl : (Y.drop (m + 1)).length = X.length - (m + 1) := by rw [List.length_drop, hYl]
    have hAt : At0 (iC Y) (m + 1) (Y.drop (m + 1)) := fun i hi => by
      rw [hRl] at hi
      rw [iC_get (by omega), List.getElem_drop, List.getD_eq_getElem?_getD, List.getElem?_eq_getElem (by omega)]; rfl
    have hcm : ¬ X.length = m + 1 := by omega
    have hr := Reverse_spec (H := H2.set b (.row (iC Y) T_int true)) (b := b) (o := m + 1) (c := X.length - (m + 1)) (sp := none) (cs := iC Y) (L := Y.drop (m + 1)) AH.set_blk_same (by rw [hRl, iC_len, hYl]; omega) hAt (by rw [hRl]; omega)
    rw [hRl] at hr
    generalize hxx : X.getD k 0 = x at *
    generalize hyy : X.getD m 0 = y at *
    generalize hcs : iC X = cs at *
    simp (disch := omega) [-getElem?_pos, if_pos, if_neg, decide_eq_true, decide_eq_false, e6, v0, v5, e5, hk, hml, cb, g1, g2, w1, w2, hcm, u0, ↓ieval_sllo, slB, IntWalk.i64_in]
    refine hr.mono' fun u H3 w3 ⟨_, k3, cs3, b3, l3, a3, o3⟩ => ?_
    simp (disch := omega) [-getElem?_pos, if_pos, if_neg, decide_eq_true, decide_eq_false, ]
    unfold NextP
    rw [hst]
    refine ⟨rfl, w3, ?_, ?_⟩
    · exact Keep.trans' (.set (by simp)) k3
    · rw [b3]
      congr 2
      have hlen : (X.take f ++ ((X.drop f).take (m - f) ++ x :: ((X.drop (m + 1)).set (k - (m + 1)) y).reverse)).length = X.length := by
        simp only [List.length_append, List.length_take, List.length_drop, List.length_cons, List.length_reverse, List.length_set]; omega
      have heq : X.take f ++ ((X.drop f).take (m - f) ++ x :: ((X.drop (m + 1)).set (k - (m + 1)) y).reverse) = Y.take (m + 1) ++ (Y.drop (m + 1)).reverse := by
        rw [hYd, ← List.append_assoc, ← List.take_add, show f + (m - f) = m by omega, List.take_succ_eq_append_getElem (show m < Y.length by omega), hYt]
        have hYx : Y[m]'(by omega) = x := by
          have h := hYm
          rw [List.getD_eq_getElem?_getD, List.getElem?_eq_getElem (by omega)] at h
          exact h
        rw [hYx, List.append_assoc]; rfl
      rw [heq]
      refine iC_of (by rw [l3, iC_len, List.length_append, List.length_take, List.length_reverse, hRl]; omega) fun i hi => ?_
      rw [List.length_append, List.length_take, List.length_reverse, hRl] at hi
      by_cases him : i < m + 1
      · rw [o3 i (.inl him), iC_get (by omega), List.getD_eq_getElem?_getD, List.getD_eq_getElem?_getD, List.getElem?_append_left (by rw [List.length_take]; omega), List.getElem?_take_of_lt him]
      · have h1 := a3 (i - (m + 1)) (by rw [List.length_reverse, hRl]; omega)
        rw [show m + 1 + (i - (m + 1)) = i by omega] at h1
        rw [h1, List.getD_eq_getElem?_getD, List.getElem?_append_right (by rw [List.length_take]; omega), List.length_take, Nat.min_eq_left (by omega), List.getElem?_eq_getElem (by rw [List.length_reverse, hRl]; omega)]
        rfl
end Go.Proofs.Ytlcddhgfkkjhkaa
