/-
  Contracts of package key: entries in their order.
-/
import Derived.Test.YtgecnmjohhmfjaaWakes
import Derived.Test.YtgecnmjohhmfjaaA31
set_option maxRecDepth 100000
set_option linter.unusedSimpArgs false
set_option linter.unusedVariables false
namespace Go.Proofs.Ytgecnmjohhmfjaa
open Go Go.Abs
structure Ent where
  b : Int
  d : Int
  s : Int
  i : Int
  deriving DecidableEq, Inhabited
def Ent.cells (e : Ent) : List Value := [.int .i64 e.b, .int .i64 e.d, .int .i64 e.s, .int .i64 e.i]
abbrev Ent.val (e : Ent) : Value := .agg #[.int .i64 e.b, .int .i64 e.d, .int .i64 e.s, .int .i64 e.i]
def cmpI (a b : Int) : Int := if a < b then -1 else if a > b then 1 else 0
def orI : List Int → Int
  | [] => 0
  | a :: l => if a = 0 then orI l else a
def keyC (x y : Ent) : Int := orI [cmpI x.b y.b, cmpI y.d x.d, cmpI x.s y.s]
def ordC (x y : Ent) : Int := orI [keyC x y, cmpI x.i y.i]
def Ent.lt (x y : Ent) : Bool := decide (ordC x y < 0)
theorem isNaN_spec {H : AH} (a : Int) : AFn Try.prog F_cmp_isNaN_int [.int .i64 a] H fun u H' => u = .bool false ∧ H' = H := by
  refine AFn.enter mixed ir_cmp_isNaN_int_eq (by simp [ir_cmp_isNaN_int]) fun hw => ?_
  simp (disch := omega) [-getElem?_pos, if_pos, if_neg, decide_eq_true, decide_eq_false, ir_cmp_isNaN_int]
theorem isNaN64_spec {H : AH} (a : Int) : AFn Try.prog F_cmp_isNaN_int64 [.int .i64 a] H fun u H' => u = .bool false ∧ H' = H := by
  refine AFn.enter mixed ir_cmp_isNaN_int64_eq (by simp [ir_cmp_isNaN_int64]) fun hw => ?_
  simp (disch := omega) [-getElem?_pos, if_pos, if_neg, decide_eq_true, decide_eq_false, ir_cmp_isNaN_int64]
theorem CompareI_spec {H : AH} (a b : Int) : AFn Try.prog F_cmp_Compare_int [.int .i64 a, .int .i64 b] H fun u H' => u = .int .i64 (cmpI a b) ∧ H' = H := by
  refine AFn.enter mixed ir_cmp_Compare_int_eq (by simp [ir_cmp_Compare_int]) fun hw => ?_
  simp (disch := omega) [-getElem?_pos, if_pos, if_neg, decide_eq_true, decide_eq_false, ir_cmp_Compare_int]
  refine AFn.pure (isNaN_spec a) ?_
  simp (disch := omega) [-getElem?_pos, if_pos, if_neg, decide_eq_true, decide_eq_false, ]
  refine AFn.pure (isNaN_spec b) ?_
  unfold cmpI
  by_cases h1 : a < b
  · simp (disch := omega) [-getElem?_pos, if_pos, if_neg, decide_eq_true, decide_eq_false, h1]
  · by_cases h2 : a > b
    · simp (disch := omega) [-getElem?_pos, if_pos, if_neg, decide_eq_true, decide_eq_false, h1, h2]
    · simp (disch := omega) [-getElem?_pos, if_pos, if_neg, decide_eq_true, decide_eq_false, h1, h2]
theorem CompareL_spec {H : AH} (a b : Int) : AFn Try.prog F_cmp_Compare_int64 [.int .i64 a, .int .i64 b] H fun u H' => u = .int .i64 (cmpI a b) ∧ H' = H := by
  refine AFn.enter mixed ir_cmp_Compare_int64_eq (by simp [ir_cmp_Compare_int64]) fun hw => ?_
  simp (disch := omega) [-getElem?_pos, if_pos, if_neg, decide_eq_true, decide_eq_false, ir_cmp_Compare_int64]
  refine AFn.pure (isNaN64_spec a) ?_
  simp (disch := omega) [-getElem?_pos, if_pos, if_neg, decide_eq_true, decide_eq_false, ]
  refine AFn.pure (isNaN64_spec b) ?_
  unfold cmpI
  by_cases h1 : a < b
  · simp (disch := omega) [-getElem?_pos, if_pos, if_neg, decide_eq_true, decide_eq_false, h1]
  · by_cases h2 : a > b
    · simp (disch := omega) [-getElem?_pos, if_pos, if_neg, decide_eq_true, decide_eq_false, h1, h2]
    · simp (disch := omega) [-getElem?_pos, if_pos, if_neg, decide_eq_true, decide_eq_false, h1, h2]
theorem orI_skip : ∀ (l : List Int) (k : Nat), (∀ j, j < k → l[j]? = some 0 ∨ l[j]? = none) → orI l = orI (l.drop k)
  | l, 0, _ => by simp
  | [], k + 1, _ => by simp
  | a :: l, k + 1, h => by
    have h0 := h 0 (by omega)
    have : a = 0 := by simpa using h0
    subst this
    simp only [orI, if_true, List.drop_succ_cons]
    exact orI_skip l k fun j hj => by simpa using h (j + 1) (by omega)
def OrI (v : Value) (l : List Int) (H0 : AH) (k : Nat) (env : Env) (H' : AH) : Prop :=
  H' = H0 ∧ env 3 = some (.int .i64 0) ∧ env 6 = some v ∧ env 7 = some (.int .i64 (l.length : Nat)) ∧ env 8 = some (.int .i64 k) ∧ orI l = orI (l.drop k)
theorem Or_int_spec {p : Nat → Prop} {H : AH} {v : Value} {l : List Int} (h : Vw p H 1 v l.length (l.map (.int .i64))) (hl : l.length < 1000000) : AFn Try.prog F_cmp_Or_int [v] H fun u H' => u = .int .i64 (orI l) ∧ H' = H := by
  refine AFn.enter mixed ir_cmp_Or_int_eq (by simp [ir_cmp_Or_int]) fun hw => ?_
  obtain ⟨a, c, rfl⟩ := h.slice
  simp (disch := omega) [-getElem?_pos, if_pos, if_neg, decide_eq_true, decide_eq_false, ir_cmp_Or_int]
  refine wpC_use (loop_upto l.length (OrI (.slice a l.length c) l H) (Q := fun e env H' => H' = H ∧ ((e = .exit 0 ∧ orI l = 0 ∧ env 3 = some (.int .i64 0)) ∨ (e = .ret ∧ env 2 = some (.int .i64 (orI l))))) ⟨rfl, by simp, by simp, by simp, by simp, by simp⟩ ?_) fun e env2 H2 ⟨rfl, he⟩ _ => ?_
  · rintro k env H' hk ⟨rfl, e3, e6, e7, e8, ho⟩
    by_cases hkn : k < l.length
    · obtain ⟨b, off, sp, cap, cs, hsl, _, _, q1, _, q2, _⟩ := h.at (by omega)
      cases hsl
      have hx : cs[off + k]? = some (.int .i64 l[k]) := by rw [q2 k (by omega), List.getElem?_map, List.getElem?_eq_getElem hkn]; rfl
      have hd : l.drop k = l[k] :: l.drop (k + 1) := List.drop_eq_getElem_cons hkn
      rw [hd] at ho
      simp only [orI] at ho
      generalize l[k] = x at *
      by_cases hx0 : x = 0
      · rw [if_pos hx0] at ho
        subst hx0
        simp (disch := omega) [-getElem?_pos, if_pos, if_neg, decide_eq_true, decide_eq_false, ir_cmp_Or_int_l0, e3, e6, e7, e8, q1, hx, IntWalk.i64_in]
        exact ⟨hkn, rfl, by simp [e3], by simp [e6], by simp [e7], by simp, ho⟩
      · rw [if_neg hx0] at ho
        simp (disch := omega) [-getElem?_pos, if_pos, if_neg, decide_eq_true, decide_eq_false, ir_cmp_Or_int_l0, e3, e6, e7, e8, q1, hx, hx0]
        rw [ho]
    · rw [List.drop_of_length_le (by omega)] at ho
      simp (disch := omega) [-getElem?_pos, if_pos, if_neg, decide_eq_true, decide_eq_false, ir_cmp_Or_int_l0, e7, e8]
      exact ⟨ho, e3⟩
  · rcases he with ⟨rfl, h0, h3⟩ | ⟨rfl, h2⟩
    · simp (disch := omega) [-getElem?_pos, if_pos, if_neg, decide_eq_true, decide_eq_false, h3, h0]
    · simp (disch := omega) [-getElem?_pos, if_pos, if_neg, decide_eq_true, decide_eq_false, h2]
theorem vw_new {H : AH} (l : List Int) (ty : Nat) : Vw (fun _ => True) (H.alloc (.row (l.map (.int .i64)) ty true)) 1 (.slice (some ⟨H.next, 0, none⟩) l.length l.length) l.length (l.map (.int .i64)) :=
  ⟨by simp, .inr ⟨H.next, 0, none, l.length, l.map (.int .i64), rfl, Nat.le_refl _, .inl rfl, by simp, by rw [cut_eq (by simp), List.drop_zero, List.take_of_length_le (by simp)], trivial⟩⟩
theorem KeyCompare_spec {H : AH} (x y : Ent) : AFn Try.prog F_key_Compare [.agg #[.int .i64 x.b, .int .i64 x.d, .int .i64 x.s], .agg #[.int .i64 y.b, .int .i64 y.d, .int .i64 y.s]] H fun u H' => u = .int .i64 (keyC x y) ∧ H' = H := by
  refine AFn.calm (fun H hs => ?_) rfl
  refine AFn.enter mixed ir_key_Compare_eq (by simp [ir_key_Compare]) fun hw => ?_
  simp (disch := omega) [-getElem?_pos, if_pos, if_neg, decide_eq_true, decide_eq_false, ir_key_Compare]
  refine AFnD.of (CompareL_spec _ _) ?_
  simp (disch := omega) [-getElem?_pos, if_pos, if_neg, decide_eq_true, decide_eq_false, ]
  refine AFnD.of (CompareI_spec _ _) ?_
  simp (disch := omega) [-getElem?_pos, if_pos, if_neg, decide_eq_true, decide_eq_false, ]
  refine AFnD.of (CompareL_spec _ _) ?_
  simp (disch := omega) [-getElem?_pos, if_pos, if_neg, decide_eq_true, decide_eq_false, ]
  refine AFnD.of (Or_int_spec (vw_new [cmpI x.b y.b, cmpI y.d x.d, cmpI x.s y.s] T_int) (by simp)) ?_
  simp (disch := omega) [-getElem?_pos, if_pos, if_neg, decide_eq_true, decide_eq_false, ]
  rfl
theorem Order_spec {H : AH} (x y : Ent) : AFn Try.prog F_key_order [x.val, y.val] H fun u H' => u = .int .i64 (ordC x y) ∧ H' = H := by
  refine AFn.calm (fun H hs => ?_) rfl
  refine AFn.enter mixed ir_key_order_eq (by simp [ir_key_order]) fun hw => ?_
  simp (disch := omega) [-getElem?_pos, if_pos, if_neg, decide_eq_true, decide_eq_false, ir_key_order, cut]
  refine AFnD.of (KeyCompare_spec x y) ?_
  simp (disch := omega) [-getElem?_pos, if_pos, if_neg, decide_eq_true, decide_eq_false, ]
  refine AFnD.of (CompareI_spec _ _) ?_
  simp (disch := omega) [-getElem?_pos, if_pos, if_neg, decide_eq_true, decide_eq_false, ]
  refine AFnD.of (Or_int_spec (vw_new [keyC x y, cmpI x.i y.i] T_int) (by simp)) ?_
  simp (disch := omega) [-getElem?_pos, if_pos, if_neg, decide_eq_true, decide_eq_false, ]
  rfl
theorem Less_spec {H : AH} (x y : Ent) : AFn Try.prog F_key_Less [x.val, y.val] H fun u H' => u = .bool (x.lt y) ∧ H' = H := by
  refine AFn.calm (fun H hs => ?_) rfl
  refine AFn.enter mixed ir_key_Less_eq (by simp [ir_key_Less]) fun hw => ?_
  simp (disch := omega) [-getElem?_pos, if_pos, if_neg, decide_eq_true, decide_eq_false, ir_key_Less, cut]
  refine AFn.pure (Order_spec x y) ?_
  simp (disch := omega) [-getElem?_pos, if_pos, if_neg, decide_eq_true, decide_eq_false, ]
  rfl
end Go.Proofs.Ytgecnmjohhmfjaa
