/-
  PLAIN LAW: all orders, one behind another, are the orders of the places.
-/
import Derived.Test.YtlcddhgfkkjhkaaLehmer
set_option linter.unusedSimpArgs false
set_option linter.unusedVariables false
namespace Go.Abs
/-- All orders that begin with some numbers. -/
def ordersL : Nat → List Int → List Int → List (List Int)
  | 0, head, _ => [head]
  | f + 1, head, left => left.flatMap fun y => ordersL f (head ++ [y]) (left.filter (· != y))

theorem range_mul (a b : Nat) : List.range (a * b) = (List.range a).flatMap fun j => (List.range b).map (j * b + ·) := by
  induction a with
  | zero => simp
  | succ a ih =>
    rw [Nat.succ_mul, List.range_add, ih, List.range_succ, List.flatMap_append]
    simp
theorem list_range (l : List Int) : l = (List.range l.length).map fun j => l.getD j 0 := by
  apply List.ext_getElem (by simp)
  intro i h1 h2
  simp [h1]
theorem filter_ne : ∀ {l : List Int} {j : Nat} (h : j < l.length), l.Nodup → l.filter (· != l[j]) = l.eraseIdx j
  | a :: l, 0, h, hn => by
    rw [List.nodup_cons] at hn
    simp only [List.getElem_cons_zero, List.eraseIdx_cons_zero, List.filter_cons]
    rw [if_neg (by simp), List.filter_eq_self]
    intro b hb
    simp
    exact fun e => hn.1 (e ▸ hb)
  | a :: l, j + 1, h, hn => by
    rw [List.nodup_cons] at hn
    have hj : j < l.length := by simpa using h
    have hne : a ≠ l[j] := fun e => hn.1 (e ▸ List.getElem_mem hj)
    simp only [List.getElem_cons_succ, List.eraseIdx_cons_succ, List.filter_cons]
    rw [if_pos (by simpa using hne), filter_ne hj hn.2]

theorem orders_eq : ∀ (f : Nat) {head left : List Int}, left.length = f → left.Nodup → ordersL f head left = (List.range (fac f)).map fun k => head ++ orderL f left k
  | 0, head, left, h, _ => by simp [ordersL, fac, orderL]
  | f + 1, head, left, h, hn => by
    have e1 : ordersL (f + 1) head left = (List.range (f + 1)).flatMap fun j => ordersL f (head ++ [left.getD j 0]) (left.filter (· != left.getD j 0)) := by
      show left.flatMap _ = _
      rw [← h]
      conv => lhs; rw [list_range left]
      rw [List.flatMap_map, ← list_range left]
    rw [e1]
    show _ = (List.range ((f + 1) * fac f)).map fun k => head ++ orderL (f + 1) left k
    rw [range_mul, List.map_flatMap]
    rw [List.flatMap_def, List.flatMap_def]
    congr 1
    apply List.map_congr_left
    intro j hj
    have hj' : j < left.length := by rw [h]; exact List.mem_range.1 hj
    have hg : left.getD j 0 = left[j] := by rw [List.getD_eq_getElem?_getD, List.getElem?_eq_getElem hj']; rfl
    have he : left.filter (· != left.getD j 0) = left.eraseIdx j := by rw [hg]; exact filter_ne hj' hn
    rw [he, orders_eq f (by rw [List.length_eraseIdx_of_lt hj']; omega) (List.Nodup.sublist (List.eraseIdx_sublist _ _) hn), List.map_map]
    apply List.map_congr_left
    intro i hi
    have hi' : i < fac f := List.mem_range.1 hi
    have hp := fac_pos f
    have h1 : (j * fac f + i) / fac f = j := by
      rw [Nat.mul_comm, Nat.mul_add_div hp, Nat.div_eq_of_lt hi', Nat.add_zero]
    have h2 : (j * fac f + i) % fac f = i := by
      rw [Nat.mul_comm, Nat.mul_add_mod, Nat.mod_eq_of_lt hi']
    cases left with
    | nil => simp at h
    | cons a l =>
      have hl : l.length = f := by simpa using h
      show _ = head ++ ((a :: l).getD ((j * fac f + i) / fac l.length) 0 :: orderL f ((a :: l).eraseIdx ((j * fac f + i) / fac l.length)) ((j * fac f + i) % fac l.length))
      rw [hl, h1, h2]
      simp
end Go.Abs
