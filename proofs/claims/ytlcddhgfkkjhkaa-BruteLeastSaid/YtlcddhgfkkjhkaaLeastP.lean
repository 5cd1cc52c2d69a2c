/-
  PLAIN LAW: what may be is one of the answers; the best one is no worse than any.
-/
import Derived.Test.YtlcddhgfkkjhkaaBest
import Derived.Test.YtlcddhgfkkjhkaaBrute9
set_option linter.unusedSimpArgs false
set_option linter.unusedVariables false
namespace Go.Abs
open Go
theorem mask_some {n : Int} : ∀ {l : List Int} {last : Int}, Rises last n l → ∃ r, maskL n last l = some r
  | [], last, _ => ⟨0, rfl⟩
  | a :: l, last, ⟨h1, h2, h3⟩ => by
    obtain ⟨r, hr⟩ := mask_some h3
    unfold maskL
    rw [if_neg (by omega), hr]
    exact ⟨_, rfl⟩
theorem erase_idx {y : Int} {left : List Int} : left.eraseIdx (left.idxOf y) = left.erase y := (List.erase_eq_eraseIdx_of_idxOf rfl).symm
theorem place_some : ∀ {X left : List Int}, X.Perm left → ∃ k, placeL left X = some k
  | [], left, _ => ⟨0, rfl⟩
  | y :: X, left, h => by
    have hy : y ∈ left := h.subset (.head _)
    have h2 : X.Perm (left.erase y) := by
      have := h.erase y
      rwa [List.erase_cons_head] at this
    obtain ⟨k, hk⟩ := place_some h2
    unfold placeL
    rw [if_pos hy, erase_idx, hk]
    exact ⟨_, rfl⟩
end Go.Abs
namespace Go.Proofs.Ytlcddhgfkkjhkaa
open Go Go.Abs
theorem restL_count {a n : Nat} {y : Int} : (restL a n).count y = if (a : Int) ≤ y ∧ y < n then 1 else 0 := by
  by_cases h : (a : Int) ≤ y ∧ y < n
  · rw [if_pos h]
    have hm : y ∈ restL a n := by
      unfold restL
      exact List.mem_map.2 ⟨(y - a).toNat, List.mem_range.2 (by omega), by omega⟩
    exact List.Nodup.count restL_nodup |>.trans (by rw [if_pos hm])
  · rw [if_neg h]
    refine List.count_eq_zero.2 fun hm => h ?_
    unfold restL at hm
    obtain ⟨i, hi, rfl⟩ := List.mem_map.1 hm
    have := List.mem_range.1 hi
    omega
theorem order_perm {X : List Int} {n : Nat} (h : orderB X n = true) : X.Perm (restL 0 n) := by
  obtain ⟨h1, h2⟩ := orderB_iff.1 h
  rw [List.perm_iff_count]
  intro y
  rw [restL_count]
  split
  · rename_i hy
    have := h2 y.toNat (by omega)
    rwa [show ((y.toNat : Nat) : Int) = y by omega] at this
  · rename_i hy
    refine List.count_eq_zero.2 fun hm => hy ?_
    have := order_range n h1 h2 y hm
    omega
theorem may_rank {x : InstD} {Y : List Int} (hE : x.countE = 0) (hm : x.may Y = true) : ∃ i, x.rank Y = some i := by
  unfold InstD.rank
  by_cases hs : x.kind = 0 ∨ x.kind = 3
  · obtain ⟨hok, N, hN, hn, hcn⟩ := count_sub hE hs
    rw [if_pos hs]
    refine mask_some ?_
    have hc := InstD.check_ok.2 hok
    unfold InstD.n
    rw [if_pos hc]
    unfold InstD.may at hm
    rcases hs with k0 | k3
    · rw [if_pos k0] at hm ⊢
      simp only [Bool.and_eq_true] at hm
      exact tr_iff.1 hm.1
    · rw [if_neg (by omega), if_neg (by omega), if_neg (by omega)] at hm ⊢
      simp only [Bool.and_eq_true] at hm
      exact tr_iff.1 hm.1
  · obtain ⟨hok, hf1, hf2, hcn, hcl⟩ := count_ord hE hs
    have k0 := hok.kind0
    have k4 := hok.kind4
    rw [if_neg hs]
    unfold InstD.may at hm
    rw [if_neg (by omega)] at hm
    unfold placeO
    by_cases k1 : x.kind = 1
    · rw [if_pos k1] at hm
      have hfx : fix1 x.kind = 0 := by unfold fix1; rw [if_neg (by omega)]
      have hl := (orderB_iff.1 hm).1
      rw [hfx, if_pos ⟨hl, by simp [restL]⟩]
      exact place_some (order_perm hm)
    · rw [if_neg k1, if_pos (by omega)] at hm
      simp only [Bool.and_eq_true, decide_eq_true_eq] at hm
      have hfx : fix1 x.kind = 1 := by unfold fix1; rw [if_pos (by omega)]
      rw [hfx] at hf1 ⊢
      have hl := (orderB_iff.1 hm.1).1
      have hp := order_perm hm.1
      cases Y with
      | nil => simp at hl; omega
      | cons y l =>
        have hy : y = 0 := by simpa using hm.2
        subst hy
        have h0 : restL 0 x.cost.length = 0 :: restL 1 x.cost.length := by
          unfold restL
          obtain ⟨m, hm⟩ : ∃ m, x.cost.length = m + 1 := ⟨x.cost.length - 1, by omega⟩
          rw [hm, Nat.sub_zero, List.range_succ_eq_map]
          simp
          intro a _; omega
        rw [if_pos ⟨hl, by simp [restL]⟩]
        rw [h0] at hp
        exact place_some (List.Perm.cons_inv hp)
theorem best_is {x : InstD} : ∀ {k : Nat} {Y : List Int} {c : Int}, bestK x k = some (Y, c) → x.valueE Y = 0 ∧ x.costOf Y = c
  | 0, Y, c, h => by cases h
  | k + 1, Y, c, h => by
    unfold bestK bestS at h
    split at h
    · rename_i hc
      cases h
      exact ⟨hc.1, rfl⟩
    · exact best_is h
theorem best_least {x : InstD} : ∀ {k j : Nat}, j < k → x.valueE (x.at j) = 0 → (bestK x k).isSome = true ∧ bC (bestK x k) ≤ x.costOf (x.at j)
  | 0, j, h, _ => by omega
  | k + 1, j, h, hv => by
    have hst : bestK x (k + 1) = bestS x (bestK x k) (x.at k) := rfl
    rw [hst]
    unfold bestS
    by_cases hjk : j = k
    · subst hjk
      split
      · exact ⟨rfl, Int.le_refl _⟩
      · rename_i hc
        have h2 : ¬ ((bestK x j).isNone = true ∨ x.costOf (x.at j) < ((bestK x j).map (·.2)).getD 0) := fun h => hc ⟨hv, h⟩
        have h3 : ¬ (bestK x j).isNone = true := fun h => h2 (.inl h)
        have h4 : ¬ x.costOf (x.at j) < bC (bestK x j) := fun h => h2 (.inr h)
        refine ⟨?_, by omega⟩
        cases hb : bestK x j with
        | none => rw [hb] at h3; simp at h3
        | some _ => rfl
    · obtain ⟨h1, h2⟩ := best_least (k := k) (j := j) (by omega) hv
      split
      · rename_i hc
        refine ⟨rfl, ?_⟩
        show x.costOf (x.at k) ≤ _
        rcases hc.2 with h3 | h3
        · cases hb : bestK x k with
          | none => rw [hb] at h1; cases h1
          | some _ => rw [hb] at h3; cases h3
        · have : x.costOf (x.at k) < bC (bestK x k) := h3
          omega
      · exact ⟨h1, h2⟩
theorem value_may {x : InstD} {Y : List Int} (h : x.valueE Y = 0) : x.check = 0 ∧ x.may Y = true := by
  unfold InstD.valueE at h
  split at h
  · rename_i hc
    split at h
    · rename_i hm; exact ⟨hc, hm⟩
    · cases h
  · rename_i hc; exact absurd h hc
theorem best_all {x : InstD} {C : Nat} {Y : List Int} (hE : x.countE = 0) (hC : x.count = (C : Int)) (h : x.valueE Y = 0) : (bestK x C).isSome = true ∧ bC (bestK x C) ≤ x.costOf Y := by
  obtain ⟨i, hi⟩ := may_rank hE (value_may h).2
  obtain ⟨h1, h2⟩ := rank_some hE hi
  have := best_least (x := x) (k := C) (j := i) (by omega) (by rw [h2]; exact h)
  rw [h2] at this
  exact this
theorem best_some {x : InstD} {C : Nat} (hE : x.countE = 0) (hC : x.count = (C : Int)) (h1 : 1 ≤ C) (hk : ¬ x.kind = 3) : (bestK x C).isSome = true := by
  have hv : x.valueE (x.at 0) = 0 := by
    unfold InstD.valueE
    by_cases hs : x.kind = 0 ∨ x.kind = 3
    · obtain ⟨hok, _⟩ := count_sub hE hs
      rw [if_pos (InstD.check_ok.2 hok), if_pos]
      have k0 : x.kind = 0 := by omega
      have hat : x.at 0 = [] := by unfold InstD.at; rw [if_pos hs]; rfl
      rw [hat]
      unfold InstD.may
      rw [if_pos k0, tr_true (show Rises (-1) x.items.length [] from trivial)]
      have := hok.small.cap.1
      simpa using this
    · obtain ⟨hok, hf1, hf2, hcn, hcl⟩ := count_ord hE hs
      have k0 := hok.kind0
      have k4 := hok.kind4
      rw [if_pos (InstD.check_ok.2 hok), if_pos]
      have hat : x.at 0 = restL 0 x.cost.length := by
        rw [← ordAt_first hf1]
        unfold InstD.at ordAt; rw [if_neg hs]
      have ho : orderB (restL 0 x.cost.length) x.cost.length = true := orderB_iff.2 ⟨by rw [restL_len]; rfl, fun k hk => by rw [restL_count, if_pos (by omega)]⟩
      rw [hat]
      unfold InstD.may
      rw [if_neg (by omega), ho]
      by_cases k1 : x.kind = 1
      · rw [if_pos k1]
      · rw [if_neg k1, if_pos (by omega)]
        have hl : 0 < x.cost.length := by have := hok.few.sq (.inr (by omega)); omega
        have : (restL 0 x.cost.length).getD 0 0 = 0 := by
          rw [List.getD_eq_getElem?_getD, List.getElem?_eq_getElem (by rw [restL_len]; omega)]
          simp [restL]
        rw [this]; rfl
  exact (best_least (k := C) (j := 0) (by omega) hv).1
end Go.Proofs.Ytlcddhgfkkjhkaa
