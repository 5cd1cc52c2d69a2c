/-
  PLAIN LAW: all states of an instance, each ahead of those below it; how many there are.
-/
import Derived.Test.YtlcddhgfkkjhkaaDoorTree1
import Derived.Test.YtlcddhgfkkjhkaaDoorSeen
import Derived.Test.YtlcddhgfkkjhkaaDoorSzP
set_option linter.unusedSimpArgs false
set_option linter.unusedVariables false
namespace Go.Abs
open Go Go.Proofs.YtlcddhgfkkjhkaaDoor
def InstD.decs (x : InstD) : Nat := if x.kind = 0 then x.items.length else if x.kind = 1 ∨ x.kind = 2 then x.cost.length else x.sets.length
theorem path_decs {x : InstD} {s : StD} (hok : x.Ok) (hs : StOk x s) : s.path.length ≤ x.decs := by
  have hk0 := hok.kind0
  have hk4 := hok.kind4
  unfold InstD.decs
  by_cases k0 : x.kind = 0
  · rw [if_pos k0]; exact (hs.items k0).1
  · rw [if_neg k0]
    by_cases k1 : x.kind = 1
    · rw [if_pos (.inl k1)]; exact hs.rows k1
    · by_cases k2 : x.kind = 2
      · rw [if_pos (.inr k2)]
        have := hs.tour k2
        have := used_len hok hs (.inr k2)
        have := List.count_le_length (a := true) (l := s.used)
        omega
      · rw [if_neg (by omega)]; exact hs.sets (by omega)
theorem moves_path {x : InstD} {s : StD} {d : Int} (hok : x.Ok) (hs : StOk x s) (hd : d ∈ x.moves s) : s.path.length < x.decs := by
  have h1 := path_decs hok (apply_ok hok hs hd)
  rw [apply_path] at h1
  simp at h1
  omega
def kids (x : InstD) (s : StD) : List StD := (x.moves s).map (x.applyS s)
def trL (x : InstD) : Nat → StD → List StD
  | 0, s => [s]
  | d + 1, s => s :: (kids x s).flatMap (trL x d)
def treeOf (x : InstD) (s : StD) : List StD := trL x (x.decs - s.path.length) s
theorem kids_ok {x : InstD} {s t : StD} (hok : x.Ok) (hs : StOk x s) (ht : t ∈ kids x s) : StOk x t ∧ t.path.length = s.path.length + 1 ∧ s.path.length < x.decs := by
  obtain ⟨d, hd, rfl⟩ := List.mem_map.1 ht
  exact ⟨apply_ok hok hs hd, by rw [apply_path]; simp, moves_path hok hs hd⟩
theorem flatMap_congr' {α β : Type} {l : List α} {f g : α → List β} (h : ∀ a ∈ l, f a = g a) : l.flatMap f = l.flatMap g := by
  induction l with
  | nil => rfl
  | cons a l ih => rw [List.flatMap_cons, List.flatMap_cons, h a (by simp), ih fun b hb => h b (by simp [hb])]
theorem treeOf_eq {x : InstD} {s : StD} (hok : x.Ok) (hs : StOk x s) : treeOf x s = s :: (kids x s).flatMap (treeOf x) := by
  have hf : ∀ d, x.decs - s.path.length = d + 1 → (kids x s).flatMap (trL x d) = (kids x s).flatMap (treeOf x) := fun d hd => flatMap_congr' fun t ht => by
    obtain ⟨_, h2, h3⟩ := kids_ok hok hs ht
    unfold treeOf
    rw [show x.decs - t.path.length = d by omega]
  cases hd : x.decs - s.path.length with
  | zero =>
    have : kids x s = [] := by
      cases hk : kids x s with
      | nil => rfl
      | cons t r =>
        obtain ⟨_, _, h3⟩ := kids_ok hok hs (by rw [hk]; simp : t ∈ kids x s)
        omega
    rw [this]
    unfold treeOf
    rw [hd]; rfl
  | succ d =>
    conv => lhs; unfold treeOf
    rw [hd, trL, hf d hd]
theorem treeOf_ne {x : InstD} {s : StD} (hok : x.Ok) (hs : StOk x s) : treeOf x s ≠ [] := by rw [treeOf_eq hok hs]; simp
def allS (x : InstD) : List StD := treeOf x x.start
theorem stk_tree {x : InstD} (hok : x.Ok) : ∀ k, (stkN x k).flatMap (treeOf x) = (allS x).drop k
  | 0 => by simp [stkN, allS]
  | k + 1 => by
    have ih := stk_tree hok k
    have ho := stk_ok hok k
    simp only [stkN]
    cases hst : stkN x k with
    | nil =>
      rw [hst] at ih
      have : (allS x).length ≤ k := by
        have := congrArg List.length ih
        simp at this; omega
      simp only [List.flatMap_nil]
      rw [List.drop_eq_nil_of_le (by omega)]
    | cons s r =>
      rw [hst] at ih ho
      rw [List.flatMap_cons, treeOf_eq hok (ho s (by simp)), List.cons_append] at ih
      simp only
      rw [List.flatMap_append]
      show (kids x s).flatMap (treeOf x) ++ r.flatMap (treeOf x) = _
      have := congrArg List.tail ih
      rw [List.tail_cons, List.tail_drop] at this
      exact this
theorem stk_nil {x : InstD} (hok : x.Ok) {k : Nat} : stkN x k = [] ↔ (allS x).length ≤ k := by
  have h := stk_tree hok k
  have ho := stk_ok hok k
  constructor
  · intro h0
    rw [h0] at h
    have := congrArg List.length h
    simp at this; omega
  · intro hl
    rw [List.drop_eq_nil_of_le hl] at h
    cases hst : stkN x k with
    | nil => rfl
    | cons s r =>
      rw [hst] at h ho
      rw [List.flatMap_cons] at h
      exact absurd (List.append_eq_nil_iff.1 h).1 (treeOf_ne hok (ho s (by simp)))
theorem at_all {x : InstD} (hok : x.Ok) {k : Nat} (hk : k < (allS x).length) : atN x k = (allS x)[k] := by
  have h := stk_tree hok k
  have ho := stk_ok hok k
  cases hst : stkN x k with
  | nil => exact absurd ((stk_nil hok).1 hst) (by omega)
  | cons s r =>
    rw [hst] at h ho
    rw [List.flatMap_cons, treeOf_eq hok (ho s (by simp)), List.cons_append, ← List.getElem_cons_drop hk] at h
    unfold atN
    rw [hst]
    exact (List.cons.inj h).1
theorem tree_ind {x : InstD} (hok : x.Ok) {P : StD → Prop} (hP : ∀ s d, StOk x s → P s → d ∈ x.moves s → P (x.applyS s d)) : ∀ (d : Nat) (s : StD), StOk x s → P s → ∀ t ∈ trL x d s, StOk x t ∧ P t
  | 0, s, hs, hp, t, ht => by simp [trL] at ht; subst ht; exact ⟨hs, hp⟩
  | d + 1, s, hs, hp, t, ht => by
    rw [trL] at ht
    rcases List.mem_cons.1 ht with rfl | ht
    · exact ⟨hs, hp⟩
    · obtain ⟨u, hu, ht⟩ := List.mem_flatMap.1 ht
      obtain ⟨m, hm, rfl⟩ := List.mem_map.1 hu
      exact tree_ind hok hP d _ (apply_ok hok hs hm) (hP s m hs hp hm) t ht
theorem all_ok {x : InstD} (hok : x.Ok) {s : StD} (h : s ∈ allS x) : StOk x s ∧ UsedI x s :=
  tree_ind hok (P := UsedI x) (fun s d hs hp hd => used_apply hp hd) _ _ (start_ok hok) (used_start hok) s h
def gdF (f : Nat → Nat) : Nat → Nat → Nat
  | _, 0 => 1
  | k, d + 1 => 1 + f k * gdF f (k + 1) d
theorem gdF_smF (f : Nat → Nat) : ∀ (d k : Nat), smF f (k + d) + prd f k = smF f k + prd f k * gdF f k d
  | 0, k => by simp [gdF]
  | d + 1, k => by
    have ih := gdF_smF f d (k + 1)
    have h1 : prd f (k + 1) = prd f k * f k := rfl
    have h2 : smF f (k + 1) = smF f k + prd f (k + 1) := rfl
    rw [show k + (d + 1) = k + 1 + d by omega]
    rw [gdF, Nat.mul_add, Nat.mul_one, ← Nat.mul_assoc, ← h1]
    omega
theorem gdF_all (f : Nat → Nat) (n : Nat) : gdF f 0 n = smF f n := by
  have := gdF_smF f n 0
  simp [prd, smF] at this
  omega
theorem free_len {B : List Bool} : (freeL B).length = B.length - B.count true := by
  have h1 : ∀ (B : List Bool), ((List.range B.length).filter fun k => !B.getD k false).length = B.count false := by
    intro B
    induction B with
    | nil => rfl
    | cons b B ih =>
      rw [List.length_cons, List.range_succ_eq_map, List.filter_cons, List.filter_map]
      have : ((fun k => !(b :: B).getD k false) ∘ Nat.succ) = fun k => !B.getD k false := by funext k; rfl
      rw [this]
      cases b
      · simp
        simpa using ih
      · simp
        simpa using ih
  unfold freeL
  rw [List.length_map, h1]
  have h2 : B.count true + B.count false = B.length := by
    induction B with
    | nil => rfl
    | cons b B ih => cases b <;> simp <;> omega
  omega
theorem moves_few {x : InstD} {s : StD} (hok : x.Ok) (hs : StOk x s) (ha : UsedI x s) : (x.moves s).length ≤ szF x.kind x.decs s.path.length := by
  have hk0 := hok.kind0
  have hk4 := hok.kind4
  unfold szF
  by_cases h03 : x.kind = 0 ∨ x.kind = 3
  · rw [if_pos h03]
    unfold InstD.moves
    repeat' split
    all_goals first | (simp; done) | omega
  · rw [if_neg h03]
    show _ ≤ x.decs - s.path.length
    have hdec : x.decs = x.cost.length := by unfold InstD.decs; rw [if_neg (by omega), if_pos (by omega)]
    unfold InstD.moves
    split
    · simp
    · rw [if_neg (by omega), if_neg (by omega), free_len, hdec]
      by_cases k1 : x.kind = 1
      · have := used_len hok hs (.inl k1)
        have := (ha.rows k1).count
        omega
      · have := used_len hok hs (.inr (by omega))
        have := hs.tour (by omega)
        omega
theorem flat_len {α β : Type} {f : α → List β} {c : Nat} : ∀ {l : List α}, (∀ a ∈ l, (f a).length ≤ c) → (l.flatMap f).length ≤ l.length * c
  | [], _ => by simp
  | a :: l, h => by
    have h1 := h a (by simp)
    have h2 := flat_len (l := l) fun b hb => h b (by simp [hb])
    rw [List.flatMap_cons, List.length_append, List.length_cons, Nat.succ_mul]
    omega
theorem tr_len {x : InstD} (hok : x.Ok) : ∀ (d : Nat) (s : StD), StOk x s → UsedI x s → (trL x d s).length ≤ gdF (szF x.kind x.decs) s.path.length d
  | 0, s, _, _ => by simp [trL, gdF]
  | d + 1, s, hs, ha => by
    rw [trL, List.length_cons, gdF]
    have h1 := flat_len (l := kids x s) (f := trL x d) (c := gdF (szF x.kind x.decs) (s.path.length + 1) d) fun t ht => by
      obtain ⟨m, hm, rfl⟩ := List.mem_map.1 ht
      have := tr_len hok d _ (apply_ok hok hs hm) (used_apply ha hm)
      rw [show (x.applyS s m).path.length = s.path.length + 1 by rw [apply_path]; simp] at this
      exact this
    have h2 := moves_few hok hs ha
    have h3 : (kids x s).length = (x.moves s).length := by simp [kids]
    have h4 := Nat.mul_le_mul_right (gdF (szF x.kind x.decs) (s.path.length + 1) d) h2
    rw [h3] at h1
    omega
theorem all_len {x : InstD} (hok : x.Ok) : (allS x).length ≤ szT x.kind x.decs := by
  have h := tr_len hok (x.decs - x.start.path.length) _ (start_ok hok) (used_start hok)
  have h0 : x.start.path.length = 0 := rfl
  rw [h0, Nat.sub_zero, gdF_all] at h
  unfold allS treeOf szT
  rw [h0]
  exact h
theorem all_pos {x : InstD} (hok : x.Ok) : 0 < (allS x).length := List.length_pos_iff.2 (treeOf_ne hok (start_ok hok))
theorem all_small {x : InstD} (hok : x.Ok) {m : Nat} (hm : m ≤ 7) (h1 : x.items.length ≤ m) (h2 : x.cost.length < m) (h3 : x.sets.length ≤ m) : (allS x).length ≤ 2000 ∧ x.decs ≤ m := by
  have h := all_len hok
  have hd : x.decs ≤ m := by unfold InstD.decs; (repeat' split) <;> omega
  refine ⟨Nat.le_trans h ?_, hd⟩
  unfold szT szF
  by_cases h03 : x.kind = 0 ∨ x.kind = 3
  · rw [if_pos h03]
    refine Nat.le_trans (smF_mono _ (show x.decs ≤ 7 by omega)) (by decide)
  · rw [if_neg h03]
    have hdc : x.decs ≤ 6 := by
      have hk0 := hok.kind0
      have hk4 := hok.kind4
      unfold InstD.decs
      rw [if_neg (by omega), if_pos (by omega)]
      omega
    have : ∀ n, n ≤ 6 → smF (fun j => n - j) n ≤ 2000 := by decide
    exact this _ hdc
end Go.Abs
