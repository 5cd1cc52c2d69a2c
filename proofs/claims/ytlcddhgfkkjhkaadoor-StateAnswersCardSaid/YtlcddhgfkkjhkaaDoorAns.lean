/-
  PLAIN LAW: a state that is done is an answer that may be, with its cost.
-/
import Derived.Test.YtlcddhgfkkjhkaaDoorState7
import Derived.Test.YtlcddhgfkkjhkaaDoorEval3
set_option linter.unusedSimpArgs false
set_option linter.unusedVariables false
namespace Go.Abs
open Go Go.Proofs.YtlcddhgfkkjhkaaDoor
def S (f : Nat → Int) (k : Nat) : Int := ((List.range k).map f).sum
theorem S_succ {f : Nat → Int} {k : Nat} : S f (k + 1) = S f k + f k := by unfold S; rw [List.range_succ, List.map_append, List.sum_append]; simp
theorem S_congr {f g : Nat → Int} : ∀ {k : Nat}, (∀ i, i < k → f i = g i) → S f k = S g k
  | 0, _ => rfl
  | k + 1, h => by rw [S_succ, S_succ, S_congr fun i hi => h i (by omega), h k (by omega)]
theorem map_getD {f : Int → Int} {X : List Int} : (List.range X.length).map (fun i => f (X.getD i 0)) = X.map f := by
  apply List.ext_getElem (by simp)
  intro i h1 h2
  simp at h1
  simp [List.getD_eq_getElem?_getD, List.getElem?_eq_getElem h1]
theorem rises_snoc {n a : Int} : ∀ {l : List Int} {last : Int}, Rises last n l → (∀ y ∈ l, y < a) → last < a → a < n → Rises last n (l ++ [a])
  | [], last, _, _, h1, h2 => ⟨h1, h2, trivial⟩
  | b :: l, last, ⟨q1, q2, q3⟩, hl, h1, h2 => ⟨q1, q2, rises_snoc q3 (fun y hy => hl y (by simp [hy])) (hl b (by simp)) h2⟩
theorem onesL_mem {P : List Int} : ∀ {k : Nat}, ∀ y ∈ onesL P k, 0 ≤ y ∧ y < k
  | 0, y, hy => by simp [onesL] at hy
  | k + 1, y, hy => by
    rw [onesL_succ] at hy
    split at hy
    · rcases List.mem_append.1 hy with h | h
      · have := onesL_mem (P := P) (k := k) y h; omega
      · simp at h; omega
    · have := onesL_mem (P := P) (k := k) y hy; omega
theorem onesL_rises {P : List Int} {n : Nat} : ∀ {k : Nat}, k ≤ n → Rises (-1) n (onesL P k)
  | 0, _ => by simp [onesL, Rises]
  | k + 1, h => by
    rw [onesL_succ]
    split
    · exact rises_snoc (onesL_rises (by omega)) (fun y hy => by have := onesL_mem y hy; omega) (by omega) (by omega)
    · exact onesL_rises (by omega)
theorem onesL_app {P : List Int} {d : Int} : ∀ {k : Nat}, k ≤ P.length → onesL (P ++ [d]) k = onesL P k
  | 0, _ => rfl
  | k + 1, h => by
    rw [onesL_succ, onesL_succ, onesL_app (by omega)]
    have : (P ++ [d]).getD k 0 = P.getD k 0 := by
      rw [List.getD_eq_getElem?_getD, List.getD_eq_getElem?_getD, List.getElem?_append_left (by omega)]
    rw [this]
def onesP (P : List Int) : List Int := onesL P P.length
theorem onesP_snoc {P : List Int} {d : Int} : onesP (P ++ [d]) = if d = 1 then onesP P ++ [(P.length : Int)] else onesP P := by
  unfold onesP
  rw [List.length_append, List.length_singleton, onesL_succ, onesL_app (Nat.le_refl _)]
  have : (P ++ [d]).getD P.length 0 = d := by
    rw [List.getD_eq_getElem?_getD, List.getElem?_append_right (Nat.le_refl _)]; simp
  rw [this]
theorem getD_snoc {P : List Int} {d : Int} {i : Nat} (h : i < P.length) : (P ++ [d]).getD i 0 = P.getD i 0 := by
  rw [List.getD_eq_getElem?_getD, List.getD_eq_getElem?_getD, List.getElem?_append_left h]
theorem getD_last {P : List Int} {d : Int} : (P ++ [d]).getD P.length 0 = d := by
  rw [List.getD_eq_getElem?_getD, List.getElem?_append_right (Nat.le_refl _)]; simp
theorem valN_eq {x : InstD} {k : Nat} : x.valN k = x.val (k : Int) := by simp [InstD.valN, InstD.val]
theorem wtN_eq {x : InstD} {k : Nat} : x.wtN k = x.wt (k : Int) := by simp [InstD.wtN, InstD.wt]
theorem setN_eq {x : InstD} {k : Nat} : x.setN k = x.setE (k : Int) := by simp [InstD.setN, InstD.setE]
theorem costN_eq {x : InstD} {i : Nat} {d : Int} : x.costN i d.toNat = x.costE (i : Int) d := by simp [InstD.costN, InstD.costE]
theorem setT_get {B : List Bool} {i : Int} {j : Nat} (hj : j < B.length) (hi : 0 ≤ i) : ((setT B i).getD j false = true) ↔ (B.getD j false = true ∨ (j : Int) = i) := by
  unfold setT
  split
  · rename_i h
    rw [List.getD_eq_getElem?_getD, List.getElem?_set]
    by_cases hji : i.toNat = j
    · rw [if_pos hji, if_pos (by omega)]
      simp; right; omega
    · rw [if_neg hji, ← List.getD_eq_getElem?_getD]
      constructor
      · exact .inl
      · rintro (h1 | h1)
        · exact h1
        · omega
  · rename_i h
    constructor
    · exact .inl
    · rintro (h1 | h1)
      · exact h1
      · omega
theorem fold_get : ∀ {E : List Int} {B : List Bool} {j : Nat}, j < B.length → (∀ e ∈ E, 0 ≤ e) → ((E.foldl setT B).getD j false = true ↔ (B.getD j false = true ∨ (j : Int) ∈ E))
  | [], B, j, _, _ => by simp
  | a :: E, B, j, hj, hE => by
    rw [List.foldl_cons, fold_get (by rw [setT_len]; exact hj) (fun e he => hE e (by simp [he])), setT_get hj (hE a (by simp)), List.mem_cons, or_assoc]
structure Seen (P : List Int) (B : List Bool) : Prop where
  nodup : P.Nodup
  range : ∀ y ∈ P, 0 ≤ y ∧ y < B.length
  count : B.count true = P.length
  has : ∀ j, j < B.length → (B.getD j false = true ↔ (j : Int) ∈ P)
theorem Seen.step {P : List Int} {B : List Bool} {d : Int} (h : Seen P B) (h0 : 0 ≤ d) (h1 : d < B.length) (hf : B.getD d.toNat false = false) : Seen (P ++ [d]) (setT B d) := by
  have hd : d ∉ P := fun hm => by
    have := (h.has d.toNat (by omega)).2 (by rw [Int.toNat_of_nonneg h0]; exact hm)
    rw [hf] at this
    exact absurd this (by simp)
  refine ⟨?_, fun y hy => ?_, ?_, fun j hj => ?_⟩
  · rw [List.nodup_append]
    refine ⟨h.nodup, by simp, fun a ha b hb => ?_⟩
    simp at hb
    subst hb
    intro e
    subst e
    exact hd ha
  · rw [setT_len]
    rcases List.mem_append.1 hy with hy | hy
    · exact h.range y hy
    · simp at hy; omega
  · unfold setT
    rw [if_pos ⟨h0, h1⟩, count_set (by omega) hf, h.count]
    simp
  · rw [setT_len] at hj
    rw [setT_get hj h0, h.has j hj, List.mem_append, List.mem_singleton]
theorem Seen.full {P : List Int} {B : List Bool} {n : Nat} (h : Seen P B) (hn : B.length = n) (hp : P.length = n) : orderB P n = true := by
  rw [orderB_iff]
  refine ⟨hp, fun k hk => ?_⟩
  have hall := all_count.1 (by rw [h.count, hp, hn] : B.count true = B.length) k (by omega)
  have hm := (h.has k (by omega)).1 hall
  have h1 := List.nodup_iff_count.1 h.nodup (k : Int)
  have h2 := count_mem.1 hm
  omega
structure AnsI (x : InstD) (s : StD) : Prop where
  left : x.kind = 0 → s.left = x.cap - ((onesP s.path).map x.wt).sum
  worth : x.kind = 0 → s.cost = -((onesP s.path).map x.val).sum
  sets : x.kind = 3 → s.cost = ((onesP s.path).map fun k => (x.setE k).cost).sum
  cov : x.kind = 3 → ∀ j, j < s.used.length → (s.used.getD j false = true ↔ ∃ i ∈ onesP s.path, (j : Int) ∈ (x.setE i).elems)
  row : x.kind = 1 → s.cost = S (fun i => x.costE (i : Int) (s.path.getD i 0)) s.path.length
  rowsU : x.kind = 1 → Seen s.path s.used
  tour : x.kind = 2 → s.cost = S (fun i => x.costE ((0 :: s.path).getD i 0) (s.path.getD i 0)) s.path.length + (if s.path.length + 1 = x.cost.length then x.costE s.pos 0 else 0)
  place : x.kind = 2 → s.pos = (0 :: s.path).getD s.path.length 0
  tourU : x.kind = 2 → Seen (0 :: s.path) s.used
theorem seen_nil {n : Nat} : Seen [] (List.replicate n false) := by
  refine ⟨List.nodup_nil, by simp, by rw [count_replicate]; rfl, fun j hj => ?_⟩
  rw [List.getD_eq_getElem?_getD, List.getElem?_replicate]
  split <;> simp
theorem used_len {x : InstD} {s : StD} (hok : x.Ok) (hs : StOk x s) (h : x.kind = 1 ∨ x.kind = 2) : s.used.length = x.cost.length := by
  have := size_zero hok h
  have := hs.used
  omega
theorem ans_start {x : InstD} (hok : x.Ok) : AnsI x x.start := by
  have hp : x.start.path = [] := rfl
  have hc : x.start.cost = 0 := rfl
  have h0 : onesP [] = [] := rfl
  refine ⟨fun h => ?_, fun h => ?_, fun h => ?_, fun h j hj => ?_, fun h => ?_, fun h => ?_, fun h => ?_, fun h => ?_, fun h => ?_⟩
  · rw [hp, h0]; simp [InstD.start]
  · rw [hp, h0, hc]; simp
  · rw [hp, h0, hc]; simp
  · rw [hp, h0]
    unfold InstD.start
    simp only [if_neg (show ¬ x.kind = 2 by omega)]
    rw [List.getD_eq_getElem?_getD, List.getElem?_replicate]
    split <;> simp
  · rw [hp, hc]; rfl
  · rw [hp]
    unfold InstD.start
    simp only [if_neg (show ¬ x.kind = 2 by omega)]
    exact seen_nil
  · rw [hp, hc]
    have hb := hok.bare h 0
    have : S (fun i => x.costE ((0 :: ([] : List Int)).getD i 0) (([] : List Int).getD i 0)) ([] : List Int).length = 0 := rfl
    rw [this]
    split
    · rename_i h1
      have h1' : 0 < x.cost.length := by simp at h1; omega
      have hb' := hb h1'
      have hp0 : x.start.pos = 0 := rfl
      rw [hp0]
      unfold InstD.costE
      have : (0 : Int).toNat = 0 := rfl
      rw [this, List.getD_eq_getElem?_getD (l := x.cost), List.getElem?_eq_getElem h1']
      simp only [Option.getD_some]
      omega
    · rfl
  · rfl
  · rw [hp]
    have hl := hok.few.sq (.inr h)
    unfold InstD.start
    simp only [if_pos h]
    exact seen_nil.step (by omega) (by rw [List.length_replicate]; omega) (by rw [List.getD_eq_getElem?_getD, List.getElem?_replicate]; split <;> rfl)
theorem sum_snoc {l : List Int} {a : Int} : (l ++ [a]).sum = l.sum + a := by rw [List.sum_append]; simp
theorem S_path {f g : Nat → Int} {k : Nat} {a : Int} (h : ∀ i, i < k → f i = g i) (ha : f k = a) : S f (k + 1) = S g k + a := by rw [S_succ, S_congr h, ha]
theorem ans_apply {x : InstD} {s : StD} {d : Int} (hok : x.Ok) (hs : StOk x s) (ha : AnsI x s) (hd : d ∈ x.moves s) : AnsI x (x.applyS s d) := by
  have hk0 := hok.kind0
  have hk4 := hok.kind4
  by_cases k1 : x.kind = 1
  · obtain ⟨g1, g2, g3, g4⟩ := moves_tour (.inl k1) hd
    have he : x.applyS s d = ⟨s.path ++ [d], s.cost + x.costN s.path.length d.toNat, s.left, s.pos, setT s.used d⟩ := by unfold InstD.applyS; rw [if_pos k1]
    rw [he]
    refine ⟨by omega, by omega, by omega, by omega, fun _ => ?_, fun _ => (ha.rowsU k1).step g2 g3 g4, by omega, by omega, by omega⟩
    simp only [List.length_append, List.length_singleton]
    rw [costN_eq, ha.row k1]
    refine (S_path (fun i hi => ?_) ?_).symm
    · rw [getD_snoc hi]
    · rw [getD_last]
  · by_cases k2 : x.kind = 2
    · obtain ⟨g1, g2, g3, g4⟩ := moves_tour (.inr k2) hd
      have hul := used_len hok hs (.inr k2)
      obtain ⟨t1, t2, t3⟩ := hs.tour k2
      have hct : (setT s.used d).count true = s.path.length + 2 := by
        unfold setT
        rw [if_pos ⟨g2, g3⟩, count_set (by omega) g4, t3]
      have hnd : ¬ s.path.length + 1 = x.cost.length := by
        unfold InstD.done at g1
        rw [if_neg (show ¬ x.kind = 0 by omega), if_neg k1] at g1
        have : ¬ s.used.count true = s.used.length := by simpa using g1
        omega
      have hsu : Seen (0 :: (s.path ++ [d])) (setT s.used d) := (ha.tourU k2).step g2 g3 g4
      have hd0 : ((0 : Int) :: (s.path ++ [d])).getD (s.path.length + 1) 0 = d := by
        rw [List.getD_cons_succ, getD_last]
      have hcost : s.cost + x.costN s.pos.toNat d.toNat = S (fun i => x.costE ((0 :: (s.path ++ [d])).getD i 0) ((s.path ++ [d]).getD i 0)) (s.path.length + 1) := by
        have hpos := ha.place k2
        have hto := ha.tour k2
        rw [if_neg hnd, Int.add_zero] at hto
        rw [hto]
        refine (S_path (fun i hi => ?_) ?_).symm
        · rw [getD_snoc hi]
          congr 1
          cases i with
          | zero => rfl
          | succ i => rw [List.getD_cons_succ, List.getD_cons_succ, getD_snoc (by omega)]
        · rw [getD_last]
          have : ((0 : Int) :: (s.path ++ [d])).getD s.path.length 0 = s.pos := by
            rw [hpos]
            cases hl : s.path.length with
            | zero => rfl
            | succ i => rw [List.getD_cons_succ, List.getD_cons_succ, getD_snoc (by omega)]
          rw [this]
          rfl
      have he : x.applyS s d = x.wentS ⟨s.path ++ [d], s.cost, s.left, s.pos, s.used⟩ d := by unfold InstD.applyS; rw [if_neg k1, if_pos k2]
      have hdn : x.done ⟨s.path ++ [d], s.cost + x.costN s.pos.toNat d.toNat, s.left, d, setT s.used d⟩ = decide (s.path.length + 2 = x.cost.length) := by
        unfold InstD.done
        rw [if_neg (by omega), if_neg k1]
        simp only [hct, setT_len, hul]
      rw [he]
      unfold InstD.wentS
      simp only
      rw [hdn]
      by_cases hf : s.path.length + 2 = x.cost.length
      · rw [if_pos (by simpa using hf)]
        refine ⟨by omega, by omega, by omega, by omega, by omega, by omega, fun _ => ?_, fun _ => ?_, fun _ => hsu⟩
        · simp only [List.length_append, List.length_singleton]
          rw [if_pos (by omega), hcost]
          rfl
        · simp only [List.length_append, List.length_singleton]
          exact hd0.symm
      · rw [if_neg (by simpa using hf)]
        refine ⟨by omega, by omega, by omega, by omega, by omega, by omega, fun _ => ?_, fun _ => ?_, fun _ => hsu⟩
        · simp only [List.length_append, List.length_singleton]
          rw [if_neg (by omega), hcost, Int.add_zero]
        · simp only [List.length_append, List.length_singleton]
          exact hd0.symm
    · by_cases hd1 : d = 1
      · by_cases k0 : x.kind = 0
        · have he : x.applyS s d = ⟨s.path ++ [d], s.cost - x.valN s.path.length, s.left - x.wtN s.path.length, s.pos, s.used⟩ := by
            unfold InstD.applyS InstD.choseS; rw [if_neg k1, if_neg k2, if_pos hd1, if_pos k0]
          rw [he]
          refine ⟨fun _ => ?_, fun _ => ?_, by omega, by omega, by omega, by omega, by omega, by omega, by omega⟩
          · simp only
            rw [onesP_snoc, if_pos hd1, List.map_append, List.map_singleton, sum_snoc, ha.left k0, wtN_eq]
            omega
          · simp only
            rw [onesP_snoc, if_pos hd1, List.map_append, List.map_singleton, sum_snoc, ha.worth k0, valN_eq]
            omega
        · have k3 : x.kind = 3 := by omega
          have he : x.applyS s d = ⟨s.path ++ [d], s.cost + (x.setN s.path.length).cost, s.left, s.pos, (x.setN s.path.length).elems.foldl setT s.used⟩ := by
            unfold InstD.applyS InstD.choseS; rw [if_neg k1, if_neg k2, if_pos hd1, if_neg k0]
          rw [he]
          refine ⟨by omega, by omega, fun _ => ?_, fun _ j hj => ?_, by omega, by omega, by omega, by omega, by omega⟩
          · simp only
            rw [onesP_snoc, if_pos hd1, List.map_append, List.map_singleton, sum_snoc, ha.sets k3, setN_eq]
          · simp only at hj ⊢
            rw [fold_len] at hj
            have hE : ∀ e ∈ (x.setN s.path.length).elems, 0 ≤ e := by
              intro e hme
              unfold InstD.setN at hme
              rw [List.getD_eq_getElem?_getD] at hme
              cases hg : x.sets[s.path.length]? with
              | none => rw [hg] at hme; simp at hme
              | some S0 =>
                rw [hg] at hme
                obtain ⟨hlt, hge⟩ := List.getElem?_eq_some_iff.1 hg
                have hr := hok.shaped.sets _ hlt
                rw [hge] at hr
                have := rises_range hr e hme
                omega
            rw [fold_get hj hE, ha.cov k3 j hj, onesP_snoc, if_pos hd1, setN_eq]
            constructor
            · rintro (⟨i, h1, h2⟩ | h)
              · exact ⟨i, List.mem_append_left _ h1, h2⟩
              · exact ⟨_, List.mem_append_right _ (by simp), h⟩
            · rintro ⟨i, h1, h2⟩
              rcases List.mem_append.1 h1 with h1 | h1
              · exact .inl ⟨i, h1, h2⟩
              · simp at h1
                subst h1
                exact .inr h2
      · have he : x.applyS s d = ⟨s.path ++ [d], s.cost, s.left, s.pos, s.used⟩ := by
          unfold InstD.applyS; rw [if_neg k1, if_neg k2, if_neg hd1]
        have ho : onesP (s.path ++ [d]) = onesP s.path := by rw [onesP_snoc, if_neg hd1]
        rw [he]
        refine ⟨fun h => ?_, fun h => ?_, fun h => ?_, fun h => ?_, by omega, by omega, by omega, by omega, by omega⟩
        · simp only; rw [ho]; exact ha.left h
        · simp only; rw [ho]; exact ha.worth h
        · simp only; rw [ho]; exact ha.sets h
        · simp only; rw [ho]; exact ha.cov h
theorem parts_map {f : Int → Int} {x : InstD} {X : List Int} (h : ∀ i, x.part X i = f (X.getD i 0)) : x.parts X = X.map f := by
  unfold InstD.parts
  rw [← map_getD]
  exact List.map_congr_left fun i _ => h i
theorem done_answer {x : InstD} {s : StD} (hok : x.Ok) (hs : StOk x s) (ha : AnsI x s) (hd : x.done s = true) : x.may (x.answer s) = true ∧ x.costOf (x.answer s) = s.cost := by
  have hk0 := hok.kind0
  have hk4 := hok.kind4
  have hc := InstD.check_ok.2 hok
  have key : ∀ X, x.answer s = X → x.may X = true → (if x.kind = 0 then -(x.parts X).sum else (x.parts X).sum) = s.cost → x.may (x.answer s) = true ∧ x.costOf (x.answer s) = s.cost := by
    intro X h1 h2 h3
    rw [h1]
    refine ⟨h2, ?_⟩
    unfold InstD.costOf InstD.value
    rw [if_pos hc, if_pos h2]
    exact h3
  unfold InstD.done at hd
  by_cases k0 : x.kind = 0
  · rw [if_pos k0] at hd
    have hl : s.path.length = x.items.length := by simpa using hd
    have hX : x.answer s = onesP s.path := by
      unfold InstD.answer InstD.done
      rw [if_pos k0, if_pos hd, if_neg (by omega), if_neg (by omega)]
      rfl
    refine key _ hX ?_ ?_
    · unfold InstD.may
      rw [if_pos k0]
      have h1 : Rises (-1) x.items.length (onesP s.path) := onesL_rises (by omega)
      rw [tr_true h1]
      have := ha.left k0
      have := (hs.items k0).2.1
      simp only [Bool.true_and, decide_eq_true_eq]
      omega
    · rw [if_pos k0, ha.worth k0, parts_map (f := x.val)]
      intro i
      unfold InstD.part
      rw [if_pos k0]
  · rw [if_neg k0] at hd
    by_cases k1 : x.kind = 1
    · rw [if_pos k1] at hd
      have hl : s.path.length = x.cost.length := by simpa using hd
      have hul := used_len hok hs (.inl k1)
      have hX : x.answer s = s.path := by
        unfold InstD.answer InstD.done
        rw [if_neg k0, if_pos k1, if_pos hd, if_pos k1]
      refine key _ hX ?_ ?_
      · unfold InstD.may
        rw [if_neg k0, if_pos k1]
        exact (ha.rowsU k1).full hul hl
      · rw [if_neg k0, ha.row k1]
        show (List.map _ _).sum = (List.map _ _).sum
        congr 1
        refine List.map_congr_left fun i _ => ?_
        unfold InstD.part
        rw [if_neg k0, if_pos k1]
    · rw [if_neg k1] at hd
      have hd' : s.used.count true = s.used.length := by simpa using hd
      by_cases k2 : x.kind = 2
      · have hul := used_len hok hs (.inr k2)
        have hct := (hs.tour k2).2.2
        have hX : x.answer s = 0 :: s.path := by
          unfold InstD.answer InstD.done
          rw [if_neg k0, if_neg k1, if_pos hd, if_neg k1, if_pos k2]
        refine key _ hX ?_ ?_
        · unfold InstD.may
          rw [if_neg k0, if_neg k1, if_pos k2, (ha.tourU k2).full hul (by simp; omega)]
          rfl
        · rw [if_neg k0, ha.tour k2, if_pos (by omega)]
          unfold InstD.parts
          rw [List.length_cons, show (List.map (x.part (0 :: s.path)) (List.range (s.path.length + 1))).sum = S (x.part (0 :: s.path)) (s.path.length + 1) from rfl]
          refine S_path (fun i hi => ?_) ?_
          · unfold InstD.part
            rw [if_neg k0, if_neg k1, if_pos k2, List.length_cons, Nat.mod_eq_of_lt (by omega), List.getD_cons_succ]
          · unfold InstD.part
            rw [if_neg k0, if_neg k1, if_pos k2, List.length_cons, Nat.mod_self, ← ha.place k2]
            rfl
      · have k3 : x.kind = 3 := by omega
        have hX : x.answer s = onesP s.path := by
          unfold InstD.answer InstD.done
          rw [if_neg k0, if_neg k1, if_pos hd, if_neg k1, if_neg k2]
          rfl
        have hu := hs.used
        have hcl : x.cost.length = 0 := by rcases hok.lean.sq with h | h | h <;> omega
        refine key _ hX ?_ ?_
        · unfold InstD.may
          have h1 : Rises (-1) x.sets.length (onesP s.path) := onesL_rises (by have := hs.sets k3; omega)
          rw [if_neg k0, if_neg k1, if_neg k2, tr_true h1, Bool.true_and]
          unfold InstD.cov
          rw [List.all_eq_true]
          intro e he
          have he' := List.mem_range.1 he
          obtain ⟨i, h2, h3⟩ := (ha.cov k3 e (by omega)).1 (all_count.1 hd' e (by omega))
          rw [List.any_eq_true]
          exact ⟨i, h2, by simpa using h3⟩
        · rw [if_neg k0, ha.sets k3, parts_map (f := fun k => (x.setE k).cost)]
          intro i
          unfold InstD.part
          rw [if_neg k0, if_neg k1, if_neg k2]
theorem stuck_cover {x : InstD} {s : StD} (hok : x.Ok) (hs : StOk x s) (ha : AnsI x s) (hd : x.done s = false) (hm : x.moves s = []) : x.kind = 3 := by
  have hk0 := hok.kind0
  have hk4 := hok.kind4
  unfold InstD.moves at hm
  rw [hd] at hm
  simp only [Bool.false_eq_true, if_false] at hm
  have free : freeL s.used = [] → s.used.count true = s.used.length := fun h => all_count.2 fun j hj => by
    cases hb : s.used.getD j false with
    | true => rfl
    | false =>
      have : (j : Int) ∈ freeL s.used := freeL_mem.2 ⟨by omega, by omega, by simpa using hb⟩
      rw [h] at this
      simp at this
  by_cases k0 : x.kind = 0
  · rw [if_pos k0] at hm
    split at hm <;> simp at hm
  · rw [if_neg k0] at hm
    by_cases k3 : x.kind = 3
    · exact k3
    · rw [if_neg k3] at hm
      have hc := free hm
      unfold InstD.done at hd
      rw [if_neg k0] at hd
      by_cases k1 : x.kind = 1
      · rw [if_pos k1] at hd
        have := used_len hok hs (.inl k1)
        have := (ha.rowsU k1).count
        have : ¬ s.path.length = x.cost.length := by simpa using hd
        omega
      · rw [if_neg k1] at hd
        have : ¬ s.used.count true = s.used.length := by simpa using hd
        omega
theorem done_moves {x : InstD} {s : StD} (hd : x.done s = true) : x.moves s = [] := by
  unfold InstD.moves; rw [hd]; rfl
theorem path_le {x : InstD} {s : StD} {m : Nat} (hok : x.Ok) (hs : StOk x s) (h1 : x.items.length ≤ m) (h2 : x.cost.length ≤ m) (h3 : x.sets.length ≤ m) : s.path.length ≤ m := by
  have hk0 := hok.kind0
  have hk4 := hok.kind4
  by_cases k0 : x.kind = 0
  · have := (hs.items k0).1; omega
  · by_cases k1 : x.kind = 1
    · have := hs.rows k1; omega
    · by_cases k2 : x.kind = 2
      · have := hs.tour k2
        have := used_len hok hs (.inr k2)
        have := List.count_le_length (a := true) (l := s.used)
        omega
      · have := hs.sets (by omega); omega
end Go.Abs
