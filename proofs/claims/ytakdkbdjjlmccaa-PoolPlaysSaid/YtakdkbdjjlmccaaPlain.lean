/-
  The plain law: the pool and the document's pool tell the same.
-/
import Derived.Test.YtakdkbdjjlmccaaRise
set_option linter.unusedSimpArgs false
set_option linter.unusedVariables false
namespace Go.Proofs.Ytakdkbdjjlmccaa
open Go Go.Abs

theorem without_erase {α : Type} (j : Nat) (l : List α) (k : Nat) : without (j : Int) l k = if k ≤ j then l.eraseIdx (j - k) else l := by
  induction l generalizing k with
  | nil => simp [without]
  | cons x l ih =>
    simp only [without]
    rw [ih (k + 1)]
    by_cases h : k = j
    · subst h; simp; intro hh; omega
    · rw [if_neg (by omega)]
      by_cases h2 : k ≤ j
      · rw [if_pos (by omega), if_pos h2, show j - k = (j - (k + 1)) + 1 by omega, List.eraseIdx_cons_succ]
      · rw [if_neg (by omega), if_neg h2]

theorem lastAt_none (id : Int) (l : List Int) (k : Nat) (a : Int) (h : id ∉ l) : lastAt id l k a = a := by
  induction l generalizing k a with
  | nil => rfl
  | cons x l ih =>
    simp only [List.mem_cons, not_or] at h
    simp only [lastAt]
    rw [if_neg (fun e => h.1 e.symm), ih _ _ h.2]

theorem lastAt_some (id : Int) (l : List Int) (k : Nat) (a : Int) (j : Nat) (hj : l[j]? = some id) (hn : l.Nodup) : lastAt id l k a = (k + j : Nat) := by
  induction l generalizing k a j with
  | nil => simp at hj
  | cons x l ih =>
    simp only [lastAt]
    rw [List.nodup_cons] at hn
    cases j with
    | zero =>
      simp at hj
      subst hj
      rw [if_pos rfl, lastAt_none _ _ _ _ hn.1]
      simp
    | succ j =>
      simp only [List.getElem?_cons_succ] at hj
      rw [ih _ _ j hj hn.2]
      congr 1
      omega

structure Link (R : PoolR) (M : RefR) : Prop where
  most : M.most = R.most
  next : M.next = R.xs.length
  free : M.free = R.fs
  lenv : M.vals.length = M.ids.length
  cnt : M.ids.length + R.fs.length = R.xs.length
  here : ∀ (j : Nat) (i y : Int), M.ids[j]? = some i → M.vals[j]? = some y → ∃ k : Nat, i = k ∧ R.xs[k]? = some (.int .i64 y, true)
  nodup : M.ids.Nodup
  all : ∀ (k : Nat) (x : Value), R.xs[k]? = some (x, true) → (k : Int) ∈ M.ids
  fok : ∀ i ∈ R.fs, ∃ (k : Nat) (x : Value), i = k ∧ R.xs[k]? = some (x, false)
  fnodup : R.fs.Nodup

theorem Link.val {R : PoolR} {M : RefR} (h : Link R M) {j : Nat} {i : Int} (hj : M.ids[j]? = some i) : ∃ y, M.vals[j]? = some y := by
  have := (List.getElem?_eq_some_iff.1 hj).1
  exact ⟨M.vals[j]'(by rw [h.lenv]; exact this), by simp⟩

theorem Link.at_none {R : PoolR} {M : RefR} (h : Link R M) {id : Int} (hid : id ∉ M.ids) : R.at id = none := by
  unfold PoolR.at
  split
  · rename_i x hx
    exfalso
    split at hx
    · rename_i h0
      have := h.all _ _ hx
      rw [Int.toNat_of_nonneg h0] at this
      exact hid this
    · cases hx
  · rfl

theorem Link.at_some {R : PoolR} {M : RefR} (h : Link R M) {id y : Int} {j : Nat} (hj : M.ids[j]? = some id) (hy : M.vals[j]? = some y) : R.at id = some (.int .i64 y) ∧ 0 ≤ id ∧ R.xs[id.toNat]? = some (.int .i64 y, true) := by
  obtain ⟨k, rfl, hk⟩ := h.here j id y hj hy
  refine ⟨?_, by omega, by simpa using hk⟩
  simp [PoolR.at, hk]

theorem Link.start (most : Int) : Link ⟨most, [], []⟩ ⟨most, [], [], [], 0⟩ := by
  constructor <;> simp

theorem Link.put {R : PoolR} {M : RefR} (h : Link R M) (x : Int) : Link (R.put (.int .i64 x)).1 { M with ids := M.ids ++ [M.free.getLastD M.next], vals := M.vals ++ [x], free := M.free.dropLast, next := if M.free = [] then M.next + 1 else M.next } ∧ (R.put (.int .i64 x)).2 = M.free.getLastD M.next := by
  obtain ⟨most, xs, fs⟩ := R
  obtain ⟨most', ids, vals, free, next⟩ := M
  obtain ⟨h1, h2, h3, h4, h5, h6, h7, h8, h9, h10⟩ := h
  simp only at h1 h2 h3 h4 h5 h6 h7 h8 h9 h10
  subst h1 h2 h3
  have hlt : ∀ i ∈ ids, ∃ (k : Nat) (y : Int), i = k ∧ xs[k]? = some (.int .i64 y, true) := by
    intro i hi
    obtain ⟨j, hj⟩ := List.getElem?_of_mem hi
    have hjl := (List.getElem?_eq_some_iff.1 hj).1
    obtain ⟨k, e, hk⟩ := h6 j i (vals[j]'(by omega)) hj (by simp)
    exact ⟨k, _, e, hk⟩
  by_cases hf : free = []
  · subst hf
    simp only [PoolR.put, List.getLast?_nil, List.getLastD_nil, List.dropLast_nil, if_true]
    refine ⟨⟨rfl, by simp, rfl, by simp [h4], by simp at h5 ⊢; omega, ?_, ?_, ?_, by simp, by simp⟩, trivial⟩
    · intro j i y hj hy
      by_cases hjl : j < ids.length
      · rw [List.getElem?_append_left hjl] at hj
        rw [List.getElem?_append_left (by omega)] at hy
        obtain ⟨k, e, hk⟩ := h6 j i y hj hy
        exact ⟨k, e, by rw [List.getElem?_append_left (List.getElem?_eq_some_iff.1 hk).1]; exact hk⟩
      · obtain rfl : j = ids.length := by have := (List.getElem?_eq_some_iff.1 hj).1; simp at this; omega
        simp at hj
        rw [← h4] at hy
        simp at hy
        exact ⟨xs.length, hj.symm, by simp [hy]⟩
    · rw [List.nodup_append]
      refine ⟨h7, by simp, ?_⟩
      intro a ha b hb
      simp at hb
      obtain ⟨k, y, e, hk⟩ := hlt a ha
      have := (List.getElem?_eq_some_iff.1 hk).1
      omega
    · intro k v hk
      by_cases hkl : k < xs.length
      · rw [List.getElem?_append_left hkl] at hk
        simp [h8 k v hk]
      · obtain rfl : k = xs.length := by have := (List.getElem?_eq_some_iff.1 hk).1; simp at this; omega
        simp
  · obtain ⟨ys, i, rfl⟩ := getLast_append hf
    obtain ⟨k, v, rfl, hk⟩ := h9 i (by simp)
    have hkl := (List.getElem?_eq_some_iff.1 hk).1
    have hknot : (k : Int) ∉ ids := by
      intro hi
      obtain ⟨k', y, e, hk'⟩ := hlt _ hi
      obtain rfl : k = k' := by omega
      rw [hk] at hk'
      simp at hk'
    simp only [PoolR.put, List.getLast?_append, List.getLast?_singleton, Option.some_or, List.getLastD_concat, List.dropLast_concat, Int.toNat_natCast, hf, if_false]
    rw [List.nodup_append] at h10
    have hset : ∀ (k' : Nat), k' ≠ k → (xs.set k (.int .i64 x, true))[k']? = xs[k']? := fun k' hne => List.getElem?_set_ne (Ne.symm hne)
    refine ⟨⟨rfl, by simp, rfl, by simp [h4], by simp at h5 ⊢; omega, ?_, ?_, ?_, ?_, h10.1⟩, trivial⟩
    · intro j i y hj hy
      by_cases hjl : j < ids.length
      · rw [List.getElem?_append_left hjl] at hj
        rw [List.getElem?_append_left (by omega)] at hy
        obtain ⟨k', e, hk'⟩ := h6 j i y hj hy
        refine ⟨k', e, ?_⟩
        rw [hset k' ?_]
        · exact hk'
        · rintro rfl
          rw [hk] at hk'; simp at hk'
      · obtain rfl : j = ids.length := by have := (List.getElem?_eq_some_iff.1 hj).1; simp at this; omega
        simp at hj
        rw [← h4] at hy
        simp at hy
        exact ⟨k, hj.symm, by simp [hy, hkl]⟩
    · rw [List.nodup_append]
      refine ⟨h7, by simp, ?_⟩
      intro a ha b hb
      simp at hb
      subst hb
      rintro rfl
      exact hknot ha
    · intro k' v' hk'
      by_cases hkk : k' = k
      · subst hkk; simp
      · rw [hset k' hkk] at hk'
        simp [h8 k' v' hk']
    · intro i hi
      obtain ⟨k', v', rfl, hk'⟩ := h9 i (by simp [hi])
      refine ⟨k', v', rfl, ?_⟩
      rw [hset k' ?_]
      · exact hk'
      · rintro rfl
        have := h10.2.2 _ hi k' (by simp)
        exact this rfl

theorem Link.take {R : PoolR} {M : RefR} (h : Link R M) {id : Int} {j : Nat} (hj : M.ids[j]? = some id) (zero : Value) : Link (R.drop zero id) { M with ids := without (j : Int) M.ids 0, vals := without (j : Int) M.vals 0, free := M.free ++ [id] } := by
  obtain ⟨y, hy⟩ := h.val hj
  obtain ⟨_, hid, hx⟩ := h.at_some hj hy
  obtain ⟨most, xs, fs⟩ := R
  obtain ⟨most', ids, vals, free, next⟩ := M
  obtain ⟨h1, h2, h3, h4, h5, h6, h7, h8, h9, h10⟩ := h
  simp only at h1 h2 h3 h4 h5 h6 h7 h8 h9 h10 hj hy hx
  subst h1 h2 h3
  obtain ⟨k, rfl⟩ : ∃ k : Nat, id = k := ⟨id.toNat, by omega⟩
  simp only [Int.toNat_natCast] at hx
  have hjl := (List.getElem?_eq_some_iff.1 hj).1
  have hkl := (List.getElem?_eq_some_iff.1 hx).1
  rw [without_erase, without_erase, if_pos (by omega), if_pos (by omega), Nat.sub_zero]
  have hnot : (k : Int) ∉ ids.eraseIdx j := by
    intro hm
    rw [List.mem_eraseIdx_iff_getElem?] at hm
    obtain ⟨j', hne, hj'⟩ := hm
    exact hne ((List.getElem?_inj (List.getElem?_eq_some_iff.1 hj').1 h7).1 (hj'.trans hj.symm))
  have hset : ∀ (k' : Nat), k' ≠ k → (xs.set k (zero, false))[k']? = xs[k']? := fun k' hne => List.getElem?_set_ne (Ne.symm hne)
  constructor <;> simp only [PoolR.drop, Int.toNat_natCast]
  · simp
  · simp [List.length_eraseIdx, h4]
  · simp [List.length_eraseIdx, hjl]; omega
  · intro j' i y' hj' hy'
    have hmem : i ∈ ids.eraseIdx j := List.mem_of_getElem? hj'
    rw [List.getElem?_eraseIdx] at hj' hy'
    have : ∃ k', i = (k' : Nat) ∧ xs[k']? = some (.int .i64 y', true) := by
      by_cases hc : j' < j
      · rw [if_pos hc] at hj' hy'
        exact h6 j' i y' hj' hy'
      · rw [if_neg hc] at hj' hy'
        exact h6 (j' + 1) i y' hj' hy'
    obtain ⟨k', rfl, hk'⟩ := this
    refine ⟨k', rfl, ?_⟩
    rw [hset k' ?_]
    · exact hk'
    · rintro rfl
      exact hnot hmem
  · exact h7.sublist (List.eraseIdx_sublist _ _)
  · intro k' v hk'
    by_cases hkk : k' = k
    · subst hkk
      rw [List.getElem?_set_self hkl] at hk'
      simp at hk'
    · rw [hset k' hkk] at hk'
      have hm := h8 k' v hk'
      rw [List.mem_eraseIdx_iff_getElem?]
      obtain ⟨j', hj'⟩ := List.getElem?_of_mem hm
      refine ⟨j', ?_, hj'⟩
      rintro rfl
      rw [hj] at hj'
      simp at hj'
      omega
  · intro i hi
    simp at hi
    rcases hi with hi | rfl
    · obtain ⟨k', v, rfl, hk'⟩ := h9 i hi
      refine ⟨k', v, rfl, ?_⟩
      rw [hset k' ?_]
      · exact hk'
      · rintro rfl
        rw [hx] at hk'; simp at hk'
    · exact ⟨k, zero, rfl, List.getElem?_set_self hkl⟩
  · rw [List.nodup_append]
    refine ⟨h10, by simp, ?_⟩
    intro a ha b hb
    simp at hb
    subst hb
    rintro rfl
    obtain ⟨k', v, e, hk'⟩ := h9 _ ha
    obtain rfl : k = k' := by omega
    rw [hx] at hk'
    simp at hk'

theorem same_of (ids : List Int) (hn : ids.Nodup) (k : Int) : same k ids = if k ∈ ids then [k] else [] := by
  induction ids with
  | nil => simp [same]
  | cons x l ih =>
    rw [List.nodup_cons] at hn
    have ih := ih hn.2
    simp only [same] at ih
    simp only [same, List.filter_cons, ih]
    by_cases h : x = k
    · subst h
      simp [hn.1]
    · have h' : ¬ k = x := fun e => h e.symm
      simp [h, h']

theorem Link.rise {R : PoolR} {M : RefR} (h : Link R M) : usedFrom 0 R.xs = risen M.ids R.xs.length := by
  have key : ∀ n, n ≤ R.xs.length → usedFrom 0 (R.xs.take n) = risen M.ids n := by
    intro n
    induction n with
    | zero => intro _; simp [risen, usedFrom]
    | succ n ih =>
      intro hn
      have hlt : n < R.xs.length := by omega
      have et : R.xs.take (n + 1) = R.xs.take n ++ [R.xs[n]] := take_succ_get (by simp [hlt])
      rw [et, usedFrom_append, ih (by omega), risen, same_of _ h.nodup]
      congr 1
      have hl : (R.xs.take n).length = n := by simp; omega
      rw [hl]
      cases hx : R.xs[n] with
      | mk v u =>
        cases u with
        | true =>
          have := h.all n v (by simp [hlt, hx])
          simp [usedFrom, this]
        | false =>
          have : (n : Int) ∉ M.ids := by
            intro hm
            obtain ⟨j, hj⟩ := List.getElem?_of_mem hm
            obtain ⟨y, hy⟩ := h.val hj
            obtain ⟨k, e, hk⟩ := h.here j _ y hj hy
            obtain rfl : n = k := by omega
            simp [hlt, hx] at hk
          simp [usedFrom, this]
  have := key R.xs.length (Nat.le_refl _)
  rwa [List.take_length] at this

theorem below_succ (l : List Int) (n : Nat) : (l.filter fun x => decide (0 ≤ x ∧ x < ((n + 1 : Nat) : Int))).length = (l.filter fun x => decide (0 ≤ x ∧ x < (n : Int))).length + (same n l).length := by
  induction l with
  | nil => simp [same]
  | cons x l ih =>
    simp only [same] at ih
    simp only [same, List.filter_cons]
    by_cases h1 : x = n
    · subst h1
      rw [if_pos (by simp; omega), if_neg (by simp), if_pos (by simp)]
      simp only [List.length_cons]; omega
    · by_cases h2 : 0 ≤ x ∧ x < (n : Int)
      · rw [if_pos (by simp; omega), if_pos (by simp; omega), if_neg (by simp [h1])]
        simp only [List.length_cons]; omega
      · rw [if_neg (by simp; omega), if_neg (by simp; omega), if_neg (by simp [h1])]
        exact ih

theorem risen_len (l : List Int) (n : Nat) : (risen l n).length = (l.filter fun x => decide (0 ≤ x ∧ x < (n : Int))).length := by
  induction n with
  | zero => simp only [risen, List.length_nil]; symm; rw [List.length_eq_zero_iff, List.filter_eq_nil_iff]; intro a _; simp
  | succ n ih => rw [below_succ, ← ih, risen, List.length_append]

theorem Link.len_rise {R : PoolR} {M : RefR} (h : Link R M) : (risen M.ids R.xs.length).length = M.ids.length := by
  rw [risen_len]
  congr 1
  rw [List.filter_eq_self]
  intro i hi
  obtain ⟨j, hj⟩ := List.getElem?_of_mem hi
  obtain ⟨y, hy⟩ := h.val hj
  obtain ⟨k, e, hk⟩ := h.here j _ y hj hy
  have := (List.getElem?_eq_some_iff.1 hk).1
  simp; omega
end Go.Proofs.Ytakdkbdjjlmccaa
