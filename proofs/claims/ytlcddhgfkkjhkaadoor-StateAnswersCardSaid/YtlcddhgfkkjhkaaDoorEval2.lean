/-
  package eval (2): order, covers.
-/
import Derived.Test.YtlcddhgfkkjhkaaDoorEval1
import Derived.Test.YtlcddhgfkkjhkaaDoorBs
set_option maxRecDepth 100000
set_option linter.unusedSimpArgs false
set_option linter.unusedVariables false
namespace Go.Abs
open Go
theorem all_count {B : List Bool} : B.count true = B.length ↔ ∀ j, j < B.length → B.getD j false = true := by
  rw [List.count_eq_length]
  constructor
  · intro h j hj
    rw [List.getD_eq_getElem?_getD, List.getElem?_eq_getElem hj]
    exact (h _ (List.getElem_mem hj)).symm
  · intro h b hb
    obtain ⟨j, hj, rfl⟩ := List.getElem_of_mem hb
    have := h j hj
    rw [List.getD_eq_getElem?_getD, List.getElem?_eq_getElem hj] at this
    exact this.symm
theorem orderB_iff {X : List Int} {n : Nat} : orderB X n = true ↔ X.length = n ∧ ∀ k, k < n → X.count (k : Int) = 1 := by
  simp [orderB]
theorem count_mem {X : List Int} {j : Int} : j ∈ X ↔ 0 < X.count j := List.count_pos_iff.symm
theorem order_range : ∀ (n : Nat) {X : List Int}, X.length = n → (∀ k, k < n → X.count (k : Int) = 1) → ∀ y ∈ X, 0 ≤ y ∧ y < n
  | 0, X, hl, _, y, hy => by rw [List.eq_nil_of_length_eq_zero hl] at hy; simp at hy
  | n + 1, X, hl, h, y, hy => by
    have hm : ((n : Nat) : Int) ∈ X := count_mem.2 (by rw [h n (by omega)]; omega)
    have h1 := order_range n (X := X.erase n) (by rw [List.length_erase_of_mem hm, hl]; rfl) fun k hk => by
      rw [List.count_erase_of_ne (by simp; omega)]
      exact h k (by omega)
    by_cases hyn : y = n
    · subst hyn; omega
    · have := h1 y ((List.mem_erase_of_ne hyn).2 hy)
      omega
end Go.Abs
namespace Go.Proofs.YtlcddhgfkkjhkaaDoor
open Go Go.Abs
def OdS (H1 : AH) (q n : Nat) (P : Nat → Prop) (H' : AH) : Prop :=
  WF H' ∧ Keep [] H1 H' ∧ q < H'.next ∧ ∃ sl B, H'.blk q = some (.row [.int .i64 n, sl] T_bitset_Set true) ∧ Bs.SetB (fun b => b ≠ q) H' (.agg #[.int .i64 n, sl]) B ∧ B.length = n ∧ ∀ j, j < n → (B.getD j false = true ↔ P j)
theorem OdS.congr {H1 H' : AH} {q n : Nat} {P Q : Nat → Prop} (h : OdS H1 q n P H') (hPQ : ∀ j, j < n → (P j ↔ Q j)) : OdS H1 q n Q H' := by
  obtain ⟨a1, a2, a3, sl3, B3, a4, a5, a6, a7⟩ := h
  exact ⟨a1, a2, a3, sl3, B3, a4, a5, a6, fun j hj => (a7 j hj).trans (hPQ j hj)⟩
theorem set_with {H1 H' : AH} {q n : Nat} {P : Nat → Prop} (hq : H1.next ≤ q) (h : OdS H1 q n P H') {sl u : Value} {B : List Bool} {H2 : AH} {z : Int} (hb : H'.blk q = some (.row [.int .i64 n, sl] T_bitset_Set true)) (hB : B.length = n) (hP : ∀ j, j < n → (B.getD j false = true ↔ P j)) (w2 : WF H2) (hu : Bs.SetB (up (fun b => b ≠ q) H'.next) H2 u (Bs.setB B z true)) (k2 : Keep [] H' H2) :
    ∃ sl2, u = .agg #[.int .i64 n, sl2] ∧ writeA H2 q 0 [.int .i64 n, sl2] = some (H2.set q (.row [.int .i64 n, sl2] T_bitset_Set true)) ∧ OdS H1 q n (fun j => P j ∨ (j : Int) = z) (H2.set q (.row [.int .i64 n, sl2] T_bitset_Set true)) := by
  obtain ⟨w', k', hqn, _⟩ := h
  obtain ⟨sl2, rfl, v2, l2⟩ := id hu
  have hlen : (Bs.setB B z true).length = n := by unfold Bs.setB; split <;> simp [hB]
  have hb2 : H2.blk q = some (.row [.int .i64 n, sl] T_bitset_Set true) := by rw [k2.blk q hqn (by simp)]; exact hb
  have n2 := k2.next
  refine ⟨sl2, by rw [hlen], ?_, w2.set (by omega), .new_set hq (k'.trans' k2), by simp; omega, sl2, Bs.setB B z true, AH.set_blk_same, ?_, hlen, fun j hj => ?_⟩
  · rw [writeA_of (off := 0) (news := [Value.int .i64 n, sl2]) hb2 (by simp)]; rfl
  · have h3 : Bs.SetB (fun b => b ≠ q) H2 (.agg #[.int .i64 (Bs.setB B z true).length, sl2]) (Bs.setB B z true) := hu.mono fun b hb => by rcases hb with h | h; exact h; omega
    rw [hlen] at h3
    exact h3.over fun b hb => AH.cells_set_ne hb
  · unfold Bs.setB
    by_cases hz : 0 ≤ z ∧ z < (B.length : Int)
    · rw [if_pos hz, getD_set _ _ _ _ (by omega)]
      by_cases hjz : j = z.toNat
      · rw [if_pos hjz]; simp; right; omega
      · rw [if_neg hjz, hP j hj]
        constructor
        · exact .inl
        · rintro (h | h)
          · exact h
          · omega
    · rw [if_neg hz, hP j hj]
      constructor
      · exact .inl
      · rintro (h | h)
        · exact h
        · omega
def EoI (H1 : AH) (q n : Nat) (v : Value) (X : List Int) (k : Nat) (env : Env) (H' : AH) : Prop :=
  env 0 = some v ∧ env 1 = some (.int .i64 n) ∧ env 5 = some (.pointer (some ⟨q, 0, none⟩)) ∧ env 6 = some (.int .i64 0) ∧ env 14 = some v ∧ env 15 = some (.int .i64 X.length) ∧ env 16 = some (.int .i64 k) ∧ OdS H1 q n (fun j => (j : Int) ∈ X.take k) H' ∧ ∀ j, j < n → (X.take k).count (j : Int) ≤ 1
def EoQ (H1 : AH) (q n : Nat) (v : Value) (X : List Int) (e : AExit) (env : Env) (H' : AH) : Prop :=
  (e = .ret ∧ env 4 = some (.bool false) ∧ orderB X n = false) ∨
  (e = .exit 0 ∧ env 0 = some v ∧ env 1 = some (.int .i64 n) ∧ env 5 = some (.pointer (some ⟨q, 0, none⟩)) ∧ env 6 = some (.int .i64 0) ∧ OdS H1 q n (fun j => (j : Int) ∈ X) H' ∧ ∀ j, j < n → X.count (j : Int) ≤ 1)
theorem order_l0 {H1 : AH} {q n : Nat} {v : Value} {X : List Int} (hw1 : WF H1) (hqn : H1.next ≤ q) (hX : SlV (fun _ => True) H1 v X) {env : Env} {H0 : AH} (h : EoI H1 q n v X 0 env H0) : wpC Tryd.prog 41 (.loop ir_eval_order_l0) (EoQ H1 q n v X) env H0 := by
  refine loop_upto X.length (EoI H1 q n v X) (Q := EoQ H1 q n v X) h ?_
  have hmax := hX.max
  rintro k env H' hk ⟨e0, e1, e5, e6, e14, e15, e16, hS, hc⟩
  by_cases hkn : k < X.length
  · obtain ⟨w', k', hqn', sl, B, hb, hSB, hBl, hP⟩ := id hS
    obtain ⟨b0, off, sp, cap, cs, hcv, q1, q2⟩ := ints_rd (hX.kept hw1 k') (by omega)
    obtain ⟨q3, q4⟩ := q2 k hkn
    subst hcv
    have cb := AH.cells_of hb
    have ht := List.take_succ_eq_append_getElem hkn
    have hmem : X[k] ∈ X := List.getElem_mem _
    have hcnt : ∀ j : Int, (X.take (k + 1)).count j = (X.take k).count j + (if X[k] = j then 1 else 0) := fun j => by
      rw [ht, List.count_append, List.count_singleton]
      simp
    have hle : ∀ j : Int, (X.take (k + 1)).count j ≤ X.count j := fun j => List.Sublist.count_le j (List.take_sublist _ _)
    have hmt : ∀ j : Int, j ∈ X.take (k + 1) ↔ j ∈ X.take k ∨ j = X[k] := fun j => by rw [ht, List.mem_append, List.mem_singleton]
    generalize X[k] = z at *
    have hHas := Bs.Has_spec hSB z
    have hWith := Bs.With_spec hSB z
    have hcut : cut [Value.int .i64 n, sl] 0 2 = some [.int .i64 n, sl] := by simp [cut]
    simp (disch := omega) [-getElem?_pos, if_pos, if_neg, decide_eq_true, decide_eq_false, ir_eval_order_l0, e0, e1, e5, e6, e14, e15, e16, q1, q3, cb, hcut]
    refine AFn.pure hHas ?_
    by_cases hh : Bs.hasB B z = true
    · rw [hh]
      simp (disch := omega) [-getElem?_pos, if_pos, if_neg, decide_eq_true, decide_eq_false, ]
      unfold Bs.hasB at hh
      simp only [Bool.and_eq_true, decide_eq_true_eq] at hh
      have hzl := Bs.getD_len hh.2
      have hin : ((z.toNat : Nat) : Int) ∈ X.take k := (hP z.toNat (by omega)).1 hh.2
      rw [show ((z.toNat : Nat) : Int) = z by omega] at hin
      left
      refine ⟨rfl, by simp, ?_⟩
      rw [Bool.eq_false_iff]
      intro ho
      have h1 := (orderB_iff.1 ho).2 z.toNat (by omega)
      rw [show ((z.toNat : Nat) : Int) = z by omega] at h1
      have h2 := hle z
      have h3 := hcnt z
      have h4 := count_mem.1 hin
      simp at h3
      omega
    · have hh' : Bs.hasB B z = false := by simpa using hh
      rw [hh']
      simp (disch := omega) [-getElem?_pos, if_pos, if_neg, decide_eq_true, decide_eq_false, e5, cb, hcut]
      refine hWith.mono' fun u H2 w2 ⟨hu, k2⟩ => ?_
      obtain ⟨sl2, rfl, wr, hS2⟩ := set_with hqn hS hb hBl hP w2 hu k2
      simp (disch := omega) [-getElem?_pos, if_pos, if_neg, decide_eq_true, decide_eq_false, e5, e16, wr, IntWalk.i64_in]
      refine ⟨hkn, by simp [e0], by simp [e1], by simp [e5], by simp [e6], by simp [e14], by simp [e15], by simp, ?_, fun j hj => ?_⟩
      · exact hS2.congr fun j hj => (hmt j).symm
      · rw [hcnt]
        split
        · rename_i hzj
          have : (X.take k).count (j : Int) = 0 := by
            apply Classical.byContradiction
            intro hne
            have hin := count_mem.2 (Nat.pos_of_ne_zero hne)
            have h5 := (hP j hj).2 hin
            rw [hzj] at hh
            apply hh
            unfold Bs.hasB
            simp only [Bool.and_eq_true, decide_eq_true_eq]
            exact ⟨by omega, by simpa using h5⟩
          omega
        · exact hc j hj
  · obtain rfl : k = X.length := by omega
    rw [List.take_length] at hS hc
    simp (disch := omega) [-getElem?_pos, if_pos, if_neg, decide_eq_true, decide_eq_false, ir_eval_order_l0, e15, e16]
    exact .inr ⟨rfl, e0, e1, e5, e6, hS, hc⟩
theorem order_fin {X : List Int} {n : Nat} {B : List Bool} (hB : B.length = n) (hP : ∀ j, j < n → (B.getD j false = true ↔ (j : Int) ∈ X)) (hc : ∀ j, j < n → X.count (j : Int) ≤ 1) : orderB X n = (decide (X.length = n) && decide (B.count true = n)) := by
  by_cases hl : X.length = n
  · have : orderB X n = true ↔ B.count true = n := by
      rw [orderB_iff]
      conv => rhs; rhs; rw [← hB]
      rw [all_count, hB]
      constructor
      · rintro ⟨_, h⟩ j hj
        exact (hP j hj).2 (count_mem.2 (by rw [h j hj]; omega))
      · intro h
        refine ⟨hl, fun k hk => ?_⟩
        have h1 := count_mem.1 ((hP k hk).1 (h k hk))
        have h2 := hc k hk
        omega
    cases ho : orderB X n with
    | true => simp [hl, this.1 ho]
    | false =>
      have : ¬ B.count true = n := fun h => by rw [this.2 h] at ho; cases ho
      simp [this]
  · have : orderB X n = false := by
      rw [Bool.eq_false_iff]; intro h; exact hl (orderB_iff.1 h).1
    rw [this]; simp [hl]
theorem order_spec' {p : Nat → Prop} {H : AH} {v : Value} {X : List Int} {n : Nat} (hX : SlV p H v X) (hn : n ≤ 4096) : AFn Tryd.prog F_eval_order [v, .int .i64 n] H fun u H' => u = .bool (orderB X n) ∧ H' = H := by
  refine AFn.calm (fun H0 hs => ?_) rfl
  have hX0 := (hX.same hs).any
  obtain ⟨va, vc, rfl⟩ := hX.slice
  have hm := hX.max
  refine AFn.enter mixed ir_eval_order_eq (by simp [ir_eval_order]) fun hw => ?_
  have hok : Bs.sizeOk n = true := by unfold Bs.sizeOk; simp; omega
  have hno : Bs.nOk n = n := by unfold Bs.nOk; rw [hok]; simp
  have heo : Bs.eOk n = 0 := by unfold Bs.eOk; rw [hok]; rfl
  simp (disch := omega) [-getElem?_pos, if_pos, if_neg, decide_eq_true, decide_eq_false, ir_eval_order]
  refine (Bs.New_spec (n : Int) ⟨by omega, by omega⟩).mono' fun u H2 w2 ⟨sl, S, hu, ho, k2, hS⟩ => ?_
  rw [hno, heo] at hu
  rw [hno] at ho
  subst hu
  have n2 := k2.next
  have hone := Bs.Own.one ho
  have hset : Bs.SetB (fun b => b < H2.next) H2 (.agg #[.int .i64 n, sl]) (List.replicate n false) := by
    have h0 : Bs.SetO H2 (.agg #[.int .i64 n, sl]) n (words (List.replicate n false)) S := ⟨sl, rfl, ho, hone⟩
    exact h0.setB (by simp) rfl (by omega) fun b hb => ho.lt w2 b hb
  have hsc : cellsOf sl = some [sl] := by obtain ⟨a, c, rfl⟩ := ho.slice; simp
  simp (disch := omega) [-getElem?_pos, if_pos, if_neg, decide_eq_true, decide_eq_false, hone, hsc, writeA, over]
  generalize hH3 : AH.alloc H2 _ = H3
  have k3 : Keep [] H2 H3 := by rw [← hH3]; exact .alloc
  have w3 : WF H3 := by rw [← hH3]; exact w2.alloc
  have n3 : H3.next = H2.next + 1 := by rw [← hH3]; simp
  have b3 : H3.blk H2.next = some (.row [.int .i64 n, sl] T_bitset_Set true) := by rw [← hH3]; simp
  clear hH3
  have hset3 := (hset.kept w2 k3).mono (q := fun b => b ≠ H2.next) fun b hb => by omega
  refine wpC_use (order_l0 (H1 := H2) (q := H2.next) (n := n) (X := X) w2 (Nat.le_refl _) (hX0.kept hw k2) ⟨by simp, by simp, by simp, by simp, by simp, by simp, by simp, ⟨w3, k3, by omega, sl, List.replicate n false, b3, hset3, by simp, fun j hj => by simp [hj]⟩, by simp⟩) ?_
  rintro e env2 H4 (⟨rfl, e4, hf⟩ | ⟨rfl, e0, e1, e5, e6, ⟨w4, k4, _, sl4, B, b4, hS4, hBl, hP⟩, hc⟩) hu
  · rw [hf]
    simp (disch := omega) [-getElem?_pos, if_pos, if_neg, decide_eq_true, decide_eq_false, e4]
  · have hfin := order_fin hBl hP hc
    have c4 := AH.cells_of b4
    have hcut : cut [Value.int .i64 n, sl4] 0 2 = some [.int .i64 n, sl4] := by simp [cut]
    have hCnt := Bs.Count_spec hS4
    rw [hfin]
    generalize B.count true = cB at *
    generalize X.length = lX at *
    by_cases hl : lX = n
    · have hlT : ((lX : Int) = (n : Int)) = True := eq_true (by omega)
      rw [decide_eq_true hl]
      simp (disch := omega) [-getElem?_pos, if_pos, if_neg, decide_eq_true, decide_eq_false, e0, e1, e5, e6, c4, hcut, hlT]
      refine AFn.pure hCnt ?_
      simp (disch := omega) [-getElem?_pos, if_pos, if_neg, decide_eq_true, decide_eq_false, e1]
      omega
    · have hlF : ((lX : Int) = (n : Int)) = False := eq_false (by omega)
      rw [decide_eq_false hl]
      simp (disch := omega) [-getElem?_pos, if_pos, if_neg, decide_eq_true, decide_eq_false, e0, e1, e5, e6, c4, hcut, hlF]
def Cv0I (H1 : AH) (q qx n : Nat) (v ev : Value) (lX : Nat) (kk : Nat) (P : Nat → Prop) (E : List Int) (k : Nat) (env : Env) (H' : AH) : Prop :=
  env 2 = some (.pointer (some ⟨qx, 0, none⟩)) ∧ env 5 = some (.pointer (some ⟨q, 0, none⟩)) ∧ env 17 = some v ∧ env 18 = some (.int .i64 lX) ∧ env 19 = some (.int .i64 kk) ∧ env 28 = some ev ∧ env 29 = some (.int .i64 E.length) ∧ env 30 = some (.int .i64 k) ∧ OdS H1 q n (fun j => P j ∨ (j : Int) ∈ E.take k) H'
def Cv0Q (H1 : AH) (q qx n : Nat) (v : Value) (lX : Nat) (kk : Nat) (P : Nat → Prop) (E : List Int) (e : AExit) (env : Env) (H' : AH) : Prop :=
  e = .exit 2 ∧ env 2 = some (.pointer (some ⟨qx, 0, none⟩)) ∧ env 5 = some (.pointer (some ⟨q, 0, none⟩)) ∧ env 17 = some v ∧ env 18 = some (.int .i64 lX) ∧ env 19 = some (.int .i64 kk) ∧ OdS H1 q n (fun j => P j ∨ (j : Int) ∈ E) H'
theorem covers_l0 {H1 : AH} {q qx n : Nat} {v ev : Value} {lX kk : Nat} {P : Nat → Prop} {E : List Int} (hw1 : WF H1) (hqn : H1.next ≤ q) (hE : SlV (fun _ => True) H1 ev E) {env : Env} {H0 : AH} (h : Cv0I H1 q qx n v ev lX kk P E 0 env H0) : wpC Tryd.prog 44 (.loop ir_eval_covers_l0) (Cv0Q H1 q qx n v lX kk P E) env H0 := by
  refine loop_upto E.length (Cv0I H1 q qx n v ev lX kk P E) (Q := Cv0Q H1 q qx n v lX kk P E) h ?_
  have hmax := hE.max
  rintro k env H' hk ⟨e2, e5, e17, e18, e19, e28, e29, e30, hS⟩
  by_cases hkn : k < E.length
  · obtain ⟨w', k', hqn', sl, B, hb, hSB, hBl, hP⟩ := id hS
    obtain ⟨b0, off, sp, cap, cs, hcv, q1, q2⟩ := ints_rd (hE.kept hw1 k') (by omega)
    obtain ⟨q3, q4⟩ := q2 k hkn
    subst hcv
    have cb := AH.cells_of hb
    have ht := List.take_succ_eq_append_getElem hkn
    have hmt : ∀ j : Int, j ∈ E.take (k + 1) ↔ j ∈ E.take k ∨ j = E[k] := fun j => by rw [ht, List.mem_append, List.mem_singleton]
    generalize E[k] = z at *
    have hWith := Bs.With_spec hSB z
    have hcut : cut [Value.int .i64 n, sl] 0 2 = some [.int .i64 n, sl] := by simp [cut]
    simp (disch := omega) [-getElem?_pos, if_pos, if_neg, decide_eq_true, decide_eq_false, ir_eval_covers_l0, e2, e5, e17, e18, e19, e28, e29, e30, q1, q3, cb, hcut]
    refine hWith.mono' fun u H2 w2 ⟨hu, k2⟩ => ?_
    obtain ⟨sl2, rfl, wr, hS2⟩ := set_with hqn hS hb hBl hP w2 hu k2
    simp (disch := omega) [-getElem?_pos, if_pos, if_neg, decide_eq_true, decide_eq_false, e5, e30, wr, IntWalk.i64_in]
    exact ⟨hkn, by simp [e2], by simp [e5], by simp [e17], by simp [e18], by simp [e19], by simp [e28], by simp [e29], by simp, hS2.congr fun j hj => by rw [hmt, or_assoc]⟩
  · obtain rfl : k = E.length := by omega
    rw [List.take_length] at hS
    simp (disch := omega) [-getElem?_pos, if_pos, if_neg, decide_eq_true, decide_eq_false, ir_eval_covers_l0, e29, e30]
    exact ⟨rfl, e2, e5, e17, e18, e19, hS⟩
def Cv1I (H1 : AH) (q qx n : Nat) (v : Value) (x : InstD) (X : List Int) (k : Nat) (env : Env) (H' : AH) : Prop :=
  env 2 = some (.pointer (some ⟨qx, 0, none⟩)) ∧ env 5 = some (.pointer (some ⟨q, 0, none⟩)) ∧ env 17 = some v ∧ env 18 = some (.int .i64 X.length) ∧ env 19 = some (.int .i64 k) ∧ OdS H1 q n (fun j => ∃ i ∈ X.take k, (j : Int) ∈ (x.setE i).elems) H'
def Cv1Q (H1 : AH) (q qx n : Nat) (x : InstD) (X : List Int) (e : AExit) (env : Env) (H' : AH) : Prop :=
  e = .exit 0 ∧ env 2 = some (.pointer (some ⟨qx, 0, none⟩)) ∧ env 5 = some (.pointer (some ⟨q, 0, none⟩)) ∧ OdS H1 q n (fun j => ∃ i ∈ X, (j : Int) ∈ (x.setE i).elems) H'
theorem covers_l1 {H1 : AH} {q qx n : Nat} {v : Value} {x : InstD} {iv cv sv : Value} {X : List Int} (hw1 : WF H1) (hqn : H1.next ≤ q) (hqx : H1.cells qx = some (instC x iv cv sv)) (hs : SlV (fun _ => True) H1 sv x.sets) (hX : SlV (fun _ => True) H1 v X) (hR : Rises (-1) x.sets.length X) {env : Env} {H0 : AH} (h : Cv1I H1 q qx n v x X 0 env H0) :
    wpC Tryd.prog 44 (.loop ir_eval_covers_l1) (Cv1Q H1 q qx n x X) env H0 := by
  refine loop_upto X.length (Cv1I H1 q qx n v x X) (Q := Cv1Q H1 q qx n x X) h ?_
  have hmax := hX.max
  have hmaxs := hs.max
  rintro k env H' hk ⟨e2, e5, e17, e18, e19, hS⟩
  by_cases hkn : k < X.length
  · obtain ⟨w', k', hqn', _⟩ := id hS
    obtain ⟨b0, off, sp, cap, cs, hcv, q1, q2⟩ := ints_rd (hX.kept hw1 k') (by omega)
    obtain ⟨q3, q4⟩ := q2 k hkn
    subst hcv
    have hr := rises_range hR X[k] (List.getElem_mem _)
    obtain ⟨N, hN⟩ : ∃ N : Nat, X[k] = N := ⟨X[k].toNat, by omega⟩
    have hNl : N < x.sets.length := by omega
    obtain ⟨b1, off1, sp1, cap1, cs1, hcv1, r1, r2⟩ := sets_rd (hs.kept hw1 k') (by omega)
    obtain ⟨w, r3, r4, r5, r6, r7⟩ := r2 N hNl
    obtain ⟨b1', off1', sp1', cap1', cs1', hcv1', r1', r2'⟩ := sets_rd hs (by omega)
    obtain ⟨w', _, _, r5', _, r7'⟩ := r2' N hNl
    rw [hcv1] at hcv1'
    cases hcv1'
    have hcs : cs1 = cs1' := by have := cells_kept hw1 k' r1'; rw [r1] at this; exact Option.some.inj this
    subst hcs
    rw [r5'] at r5
    obtain rfl := Option.some.inj r5
    subst hcv1
    have hse : x.setE X[k] = x.sets[N] := by rw [hN]; unfold InstD.setE; simp [hNl]
    have ht := List.take_succ_eq_append_getElem hkn
    have hmt : ∀ j : Nat, (∃ i ∈ X.take (k + 1), (j : Int) ∈ (x.setE i).elems) ↔ (∃ i ∈ X.take k, (j : Int) ∈ (x.setE i).elems) ∨ (j : Int) ∈ x.sets[N].elems := fun j => by
      rw [ht, ← hse]
      constructor
      · rintro ⟨i, hi, hj⟩
        rcases List.mem_append.1 hi with h | h
        · exact .inl ⟨i, h, hj⟩
        · rw [List.mem_singleton.1 h] at hj; exact .inr hj
      · rintro (⟨i, hi, hj⟩ | hj)
        · exact ⟨i, List.mem_append_left _ hi, hj⟩
        · exact ⟨_, List.mem_append_right _ (List.mem_singleton.2 rfl), hj⟩
    rw [hN] at q3
    have cq := cells_kept hw1 k' hqx
    obtain ⟨ea, ec, rfl⟩ := r7'.slice
    have hEm := r7'.max
    generalize x.sets[N].elems = E at *
    simp (disch := omega) [-getElem?_pos, if_pos, if_neg, decide_eq_true, decide_eq_false, ir_eval_covers_l1, e2, e5, e17, e18, e19, q1, q3, cq, instC, r1, r5', hNl]
    refine wpC_use (covers_l0 (H1 := H1) (q := q) (qx := qx) (n := n) (E := E) (P := fun j => ∃ i ∈ X.take k, (j : Int) ∈ (x.setE i).elems) (v := .slice (some ⟨b0, off, sp⟩) X.length cap) (lX := X.length) (kk := k) hw1 hqn r7' ⟨by simp [e2], by simp [e5], by simp [e17], by simp [e18], by simp [e19], by simp, by simp, by simp, hS.congr fun j hj => by simp⟩) ?_
    rintro e env2 H2 ⟨rfl, f2, f5, f17, f18, f19, hS2⟩ hu
    simp (disch := omega) [-getElem?_pos, if_pos, if_neg, decide_eq_true, decide_eq_false, f19, IntWalk.i64_in]
    exact ⟨hkn, by simp [f2], by simp [f5], by simp [f17], by simp [f18], by simp, hS2.congr fun j hj => (hmt j).symm⟩
  · obtain rfl : k = X.length := by omega
    rw [List.take_length] at hS
    simp (disch := omega) [-getElem?_pos, if_pos, if_neg, decide_eq_true, decide_eq_false, ir_eval_covers_l1, e18, e19]
    exact ⟨rfl, e2, e5, hS⟩
theorem covers_spec {H : AH} {v w : Value} {x : InstD} {X : List Int} (hx : InstV (fun _ => True) H v x) (hX : SlV (fun _ => True) H w X) (hok : x.Ok) (hR : Rises (-1) x.sets.length X) : AFn Tryd.prog F_eval_covers [v, w] H fun u H' => u = .bool (x.cov X) ∧ H' = H := by
  refine AFn.calm (fun H0 hs => ?_) rfl
  have hx0 := hx.same hs
  have hX0 := hX.same hs
  obtain ⟨iv, cv, sv, rfl, i1, i2, i3, h1, h2, h3⟩ := id hx0
  obtain ⟨wa, wc, rfl⟩ := hX.slice
  have hm := hX.max
  obtain ⟨n, hn⟩ : ∃ n : Nat, x.size = n := ⟨x.size.toNat, by have := hok.few.size0; omega⟩
  have hn4 : n ≤ 4096 := by have := hok.few.size; omega
  refine AFn.enter mixed ir_eval_covers_eq (by simp [ir_eval_covers]) fun hw => ?_
  have bc : (H0.alloc (.row (instC x iv cv sv) T_inst_Inst true)).cells H0.next = some (instC x iv cv sv) := AH.cells_alloc_new
  have k1 : Keep [] H0 (H0.alloc (.row (instC x iv cv sv) T_inst_Inst true)) := .alloc
  have w1 := WF.alloc hw (B := .row (instC x iv cv sv) T_inst_Inst true)
  have hX1 := hX0.kept hw k1
  have hs1 := h3.kept hw k1
  generalize hq : H0.next = q at *
  have hok : Bs.sizeOk n = true := by unfold Bs.sizeOk; simp; omega
  have hno : Bs.nOk n = n := by unfold Bs.nOk; rw [hok]; simp
  have heo : Bs.eOk n = 0 := by unfold Bs.eOk; rw [hok]; rfl
  simp (disch := omega) [-getElem?_pos, if_pos, if_neg, decide_eq_true, decide_eq_false, ir_eval_covers, hq, inst_cut]
  generalize H0.alloc (.row (instC x iv cv sv) T_inst_Inst true) = H1 at *
  simp only [instC] at bc
  simp (disch := omega) [-getElem?_pos, if_pos, if_neg, decide_eq_true, decide_eq_false, bc, hn]
  refine (Bs.New_spec (n : Int) ⟨by omega, by omega⟩).mono' fun u H2 w2 ⟨sl, S, hu, ho, k2, hS⟩ => ?_
  rw [hno, heo] at hu
  rw [hno] at ho
  subst hu
  have n2 := k2.next
  have hone := Bs.Own.one ho
  have hset : Bs.SetB (fun b => b < H2.next) H2 (.agg #[.int .i64 n, sl]) (List.replicate n false) := by
    have h0 : Bs.SetO H2 (.agg #[.int .i64 n, sl]) n (words (List.replicate n false)) S := ⟨sl, rfl, ho, hone⟩
    exact h0.setB (by simp) rfl (by omega) fun b hb => ho.lt w2 b hb
  have hsc : cellsOf sl = some [sl] := by obtain ⟨a, c, rfl⟩ := ho.slice; simp
  have bc2 := cells_kept w1 k2 bc
  have hqH := cells_lt w1 bc
  simp (disch := omega) [-getElem?_pos, if_pos, if_neg, decide_eq_true, decide_eq_false, hone, hsc, writeA, over]
  generalize hH3 : AH.alloc H2 _ = H3
  have k3 : Keep [] H2 H3 := by rw [← hH3]; exact .alloc
  have w3 : WF H3 := by rw [← hH3]; exact w2.alloc
  have n3 : H3.next = H2.next + 1 := by rw [← hH3]; simp
  have b3 : H3.blk H2.next = some (.row [.int .i64 n, sl] T_bitset_Set true) := by rw [← hH3]; simp
  clear hH3
  have hset3 := (hset.kept w2 k3).mono (q := fun b => b ≠ H2.next) fun b hb => by omega
  refine wpC_use (covers_l1 (H1 := H2) (q := H2.next) (qx := q) (n := n) (X := X) (iv := iv) (cv := cv) (sv := sv) w2 (Nat.le_refl _) bc2 (hs1.kept w1 k2) (hX1.kept w1 k2) hR ⟨by simp, by simp, by simp, by simp, by simp, ⟨w3, k3, by omega, sl, List.replicate n false, b3, hset3, by simp, fun j hj => by simp [hj]⟩⟩) ?_
  rintro e env2 H4 ⟨rfl, e2, e5, ⟨w4, k4, _, sl4, B, b4, hS4, hBl, hP⟩⟩ hu
  have hfin : x.cov X = decide (B.count true = n) := by
    unfold InstD.cov
    have hiff : ((List.range x.size.toNat).all fun e => X.any fun i => (x.setE i).elems.contains (e : Int)) = true ↔ B.count true = n := by
      conv => rhs; rhs; rw [← hBl]
      rw [all_count, hBl, hn]
      simp only [Int.toNat_natCast, List.all_eq_true, List.mem_range, List.any_eq_true, List.contains_iff_mem]
      exact ⟨fun h j hj => (hP j hj).2 (h j hj), fun h j hj => (hP j hj).1 (h j hj)⟩
    by_cases h : B.count true = n
    · rw [hiff.2 h]; simp [h]
    · rw [Bool.eq_false_iff.2 (fun hc => h (hiff.1 hc))]; simp [h]
  have c4 := AH.cells_of b4
  have hcut : cut [Value.int .i64 n, sl4] 0 2 = some [.int .i64 n, sl4] := by simp [cut]
  have hCnt := Bs.Count_spec hS4
  have bc4 := cells_kept w2 k4 bc2
  rw [hfin]
  generalize B.count true = cB at *
  simp (disch := omega) [-getElem?_pos, if_pos, if_neg, decide_eq_true, decide_eq_false, e2, e5, c4, hcut, bc4, hn]
  refine AFnD.of hCnt ?_
  simp (disch := omega) [-getElem?_pos, if_pos, if_neg, decide_eq_true, decide_eq_false, hn]
  omega
end Go.Proofs.YtlcddhgfkkjhkaaDoor
