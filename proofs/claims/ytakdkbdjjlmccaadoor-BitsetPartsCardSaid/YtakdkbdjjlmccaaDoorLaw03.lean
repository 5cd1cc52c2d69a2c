/-
  The statements of layer 3: what they are made of ('made', 'same').
-/
import Derived.Test.YtakdkbdjjlmccaaDoorRefB
set_option maxRecDepth 100000
set_option linter.unusedSimpArgs false
set_option linter.unusedVariables false
namespace Go.Proofs.YtakdkbdjjlmccaaDoor
open Go Go.Abs
theorem idxTo_count (B : List Bool) (m : Nat) (h : m ≤ B.length) : (idxTo B m).length = (B.take m).count true := by
  induction m with
  | zero => simp [idxTo]
  | succ m ih =>
    have e : B.take (m + 1) = B.take m ++ [B[m]] := by rw [List.take_succ_eq_append_getElem]
    rw [e, List.count_append, ← ih (by omega)]
    cases hb : B[m] with
    | true =>
      rw [idxTo_take (by rw [List.getD_eq_getElem?_getD, List.getElem?_eq_getElem (by omega), hb]; rfl)]
      simp
    | false =>
      rw [idxTo_skip (m := m) (k := m + 1) (by omega) fun j h1 h2 => by rw [show j = m by omega, List.getD_eq_getElem?_getD, List.getElem?_eq_getElem (by omega), hb]; rfl]
      simp
theorem idxs_count (B : List Bool) : (idxs B).length = B.count true := by
  unfold idxs; rw [idxTo_count B _ (Nat.le_refl _), List.take_of_length_le (Nat.le_refl _)]
def SameI (H0 : AH) (lv mv : Value) (n : Nat) (k : Nat) (env : Env) (H' : AH) : Prop :=
  H' = H0 ∧ env 5 = some lv ∧ env 6 = some mv ∧ env 32 = some (.int .i64 (n : Nat)) ∧ env 33 = some (.int .i64 k)
theorem same_spec {p q : Nat → Prop} {H : AH} {sv tv : Value} {A : List Bool} (hg : GroundA G H) (hA : SetB p H sv A) (hB : BoolsV q H tv A) : AFn Tryd.prog F_law03_same [sv, tv] H fun u H' => u = .bool true ∧ H' = H := by
  refine AFn.calm (fun H0 hs => ?_) rfl
  have hA := hA.same hs
  have hB := hB.same hs
  have hg := hg.same hs
  obtain ⟨sl, rfl, _, hl4⟩ := id hA
  obtain ⟨a, c, rfl⟩ := hB.1.slice
  refine AFn.enter mixed ir_law03_same_eq (by simp [ir_law03_same]) fun hw => ?_
  simp (disch := omega) [-getElem?_pos, if_pos, if_neg, decide_eq_true, decide_eq_false, ir_law03_same, cut]
  generalize hH1 : H0.alloc (.row [.int .i64 A.length, sl] T_bitset_Set true) = H1
  have hk1 : Keep [] H0 H1 := by rw [← hH1]; exact .alloc
  have hw1 : WF H1 := by rw [← hH1]; exact hw.alloc
  have hc1 : H1.cells H0.next = some [.int .i64 A.length, sl] := by rw [← hH1]; simp
  refine (List_spec (hg.kept hw hk1) (hA.kept hw hk1)).mono' fun lv H2 w2 ⟨S, o2, k2, hS⟩ => ?_
  have hc2 := cells_kept hw1 k2 hc1
  have hk2 := hk1.trans' k2
  simp (disch := omega) [-getElem?_pos, if_pos, if_neg, decide_eq_true, decide_eq_false, ]
  refine (RefList_spec (hB.kept hw hk2)).mono' fun mv H3 w3 ⟨S3, o3, k3, hS3⟩ => ?_
  have hc3 := cells_kept w2 k3 hc2
  have hk3 := hk2.trans' k3
  have v2 := (o2.vw (p := fun _ => True) fun _ _ => trivial).kept w2 k3
  have v3 := o3.vw (p := fun _ => True) fun _ _ => trivial
  obtain ⟨a2, c2, rfl⟩ := v2.slice
  obtain ⟨a3, c3, rfl⟩ := v3.slice
  simp (disch := omega) [-getElem?_pos, if_pos, if_neg, decide_eq_true, decide_eq_false, hc3, cut]
  refine AFn.pure (Size_spec (hA.kept hw hk3)) ?_
  simp (disch := omega) [-getElem?_pos, if_pos, if_neg, decide_eq_true, decide_eq_false, hc3, cut]
  refine AFn.pure (Count_spec (hA.kept hw hk3)) ?_
  have hcnt := idxs_count A
  have hcl := count_le A
  generalize hn : (idxs A).length = n at *
  simp (disch := omega) [-getElem?_pos, if_pos, if_neg, decide_eq_true, decide_eq_false, ← hcnt]
  refine wpC_use (loop_upto n (SameI H3 (.slice a2 n c2) (.slice a3 n c3) n) (Q := fun e env H' => e = .exit 0) ⟨rfl, by simp, by simp, by simp, by simp⟩ ?_) fun e env2 H4 he _ => ?_
  · rintro k env H' hk ⟨rfl, e5, e6, e32, e33⟩
    by_cases hkn : k < n
    · obtain ⟨b1, o1, s1, d1, cs1, hsl1, _, _, q1, _, q2, _⟩ := v2.at (by omega)
      obtain ⟨b3, o3', s3, d3, cs3, hsl3, _, _, r1, _, r2, _⟩ := v3.at (by omega)
      cases hsl1
      cases hsl3
      obtain ⟨x, hx⟩ : ∃ x : Nat, ((idxs A).map fun k => Value.int .i64 (k : Nat))[k]? = some (.int .i64 x) := by
        rw [List.getElem?_map, List.getElem?_eq_getElem (by omega)]; exact ⟨_, rfl⟩
      have g1 := q2 k (by omega)
      have g3 := r2 k (by omega)
      rw [hx] at g1 g3
      simp (disch := omega) [-getElem?_pos, if_pos, if_neg, decide_eq_true, decide_eq_false, ir_law03_same_l0, e5, e6, e32, e33, q1, r1, g1, g3, IntWalk.i64_in]
      exact ⟨hkn, rfl, by simp [e5], by simp [e6], by simp [e32], by simp⟩
    · simp (disch := omega) [-getElem?_pos, if_pos, if_neg, decide_eq_true, decide_eq_false, ir_law03_same_l0, e32, e33]
  · subst he
    simp (disch := omega) [-getElem?_pos, if_pos, if_neg, decide_eq_true, decide_eq_false, ]
def MadeP (H : AH) (n : Nat) (u : Value) (H' : AH) : Prop :=
  ∃ sv tv B, u = .tuple #[sv, tv] ∧ B.length = n ∧ SetB (fun b => H.next < b) H' sv B ∧ BoolsV (fun b => H.next < b) H' tv B ∧ Keep [] H H'
theorem made_size (size : Int) (h : -9223372036854775808 ≤ size ∧ size ≤ 9223372036854775807) : ∃ n : Nat, n < 200 ∧ (if size > 0 then size else 0).tmod 200 = (n : Int) ∧ n = size.toNat % 200 := by
  refine ⟨size.toNat % 200, by omega, ?_, rfl⟩
  split
  · rw [Int.tmod_eq_emod_of_nonneg (by omega)]; omega
  · simp; omega
def MadeI (H : AH) (p6 n : Nat) (lv : Value) (m : Nat) (k : Nat) (env : Env) (H' : AH) : Prop :=
  WF H' ∧ Keep [] H H' ∧ p6 < H'.next ∧ H'.blk H.next = some (.row [.int .i64 0, .slice none 0 0] T_bitset_Set true) ∧ env 4 = some (.pointer (some ⟨H.next, 0, none⟩)) ∧ env 6 = some (.pointer (some ⟨p6, 0, none⟩)) ∧ env 25 = some lv ∧ env 26 = some (.int .i64 (m : Nat)) ∧ env 27 = some (.int .i64 k) ∧
    ∃ sl tv B, B.length = n ∧ env 8 = some tv ∧ H'.blk p6 = some (.row [.int .i64 (n : Nat), sl] T_bitset_Set true) ∧ SetB (fun b => H.next < b ∧ b ≠ p6) H' (.agg #[.int .i64 (n : Nat), sl]) B ∧ BoolsV (fun b => H.next < b ∧ b ≠ p6) H' tv B
theorem made_l0 {env : Env} {H H' : AH} {p6 n m : Nat} {lv : Value} {l : List Int} (hw : WF H) (hrd : Rd H 1 lv m (l.map (.int .i64))) (hp : H.next < p6) (hn : n < 200) (hm : m ≤ 100) (h : MadeI H p6 n lv m 0 env H') :
    wpC Tryd.prog 40 (.loop ir_law03_made_l0) (fun e env H' => e = .exit 0 ∧ ∃ k, MadeI H p6 n lv m k env H') env H' := by
  have hl : l.length = m := by have := hrd.len; simpa using this
  refine loop_upto m (MadeI H p6 n lv m) h ?_
  intro k env H' hk hI
  by_cases hkn : k < m
  · obtain ⟨w', k', hp6, d0, e4, e6, e25, e26, e27, sl, tv, B, hB, e8, d6, hS, hT⟩ := hI
    obtain ⟨b, off, cap, cs, rfl, q1, q2, q3, q4, q5⟩ := (hrd.kept hw k').at (by omega)
    have hx : cs[off + k]? = some (.int .i64 (l[k]'(by omega))) := by rw [q4 k (by omega), List.getElem?_map, List.getElem?_eq_getElem (by omega)]; rfl
    generalize l[k]'(by omega) = x at hx
    simp (disch := omega) [-getElem?_pos, if_pos, if_neg, decide_eq_true, decide_eq_false, ir_law03_made_l0, e4, e6, e25, e26, e27, q2, hx, AH.cells_of d6, cut]
    refine (With_spec hS x).mono' fun u H2 w2 ⟨hS2, k2⟩ => ?_
    simp (disch := omega) [-getElem?_pos, if_pos, if_neg, decide_eq_true, decide_eq_false, e8]
    refine (RefWith_spec (hT.kept w' k2) x true).mono' fun tv2 H3 w3 ⟨hT3, k3⟩ => ?_
    have hk2 := k2.next
    have hk3 := k3.next
    have hk0 := k'.next
    have d6' : H3.blk p6 = some (.row [.int .i64 (n : Nat), sl] T_bitset_Set true) := by rw [k3.blk _ (by omega) (by simp), k2.blk _ (by omega) (by simp), d6]
    have d0' : H3.blk H.next = some (.row [.int .i64 0, .slice none 0 0] T_bitset_Set true) := by rw [k3.blk _ (by omega) (by simp), k2.blk _ (by omega) (by simp), d0]
    have hS3 : SetB (fun b => H.next < b ∧ b ≠ p6) H3 u (setB B x true) := (hS2.kept w2 k3).mono fun b hb => by rcases hb with hb | hb <;> omega
    have hT3' : BoolsV (fun b => H.next < b ∧ b ≠ p6) H3 tv2 (setB B x true) := hT3.mono fun b hb => by omega
    have hlen := setB_length B x true
    obtain ⟨sl2, rfl, v2, v3⟩ := id hS3
    rw [hlen, hB] at hS3
    simp only [hlen, hB]
    simp (disch := omega) [-getElem?_pos, if_pos, if_neg, decide_eq_true, decide_eq_false, e4, e6, e8, e25, e26, e27, writeA, d6', IntWalk.i64_in]
    refine ⟨hkn, w3.set (by omega), .new_set (by omega) (k'.trans' (k2.trans' k3)), by simp; omega, by rw [AH.set_blk_ne (by omega)]; exact d0', by simp [e4], by simp [e6], by simp [e25], by simp [e26], by simp, sl2, tv2, setB B x true, by omega, by simp, by simp, hS3.over fun b hb => AH.cells_set_ne hb.2, hT3'.over fun b hb => AH.cells_set_ne hb.2⟩
  · have hI' := hI
    obtain ⟨w', k', hp6, d0, e4, e6, e25, e26, e27, _⟩ := hI
    simp (disch := omega) [-getElem?_pos, if_pos, if_neg, decide_eq_true, decide_eq_false, ir_law03_made_l0, e26, e27]
    exact ⟨k, hI'⟩
theorem MadeP.of {H : AH} {p6 n : Nat} {H' : AH} {sl tv : Value} {B : List Bool} (hp : H.next < p6) (w' : WF H') (k' : Keep [] H H') (hB : B.length = n)
    (hS : SetB (fun b => H.next < b ∧ b ≠ p6) H' (.agg #[.int .i64 (n : Nat), sl]) B) (hT : BoolsV (fun b => H.next < b ∧ b ≠ p6) H' tv B) :
    MadeP H n (.tuple #[.agg #[.int .i64 (n : Nat), sl], tv]) (H'.set H.next (.row [.int .i64 (n : Nat), sl] T_bitset_Set true)) :=
  ⟨_, _, B, rfl, hB, (hS.over fun b hb => AH.cells_set_ne (by omega)).mono fun b hb => hb.1, (hT.over fun b hb => AH.cells_set_ne (by omega)).mono fun b hb => hb.1, .new_set (by omega) k'⟩
theorem zeros_bool (n : Nat) : zeros [Value.bool false] n = (List.replicate n false).map .bool := by
  induction n with
  | zero => rfl
  | succ n ih => simp only [zeros, ih, List.replicate_succ, List.map_cons]; rfl
theorem made_spec {H : AH} {size : Int} {lv : Value} {m : Nat} {l : List Int} (hs : -9223372036854775808 ≤ size ∧ size ≤ 9223372036854775807) (hrd : Rd H 1 lv m (l.map (.int .i64))) (hm : m ≤ 9223372036854775807) :
    AFn Tryd.prog F_law03_made [.int .i64 size, lv] H (MadeP H (size.toNat % 200)) := by
  refine AFn.enter mixed ir_law03_made_eq (by simp [ir_law03_made]) fun hw => ?_
  obtain ⟨n, hn, hn1, hn2⟩ := made_size size hs
  rw [← hn2]
  simp (disch := omega) [-getElem?_pos, if_pos, if_neg, decide_eq_true, decide_eq_false, ir_law03_made, hn1]
  generalize hH1 : H.alloc (.row [.int .i64 0, .slice none 0 0] T_bitset_Set true) = H1
  have hk1 : Keep [] H H1 := by rw [← hH1]; exact .alloc
  have hn1 : H1.next = H.next + 1 := by rw [← hH1]; simp
  have hb1 : H1.blk H.next = some (.row [.int .i64 0, .slice none 0 0] T_bitset_Set true) := by rw [← hH1]; simp
  refine (New_spec (n : Int) (by omega)).mono' fun u H2 w2 ⟨sl, S, hu, o1, k2, hS⟩ => ?_
  have e1 : nOk (n : Int) = n := by simp [nOk, sizeOk]; omega
  have e2 : eOk (n : Int) = 0 := by simp [eOk, sizeOk]; omega
  rw [e1] at o1 hu
  rw [e2] at hu
  subst hu
  have hn2 := k2.next
  have hb2 : H2.blk H.next = some (.row [.int .i64 0, .slice none 0 0] T_bitset_Set true) := by rw [k2.blk _ (by omega) (by simp), hb1]
  obtain ⟨a, c, rfl⟩ := o1.slice
  have hS2 : ∀ b ∈ S, H.next < b ∧ b < H2.next := fun b hb => ⟨by have := hS b hb; omega, o1.lt w2 b hb⟩
  simp (disch := omega) [-getElem?_pos, if_pos, if_neg, decide_eq_true, decide_eq_false, writeA, cut, IntWalk.i64_in]
  generalize hH4 : (H2.alloc (.row [.int .i64 n, .slice a (nw n) c] T_bitset_Set true)).alloc (.row (zeros [Value.bool false] n) T_bool true) = H4
  have w4 : WF H4 := by rw [← hH4]; exact w2.alloc.alloc
  have k4 : Keep [] H H4 := by rw [← hH4]; exact .new_alloc (.new_alloc (hk1.trans' k2))
  have hn4 : H4.next = H2.next + 2 := by rw [← hH4]; simp
  have hd0 : H4.blk H.next = some (.row [.int .i64 0, .slice none 0 0] T_bitset_Set true) := by rw [← hH4, AH.alloc_blk_ne (by simp; omega), AH.alloc_blk_ne (by omega), hb2]
  have hd6 : H4.blk H2.next = some (.row [.int .i64 n, .slice a (nw n) c] T_bitset_Set true) := by rw [← hH4, AH.alloc_blk_ne (by simp)]; simp
  have hd7 : H4.cells (H2.next + 1) = some ((List.replicate n false).map .bool) := by rw [← hH4, ← zeros_bool]; simp
  have hS4 : SetB (fun b => H.next < b ∧ b ≠ H2.next) H4 (.agg #[.int .i64 (n : Nat), .slice a (nw n) c]) (List.replicate n false) := by
    refine SetO.setB (n := n) (ws := words (List.replicate n false)) (S := S) ⟨_, rfl, ?_, rfl⟩ (by simp) rfl (by omega) fun b hb => ⟨(hS2 b hb).1, by have := hS2 b hb; omega⟩
    exact o1.keep fun b hb => by have := hS2 b hb; rw [← hH4, AH.alloc_blk_ne (by simp; omega), AH.alloc_blk_ne (by omega)]
  have hT4 : BoolsV (fun b => H.next < b ∧ b ≠ H2.next) H4 (.slice (some ⟨H2.next + 1, 0, none⟩) n n) (List.replicate n false) := by
    refine ⟨⟨by simp, .inr ⟨H2.next + 1, 0, none, n, _, by simp, by simp, .inl rfl, hd7, ?_, by omega⟩⟩, by simp; omega⟩
    rw [cut_eq (by simp)]
    simp
  have main : ∀ (lv' : Value) (m' : Nat) (l' : List Int), Rd H 1 lv' m' (l'.map (.int .i64)) → m' ≤ 100 → ∀ env, env 4 = some (.pointer (some ⟨H.next, 0, none⟩)) → env 6 = some (.pointer (some ⟨H2.next, 0, none⟩)) → env 8 = some (.slice (some ⟨H2.next + 1, 0, none⟩) n n) → env 25 = some lv' → env 26 = some (.int .i64 (m' : Nat)) → env 27 = some (.int .i64 0) →
      wpC Tryd.prog 40 (.loop ir_law03_made_l0) (blockK 0 (nextK Tryd.prog 40 ((ACode.region [⟨some 38, .loadN 2 (.tmp 6), none⟩, ⟨some 39, .mv (.tmp 8), none⟩, ⟨none, .storeN 2 (.tmp 4) (.tmp 38), none⟩, ⟨some 5, .mv (.tmp 39), none⟩] false).seq .ret) (bodyK [ARes.cellN 2 4, ARes.tmp 5] (MadeP H n)))) env H4 := by
    intro lv' m' l' hrd' hm' env q4 q6 q8 q25 q26 q27
    refine wpC_use (made_l0 hw hrd' (p6 := H2.next) (by omega) hn hm' ⟨w4, k4, by omega, hd0, q4, q6, q25, q26, q27, .slice a (nw n) c, _, _, by simp, q8, hd6, hS4, hT4⟩) fun e env2 H5 ⟨he, k, w5, k5, g1, g2, g4, g6, g25, g26, g27, sl5, tv5, B5, r1, r2, r3, r4, r5⟩ _ => ?_
    subst he
    simp (disch := omega) [-getElem?_pos, if_pos, if_neg, decide_eq_true, decide_eq_false, g4, g6, r2, AH.cells_of r3, g2, cut, writeA]
    exact MadeP.of (p6 := H2.next) (by omega) w5 k5 r1 r4 r5
  clear hd7 hH4 hS4 hT4 hd0 hd6
  rcases hrd with ⟨rfl, rfl, hc⟩ | ⟨rfl, rfl, hc⟩ | ⟨b, off, cap, cs, rfl, q1, q2, q3⟩
  · simp (disch := omega) [-getElem?_pos, if_pos, if_neg, decide_eq_true, decide_eq_false, ]
    exact main _ 0 [] .nil (by omega) _ (by simp) (by simp) (by simp) (by simp) (by simp) (by simp)
  · simp (disch := omega) [-getElem?_pos, if_pos, if_neg, decide_eq_true, decide_eq_false, ]
    exact main _ 0 [] (.inr (.inl ⟨rfl, rfl, rfl⟩)) (by omega) _ (by simp) (by simp) (by simp) (by simp) (by simp) (by simp)
  · obtain ⟨mn, hmn⟩ : ∃ mn : Nat, mn = min m 100 := ⟨_, rfl⟩
    have hmn1 : mn ≤ m ∧ mn ≤ 100 := by omega
    have hif : (if (100 : Int) < m then (100 : Int) else m) = mn := by split <;> omega
    have hrd2 : Rd H 1 (.slice (some ⟨b, off, none⟩) mn cap) mn ((l.take mn).map (.int .i64)) := by
      rw [List.map_take]
      have := Rd.first (.inr (.inr ⟨b, off, cap, cs, rfl, q1, q2, q3⟩)) hmn1.1
      rw [Nat.mul_one] at this
      exact this
    simp (disch := omega) [-getElem?_pos, if_pos, if_neg, decide_eq_true, decide_eq_false, hif]
    exact main _ mn (l.take mn) hrd2 hmn1.2 _ (by simp) (by simp) (by simp) (by simp) (by simp) (by simp)
end Go.Proofs.YtakdkbdjjlmccaaDoor
