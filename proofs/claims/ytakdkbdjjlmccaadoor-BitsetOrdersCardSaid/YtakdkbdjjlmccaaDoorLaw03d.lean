/-
  BitsetOrders: the walk.
-/
import Derived.Test.YtakdkbdjjlmccaaDoorLaw03c
import Derived.Test.YtakdkbdjjlmccaaDoorBitSet6
set_option maxRecDepth 100000
set_option linter.unusedSimpArgs false
set_option linter.unusedVariables false
namespace Go.Proofs.YtakdkbdjjlmccaaDoor
open Go Go.Abs

theorem one_of (A B : List Bool) : eachB (fun a b => a && !b) (eachB (fun a b => a || b) A B) (eachB (fun a b => a && b) A B) = eachB (fun a b => a ^^ b) A B := by
  unfold eachB
  rw [List.length_map, List.length_range]
  refine List.map_congr_left fun i hi => ?_
  have hi' : i < A.length := by simpa using hi
  have e1 := eachB_get (fun a b => a || b) A B i
  have e2 := eachB_get (fun a b => a && b) A B i
  rw [if_pos hi'] at e1 e2
  unfold eachB at e1 e2
  rw [e1, e2]
  cases A.getD i false <;> cases B.getD i false <;> rfl

/-- How many of some numbers are below one. -/
def below (l : List Nat) (i : Int) : Nat := (l.filter fun (k : Nat) => decide ((k : Int) < i)).length
theorem below_append (l m : List Nat) (i : Int) : below (l ++ m) i = below l i + below m i := by simp [below]
theorem below_idxTo (A : List Bool) (i : Int) (n : Nat) (h : n ≤ A.length) : below (idxTo A n) i = (A.take (min i.toNat n)).count true := by
  induction n with
  | zero => simp [idxTo, below]
  | succ n ih =>
    have ih := ih (by omega)
    have hn : n < A.length := by omega
    have et : A.take (n + 1) = A.take n ++ [A[n]] := by rw [List.take_succ_eq_append_getElem]
    have eg : A.getD n false = A[n] := by rw [List.getD_eq_getElem?_getD, List.getElem?_eq_getElem hn]; rfl
    by_cases hlt : (n : Int) < i
    · rw [show min i.toNat (n + 1) = n + 1 by omega, et, List.count_append]
      rw [show min i.toNat n = n by omega] at ih
      cases hb : A[n] with
      | true => rw [idxTo_take (by rw [eg, hb]), below_append, ih]; simp [below, hlt]
      | false => rw [idxTo_skip (m := n) (k := n + 1) (by omega) (fun j h1 h2 => by rw [show j = n by omega, eg, hb]), ih]; simp
    · rw [show min i.toNat (n + 1) = min i.toNat n by omega, ← ih]
      cases hb : A[n] with
      | true => rw [idxTo_take (by rw [eg, hb]), below_append]; simp [below, hlt]
      | false => rw [idxTo_skip (m := n) (k := n + 1) (by omega) (fun j h1 h2 => by rw [show j = n by omega, eg, hb])]
theorem below_idxs (A : List Bool) (i : Int) : below (idxs A) i = (A.take i.toNat).count true := by
  unfold idxs
  rw [below_idxTo A i _ (Nat.le_refl _)]
  by_cases h : i.toNat ≤ A.length
  · rw [Nat.min_eq_left h]
  · rw [Nat.min_eq_right (by omega), List.take_of_length_le (Nat.le_refl _), List.take_of_length_le (by omega)]

def OrdI0 (Hc : AH) (p7 : Nat) (lv v87 : Value) (l : List Nat) (n87 k87 : Nat) (i : Int) (k : Nat) (env : Env) (H' : AH) : Prop :=
  H' = Hc ∧ env 7 = some (.pointer (some ⟨p7, 0, none⟩)) ∧ env 12 = some lv ∧ env 15 = some (.int .i64 i) ∧ env 16 = some (.int .i64 (below (l.take k) i : Nat)) ∧ env 87 = some v87 ∧ env 88 = some (.int .i64 (n87 : Nat)) ∧ env 89 = some (.int .i64 (k87 : Nat)) ∧
    env 93 = some lv ∧ env 94 = some (.int .i64 (l.length : Nat)) ∧ env 95 = some (.int .i64 (k : Nat))

theorem orders_l0 {env : Env} {Hc : AH} {p7 n87 k87 : Nat} {lv v87 : Value} {l : List Nat} {i : Int} {p : Nat → Prop} (hv : Vw p Hc 1 lv l.length (l.map fun k => .int .i64 (k : Nat))) (hl : l.length ≤ 4096) (h : OrdI0 Hc p7 lv v87 l n87 k87 i 0 env Hc) :
    wpC Tryd.prog 112 (.loop ir_law03_BitsetOrders_l0) (fun e env H' => e = .exit 2 ∧ OrdI0 Hc p7 lv v87 l n87 k87 i l.length env H') env Hc := by
  refine loop_upto l.length (OrdI0 Hc p7 lv v87 l n87 k87 i) h ?_
  intro k env H' hk hI
  have hI' := hI
  obtain ⟨rfl, e7, e12, e15, e16, e87, e88, e89, e93, e94, e95⟩ := hI
  by_cases hkn : k < l.length
  · obtain ⟨b, off, sp, cap, cs, rfl, _, _, q1, _, q2, _⟩ := hv.at (by omega)
    have hx : cs[off + k]? = some (.int .i64 (l[k] : Nat)) := by rw [q2 k (by omega), List.getElem?_map, List.getElem?_eq_getElem hkn]; rfl
    have ht : l.take (k + 1) = l.take k ++ [l[k]] := by rw [List.take_succ_eq_append_getElem]
    have hle : below (l.take k) i ≤ 4096 := Nat.le_trans (List.length_filter_le _ _) (by simp; omega)
    have hb := below_append (l.take k) [l[k]] i
    rw [← ht] at hb
    generalize l[k] = x at *
    by_cases hlt : (x : Int) < i
    · have h1 : below [x] i = 1 := by simp [below, hlt]
      rw [h1] at hb
      simp (disch := omega) [-getElem?_pos, if_pos, if_neg, decide_eq_true, decide_eq_false, ir_law03_BitsetOrders_l0, e15, e16, e93, e94, e95, q1, hx, hlt, IntWalk.i64_in]
      exact ⟨hkn, rfl, by simp [e7], by simp [e12], by simp [e15], by simp [hb], by simp [e87], by simp [e88], by simp [e89], by simp [e93], by simp [e94], by simp⟩
    · have h1 : below [x] i = 0 := by simp [below, hlt]
      rw [h1] at hb
      simp (disch := omega) [-getElem?_pos, if_pos, if_neg, decide_eq_true, decide_eq_false, ir_law03_BitsetOrders_l0, e15, e16, e93, e94, e95, q1, hx, hlt, IntWalk.i64_in]
      exact ⟨hkn, rfl, by simp [e7], by simp [e12], by simp [e15], by simp [e16, hb], by simp [e87], by simp [e88], by simp [e89], by simp [e93], by simp [e94], by simp⟩
  · obtain rfl : k = l.length := by omega
    simp (disch := omega) [-getElem?_pos, if_pos, if_neg, decide_eq_true, decide_eq_false, ir_law03_BitsetOrders_l0, e94, e95]
    exact hI'

def OrdI1 (Hc : AH) (p7 : Nat) (lv v87 : Value) (n87 : Nat) (k : Nat) (env : Env) (H' : AH) : Prop :=
  H' = Hc ∧ env 7 = some (.pointer (some ⟨p7, 0, none⟩)) ∧ env 12 = some lv ∧ env 87 = some v87 ∧ env 88 = some (.int .i64 (n87 : Nat)) ∧ env 89 = some (.int .i64 (k : Nat))

theorem orders_l1 {env : Env} {Hc : AH} {p7 : Nat} {lv v87 : Value} {A : List Bool} {xs : List Int} {p q : Nat → Prop} {sla : Value} (hA : SetB p Hc (.agg #[.int .i64 A.length, sla]) A) (c7 : Hc.cells p7 = some [.int .i64 A.length, sla]) (hA4 : A.length ≤ 4096)
    (hv : Vw p Hc 1 lv (idxs A).length ((idxs A).map fun k => .int .i64 (k : Nat))) (hx : Vw q Hc 1 v87 xs.length (xs.map (.int .i64))) (hn : xs.length ≤ 1000) (h : OrdI1 Hc p7 lv v87 xs.length 0 env Hc) :
    wpC Tryd.prog 112 (.loop ir_law03_BitsetOrders_l1) (fun e env H' => e = .exit 0 ∧ H' = Hc) env Hc := by
  have hll : (idxs A).length ≤ 4096 := by rw [idxs_count]; exact Nat.le_trans (count_le A) hA4
  obtain ⟨al, cl, rfl⟩ := hv.slice
  refine loop_upto xs.length (OrdI1 Hc p7 _ v87 xs.length) h ?_
  rintro k env H' hk ⟨rfl, e7, e12, e87, e88, e89⟩
  by_cases hkn : k < xs.length
  · obtain ⟨b, off, sp, cap, cs, rfl, _, _, q1, _, q2, _⟩ := hx.at (by omega)
    have hxk : cs[off + k]? = some (.int .i64 xs[k]) := by rw [q2 k (by omega), List.getElem?_map, List.getElem?_eq_getElem hkn]; rfl
    generalize xs[k] = i at *
    simp (disch := omega) [-getElem?_pos, if_pos, if_neg, decide_eq_true, decide_eq_false, ir_law03_BitsetOrders_l1, e7, e12, e87, e88, e89, q1, hxk]
    refine wpC_use (orders_l0 (p7 := p7) (i := i) (n87 := xs.length) (k87 := k) (v87 := .slice (some ⟨b, off, sp⟩) xs.length cap) hv hll ⟨rfl, by simp [e7], by simp [e12], by simp, by simp [below], by simp [e87], by simp [e88], by simp [e89], by simp, by simp, by simp⟩) fun e env2 H2 ⟨he, rfl, g7, g12, g15, g16, g87, g88, g89, g93, g94, g95⟩ _ => ?_
    subst he
    rw [List.take_of_length_le (Nat.le_refl _), below_idxs] at g16
    simp (disch := omega) [-getElem?_pos, if_pos, if_neg, decide_eq_true, decide_eq_false, g7, g15, c7, cut]
    refine AFn.pure (Rank_spec hA i) ?_
    simp (disch := omega) [-getElem?_pos, if_pos, if_neg, decide_eq_true, decide_eq_false, g16, g89, IntWalk.i64_in]
    exact ⟨hkn, rfl, by simp [g7], by simp [g12], by simp [g87], by simp [g88], by simp⟩
  · simp (disch := omega) [-getElem?_pos, if_pos, if_neg, decide_eq_true, decide_eq_false, ir_law03_BitsetOrders_l1, e88, e89]

theorem Orders_spec {H : AH} (hg : GroundA G H) {s1 s2 : Int} {lv mv : Value} {m n : Nat} {l l2 : List Int} (hs1 : -9223372036854775808 ≤ s1 ∧ s1 ≤ 9223372036854775807) (hs2 : -9223372036854775808 ≤ s2 ∧ s2 ≤ 9223372036854775807)
    (hl : Rd H 1 lv m (l.map (.int .i64))) (hm : m ≤ 9223372036854775807) (hl2 : Rd H 1 mv n (l2.map (.int .i64))) (hn : n ≤ 9223372036854775807) :
    AFn Tryd.prog F_law03_BitsetOrders [.agg #[.int .i64 s1, .int .i64 s2], lv, mv] H (JoinsPost H) := by
  refine AFn.enter mixed ir_law03_BitsetOrders_eq (by simp [ir_law03_BitsetOrders]) fun hw => ?_
  simp (disch := omega) [-getElem?_pos, if_pos, if_neg, decide_eq_true, decide_eq_false, ir_law03_BitsetOrders]
  generalize hH1 : H.alloc (.row [.int .i64 s1, .int .i64 s2] T_2_int true) = H1
  have hk1 : Keep [] H H1 := by rw [← hH1]; exact .alloc
  have hw1 : WF H1 := by rw [← hH1]; exact hw.alloc
  have hc1 : H1.cells H.next = some [.int .i64 s1, .int .i64 s2] := by rw [← hH1]; simp
  have hn1 : H1.next = H.next + 1 := by rw [← hH1]; simp
  refine (made_spec hs1 (hl.kept hw hk1) hm).mono' fun u H2 w2 ⟨sa, ta, A, hu, hAl, hA, hTA, k2⟩ => ?_
  subst hu
  obtain ⟨sla, rfl, _, hA4⟩ := id hA
  simp (disch := omega) [-getElem?_pos, if_pos, if_neg, decide_eq_true, decide_eq_false, writeA]
  generalize hH3 : H2.alloc (.row [.int .i64 A.length, sla] T_bitset_Set true) = H3
  have k3 : Keep [] H2 H3 := by rw [← hH3]; exact .alloc
  have w3 : WF H3 := by rw [← hH3]; exact w2.alloc
  have c7 : H3.cells H2.next = some [.int .i64 A.length, sla] := by rw [← hH3]; simp
  have hc3 := cells_kept w2 k3 (cells_kept hw1 k2 hc1)
  have k03 := hk1.trans' (k2.trans' k3)
  have hc2 := cells_kept hw1 k2 hc1
  have hk2n := k2.next
  simp (disch := omega) [-getElem?_pos, if_pos, if_neg, decide_eq_true, decide_eq_false, hc2]
  refine (made_spec hs2 (hl2.kept hw k03) hn).mono' fun u H4 w4 ⟨sb, tb, B, hu, hBl, hB, hTB, k4⟩ => ?_
  subst hu
  obtain ⟨slb, rfl, _, hB4⟩ := id hB
  simp (disch := omega) [-getElem?_pos, if_pos, if_neg, decide_eq_true, decide_eq_false, writeA]
  generalize hHb : H4.alloc (.row [.int .i64 B.length, slb] T_bitset_Set true) = Hb
  have kb : Keep [] H4 Hb := by rw [← hHb]; exact .alloc
  have wb : WF Hb := by rw [← hHb]; exact w4.alloc
  have c9 : Hb.cells H4.next = some [.int .i64 B.length, slb] := by rw [← hHb]; simp
  have c74 := cells_kept w3 k4 c7
  have hne : H2.next < H4.next := by have := k4.next; rw [← hH3] at this; simp at this; omega
  have c7 := cells_kept w4 kb c74
  have hA := ((hA.kept w2 k3).kept w3 k4).kept w4 kb
  have hTA := ((hTA.kept w2 k3).kept w3 k4).kept w4 kb
  have hB := hB.kept w4 kb
  have hTB := hTB.kept w4 kb
  have k0 := k03.trans' (k4.trans' kb)
  have hgb := hg.kept hw k0
  clear hc1 hc3 hHb hH3 hH1 k2 k3 k4 kb k03 hk1
  generalize H2.next = p7 at *
  generalize H4.next = p9 at *
  have hA := hA.mono (q := fun _ => True) fun _ _ => trivial
  have hB := hB.mono (q := fun _ => True) fun _ _ => trivial
  obtain ⟨aa, ca, rfl⟩ := hTA.1.slice
  obtain ⟨ab, cb, rfl⟩ := hTB.1.slice

  refine (RefEach_spec hTA hTB 0 (by omega)).mono' fun u5 H5 w5 ⟨r5, k5⟩ => ?_
  rw [eachOp_or] at r5
  simp (disch := omega) [-getElem?_pos, if_pos, if_neg, decide_eq_true, decide_eq_false, ]
  refine (RefEach_spec (hTA.kept wb k5) (hTB.kept wb k5) 1 (by omega)).mono' fun u6 H6 w6 ⟨r6, k6⟩ => ?_
  have kk6 := k5.trans' k6
  rw [eachOp_and] at r6
  simp (disch := omega) [-getElem?_pos, if_pos, if_neg, decide_eq_true, decide_eq_false, ]
  refine (RefEach_spec (r5.kept w5 k6) r6 2 (by omega)).mono' fun u7 H7 w7 ⟨r7, k7⟩ => ?_
  have kk7 := kk6.trans' k7
  rw [eachOp_less, one_of] at r7
  simp (disch := omega) [-getElem?_pos, if_pos, if_neg, decide_eq_true, decide_eq_false, ]
  refine (RefList_spec (hTA.kept wb kk7)).mono' fun u8 H8 w8 ⟨S8, o8, k8, _⟩ => ?_
  have kk8 := kk7.trans' k8
  have v8 := o8.vw (p := fun _ => True) fun _ _ => trivial
  obtain ⟨a8, c8, rfl⟩ := v8.slice
  have hl2' := hl2
  rcases idxTo_last A A.length with ⟨he, hlast⟩ | ⟨pre, kl, he, hlast⟩
  · have hlast : lastB A = -1 := hlast
    have h0 : (idxs A).length = 0 := by rw [show idxs A = idxTo A A.length from rfl, he]; rfl
    simp (disch := omega) [-getElem?_pos, if_pos, if_neg, decide_eq_true, decide_eq_false, c74, c7, c9, cut, h0, cells_kept wb kk8 c7, cells_kept wb kk8 c9]
    refine (Xor_spec (hA.kept wb kk8) (hB.kept wb kk8)).mono' fun u9 H9 w9 ⟨r9, k9⟩ => ?_
    have kk9 := kk8.trans' k9
    simp (disch := omega) [-getElem?_pos, if_pos, if_neg, decide_eq_true, decide_eq_false, ]
    refine AFn.pure (same_spec (hgb.kept wb kk9) r9 ((r7.kept w7 k8).kept w8 k9)) ?_
    have d7 := cells_kept wb kk9 c7
    have d9 := cells_kept wb kk9 c9
    have hA9 := hA.kept wb kk9
    have hB9 := hB.kept wb kk9
    have hTA9 := hTA.kept wb kk9
    have hTB9 := hTB.kept wb kk9
    simp (disch := omega) [-getElem?_pos, if_pos, if_neg, decide_eq_true, decide_eq_false, d7, d9, cut]
    refine AFn.pure (Last_spec hA9) ?_
    rw [hlast]
    simp (disch := omega) [-getElem?_pos, if_pos, if_neg, decide_eq_true, decide_eq_false, d7, d9, cut]
    refine AFn.pure (Compare_spec hA9 hB9) ?_
    simp (disch := omega) [-getElem?_pos, if_pos, if_neg, decide_eq_true, decide_eq_false, ]
    refine AFn.pure (RefCmp_spec hTA9 hTB9) ?_
    simp (disch := omega) [-getElem?_pos, if_pos, if_neg, decide_eq_true, decide_eq_false, d7, d9, cut]
    refine AFn.pure (Compare_spec hB9 hA9) ?_
    simp (disch := omega) [-getElem?_pos, if_pos, if_neg, decide_eq_true, decide_eq_false, ]
    refine AFn.pure (RefCmp_spec hTB9 hTA9) ?_
    simp (disch := omega) [-getElem?_pos, if_pos, if_neg, decide_eq_true, decide_eq_false, ]
    generalize hH10 : H9.alloc (.row [.int .i64 (-1), .int .i64 0, .int .i64 63, .int .i64 64, .int .i64 65, .int .i64 300] T_int true) = H10
    have k10 : Keep [] H9 H10 := by rw [← hH10]; exact .alloc
    have w10 : WF H10 := by rw [← hH10]; exact w9.alloc
    have o10 : Own H10 T_int 1 (.slice (some ⟨H9.next, 0, none⟩) 6 6) 6 (([-1, 0, 63, 64, 65, 300] : List Int).map (.int .i64)) [H9.next] := .inr ⟨H9.next, 0, none, 6, _, rfl, rfl, by rw [← hH10]; simp; rfl, by simp, by omega, by simp, .inl rfl⟩
    have hn9 := kk9.next
    have main : ∀ (m' : Nat) (l' : List Int), l'.length = m' → m' ≤ 100 → ∃ v' H', appendA H10 T_int 1 8 (.slice (some ⟨H9.next, 0, none⟩) 6 6) m' (l'.map (.int .i64)) = some (v', H') ∧ (∃ a c, v' = .slice a (6 + m') c) ∧ ∀ env, env 7 = some (.pointer (some ⟨p7, 0, none⟩)) → env 12 = some (.slice a8 0 c8) → env 87 = some v' → env 88 = some (.int .i64 (6 + m' : Nat)) → env 89 = some (.int .i64 0) →
        wpC Tryd.prog 112 (.loop ir_law03_BitsetOrders_l1) (blockK 0 (nextK Tryd.prog 112 ((ACode.region [⟨some 111, .call (.func F_law03_wakes) [], none⟩, ⟨some 6, .mv (.tmp 111), none⟩] false).seq .ret) (bodyK [ARes.tmp 6] (JoinsPost H)))) env H' := by
      intro m' l' hl' hm'
      obtain ⟨v', H', S', q1, q2, q3, q4, q5, q6⟩ := o10.append w10 (bytes := 8) (m := m') (news := l'.map (.int .i64)) (by simpa using hl') (by omega) (by omega)
      refine ⟨v', H', q1, q2.slice, fun env e7 e12 e87 e88 e89 => ?_⟩
      have k11 : Keep [] H9 H' := (k10.trans q4 fun b hb hlt => by simp at hb; omega)
      have kk11 := kk9.trans' k11
      have hx : Vw (fun _ => True) H' 1 v' (([-1, 0, 63, 64, 65, 300] : List Int) ++ l').length ((([-1, 0, 63, 64, 65, 300] : List Int) ++ l').map (.int .i64)) := by
        rw [List.map_append, show (([-1, 0, 63, 64, 65, 300] : List Int) ++ l').length = 6 + m' by simp [hl']; omega]
        exact q2.vw fun _ _ => trivial
      have hll : (([-1, 0, 63, 64, 65, 300] : List Int) ++ l').length = 6 + m' := by simp [hl']; omega
      refine wpC_use (orders_l1 (p7 := p7) (hA.kept wb kk11) (cells_kept wb kk11 c7) hA4 (by have := (v8.kept w8 k9).kept w9 k11; rw [h0] at this; rw [h0]; exact this) hx (by omega) ⟨rfl, e7, e12, e87, by rw [hll]; exact e88, e89⟩) fun e env2 H5 ⟨he, hH5⟩ _ => ?_
      subst he hH5
      simp (disch := omega) [-getElem?_pos, if_pos, if_neg, decide_eq_true, decide_eq_false, ]
      refine AFn.pure (wakes_spec (hgb.kept wb kk11)) ?_
      simp (disch := omega) [-getElem?_pos, if_pos, if_neg, decide_eq_true, decide_eq_false, ]
      exact ⟨rfl, k0.trans' kk11⟩
    rcases hl2' with ⟨rfl, rfl, hc⟩ | ⟨rfl, rfl, hc⟩ | ⟨b, off, cap, cs, rfl, q1, q2, q3⟩
    · obtain ⟨v', H', z1, ⟨za, zc, rfl⟩, z2⟩ := main 0 [] rfl (by omega)
      simp only [List.map_nil] at z1
      simp (disch := omega) [-getElem?_pos, if_pos, if_neg, decide_eq_true, decide_eq_false, elemsA, z1]
      exact z2 _ (by simp ) (by simp ) (by simp) (by simp) (by simp)
    · obtain ⟨v', H', z1, ⟨za, zc, rfl⟩, z2⟩ := main 0 [] rfl (by omega)
      simp only [List.map_nil] at z1
      simp (disch := omega) [-getElem?_pos, if_pos, if_neg, decide_eq_true, decide_eq_false, elemsA, z1]
      exact z2 _ (by simp ) (by simp ) (by simp) (by simp) (by simp)
    · obtain ⟨mn, hmn⟩ : ∃ mn : Nat, mn = min n 100 := ⟨_, rfl⟩
      have hmn1 : mn ≤ n ∧ mn ≤ 100 := by omega
      have hif : (if (100 : Int) < n then (100 : Int) else n) = mn := by split <;> omega
      have hll : l2.length = n := by have := (cut_spec q3).2.2.1; simpa using this
      have hrd2 : Rd H (1) (.slice (some ⟨b, off, none⟩) mn cap) mn ((l2.take mn).map (.int .i64)) := by
        rw [List.map_take]
        have := Rd.first (.inr (.inr ⟨b, off, cap, cs, rfl, q1, q2, q3⟩)) hmn1.1
        rw [Nat.mul_one] at this
        exact this
      have helems := ((hrd2.vw hw (p := fun _ => True) fun _ _ => trivial).kept hw (k0.trans' (kk9.trans' k10))).elems
      obtain ⟨v', H', z1, ⟨za, zc, rfl⟩, z2⟩ := main mn (l2.take mn) (by simp; omega) hmn1.2
      rw [List.map_take] at z1
      simp (disch := omega) [-getElem?_pos, if_pos, if_neg, decide_eq_true, decide_eq_false, hif, helems, z1]
      refine z2 _ ?_ ?_ ?_ ?_ ?_ <;> simp
  · have hlast : lastB A = (kl : Nat) := hlast
    have h0 : (idxs A).length = pre.length + 1 := by rw [show idxs A = idxTo A A.length from rfl, he]; simp
    have hpl : pre.length + 1 ≤ 4096 := by rw [← h0, idxs_count]; exact Nat.le_trans (count_le A) hA4
    obtain ⟨b8, off8, sp8, cap8, cs8, hsl8, _, _, y1, _, y2, _⟩ := v8.at (by omega)
    cases hsl8
    have y3 : cs8[off8 + pre.length]? = some (.int .i64 (kl : Nat)) := by rw [y2 pre.length (by omega), show idxs A = idxTo A A.length from rfl, he]; simp
    have y4 : ((pre.length + 1 : Nat) : Int) - 1 = (pre.length : Nat) := by omega
    simp (disch := omega) [-getElem?_pos, if_pos, if_neg, decide_eq_true, decide_eq_false, c74, c7, c9, cut, h0, y1, y3, y4, IntWalk.i64_in, cells_kept wb kk8 c7, cells_kept wb kk8 c9]
    refine (Xor_spec (hA.kept wb kk8) (hB.kept wb kk8)).mono' fun u9 H9 w9 ⟨r9, k9⟩ => ?_
    have kk9 := kk8.trans' k9
    simp (disch := omega) [-getElem?_pos, if_pos, if_neg, decide_eq_true, decide_eq_false, ]
    refine AFn.pure (same_spec (hgb.kept wb kk9) r9 ((r7.kept w7 k8).kept w8 k9)) ?_
    have d7 := cells_kept wb kk9 c7
    have d9 := cells_kept wb kk9 c9
    have hA9 := hA.kept wb kk9
    have hB9 := hB.kept wb kk9
    have hTA9 := hTA.kept wb kk9
    have hTB9 := hTB.kept wb kk9
    simp (disch := omega) [-getElem?_pos, if_pos, if_neg, decide_eq_true, decide_eq_false, d7, d9, cut]
    refine AFn.pure (Last_spec hA9) ?_
    rw [hlast]
    simp (disch := omega) [-getElem?_pos, if_pos, if_neg, decide_eq_true, decide_eq_false, d7, d9, cut]
    refine AFn.pure (Compare_spec hA9 hB9) ?_
    simp (disch := omega) [-getElem?_pos, if_pos, if_neg, decide_eq_true, decide_eq_false, ]
    refine AFn.pure (RefCmp_spec hTA9 hTB9) ?_
    simp (disch := omega) [-getElem?_pos, if_pos, if_neg, decide_eq_true, decide_eq_false, d7, d9, cut]
    refine AFn.pure (Compare_spec hB9 hA9) ?_
    simp (disch := omega) [-getElem?_pos, if_pos, if_neg, decide_eq_true, decide_eq_false, ]
    refine AFn.pure (RefCmp_spec hTB9 hTA9) ?_
    simp (disch := omega) [-getElem?_pos, if_pos, if_neg, decide_eq_true, decide_eq_false, ]
    generalize hH10 : H9.alloc (.row [.int .i64 (-1), .int .i64 0, .int .i64 63, .int .i64 64, .int .i64 65, .int .i64 300] T_int true) = H10
    have k10 : Keep [] H9 H10 := by rw [← hH10]; exact .alloc
    have w10 : WF H10 := by rw [← hH10]; exact w9.alloc
    have o10 : Own H10 T_int 1 (.slice (some ⟨H9.next, 0, none⟩) 6 6) 6 (([-1, 0, 63, 64, 65, 300] : List Int).map (.int .i64)) [H9.next] := .inr ⟨H9.next, 0, none, 6, _, rfl, rfl, by rw [← hH10]; simp; rfl, by simp, by omega, by simp, .inl rfl⟩
    have hn9 := kk9.next
    have main : ∀ (m' : Nat) (l' : List Int), l'.length = m' → m' ≤ 100 → ∃ v' H', appendA H10 T_int 1 8 (.slice (some ⟨H9.next, 0, none⟩) 6 6) m' (l'.map (.int .i64)) = some (v', H') ∧ (∃ a c, v' = .slice a (6 + m') c) ∧ ∀ env, env 7 = some (.pointer (some ⟨p7, 0, none⟩)) → env 12 = some (.slice (some ⟨b8, off8, sp8⟩) (pre.length + 1) c8) → env 87 = some v' → env 88 = some (.int .i64 (6 + m' : Nat)) → env 89 = some (.int .i64 0) →
        wpC Tryd.prog 112 (.loop ir_law03_BitsetOrders_l1) (blockK 0 (nextK Tryd.prog 112 ((ACode.region [⟨some 111, .call (.func F_law03_wakes) [], none⟩, ⟨some 6, .mv (.tmp 111), none⟩] false).seq .ret) (bodyK [ARes.tmp 6] (JoinsPost H)))) env H' := by
      intro m' l' hl' hm'
      obtain ⟨v', H', S', q1, q2, q3, q4, q5, q6⟩ := o10.append w10 (bytes := 8) (m := m') (news := l'.map (.int .i64)) (by simpa using hl') (by omega) (by omega)
      refine ⟨v', H', q1, q2.slice, fun env e7 e12 e87 e88 e89 => ?_⟩
      have k11 : Keep [] H9 H' := (k10.trans q4 fun b hb hlt => by simp at hb; omega)
      have kk11 := kk9.trans' k11
      have hx : Vw (fun _ => True) H' 1 v' (([-1, 0, 63, 64, 65, 300] : List Int) ++ l').length ((([-1, 0, 63, 64, 65, 300] : List Int) ++ l').map (.int .i64)) := by
        rw [List.map_append, show (([-1, 0, 63, 64, 65, 300] : List Int) ++ l').length = 6 + m' by simp [hl']; omega]
        exact q2.vw fun _ _ => trivial
      have hll : (([-1, 0, 63, 64, 65, 300] : List Int) ++ l').length = 6 + m' := by simp [hl']; omega
      refine wpC_use (orders_l1 (p7 := p7) (hA.kept wb kk11) (cells_kept wb kk11 c7) hA4 (by have := (v8.kept w8 k9).kept w9 k11; rw [h0] at this; rw [h0]; exact this) hx (by omega) ⟨rfl, e7, e12, e87, by rw [hll]; exact e88, e89⟩) fun e env2 H5 ⟨he, hH5⟩ _ => ?_
      subst he hH5
      simp (disch := omega) [-getElem?_pos, if_pos, if_neg, decide_eq_true, decide_eq_false, ]
      refine AFn.pure (wakes_spec (hgb.kept wb kk11)) ?_
      simp (disch := omega) [-getElem?_pos, if_pos, if_neg, decide_eq_true, decide_eq_false, ]
      exact ⟨rfl, k0.trans' kk11⟩
    rcases hl2' with ⟨rfl, rfl, hc⟩ | ⟨rfl, rfl, hc⟩ | ⟨b, off, cap, cs, rfl, q1, q2, q3⟩
    · obtain ⟨v', H', z1, ⟨za, zc, rfl⟩, z2⟩ := main 0 [] rfl (by omega)
      simp only [List.map_nil] at z1
      simp (disch := omega) [-getElem?_pos, if_pos, if_neg, decide_eq_true, decide_eq_false, elemsA, z1]
      exact z2 _ (by simp ) (by simp ) (by simp) (by simp) (by simp)
    · obtain ⟨v', H', z1, ⟨za, zc, rfl⟩, z2⟩ := main 0 [] rfl (by omega)
      simp only [List.map_nil] at z1
      simp (disch := omega) [-getElem?_pos, if_pos, if_neg, decide_eq_true, decide_eq_false, elemsA, z1]
      exact z2 _ (by simp ) (by simp ) (by simp) (by simp) (by simp)
    · obtain ⟨mn, hmn⟩ : ∃ mn : Nat, mn = min n 100 := ⟨_, rfl⟩
      have hmn1 : mn ≤ n ∧ mn ≤ 100 := by omega
      have hif : (if (100 : Int) < n then (100 : Int) else n) = mn := by split <;> omega
      have hll : l2.length = n := by have := (cut_spec q3).2.2.1; simpa using this
      have hrd2 : Rd H (1) (.slice (some ⟨b, off, none⟩) mn cap) mn ((l2.take mn).map (.int .i64)) := by
        rw [List.map_take]
        have := Rd.first (.inr (.inr ⟨b, off, cap, cs, rfl, q1, q2, q3⟩)) hmn1.1
        rw [Nat.mul_one] at this
        exact this
      have helems := ((hrd2.vw hw (p := fun _ => True) fun _ _ => trivial).kept hw (k0.trans' (kk9.trans' k10))).elems
      obtain ⟨v', H', z1, ⟨za, zc, rfl⟩, z2⟩ := main mn (l2.take mn) (by simp; omega) hmn1.2
      rw [List.map_take] at z1
      simp (disch := omega) [-getElem?_pos, if_pos, if_neg, decide_eq_true, decide_eq_false, hif, helems, z1]
      refine z2 _ ?_ ?_ ?_ ?_ ?_ <;> simp
end Go.Proofs.YtakdkbdjjlmccaaDoor
