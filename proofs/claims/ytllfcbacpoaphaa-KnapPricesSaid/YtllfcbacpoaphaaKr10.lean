/-
  The document's FloorSum, of numbers from nought on.
-/
import Derived.Test.YtllfcbacpoaphaaKr9
set_option maxRecDepth 100000
set_option linter.unusedSimpArgs false
set_option linter.unusedVariables false
namespace Go.Abs
theorem sum_nn : ∀ (L : List Int), (∀ x ∈ L, 0 ≤ x ∧ x ≤ 9223372036854775807) → 0 ≤ L.sum ∧ L.sum ≤ (L.length : Int) * 9223372036854775807
  | [], _ => by simp
  | a :: l, h => by
    have ih := sum_nn l fun x hx => h x (by simp [hx])
    have := h a (by simp)
    rw [List.sum_cons, List.length_cons]
    omega
theorem half_mid {x y : Int} (hx : I64 x) (hy : I64 y) (h : x < y) : I64 (Int.tdiv x 2 + Int.tdiv y 2 + Int.tdiv (Int.tmod x 2 + Int.tmod y 2 + 1) 2) ∧ Int.tdiv x 2 + Int.tdiv y 2 + Int.tdiv (Int.tmod x 2 + Int.tmod y 2 + 1) 2 ≤ y ∧ I64 (Int.tdiv x 2 + Int.tdiv y 2) ∧ (-1 ≤ Int.tmod x 2 ∧ Int.tmod x 2 ≤ 1) ∧ (-1 ≤ Int.tmod y 2 ∧ Int.tmod y 2 ≤ 1) ∧ (-1 ≤ Int.tdiv (Int.tmod x 2 + Int.tmod y 2 + 1) 2 ∧ Int.tdiv (Int.tmod x 2 + Int.tmod y 2 + 1) 2 ≤ 1) ∧ I64 (Int.tdiv x 2) ∧ I64 (Int.tdiv y 2) := by
  have e1 := Int.mul_tdiv_add_tmod x 2
  have e2 := Int.mul_tdiv_add_tmod y 2
  have e3 := Int.mul_tdiv_add_tmod (Int.tmod x 2 + Int.tmod y 2 + 1) 2
  have s1 : (0 ≤ x → 0 ≤ Int.tmod x 2) ∧ (x ≤ 0 → Int.tmod x 2 ≤ 0) ∧ Int.tmod x 2 < 2 ∧ -2 < Int.tmod x 2 := ⟨fun h => Int.tmod_nonneg _ h, fun h => by
    have := Int.tmod_nonneg 2 (show 0 ≤ -x by omega)
    rw [Int.neg_tmod] at this; omega, Int.tmod_lt_of_pos _ (by omega), by
    have := Int.tmod_lt_of_pos (-x) (show (0 : Int) < 2 by omega)
    rw [Int.neg_tmod] at this; omega⟩
  have s2 : (0 ≤ y → 0 ≤ Int.tmod y 2) ∧ (y ≤ 0 → Int.tmod y 2 ≤ 0) ∧ Int.tmod y 2 < 2 ∧ -2 < Int.tmod y 2 := ⟨fun h => Int.tmod_nonneg _ h, fun h => by
    have := Int.tmod_nonneg 2 (show 0 ≤ -y by omega)
    rw [Int.neg_tmod] at this; omega, Int.tmod_lt_of_pos _ (by omega), by
    have := Int.tmod_lt_of_pos (-y) (show (0 : Int) < 2 by omega)
    rw [Int.neg_tmod] at this; omega⟩
  have s3 : ∀ z : Int, (0 ≤ z → 0 ≤ Int.tmod z 2) ∧ (z ≤ 0 → Int.tmod z 2 ≤ 0) ∧ Int.tmod z 2 < 2 ∧ -2 < Int.tmod z 2 := fun z => ⟨fun h => Int.tmod_nonneg _ h, fun h => by
    have := Int.tmod_nonneg 2 (show 0 ≤ -z by omega)
    rw [Int.neg_tmod] at this; omega, Int.tmod_lt_of_pos _ (by omega), by
    have := Int.tmod_lt_of_pos (-z) (show (0 : Int) < 2 by omega)
    rw [Int.neg_tmod] at this; omega⟩
  have s4 := s3 (Int.tmod x 2 + Int.tmod y 2 + 1)
  clear s3
  generalize Int.tmod (Int.tmod x 2 + Int.tmod y 2 + 1) 2 = m3 at *
  generalize Int.tdiv (Int.tmod x 2 + Int.tmod y 2 + 1) 2 = d3 at *
  generalize Int.tmod x 2 = m1 at *
  generalize Int.tmod y 2 = m2 at *
  generalize Int.tdiv x 2 = d1 at *
  generalize Int.tdiv y 2 = d2 at *
  unfold I64 at *
  omega
end Go.Abs
namespace Go.Proofs.Ytllfcbacpoaphaa
open Go Go.Abs
def FsI (H1 : AH) (q : Nat) (d : Value) (v : Value) (L : List Int) (k : Nat) (env : Env) (H' : AH) : Prop :=
  env 0 = some d ∧ env 1 = some v ∧ env 6 = some (.pointer (some ⟨q, 0, none⟩)) ∧ env 7 = some (.int .i64 k) ∧ WF H' ∧ Keep [q] H1 H' ∧
  ∃ za zn zc, H'.blk q = some (.row [.bool false, .slice za zn zc] T_secateurref01_Big true) ∧ BigV (fun z => z ≠ q) H' (.agg #[.bool false, .slice za zn zc]) (L.take k).sum
def FsQ (H1 : AH) (q : Nat) (d : Value) (v : Value) (L : List Int) (e : AExit) (env : Env) (H' : AH) : Prop := e = .exit 0 ∧ FsI H1 q d v L L.length env H'
theorem fsum_l1 {H1 : AH} {q : Nat} {d v : Value} {L : List Int} (hw : WF H1) (hq : q < H1.next) (hL : SlV (fun z => z ≠ q) H1 v L) (hl : L.length ≤ 1000) (hnn : ∀ x ∈ L, 0 ≤ x ∧ x ≤ 9223372036854775807) {env : Env} {H2 : AH} (h : FsI H1 q d v L 0 env H2) :
    wpC Try.prog 102 (.loop ir_ref01_FloorSum_l1) (FsQ H1 q d v L) env H2 := by
  refine loop_upto L.length (FsI H1 q d v L) (Q := FsQ H1 q d v L) h ?_
  rintro k env H' hk ⟨e0, e1, e6, e7, w', k', za, zn, zc, bz, vz⟩
  have n' := k'.next
  by_cases hkn : k < L.length
  · have hL' := hL.sub (.keep hw k' fun z hz h => h (by simpa using hz))
    obtain ⟨b0, off, sp, cap, cs, hcv, q1, q2⟩ := ints_rd hL' (by omega)
    obtain ⟨q3, q4⟩ := q2 k hkn
    have hx := hnn L[k] (List.getElem_mem hkn)
    have hsn : (L.take (k + 1)).sum = (L.take k).sum + L[k] := by rw [List.take_succ_eq_append_getElem hkn, List.sum_append]; simp
    have hsb := sum_nn (L.take k) fun x hx => hnn x (List.mem_of_mem_take hx)
    have hlk : (L.take k).length ≤ 1000 := by rw [List.length_take]; omega
    obtain ⟨s, hs⟩ : ∃ s : Nat, (L.take k).sum = (s : Int) := ⟨(L.take k).sum.toNat, by omega⟩
    have hs1 : s ≤ 9223372036854775807000 := by omega
    obtain ⟨x, hxx⟩ : ∃ x : Nat, L[k] = (x : Int) := ⟨(L[k]).toNat, by omega⟩
    rw [hs] at vz hsn
    rw [hxx] at hsn q3 q4 hx
    clear hsb
    subst hcv
    obtain ⟨n, hn⟩ : ∃ n, n = L.length := ⟨_, rfl⟩
    have hkl : (k : Int) < (L.length : Int) := by omega
    simp (disch := omega) [-getElem?_pos, if_pos, if_neg, decide_eq_true, decide_eq_false, ir_ref01_FloorSum_l1, e1, e7, hkn, hkl, q1, q3]
    refine (Of_spec (n := (x : Int)) q4).mono' fun u H3 w3 ⟨hA, k3⟩ => ?_
    obtain ⟨dv, rfl, hA0⟩ := hA
    rw [decide_eq_false (show ¬ (x : Int) < 0 by omega), Int.natAbs_natCast] at *
    obtain ⟨xa, xc, rfl⟩ := hA0.slice
    have n3 := k3.next
    obtain ⟨H4, hH4⟩ : ∃ H4, H4 = H3.alloc (.row [.bool false, .slice xa (bdig x).length xc] T_secateurref01_Big true) := ⟨_, rfl⟩
    have k34 : Keep [] H3 H4 := by rw [hH4]; exact .alloc
    have w4 : WF H4 := by rw [hH4]; exact w3.alloc
    have n4 : H4.next = H3.next + 1 := by rw [hH4]; rfl
    have k24 := k3.trans' k34
    have cz3 := cells_kept w' k3 (AH.cells_of bz)
    have hne3 : q ≠ H3.next := by omega
    have vz4 := vz.kept w' k24
    have vx4 : BigV (fun z => z ≠ q) H4 (.agg #[.bool false, .slice xa (bdig x).length xc]) (x : Int) := ⟨_, by rw [decide_eq_false (by omega)], by rw [Int.natAbs_natCast]; exact (hA0.kept w3 k34).mono fun z hz => by omega⟩
    simp (disch := omega) [-getElem?_pos, if_pos, if_neg, decide_eq_true, decide_eq_false, writeA, over, cut2, bigC, e6, cz3, hne3]
    rw [← hH4]
    refine (Add_spec vz4 vx4 (dnl (n := 9223372036854775807000) hs1 (by omega)) (dnl (n := 9223372036854775807) (by omega) (by omega))).mono' fun u H5 w5 ⟨hA, k5⟩ => ?_
    rw [Int.natCast_add, ← hsn] at hA
    obtain ⟨av, rfl, hA1⟩ := hA
    have hpos : ¬ (L.take (k + 1)).sum < 0 := by omega
    rw [decide_eq_false hpos] at *
    obtain ⟨aa, ac, rfl⟩ := hA1.slice
    have n5 := k5.next
    have bz5 := ((k24.trans' k5).blk q (by omega) (by simp)).trans bz
    have k15 : Keep [q] H1 H5 := k'.trans (k24.trans' k5) (by simp)
    simp (disch := omega) [-getElem?_pos, if_pos, if_neg, decide_eq_true, decide_eq_false, writeA, over, cut2, bigC, e6, e7, bz5, IntWalk.i64_in]
    have fin : BigV (fun z => z ≠ q) (H5.set q (.row [.bool false, .slice aa (bdig (L.take (k + 1)).sum.natAbs).length ac] T_secateurref01_Big true)) (.agg #[.bool false, .slice aa (bdig (L.take (k + 1)).sum.natAbs).length ac]) (L.take (k + 1)).sum := ⟨_, by rw [decide_eq_false hpos], hA1.up (fun z hz => by omega) (.set (by omega))⟩
    have hset : Keep [q] H1 (H5.set q (.row [.bool false, .slice aa (bdig (L.take (k + 1)).sum.natAbs).length ac] T_secateurref01_Big true)) := ⟨by show H1.next ≤ H5.next; omega, fun z hz hn => by rw [AH.set_blk_ne (by simpa using hn)]; exact k15.blk z hz hn⟩
    first
    | exact ⟨hkn, by simp [e0], by simp [e1], by simp [e6], by simp, w5.set (by omega), hset, aa, _, ac, AH.set_blk_same, fin⟩
    | exact ⟨by simp [e0], by simp [e1], by simp [e6], by simp, w5.set (by omega), hset, aa, _, ac, AH.set_blk_same, fin⟩
  · obtain rfl : k = L.length := by omega
    obtain ⟨va, vc, hve⟩ := hL.slice
    rw [hve] at e1
    simp (disch := omega) [-getElem?_pos, if_pos, if_neg, decide_eq_true, decide_eq_false, ir_ref01_FloorSum_l1, e1, e7]
    exact ⟨rfl, e0, by rw [hve]; exact e1, e6, e7, w', k', za, zn, zc, bz, vz⟩
def FhI (H1 : AH) (q6 q9 : Nat) (S d : Nat) (j : Nat) (env : Env) (H' : AH) : Prop :=
  ∃ x y : Int, env 18 = some (.int .i64 x) ∧ env 19 = some (.int .i64 y) ∧ env 6 = some (.pointer (some ⟨q6, 0, none⟩)) ∧ env 9 = some (.pointer (some ⟨q9, 0, none⟩)) ∧ WF H' ∧ Keep [] H1 H' ∧ I64 x ∧ I64 y ∧ x ≤ ((S / d : Nat) : Int) ∧ ((S / d : Nat) : Int) ≤ y ∧ j = (y - x).toNat
def FhQ (S d : Nat) (e : AExit) (env : Env) (H' : AH) : Prop := e = .exit 2 ∧ env 18 = some (.int .i64 ((S / d : Nat) : Int))
theorem fsum_l0 {H1 : AH} {q6 q9 S d : Nat} {sa ba : Option Addr} {sn sc bn bc : Nat} (hw : WF H1) (hd : 0 < d ∧ d ≤ 9223372036854775807)
    (c6 : H1.cells q6 = some [.bool false, .slice sa sn sc]) (c9 : H1.cells q9 = some [.bool false, .slice ba bn bc])
    (v6 : BigV (fun _ => True) H1 (.agg #[.bool false, .slice sa sn sc]) (S : Int)) (v9 : BigV (fun _ => True) H1 (.agg #[.bool false, .slice ba bn bc]) (d : Int)) {j : Nat} {env : Env} {H2 : AH} (h : FhI H1 q6 q9 S d j env H2) :
    wpC Try.prog 102 (.loop ir_ref01_FloorSum_l0) (FhQ S d) env H2 := by
  refine loop_rule (FhI H1 q6 q9 S d) (Q := FhQ S d) ?_ (j := j) h
  rintro j env H' ⟨x, y, e18, e19, e6, e9, w', k', hx, hy, hxq, hqy, rfl⟩
  have n' := k'.next
  by_cases hxy : x < y
  · obtain ⟨a1, a2, a3, a4, a5, a6, a7, a8⟩ := half_mid hx hy hxy
    unfold I64 at a1 a3 a7 a8
    have r1 : IntKind.i64.wrap (Int.tdiv x 2) = Int.tdiv x 2 := IntWalk.i64_in _ a7
    have r2 : IntKind.i64.wrap (Int.tdiv y 2) = Int.tdiv y 2 := IntWalk.i64_in _ a8
    have r3 : IntKind.i64.wrap (Int.tdiv x 2 + Int.tdiv y 2) = Int.tdiv x 2 + Int.tdiv y 2 := IntWalk.i64_in _ a3
    have r4 : IntKind.i64.wrap (Int.tmod x 2) = Int.tmod x 2 := IntWalk.i64_in _ (by omega)
    have r5 : IntKind.i64.wrap (Int.tmod y 2) = Int.tmod y 2 := IntWalk.i64_in _ (by omega)
    have r6 : IntKind.i64.wrap (Int.tmod x 2 + Int.tmod y 2) = Int.tmod x 2 + Int.tmod y 2 := IntWalk.i64_in _ (by omega)
    have r7 : IntKind.i64.wrap (Int.tmod x 2 + Int.tmod y 2 + 1) = Int.tmod x 2 + Int.tmod y 2 + 1 := IntWalk.i64_in _ (by omega)
    have r8 : IntKind.i64.wrap (Int.tdiv (Int.tmod x 2 + Int.tmod y 2 + 1) 2) = Int.tdiv (Int.tmod x 2 + Int.tmod y 2 + 1) 2 := IntWalk.i64_in _ (by omega)
    have r9 : IntKind.i64.wrap (Int.tdiv x 2 + Int.tdiv y 2 + Int.tdiv (Int.tmod x 2 + Int.tmod y 2 + 1) 2) = Int.tdiv x 2 + Int.tdiv y 2 + Int.tdiv (Int.tmod x 2 + Int.tmod y 2 + 1) 2 := IntWalk.i64_in _ a1
    clear a4 a5 a6 a7 a8 a3
    obtain ⟨m0, hm0⟩ : ∃ m0, m0 = Int.tdiv x 2 + Int.tdiv y 2 + Int.tdiv (Int.tmod x 2 + Int.tmod y 2 + 1) 2 := ⟨_, rfl⟩
    rw [← hm0] at a1 a2 r9
    have hm : ∃ m, m = (if m0 ≤ x then x + 1 else m0) ∧ x < m ∧ m ≤ y := ⟨_, rfl, by split <;> omega, by split <;> omega⟩
    obtain ⟨m, hme, hm1, hm2⟩ := hm
    have hmI : I64 m := by unfold I64 at hx hy ⊢; omega
    have hxw : IntKind.i64.wrap (x + 1) = x + 1 := IntWalk.i64_in _ (by unfold I64 at hx hy; omega)
    have hmw : IntKind.i64.wrap (m - 1) = m - 1 := IntWalk.i64_in _ (by unfold I64 at hx hy; omega)
    have hcmp : (cmpZ (m * (d : Int)) (S : Int) ≤ 0) = (m ≤ ((S / d : Nat) : Int)) := by
      rw [Int.natCast_ediv, Int.le_ediv_iff_mul_le (by omega)]
      unfold cmpZ
      apply propext
      split
      · constructor <;> omega
      · split <;> constructor <;> omega
    have v6' := v6.kept hw k'
    by_cases hc : m0 ≤ x
    case' pos =>
      have hc' := eq_true hc
      rw [if_pos hc] at hme
      simp (disch := omega) [-getElem?_pos, if_pos, if_neg, decide_eq_true, decide_eq_false, ir_ref01_FloorSum_l0, e18, e19, hxy, r1, r2, r3, r4, r5, r6, r7, r8, ← hm0, r9, hc', hxw]
      rw [← hme]
    case' neg =>
      have hc' := eq_false hc
      rw [if_neg hc] at hme
      simp (disch := omega) [-getElem?_pos, if_pos, if_neg, decide_eq_true, decide_eq_false, ir_ref01_FloorSum_l0, e18, e19, hxy, r1, r2, r3, r4, r5, r6, r7, r8, ← hm0, r9, hc']
      rw [← hme]
    all_goals
      refine (Of_spec (n := m) hmI).mono' fun u H3 w3 ⟨hA, k3⟩ => ?_
      obtain ⟨dv, rfl, hA0⟩ := hA
      obtain ⟨xa, xc, rfl⟩ := hA0.slice
      have n3 := k3.next
      obtain ⟨sm, hsm⟩ : ∃ sm, sm = decide (m < 0) := ⟨_, rfl⟩
      rw [← hsm]
      obtain ⟨H4, hH4⟩ : ∃ H4, H4 = H3.alloc (.row [.bool sm, .slice xa (bdig m.natAbs).length xc] T_secateurref01_Big true) := ⟨_, rfl⟩
      have k34 : Keep [] H3 H4 := by rw [hH4]; exact .alloc
      have w4 : WF H4 := by rw [hH4]; exact w3.alloc
      have n4 : H4.next = H3.next + 1 := by rw [hH4]; rfl
      have k14 := k'.trans' (k3.trans' k34)
      have c93 := cells_kept hw (k'.trans' k3) c9
      have hne3 : q9 ≠ H3.next := by have := cells_lt w3 c93; omega
      have vm4 : BigV (fun _ => True) H4 (.agg #[.bool sm, .slice xa (bdig m.natAbs).length xc]) m := ⟨_, by rw [hsm], (hA0.kept w3 k34).any⟩
      have v94 := v9.kept hw k14
      simp (disch := omega) [-getElem?_pos, if_pos, if_neg, decide_eq_true, decide_eq_false, writeA, over, cut2, bigC, e9, c93, hne3]
      rw [← hH4]
      refine (Mul_spec vm4 v94 (dnl (n := 9223372036854775808) (by unfold I64 at hmI; omega) (by omega)) (by rw [Int.natAbs_natCast]; exact dnl (n := 9223372036854775807) hd.2 (by omega))).mono' fun u H5 w5 ⟨hM, k5⟩ => ?_
      obtain ⟨mv, rfl, hM0⟩ := hM
      obtain ⟨ma, mc, rfl⟩ := hM0.slice
      have n5 := k5.next
      obtain ⟨M, hMe⟩ : ∃ M, M = m * (d : Int) := ⟨_, rfl⟩
      rw [← hMe] at hM0 hcmp ⊢
      obtain ⟨sM, hsM⟩ : ∃ sM, sM = decide (M < 0) := ⟨_, rfl⟩
      rw [← hsM]
      obtain ⟨H6, hH6⟩ : ∃ H6, H6 = H5.alloc (.row [.bool sM, .slice ma (bdig M.natAbs).length mc] T_secateurref01_Big true) := ⟨_, rfl⟩
      have k56 : Keep [] H5 H6 := by rw [hH6]; exact .alloc
      have w6 : WF H6 := by rw [hH6]; exact w5.alloc
      have n6 : H6.next = H5.next + 1 := by rw [hH6]; rfl
      have k16 := k14.trans' (k5.trans' k56)
      have c65 := cells_kept hw (k14.trans' k5) c6
      have hne5 : q6 ≠ H5.next := by have := cells_lt w5 c65; omega
      have vM6 : BigV (fun _ => True) H6 (.agg #[.bool sM, .slice ma (bdig M.natAbs).length mc]) M := ⟨_, by rw [hsM], (hM0.kept w5 k56).any⟩
      have v66 := v6.kept hw k16
      simp (disch := omega) [-getElem?_pos, if_pos, if_neg, decide_eq_true, decide_eq_false, writeA, over, cut2, bigC, e6, c65, hne5]
      rw [← hH6]
      refine AFn.pure (Cmp_spec vM6 v66) ?_
      generalize cmpZ M (S : Int) = cz at *
      by_cases hle : m ≤ ((S / d : Nat) : Int)
      · have hcz := eq_true (hcmp ▸ hle : cz ≤ 0)
        simp (disch := omega) [-getElem?_pos, if_pos, if_neg, decide_eq_true, decide_eq_false, e18, e19, hcz]
        exact ⟨(y - m).toNat, by omega, m, y, by simp, by simp [e19], by simp [e6], by simp [e9], w6, k16, hmI, hy, hle, hqy, rfl⟩
      · have hcz := eq_false (fun h => hle (hcmp ▸ h) : ¬ cz ≤ 0)
        simp (disch := omega) [-getElem?_pos, if_pos, if_neg, decide_eq_true, decide_eq_false, e18, e19, hcz, hmw]
        exact ⟨(m - 1 - x).toNat, by omega, x, m - 1, by simp [e18], by simp, by simp [e6], by simp [e9], w6, k16, hx, by unfold I64 at hmI hx ⊢; omega, hxq, by omega, rfl⟩
  · have hq : x = ((S / d : Nat) : Int) := by omega
    rw [hq] at e18 hxy
    unfold FhQ
    generalize S / d = qq at *
    simp (disch := omega) [-getElem?_pos, if_pos, if_neg, decide_eq_true, decide_eq_false, ir_ref01_FloorSum_l0, e18, e19, hxy]
theorem FloorSumR_spec {H : AH} {v : Value} {L : List Int} {d : Nat} (hL : SlV (fun z => z < H.next) H v L) (hl : L.length ≤ 1000) (hnn : ∀ x ∈ L, 0 ≤ x ∧ x ≤ 9223372036854775807) (hd : 0 < d ∧ d ≤ 9223372036854775807) : AFn Try.prog F_ref01_FloorSum [.int .i64 d, v] H fun u H' => u = .tuple #[.int .i64 (shortI (L.sum / (d : Int))), .bool (fitsI (L.sum / (d : Int)))] ∧ H' = H := by
  refine AFn.calm (fun H0 hs => ?_) rfl
  have hn0 : H0.next = H.next := hs.1
  have hL0 := (hL.same hs).mono (q := fun z => z < H0.next) fun z hz => by omega
  clear hL
  refine AFn.enter mixed ir_ref01_FloorSum_eq (by simp [ir_ref01_FloorSum]) fun hw => ?_
  have hd0 : ¬ (d : Int) ≤ 0 := by omega
  have hd0n : ¬ d = 0 := by omega
  have hsb := sum_nn L hnn
  obtain ⟨S, hS⟩ : ∃ S : Nat, L.sum = (S : Int) := ⟨L.sum.toNat, by omega⟩
  have hS1 : S ≤ 9223372036854775807000 := by omega
  obtain ⟨r1, hr1⟩ : ∃ r1, r1 = shortI (L.sum / (d : Int)) := ⟨_, rfl⟩
  obtain ⟨r2, hr2⟩ : ∃ r2, r2 = fitsI (L.sum / (d : Int)) := ⟨_, rfl⟩
  rw [← hr1, ← hr2]
  rw [hS, ← Int.natCast_ediv] at hr1 hr2
  obtain ⟨H1, hH1⟩ : ∃ H1, H1 = H0.alloc (.row [.bool false, .slice none 0 0] T_secateurref01_Big true) := ⟨_, rfl⟩
  have k1 : Keep [] H0 H1 := by rw [hH1]; exact .alloc
  have w1 : WF H1 := by rw [hH1]; exact hw.alloc
  have n1 : H1.next = H0.next + 1 := by rw [hH1]; rfl
  have b1 : H1.blk H0.next = some (.row [.bool false, .slice none 0 0] T_secateurref01_Big true) := by rw [hH1]; exact AH.alloc_blk_new
  have hself : H1.set H0.next (.row [.bool false, .slice none 0 0] T_secateurref01_Big true) = H1 := AH.set_selfK b1
  have hL1 : SlV (fun z => z ≠ H0.next) H1 v L := (hL0.kept hw k1).mono fun z hz => by omega
  obtain ⟨va, vc, hve⟩ := hL0.slice
  rw [hve]
  simp (disch := omega) [-getElem?_pos, if_pos, if_neg, decide_eq_true, decide_eq_false, ir_ref01_FloorSum, hd0, hd0n, writeA, over, cut2, bigC]
  rw [← hH1]
  try rw [hself]
  refine wpC_use (fsum_l1 (H1 := H1) (q := H0.next) (d := .int .i64 d) (v := v) w1 (by omega) hL1 hl hnn ⟨by simp, by simp [hve], by simp, by simp, w1, .refl, none, 0, 0, b1, by rw [List.take_zero]; exact ⟨_, rfl, SlV.nil⟩⟩) ?_
  rintro e env2 H2 ⟨rfl, e0, e1, e6, e7, w2, k2, za, zn, zc, bz, vz⟩ _
  rw [List.take_length, hS] at vz
  have n2 := k2.next
  have cz := AH.cells_of bz
  simp (disch := omega) [-getElem?_pos, if_pos, if_neg, decide_eq_true, decide_eq_false, e0]
  refine (Of_spec (n := (d : Int)) (by unfold I64; omega)).mono' fun u H3 w3 ⟨hA, k3⟩ => ?_
  obtain ⟨dv, rfl, hA0⟩ := hA
  rw [decide_eq_false (show ¬ (d : Int) < 0 by omega), Int.natAbs_natCast] at *
  obtain ⟨da, dc, rfl⟩ := hA0.slice
  have n3 := k3.next
  obtain ⟨H4, hH4⟩ : ∃ H4, H4 = H3.alloc (.row [.bool false, .slice da (bdig d).length dc] T_secateurref01_Big true) := ⟨_, rfl⟩
  have k34 : Keep [] H3 H4 := by rw [hH4]; exact .alloc
  have w4 : WF H4 := by rw [hH4]; exact w3.alloc
  have n4 : H4.next = H3.next + 1 := by rw [hH4]; rfl
  have c4 : H4.cells H3.next = some [.bool false, .slice da (bdig d).length dc] := by rw [hH4]; exact AH.cells_alloc_new
  have vd4 : BigV (fun _ => True) H4 (.agg #[.bool false, .slice da (bdig d).length dc]) (d : Int) := ⟨_, by rw [decide_eq_false (by omega)], by rw [Int.natAbs_natCast]; exact (hA0.kept w3 k34).any⟩
  simp (disch := omega) [-getElem?_pos, if_pos, if_neg, decide_eq_true, decide_eq_false, writeA, over, cut2, bigC]
  rw [← hH4]
  refine (Of_spec (n := (-9223372036854775808 : Int)) (by unfold I64; omega)).mono' fun u H5 w5 ⟨hA, k5⟩ => ?_
  obtain ⟨lv, rfl, hlo⟩ := hA
  obtain ⟨la, lc, rfl⟩ := hlo.slice
  have hld : decide ((-9223372036854775808 : Int) < 0) = true := by decide
  have hla : (-9223372036854775808 : Int).natAbs = 9223372036854775808 := rfl
  rw [hla] at hlo ⊢
  rw [hld]
  have n5 := k5.next
  obtain ⟨ll, hll⟩ : ∃ ll, ll = (bdig 9223372036854775808).length := ⟨_, rfl⟩
  rw [← hll] at hlo ⊢
  obtain ⟨H6, hH6⟩ : ∃ H6, H6 = H5.alloc (.row [.bool true, .slice la ll lc] T_secateurref01_Big true) := ⟨_, rfl⟩
  have k56 : Keep [] H5 H6 := by rw [hH6]; exact .alloc
  have w6 : WF H6 := by rw [hH6]; exact w5.alloc
  have n6 : H6.next = H5.next + 1 := by rw [hH6]; rfl
  have c6 : H6.cells H5.next = some [.bool true, .slice la ll lc] := by rw [hH6]; exact AH.cells_alloc_new
  have vl6 : BigV (fun _ => True) H6 (.agg #[.bool true, .slice la ll lc]) (-9223372036854775808) := ⟨_, by rw [hld], by rw [hla]; exact (hlo.kept w5 k56).any⟩
  simp (disch := omega) [-getElem?_pos, if_pos, if_neg, decide_eq_true, decide_eq_false, writeA, over, cut2, bigC]
  rw [← hH6]
  refine (Of_spec (n := (9223372036854775807 : Int)) (by unfold I64; omega)).mono' fun u H7 w7 ⟨hA, k7⟩ => ?_
  obtain ⟨hv, rfl, hhi⟩ := hA
  obtain ⟨ha, hc, rfl⟩ := hhi.slice
  have hhd : decide ((9223372036854775807 : Int) < 0) = false := by decide
  have hha : (9223372036854775807 : Int).natAbs = 9223372036854775807 := rfl
  rw [hha] at hhi ⊢
  rw [hhd]
  have n7 := k7.next
  obtain ⟨hhl, hhle⟩ : ∃ hhl, hhl = (bdig 9223372036854775807).length := ⟨_, rfl⟩
  rw [← hhle] at hhi ⊢
  obtain ⟨H8, hH8⟩ : ∃ H8, H8 = H7.alloc (.row [.bool false, .slice ha hhl hc] T_secateurref01_Big true) := ⟨_, rfl⟩
  have k78 : Keep [] H7 H8 := by rw [hH8]; exact .alloc
  have w8 : WF H8 := by rw [hH8]; exact w7.alloc
  have n8 : H8.next = H7.next + 1 := by rw [hH8]; rfl
  have c8 : H8.cells H7.next = some [.bool false, .slice ha hhl hc] := by rw [hH8]; exact AH.cells_alloc_new
  have vh8 : BigV (fun _ => True) H8 (.agg #[.bool false, .slice ha hhl hc]) ((9223372036854775807 : Nat) : Int) := ⟨_, by rw [decide_eq_false (by omega)], by rw [Int.natAbs_natCast]; exact (hhi.kept w7 k78).any⟩
  simp (disch := omega) [-getElem?_pos, if_pos, if_neg, decide_eq_true, decide_eq_false, writeA, over, cut2, bigC]
  rw [← hH8]
  refine (Of_spec (n := (1 : Int)) (by unfold I64; omega)).mono' fun u H9 w9 ⟨hA, k9⟩ => ?_
  obtain ⟨ov, rfl, hone⟩ := hA
  obtain ⟨oa, oc, rfl⟩ := hone.slice
  have hod : decide ((1 : Int) < 0) = false := by decide
  have hoa : (1 : Int).natAbs = 1 := rfl
  rw [hoa] at hone ⊢
  rw [hod]
  have n9 := k9.next
  obtain ⟨ol, hol⟩ : ∃ ol, ol = (bdig 1).length := ⟨_, rfl⟩
  rw [← hol] at hone ⊢
  obtain ⟨HA, hHA⟩ : ∃ HA, HA = H9.alloc (.row [.bool false, .slice oa ol oc] T_secateurref01_Big true) := ⟨_, rfl⟩
  have k9A : Keep [] H9 HA := by rw [hHA]; exact .alloc
  have wA : WF HA := by rw [hHA]; exact w9.alloc
  have nA : HA.next = H9.next + 1 := by rw [hHA]; rfl
  have cA : HA.cells H9.next = some [.bool false, .slice oa ol oc] := by rw [hHA]; exact AH.cells_alloc_new
  have voA : BigV (fun _ => True) HA (.agg #[.bool false, .slice oa ol oc]) ((1 : Nat) : Int) := ⟨_, by rw [decide_eq_false (by omega)], by rw [Int.natAbs_natCast]; exact (hone.kept w9 k9A).any⟩
  have k4A := (k5.trans' k56).trans' ((k7.trans' k78).trans' (k9.trans' k9A))
  have k6A := (k7.trans' k78).trans' (k9.trans' k9A)
  have k8A := k9.trans' k9A
  have vd4A := vd4.kept w4 k4A
  have vl6A := vl6.kept w6 k6A
  have c69 := cells_kept w6 ((k7.trans' k78).trans' k9) c6
  have c49 := cells_kept w4 ((k5.trans' k56).trans' ((k7.trans' k78).trans' k9)) c4
  have ne1 : H5.next ≠ H9.next := by omega
  have ne2 : H3.next ≠ H9.next := by omega
  simp (disch := omega) [-getElem?_pos, if_pos, if_neg, decide_eq_true, decide_eq_false, writeA, over, cut2, bigC, c69, c49, ne1, ne2]
  rw [← hHA]
  refine (Mul_spec vl6A vd4A (by rw [hla]; exact dnl (n := 9223372036854775808) (by omega) (by omega)) (by rw [Int.natAbs_natCast]; exact dnl (n := 9223372036854775807) hd.2 (by omega))).mono' fun u HB wB ⟨hM, kB⟩ => ?_
  obtain ⟨M1, hM1⟩ : ∃ M1, M1 = (-9223372036854775808 : Int) * (d : Int) := ⟨_, rfl⟩
  rw [← hM1] at hM
  obtain ⟨mv, rfl, hM0⟩ := hM
  obtain ⟨ma, mc, rfl⟩ := hM0.slice
  have nB := kB.next
  obtain ⟨s1, hs1⟩ : ∃ s1, s1 = decide (M1 < 0) := ⟨_, rfl⟩
  rw [← hs1]
  obtain ⟨HC, hHC⟩ : ∃ HC, HC = HB.alloc (.row [.bool s1, .slice ma (bdig M1.natAbs).length mc] T_secateurref01_Big true) := ⟨_, rfl⟩
  have kBC : Keep [] HB HC := by rw [hHC]; exact .alloc
  have wC : WF HC := by rw [hHC]; exact wB.alloc
  have nC : HC.next = HB.next + 1 := by rw [hHC]; rfl
  have cC : HC.cells HB.next = some [.bool s1, .slice ma (bdig M1.natAbs).length mc] := by rw [hHC]; exact AH.cells_alloc_new
  have vmC : BigV (fun _ => True) HC (.agg #[.bool s1, .slice ma (bdig M1.natAbs).length mc]) M1 := ⟨_, by rw [hs1], (hM0.kept wB kBC).any⟩
  have kAC := kB.trans' kBC
  have c8B := cells_kept w8 (k8A.trans' kB) c8
  have cAB := cells_kept wA kB cA
  have ne3 : H7.next ≠ HB.next := by omega
  have ne4 : H9.next ≠ HB.next := by omega
  simp (disch := omega) [-getElem?_pos, if_pos, if_neg, decide_eq_true, decide_eq_false, writeA, over, cut2, bigC, c8B, cAB, ne3, ne4]
  rw [← hHC]
  refine (Add_spec (vh8.kept w8 (k8A.trans' kAC)) (voA.kept wA kAC) (dnl (n := 9223372036854775807) (by omega) (by omega)) (dnl (n := 1) (by omega) (by omega))).mono' fun u HD wD ⟨hAd, kD⟩ => ?_
  rw [show ((9223372036854775807 + 1 : Nat) : Int) = 9223372036854775808 from rfl] at hAd
  obtain ⟨av, rfl, hA0d⟩ := hAd
  have had : decide ((9223372036854775808 : Int) < 0) = false := by decide
  have haa : (9223372036854775808 : Int).natAbs = 9223372036854775808 := rfl
  rw [haa] at hA0d
  rw [had]
  obtain ⟨aa, ac, hav⟩ := hA0d.slice
  have hll2 : (bdig 9223372036854775808).length = ll := hll.symm
  rw [hll2] at hav
  subst hav
  have nD := kD.next
  obtain ⟨HE, hHE⟩ : ∃ HE, HE = HD.alloc (.row [.bool false, .slice aa ll ac] T_secateurref01_Big true) := ⟨_, rfl⟩
  have kDE : Keep [] HD HE := by rw [hHE]; exact .alloc
  have wE : WF HE := by rw [hHE]; exact wD.alloc
  have nE : HE.next = HD.next + 1 := by rw [hHE]; rfl
  have vaE : BigV (fun _ => True) HE (.agg #[.bool false, .slice aa ll ac]) 9223372036854775808 := ⟨_, by rw [had], by rw [haa]; exact (hA0d.kept wD kDE).any⟩
  have kCE := kD.trans' kDE
  have k4C := k4A.trans' kAC
  have c4D := cells_kept w4 (k4C.trans' kD) c4
  have ne5 : H3.next ≠ HD.next := by omega
  simp (disch := omega) [-getElem?_pos, if_pos, if_neg, decide_eq_true, decide_eq_false, writeA, over, cut2, bigC, c4D, ne5]
  rw [← hHE]
  refine (Mul_spec vaE (vd4.kept w4 (k4C.trans' kCE)) (by rw [haa]; exact dnl (n := 9223372036854775808) (by omega) (by omega)) (by rw [Int.natAbs_natCast]; exact dnl (n := 9223372036854775807) hd.2 (by omega))).mono' fun u HF wF ⟨hM, kF⟩ => ?_
  obtain ⟨M2, hM2⟩ : ∃ M2, M2 = (9223372036854775808 : Int) * (d : Int) := ⟨_, rfl⟩
  rw [← hM2] at hM
  obtain ⟨nv, rfl, hN0⟩ := hM
  obtain ⟨na, nc, rfl⟩ := hN0.slice
  have nF := kF.next
  obtain ⟨s2, hs2⟩ : ∃ s2, s2 = decide (M2 < 0) := ⟨_, rfl⟩
  rw [← hs2]
  obtain ⟨HG, hHG⟩ : ∃ HG, HG = HF.alloc (.row [.bool s2, .slice na (bdig M2.natAbs).length nc] T_secateurref01_Big true) := ⟨_, rfl⟩
  have kFG : Keep [] HF HG := by rw [hHG]; exact .alloc
  have wG : WF HG := by rw [hHG]; exact wF.alloc
  have nG : HG.next = HF.next + 1 := by rw [hHG]; rfl
  have cG : HG.cells HF.next = some [.bool s2, .slice na (bdig M2.natAbs).length nc] := by rw [hHG]; exact AH.cells_alloc_new
  have vnG : BigV (fun _ => True) HG (.agg #[.bool s2, .slice na (bdig M2.natAbs).length nc]) M2 := ⟨_, by rw [hs2], (hN0.kept wF kFG).any⟩
  have kCF := kCE.trans' kF
  have kCG := kCF.trans' kFG
  have k2F := (k3.trans' k34).trans' (k4C.trans' kCF)
  have k2G := k2F.trans' kFG
  have czF := cells_kept w2 k2F cz
  have czG := cells_kept w2 k2G cz
  have cCF := cells_kept wC kCF cC
  have c4G := cells_kept w4 (k4C.trans' kCG) c4
  have ne6 : H0.next ≠ HF.next := by omega
  have ne7 : HB.next ≠ HF.next := by omega
  have vsG : BigV (fun _ => True) HG (.agg #[.bool false, .slice za zn zc]) (S : Int) := vz.any.kept w2 k2G
  simp (disch := omega) [-getElem?_pos, if_pos, if_neg, decide_eq_true, decide_eq_false, writeA, over, cut2, bigC, e6, czF, cCF, ne6, ne7]
  rw [← hHG]
  have hm1 : cmpZ (S : Int) M1 = 1 := by unfold cmpZ; rw [if_neg (by omega), if_pos (by omega)]
  have hcp := Cmp_spec (H := HG) vsG (vmC.kept wC kCG)
  rw [hm1] at hcp
  refine AFn.pure hcp ?_
  simp (disch := omega) [-getElem?_pos, if_pos, if_neg, decide_eq_true, decide_eq_false, e6, czG, cG, cut2]
  refine AFn.pure (Cmp_spec vsG vnG) ?_
  have hm2 : (0 ≤ cmpZ (S : Int) M2) = (9223372036854775808 ≤ S / d) := by
    rw [Nat.le_div_iff_mul_le hd.1]
    unfold cmpZ
    apply propext
    split
    · constructor <;> omega
    · split <;> constructor <;> omega
  generalize cmpZ (S : Int) M2 = cz2 at *
  obtain ⟨Q, hQ⟩ : ∃ Q, Q = S / d := ⟨_, rfl⟩
  rw [← hQ] at hr1 hr2 hm2
  by_cases hbig : 9223372036854775808 ≤ Q
  · have hb := eq_true (hm2 ▸ hbig : 0 ≤ cz2)
    have f1 : r2 = false := by rw [hr2]; exact decide_eq_false (by omega)
    have f2 : r1 = 0 := by rw [hr1]; unfold shortI; rw [← hr2, f1]; rfl
    rw [f1, f2]
    simp (disch := omega) [-getElem?_pos, if_pos, if_neg, decide_eq_true, decide_eq_false, hb]
  · have hb := eq_false (fun h => hbig (hm2 ▸ h) : ¬ 0 ≤ cz2)
    have f1 : r2 = true := by rw [hr2]; exact decide_eq_true (by omega)
    have f2 : r1 = (Q : Int) := by rw [hr1]; unfold shortI; rw [← hr2, f1]; rfl
    rw [f1, f2]
    simp (disch := omega) [-getElem?_pos, if_pos, if_neg, decide_eq_true, decide_eq_false, hb]
    refine wpC_use (fsum_l0 (H1 := HG) (q6 := H0.next) (q9 := H3.next) (S := S) (d := d) wG hd czG c4G vsG (vd4.kept w4 (k4C.trans' kCG)) ⟨-9223372036854775808, 9223372036854775807, by simp, by simp, by simp [e6], by simp, wG, .refl, by unfold I64; omega, by unfold I64; omega, by rw [← hQ]; omega, by rw [← hQ]; omega, rfl⟩) ?_
    rintro e env3 HH ⟨rfl, e18⟩ _
    rw [← hQ] at e18
    simp (disch := omega) [-getElem?_pos, if_pos, if_neg, decide_eq_true, decide_eq_false, e18]
end Go.Proofs.Ytllfcbacpoaphaa
