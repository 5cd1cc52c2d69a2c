/-
  The document's Floor, of numbers from nought on, downward.
-/
import Derived.Test.YtllfcbacpoaphaaKr3
set_option maxRecDepth 100000
set_option linter.unusedSimpArgs false
set_option linter.unusedVariables false
namespace Go.Abs
open Go
theorem i_quo16 {i : Nat} (h : i < 64) : abin .quo (.int .i64 (i : Int)) (.int .i64 16) = some (.int .i64 ((i / 16 : Nat) : Int)) := by
  simp only [abin]
  simp
  exact IntWalk.i64_in _ (by omega)
theorem i_rem16 {i : Nat} (h : i < 64) : abin .rem (.int .i64 (i : Int)) (.int .i64 16) = some (.int .i64 ((i % 16 : Nat) : Int)) := by
  simp only [abin]
  simp
  rw [Int.tmod_eq_emod_of_nonneg (by omega)]
theorem u_shl1 : ∀ {e : Nat}, e < 16 → abin .shl (uv 1) (.int .i64 (e : Int)) = some (uv (2 ^ e))
  | 0, _ => rfl
  | 1, _ => rfl
  | 2, _ => rfl
  | 3, _ => rfl
  | 4, _ => rfl
  | 5, _ => rfl
  | 6, _ => rfl
  | 7, _ => rfl
  | 8, _ => rfl
  | 9, _ => rfl
  | 10, _ => rfl
  | 11, _ => rfl
  | 12, _ => rfl
  | 13, _ => rfl
  | 14, _ => rfl
  | 15, _ => rfl
  | e + 16, h => by omega
theorem bit_val {i : Nat} (h : i < 64) : bval (([0, 0, 0, 0] : List Nat).set (i / 16) (2 ^ (i % 16))) = 2 ^ i := by
  have h1 := bval_set [0, 0, 0, 0] (i / 16) (2 ^ (i % 16)) (by show i / 16 < 4; omega)
  have h2 : ([0, 0, 0, 0] : List Nat).getD (i / 16) 0 = 0 := by
    have : i / 16 < 4 := by omega
    match i / 16, this with
    | 0, _ => rfl
    | 1, _ => rfl
    | 2, _ => rfl
    | 3, _ => rfl
  have h3 : bval [0, 0, 0, 0] = 0 := rfl
  rw [h2, h3, show (65536 : Nat) = 2 ^ 16 from rfl, ← Nat.pow_mul, ← Nat.pow_add] at h1
  rw [show 16 * (i / 16) + i % 16 = i by omega] at h1
  omega
theorem floor_bit {a b Z i : Nat} (hb : 0 < b) (h : Z = a / b / 2 ^ (i + 1) * 2 ^ (i + 1)) : a / b / 2 ^ i * 2 ^ i = if (Z + 2 ^ i) * b ≤ a then Z + 2 ^ i else Z := by
  have hp : 0 < 2 ^ i := Nat.pow_pos (by omega)
  have hz : Z = (a / b / 2 ^ i / 2) * 2 * 2 ^ i := by rw [h, Nat.pow_succ, ← Nat.div_div_eq_div_mul, Nat.mul_comm (2 ^ i) 2, Nat.mul_assoc]
  have hle : (Z + 2 ^ i) * b ≤ a ↔ a / b / 2 ^ i / 2 * 2 + 1 ≤ a / b / 2 ^ i := by
    rw [← Nat.le_div_iff_mul_le hb, Nat.le_div_iff_mul_le hp, hz, Nat.add_mul, Nat.one_mul]
  rw [hz] at hle ⊢
  generalize a / b / 2 ^ i = m at *
  split
  · rename_i hc
    have := hle.1 hc
    have e : m = m / 2 * 2 + 1 := by omega
    conv => lhs; rw [e]
    rw [Nat.add_mul, Nat.one_mul]
  · rename_i hc
    have := fun h => hc (hle.2 h)
    rw [show m / 2 * 2 = m by omega]
end Go.Abs
namespace Go.Proofs.Ytllfcbacpoaphaa
open Go Go.Abs
def FlI (H1 : AH) (q8 q9 q10 a b : Nat) (k : Nat) (env : Env) (H' : AH) : Prop :=
  env 2 = some (.bool false) ∧ env 8 = some (.pointer (some ⟨q8, 0, none⟩)) ∧ env 9 = some (.pointer (some ⟨q9, 0, none⟩)) ∧ env 10 = some (.pointer (some ⟨q10, 0, none⟩)) ∧ env 11 = some (.bool false) ∧ env 12 = some (.int .i64 (63 - (k : Int))) ∧ WF H' ∧ Keep [q10] H1 H' ∧
  ∃ za zn zc, H'.blk q10 = some (.row [.bool false, .slice za zn zc] T_secateurref01_Big true) ∧ BigV (fun z => z ≠ q10) H' (.agg #[.bool false, .slice za zn zc]) ((a / b / 2 ^ (64 - k) * 2 ^ (64 - k) : Nat) : Int)
def FlQ (H1 : AH) (q8 q9 q10 a b : Nat) (e : AExit) (env : Env) (H' : AH) : Prop := e = .exit 0 ∧ FlI H1 q8 q9 q10 a b 64 env H'
theorem dn_len {m n : Nat} (h : m ≤ n) (hn : n < 340282366920938463463374607431768211456) : (bdig m).length ≤ 1000 := by
  have := bdig_small (n := m) (by omega)
  omega
theorem flr_l0 {H1 : AH} {q8 q9 q10 a b : Nat} {xa ya : Option Addr} {xn xc yn yc : Nat} (ha : a ≤ 9223372036854775807) (hb : 0 < b ∧ b ≤ 2147483648) (hw : WF H1) (hq : q8 ≠ q10 ∧ q9 ≠ q10 ∧ q10 < H1.next)
    (c8 : H1.cells q8 = some [.bool false, .slice xa xn xc]) (c9 : H1.cells q9 = some [.bool false, .slice ya yn yc])
    (v8 : BigV (fun z => z ≠ q10) H1 (.agg #[.bool false, .slice xa xn xc]) (a : Int)) (v9 : BigV (fun z => z ≠ q10) H1 (.agg #[.bool false, .slice ya yn yc]) (b : Int)) {env : Env} {H2 : AH} (h : FlI H1 q8 q9 q10 a b 0 env H2) :
    wpC Try.prog 88 (.loop ir_ref01_Floor_l0) (FlQ H1 q8 q9 q10 a b) env H2 := by
  refine loop_upto 64 (FlI H1 q8 q9 q10 a b) (Q := FlQ H1 q8 q9 q10 a b) h ?_
  rintro k env H' hk ⟨e2, e8, e9, e10, e11, e12, w', k', za, zn, zc, bz, vz⟩
  have n' := k'.next
  by_cases hkn : k < 64
  · obtain ⟨i, hi⟩ : ∃ i, i = 63 - k := ⟨_, rfl⟩
    have hi64 : i < 64 := by omega
    rw [show (63 : Int) - (k : Int) = (i : Int) by omega] at e12
    obtain ⟨Z, hZ⟩ : ∃ Z, Z = a / b / 2 ^ (i + 1) * 2 ^ (i + 1) := ⟨_, rfl⟩
    rw [show 64 - k = i + 1 by omega, ← hZ] at vz
    have hstep := floor_bit (i := i) hb.1 hZ
    have hZle : Z ≤ 9223372036854775807 := by
      have h1 := Nat.div_mul_le_self (a / b) (2 ^ (i + 1))
      have h2 := Nat.div_le_self a b
      omega
    have hbv := bit_val hi64
    have hsh := u_shl1 (e := i % 16) (by omega)
    have hqu := i_quo16 hi64
    have hre := i_rem16 hi64
    have hj : i / 16 < 4 := by omega
    have hx : 2 ^ (i % 16) < 65536 := Nat.pow_lt_pow_right (a := 2) (n := 16) (by omega) (by omega)
    have hp64 : 2 ^ i < 18446744073709551616 := Nat.pow_lt_pow_right (a := 2) (n := 64) (by omega) hi64
    obtain ⟨Ha, hHa⟩ : ∃ Ha, Ha = H'.alloc (.row [uv 0, uv 0, uv 0, uv 0] T_uint64 true) := ⟨_, rfl⟩
    have ka : Keep [] H' Ha := by rw [hHa]; exact .alloc
    have wa : WF Ha := by rw [hHa]; exact w'.alloc
    have na : Ha.next = H'.next + 1 := by rw [hHa]; rfl
    have hms : MuS Ha H'.next 4 [0, 0, 0, 0] Ha := ⟨wa, .refl, by rw [hHa]; exact AH.alloc_blk_new, rfl, by simp⟩
    obtain ⟨hwr, hS⟩ := hms.set hj hx
    have hi0 : ¬ ((i : Int) < 0) := by omega
    have hi0' : (0 : Int) ≤ (i : Int) := by omega
    have hj4 : ((i / 16 : Nat) : Int) < 4 := by omega
    have hnx : k + 1 = 64 - i := by omega
    have hi1 : (i : Int) - 1 = 63 - ((k + 1 : Nat) : Int) := by omega
    have hD : SlV (fun z => H'.next ≤ z ∧ z < Ha.next) (Ha.set H'.next (.row (uC (([0, 0, 0, 0] : List Nat).set (i / 16) (2 ^ (i % 16)))) T_uint64 true)) (.slice (some ⟨H'.next, 0, none⟩) 4 4) (([0, 0, 0, 0] : List Nat).set (i / 16) (2 ^ (i % 16))) := by
      have hl := hS.len
      have hbk := hS.blk
      have hlow := hS.low
      generalize ([0, 0, 0, 0] : List Nat).set (i / 16) (2 ^ (i % 16)) = D at *
      generalize Ha.set H'.next (.row (uC D) T_uint64 true) = Hs at *
      refine ⟨⟨by omega, .of (.inl rfl)⟩, uC D, ⟨by rw [uC_len]; simp, .inr ⟨_, 0, none, 4, uC D, by rw [hl], by omega, .inl rfl, AH.cells_of hbk, ?_, by omega, by omega⟩⟩, fun i hi => ⟨?_, by have := hlow D[i] (List.getElem_mem _); omega⟩⟩
      · rw [sz_nat, Nat.mul_one, cut_eq (by rw [uC_len]; omega), List.drop_zero, List.take_of_length_le (by rw [uC_len]; omega)]
      · simp [chunk, uC, List.drop_eq_getElem_cons, hi]
    generalize ([0, 0, 0, 0] : List Nat).set (i / 16) (2 ^ (i % 16)) = D at *
    obtain ⟨Hs, hHs⟩ : ∃ Hs, Hs = Ha.set H'.next (.row (uC D) T_uint64 true) := ⟨_, rfl⟩
    rw [← hHs] at hwr hD hS
    have ws : WF Hs := hS.wf
    have ks : Keep [] H' Hs := by rw [hHs]; exact .new_set (by omega) ka
    have ns : Hs.next = H'.next + 1 := by rw [hHs]; exact na
    have hbl : ∀ e ∈ D, e < 65536 := hS.low
    rw [hHa] at hwr
    generalize 2 ^ (i % 16) = ex at *
    generalize i / 16 = j at *
    generalize i % 16 = ei at *
    simp (disch := omega) [-getElem?_pos, if_pos, if_neg, decide_eq_true, decide_eq_false, ir_ref01_Floor_l0, e8, e9, e10, e12, ↓hqu, ↓hre, ↓hsh, hi0, hi0', hj, hj4, ↓hwr]
    refine (trim_spec hD hbl).mono' fun u H3 w3 ⟨tw, hu, hvt, k3⟩ => ?_
    rw [hbv] at hvt hu
    obtain ⟨B, hB⟩ : ∃ B, B = 2 ^ i := ⟨_, rfl⟩
    rw [← hB] at hvt hu hp64 hstep
    rw [Bool.false_and] at hu
    subst hu
    obtain ⟨ta, tc, rfl⟩ := hvt.slice
    have n3 := k3.next
    obtain ⟨H4, hH4⟩ : ∃ H4, H4 = H3.alloc (.row [.bool false, .slice ta (bdig B).length tc] T_secateurref01_Big true) := ⟨_, rfl⟩
    have k34 : Keep [] H3 H4 := by rw [hH4]; exact .alloc
    have w4 : WF H4 := by rw [hH4]; exact w3.alloc
    have n4 : H4.next = H3.next + 1 := by rw [hH4]; rfl
    have kd4 : Keep [] H' H4 := ks.trans' (k3.trans' k34)
    have cz3 := cells_kept w' (ks.trans' k3) (AH.cells_of bz)
    have hne3 : q10 ≠ H3.next := by omega
    have vz4 := vz.kept w' kd4
    have vt4 : BigV (fun z => z ≠ q10) H4 (.agg #[.bool false, .slice ta (bdig B).length tc]) (B : Int) := ⟨_, by rw [decide_eq_false (by omega)], by rw [Int.natAbs_natCast]; exact (hvt.kept w3 k34).mono fun z hz => by omega⟩
    simp (disch := omega) [-getElem?_pos, if_pos, if_neg, decide_eq_true, decide_eq_false, writeA, over, cut2, bigC, e10, cz3, hne3]
    rw [← hH4]
    refine (Add_spec vz4 vt4 (dn_len (n := 9223372036854775807) hZle (by omega)) (dn_len (n := 18446744073709551616) (by omega) (by omega))).mono' fun u H5 w5 ⟨hA, k5⟩ => ?_
    obtain ⟨av, rfl, hA0⟩ := hA
    rw [decide_eq_false (show ¬ (((Z + B : Nat) : Int)) < 0 by omega), Int.natAbs_natCast] at *
    obtain ⟨aa, ac, rfl⟩ := hA0.slice
    have n5 := k5.next
    obtain ⟨H6, hH6⟩ : ∃ H6, H6 = H5.alloc (.row [.bool false, .slice aa (bdig (Z + B)).length ac] T_secateurref01_Big true) := ⟨_, rfl⟩
    have k56 : Keep [] H5 H6 := by rw [hH6]; exact .alloc
    have w6 : WF H6 := by rw [hH6]; exact w5.alloc
    have n6 : H6.next = H5.next + 1 := by rw [hH6]; rfl
    have kd6 : Keep [] H' H6 := kd4.trans' (k5.trans' k56)
    have c15 : H6.cells H5.next = some [.bool false, .slice aa (bdig (Z + B)).length ac] := by rw [hH6]; exact AH.cells_alloc_new
    have k1' : Keep [q10] H1 H5 := k'.trans (kd4.trans' k5) (by simp)
    have k16 : Keep [q10] H1 H6 := k'.trans kd6 (by simp)
    have c95 := cells_keep hw k1' (by simpa using hq.2.1) c9
    have c86 := cells_keep hw k16 (by simpa using hq.1) c8
    have v96 := v9.up (fun _ h => h) (.keep hw k16 fun z hz h => h (by simpa using hz))
    have va6 : BigV (fun z => z ≠ q10) H6 (.agg #[.bool false, .slice aa (bdig (Z + B)).length ac]) ((Z + B : Nat) : Int) := ⟨_, by rw [decide_eq_false (by omega)], by rw [Int.natAbs_natCast]; exact (hA0.kept w5 k56).mono fun z hz => by omega⟩
    have hne5 : q9 ≠ H5.next := by have := cells_lt w5 c95; omega
    simp (disch := omega) [-getElem?_pos, if_pos, if_neg, decide_eq_true, decide_eq_false, writeA, over, cut2, bigC, e9, c95, hne5]
    rw [← hH6]
    refine (Mul_spec va6 v96 (by rw [Int.natAbs_natCast]; exact dn_len (n := 36893488147419103232) (by omega) (by omega)) (by rw [Int.natAbs_natCast]; exact dn_len (n := 2147483648) hb.2 (by omega))).mono' fun u H7 w7 ⟨hM, k7⟩ => ?_
    rw [← Int.natCast_mul] at hM
    have hcmp : (cmpZ (((Z + B) * b : Nat) : Int) (a : Int) ≤ 0) = ((Z + B) * b ≤ a) := by
      unfold cmpZ
      apply propext
      split
      · constructor <;> omega
      · split <;> constructor <;> omega
    have hc3 : cmpZ (((Z + B) * b : Nat) : Int) (a : Int) = -1 ∨ cmpZ (((Z + B) * b : Nat) : Int) (a : Int) = 0 ∨ cmpZ (((Z + B) * b : Nat) : Int) (a : Int) = 1 := by
      unfold cmpZ
      split
      · exact .inl rfl
      · split
        · exact .inr (.inr rfl)
        · exact .inr (.inl rfl)
    obtain ⟨M, hMe⟩ : ∃ M, M = (Z + B) * b := ⟨_, rfl⟩
    rw [← hMe] at hM hcmp hc3 hstep
    obtain ⟨mv, rfl, hM0⟩ := hM
    rw [decide_eq_false (show ¬ ((M : Nat) : Int) < 0 by omega), Int.natAbs_natCast] at *
    obtain ⟨ma, mc, rfl⟩ := hM0.slice
    have n7 := k7.next
    obtain ⟨H8, hH8⟩ : ∃ H8, H8 = H7.alloc (.row [.bool false, .slice ma (bdig M).length mc] T_secateurref01_Big true) := ⟨_, rfl⟩
    have k78 : Keep [] H7 H8 := by rw [hH8]; exact .alloc
    have w8 : WF H8 := by rw [hH8]; exact w7.alloc
    have n8 : H8.next = H7.next + 1 := by rw [hH8]; rfl
    have k68 := k7.trans' k78
    have kd8 : Keep [] H' H8 := kd6.trans' k68
    have k18 : Keep [q10] H1 H8 := k'.trans kd8 (by simp)
    have c87 := cells_kept w6 k7 c86
    have v88 := v8.up (fun _ h => h) (.keep hw k18 fun z hz h => h (by simpa using hz))
    have vm8 : BigV (fun z => z ≠ q10) H8 (.agg #[.bool false, .slice ma (bdig M).length mc]) (M : Int) := ⟨_, by rw [decide_eq_false (by omega)], by rw [Int.natAbs_natCast]; exact (hM0.kept w7 k78).mono fun z hz => by omega⟩
    have hne7 : q8 ≠ H7.next := by have := cells_lt w7 c87; omega
    simp (disch := omega) [-getElem?_pos, if_pos, if_neg, decide_eq_true, decide_eq_false, writeA, over, cut2, bigC, e8, c87, hne7]
    rw [← hH8]
    refine AFn.pure (Cmp_spec vm8 v88) ?_
    have c158 := cells_kept w6 k68 c15
    have bz8 := (kd8.blk q10 (by omega) (by simp)).trans bz
    have va8 := va6.kept w6 k68
    have hi1w : IntKind.i64.wrap ((i : Int) - 1) = (i : Int) - 1 := IntWalk.i64_in _ (by omega)
    have hpz : 64 - (k + 1) = i := by omega
    have hst2 : a / b / 2 ^ (64 - (k + 1)) * 2 ^ (64 - (k + 1)) = if M ≤ a then Z + B else Z := by rw [hpz, ← hB]; exact hstep
    have h12 : some (Value.int .i64 ((i : Int) - 1)) = some (Value.int .i64 (63 - ((k + 1 : Nat) : Int))) := by rw [hi1]
    generalize cmpZ (M : Int) (a : Int) = cz at *
    by_cases hle : M ≤ a
    · have hc := eq_true (hcmp ▸ hle : cz ≤ 0)
      simp (disch := omega) [-getElem?_pos, if_pos, if_neg, decide_eq_true, decide_eq_false, e12, e10, hc, c158, cut2, writeA, over, bz8, hi1w]
      refine ⟨hkn, by simp [e2], by simp [e8], by simp [e9], by simp [e10], by simp [e11], by simpa using h12, w8.set (by omega), ⟨by show H1.next ≤ H8.next; omega, fun z hz hn => by rw [AH.set_blk_ne (by simpa using hn)]; exact k18.blk z hz hn⟩, aa, _, ac, AH.set_blk_same, by rw [hst2, if_pos hle]; exact va8.up (fun _ h => h) (.set (by simp))⟩
    · have hc := eq_false (fun h => hle (hcmp ▸ h) : ¬ cz ≤ 0)
      simp (disch := omega) [-getElem?_pos, if_pos, if_neg, decide_eq_true, decide_eq_false, e12, e10, hc, hi1w]
      exact ⟨hkn, by simp [e2], by simp [e8], by simp [e9], by simp [e10], by simp [e11], by simpa using h12, w8, k18, za, zn, zc, bz8, by rw [hst2, if_neg hle]; exact vz.kept w' kd8⟩
  · obtain rfl : k = 64 := by omega
    simp (disch := omega) [-getElem?_pos, if_pos, if_neg, decide_eq_true, decide_eq_false, ir_ref01_Floor_l0, e12]
    exact ⟨rfl, e2, e8, e9, e10, e11, e12, w', k', za, zn, zc, bz, vz⟩
theorem FloorR_spec {H : AH} {a b : Nat} (ha : a ≤ 9223372036854775807) (hb : 0 < b ∧ b ≤ 2147483648) : AFn Try.prog F_ref01_Floor [.int .i64 a, .int .i64 b, .bool false] H fun u H' => u = .tuple #[.int .i64 ((a / b : Nat) : Int), .bool true] ∧ H' = H := by
  refine AFn.calm (fun H0 hs => ?_) rfl
  refine AFn.enter mixed ir_ref01_Floor_eq (by simp [ir_ref01_Floor]) fun hw => ?_
  obtain ⟨q, hq⟩ : ∃ q, q = a / b := ⟨_, rfl⟩
  rw [← hq]
  have hb0 := eq_false (show ¬ (b : Int) = 0 by omega)
  have hb0n := eq_false (show ¬ b = 0 by omega)
  simp (disch := omega) [-getElem?_pos, if_pos, if_neg, decide_eq_true, decide_eq_false, ir_ref01_Floor, hb0, hb0n]
  refine (Of_spec (n := (a : Int)) (by unfold I64; omega)).mono' fun u H1 w1 ⟨hA, k1⟩ => ?_
  obtain ⟨dv, rfl, hA0⟩ := hA
  rw [decide_eq_false (show ¬ (a : Int) < 0 by omega), Int.natAbs_natCast] at *
  obtain ⟨xa, xc, rfl⟩ := hA0.slice
  have n1 := k1.next
  obtain ⟨H2, hH2⟩ : ∃ H2, H2 = H1.alloc (.row [.bool false, .slice xa (bdig a).length xc] T_secateurref01_Big true) := ⟨_, rfl⟩
  have k12 : Keep [] H1 H2 := by rw [hH2]; exact .alloc
  have w2 : WF H2 := by rw [hH2]; exact w1.alloc
  have n2 : H2.next = H1.next + 1 := by rw [hH2]; rfl
  have b2 : H2.blk H1.next = some (.row [.bool false, .slice xa (bdig a).length xc] T_secateurref01_Big true) := by rw [hH2]; exact AH.alloc_blk_new
  simp (disch := omega) [-getElem?_pos, if_pos, if_neg, decide_eq_true, decide_eq_false, writeA, over, cut2, bigC]
  rw [← hH2]
  refine (Of_spec (n := (b : Int)) (by unfold I64; omega)).mono' fun u H3 w3 ⟨hB, k3⟩ => ?_
  obtain ⟨ev, rfl, hB0⟩ := hB
  rw [decide_eq_false (show ¬ (b : Int) < 0 by omega), Int.natAbs_natCast] at *
  obtain ⟨ya, yc, rfl⟩ := hB0.slice
  have n3 := k3.next
  obtain ⟨H4, hH4⟩ : ∃ H4, H4 = H3.alloc (.row [.bool false, .slice ya (bdig b).length yc] T_secateurref01_Big true) := ⟨_, rfl⟩
  have k34 : Keep [] H3 H4 := by rw [hH4]; exact .alloc
  have w4 : WF H4 := by rw [hH4]; exact w3.alloc
  have n4 : H4.next = H3.next + 1 := by rw [hH4]; rfl
  have b4 : H4.blk H3.next = some (.row [.bool false, .slice ya (bdig b).length yc] T_secateurref01_Big true) := by rw [hH4]; exact AH.alloc_blk_new
  obtain ⟨H5, hH5⟩ : ∃ H5, H5 = H4.alloc (.row [.bool false, .slice none 0 0] T_secateurref01_Big true) := ⟨_, rfl⟩
  have k45 : Keep [] H4 H5 := by rw [hH5]; exact .alloc
  have w5 : WF H5 := by rw [hH5]; exact w4.alloc
  have n5 : H5.next = H4.next + 1 := by rw [hH5]; rfl
  have b5 : H5.blk (H3.next + 1) = some (.row [.bool false, .slice none 0 0] T_secateurref01_Big true) := by rw [hH5, ← n4]; exact AH.alloc_blk_new
  have k25 := k3.trans' (k34.trans' k45)
  have b3 := (k3.blk H1.next (by omega) (by simp)).trans b2
  have b45 := (k45.blk H3.next (by omega) (by simp)).trans b4
  have b25 := (k25.blk H1.next (by omega) (by simp)).trans b2
  have hs8 : H5.set H1.next (.row [.bool false, .slice xa (bdig a).length xc] T_secateurref01_Big true) = H5 := AH.set_selfK b25
  have hs9 : H5.set H3.next (.row [.bool false, .slice ya (bdig b).length yc] T_secateurref01_Big true) = H5 := AH.set_selfK b45
  have v8 : BigV (fun z => z ≠ H3.next + 1) H5 (.agg #[.bool false, .slice xa (bdig a).length xc]) (a : Int) := ⟨_, by rw [decide_eq_false (by omega)], by rw [Int.natAbs_natCast]; exact (hA0.kept w1 (k12.trans' k25)).mono fun z hz => by omega⟩
  have v9 : BigV (fun z => z ≠ H3.next + 1) H5 (.agg #[.bool false, .slice ya (bdig b).length yc]) (b : Int) := ⟨_, by rw [decide_eq_false (by omega)], by rw [Int.natAbs_natCast]; exact (hB0.kept w3 (k34.trans' k45)).mono fun z hz => by omega⟩
  have c3 := AH.cells_of b3
  have ne1 : H1.next ≠ H3.next := by omega
  have ne2 : H1.next ≠ H3.next + 1 := by omega
  have c25 := AH.cells_of b25
  have c45 := AH.cells_of b45
  have hs10 : H5.set (H3.next + 1) (.row [.bool false, .slice none 0 0] T_secateurref01_Big true) = H5 := AH.set_selfK b5
  simp (disch := omega) [-getElem?_pos, if_pos, if_neg, decide_eq_true, decide_eq_false, writeA, over, cut2, bigC, b3, c3, ne1, ne2]
  rw [← hH4, ← hH5, hs10, hs8, hs9]
  have hz0 : a / b / 2 ^ (64 - 0) * 2 ^ (64 - 0) = 0 := by
    have h2 := Nat.div_le_self a b
    rw [Nat.div_eq_of_lt (by show a / b < 18446744073709551616; omega), Nat.zero_mul]
  refine wpC_use (flr_l0 (H1 := H5) (q8 := H1.next) (q9 := H3.next) (q10 := H3.next + 1) ha hb w5 ⟨by omega, by omega, by omega⟩ c25 c45 v8 v9 ⟨by simp, by simp, by simp, by simp, by simp, by simp, w5, .refl, none, 0, 0, b5, by rw [hz0]; exact ⟨_, rfl, SlV.nil⟩⟩) ?_
  rintro e env2 H6 ⟨rfl, e2, e8, e9, e10, e11, _, w6, k6, za, zn, zc, bz, vz⟩ _
  rw [show 64 - 64 = 0 from rfl, Nat.pow_zero, Nat.div_one, Nat.mul_one] at vz
  have hqle := Nat.div_le_self a b
  have n6 := k6.next
  have c8 := cells_keep w5 k6 (by simpa using ne2) c25
  have c9 := cells_keep w5 k6 (by simp) c45
  have v96 := v9.up (fun _ h => h) (.keep w5 k6 fun z hz h => h (by simpa using hz))
  have cz := AH.cells_of bz
  simp (disch := omega) [-getElem?_pos, if_pos, if_neg, decide_eq_true, decide_eq_false, e9, e10, c9, cz, cut2]
  refine (Mul_spec vz v96 (by rw [Int.natAbs_natCast]; exact dn_len (n := 9223372036854775807) (by omega) (by omega)) (by rw [Int.natAbs_natCast]; exact dn_len (n := 2147483648) hb.2 (by omega))).mono' fun u H7 w7 ⟨hM, k7⟩ => ?_
  rw [← Int.natCast_mul] at hM
  rw [← hq] at hM vz hqle
  obtain ⟨M, hMe⟩ : ∃ M, M = q * b := ⟨_, rfl⟩
  rw [← hMe] at hM
  obtain ⟨mv, rfl, hM0⟩ := hM
  rw [decide_eq_false (show ¬ ((M : Nat) : Int) < 0 by omega), Int.natAbs_natCast] at *
  obtain ⟨ma, mc, rfl⟩ := hM0.slice
  have n7 := k7.next
  obtain ⟨H8, hH8⟩ : ∃ H8, H8 = H7.alloc (.row [.bool false, .slice ma (bdig M).length mc] T_secateurref01_Big true) := ⟨_, rfl⟩
  have k78 : Keep [] H7 H8 := by rw [hH8]; exact .alloc
  have w8 : WF H8 := by rw [hH8]; exact w7.alloc
  have n8 : H8.next = H7.next + 1 := by rw [hH8]; rfl
  have k68 := k7.trans' k78
  have c87 := cells_kept w6 k7 c8
  have v88 := (v8.up (fun _ h => h) (.keep w5 k6 fun z hz h => h (by simpa using hz))).kept w6 k68
  have vm8 : BigV (fun z => z ≠ H3.next + 1) H8 (.agg #[.bool false, .slice ma (bdig M).length mc]) (M : Int) := ⟨_, by rw [decide_eq_false (by omega)], by rw [Int.natAbs_natCast]; exact (hM0.kept w7 k78).mono fun z hz => by omega⟩
  have hne7 : H1.next ≠ H7.next := by omega
  simp (disch := omega) [-getElem?_pos, if_pos, if_neg, decide_eq_true, decide_eq_false, writeA, over, cut2, bigC, e8, c87, hne7]
  rw [← hH8]
  refine AFn.pure (Cmp_spec vm8 v88) ?_
  simp (disch := omega) [-getElem?_pos, if_pos, if_neg, decide_eq_true, decide_eq_false, e8]
  refine (Of_spec (n := (1 : Int)) (by unfold I64; omega)).mono' fun u H9 w9 ⟨hO, k9⟩ => ?_
  obtain ⟨ov, rfl, hO0⟩ := hO
  obtain ⟨oa, oc, rfl⟩ := hO0.slice
  have n9 := k9.next
  have k69 := k68.trans' k9
  have bz9 := (k69.blk (H3.next + 1) (by omega) (by simp)).trans bz
  obtain ⟨H10, hH10⟩ : ∃ H10, H10 = H9.alloc (.row [.bool false, .slice oa (bdig (1 : Int).natAbs).length oc] T_secateurref01_Big true) := ⟨_, rfl⟩
  have k910 : Keep [] H9 H10 := by rw [hH10]; exact .alloc
  have w10 : WF H10 := by rw [hH10]; exact w9.alloc
  have n10 : H10.next = H9.next + 1 := by rw [hH10]; rfl
  have k610 := k69.trans' k910
  have bz10 := (k610.blk (H3.next + 1) (by omega) (by simp)).trans bz
  have cz9 := AH.cells_of bz9
  have vz10 := vz.kept w6 k610
  obtain ⟨zv, hze, hz1⟩ := vz10
  rw [decide_eq_false (show ¬ ((q : Nat) : Int) < 0 by omega)] at hze
  rw [Int.natAbs_natCast] at hz1
  have hze2 : zv = .slice za zn zc := by simpa using hze.symm
  subst hze2
  have hself : H10.set (H3.next + 1) (.row [.bool false, .slice za zn zc] T_secateurref01_Big true) = H10 := AH.set_selfK bz10
  have hne9 : H3.next + 1 ≠ H9.next := by omega
  have htr := trim_spec (s := false) hz1 (bdig_lt q)
  rw [bval_bdig] at htr
  have hbit : (decide ((1 : Int) < 0)) = false := by decide
  have hdec : (cmpZ (M : Int) (a : Int) = 0) = True ∨ (cmpZ (M : Int) (a : Int) = 0) = False := by
    by_cases h : cmpZ (M : Int) (a : Int) = 0
    · exact .inl (eq_true h)
    · exact .inr (eq_false h)
  generalize cmpZ (M : Int) (a : Int) = cc at *
  generalize (bdig (1 : Int).natAbs).length = ol at *
  have hself' := hself
  rw [hH10] at hself'
  obtain ⟨hf1, hf2⟩ := fits_small (n := (q : Int)) ⟨by omega, by omega⟩
  have fin : AFn Try.prog F_ref01_trim [.agg #[.bool false, .slice za zn zc]] H10 fun u H11 => ∃ ta tn tc, u = .agg #[.bool false, .slice ta tn tc] ∧ H11.blk (H3.next + 1) = some (.row [.bool false, .slice za zn zc] T_secateurref01_Big true) ∧ AFn Try.prog F_ref01_Short [.agg #[.bool false, .slice ta tn tc]] (H11.set (H3.next + 1) (.row [.bool false, .slice ta tn tc] T_secateurref01_Big true)) fun u H' => u = .tuple #[.int .i64 (q : Int), .bool true] ∧ H' = H11.set (H3.next + 1) (.row [.bool false, .slice ta tn tc] T_secateurref01_Big true) := by
    refine htr.mono' fun u H11 w11 ⟨tw, hu, hvt, k11⟩ => ?_
    rw [Bool.false_and] at hu
    subst hu
    obtain ⟨ta, tc, rfl⟩ := hvt.slice
    have hb11 := (k11.blk (H3.next + 1) (by omega) (by simp)).trans bz10
    refine ⟨ta, _, tc, rfl, hb11, ?_⟩
    have hsv : BigV (fun z => z ≠ H3.next + 1) (H11.set (H3.next + 1) (.row [.bool false, .slice ta (bdig q).length tc] T_secateurref01_Big true)) (.agg #[.bool false, .slice ta (bdig q).length tc]) (q : Int) := ⟨_, by rw [decide_eq_false (by omega)], by rw [Int.natAbs_natCast]; exact hvt.up (fun z hz => hz) (.set (by simp))⟩
    have := Short_spec hsv
    rw [hf1, hf2] at this
    exact this
  rcases hdec with hd | hd
  all_goals
    simp (disch := omega) [-getElem?_pos, if_pos, if_neg, decide_eq_true, decide_eq_false, writeA, over, cut2, bigC, hbit, e2, e10, e11, hd, bz9, hne9, hself', cz9]
    rw [← hH10]
    refine fin.mono' fun u H11 w11 ⟨ta, tn, tc, hu, b11, hsh⟩ => ?_
    subst hu
    simp (disch := omega) [-getElem?_pos, if_pos, if_neg, decide_eq_true, decide_eq_false, writeA, over, cut2, bigC, e10, b11]
    refine AFn.pure hsh ?_
    simp (disch := omega) [-getElem?_pos, if_pos, if_neg, decide_eq_true, decide_eq_false, ]
end Go.Proofs.Ytllfcbacpoaphaa
