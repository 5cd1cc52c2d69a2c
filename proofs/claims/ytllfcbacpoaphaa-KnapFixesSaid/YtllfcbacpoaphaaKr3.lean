/-
  The document's Gcd, Make and Floor, of numbers from nought on.
-/
import Derived.Test.YtllfcbacpoaphaaKr2
import Derived.Test.YtllfcbacpoaphaaBig2
set_option maxRecDepth 100000
set_option linter.unusedSimpArgs false
set_option linter.unusedVariables false
namespace Go.Abs
open Go
theorem bdig_small {n : Nat} (h : n < 340282366920938463463374607431768211456) : (bdig n).length ≤ 8 := bdig_len h
end Go.Abs
namespace Go.Proofs.Ytllfcbacpoaphaa
open Go Go.Abs
theorem fits_small {n : Int} (h : -9223372036854775808 ≤ n ∧ n ≤ 9223372036854775807) : fitsI n = true ∧ shortI n = n := by
  have : fitsI n = true := decide_eq_true h
  exact ⟨this, by unfold shortI; rw [this]; rfl⟩
theorem GcdR_spec : ∀ (b a : Nat) {H : AH}, a ≤ 9223372036854775807 → b ≤ 9223372036854775807 → AFn Try.prog F_ref01_Gcd [.int .i64 a, .int .i64 b] H fun u H' => u = .tuple #[.int .i64 (Nat.gcd a b : Nat), .bool true] ∧ H' = H := by
  intro b
  induction b using Nat.strongRecOn with
  | _ b ih =>
    intro a H ha hb
    refine AFn.calm (fun H0 hs => ?_) rfl
    refine AFn.enter mixed ir_ref01_Gcd_eq (by simp [ir_ref01_Gcd]) fun hw => ?_
    simp (disch := omega) [-getElem?_pos, if_pos, if_neg, decide_eq_true, decide_eq_false, ir_ref01_Gcd]
    refine (Of_spec (n := (a : Int)) (by unfold I64; omega)).mono' fun u H1 w1 ⟨hA, k1⟩ => ?_
    obtain ⟨dv, rfl, hA0⟩ := hA
    rw [decide_eq_false (show ¬ (a : Int) < 0 by omega), Int.natAbs_natCast] at *
    obtain ⟨xa, xc, rfl⟩ := hA0.slice
    have n1 := k1.next
    obtain ⟨H2, hH2⟩ : ∃ H2, H2 = H1.alloc (.row [.bool false, .slice xa (bdig a).length xc] T_secateurref01_Big true) := ⟨_, rfl⟩
    have k12 : Keep [] H1 H2 := by rw [hH2]; exact .alloc
    have w2 : WF H2 := by rw [hH2]; exact w1.alloc
    have n2 : H2.next = H1.next + 1 := by rw [hH2]; rfl
    have b2 : H2.blk H1.next = some (.row [.bool false, .slice xa (bdig a).length xc] T_secateurref01_Big true) := by rw [hH2]; exact AH.alloc_blk_new
    simp (disch := omega) [-getElem?_pos, if_pos, if_neg, decide_eq_true, decide_eq_false, writeA, over, cut2, bigC]
    rw [← hH2]
    refine (Of_spec (n := (b : Int)) (by unfold I64; omega)).mono' fun u H3 w3 ⟨hB, k3⟩ => ?_
    obtain ⟨ev, rfl, hB0⟩ := hB
    rw [decide_eq_false (show ¬ (b : Int) < 0 by omega), Int.natAbs_natCast] at *
    obtain ⟨ya, yc, rfl⟩ := hB0.slice
    have n3 := k3.next
    have hbz : (bdig b).length = 0 ↔ b = 0 := by rw [List.length_eq_zero_iff, bdig_nil]
    by_cases h0 : b = 0
    · subst h0
      have hz : (bdig 0).length = 0 := rfl
      rw [hz]
      obtain ⟨H4, hH4⟩ : ∃ H4, H4 = H3.alloc (.row [.bool false, .slice ya 0 yc] T_secateurref01_Big true) := ⟨_, rfl⟩
      have k34 : Keep [] H3 H4 := by rw [hH4]; exact .alloc
      have k14 := k12.trans' (k3.trans' k34)
      have k24 := k3.trans' k34
      have b4 := (k24.blk H1.next (by omega) (by simp)).trans b2
      have w4 : WF H4 := by rw [hH4]; exact w3.alloc
      have b3 := (k3.blk H1.next (by omega) (by simp)).trans b2
      have c3 := AH.cells_of b3
      have n4 : H4.next = H3.next + 1 := by rw [hH4]; rfl
      have hVA : BigV (fun z => z ≠ H1.next) H4 (.agg #[.bool false, .slice xa (bdig a).length xc]) (a : Int) := ⟨_, by rw [decide_eq_false (by omega)], by rw [Int.natAbs_natCast]; exact (hA0.kept w1 k14).mono fun z hz => by omega⟩
      obtain ⟨hf1, hf2⟩ := fits_small (n := (a : Int)) ⟨by omega, by omega⟩
      have hne : H1.next ≠ H3.next := by omega
      have hself : H4.set H1.next (.row [.bool false, .slice xa (bdig a).length xc] T_secateurref01_Big true) = H4 := AH.set_selfK b4
      have hsh := Short_spec (H := H4) hVA
      rw [hf1, hf2] at hsh
      rw [Nat.gcd_zero_right]
      rw [hH4] at hself hsh
      simp (disch := omega) [-getElem?_pos, if_pos, if_neg, decide_eq_true, decide_eq_false, writeA, over, cut2, bigC, b3, c3, hne, hself]
      refine AFn.pure hsh ?_
      simp (disch := omega) [-getElem?_pos, if_pos, if_neg, decide_eq_true, decide_eq_false, ]
    · have hl0 : ¬ (bdig b).length = 0 := fun h => h0 (hbz.1 h)
      have hl0' := eq_false (show ¬ ((bdig b).length : Int) = 0 by omega)
      have hl0n := eq_false hl0
      have hrec := fun H => ih (a % b) (Nat.mod_lt _ (by omega)) b (H := H) (by omega) (by have := Nat.mod_lt a (show 0 < b by omega); omega)
      have hg : Nat.gcd b (a % b) = Nat.gcd a b := by rw [Nat.gcd_comm b, ← Nat.gcd_rec, Nat.gcd_comm]
      rw [hg] at hrec
      have hmn : ¬ (a : Int) = -9223372036854775808 := by omega
      have hmn' := eq_false hmn
      have hbI := eq_false (show ¬ (b : Int) = 0 by omega)
      have hb0' := eq_false h0
      have htm : Int.tmod (a : Int) (b : Int) = ((a % b : Nat) : Int) := by rw [Int.tmod_eq_emod_of_nonneg (by omega), ← Int.natCast_emod]
      generalize Nat.gcd a b = g at *
      generalize a % b = r at *
      generalize (bdig b).length = lb at *
      simp (disch := omega) [-getElem?_pos, if_pos, if_neg, decide_eq_true, decide_eq_false, writeA, over, cut2, bigC, hl0', hl0n, hmn', hbI, hb0', htm, IntWalk.i64_in]
      refine AFn.pure (hrec _) ?_
      simp (disch := omega) [-getElem?_pos, if_pos, if_neg, decide_eq_true, decide_eq_false, ]
theorem MakeR_spec {H : AH} {n d : Nat} (hn : n ≤ 2147483648) (hd : 0 < d ∧ d ≤ 2147483648) : AFn Try.prog F_ref02_Make [.int .i64 n, .int .i64 d] H fun u H' => u = .tuple #[.int .i64 (mkNum n d), .int .i64 (mkDen n d), .bool true] ∧ H' = H := by
  refine AFn.calm (fun H0 hs => ?_) rfl
  refine AFn.enter mixed ir_ref02_Make_eq (by simp [ir_ref02_Make]) fun hw => ?_
  have hgI : (Int.gcd (n : Int) (d : Int)) = Nat.gcd n d := rfl
  have hA : mkA (n : Int) (d : Int) = ((n / Nat.gcd n d : Nat) : Int) := by unfold mkA; rw [if_neg (by omega), hgI, Int.natCast_ediv]
  have hB : mkB (n : Int) (d : Int) = ((d / Nat.gcd n d : Nat) : Int) := by unfold mkB; rw [if_neg (by omega), hgI, Int.natCast_ediv]
  have hle1 : n / Nat.gcd n d ≤ n := Nat.div_le_self _ _
  have hle2 : d / Nat.gcd n d ≤ d := Nat.div_le_self _ _
  have hok : mkOk (n : Int) (d : Int) = true := by
    unfold mkOk
    rw [hA, hB]
    generalize n / Nat.gcd n d = x at *
    generalize d / Nat.gcd n d = y at *
    simp only [Bool.and_eq_true, decide_eq_true_eq]
    refine ⟨⟨?_, ?_⟩, ?_⟩ <;> omega
  have hN : mkNum (n : Int) (d : Int) = ((n / Nat.gcd n d : Nat) : Int) := by unfold mkNum; rw [hok]; exact hA
  have hD : mkDen (n : Int) (d : Int) = ((d / Nat.gcd n d : Nat) : Int) := by unfold mkDen; rw [hok]; exact hB
  rw [hN, hD]
  have hd0 := eq_false (show ¬ (d : Int) = 0 by omega)
  have hd0n := eq_false (show ¬ d = 0 by omega)
  by_cases h0 : n = 0
  · subst h0
    rw [Nat.gcd_zero_left, Nat.zero_div, Nat.div_self hd.1]
    simp (disch := omega) [-getElem?_pos, if_pos, if_neg, decide_eq_true, decide_eq_false, ir_ref02_Make, hd0, hd0n]
  · have h0' := eq_false (show ¬ (n : Int) = 0 by omega)
    have h0n := eq_false h0
    by_cases he : n = d
    · subst he
      rw [Nat.gcd_self, Nat.div_self hd.1]
      simp (disch := omega) [-getElem?_pos, if_pos, if_neg, decide_eq_true, decide_eq_false, ir_ref02_Make, hd0, hd0n, h0', h0n]
    · have he' := eq_false (show ¬ (n : Int) = (d : Int) by omega)
      have hen := eq_false he
      have hg := fun H => GcdR_spec d n (H := H) (by omega) (by omega)
      have hgp : 0 < Nat.gcd n d := Nat.gcd_pos_of_pos_right _ hd.1
      have hq1 : Int.tdiv (n : Int) ((Nat.gcd n d : Nat) : Int) = ((n / Nat.gcd n d : Nat) : Int) := by rw [Int.tdiv_eq_ediv_of_nonneg (by omega), ← Int.natCast_ediv]
      have hq2 : Int.tdiv (d : Int) ((Nat.gcd n d : Nat) : Int) = ((d / Nat.gcd n d : Nat) : Int) := by rw [Int.tdiv_eq_ediv_of_nonneg (by omega), ← Int.natCast_ediv]
      have hgz := eq_false (show ¬ ((Nat.gcd n d : Nat) : Int) = 0 by omega)
      have hgzn := eq_false (show ¬ Nat.gcd n d = 0 by omega)
      clear hA hB hN hD hok hgI
      generalize Nat.gcd n d = g at *
      generalize n / g = a at *
      generalize d / g = b at *
      obtain ⟨f1, f2⟩ := fits_small (n := (a : Int)) ⟨by omega, by omega⟩
      obtain ⟨f3, f4⟩ := fits_small (n := (b : Int)) ⟨by omega, by omega⟩
      simp (disch := omega) [-getElem?_pos, if_pos, if_neg, decide_eq_true, decide_eq_false, ir_ref02_Make, hd0, hd0n, h0', h0n, he', hen]
      refine AFn.pure (hg _) ?_
      simp (disch := omega) [-getElem?_pos, if_pos, if_neg, decide_eq_true, decide_eq_false, hgz, hgzn, hq1, hq2, IntWalk.i64_in]
      refine (Of_spec (n := (a : Int)) (by unfold I64; omega)).mono' fun u H1 w1 ⟨hA, k1⟩ => ?_
      obtain ⟨dv, rfl, hA0⟩ := hA
      rw [decide_eq_false (show ¬ (a : Int) < 0 by omega), Int.natAbs_natCast] at *
      obtain ⟨xa, xc, rfl⟩ := hA0.slice
      have n1 := k1.next
      obtain ⟨H2, hH2⟩ : ∃ H2, H2 = H1.alloc (.row [.bool false, .slice xa (bdig a).length xc] T_secateurref01_Big true) := ⟨_, rfl⟩
      have k12 : Keep [] H1 H2 := by rw [hH2]; exact .alloc
      have w2 : WF H2 := by rw [hH2]; exact w1.alloc
      have n2 : H2.next = H1.next + 1 := by rw [hH2]; rfl
      have c2 : H2.cells H1.next = some [.bool false, .slice xa (bdig a).length xc] := by rw [hH2]; exact AH.cells_alloc_new
      simp (disch := omega) [-getElem?_pos, if_pos, if_neg, decide_eq_true, decide_eq_false, writeA, over, cut2, bigC, hgz, hgzn, hq1, hq2, IntWalk.i64_in]
      rw [← hH2]
      refine (Of_spec (n := (b : Int)) (by unfold I64; omega)).mono' fun u H3 w3 ⟨hB, k3⟩ => ?_
      obtain ⟨ev, rfl, hB0⟩ := hB
      rw [decide_eq_false (show ¬ (b : Int) < 0 by omega), Int.natAbs_natCast] at *
      obtain ⟨ya, yc, rfl⟩ := hB0.slice
      have n3 := k3.next
      obtain ⟨H4, hH4⟩ : ∃ H4, H4 = H3.alloc (.row [.bool false, .slice ya (bdig b).length yc] T_secateurref01_Big true) := ⟨_, rfl⟩
      have k34 : Keep [] H3 H4 := by rw [hH4]; exact .alloc
      have k14 := k12.trans' (k3.trans' k34)
      have c24 := cells_kept w2 (k3.trans' k34) c2
      have c23 := cells_kept w2 k3 c2
      have hne : ¬ H1.next = H3.next := by omega
      have hVA : BigV (fun _ => True) H4 (.agg #[.bool false, .slice xa (bdig a).length xc]) (a : Int) := ⟨_, by rw [decide_eq_false (by omega)], by rw [Int.natAbs_natCast]; exact (hA0.kept w1 k14).any⟩
      have hVB : BigV (fun _ => True) H4 (.agg #[.bool false, .slice ya (bdig b).length yc]) (b : Int) := ⟨_, by rw [decide_eq_false (by omega)], by rw [Int.natAbs_natCast]; exact (hB0.kept w3 k34).any⟩
      have s1 := Short_spec (H := H4) hVA
      have s2 := Short_spec (H := H4) hVB
      rw [f1, f2] at s1
      rw [f3, f4] at s2
      have hdn : ¬ (d : Int) < 0 := by omega
      have c4 : H4.cells H3.next = some [.bool false, .slice ya (bdig b).length yc] := by rw [hH4]; exact AH.cells_alloc_new
      simp (disch := omega) [-getElem?_pos, if_pos, if_neg, decide_eq_true, decide_eq_false, writeA, over, cut2, bigC, hdn, c23, hne]
      rw [← hH4]
      refine AFn.pure s1 ?_
      simp (disch := omega) [-getElem?_pos, if_pos, if_neg, decide_eq_true, decide_eq_false, c4, cut2]
      refine AFn.pure s2 ?_
      simp (disch := omega) [-getElem?_pos, if_pos, if_neg, decide_eq_true, decide_eq_false, ]
end Go.Proofs.Ytllfcbacpoaphaa
