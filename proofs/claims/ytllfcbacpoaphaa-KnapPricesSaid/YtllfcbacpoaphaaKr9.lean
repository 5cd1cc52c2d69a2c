/-
  The document's Gcd of any numbers, and Good.
-/
import Derived.Test.YtllfcbacpoaphaaKr1
import Derived.Test.YtllfcbacpoaphaaBig2
import Derived.Test.YtllfcbacpoaphaaKd66
set_option maxRecDepth 100000
set_option linter.unusedSimpArgs false
set_option linter.unusedVariables false
namespace Go.Proofs.Ytllfcbacpoaphaa
open Go Go.Abs
theorem dnl {m n : Nat} (h : m ≤ n) (hn : n < 340282366920938463463374607431768211456) : (bdig m).length ≤ 1000 := by
  have := bdig_len (m := 8) (n := m) (Nat.lt_of_le_of_lt h hn)
  omega
theorem GcdZ_spec : ∀ (n : Nat) (a b : Int) {H : AH}, b.natAbs = n → I64 a → I64 b → AFn Try.prog F_ref01_Gcd [.int .i64 a, .int .i64 b] H fun u H' => u = .tuple #[.int .i64 (shortI (Int.gcd a b : Int)), .bool (fitsI (Int.gcd a b : Int))] ∧ H' = H := by
  intro n
  induction n using Nat.strongRecOn with
  | _ n ih =>
    intro a b H hbn ha hb
    refine AFn.calm (fun H0 hs => ?_) rfl
    refine AFn.enter mixed ir_ref01_Gcd_eq (by simp [ir_ref01_Gcd]) fun hw => ?_
    simp (disch := omega) [-getElem?_pos, if_pos, if_neg, decide_eq_true, decide_eq_false, ir_ref01_Gcd]
    refine (Of_spec (n := a) ha).mono' fun u H1 w1 ⟨hA, k1⟩ => ?_
    obtain ⟨dv, rfl, hA0⟩ := hA
    obtain ⟨xa, xc, rfl⟩ := hA0.slice
    have n1 := k1.next
    obtain ⟨sa, hsa⟩ : ∃ sa, sa = decide (a < 0) := ⟨_, rfl⟩
    rw [← hsa]
    obtain ⟨H2, hH2⟩ : ∃ H2, H2 = H1.alloc (.row [.bool sa, .slice xa (bdig a.natAbs).length xc] T_secateurref01_Big true) := ⟨_, rfl⟩
    have k12 : Keep [] H1 H2 := by rw [hH2]; exact .alloc
    have w2 : WF H2 := by rw [hH2]; exact w1.alloc
    have n2 : H2.next = H1.next + 1 := by rw [hH2]; rfl
    have b2 : H2.blk H1.next = some (.row [.bool sa, .slice xa (bdig a.natAbs).length xc] T_secateurref01_Big true) := by rw [hH2]; exact AH.alloc_blk_new
    simp (disch := omega) [-getElem?_pos, if_pos, if_neg, decide_eq_true, decide_eq_false, writeA, over, cut2, bigC]
    rw [← hH2]
    refine (Of_spec (n := b) hb).mono' fun u H3 w3 ⟨hB, k3⟩ => ?_
    obtain ⟨ev, rfl, hB0⟩ := hB
    obtain ⟨ya, yc, rfl⟩ := hB0.slice
    have n3 := k3.next
    obtain ⟨sb, hsb⟩ : ∃ sb, sb = decide (b < 0) := ⟨_, rfl⟩
    rw [← hsb]
    have hbz : (bdig b.natAbs).length = 0 ↔ b = 0 := by rw [List.length_eq_zero_iff, bdig_nil, Int.natAbs_eq_zero]
    by_cases h0 : b = 0
    · have hg0 : Int.gcd a b = a.natAbs := by rw [h0, Int.gcd_zero_right]
      have hz : (bdig b.natAbs).length = 0 := hbz.2 h0
      rw [hz, hg0]
      obtain ⟨H4, hH4⟩ : ∃ H4, H4 = H3.alloc (.row [.bool sb, .slice ya 0 yc] T_secateurref01_Big true) := ⟨_, rfl⟩
      have k34 : Keep [] H3 H4 := by rw [hH4]; exact .alloc
      have k14 := k12.trans' (k3.trans' k34)
      have w4 : WF H4 := by rw [hH4]; exact w3.alloc
      have b3 := (k3.blk H1.next (by omega) (by simp)).trans b2
      have c3 := AH.cells_of b3
      have n4 : H4.next = H3.next + 1 := by rw [hH4]; rfl
      have hne : H1.next ≠ H3.next := by omega
      have hsh := Short_spec (H := H4.set H1.next (.row [.bool false, .slice xa (bdig a.natAbs).length xc] T_secateurref01_Big true)) (p := fun z => z ≠ H1.next) (v := .agg #[.bool false, .slice xa (bdig a.natAbs).length xc]) (n := (a.natAbs : Int)) ⟨_, by rw [decide_eq_false (by omega)], by rw [Int.natAbs_natCast]; exact ((hA0.kept w1 k14).mono (q := fun z => z ≠ H1.next) fun z hz => by omega).up (fun z hz => hz) (.set (by simp))⟩
      rw [hH4] at hsh
      generalize shortI (a.natAbs : Int) = r1 at *
      generalize fitsI (a.natAbs : Int) = r2 at *
      generalize (bdig a.natAbs).length = la at *
      simp (disch := omega) [-getElem?_pos, if_pos, if_neg, decide_eq_true, decide_eq_false, writeA, over, cut2, bigC, b3, c3, hne]
      refine AFn.pure hsh ?_
      simp (disch := omega) [-getElem?_pos, if_pos, if_neg, decide_eq_true, decide_eq_false, ]
    · have hl0 : ¬ (bdig b.natAbs).length = 0 := fun h => h0 (hbz.1 h)
      have hl0' := eq_false (show ¬ ((bdig b.natAbs).length : Int) = 0 by omega)
      have hl0n := eq_false hl0
      have hbI := eq_false h0
      have hmod : (Int.tmod a b).natAbs = a.natAbs % b.natAbs := Int.natAbs_tmod a b
      have hlt : a.natAbs % b.natAbs < b.natAbs := Nat.mod_lt _ (by omega)
      have hrb : I64 (Int.tmod a b) := by unfold I64 at hb ⊢; omega
      have hrec := fun H => ih (Int.tmod a b).natAbs (by omega) b (Int.tmod a b) (H := H) rfl hb hrb
      have hg : Int.gcd b (Int.tmod a b) = Int.gcd a b := by unfold Int.gcd; rw [hmod]; exact gcd_step _ _
      rw [hg] at hrec
      have hwr : IntKind.i64.wrap (Int.tmod a b) = Int.tmod a b := IntWalk.i64_in _ (by unfold I64 at hrb; omega)
      by_cases hmn : a = -9223372036854775808
      · by_cases hb1 : b = -1
        · have hg1 : Int.gcd a b = 1 := by rw [hb1, show (-1 : Int) = -(1) from rfl, Int.gcd_neg, Int.gcd_one_right]
          have f1 : shortI ((1 : Nat) : Int) = 1 := by decide
          have f2 : fitsI ((1 : Nat) : Int) = true := by decide
          rw [hg1, f1, f2]
          have hmn' := eq_true hmn
          have hb1' := eq_true hb1
          clear hrec hg hwr hrb hmod hlt
          generalize (bdig b.natAbs).length = lb at *
          simp (disch := omega) [-getElem?_pos, if_pos, if_neg, decide_eq_true, decide_eq_false, writeA, over, cut2, bigC, hl0', hl0n, hmn', hb1']
        · have hmn' := eq_true hmn
          have hb1' := eq_false hb1
          generalize shortI (Int.gcd a b : Int) = r1 at *
          generalize fitsI (Int.gcd a b : Int) = r2 at *
          generalize (bdig b.natAbs).length = lb at *
          simp (disch := omega) [-getElem?_pos, if_pos, if_neg, decide_eq_true, decide_eq_false, writeA, over, cut2, bigC, hl0', hl0n, hmn', hb1', hbI, hwr]
          refine AFn.pure (hrec _) ?_
          simp (disch := omega) [-getElem?_pos, if_pos, if_neg, decide_eq_true, decide_eq_false, ]
      · have hmn' := eq_false hmn
        generalize shortI (Int.gcd a b : Int) = r1 at *
        generalize fitsI (Int.gcd a b : Int) = r2 at *
        generalize (bdig b.natAbs).length = lb at *
        simp (disch := omega) [-getElem?_pos, if_pos, if_neg, decide_eq_true, decide_eq_false, writeA, over, cut2, bigC, hl0', hl0n, hmn', hbI, hwr]
        refine AFn.pure (hrec _) ?_
        simp (disch := omega) [-getElem?_pos, if_pos, if_neg, decide_eq_true, decide_eq_false, ]
theorem GoodR_spec {H : AH} {n d : Int} (hn : I64 n) (hd : I64 d) : AFn Try.prog F_ref02_Good [.int .i64 n, .int .i64 d] H fun u H' => u = .bool (goodR n d) ∧ H' = H := by
  refine AFn.calm (fun H0 hs => ?_) rfl
  refine AFn.enter mixed ir_ref02_Good_eq (by simp [ir_ref02_Good]) fun hw => ?_
  have hg := fun H => GcdZ_spec d.natAbs n d (H := H) rfl hn hd
  have hgr : goodR n d = decide (0 < d ∧ (Int.gcd n d : Int) = 1) := rfl
  rw [hgr]
  generalize (Int.gcd n d : Int) = g at *
  simp (disch := omega) [-getElem?_pos, if_pos, if_neg, decide_eq_true, decide_eq_false, ir_ref02_Good]
  refine AFn.pure (hg _) ?_
  by_cases h1 : 0 < d
  · by_cases h2 : g = 1
    · subst h2
      have f1 : fitsI 1 = true := by decide
      have f2 : shortI 1 = 1 := by decide
      simp (disch := omega) [-getElem?_pos, if_pos, if_neg, decide_eq_true, decide_eq_false, f1, f2, h1]
    · cases hf : fitsI g with
      | true =>
        have f2 : shortI g = g := by unfold shortI; rw [hf]; rfl
        have h2' := eq_false h2
        rw [f2]
        simp (disch := omega) [-getElem?_pos, if_pos, if_neg, decide_eq_true, decide_eq_false, h1, h2']
      | false =>
        have h2' := eq_false h2
        simp (disch := omega) [-getElem?_pos, if_pos, if_neg, decide_eq_true, decide_eq_false, h1, h2']
  · simp (disch := omega) [-getElem?_pos, if_pos, if_neg, decide_eq_true, decide_eq_false, h1]
end Go.Proofs.Ytllfcbacpoaphaa
