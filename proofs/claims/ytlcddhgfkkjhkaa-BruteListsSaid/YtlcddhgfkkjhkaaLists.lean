/-
  BruteLists: the loop.
-/
import Derived.Test.YtlcddhgfkkjhkaaBrute10
import Derived.Test.YtlcddhgfkkjhkaaRangeL
import Derived.Test.YtlcddhgfkkjhkaaRef13a
import Derived.Test.YtlcddhgfkkjhkaaFar
set_option maxRecDepth 100000
set_option linter.unusedSimpArgs false
set_option linter.unusedVariables false
namespace Go.Proofs.Ytlcddhgfkkjhkaa
open Go Go.Abs

-- (.tmp 60) [61]
def listsAsg : ACode := (.region [⟨(some 15), (.mv (.tmp 61)), none⟩] false)
def listsBody : ACode := (.block 1 (.seq (.seq (.region [⟨(some 62), (.load1 (.tmp 14)), none⟩, ⟨(some 63), (.load1 (.tmp 13)), none⟩, ⟨(some 64), (.len (.tmp 63)), none⟩, ⟨(some 65), (.bin .geq (.tmp 62) (.tmp 64)), none⟩, ⟨(some 66), (.mv (.tmp 65)), none⟩, ⟨(some 67), (.mv (.tmp 15)), (some (66, false))⟩, ⟨(some 68), (.load1 (.tmp 13)), (some (66, false))⟩, ⟨(some 69), (.load1 (.tmp 14)), (some (66, false))⟩, ⟨(some 70), (.idxS 1 (.tmp 68) (.tmp 69)), (some (66, false))⟩, ⟨(some 71), (.load1 (.tmp 70)), (some (66, false))⟩, ⟨(some 72), (.call (.func F_law13_equal) [(.tmp 67), (.tmp 71)]), (some (66, false))⟩, ⟨(some 73), (.un .not (.tmp 72)), (some (66, false))⟩, ⟨(some 74), (.pick (.tmp 66) (.const (.bool true)) (.tmp 73)), none⟩] false) (.cond (.tmp 74) (.seq (.region [⟨none, (.store1 (.tmp 2) (.const (.bool false))), none⟩] false) .ret) .skip)) (.region [⟨(some 75), (.load1 (.tmp 14)), none⟩, ⟨(some 76), (.bin .add (.tmp 75) (.const (.int .i64 1))), none⟩, ⟨none, (.store1 (.tmp 14) (.tmp 76)), none⟩] false)))

/-- What stood when the loop began, but for how many there were. -/
def LsI (H0 : AH) (n0 r : Nat) (k : Nat) (H' : AH) : Prop := ∀ b, b < n0 → H'.blk b = (H0.set r (.row [.int .i64 k] T_int true)).blk b

theorem lists_yld {H0 : AH} {l n0 r q13 C : Nat} {lv : Value} {x : InstD} {L0 : LoopA} {O : List Nat} (hw0 : WF H0) (hL : LoopF L0 81 61 15 listsBody) (hl : H0.blk l = some (.loop L0)) (hn0 : H0.next = n0) (hlr : l ≠ r) (hr : H0.blk r = some (.row [.int .i64 0] T_int true)) (hqr : q13 ≠ r) (hql : q13 ≠ l)
    (hq : H0.cells q13 = some [lv]) (hll : SlV (fun b => b < n0 ∧ b ≠ r ∧ b ≠ l) H0 lv ((List.range C).map x.at)) (hC : C ≤ 1048576) (e13 : L0.env 13 = some (.pointer (some ⟨q13, 0, none⟩))) (e14 : L0.env 14 = some (.pointer (some ⟨r, 0, none⟩))) (hO : ∀ b ∈ O, n0 ≤ b) :
    Yld l n0 C x.at O (LsI H0 n0 r) (fun _ => False) := by
  have hl0 := hw0 l _ hl
  have hr0 := hw0 r _ hr
  have hq0 := cells_lt hw0 hq
  refine ⟨fun k H H' h hw hn hk b hb => ?_, fun _ _ h => h.elim, fun k H v hk hI hw hn hv => ?_⟩
  · rw [hk.blk b (by omega) (fun h => by have := hO b h; omega)]; exact h b hb
  · have bl : H.blk l = some (.loop L0) := by rw [hI l (by omega), AH.set_blk_ne hlr]; exact hl
    have br : H.blk r = some (.row [.int .i64 k] T_int true) := by rw [hI r (by omega), AH.set_blk_same]
    have cq : H.cells q13 = some [lv] := by
      have : H.blk q13 = H0.blk q13 := by rw [hI q13 (by omega), AH.set_blk_ne hqr]
      unfold AH.cells at hq ⊢; rw [this]; exact hq
    have hs : Sub (fun b => b < n0 ∧ b ≠ r ∧ b ≠ l) H0 (H.set l (.loop (busyL L0))) := fun b hb cs hc => by
      rw [AH.cells_set_ne hb.2.2]
      unfold AH.cells at hc ⊢
      rw [hI b hb.1, AH.set_blk_ne hb.2.1]; exact hc
    have hll' := (hll.sub hs).any
    have hv' : SlV (fun _ => True) (H.set l (.loop (busyL L0))) v (x.at k) := (hv.sub (.set (by simp; omega))).any
    have hlen : ((List.range C).map x.at).length = C := by simp
    obtain ⟨b0, off, sp, cap, cs, hcv, q1, q2⟩ := rows_rd hll' (by rw [hlen]; omega)
    obtain ⟨w, q3, q4⟩ := q2 k (by rw [hlen]; exact hk)
    subst hcv
    rw [List.getElem_map, List.getElem_range] at q4
    refine yield_round mixed hL bl ?_
    have cr : (H.set l (.loop (busyL L0))).cells r = some [.int .i64 k] := by rw [AH.cells_set_ne (Ne.symm hlr)]; exact AH.cells_of br
    have cq' : (H.set l (.loop (busyL L0))).cells q13 = some [.slice (some ⟨b0, off, sp⟩) ((List.range C).map x.at).length cap] := by rw [AH.cells_set_ne hql]; exact cq
    have br' : (H.set l (.loop (busyL L0))).blk r = some (.row [.int .i64 k] T_int true) := by rw [AH.set_blk_ne (Ne.symm hlr)]; exact br
    have bl' : (H.set l (.loop (busyL L0))).blk l = some (.loop (busyL L0)) := AH.set_blk_same
    have nx : (H.set l (.loop (busyL L0))).next = H.next := rfl
    have ho' : ∀ b, b ≠ l → (H.set l (.loop (busyL L0))).blk b = H.blk b := fun b hb => AH.set_blk_ne hb
    generalize H.set l (.loop (busyL L0)) = H1 at *
    obtain ⟨va, vc, rfl⟩ := hv.slice
    have hnk : ¬ C ≤ k := by omega
    simp (disch := omega) [-getElem?_pos, if_pos, if_neg, decide_eq_true, decide_eq_false, listsBody, e13, e14, cr, cq', q1, q3, hlen, hnk, hk]
    refine AFn.pure (equal13_spec hv' q4) ?_
    have wr := writeA_of (off := 0) (news := [Value.int .i64 ((k : Int) + 1)]) br' (by simp)
    simp (disch := omega) [-getElem?_pos, if_pos, if_neg, decide_eq_true, decide_eq_false, e13, e14, cr, wr, over, IntWalk.i64_in]
    refine roundK_normal hL (by rw [AH.set_blk_ne hlr]; exact bl') ⟨by simp [nx], fun b hb => ?_, rfl, fun b hb => ?_⟩
    · have := hO b hb
      rw [AH.set_blk_ne (by omega), AH.set_blk_ne (by omega), ho' b (by omega)]
    · by_cases h1 : b = l
      · subst h1; rw [AH.set_blk_same, AH.set_blk_ne hlr]; exact hl.symm
      · rw [AH.set_blk_ne h1]
        by_cases h2 : b = r
        · subst h2; rw [AH.set_blk_same, AH.set_blk_same]; rfl
        · rw [AH.set_blk_ne h2, AH.set_blk_ne h2, ho' b h1, hI b hb, AH.set_blk_ne h2]
end Go.Proofs.Ytlcddhgfkkjhkaa
