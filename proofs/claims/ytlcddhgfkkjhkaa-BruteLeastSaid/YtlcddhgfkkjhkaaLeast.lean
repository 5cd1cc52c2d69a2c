/-
  BruteLeast: the walk.
-/
import Derived.Test.YtlcddhgfkkjhkaaLeastP
import Derived.Test.YtlcddhgfkkjhkaaWakes
import Derived.Test.YtlcddhgfkkjhkaaIrR
set_option maxRecDepth 100000
set_option linter.unusedSimpArgs false
set_option linter.unusedVariables false
namespace Go.Proofs.Ytlcddhgfkkjhkaa
open Go Go.Abs
-- (.tmp 81) [82]
def leastAsg : ACode := (.region [⟨(some 16), (.mv (.tmp 82)), none⟩] false)
def leastBody : ACode := (.block 1 (.seq (.seq (.region [⟨(some 84), (.loadN 6 (.tmp 5)), none⟩, ⟨(some 85), (.mv (.tmp 16)), none⟩, ⟨(some 86), (.call (.func F_eval_Cost) [(.tmp 84), (.tmp 85)]), none⟩, ⟨(some 83), (.mv (.tmp 86)), none⟩, ⟨(some 87), (.ext (.tmp 83) 0), none⟩, ⟨(some 88), (.ext (.tmp 83) 1), none⟩, ⟨(some 17), (.mv (.tmp 87)), none⟩, ⟨(some 18), (.mv (.tmp 88)), none⟩] false) (.seq (.region [⟨(some 89), (.mv (.tmp 18)), none⟩, ⟨(some 90), (.bin .eql (.tmp 89) (.const (.int .i64 0))), none⟩, ⟨(some 91), (.mv (.tmp 90)), none⟩, ⟨(some 92), (.load1 (.tmp 9)), (some (91, true))⟩, ⟨(some 93), (.un .not (.tmp 92)), (some (91, true))⟩, ⟨(some 94), (.mv (.tmp 93)), (some (91, true))⟩, ⟨(some 95), (.mv (.tmp 17)), (some (94, false))⟩, ⟨(some 96), (.load1 (.tmp 8)), (some (94, false))⟩, ⟨(some 97), (.bin .lss (.tmp 95) (.tmp 96)), (some (94, false))⟩, ⟨(some 98), (.pick (.tmp 94) (.const (.bool true)) (.tmp 97)), (some (91, true))⟩, ⟨(some 99), (.pick (.tmp 91) (.tmp 98) (.const (.bool false))), none⟩] false) (.cond (.tmp 99) (.seq (.region [⟨none, (.store1 (.tmp 4) (.const (.bool false))), none⟩] false) .ret) .skip))) (.seq (.region [⟨(some 100), (.load1 (.tmp 15)), none⟩, ⟨(some 101), (.bin .add (.tmp 100) (.const (.int .i64 1))), none⟩, ⟨none, (.store1 (.tmp 15) (.tmp 101)), none⟩] false) (.seq (.region [⟨(some 102), (.load1 (.tmp 15)), none⟩, ⟨(some 103), (.bin .gtr (.tmp 102) (.const (.int .i64 40))), none⟩] false) (.cond (.tmp 103) (.exit 0) .skip)))))
theorem roundK_exit {l i : Nat} {L : LoopA} {Q : Value → AH → Prop} {env : Env} {H : AH} (hl : H.blk l = some (.loop L)) (h : Q (.bool false) (H.set l (.loop { L with state := .done, pending := some (.exit i) }))) : roundK l Q (.exit i) env H := ⟨_, hl, h⟩
def LeI (H0 : AH) (n0 r : Nat) (k : Nat) (H' : AH) : Prop := n0 ≤ H'.next ∧ ∀ b, b < n0 → H'.blk b = (H0.set r (.row [.int .i64 k] T_int true)).blk b
def LeF (H0 : AH) (n0 r l : Nat) (L0 : LoopA) (H' : AH) : Prop := n0 ≤ H'.next ∧ ∃ k : Nat, ∀ b, b < n0 → H'.blk b = ((H0.set r (.row [.int .i64 k] T_int true)).set l (.loop { busyL L0 with state := .done, pending := some (.exit 0) })).blk b
theorem least_yld {H0 : AH} {l n0 r8 r9 r q C : Nat} {x : InstD} {iv cv sv : Value} {L0 : LoopA} {O : List Nat} (hw0 : WF H0) (hL : LoopF L0 110 82 16 leastBody) (hl : H0.blk l = some (.loop L0)) (hn0 : H0.next = n0) (hl8 : l ≠ r8) (hl9 : l ≠ r9) (hlr : l ≠ r) (h8r : r8 ≠ r) (h9r : r9 ≠ r) (hqr : q ≠ r) (hql : q ≠ l)
    (hr : H0.blk r = some (.row [.int .i64 0] T_int true)) (c8 : H0.cells r8 = some [.int .i64 (bC (bestK x C))]) (c9 : H0.cells r9 = some [.bool (bestK x C).isSome])
    (hq : H0.cells q = some (instC x iv cv sv)) (hx : InstV (fun b => b < n0 ∧ b ≠ r ∧ b ≠ l) H0 (.agg (instC x iv cv sv).toArray) x)
    (hE : x.countE = 0) (hC : x.count = (C : Int)) (hC2 : C ≤ 1048576)
    (e5 : L0.env 5 = some (.pointer (some ⟨q, 0, none⟩))) (e8 : L0.env 8 = some (.pointer (some ⟨r8, 0, none⟩))) (e9 : L0.env 9 = some (.pointer (some ⟨r9, 0, none⟩))) (e15 : L0.env 15 = some (.pointer (some ⟨r, 0, none⟩))) (hO : ∀ b ∈ O, n0 ≤ b) :
    Yld l n0 C x.at O (LeI H0 n0 r) (LeF H0 n0 r l L0) := by
  have hl0 := hw0 l _ hl
  have hq0 := cells_lt hw0 hq
  have h80 := cells_lt hw0 c8
  have h90 := cells_lt hw0 c9
  have hr0 := hw0 r _ hr
  refine ⟨fun k H H' h hw hn hk => ?_, fun H H' h hw hn hk => ?_, fun k H v hk hI hw hn hv => ?_⟩
  · have := hk.next
    exact ⟨by omega, fun b hbn => by rw [hk.blk b (by omega) (fun h => by have := hO b h; omega)]; exact h.2 b hbn⟩
  · have := hk.next
    obtain ⟨h1, kk, h2⟩ := h
    exact ⟨by omega, kk, fun b hbn => by rw [hk.blk b (by omega) (fun h => by have := hO b h; omega)]; exact h2 b hbn⟩
  · obtain ⟨_, hb⟩ := hI
    have gl : H.blk l = some (.loop L0) := by rw [hb l (by omega), AH.set_blk_ne hlr]; exact hl
    have gr : H.blk r = some (.row [.int .i64 k] T_int true) := by rw [hb r (by omega), AH.set_blk_same]
    have go : ∀ b, b < n0 → b ≠ r → H.blk b = H0.blk b := fun b hbn h1 => by rw [hb b hbn, AH.set_blk_ne h1]
    have gc : ∀ b cs, b < n0 → b ≠ r → b ≠ l → H0.cells b = some cs → (H.set l (.loop (busyL L0))).cells b = some cs := fun b cs hbn h1 h2 hc => by
      rw [AH.cells_set_ne h2]; unfold AH.cells at hc ⊢; rw [go b hbn h1]; exact hc
    refine yield_round mixed hL gl ?_
    have cq := gc q _ (by omega) hqr hql hq
    have d8 := gc r8 _ (by omega) h8r (Ne.symm hl8) c8
    have d9 := gc r9 _ (by omega) h9r (Ne.symm hl9) c9
    have hx1 : InstV (fun _ => True) (H.set l (.loop (busyL L0))) (.agg (instC x iv cv sv).toArray) x := hx.up (fun _ _ => trivial) fun b hbp cs hc => gc b cs hbp.1 hbp.2.1 hbp.2.2 hc
    have hv1 : SlV (fun b => n0 ≤ b ∧ b < H.next ∧ b ∉ O) (H.set l (.loop (busyL L0))) v (x.at k) := hv.sub (.set (by simp; omega))
    have fr : (H.set l (.loop (busyL L0))).blk r = some (.row [.int .i64 k] T_int true) := by rw [AH.set_blk_ne (Ne.symm hlr)]; exact gr
    have fl : (H.set l (.loop (busyL L0))).blk l = some (.loop (busyL L0)) := AH.set_blk_same
    have fo : ∀ b, b ≠ l → (H.set l (.loop (busyL L0))).blk b = H.blk b := fun b hb => AH.set_blk_ne hb
    have nx : (H.set l (.loop (busyL L0))).next = H.next := rfl
    generalize H.set l (.loop (busyL L0)) = H1 at *
    obtain ⟨va, vc, rfl⟩ := hv.slice
    have cr := AH.cells_of fr
    have hcost := Cost_spec hx1 hv1.any
    have hbl : x.valueE (x.at k) = 0 → (bestK x C).isSome = true ∧ bC (bestK x C) ≤ x.costOf (x.at k) := fun h => best_least hk h
    have wr := writeA_of (off := 0) (news := [Value.int .i64 ((k : Int) + 1)]) fr (by simp)
    simp only [over, List.take_zero, List.nil_append, List.length_cons, List.length_nil, Nat.zero_add, List.drop_succ_cons, List.drop_zero, List.append_nil] at wr
    have hk1 : ((k : Int) + 1) = ((k + 1 : Nat) : Int) := by omega
    have m1 : (H1.set r (.row [.int .i64 ((k : Int) + 1)] T_int true)).blk l = some (.loop (busyL L0)) := by rw [AH.set_blk_ne hlr]; exact fl
    have mO : ∀ X, ∀ b ∈ O, ((H1.set r (.row [.int .i64 ((k : Int) + 1)] T_int true)).set l X).blk b = H.blk b := fun X b hbO => by
      have := hO b hbO
      rw [AH.set_blk_ne (by omega), AH.set_blk_ne (by omega), fo b (by omega)]
    have mI : ∀ b, b < n0 → b ≠ l → (H1.set r (.row [.int .i64 ((k : Int) + 1)] T_int true)).blk b = (H0.set r (.row [.int .i64 ((k + 1 : Nat) : Int)] T_int true)).blk b := fun b hbn hbl => by
      by_cases h2 : b = r
      · subst h2; rw [AH.set_blk_same, AH.set_blk_same, hk1]
      · rw [AH.set_blk_ne h2, AH.set_blk_ne h2, fo b hbl, go b hbn h2]
    have nN : (H1.set r (.row [.int .i64 ((k : Int) + 1)] T_int true)).next = H1.next := rfl
    have fin1 : ∀ env : Env, roundK l (fun u H' => H.next ≤ H'.next ∧ (∀ b ∈ O, H'.blk b = H.blk b) ∧ ((u = .bool true ∧ LeI H0 n0 r (k + 1) H') ∨ (u = .bool false ∧ LeF H0 n0 r l L0 H'))) .normal env (H1.set r (.row [.int .i64 ((k : Int) + 1)] T_int true)) := fun env =>
      roundK_normal hL m1 ⟨by simp [nx], mO _, .inl ⟨rfl, by simp; omega, fun b hbn => by
        by_cases h1 : b = l
        · subst h1; rw [AH.set_blk_same, AH.set_blk_ne hlr]; exact hl.symm
        · rw [AH.set_blk_ne h1]; exact mI b hbn h1⟩⟩
    have fin2 : ∀ env : Env, roundK l (fun u H' => H.next ≤ H'.next ∧ (∀ b ∈ O, H'.blk b = H.blk b) ∧ ((u = .bool true ∧ LeI H0 n0 r (k + 1) H') ∨ (u = .bool false ∧ LeF H0 n0 r l L0 H'))) (.exit 0) env (H1.set r (.row [.int .i64 ((k : Int) + 1)] T_int true)) := fun env =>
      roundK_exit m1 ⟨by simp [nx], mO _, .inr ⟨rfl, by simp; omega, k + 1, fun b hbn => by
        by_cases h1 : b = l
        · subst h1; rw [AH.set_blk_same, AH.set_blk_same]
        · rw [AH.set_blk_ne h1, AH.set_blk_ne h1]; exact mI b hbn h1⟩⟩
    have cr2 : (H1.set r (.row [.int .i64 ((k : Int) + 1)] T_int true)).cells r = some [.int .i64 ((k : Int) + 1)] := AH.cells_set_same
    generalize H1.set r (.row [.int .i64 ((k : Int) + 1)] T_int true) = H2 at *
    simp (disch := omega) [-getElem?_pos, if_pos, if_neg, decide_eq_true, decide_eq_false, leastBody, e5, cq, inst_cut]
    refine AFn.pure hcost ?_
    by_cases hV : x.valueE (x.at k) = 0
    · obtain ⟨hs, hle⟩ := hbl hV
      rw [hs] at d9
      have hle' : ¬ x.costOf (x.at k) < bC (bestK x C) := by omega
      clear hbl
      generalize bC (bestK x C) = bc at *
      generalize x.costOf (x.at k) = cc at *
      by_cases h40 : (40 : Int) < (k : Int) + 1
      · simp (disch := omega) [-getElem?_pos, if_pos, if_neg, decide_eq_true, decide_eq_false, hV, e8, e9, e15, d8, d9, hle', cr, cr2, wr, h40, IntWalk.i64_in]
        exact fin2 _
      · simp (disch := omega) [-getElem?_pos, if_pos, if_neg, decide_eq_true, decide_eq_false, hV, e8, e9, e15, d8, d9, hle', cr, cr2, wr, h40, IntWalk.i64_in]
        exact fin1 _
    · have hVF := eq_false hV
      generalize bC (bestK x C) = bc at *
      generalize x.costOf (x.at k) = cc at *
      by_cases h40 : (40 : Int) < (k : Int) + 1
      · simp (disch := omega) [-getElem?_pos, if_pos, if_neg, decide_eq_true, decide_eq_false, hVF, e8, e9, e15, d8, d9, cr, cr2, wr, h40, IntWalk.i64_in]
        exact fin2 _
      · simp (disch := omega) [-getElem?_pos, if_pos, if_neg, decide_eq_true, decide_eq_false, hVF, e8, e9, e15, d8, d9, cr, cr2, wr, h40, IntWalk.i64_in]
        exact fin1 _
end Go.Proofs.Ytlcddhgfkkjhkaa
