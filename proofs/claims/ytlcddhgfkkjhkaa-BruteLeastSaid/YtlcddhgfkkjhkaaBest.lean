/-
  package brute: Best.
-/
import Derived.Test.YtlcddhgfkkjhkaaBrute10
import Derived.Test.YtlcddhgfkkjhkaaRangeL
import Derived.Test.YtlcddhgfkkjhkaaEval
import Derived.Test.YtlcddhgfkkjhkaaInsts
set_option maxRecDepth 100000
set_option linter.unusedSimpArgs false
set_option linter.unusedVariables false
namespace Go.Proofs.Ytlcddhgfkkjhkaa
open Go Go.Abs
-- (.tmp 23) [24]
def bestAsg : ACode := (.region [⟨(some 11), (.mv (.tmp 24)), none⟩] false)
def bestBody : ACode := (.block 1 (.seq (.region [⟨(some 26), (.loadN 6 (.tmp 1)), none⟩, ⟨(some 27), (.mv (.tmp 11)), none⟩, ⟨(some 28), (.call (.func F_eval_Cost) [(.tmp 26), (.tmp 27)]), none⟩, ⟨(some 25), (.mv (.tmp 28)), none⟩, ⟨(some 29), (.ext (.tmp 25) 0), none⟩, ⟨(some 30), (.ext (.tmp 25) 1), none⟩, ⟨(some 12), (.mv (.tmp 29)), none⟩, ⟨(some 13), (.mv (.tmp 30)), none⟩] false) (.seq (.region [⟨(some 31), (.mv (.tmp 13)), none⟩, ⟨(some 32), (.bin .eql (.tmp 31) (.const (.int .i64 0))), none⟩, ⟨(some 33), (.mv (.tmp 32)), none⟩, ⟨(some 34), (.load1 (.tmp 10)), (some (33, true))⟩, ⟨(some 35), (.un .not (.tmp 34)), (some (33, true))⟩, ⟨(some 36), (.mv (.tmp 35)), (some (33, true))⟩, ⟨(some 37), (.mv (.tmp 12)), (some (36, false))⟩, ⟨(some 38), (.load1 (.tmp 9)), (some (36, false))⟩, ⟨(some 39), (.bin .lss (.tmp 37) (.tmp 38)), (some (36, false))⟩, ⟨(some 40), (.pick (.tmp 36) (.const (.bool true)) (.tmp 39)), (some (33, true))⟩, ⟨(some 41), (.pick (.tmp 33) (.tmp 40) (.const (.bool false))), none⟩] false) (.cond (.tmp 41) (.region [⟨(some 42), (.mv (.tmp 11)), none⟩, ⟨(some 43), (.mv (.tmp 12)), none⟩, ⟨none, (.store1 (.tmp 8) (.tmp 42)), none⟩, ⟨none, (.store1 (.tmp 9) (.tmp 43)), none⟩, ⟨none, (.store1 (.tmp 10) (.const (.bool true))), none⟩] false) .skip))))
noncomputable def bestS (x : InstD) (acc : Option (List Int × Int)) (y : List Int) : Option (List Int × Int) :=
  if x.valueE y = 0 ∧ (acc.isNone = true ∨ x.costOf y < (acc.map (·.2)).getD 0) then some (y, x.costOf y) else acc
noncomputable def bestK (x : InstD) : Nat → Option (List Int × Int)
  | 0 => none
  | k + 1 => bestS x (bestK x k) (x.at k)
noncomputable def bL (a : Option (List Int × Int)) : List Int := (a.map (·.1)).getD []
noncomputable def bC (a : Option (List Int × Int)) : Int := (a.map (·.2)).getD 0
def set3 (H : AH) (r8 r9 r10 : Nat) (v : Value) (c : Int) (f : Bool) : AH := ((H.set r8 (.row [v] T_Lint true)).set r9 (.row [.int .i64 c] T_int64 true)).set r10 (.row [.bool f] T_bool true)
def BsI (x : InstD) (H0 : AH) (n0 r8 r9 r10 : Nat) (O : List Nat) (k : Nat) (H' : AH) : Prop :=
  n0 ≤ H'.next ∧ ∃ v, (∀ b, b < n0 → H'.blk b = (set3 H0 r8 r9 r10 v (bC (bestK x k)) (bestK x k).isSome).blk b) ∧ SlV (fun b => n0 ≤ b ∧ b < H'.next ∧ b ∉ O) H' v (bL (bestK x k))
theorem best_yld {H0 : AH} {l n0 r8 r9 r10 q C : Nat} {x : InstD} {iv cv sv : Value} {L0 : LoopA} {O : List Nat} (hw0 : WF H0) (hL : LoopF L0 47 24 11 bestBody) (hl : H0.blk l = some (.loop L0)) (hn0 : H0.next = n0) (hl8 : l ≠ r8) (hl9 : l ≠ r9) (hl10 : l ≠ r10) (h89 : r8 ≠ r9) (h810 : r8 ≠ r10) (h910 : r9 ≠ r10)
    (b8 : ∃ v, H0.blk r8 = some (.row [v] T_Lint true)) (b9 : ∃ v, H0.blk r9 = some (.row [v] T_int64 true)) (b10 : ∃ v, H0.blk r10 = some (.row [v] T_bool true)) (hq8 : q ≠ r8) (hq9 : q ≠ r9) (hq10 : q ≠ r10) (hql : q ≠ l)
    (hq : H0.cells q = some (instC x iv cv sv)) (hx : InstV (fun b => b < n0 ∧ b ≠ r8 ∧ b ≠ r9 ∧ b ≠ r10 ∧ b ≠ l) H0 (.agg (instC x iv cv sv).toArray) x)
    (e1 : L0.env 1 = some (.pointer (some ⟨q, 0, none⟩))) (e8 : L0.env 8 = some (.pointer (some ⟨r8, 0, none⟩))) (e9 : L0.env 9 = some (.pointer (some ⟨r9, 0, none⟩))) (e10 : L0.env 10 = some (.pointer (some ⟨r10, 0, none⟩))) (hO : ∀ b ∈ O, n0 ≤ b) :
    Yld l n0 C x.at O (BsI x H0 n0 r8 r9 r10 O) (fun _ => False) := by
  have hl0 := hw0 l _ hl
  have hq0 := cells_lt hw0 hq
  obtain ⟨_, b8⟩ := b8
  obtain ⟨_, b9⟩ := b9
  obtain ⟨_, b10⟩ := b10
  have h80 := hw0 r8 _ b8
  have h90 := hw0 r9 _ b9
  have h100 := hw0 r10 _ b10
  refine ⟨fun k H H' h hw hn hk => ?_, fun _ _ h => h.elim, fun k H v hk hI hw hn hv => ?_⟩
  · obtain ⟨hnx, v, hb, hs⟩ := h
    have := hk.next
    refine ⟨by omega, v, fun b hbn => ?_, hs.up (fun b hb => ⟨hb.1, by omega, hb.2.2⟩) (.keep hw hk fun b hb h => h.2.2 hb)⟩
    rw [hk.blk b (by omega) (fun h => by have := hO b h; omega)]; exact hb b hbn
  · obtain ⟨_, bv, hb, hs⟩ := hI
    have gl : H.blk l = some (.loop L0) := by rw [hb l (by omega)]; unfold set3; rw [AH.set_blk_ne hl10, AH.set_blk_ne hl9, AH.set_blk_ne hl8]; exact hl
    have g8 : H.blk r8 = some (.row [bv] T_Lint true) := by rw [hb r8 (by omega)]; unfold set3; rw [AH.set_blk_ne h810, AH.set_blk_ne h89, AH.set_blk_same]
    have g9 : H.blk r9 = some (.row [.int .i64 (bC (bestK x k))] T_int64 true) := by rw [hb r9 (by omega)]; unfold set3; rw [AH.set_blk_ne h910, AH.set_blk_same]
    have g10 : H.blk r10 = some (.row [.bool (bestK x k).isSome] T_bool true) := by rw [hb r10 (by omega)]; unfold set3; rw [AH.set_blk_same]
    have gq : ∀ b, b < n0 → b ≠ r8 ∧ b ≠ r9 ∧ b ≠ r10 → H.blk b = H0.blk b := fun b hbn ⟨h1, h2, h3⟩ => by rw [hb b hbn]; unfold set3; rw [AH.set_blk_ne h3, AH.set_blk_ne h2, AH.set_blk_ne h1]
    refine yield_round mixed hL gl ?_
    have cq : (H.set l (.loop (busyL L0))).cells q = some (instC x iv cv sv) := by
      rw [AH.cells_set_ne hql]
      unfold AH.cells at hq ⊢; rw [gq q (by omega) ⟨hq8, hq9, hq10⟩]; exact hq
    have hx1 : InstV (fun _ => True) (H.set l (.loop (busyL L0))) (.agg (instC x iv cv sv).toArray) x := hx.up (fun _ _ => trivial) fun b hbp cs hc => by
      rw [AH.cells_set_ne hbp.2.2.2.2]
      unfold AH.cells at hc ⊢; rw [gq b hbp.1 ⟨hbp.2.1, hbp.2.2.1, hbp.2.2.2.1⟩]; exact hc
    have hv1 : SlV (fun b => n0 ≤ b ∧ b < H.next ∧ b ∉ O) (H.set l (.loop (busyL L0))) v (x.at k) := hv.sub (.set (by simp; omega))
    have hs1 : SlV (fun b => n0 ≤ b ∧ b < H.next ∧ b ∉ O) (H.set l (.loop (busyL L0))) bv (bL (bestK x k)) := hs.sub (.set (by simp; omega))
    have f8 : (H.set l (.loop (busyL L0))).blk r8 = some (.row [bv] T_Lint true) := by rw [AH.set_blk_ne (Ne.symm hl8)]; exact g8
    have f9 : (H.set l (.loop (busyL L0))).blk r9 = some (.row [.int .i64 (bC (bestK x k))] T_int64 true) := by rw [AH.set_blk_ne (Ne.symm hl9)]; exact g9
    have f10 : (H.set l (.loop (busyL L0))).blk r10 = some (.row [.bool (bestK x k).isSome] T_bool true) := by rw [AH.set_blk_ne (Ne.symm hl10)]; exact g10
    have fl : (H.set l (.loop (busyL L0))).blk l = some (.loop (busyL L0)) := AH.set_blk_same
    have fo : ∀ b, b ≠ l → (H.set l (.loop (busyL L0))).blk b = H.blk b := fun b hb => AH.set_blk_ne hb
    have nx : (H.set l (.loop (busyL L0))).next = H.next := rfl
    generalize H.set l (.loop (busyL L0)) = H1 at *
    obtain ⟨va, vc, rfl⟩ := hv.slice
    have c8 := AH.cells_of f8
    have c9 := AH.cells_of f9
    have c10 := AH.cells_of f10
    have hcost := Cost_spec hx1 hv1.any
    have hst : bestK x (k + 1) = bestS x (bestK x k) (x.at k) := rfl
    have hcv := hv.cell
    -- what is left when nothing changes
    have stay : bestK x (k + 1) = bestK x k → H1.next ≤ (H1.set l (.loop L0)).next ∧ (∀ b ∈ O, (H1.set l (.loop L0)).blk b = H.blk b) ∧ BsI x H0 n0 r8 r9 r10 O (k + 1) (H1.set l (.loop L0)) := fun he => by
      refine ⟨Nat.le_refl _, fun b hbO => ?_, by simp; omega, bv, fun b hbn => ?_, ?_⟩
      · have := hO b hbO
        rw [AH.set_blk_ne (by omega), fo b (by omega)]
      · rw [he, ← hb b hbn]
        by_cases h1 : b = l
        · subst h1; rw [AH.set_blk_same]; exact gl.symm
        · rw [AH.set_blk_ne h1, fo b h1]
      · rw [he]
        exact hs1.up (fun b hb => ⟨hb.1, by simp; omega, hb.2.2⟩) (.set (by simp; omega))
    have move : bestK x (k + 1) = some (x.at k, x.costOf (x.at k)) → ∀ H2, H2 = set3 H1 r8 r9 r10 (.slice va (x.at k).length vc) (x.costOf (x.at k)) true → H2.blk l = some (.loop (busyL L0)) ∧ H1.next ≤ (H2.set l (.loop L0)).next ∧ (∀ b ∈ O, (H2.set l (.loop L0)).blk b = H.blk b) ∧ BsI x H0 n0 r8 r9 r10 O (k + 1) (H2.set l (.loop L0)) := fun he H2 h2 => by
      have n2 : H2.next = H1.next := by rw [h2]; rfl
      refine ⟨?_, by simp; omega, fun b hbO => ?_, by simp; omega, .slice va (x.at k).length vc, fun b hbn => ?_, ?_⟩
      · rw [h2]; unfold set3; rw [AH.set_blk_ne hl10, AH.set_blk_ne hl9, AH.set_blk_ne hl8]; exact fl
      · have := hO b hbO
        rw [AH.set_blk_ne (by omega), h2]; unfold set3; rw [AH.set_blk_ne (by omega), AH.set_blk_ne (by omega), AH.set_blk_ne (by omega), fo b (by omega)]
      · rw [he]
        show _ = (set3 H0 r8 r9 r10 (.slice va (x.at k).length vc) (x.costOf (x.at k)) true).blk b
        by_cases h1 : b = l
        · subst h1; rw [AH.set_blk_same]; unfold set3; rw [AH.set_blk_ne hl10, AH.set_blk_ne hl9, AH.set_blk_ne hl8]; exact hl.symm
        · rw [AH.set_blk_ne h1, h2]
          unfold set3
          by_cases h10 : b = r10
          · subst h10; rw [AH.set_blk_same, AH.set_blk_same]
          · rw [AH.set_blk_ne h10, AH.set_blk_ne h10]
            by_cases h9 : b = r9
            · subst h9; rw [AH.set_blk_same, AH.set_blk_same]
            · rw [AH.set_blk_ne h9, AH.set_blk_ne h9]
              by_cases h8 : b = r8
              · subst h8; rw [AH.set_blk_same, AH.set_blk_same]
              · rw [AH.set_blk_ne h8, AH.set_blk_ne h8, fo b h1, gq b hbn ⟨h8, h9, h10⟩]
      · rw [he]
        refine hv1.up (fun b hb => ⟨hb.1, by simp; omega, hb.2.2⟩) fun b hbp cs hc => ?_
        have := hbp.1
        rw [AH.cells_set_ne (by omega), h2]; unfold set3; rw [AH.cells_set_ne (by omega), AH.cells_set_ne (by omega), AH.cells_set_ne (by omega)]; exact hc
    have w8 := writeA_of (off := 0) (news := [Value.slice va (x.at k).length vc]) f8 (by simp)
    have w9 := writeA_of (H := H1.set r8 (.row [.slice va (x.at k).length vc] T_Lint true)) (off := 0) (news := [Value.int .i64 (x.costOf (x.at k))]) (by rw [AH.set_blk_ne (Ne.symm h89)]; exact f9) (by simp)
    have w10 := writeA_of (H := (H1.set r8 (.row [.slice va (x.at k).length vc] T_Lint true)).set r9 (.row [.int .i64 (x.costOf (x.at k))] T_int64 true)) (off := 0) (news := [Value.bool true]) (by rw [AH.set_blk_ne (Ne.symm h910), AH.set_blk_ne (Ne.symm h810)]; exact f10) (by simp)
    simp only [over, List.take_zero, List.nil_append, List.length_cons, List.length_nil, Nat.zero_add, List.drop_succ_cons, List.drop_zero, List.append_nil] at w8 w9 w10
    have hsv := hst
    unfold bestS at hsv
    have hlt : (bestK x k).isSome = true → x.costOf (x.at k) < bC (bestK x k) ∨ ¬ x.costOf (x.at k) < bC (bestK x k) := fun _ => by omega
    simp (disch := omega) [-getElem?_pos, if_pos, if_neg, decide_eq_true, decide_eq_false, bestBody, e1, cq, inst_cut]
    refine AFn.pure hcost ?_
    by_cases hE : x.valueE (x.at k) = 0
    · by_cases hN : (bestK x k).isSome = true
      · have hNn : (bestK x k).isNone = false := by cases h : bestK x k <;> simp_all
        rw [hN] at c10
        by_cases hlt : x.costOf (x.at k) < bC (bestK x k)
        · rw [if_pos ⟨hE, .inr hlt⟩] at hsv
          obtain ⟨m1, m2, m3, m4⟩ := move hsv _ rfl
          unfold set3 at m1 m2 m3 m4
          generalize bC (bestK x k) = bc at *
          generalize x.costOf (x.at k) = cc at *
          simp (disch := omega) [-getElem?_pos, if_pos, if_neg, decide_eq_true, decide_eq_false, hE, e8, e9, e10, c9, c10, hlt, w8, w9, w10]
          exact roundK_normal hL m1 ⟨by omega, m3, rfl, m4⟩
        · rw [if_neg (fun h => by rcases h.2 with h | h; rw [hNn] at h; cases h; exact hlt h)] at hsv
          obtain ⟨m2, m3, m4⟩ := stay hsv
          generalize bC (bestK x k) = bc at *
          generalize x.costOf (x.at k) = cc at *
          simp (disch := omega) [-getElem?_pos, if_pos, if_neg, decide_eq_true, decide_eq_false, hE, e8, e9, e10, c9, c10, hlt]
          exact roundK_normal hL fl ⟨by omega, m3, rfl, m4⟩
      · have hN' : (bestK x k).isSome = false := by simpa using hN
        have hNn : (bestK x k).isNone = true := by cases h : bestK x k <;> simp_all
        rw [hN'] at c10
        rw [if_pos ⟨hE, .inl hNn⟩] at hsv
        obtain ⟨m1, m2, m3, m4⟩ := move hsv _ rfl
        unfold set3 at m1 m2 m3 m4
        generalize bC (bestK x k) = bc at *
        generalize x.costOf (x.at k) = cc at *
        simp (disch := omega) [-getElem?_pos, if_pos, if_neg, decide_eq_true, decide_eq_false, hE, e8, e9, e10, c9, c10, w8, w9, w10]
        exact roundK_normal hL m1 ⟨by omega, m3, rfl, m4⟩
    · rw [if_neg (fun h => hE h.1)] at hsv
      obtain ⟨m2, m3, m4⟩ := stay hsv
      have hEF := eq_false hE
      generalize bC (bestK x k) = bc at *
      generalize x.costOf (x.at k) = cc at *
      simp (disch := omega) [-getElem?_pos, if_pos, if_neg, decide_eq_true, decide_eq_false, hEF, e8, e9, e10, c9, c10]
      exact roundK_normal hL fl ⟨by omega, m3, rfl, m4⟩
noncomputable def _root_.Go.Abs.InstD.best (x : InstD) : Option (List Int × Int) := bestK x x.count.toNat
theorem Best_spec {H : AH} {v : Value} {x : InstD} {C : Nat} (hx : InstV (fun b => b < H.next) H v x) (hE : x.countE = 0) (hC : x.count = (C : Int)) :
    AFn Try.prog F_brute_Best [v] H fun u H' => ∃ w, u = .tuple #[w, .int .i64 (bC x.best), .bool x.best.isSome, .int .i64 0] ∧ SlV (New H H') H' w (bL x.best) ∧ Keep [] H H' := by
  have hb : x.best = bestK x C := by unfold InstD.best; rw [hC]; rfl
  rw [hb]
  obtain ⟨iv, cv, sv, rfl, i1, i2, i3, h1, h2, h3⟩ := id hx
  refine AFn.enter mixed ir_brute_Best_eq (by simp [ir_brute_Best]) fun hw => ?_
  simp (disch := omega) [-getElem?_pos, if_pos, if_neg, decide_eq_true, decide_eq_false, ir_brute_Best, inst_cut]
  generalize hH1 : AH.alloc H _ = H1
  have k1 : Keep [] H H1 := by rw [← hH1]; exact .alloc
  have w1 : WF H1 := by rw [← hH1]; exact hw.alloc
  have n1 : H1.next = H.next + 1 := by rw [← hH1]; simp
  have c1 : H1.cells H.next = some (instC x iv cv sv) := by rw [← hH1]; simp
  clear hH1
  have hx1 := hx.kept hw k1
  generalize hq1 : H.next = q1 at *
  refine AFn.pure (Count_spec hx1) ?_
  simp (disch := omega) [-getElem?_pos, if_pos, if_neg, decide_eq_true, decide_eq_false, hE, c1, inst_cut, writeA, over]
  generalize hH2 : AH.set (AH.set _ _ _) _ _ = H2
  have k2 : Keep [] H1 H2 := by rw [← hH2]; exact .new_set (by omega) (.new_set (by omega) (.new_alloc (.new_alloc .alloc)))
  have w2 : WF H2 := by rw [← hH2]; refine WF.set (WF.set w1.alloc.alloc.alloc ?_) ?_ <;> simp <;> omega
  have n2 : H2.next = H1.next + 3 := by rw [← hH2]; simp
  have b8 : H2.blk H1.next = some (.row [.slice none 0 0] T_Lint true) := by rw [← hH2]; simp (disch := omega) [if_neg, if_pos]
  have b9 : H2.blk (H1.next + 1) = some (.row [.int .i64 0] T_int64 true) := by rw [← hH2]; simp (disch := omega) [if_neg, if_pos]
  have b10 : H2.blk (H1.next + 2) = some (.row [.bool false] T_bool true) := by rw [← hH2]; simp (disch := omega) [if_neg, if_pos]
  clear hH2
  have c2 := cells_kept w1 k2 c1
  have hx2 := hx1.kept w1 k2
  refine (All_spec hx2).mono' fun u H3 w3 ⟨iv', cv', sv', e3, hu, hH3⟩ => ?_
  subst hu
  have k3 : Keep [] H2 H3 := by rw [hH3]; exact .alloc
  have n3 : H3.next = H2.next + 1 := by rw [hH3]; simp
  have c3 : H3.cells H2.next = some (instC x iv' cv' sv') := by rw [hH3]; simp
  clear hH3
  have hx3 := hx2.kept w2 k3
  rw [show Value.agg #[Value.int IntKind.i64 x.kind, .int .i64 x.cap, iv, cv, .int .i64 x.size, sv] = .agg (instC x iv' cv' sv').toArray from e3] at hx3
  have c13 := cells_kept w2 k3 c2
  have b83 := (k3.blk H1.next (by omega) (by simp)).trans b8
  have b93 := (k3.blk (H1.next + 1) (by omega) (by simp)).trans b9
  have b103 := (k3.blk (H1.next + 2) (by omega) (by simp)).trans b10
  simp (disch := omega) [-getElem?_pos, if_pos, if_neg, decide_eq_true, decide_eq_false, ]
  refine wpC_range (p := #[]) (q := #[.pointer (some ⟨H2.next, 0, none⟩)]) (by simp) good_brute_All_1 ?_
  generalize hLd : (LoopA.mk _ _ _ _ _ _ _ : LoopA) = L0
  have hF : LoopF L0 47 24 11 bestBody := by rw [← hLd]; exact ⟨rfl, rfl, rfl, rfl, rfl, rfl⟩
  have f1 : L0.env 1 = some (.pointer (some ⟨q1, 0, none⟩)) := by rw [← hLd]; simp
  have f8 : L0.env 8 = some (.pointer (some ⟨H1.next, 0, none⟩)) := by rw [← hLd]; simp
  have f9 : L0.env 9 = some (.pointer (some ⟨H1.next + 1, 0, none⟩)) := by rw [← hLd]; simp
  have f10 : L0.env 10 = some (.pointer (some ⟨H1.next + 2, 0, none⟩)) := by rw [← hLd]; simp
  clear hLd
  have k4 : Keep [] H3 (H3.alloc (.loop L0)) := .alloc
  have w4 : WF (H3.alloc (.loop L0)) := w3.alloc
  have n4 : (H3.alloc (.loop L0)).next = H3.next + 1 := by simp
  have bl4 : (H3.alloc (.loop L0)).blk H3.next = some (.loop L0) := AH.alloc_blk_new
  generalize H3.alloc (.loop L0) = H4 at *
  have b84 := (k4.blk H1.next (by omega) (by simp)).trans b83
  have b94 := (k4.blk (H1.next + 1) (by omega) (by simp)).trans b93
  have b104 := (k4.blk (H1.next + 2) (by omega) (by simp)).trans b103
  have c14 := cells_kept w3 k4 c13
  have hx4 := hx3.kept w3 k4
  have e3' : Value.agg (instC x iv cv sv).toArray = .agg (instC x iv' cv' sv').toArray := e3
  refine (All1_spec (l := H3.next) (n0 := H4.next) (C := C) (Inv := fun O => BsI x H4 H4.next H1.next (H1.next + 1) (H1.next + 2) O) (Fin := fun _ _ => False) hx4 (cells_kept w3 k4 c3) hE hC (Nat.le_refl _) (fun O hO => ?_) (fun O hO => ?_)).mono' fun u H5 w5 ⟨O, hO, hr⟩ => ?_
  · refine best_yld (q := q1) w4 hF bl4 rfl (by omega) (by omega) (by omega) (by omega) (by omega) (by omega) ⟨_, b84⟩ ⟨_, b94⟩ ⟨_, b104⟩ (by omega) (by omega) (by omega) (by omega) c14 ?_ f1 f8 f9 f10 hO
    rw [e3']
    exact hx4.up (fun b hb => ⟨by omega, by omega, by omega, by omega, by omega⟩) .refl
  · refine ⟨Nat.le_refl _, .slice none 0 0, fun b hb => ?_, SlV.nil⟩
    show _ = (set3 H4 H1.next (H1.next + 1) (H1.next + 2) (.slice none 0 0) 0 false).blk b
    unfold set3
    by_cases g10 : b = H1.next + 2
    · subst g10; rw [AH.set_blk_same]; exact b104
    · rw [AH.set_blk_ne g10]
      by_cases g9 : b = H1.next + 1
      · subst g9; rw [AH.set_blk_same]; exact b94
      · rw [AH.set_blk_ne g9]
        by_cases g8 : b = H1.next
        · subst g8; rw [AH.set_blk_same]; exact b84
        · rw [AH.set_blk_ne g8]
  · rcases hr with ⟨hnx, bv, hbk, hs⟩ | hF'
    · have bl5 : H5.blk H3.next = some (.loop L0) := by rw [hbk _ (by omega)]; unfold set3; rw [AH.set_blk_ne (by omega), AH.set_blk_ne (by omega), AH.set_blk_ne (by omega)]; exact bl4
      have c8 : H5.cells H1.next = some [bv] := by
        refine AH.cells_of (e := T_Lint) (wr := true) ?_
        rw [hbk _ (by omega)]; unfold set3; rw [AH.set_blk_ne (by omega), AH.set_blk_ne (by omega), AH.set_blk_same]
      have c9 : H5.cells (H1.next + 1) = some [.int .i64 (bC (bestK x C))] := by
        refine AH.cells_of (e := T_int64) (wr := true) ?_
        rw [hbk _ (by omega)]; unfold set3; rw [AH.set_blk_ne (by omega), AH.set_blk_same]
      have c10 : H5.cells (H1.next + 2) = some [.bool (bestK x C).isSome] := by
        refine AH.cells_of (e := T_bool) (wr := true) ?_
        rw [hbk _ (by omega)]; unfold set3; rw [AH.set_blk_same]
      refine rangeK_end hF bl5 fun B => ?_
      have d8 : (H5.set H3.next B).cells H1.next = some [bv] := by rw [AH.cells_set_ne (by omega)]; exact c8
      have d9 : (H5.set H3.next B).cells (H1.next + 1) = some [.int .i64 (bC (bestK x C))] := by rw [AH.cells_set_ne (by omega)]; exact c9
      have d10 : (H5.set H3.next B).cells (H1.next + 2) = some [.bool (bestK x C).isSome] := by rw [AH.cells_set_ne (by omega)]; exact c10
      have hs6 : SlV (New H (H5.set H3.next B)) (H5.set H3.next B) bv (bL (bestK x C)) := by
        unfold New
        exact hs.up (fun b hb => ⟨by omega, by simp; omega⟩) (.set (by simp; omega))
      have k6 : Keep [] H (H5.set H3.next B) := ⟨by simp; omega, fun b hb _ => by
        rw [AH.set_blk_ne (by omega), hbk b (by omega)]; unfold set3
        rw [AH.set_blk_ne (by omega), AH.set_blk_ne (by omega), AH.set_blk_ne (by omega), k4.blk b (by omega) (by simp), k3.blk b (by omega) (by simp), k2.blk b (by omega) (by simp), k1.blk b (by omega) (by simp)]⟩
      generalize H5.set H3.next B = H6 at *
      generalize bestK x C = a at *
      have hc := hs6.cell
      simp (disch := omega) [-getElem?_pos, if_pos, if_neg, decide_eq_true, decide_eq_false, d8, d9, d10, hc]
      exact ⟨hs6, k6⟩
    · exact hF'.elim
end Go.Proofs.Ytlcddhgfkkjhkaa
