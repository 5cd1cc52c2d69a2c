/-
  package state (4): chosen.
-/
import Derived.Test.YtlcddhgfkkjhkaaDoorState3
set_option maxRecDepth 100000
set_option linter.unusedSimpArgs false
set_option linter.unusedVariables false
namespace Go.Proofs.YtlcddhgfkkjhkaaDoor
open Go Go.Abs
def ChS (H1 : AH) (q : Nat) (pv : Value) (c l a : Int) (n : Nat) (B : List Bool) (H' : AH) : Prop :=
  WF H' ∧ Keep [] H1 H' ∧ H1.next ≤ H'.next ∧ ∃ uv, H'.blk q = some (.row [pv, .int .i64 c, .int .i64 l, .int .i64 a, .int .i64 n, uv] T_state_State true) ∧ Bs.SetB (fun b => b < H'.next ∧ b ≠ q) H' (.agg #[.int .i64 n, uv]) B ∧ B.length = n
def ChI (p : Nat → Prop) (H0 H1 : AH) (q : Nat) (pv ev : Value) (c l a : Int) (n : Nat) (U : List Bool) (E : List Int) (k : Nat) (env : Env) (H' : AH) : Prop :=
  env 3 = some (.pointer (some ⟨q, 0, none⟩)) ∧ env 6 = some (.pointer (some ⟨q + 2, 0, none⟩)) ∧ env 48 = some ev ∧ env 49 = some (.int .i64 E.length) ∧ env 50 = some (.int .i64 k) ∧ H1.next ≤ H'.next ∧ (∀ b, b < H1.next → b ≠ q → H'.blk b = H1.blk b) ∧ WF H' ∧
    ∃ uv, H'.blk q = some (.row [pv, .int .i64 c, .int .i64 l, .int .i64 a, .int .i64 n, uv] T_state_State true) ∧ Bs.SetB (fun b => (p b ∨ H1.next ≤ b) ∧ b < H'.next ∧ b ≠ q ∧ b ≠ q + 2) H' (.agg #[.int .i64 n, uv]) ((E.take k).foldl setT U)
def ChQ (p : Nat → Prop) (H1 : AH) (q : Nat) (pv : Value) (c l a : Int) (n : Nat) (B : List Bool) (e : AExit) (env : Env) (H' : AH) : Prop :=
  e = .exit 0 ∧ env 3 = some (.pointer (some ⟨q, 0, none⟩)) ∧ env 6 = some (.pointer (some ⟨q + 2, 0, none⟩)) ∧ H1.next ≤ H'.next ∧ (∀ b, b < H1.next → b ≠ q → H'.blk b = H1.blk b) ∧ WF H' ∧
    ∃ uv, H'.blk q = some (.row [pv, .int .i64 c, .int .i64 l, .int .i64 a, .int .i64 n, uv] T_state_State true) ∧ Bs.SetB (fun b => (p b ∨ H1.next ≤ b) ∧ b < H'.next ∧ b ≠ q ∧ b ≠ q + 2) H' (.agg #[.int .i64 n, uv]) B
theorem chosen_l0 {p : Nat → Prop} {H0 H1 : AH} {q : Nat} {pv ev : Value} {c l a : Int} {n : Nat} {U : List Bool} {E : List Int} {env : Env} (hw1 : WF H1) (hq : q + 2 < H1.next) (hE : SlV (fun b => b < q) H1 ev E) (hU : U.length = n) (h : ChI p H0 H1 q pv ev c l a n U E 0 env H1) :
    wpC Tryd.prog 61 (.loop ir_state_State_chosen_l0) (ChQ p H1 q pv c l a n (E.foldl setT U)) env H1 := by
  refine loop_upto E.length (ChI p H0 H1 q pv ev c l a n U E) (Q := ChQ p H1 q pv c l a n (E.foldl setT U)) h ?_
  have hmax := hE.max
  rintro k env H' hk ⟨e3, e6, e48, e49, e50, nx, ho, w', uv, hb, hS⟩
  have hsub : Sub (fun b => b < q) H1 H' := fun b hb cs hc => by unfold AH.cells at hc ⊢; rw [ho b (by omega) (by omega)]; exact hc
  by_cases hkn : k < E.length
  · obtain ⟨b0, off, sp, cap, cs, hcv, q1, q2⟩ := ints_rd (hE.sub hsub) (by omega)
    obtain ⟨q3, q4⟩ := q2 k hkn
    subst hcv
    have cb := AH.cells_of hb
    have ht : (E.take (k + 1)).foldl setT U = setT ((E.take k).foldl setT U) E[k] := by rw [List.take_succ_eq_append_getElem hkn, List.foldl_append]; rfl
    have hln : ((E.take k).foldl setT U).length = n := by rw [fold_len, hU]
    generalize E[k] = z at *
    generalize hB : (E.take k).foldl setT U = B at *
    simp (disch := omega) [-getElem?_pos, if_pos, if_neg, decide_eq_true, decide_eq_false, ir_state_State_chosen_l0, e3, e6, e48, e49, e50, q1, q3, cb, cut42]
    refine (Bs.With_spec hS z).mono' fun u H2 w2 ⟨hu, k2⟩ => ?_
    rw [setT_eq] at hu
    obtain ⟨ul, rfl, _, _⟩ := id hu
    have hul : (setT B z).length = n := by rw [setT_len, hln]
    have hulI : ((setT B z).length : Int) = (n : Int) := by rw [hul]
    rw [hul] at hu
    have hone := SetB_cell hu
    have n2 := k2.next
    have hqn := w' q _ hb
    have hb2 := (k2.blk q hqn (by simp)).trans hb
    simp (disch := omega) [-getElem?_pos, if_pos, if_neg, decide_eq_true, decide_eq_false, e3, e50, hulI, hone.1, hone.2, hb2, writeA, over, IntWalk.i64_in]
    refine ⟨hkn, by simp [e3], by simp [e6], by simp [e48], by simp [e49], by simp, by simp; omega, fun b hb1 hb2 => ?_, w2.set (by omega), ul, AH.set_blk_same, ?_⟩
    · rw [AH.set_blk_ne hb2, k2.blk b (by omega) (by simp)]; exact ho b hb1 hb2
    · rw [ht]
      refine SetB_sub (SetB_lt hu w2) (fun b hb => ?_) (.set ?_)
      · obtain ⟨h | h, h2⟩ := hb
        · exact ⟨h.1, by simp; omega, h.2.2⟩
        · exact ⟨.inr (by omega), by simp; omega, by omega, by omega⟩
      · rintro ⟨h | h, _⟩
        · exact h.2.2.1 rfl
        · omega
  · obtain rfl : k = E.length := by omega
    rw [List.take_length] at hS
    simp (disch := omega) [-getElem?_pos, if_pos, if_neg, decide_eq_true, decide_eq_false, ir_state_State_chosen_l0, e49, e50]
    exact ⟨rfl, e3, e6, nx, ho, w', uv, hb, hS⟩
theorem chosen_spec0 {H : AH} {p : Nat → Prop} {v w : Value} {s : StD} {x : InstD} {k : Nat} (hp : ∀ b, p b → b < H.next) (hs : StV p H v s) (hx : InstV (fun b => b < H.next) H w x) (hok : x.Ok) (hk0 : x.kind = 0) (hk : k < x.items.length) (hcost : -1000000000000000 ≤ s.cost ∧ s.cost ≤ 1000000000000000) (hleft : -1000000000000000 ≤ s.left ∧ s.left ≤ 1000000000000000) :
    AFn Tryd.prog F_state_State_chosen [v, w, .int .i64 k] H fun u H' => StV (fun b => (p b ∨ H.next ≤ b) ∧ b < H'.next) H' u (x.choseS s k) ∧ Keep [] H H' := by
  obtain ⟨pv, uv, rfl, s1, s2⟩ := id hs
  obtain ⟨iv, cv, sv, rfl, i1, i2, i3, h1, h2, h3⟩ := id hx
  have hc := SetB_cell s2
  have hcp := s1.cell
  have hcc := h2.cell
  have hcs := h3.cell
  obtain ⟨b1, off1, sp1, cap1, cs1, rfl, r1, r2⟩ := pairs_rd h1 (by omega)
  obtain ⟨r3, r4, r5, r6, r7⟩ := r2 k hk
  have hv := val_mag hok hk
  have e1 : x.items[k].1 = x.valN k := by unfold InstD.valN; rw [List.getD_eq_getElem?_getD, List.getElem?_eq_getElem hk]; rfl
  have e2 : x.items[k].2 = x.wtN k := by unfold InstD.wtN; rw [List.getD_eq_getElem?_getD, List.getElem?_eq_getElem hk]; rfl
  rw [e1] at r4
  rw [e2] at r5
  refine AFn.enter mixed ir_state_State_chosen_eq (by simp [ir_state_State_chosen]) fun hw => ?_
  have hb1 := cells_lt hw r1
  have hmi := h1.max
  have hwr1 := wr_mid (n := s.cost - x.valN k) (by omega)
  have hwr2 := wr_mid (n := s.left - x.wtN k) (by omega)
  have hsd : x.choseS s k = ⟨s.path, s.cost - x.valN k, s.left - x.wtN k, s.pos, s.used⟩ := by unfold InstD.choseS; rw [if_pos hk0]
  rw [hsd]
  have hk0T := eq_true hk0
  generalize x.valN k = a at *
  generalize x.wtN k = b at *
  simp (disch := omega) [-getElem?_pos, if_pos, if_neg, decide_eq_true, decide_eq_false, ir_state_State_chosen, hc.1, hcp.1, hcc.1, hcs.1, hk0T, r1, r4, r5, hk, hwr1, hwr2, writeA, over, cut6']
  generalize hH1 : AH.set (AH.set _ _ _) _ _ = H1
  have k1 : Keep [] H H1 := by rw [← hH1]; exact .new_set (by omega) (.new_set (by omega) (.new_alloc (.new_alloc .alloc)))
  have n1 : H1.next = H.next + 3 := by rw [← hH1]; rfl
  clear hH1
  exact ⟨StV.mk' (s := ⟨s.path, s.cost - a, s.left - b, s.pos, s.used⟩) rfl (s1.up (fun b hb => by have := hp b hb; exact ⟨.inl hb, by omega⟩) (.kept hw k1)) (SetB_sub s2 (fun b hb => by have := hp b hb; exact ⟨.inl hb, by omega⟩) (.kept hw k1)), k1⟩
theorem chosen_spec3 {H : AH} {p : Nat → Prop} {v w : Value} {s : StD} {x : InstD} {k : Nat} (hp : ∀ b, p b → b < H.next) (hs : StV p H v s) (hx : InstV (fun b => b < H.next) H w x) (hok : x.Ok) (hk3 : x.kind = 3) (hk : k < x.sets.length) (hcost : -1000000000000000 ≤ s.cost ∧ s.cost ≤ 1000000000000000) :
    AFn Tryd.prog F_state_State_chosen [v, w, .int .i64 k] H fun u H' => StV (fun b => (p b ∨ H.next ≤ b) ∧ b < H'.next) H' u (x.choseS s k) ∧ Keep [] H H' := by
  obtain ⟨pv, uv, rfl, s1, s2⟩ := id hs
  obtain ⟨iv, cv, sv, rfl, i1, i2, i3, h1, h2, h3⟩ := id hx
  have hc := SetB_cell s2
  have hcp := s1.cell
  have hcc := h2.cell
  have hci := h1.cell
  obtain ⟨b1, off1, sp1, cap1, cs1, rfl, r1, r2⟩ := sets_rd h3 (by omega)
  obtain ⟨ew, r3, r4, r5, r6, r7⟩ := r2 k hk
  have hv := set_mag hok hk
  have e1 : x.sets[k] = x.setN k := by unfold InstD.setN; rw [List.getD_eq_getElem?_getD, List.getElem?_eq_getElem hk]; rfl
  rw [e1] at r4 r7
  refine AFn.enter mixed ir_state_State_chosen_eq (by simp [ir_state_State_chosen]) fun hw => ?_
  have hb1 := cells_lt hw r1
  have hms := h3.max
  have hwr1 := wr_mid (n := s.cost + (x.setN k).cost) (by omega)
  have hsd : x.choseS s k = ⟨s.path, s.cost + (x.setN k).cost, s.left, s.pos, (x.setN k).elems.foldl setT s.used⟩ := by unfold InstD.choseS; rw [if_neg (by omega)]
  rw [hsd]
  have hk0F : (x.kind = 0) = False := eq_false (by omega)
  obtain ⟨ea, ec, rfl⟩ := r7.slice
  have hEm := r7.max
  generalize (x.setN k).cost = a at *
  generalize (x.setN k).elems = E at *
  simp (disch := omega) [-getElem?_pos, if_pos, if_neg, decide_eq_true, decide_eq_false, ir_state_State_chosen, hc.1, hcp.1, hcc.1, hci.1, hk0F, r1, r4, r5, hk, hwr1, writeA, over]
  generalize hq : H.next = q at *
  generalize hH1 : AH.set _ _ _ = H1
  have k1 : Keep [] H H1 := by rw [← hH1]; exact .new_set (by omega) (.new_alloc (.new_alloc .alloc))
  have w1 : WF H1 := by rw [← hH1]; refine WF.set (WF.alloc (WF.alloc (WF.alloc hw))) ?_; simp; omega
  have n1 : H1.next = q + 3 := by rw [← hH1]; simp [hq]
  have d0 : H1.blk q = some (.row [pv, .int .i64 (s.cost + a), .int .i64 s.left, .int .i64 s.pos, .int .i64 s.used.length, uv] T_state_State true) := by rw [← hH1, AH.set_blk_same]
  have d2 : H1.blk (q + 2) = some (.row [.slice none 0 0, .int .i64 0, .int .i64 0, .int .i64 0, .int .i64 0, .slice none 0 0] T_state_State true) := by rw [← hH1]; simp [hq]
  clear hH1
  have s21 : Bs.SetB (fun b => (p b ∨ H1.next ≤ b) ∧ b < H1.next ∧ b ≠ q ∧ b ≠ q + 2) H1 (.agg #[.int .i64 s.used.length, uv]) s.used := SetB_sub s2 (fun b hb => by have := hp b hb; exact ⟨.inl hb, by omega, by omega, by omega⟩) (.kept hw k1)
  refine wpC_use (chosen_l0 (p := p) (H0 := H) (H1 := H1) (q := q) (pv := pv) (c := s.cost + a) (l := s.left) (a := s.pos) (n := s.used.length) (U := s.used) (E := E) w1 (by omega) (r7.kept hw k1) rfl ⟨by simp, by simp, by simp, by simp, by simp, Nat.le_refl _, fun _ _ _ => rfl, w1, uv, d0, s21⟩) ?_
  rintro e env2 H2 ⟨rfl, e3, e6, nx, ho, w2, uv2, hb, hS2⟩ hu
  have d22 := (ho (q + 2) (by omega) (by omega)).trans d2
  have cb := AH.cells_of hb
  have hone := SetB_cell hS2
  simp (disch := omega) [-getElem?_pos, if_pos, if_neg, decide_eq_true, decide_eq_false, e3, e6, cb, cut6', hone.1, hone.2, hcp.1, hcp.2, d22, writeA, over]
  have kk : Keep [] H (H2.set (q + 2) (.row [pv, .int .i64 (s.cost + a), .int .i64 s.left, .int .i64 s.pos, .int .i64 s.used.length, uv2] T_state_State true)) := .new_set (by omega) ⟨by omega, fun b hb _ => by rw [ho b (by omega) (by omega), k1.blk b hb (by simp)]⟩
  refine ⟨StV.mk' (s := ⟨s.path, s.cost + a, s.left, s.pos, E.foldl setT s.used⟩) fold_len (s1.up (fun b hb => by have := hp b hb; exact ⟨.inl hb, by show b < H2.next; omega⟩) (.kept hw kk)) (SetB_sub hS2 (fun b hb => ⟨hb.1.imp id fun h => by omega, hb.2.1⟩) (.set (by simp))), kk⟩
end Go.Proofs.YtlcddhgfkkjhkaaDoor
