/-
  package brute: Rank; the rank of each place's answer is that place.
-/
import Derived.Test.YtlcddhgfkkjhkaaBrute7
set_option maxRecDepth 100000
set_option linter.unusedSimpArgs false
set_option linter.unusedVariables false
namespace Go.Proofs.Ytlcddhgfkkjhkaa
open Go Go.Abs

/-- The place of an answer; is it one? -/
noncomputable def _root_.Go.Abs.InstD.rank (x : InstD) (Y : List Int) : Option Nat :=
  if x.kind = 0 ∨ x.kind = 3 then maskL x.n (-1) Y else placeO x.cost.length (fix1 x.kind) Y

theorem Rank_spec {H : AH} {v w : Value} {x : InstD} {Y : List Int} (hx : InstV (fun b => b < H.next) H v x) (hY : SlV (fun b => b < H.next) H w Y) (hc : x.countE = 0) : AFn Try.prog F_brute_Rank [v, w] H fun u H' => u = maskV (x.rank Y) ∧ Keep [] H H' := by
  obtain ⟨iv, cv, sv, rfl, i1, i2, i3, h1, h2, h3⟩ := id hx
  obtain ⟨ya, yc, rfl⟩ := hY.slice
  refine AFn.enter mixed ir_brute_Rank_eq (by simp [ir_brute_Rank]) fun hw => ?_
  have bc : (H.alloc (.row (instC x iv cv sv) T_inst_Inst true)).cells H.next = some (instC x iv cv sv) := AH.cells_alloc_new
  have k1 : Keep [] H (H.alloc (.row (instC x iv cv sv) T_inst_Inst true)) := .alloc
  have hx1 := (hx.kept hw k1).any
  have hY1 := hY.kept hw k1
  have w1 := WF.alloc hw (B := .row (instC x iv cv sv) T_inst_Inst true)
  generalize hq : H.next = q at *
  simp (disch := omega) [-getElem?_pos, if_pos, if_neg, decide_eq_true, decide_eq_false, ir_brute_Rank, hq, inst_cut]
  generalize H.alloc (.row (instC x iv cv sv) T_inst_Inst true) = H1 at *
  have hn1 := k1.next
  refine AFn.pure (Count_spec hx1) ?_
  simp (disch := omega) [-getElem?_pos, if_pos, if_neg, decide_eq_true, decide_eq_false, hc, bc, inst_cut]
  refine AFn.pure (subsets_spec _) ?_
  by_cases hs : x.kind = 0 ∨ x.kind = 3
  · obtain ⟨hok, N, hN, hn, hcn⟩ := count_sub hc hs
    have hr : x.rank Y = maskL N (-1) Y := by unfold InstD.rank; rw [if_pos hs, hn]
    simp (disch := omega) [-getElem?_pos, if_pos, if_neg, decide_eq_true, decide_eq_false, hs, bc, inst_cut]
    refine AFn.pure (N_spec hx1) ?_
    rw [hn]
    simp (disch := omega) [-getElem?_pos, if_pos, if_neg, decide_eq_true, decide_eq_false, ]
    refine AFn.pure (mask_spec hY1 (by omega)) ?_
    rw [hr]
    simp (disch := omega) [-getElem?_pos, if_pos, if_neg, decide_eq_true, decide_eq_false, maskV]
    exact k1
  · obtain ⟨hok, hf1, hf2, hcn, hcl⟩ := count_ord hc hs
    have hr : x.rank Y = placeO x.cost.length (fix1 x.kind) Y := by unfold InstD.rank; rw [if_neg hs]
    obtain ⟨ca, cc, rfl⟩ := h2.slice
    simp (disch := omega) [-getElem?_pos, if_pos, if_neg, decide_eq_true, decide_eq_false, hs, bc]
    refine AFnD.of (fixed_spec _) ?_
    simp (disch := omega) [-getElem?_pos, if_pos, if_neg, decide_eq_true, decide_eq_false, ]
    refine AFnD.from (place_spec (n := x.cost.length) (a := fix1 x.kind) (hY1.mono fun b hb => by omega) (by omega) hf2 hf1) fun u H2 w2 ⟨hu, k2⟩ => ?_
    refine ⟨keep_grow w1 k2, ?_⟩
    subst hu
    rw [hr]
    simp (disch := omega) [-getElem?_pos, if_pos, if_neg, decide_eq_true, decide_eq_false, maskV]
    exact k1.trans' k2

theorem restL_nodup {a n : Nat} : (restL a n).Nodup := by
  unfold restL
  rw [List.nodup_iff_pairwise_ne, List.pairwise_map]
  exact List.nodup_range.imp fun {x y} h e => h (by omega)
theorem at_len {x : InstD} {k : Nat} (hc : x.countE = 0) (hk : (k : Int) < x.count) (hs : ¬ (x.kind = 0 ∨ x.kind = 3)) : (x.at k).length = x.cost.length := by
  obtain ⟨hok, hf1, hf2, hcn, hcl⟩ := count_ord hc hs
  rw [hcn] at hk
  unfold InstD.at
  rw [if_neg hs, List.length_append, restL_len, order_len _ restL_len (by rw [restL_len]; omega)]
  omega
theorem rank_at {x : InstD} {k : Nat} (hc : x.countE = 0) (hk : (k : Int) < x.count) : x.rank (x.at k) = some k := by
  by_cases hs : x.kind = 0 ∨ x.kind = 3
  · obtain ⟨hok, N, hN, hn, hcn⟩ := count_sub hc hs
    rw [hcn] at hk
    have hp : (2 : Nat) ^ N ≤ 2 ^ 20 := Nat.pow_le_pow_right (by omega) (by omega)
    unfold InstD.rank InstD.at
    rw [if_pos hs, if_pos hs, hn]
    have := mask_chosen (n := N) 20 (k := 0) (m := k) (last := -1) (by omega) (by omega) (by rw [Nat.pow_zero, Nat.mul_one]; omega)
    rw [Nat.pow_zero, Nat.mul_one] at this
    exact this
  · obtain ⟨hok, hf1, hf2, hcn, hcl⟩ := count_ord hc hs
    have hl := at_len hc hk hs
    rw [hcn] at hk
    have e : x.at k = restL 0 (fix1 x.kind) ++ orderL (x.cost.length - fix1 x.kind) (restL (fix1 x.kind) x.cost.length) k := by unfold InstD.at; rw [if_neg hs]
    have ht : (x.at k).take (fix1 x.kind) = restL 0 (fix1 x.kind) := by rw [e, List.take_left' (by rw [restL_len]; omega)]
    unfold InstD.rank placeO
    rw [if_neg hs, if_pos ⟨hl, ht⟩, e, List.drop_left' (by rw [restL_len]; omega)]
    exact place_order _ restL_len restL_nodup (by rw [restL_len]; omega)
end Go.Proofs.Ytlcddhgfkkjhkaa
