/-
  PLAIN LAW: all orders, one behind another, are the orders of the places.
-/
import Derived.Test.YtlcddhgfkkjhkaaBrute
import Derived.Test.YtlcddhgfkkjhkaaInsts
import Derived.Test.YtlcddhgfkkjhkaaRef09

set_option linter.unusedSimpArgs false
set_option linter.unusedVariables false
namespace Go.Abs
def ordersL : Nat → List Int → List Int → List (List Int)
  | 0, head, _ => [head]
  | f + 1, head, left => left.flatMap fun y => ordersL f (head ++ [y]) (left.filter (· != y))
theorem range_mul (a b : Nat) : List.range (a * b) = (List.range a).flatMap fun j => (List.range b).map (j * b + ·) := by
  induction a with
  | zero => simp
  | succ a ih =>
    rw [Nat.succ_mul, List.range_add, ih, List.range_succ, List.flatMap_append]
    simp
theorem list_range (l : List Int) : l = (List.range l.length).map fun j => l.getD j 0 := by
  apply List.ext_getElem (by simp)
  intro i h1 h2
  simp [h1]
theorem filter_ne : ∀ {l : List Int} {j : Nat} (h : j < l.length), l.Nodup → l.filter (· != l[j]) = l.eraseIdx j
  | a :: l, 0, h, hn => by
    rw [List.nodup_cons] at hn
    simp only [List.getElem_cons_zero, List.eraseIdx_cons_zero, List.filter_cons]
    rw [if_neg (by simp), List.filter_eq_self]
    intro b hb
    simp
    exact fun e => hn.1 (e ▸ hb)
  | a :: l, j + 1, h, hn => by
    rw [List.nodup_cons] at hn
    have hj : j < l.length := by simpa using h
    have hne : a ≠ l[j] := fun e => hn.1 (e ▸ List.getElem_mem hj)
    simp only [List.getElem_cons_succ, List.eraseIdx_cons_succ, List.filter_cons]
    rw [if_pos (by simpa using hne), filter_ne hj hn.2]
theorem orders_eq : ∀ (f : Nat) {head left : List Int}, left.length = f → left.Nodup → ordersL f head left = (List.range (fac f)).map fun k => head ++ orderL f left k
  | 0, head, left, h, _ => by simp [ordersL, fac, orderL]
  | f + 1, head, left, h, hn => by
    have e1 : ordersL (f + 1) head left = (List.range (f + 1)).flatMap fun j => ordersL f (head ++ [left.getD j 0]) (left.filter (· != left.getD j 0)) := by
      show left.flatMap _ = _
      rw [← h]
      conv => lhs; rw [list_range left]
      rw [List.flatMap_map, ← list_range left]
    rw [e1]
    show _ = (List.range ((f + 1) * fac f)).map fun k => head ++ orderL (f + 1) left k
    rw [range_mul, List.map_flatMap]
    rw [List.flatMap_def, List.flatMap_def]
    congr 1
    apply List.map_congr_left
    intro j hj
    have hj' : j < left.length := by rw [h]; exact List.mem_range.1 hj
    have hg : left.getD j 0 = left[j] := by rw [List.getD_eq_getElem?_getD, List.getElem?_eq_getElem hj']; rfl
    have he : left.filter (· != left.getD j 0) = left.eraseIdx j := by rw [hg]; exact filter_ne hj' hn
    rw [he, orders_eq f (by rw [List.length_eraseIdx_of_lt hj']; omega) (List.Nodup.sublist (List.eraseIdx_sublist _ _) hn), List.map_map]
    apply List.map_congr_left
    intro i hi
    have hi' : i < fac f := List.mem_range.1 hi
    have hp := fac_pos f
    have h1 : (j * fac f + i) / fac f = j := by
      rw [Nat.mul_comm, Nat.mul_add_div hp, Nat.div_eq_of_lt hi', Nat.add_zero]
    have h2 : (j * fac f + i) % fac f = i := by
      rw [Nat.mul_comm, Nat.mul_add_mod, Nat.mod_eq_of_lt hi']
    cases left with
    | nil => simp at h
    | cons a l =>
      have hl : l.length = f := by simpa using h
      show _ = head ++ ((a :: l).getD ((j * fac f + i) / fac l.length) 0 :: orderL f ((a :: l).eraseIdx ((j * fac f + i) / fac l.length)) ((j * fac f + i) % fac l.length))
      rw [hl, h1, h2]
      simp
end Go.Abs

namespace Go.Abs
open Go
open Ren (R)
theorem chunk_right {sz n j : Nat} {a b : List Value} (h : a.length = n * sz) : chunk sz (n + j) (a ++ b) = chunk sz j b := by
  unfold chunk
  rw [Nat.add_mul, ← h, List.drop_append, List.drop_eq_nil_of_le (by omega), List.nil_append, Nat.add_sub_cancel_left]
section
variable {α : Type} [Ren α] {p q : Nat → Prop} {H : AH} {v w : Value} {l l2 : List α} {ty : Nat} {S : List Nat}
theorem OwnL.pushAll (h : OwnL p H ty v l S) (hw : WF H) (h2 : SlV q H w l2) (bytes : Nat) (hpq : ∀ b, p b → q b) (hq : ∀ b, q b → b < H.next) (hS : ∀ b ∈ S, ¬ q b) (hroom : (l.length + l2.length) * bytes ≤ 140737488355328) (hmax : l.length + l2.length ≤ 9223372036854775807) :
    ∃ cells a' c' H' S', elemsA H (Ren.sz α) w = some cells ∧ appendA H ty (Ren.sz α) bytes v l2.length cells = some (.slice a' (l.length + l2.length) c', H') ∧ OwnL q H' ty (.slice a' (l.length + l2.length) c') (l ++ l2) S' ∧ Keep S H H' ∧ WF H' ∧ ∀ b ∈ S', b ∈ S ∨ H.next ≤ b := by
  obtain ⟨cells, h1, hR, h3⟩ := h
  obtain ⟨_, cells2, hv, hR2⟩ := h2
  have hcl := h1.len
  have hcl2 := hv.1
  obtain ⟨v', H', S', q1, q2, _, q3, q4, q5⟩ := h1.append hw (bytes := bytes) (m := l2.length) (news := cells2) hcl2 hroom hmax
  obtain ⟨a', c', rfl⟩ := q2.slice
  have hsub : Sub q H H' := .keep hw q3 hS
  refine ⟨cells2, a', c', H', S', hv.elems, q1, ⟨cells ++ cells2, by rw [List.length_append]; exact q2, fun i hi => ?_, fun b hb hqb => ?_⟩, q3, q4, fun b hb => (q5 b hb).imp id fun h => by omega⟩
  · by_cases hil : i < l.length
    · rw [chunk_append hcl hil, List.getElem_append_left hil]
      exact Ren.up hpq (hsub.less hpq) (hR i hil)
    · obtain ⟨j, rfl⟩ : ∃ j, i = l.length + j := ⟨i - l.length, by omega⟩
      rw [List.length_append] at hi
      rw [chunk_right hcl, List.getElem_append_right (by omega)]
      simp only [Nat.add_sub_cancel_left]
      exact Ren.up (fun _ h => h) hsub (hR2 j (by omega))
  · rcases q5 b hb with hb | hb
    · exact hS b hb hqb
    · have := hq b hqb; omega
end
end Go.Abs

set_option maxRecDepth 100000
namespace Go.Proofs.Ytlcddhgfkkjhkaa
open Go Go.Abs
def fOf (x : InstD) : Nat → Int := fun k => if x.kind = 0 ∨ x.kind = 3 then 2 else (k : Int) + 1
def K13I (H1 : AH) (q : Nat) (x : InstD) (N : Nat) (k : Nat) (env : Env) (H' : AH) : Prop :=
  H' = H1 ∧ env 1 = some (.pointer (some ⟨q, 0, none⟩)) ∧ env 5 = some (.int .i64 N) ∧ env 7 = some (.int .i64 ((k : Int) + 1)) ∧ ∃ P : Int, env 6 = some (.int .i64 P) ∧ 1 ≤ P ∧ P ≤ 4294967296 ∧ (P ≤ 1048576 → prodI (fOf x) k = P) ∧ (1048576 < P → prodI (fOf x) k = 1048577)
def K13Q (H1 : AH) (x : InstD) (N : Nat) (e : AExit) (env : Env) (H' : AH) : Prop :=
  H' = H1 ∧ e = .exit 0 ∧ ∃ P : Int, env 6 = some (.int .i64 P) ∧ (P ≤ 1048576 → prodI (fOf x) N = P) ∧ (1048576 < P → prodI (fOf x) N = 1048577)
theorem fOf_pos {x : InstD} (k : Nat) : 1 ≤ fOf x k := by unfold fOf; split <;> omega
theorem count13_l0 {H1 : AH} {q : Nat} {x : InstD} {iv cv sv : Value} (bc : H1.cells q = some (instC x iv cv sv)) {N : Nat} (hN : N ≤ 4096) {env : Env} (h : K13I H1 q x N 0 env H1) : wpC Try.prog 40 (.loop ir_ref13_Count_l0) (K13Q H1 x N) env H1 := by
  refine loop_upto N (K13I H1 q x N) (Q := K13Q H1 x N) h ?_
  rintro k env H' hk ⟨rfl, e1, e5, e7, P, e6, p1, p2, p3, p4⟩
  by_cases hkn : k < N
  · have hkn' : (k : Int) + 1 ≤ N := by omega
    by_cases hP : P ≤ 1048576
    · have hp := p3 hP
      have step : ∀ z, z = P * fOf x k → 1 ≤ z → ((z ≤ 1048576 → prodI (fOf x) (k + 1) = z) ∧ (1048576 < z → prodI (fOf x) (k + 1) = 1048577)) := fun z hz h1 => by
        have : prodI (fOf x) (k + 1) = if z < 1048577 then z else 1048577 := by rw [hz, ← hp]; rfl
        rw [this]
        constructor
        · intro h; rw [if_pos (by omega)]
        · intro h; rw [if_neg (by omega)]
      by_cases hs : x.kind = 0 ∨ x.kind = 3
      · have hf : fOf x k = 2 := by unfold fOf; rw [if_pos hs]
        obtain ⟨s1, s2⟩ := step (2 * P) (by rw [hf, Int.mul_comm]) (by omega)
        rcases hs with hs | hs
        · simp (disch := omega) [-getElem?_pos, if_pos, if_neg, decide_eq_true, decide_eq_false, ir_ref13_Count_l0, e1, e5, e6, e7, bc, hkn', hP, hs, IntWalk.i64_in]
          exact ⟨hkn, rfl, by simp [e1], by simp [e5], by simp, 2 * P, by simp, by omega, by omega, s1, s2⟩
        · simp (disch := omega) [-getElem?_pos, if_pos, if_neg, decide_eq_true, decide_eq_false, ir_ref13_Count_l0, e1, e5, e6, e7, bc, hkn', hP, hs, IntWalk.i64_in]
          exact ⟨hkn, rfl, by simp [e1], by simp [e5], by simp, 2 * P, by simp, by omega, by omega, s1, s2⟩
      · have hf : fOf x k = (k : Int) + 1 := by unfold fOf; rw [if_neg hs]
        have hb : ((k : Int) + 1) * P ≤ 4096 * 1048576 := Int.mul_le_mul (by omega) hP (by omega) (by omega)
        have hb0 : 1 ≤ ((k : Int) + 1) * P := by
          have := Int.mul_le_mul (a := 1) (b := 1) (c := (k : Int) + 1) (d := P) (by omega) p1 (by omega) (by omega)
          simpa using this
        obtain ⟨s1, s2⟩ := step (((k : Int) + 1) * P) (by rw [hf, Int.mul_comm]) hb0
        have hs0 : ¬ x.kind = 0 := fun h => hs (.inl h)
        have hs3 : ¬ x.kind = 3 := fun h => hs (.inr h)
        have hmul : abin .mul (.int .i64 ((k : Int) + 1)) (.int .i64 P) = some (.int .i64 (((k : Int) + 1) * P)) := by
          simp only [abin]
          rw [if_neg (by simp), IntWalk.i64_in _ (by omega)]
        generalize ((k : Int) + 1) * P = Z at *
        simp (disch := omega) [-getElem?_pos, if_pos, if_neg, decide_eq_true, decide_eq_false, ir_ref13_Count_l0, e1, e5, e6, e7, bc, hkn', hP, hs0, hs3, ↓hmul, IntWalk.i64_in]
        exact ⟨hkn, rfl, by simp [e1], by simp [e5], by simp, Z, by simp, by omega, by omega, s1, s2⟩
    · have := prod_stay (f := fOf x) (fun k => fOf_pos k) (p4 (by omega)) (M := N) (by omega)
      simp (disch := omega) [-getElem?_pos, if_pos, if_neg, decide_eq_true, decide_eq_false, ir_ref13_Count_l0, e1, e5, e6, e7, hkn', hP]
      exact ⟨rfl, rfl, P, by simp [e6], fun h => absurd h hP, fun _ => this⟩
  · obtain rfl : k = N := by omega
    have hkn' : ¬ (k : Int) + 1 ≤ k := by omega
    simp (disch := omega) [-getElem?_pos, if_pos, if_neg, decide_eq_true, decide_eq_false, ir_ref13_Count_l0, e1, e5, e6, e7, hkn']
    exact ⟨rfl, rfl, P, by simp [e6], p3, p4⟩
theorem Count13_spec {p : Nat → Prop} {H : AH} {v : Value} {x : InstD} (hx : InstV p H v x) : AFn Try.prog F_ref13_Count [v] H fun u H' => u = .tuple #[.int .i64 x.count, .int .i64 x.countE] ∧ H' = H := by
  refine AFn.calm (fun H0 hs => ?_) rfl
  have hx0 := hx.same hs
  obtain ⟨iv, cv, sv, rfl, i1, i2, i3, h1, h2, h3⟩ := id hx0
  refine AFn.enter mixed ir_ref13_Count_eq (by simp [ir_ref13_Count]) fun hw => ?_
  have bc : (H0.alloc (.row (instC x iv cv sv) T_secateurref09_Inst true)).cells H0.next = some (instC x iv cv sv) := AH.cells_alloc_new
  have hx1 := (hx0.kept hw (.alloc (B := .row (instC x iv cv sv) T_secateurref09_Inst true))).any
  generalize hq : H0.next = q at *
  simp (disch := omega) [-getElem?_pos, if_pos, if_neg, decide_eq_true, decide_eq_false, ir_ref13_Count, hq, inst_cut]
  generalize H0.alloc (.row (instC x iv cv sv) T_secateurref09_Inst true) = H1 at *
  refine AFn.pure (Check9_spec hx1) ?_
  unfold InstD.count InstD.countE
  by_cases hc : x.check = 0
  · obtain ⟨n0, n1⟩ := InstD.n_range (InstD.check_ok.1 hc)
    obtain ⟨N, hN⟩ : ∃ N : Nat, x.n = (N : Int) := ⟨x.n.toNat, by omega⟩
    have hm : x.many = prodI (fOf x) N := by unfold InstD.many fOf; rw [hN, Int.toNat_natCast]
    simp (disch := omega) [-getElem?_pos, if_pos, if_neg, decide_eq_true, decide_eq_false, hc, bc, inst_cut]
    refine AFn.pure (N9_spec hx1) ?_
    rw [hN]
    simp (disch := omega) [-getElem?_pos, if_pos, if_neg, decide_eq_true, decide_eq_false, ]
    refine wpC_use (count13_l0 bc (N := N) (by omega) ⟨rfl, by simp, by simp, by simp, 1, by simp, by omega, by omega, fun _ => rfl, fun h => absurd h (by omega)⟩) ?_
    rintro e env2 H3 ⟨rfl, rfl, P, e6, p3, p4⟩ hu
    by_cases hP : 1048576 < P
    · have hmm := p4 hP
      rw [← hm] at hmm
      have hgt : 1048576 < x.many := by omega
      simp (disch := omega) [-getElem?_pos, if_pos, if_neg, decide_eq_true, decide_eq_false, e6, hP, hgt]
    · simp (disch := omega) [-getElem?_pos, if_pos, if_neg, decide_eq_true, decide_eq_false, e6, hP]
      rw [hm, p3 (by omega)]
  · simp (disch := omega) [-getElem?_pos, if_pos, if_neg, decide_eq_true, decide_eq_false, hc]
end Go.Proofs.Ytlcddhgfkkjhkaa

set_option maxRecDepth 100000
namespace Go.Proofs.Ytlcddhgfkkjhkaa
open Go Go.Abs
open Go.Abs.Ren (R)
def O0I (H1 : AH) (hv : Value) (head : List Int) (y : Int) (k : Nat) (env : Env) (H' : AH) : Prop :=
  H' = H1 ∧ env 0 = some hv ∧ env 6 = some (.int .i64 y) ∧ env 8 = some (.int .i64 k) ∧ env 7 = some (.bool (decide (y ∈ head.take k)))
def O0Q (H1 : AH) (head : List Int) (y : Int) (e : AExit) (env : Env) (H' : AH) : Prop :=
  H' = H1 ∧ e = .exit 2 ∧ env 7 = some (.bool (decide (y ∈ head)))
theorem orders13_l0 {p : Nat → Prop} {H1 : AH} {hv : Value} {head : List Int} {y : Int} (hh : SlV p H1 hv head) {env : Env} (h : O0I H1 hv head y 0 env H1) : wpC Try.prog 52 (.loop ir_ref13_orders_l0) (O0Q H1 head y) env H1 := by
  refine loop_upto head.length (O0I H1 hv head y) (Q := O0Q H1 head y) h ?_
  rintro k env H' hk ⟨rfl, e0, e6, e8, e7⟩
  have hmax := hh.max
  by_cases hkn : k < head.length
  · obtain ⟨b0, off, sp, cap, cs, hcv, q1, q2⟩ := ints_rd hh (by omega)
    obtain ⟨q3, q4⟩ := q2 k hkn
    subst hcv
    have ht : (y ∈ head.take (k + 1)) ↔ (y ∈ head.take k ∨ head[k] = y) := by
      rw [List.take_succ_eq_append_getElem hkn, List.mem_append]
      simp [eq_comm]
    generalize head[k] = z at *
    by_cases hm : y ∈ head.take k
    · have ht' : y ∈ head.take (k + 1) := ht.2 (.inl hm)
      simp (disch := omega) [-getElem?_pos, if_pos, if_neg, decide_eq_true, decide_eq_false, ir_ref13_orders_l0, e0, e6, e8, e7, q1, q3, hm, IntWalk.i64_in]
      exact ⟨hkn, rfl, by simp [e0], by simp [e6], by simp, by simp [ht']⟩
    · by_cases hz : z = y
      · have ht' : y ∈ head.take (k + 1) := ht.2 (.inr hz)
        simp (disch := omega) [-getElem?_pos, if_pos, if_neg, decide_eq_true, decide_eq_false, ir_ref13_orders_l0, e0, e6, e8, e7, q1, q3, hm, hz, IntWalk.i64_in]
        exact ⟨hkn, rfl, by simp [e0], by simp [e6], by simp, by simp [ht']⟩
      · have ht' : ¬ y ∈ head.take (k + 1) := fun h => by rcases ht.1 h with h | h; exact hm h; exact hz h
        simp (disch := omega) [-getElem?_pos, if_pos, if_neg, decide_eq_true, decide_eq_false, ir_ref13_orders_l0, e0, e6, e8, e7, q1, q3, hm, hz, IntWalk.i64_in]
        exact ⟨hkn, rfl, by simp [e0], by simp [e6], by simp, by simp [ht']⟩
  · obtain rfl : k = head.length := by omega
    obtain ⟨a, c, rfl⟩ := hh.slice
    simp (disch := omega) [-getElem?_pos, if_pos, if_neg, decide_eq_true, decide_eq_false, ir_ref13_orders_l0, e0, e8]
    rw [List.take_length] at e7
    exact ⟨rfl, rfl, e7⟩
def leftL (n : Nat) (head : List Int) : List Int := (restL 0 n).filter fun y => decide (y ∉ head)
theorem leftL_nodup {n : Nat} {head : List Int} : (leftL n head).Nodup := List.Nodup.sublist List.filter_sublist restL_nodup
theorem leftL_snoc {n : Nat} {head : List Int} {y : Int} : leftL n (head ++ [y]) = (leftL n head).filter (· != y) := by
  unfold leftL
  rw [List.filter_filter]
  congr 1
  funext z
  by_cases h1 : z ∈ head <;> by_cases h2 : z = y <;> simp [h1, h2]
theorem leftL_len {n f k : Nat} {head : List Int} (h : (leftL n head).length = f + 1) (hk : k < n) (hm : (k : Int) ∉ head) : (leftL n (head ++ [(k : Int)])).length = f := by
  have hin : (k : Int) ∈ leftL n head := by
    unfold leftL
    rw [List.mem_filter]
    refine ⟨?_, by simpa using hm⟩
    unfold restL
    rw [List.mem_map]
    exact ⟨k, by simpa using hk, by simp⟩
  obtain ⟨i, hi, e⟩ := List.getElem_of_mem hin
  rw [leftL_snoc, ← e, filter_ne hi leftL_nodup, List.length_eraseIdx_of_lt hi, h]
  rfl
theorem own_ints {p q : Nat → Prop} {H : AH} {ty : Nat} {v : Value} {l : List Int} {S : List Nat} (h : OwnL p H ty v l S) (hq : ∀ b ∈ S, ¬ q b) : OwnL q H ty v l S := by
  obtain ⟨cells, h1, h2, h3⟩ := h
  exact ⟨cells, h1, fun i hi => h2 i hi, hq⟩
def OrdPost (p0 : Nat → Prop) (H : AH) (M : List (List Int)) (u : Value) (H' : AH) : Prop :=
  ∃ S, OwnL (fun b => (p0 b ∨ H.next ≤ b) ∧ b < H'.next ∧ b ∉ S) H' T_Lint u M S ∧ Keep [] H H' ∧ ∀ b ∈ S, H.next ≤ b
def O1I (H : AH) (hv : Value) (n : Nat) (g : Int → List (List Int)) (head : List Int) (F : Nat) (k : Nat) (env : Env) (H' : AH) : Prop :=
  env 0 = some hv ∧ env 1 = some (.int .i64 n) ∧ env 6 = some (.int .i64 k) ∧ WF H' ∧ Keep [] H H' ∧ ∃ v M S, env 5 = some v ∧ OwnL (fun b => H.next ≤ b ∧ b < H'.next ∧ b ∉ S) H' T_Lint v M S ∧ (∀ b ∈ S, H.next ≤ b) ∧ M.length ≤ k * F ∧
    M = (((restL 0 n).take k).filter fun y => decide (y ∉ head)).flatMap g
theorem orders13_spec : ∀ (f : Nat), f < 10 → ∀ {p0 : Nat → Prop} {H : AH} {v : Value} {head : List Int} {n : Nat}, (∀ b, p0 b → b < H.next) → SlV p0 H v head → (leftL n head).length = f → head.length + f = n → n ≤ 100 → AFn Try.prog F_ref13_orders [v, .int .i64 n] H (OrdPost p0 H (ordersL f head (leftL n head))) := by
  intro f
  induction f with
  | zero =>
    intro hf p0 H v head n hp hv hlen hn hn100
    obtain ⟨va, vc, rfl⟩ := hv.slice
    refine AFn.enter mixed ir_ref13_orders_eq (by simp [ir_ref13_orders]) fun hw => ?_
    have hl : head.length = n := by omega
    simp (disch := omega) [-getElem?_pos, if_pos, if_neg, decide_eq_true, decide_eq_false, ir_ref13_orders, hl]
    rw [← hl]
    show OrdPost p0 H [head] _ _
    refine ⟨[H.next], ⟨[.slice va head.length vc], .inr ⟨H.next, 0, none, 1, _, rfl, rfl, AH.alloc_blk_new, by simp, by simp, by simp, .inl rfl⟩, fun i hi => ?_, fun b hb h => h.2.2 hb⟩, .alloc, by simp⟩
    obtain rfl : i = 0 := by simpa using hi
    exact ⟨_, rfl, hv.up (fun b hb => ⟨.inl hb, by have := hp b hb; simp; omega, by have := hp b hb; simp; omega⟩) (.kept hw .alloc)⟩
  | succ f ih =>
    intro hf p0 H v head n hp hv hlen hn hn100
    obtain ⟨va, vc, rfl⟩ := hv.slice
    refine AFn.enter mixed ir_ref13_orders_eq (by simp [ir_ref13_orders]) fun hw => ?_
    have hl : ¬ head.length = n := by omega
    have hFl := fac_le (show f < 10 by omega)
    simp (disch := omega) [-getElem?_pos, if_pos, if_neg, decide_eq_true, decide_eq_false, ir_ref13_orders, hl]
    have hsp : ordersL (f + 1) head (leftL n head) = (leftL n head).flatMap fun y => ordersL f (head ++ [y]) ((leftL n head).filter (· != y)) := rfl
    rw [hsp]
    generalize hg : (fun y => ordersL f (head ++ [y]) ((leftL n head).filter (· != y))) = g
    refine wpC_use (loop_upto n (O1I H (.slice va head.length vc) n g head (fac f)) (Q := fun e env H' => e = .exit 0 ∧ ∃ u, env 5 = some u ∧ OrdPost p0 H ((leftL n head).flatMap g) u H') ⟨by simp, by simp, by simp, hw, .refl, .slice none 0 0, [], [], by simp, .nil, by simp, by simp, by simp⟩ ?_) ?_
    · rintro k env H' hk ⟨e0, e1, e6, w', k', out, M, S, e5, hM, hS, hMl, hMe⟩
      have hn1 := k'.next
      have hMn := hM.lt w'
      by_cases hkn : k < n
      · have hv' : SlV p0 H' (.slice va head.length vc) head := hv.kept hw k'
        have hrest : (restL 0 n).take (k + 1) = (restL 0 n).take k ++ [(k : Int)] := by
          rw [List.take_succ_eq_append_getElem (by rw [restL_len]; omega)]
          simp [restL]
        simp (disch := omega) [-getElem?_pos, if_pos, if_neg, decide_eq_true, decide_eq_false, ir_ref13_orders_l1, e0, e1, e6, hkn]
        refine wpC_use (orders13_l0 hv' (y := (k : Int)) ⟨rfl, by simp [e0], by simp [e6], by simp, by simp⟩) ?_
        rintro e env2 H2 ⟨rfl, rfl, e7⟩ hu
        have u0 := hu 0 (by decide)
        have u1 := hu 1 (by decide)
        have u5 := hu 5 (by decide)
        have u6 := hu 6 (by decide)
        by_cases hm : (k : Int) ∈ head
        · simp (disch := omega) [-getElem?_pos, if_pos, if_neg, decide_eq_true, decide_eq_false, e7, hm, u0, u1, u5, u6, e0, e1, e5, e6, IntWalk.i64_in]
          refine ⟨hkn, by simp [u0, e0], by simp [u1, e1], by simp, w', k', out, M, S, by simp [u5, e5], hM, hS, ?_, ?_⟩
          · rw [Nat.succ_mul]; omega
          · rw [hMe, hrest, List.filter_append, List.filter_cons, if_neg (by simpa using hm), List.filter_nil, List.append_nil]
        · obtain ⟨cells, a1, c1, H3, S3, pe, pa, hA3, k3, w3, i3⟩ := (OwnL.nil (p := fun _ => False) (H := H2) (ty := T_int) (α := Int)).pushAll w' hv' 8 (fun _ h => h.elim) (fun b hb => by have := hp b hb; omega) (by simp) (by simp; omega) (by simp; omega)
          simp only [sz_int, List.length_nil, Nat.zero_add, List.nil_append] at pe pa hA3
          have hS3 : ∀ b ∈ S3, H2.next ≤ b := fun b hb => by
            rcases i3 b hb with h | h
            · simp at h
            · exact h
          have k3' : Keep [] H2 H3 := k3
          obtain ⟨a4, c4, H4, S4, p4, w4, hA4, k4, hS4, _, i4⟩ := push_int w3 (own_ints (q := fun _ => False) hA3 (by simp)) k3' hS3 (a := (k : Int)) (by unfold I64; omega) (by omega)
          have pE : elemsA (H3.alloc (.row [.int .i64 (k : Int)] T_int true)) 1 (.slice (some ⟨H3.next, 0, none⟩) 1 1) = some [.int .i64 (k : Int)] := elems_one rfl
          have n3 := k3'.next
          have n4 := k4.next
          have hA4n := hA4.lt w4
          simp (disch := omega) [-getElem?_pos, if_pos, if_neg, decide_eq_true, decide_eq_false, e7, hm, u0, u1, u5, u6, e0, e1, e5, e6, pe, pa, pE, p4, IntWalk.i64_in]
          have hlen' := leftL_len (f := f) (by rw [hlen]) hkn hm
          have hsl : SlV (fun b => b ∈ S4) H4 (.slice a4 (head.length + 1) c4) (head ++ [(k : Int)]) := hA4.slv (fun _ h => h.elim) (fun b hb => hb) (by simp; omega)
          refine (ih (by omega) (p0 := fun b => b ∈ S4) (H := H4) (head := head ++ [(k : Int)]) (n := n) (fun b hb => hA4n b hb) hsl hlen' (by simp; omega) hn100).mono' fun u H5 w5 ⟨S5, hA5, k5, hS5⟩ => ?_
          have hM2 : ordersL f (head ++ [(k : Int)]) (leftL n (head ++ [(k : Int)])) = g k := by rw [← hg, leftL_snoc]
          have hM2l : (g k).length = fac f := by rw [← hM2, orders_eq f hlen' leftL_nodup]; simp
          rw [hM2] at hA5
          obtain ⟨a5, c5, rfl⟩ := hA5.slice
          have n5 := k5.next
          have hA5n := hA5.lt w5
          have hM5 := hM.kept w' (k4.trans' k5)
          have hq5 : SlV (fun b => H.next ≤ b ∧ b < H5.next ∧ b ∉ S) H5 (.slice a5 (g k).length c5) (g k) := hA5.slv (fun b h => by
              have h4 : H2.next ≤ b := by
                rcases h.1 with h | h
                · exact hS4 b h
                · omega
              exact ⟨by omega, h.2.1, fun hs => by have := hMn b hs; omega⟩) (fun b hb => by
              have := hS5 b hb
              exact ⟨by omega, hA5n b hb, fun hs => by have := hMn b hs; omega⟩) (by omega)
          have hkF : (k + 1) * fac f = k * fac f + fac f := Nat.succ_mul _ _
          have hkF2 : k * fac f ≤ 100 * 362880 := Nat.mul_le_mul (by omega) hFl
          obtain ⟨cells6, a6, c6, H6, S6, pe6, pa6, hA6, k6, w6, i6⟩ := hM5.pushAll w5 hq5 24 (fun b h => ⟨h.1, by have := h.2.1; omega, h.2.2⟩) (fun b h => h.2.1) (fun b hb h => h.2.2 hb) (by omega) (by omega)
          simp only [sz_list] at pe6 pa6
          have n6 := k6.next
          have hA6n := hA6.lt w6
          simp (disch := omega) [-getElem?_pos, if_pos, if_neg, decide_eq_true, decide_eq_false, u0, u1, u5, u6, e0, e1, e5, e6, pe6, pa6, IntWalk.i64_in]
          refine ⟨hkn, by simp [u0, e0], by simp [u1, e1], by simp, w6, ((k'.trans' k4).trans' k5).trans k6 (fun b hb hlt => by have := hS b hb; omega), .slice a6 (M.length + (g k).length) c6, M ++ g k, S6, by simp, ?_, fun b hb => ?_, by rw [List.length_append]; omega, ?_⟩
          · refine hA6.up (fun b h => ⟨h.1, by have := h.2.1; omega, fun hs => ?_⟩) .refl (fun _ _ => rfl) (fun b hb h => h.2.2 hb)
            rcases i6 b hs with g1 | g1
            · exact h.2.2 g1
            · have := h.2.1; omega
          · rcases i6 b hb with g1 | g1
            · exact hS b g1
            · omega
          · rw [hMe, hrest, List.filter_append, List.flatMap_append]
            congr 1
            rw [List.filter_cons, if_pos (by simpa using hm)]
            simp
      · obtain rfl : k = n := by omega
        simp (disch := omega) [-getElem?_pos, if_pos, if_neg, decide_eq_true, decide_eq_false, ir_ref13_orders_l1, e1, e6]
        show ∃ u, env 5 = some u ∧ OrdPost p0 H ((leftL k head).flatMap g) u H'
        refine ⟨out, e5, ?_⟩
        rw [List.take_of_length_le (by rw [restL_len]; omega)] at hMe
        rw [show leftL k head = (restL 0 k).filter fun y => decide (y ∉ head) from rfl, ← hMe]
        exact ⟨S, hM.up (fun b h => ⟨.inr h.1, h.2⟩) .refl (fun _ _ => rfl) (fun b hb h => h.2.2 hb), k', hS⟩
    · rintro e env2 H' ⟨rfl, u, e5, hP⟩ hu
      obtain ⟨S, hA, _⟩ := id hP
      have hc := hA.cell
      simp (disch := omega) [-getElem?_pos, if_pos, if_neg, decide_eq_true, decide_eq_false, e5, hc]
      exact hP
end Go.Proofs.Ytlcddhgfkkjhkaa

set_option maxRecDepth 100000
namespace Go.Proofs.Ytlcddhgfkkjhkaa
open Go Go.Abs
open Go.Abs.Ren (R)
theorem chosen_le : ∀ (f : Nat) {k m : Nat}, (chosenL f k m).length ≤ f
  | 0, k, m => by simp [chosenL]
  | f + 1, k, m => by
    have ih := chosen_le f (k := k + 1) (m := m / 2)
    unfold chosenL
    split
    · simp
    · rw [List.length_append]
      split <;> simp <;> omega
def A0I (H : AH) (m : Nat) (k : Nat) (env : Env) (H' : AH) : Prop :=
  env 8 = some (.int .i64 (m / 2 ^ k : Nat)) ∧ env 9 = some (.int .i64 k) ∧ ∃ v S L, env 7 = some v ∧ WF H' ∧ OwnL (fun _ => False) H' T_int v L S ∧ L.length ≤ k ∧ L ++ chosenL (20 - k) k (m / 2 ^ k) = chosenL 20 0 m ∧ Keep [] H H' ∧ ∀ b ∈ S, H.next ≤ b
def A0Q (H : AH) (m : Nat) (e : AExit) (env : Env) (H' : AH) : Prop := e = .exit 2 ∧ WF H' ∧ ∃ v, env 7 = some v ∧ NewL H v (chosenL 20 0 m) H'
theorem all13_l0 {H : AH} {m : Nat} (hm : m < 2 ^ 20) {env : Env} (h : A0I H m 0 env H) : wpC Try.prog 56 (.loop ir_ref13_All_l0) (A0Q H m) env H := by
  refine loop_upto 20 (A0I H m) (Q := A0Q H m) h ?_
  rintro k env H' hk ⟨e8, e9, v, S, L, e7, hw', hA, hl, hL, hK, hS⟩
  have hle : m / 2 ^ k ≤ m := Nat.div_le_self _ _
  have hd : m / 2 ^ k / 2 = m / 2 ^ (k + 1) := by rw [Nat.div_div_eq_div_mul, Nat.pow_succ]
  have hx20 : k = 20 → m / 2 ^ k = 0 := fun h => by rw [h]; exact Nat.div_eq_of_lt hm
  generalize hx : m / 2 ^ k = x at *
  by_cases h0 : x = 0
  · subst h0
    simp (disch := omega) [-getElem?_pos, if_pos, if_neg, decide_eq_true, decide_eq_false, ir_ref13_All_l0, e7, e8, e9]
    have : chosenL (20 - k) k 0 = [] := by cases 20 - k <;> rfl
    rw [this, List.append_nil] at hL
    exact ⟨rfl, hw', v, e7, by rw [← hL]; exact ⟨S, hA, hK, hS⟩⟩
  · have hkf : k < 20 := by
      have : k ≠ 20 := fun h => h0 (hx20 h)
      omega
    obtain ⟨g, hg⟩ : ∃ g, 20 - k = g + 1 := ⟨20 - k - 1, by omega⟩
    have hch : chosenL (20 - k) k x = (if x % 2 = 1 then [(k : Int)] else []) ++ chosenL (20 - (k + 1)) (k + 1) (x / 2) := by
      rw [hg, show 20 - (k + 1) = g by omega]
      show (if x = 0 then [] else _) = _
      rw [if_neg h0]
    have hxp : 0 < x := by omega
    have ha1 : abin .rem (.int .i64 (x : Int)) (.int .i64 2) = some (.int .i64 ((x % 2 : Nat) : Int)) := i64_rem_nat (a := x) (b := 2) (by omega)
    have ha2 : abin .quo (.int .i64 (x : Int)) (.int .i64 2) = some (.int .i64 ((x / 2 : Nat) : Int)) := i64_quo_nat (a := x) (b := 2) (by omega) (by omega)
    by_cases h1 : x % 2 = 1
    · obtain ⟨va, vc, H2, S', p1, w2, hA', k2, hS', _⟩ := push_int hw' hA hK hS (a := (k : Int)) (by unfold I64; omega) (by omega)
      have pE : elemsA (H'.alloc (.row [.int .i64 (k : Int)] T_int true)) 1 (.slice (some ⟨H'.next, 0, none⟩) 1 1) = some [.int .i64 (k : Int)] := elems_one rfl
      rw [h1] at ha1
      simp (disch := omega) [-getElem?_pos, if_pos, if_neg, decide_eq_true, decide_eq_false, ir_ref13_All_l0, e7, e8, e9, ↓ha1, ↓ha2, pE, p1, hxp, IntWalk.i64_in]
      refine ⟨hkf, by simp [← hd], by simp, .slice va (L.length + 1) vc, S', L ++ [(k : Int)], by simp, w2, hA', by simp; omega, ?_, k2, hS'⟩
      rw [← hL, hch, if_pos h1, ← hd, List.append_assoc]
    · rw [show x % 2 = 0 by omega] at ha1
      simp (disch := omega) [-getElem?_pos, if_pos, if_neg, decide_eq_true, decide_eq_false, ir_ref13_All_l0, e7, e8, e9, ↓ha1, ↓ha2, hxp, IntWalk.i64_in]
      refine ⟨hkf, by simp [← hd], by simp, v, S, L, by simp [e7], hw', hA, by omega, ?_, hK, hS⟩
      rw [← hL, hch, if_neg h1, ← hd, List.nil_append]
def NewLL (H : AH) (u : Value) (M : List (List Int)) (H' : AH) : Prop := ∃ S, OwnL (fun b => H.next ≤ b ∧ b < H'.next ∧ b ∉ S) H' T_Lint u M S ∧ Keep [] H H' ∧ ∀ b ∈ S, H.next ≤ b
def A1I (H : AH) (C : Nat) (k : Nat) (env : Env) (H' : AH) : Prop :=
  env 3 = some (.int .i64 C) ∧ env 6 = some (.int .i64 k) ∧ WF H' ∧ ∃ v, env 5 = some v ∧ NewLL H v ((List.range k).map (chosenL 20 0)) H'
def A1Q (H : AH) (C : Nat) (e : AExit) (env : Env) (H' : AH) : Prop := e = .exit 0 ∧ ∃ v, env 5 = some v ∧ NewLL H v ((List.range C).map (chosenL 20 0)) H'
theorem all13_l1 {H H1 : AH} {C : Nat} (hC : C ≤ 2 ^ 20) {env : Env} (h : A1I H C 0 env H1) : wpC Try.prog 56 (.loop ir_ref13_All_l1) (A1Q H C) env H1 := by
  refine loop_upto C (A1I H C) (Q := A1Q H C) h ?_
  rintro k env H' hk ⟨e3, e6, w', out, e5, S, hM, k', hS⟩
  have hn1 := k'.next
  have hMn := hM.lt w'
  by_cases hkn : k < C
  · simp (disch := omega) [-getElem?_pos, if_pos, if_neg, decide_eq_true, decide_eq_false, ir_ref13_All_l1, e3, e6, hkn]
    refine wpC_use (all13_l0 (H := H') (m := k) (by omega) ⟨by simp, by simp, .slice none 0 0, [], [], by simp, w', .nil, by simp, by simp, .refl, by simp⟩) ?_
    rintro e env2 H2 ⟨rfl, w2, v, e7, S2, hA2, k2, hS2⟩ hu
    have u3 := hu 3 (by decide)
    have u5 := hu 5 (by decide)
    have u6 := hu 6 (by decide)
    have n2 := k2.next
    have hA2n := hA2.lt w2
    have hcl := chosen_le 20 (k := 0) (m := k)
    have hc := hA2.cell
    have hM2 := hM.kept w' k2
    have hl : ((List.range k).map (chosenL 20 0)).length = k := by simp
    have hsl : SlV (fun b => b ∈ S2) H2 v (chosenL 20 0 k) := hA2.slv (fun _ h => h.elim) (fun b hb => hb) (by omega)
    have pE : elemsA (H2.alloc (.row [v] T_Lint true)) 1 (.slice (some ⟨H2.next, 0, none⟩) 1 1) = some [v] := elems_one rfl
    obtain ⟨va, vc, H3, S3, p3, hA3, k3, w3, i3⟩ := hM2.push (q := fun b => H.next ≤ b ∧ b < H2.next ∧ b ∉ S) w2 (cs := [v]) (a := chosenL 20 0 k) ⟨v, rfl, hsl.mono fun b hb => ⟨by have := hS2 b hb; omega, hA2n b hb, fun hs => by have := hMn b hs; have := hS2 b hb; omega⟩⟩ T_Lint 24 (fun b h => ⟨h.1, by have := h.2.1; omega, h.2.2⟩) (fun b h => h.2.1) (fun b hb h => h.2.2 hb) (by omega) (by omega)
    simp only [sz_list] at p3
    have n3 := k3.next
    rw [hl] at p3
    simp (disch := omega) [-getElem?_pos, if_pos, if_neg, decide_eq_true, decide_eq_false, e7, hc.1, hc.2, u3, u5, u6, e3, e5, e6, pE, p3, IntWalk.i64_in]
    refine ⟨hkn, by simp [u3, e3], by simp, w3, .slice va (k + 1) vc, by simp, S3, ?_, (k'.trans' k2).trans k3 (fun b hb hlt => by have := hS b hb; omega), fun b hb => ?_⟩
    · rw [List.range_succ, List.map_append]
      rw [hl] at hA3
      refine hA3.up (fun b h => ⟨h.1, by have := h.2.1; omega, fun hs => ?_⟩) .refl (fun _ _ => rfl) (fun b hb h => h.2.2 hb)
      rcases i3 b hs with g1 | g1
      · exact h.2.2 g1
      · have := h.2.1; omega
    · rcases i3 b hb with g1 | g1
      · exact hS b g1
      · omega
  · obtain rfl : k = C := by omega
    simp (disch := omega) [-getElem?_pos, if_pos, if_neg, decide_eq_true, decide_eq_false, ir_ref13_All_l1, e3, e6]
    exact ⟨rfl, out, e5, S, hM, k', hS⟩
theorem leftL_nil {n : Nat} : leftL n [] = restL 0 n := by
  unfold leftL
  rw [List.filter_eq_self]
  intro a _; simp
theorem leftL_zero {n : Nat} (hn : 1 ≤ n) : leftL n [0] = restL 1 n := by
  unfold leftL restL
  obtain ⟨m, rfl⟩ : ∃ m, n = m + 1 := ⟨n - 1, by omega⟩
  simp only [Nat.sub_zero, Nat.add_sub_cancel, Nat.zero_add]
  rw [List.range_succ_eq_map, List.map_cons, List.filter_cons, if_neg (by simp), List.map_map, List.filter_eq_self.2]
  · apply List.map_congr_left
    intro a _; simp; omega
  · intro a ha
    simp at ha
    obtain ⟨b, _, rfl⟩ := ha
    simp; omega
theorem All13_spec {H : AH} {v : Value} {x : InstD} {C : Nat} (hx : InstV (fun b => b < H.next) H v x) (hE : x.countE = 0) (hC : x.count = (C : Int)) : AFn Try.prog F_ref13_All [v] H fun u H' => NewLL H u ((List.range C).map x.at) H' := by
  obtain ⟨iv, cv, sv, rfl, i1, i2, i3, h1, h2, h3⟩ := id hx
  refine AFn.enter mixed ir_ref13_All_eq (by simp [ir_ref13_All]) fun hw => ?_
  have bc : (H.alloc (.row (instC x iv cv sv) T_secateurref09_Inst true)).cells H.next = some (instC x iv cv sv) := AH.cells_alloc_new
  have k1 : Keep [] H (H.alloc (.row (instC x iv cv sv) T_secateurref09_Inst true)) := .alloc
  have hx1 := (hx.kept hw k1).any
  have w1 := WF.alloc hw (B := .row (instC x iv cv sv) T_secateurref09_Inst true)
  obtain ⟨ca, cc, rfl⟩ := h2.slice
  have hm2 := h2.max
  generalize hq : H.next = q at *
  simp (disch := omega) [-getElem?_pos, if_pos, if_neg, decide_eq_true, decide_eq_false, ir_ref13_All, hq, inst_cut]
  generalize H.alloc (.row (instC x iv (.slice ca x.cost.length cc) sv) T_secateurref09_Inst true) = H1 at *
  have n1 := k1.next
  refine AFn.pure (Count13_spec hx1) ?_
  have post : ∀ {u : Value} {M : List (List Int)} {H2 : AH}, NewLL H1 u M H2 → NewLL H u M H2 := fun ⟨S, hA, k2, hS⟩ => ⟨S, hA.up (fun b h => ⟨by have := h.1; omega, h.2⟩) .refl (fun _ _ => rfl) (fun b hb h => h.2.2 hb), k1.trans' k2, fun b hb => by have := hS b hb; omega⟩
  by_cases hs : x.kind = 0 ∨ x.kind = 3
  · obtain ⟨hok, N, hN, hn, hcn⟩ := count_sub hE hs
    have hCN : C = 2 ^ N := by rw [hC] at hcn; omega
    have hp : (2 : Nat) ^ N ≤ 2 ^ 20 := Nat.pow_le_pow_right (by omega) (by omega)
    have hk1 : (x.kind = 1) = False := eq_false (by omega)
    have hk2 : (x.kind = 2) = False := eq_false (by omega)
    have hat : (List.range C).map x.at = (List.range C).map (chosenL 20 0) := by
      congr 1; funext k; unfold InstD.at; rw [if_pos hs]
    rw [hat]
    simp (disch := omega) [-getElem?_pos, if_pos, if_neg, decide_eq_true, decide_eq_false, hE, hC, bc, hk1, hk2]
    refine wpC_use (all13_l1 (H := H1) (C := C) (by omega) ⟨by simp, by simp, w1, .slice none 0 0, by simp, [], .nil, .refl, by simp⟩) ?_
    rintro e env2 H2 ⟨rfl, u, e5, hP⟩ hu
    obtain ⟨S, hA, _⟩ := id hP
    have hc := hA.cell
    simp (disch := omega) [-getElem?_pos, if_pos, if_neg, decide_eq_true, decide_eq_false, e5, hc]
    exact post hP
  · obtain ⟨hok, hf1, hf2, hcn, hcl⟩ := count_ord hE hs
    have hCF : C = fac (x.cost.length - fix1 x.kind) := by rw [hC] at hcn; omega
    have hat : (List.range C).map x.at = (List.range C).map fun k => restL 0 (fix1 x.kind) ++ orderL (x.cost.length - fix1 x.kind) (restL (fix1 x.kind) x.cost.length) k := by
      congr 1; funext k; unfold InstD.at; rw [if_neg hs]
    rw [hat, hCF]
    have k0 := hok.kind0
    have k4 := hok.kind4
    by_cases hk1 : x.kind = 1
    · have hk1T := eq_true hk1
      have hfx : fix1 x.kind = 0 := by unfold fix1; rw [if_neg (by omega)]
      rw [hfx] at hf2 ⊢
      simp (disch := omega) [-getElem?_pos, if_pos, if_neg, decide_eq_true, decide_eq_false, hE, hC, bc, hk1T]
      refine (orders13_spec (x.cost.length - 0) hf2 (p0 := fun _ => False) (H := H1) (head := []) (n := x.cost.length) (fun b h => h.elim) .nil (by rw [leftL_nil, restL_len]) (by simp) (by omega)).mono' fun u H2 w2 ⟨S, hA, k2, hS⟩ => ?_
      have hc := hA.cell
      rw [leftL_nil, orders_eq _ restL_len restL_nodup] at hA
      simp (disch := omega) [-getElem?_pos, if_pos, if_neg, decide_eq_true, decide_eq_false, hc]
      refine post ⟨S, hA.up (fun b h => ⟨by rcases h.1 with h | h; exact h.elim; exact h, h.2⟩) .refl (fun _ _ => rfl) (fun b hb h => h.2.2 hb), k2, hS⟩
    · have hk2 : x.kind = 2 := by omega
      have hk2T := eq_true hk2
      have hfx : fix1 x.kind = 1 := by unfold fix1; rw [if_pos hk2]
      rw [hfx] at hf1 hf2 ⊢
      have hqn := cells_lt w1 bc
      have hqne : ¬ q = H1.next := by omega
      simp (disch := omega) [-getElem?_pos, if_pos, if_neg, decide_eq_true, decide_eq_false, hE, hC, bc, hk1, hk2T, hqne]
      generalize hH2 : AH.alloc H1 _ = H2
      have w2 : WF H2 := by rw [← hH2]; exact WF.alloc w1
      have k2 : Keep [] H1 H2 := by rw [← hH2]; exact .alloc
      have n2 : H2.next = H1.next + 1 := by rw [← hH2]; simp
      have c2 : H2.cells H1.next = some [.int .i64 0] := by rw [← hH2]; exact AH.cells_alloc_new
      clear hH2
      have hsl : SlV (fun b => b = H1.next) H2 (.slice (some ⟨H1.next, 0, none⟩) 1 1) [(0 : Int)] := by
        refine ⟨⟨by simp, .of (.inl rfl)⟩, [.int .i64 0], ⟨by simp, .inr ⟨H1.next, 0, none, 1, _, rfl, by simp, .inl rfl, c2, rfl, rfl⟩⟩, fun i hi => ?_⟩
        obtain rfl : i = 0 := by simpa using hi
        exact ⟨rfl, by simp [I64]⟩
      refine (orders13_spec (x.cost.length - 1) hf2 (p0 := fun b => b = H1.next) (H := H2) (head := [0]) (n := x.cost.length) (fun b h => by omega) hsl (by rw [leftL_zero hf1, restL_len]) (by simp; omega) (by omega)).mono' fun u H3 w3 ⟨S, hA, k3, hS⟩ => ?_
      have hc := hA.cell
      rw [leftL_zero hf1, orders_eq _ restL_len restL_nodup] at hA
      simp (disch := omega) [-getElem?_pos, if_pos, if_neg, decide_eq_true, decide_eq_false, hc]
      refine post ⟨S, hA.up (fun b h => ⟨by rcases h.1 with h | h <;> omega, h.2⟩) .refl (fun _ _ => rfl) (fun b hb h => h.2.2 hb), k2.trans' k3, fun b hb => by have := hS b hb; omega⟩
end Go.Proofs.Ytlcddhgfkkjhkaa
