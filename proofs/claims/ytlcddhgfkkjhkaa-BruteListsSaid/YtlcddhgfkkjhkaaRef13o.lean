/-
  The document's brute: orders.
-/
import Derived.Test.YtlcddhgfkkjhkaaRef13
import Derived.Test.YtlcddhgfkkjhkaaOrders
import Derived.Test.YtlcddhgfkkjhkaaOwnAll
import Derived.Test.YtlcddhgfkkjhkaaBrute8
set_option maxRecDepth 100000
set_option linter.unusedSimpArgs false
set_option linter.unusedVariables false
namespace Go.Proofs.Ytlcddhgfkkjhkaa
open Go Go.Abs
open Go.Abs.Ren (R)

def O0I (H1 : AH) (hv : Value) (head : List Int) (y : Int) (k : Nat) (env : Env) (H' : AH) : Prop :=
  H' = H1 ∧ env 0 = some hv ∧ env 6 = some (.int .i64 y) ∧ env 8 = some (.int .i64 k) ∧ env 7 = some (.bool (decide (y ∈ head.take k)))
def O0Q (H1 : AH) (head : List Int) (y : Int) (e : AExit) (env : Env) (H' : AH) : Prop :=
  H' = H1 ∧ e = .exit 2 ∧ env 7 = some (.bool (decide (y ∈ head)))
theorem orders13_l0 {p : Nat → Prop} {H1 : AH} {hv : Value} {head : List Int} {y : Int} (hh : SlV p H1 hv head) {env : Env} (h : O0I H1 hv head y 0 env H1) : wpC Try.prog 52 (.loop ir_ref13_orders_l0) (O0Q H1 head y) env H1 := by
  refine loop_upto head.length (O0I H1 hv head y) (Q := O0Q H1 head y) h ?_
  rintro k env H' hk ⟨rfl, e0, e6, e8, e7⟩
  have hmax := hh.max
  by_cases hkn : k < head.length
  · obtain ⟨b0, off, sp, cap, cs, hcv, q1, q2⟩ := ints_rd hh (by omega)
    obtain ⟨q3, q4⟩ := q2 k hkn
    subst hcv
    have ht : (y ∈ head.take (k + 1)) ↔ (y ∈ head.take k ∨ head[k] = y) := by
      rw [List.take_succ_eq_append_getElem hkn, List.mem_append]
      simp [eq_comm]
    generalize head[k] = z at *
    by_cases hm : y ∈ head.take k
    · have ht' : y ∈ head.take (k + 1) := ht.2 (.inl hm)
      simp (disch := omega) [-getElem?_pos, if_pos, if_neg, decide_eq_true, decide_eq_false, ir_ref13_orders_l0, e0, e6, e8, e7, q1, q3, hm, IntWalk.i64_in]
      exact ⟨hkn, rfl, by simp [e0], by simp [e6], by simp, by simp [ht']⟩
    · by_cases hz : z = y
      · have ht' : y ∈ head.take (k + 1) := ht.2 (.inr hz)
        simp (disch := omega) [-getElem?_pos, if_pos, if_neg, decide_eq_true, decide_eq_false, ir_ref13_orders_l0, e0, e6, e8, e7, q1, q3, hm, hz, IntWalk.i64_in]
        exact ⟨hkn, rfl, by simp [e0], by simp [e6], by simp, by simp [ht']⟩
      · have ht' : ¬ y ∈ head.take (k + 1) := fun h => by rcases ht.1 h with h | h; exact hm h; exact hz h
        simp (disch := omega) [-getElem?_pos, if_pos, if_neg, decide_eq_true, decide_eq_false, ir_ref13_orders_l0, e0, e6, e8, e7, q1, q3, hm, hz, IntWalk.i64_in]
        exact ⟨hkn, rfl, by simp [e0], by simp [e6], by simp, by simp [ht']⟩
  · obtain rfl : k = head.length := by omega
    obtain ⟨a, c, rfl⟩ := hh.slice
    simp (disch := omega) [-getElem?_pos, if_pos, if_neg, decide_eq_true, decide_eq_false, ir_ref13_orders_l0, e0, e8]
    rw [List.take_length] at e7
    exact ⟨rfl, rfl, e7⟩

/-- The numbers that are not yet there. -/
def leftL (n : Nat) (head : List Int) : List Int := (restL 0 n).filter fun y => decide (y ∉ head)
theorem leftL_nodup {n : Nat} {head : List Int} : (leftL n head).Nodup := List.Nodup.sublist List.filter_sublist restL_nodup
theorem leftL_snoc {n : Nat} {head : List Int} {y : Int} : leftL n (head ++ [y]) = (leftL n head).filter (· != y) := by
  unfold leftL
  rw [List.filter_filter]
  congr 1
  funext z
  by_cases h1 : z ∈ head <;> by_cases h2 : z = y <;> simp [h1, h2]
theorem leftL_len {n f k : Nat} {head : List Int} (h : (leftL n head).length = f + 1) (hk : k < n) (hm : (k : Int) ∉ head) : (leftL n (head ++ [(k : Int)])).length = f := by
  have hin : (k : Int) ∈ leftL n head := by
    unfold leftL
    rw [List.mem_filter]
    refine ⟨?_, by simpa using hm⟩
    unfold restL
    rw [List.mem_map]
    exact ⟨k, by simpa using hk, by simp⟩
  obtain ⟨i, hi, e⟩ := List.getElem_of_mem hin
  rw [leftL_snoc, ← e, filter_ne hi leftL_nodup, List.length_eraseIdx_of_lt hi, h]
  rfl
theorem own_ints {p q : Nat → Prop} {H : AH} {ty : Nat} {v : Value} {l : List Int} {S : List Nat} (h : OwnL p H ty v l S) (hq : ∀ b ∈ S, ¬ q b) : OwnL q H ty v l S := by
  obtain ⟨cells, h1, h2, h3⟩ := h
  exact ⟨cells, h1, fun i hi => h2 i hi, hq⟩
def OrdPost (p0 : Nat → Prop) (H : AH) (M : List (List Int)) (u : Value) (H' : AH) : Prop :=
  ∃ S, OwnL (fun b => (p0 b ∨ H.next ≤ b) ∧ b < H'.next ∧ b ∉ S) H' T_Lint u M S ∧ Keep [] H H' ∧ ∀ b ∈ S, H.next ≤ b
def O1I (H : AH) (hv : Value) (n : Nat) (g : Int → List (List Int)) (head : List Int) (F : Nat) (k : Nat) (env : Env) (H' : AH) : Prop :=
  env 0 = some hv ∧ env 1 = some (.int .i64 n) ∧ env 6 = some (.int .i64 k) ∧ WF H' ∧ Keep [] H H' ∧ ∃ v M S, env 5 = some v ∧ OwnL (fun b => H.next ≤ b ∧ b < H'.next ∧ b ∉ S) H' T_Lint v M S ∧ (∀ b ∈ S, H.next ≤ b) ∧ M.length ≤ k * F ∧
    M = (((restL 0 n).take k).filter fun y => decide (y ∉ head)).flatMap g

theorem orders13_spec : ∀ (f : Nat), f < 10 → ∀ {p0 : Nat → Prop} {H : AH} {v : Value} {head : List Int} {n : Nat}, (∀ b, p0 b → b < H.next) → SlV p0 H v head → (leftL n head).length = f → head.length + f = n → n ≤ 100 → AFn Try.prog F_ref13_orders [v, .int .i64 n] H (OrdPost p0 H (ordersL f head (leftL n head))) := by
  intro f
  induction f with
  | zero =>
    intro hf p0 H v head n hp hv hlen hn hn100
    obtain ⟨va, vc, rfl⟩ := hv.slice
    refine AFn.enter mixed ir_ref13_orders_eq (by simp [ir_ref13_orders]) fun hw => ?_
    have hl : head.length = n := by omega
    simp (disch := omega) [-getElem?_pos, if_pos, if_neg, decide_eq_true, decide_eq_false, ir_ref13_orders, hl]
    rw [← hl]
    show OrdPost p0 H [head] _ _
    refine ⟨[H.next], ⟨[.slice va head.length vc], .inr ⟨H.next, 0, none, 1, _, rfl, rfl, AH.alloc_blk_new, by simp, by simp, by simp, .inl rfl⟩, fun i hi => ?_, fun b hb h => h.2.2 hb⟩, .alloc, by simp⟩
    obtain rfl : i = 0 := by simpa using hi
    exact ⟨_, rfl, hv.up (fun b hb => ⟨.inl hb, by have := hp b hb; simp; omega, by have := hp b hb; simp; omega⟩) (.kept hw .alloc)⟩
  | succ f ih =>
    intro hf p0 H v head n hp hv hlen hn hn100
    obtain ⟨va, vc, rfl⟩ := hv.slice
    refine AFn.enter mixed ir_ref13_orders_eq (by simp [ir_ref13_orders]) fun hw => ?_
    have hl : ¬ head.length = n := by omega
    have hFl := fac_le (show f < 10 by omega)
    simp (disch := omega) [-getElem?_pos, if_pos, if_neg, decide_eq_true, decide_eq_false, ir_ref13_orders, hl]
    have hsp : ordersL (f + 1) head (leftL n head) = (leftL n head).flatMap fun y => ordersL f (head ++ [y]) ((leftL n head).filter (· != y)) := rfl
    rw [hsp]
    generalize hg : (fun y => ordersL f (head ++ [y]) ((leftL n head).filter (· != y))) = g
    refine wpC_use (loop_upto n (O1I H (.slice va head.length vc) n g head (fac f)) (Q := fun e env H' => e = .exit 0 ∧ ∃ u, env 5 = some u ∧ OrdPost p0 H ((leftL n head).flatMap g) u H') ⟨by simp, by simp, by simp, hw, .refl, .slice none 0 0, [], [], by simp, .nil, by simp, by simp, by simp⟩ ?_) ?_
    · rintro k env H' hk ⟨e0, e1, e6, w', k', out, M, S, e5, hM, hS, hMl, hMe⟩
      have hn1 := k'.next
      have hMn := hM.lt w'
      by_cases hkn : k < n
      · have hv' : SlV p0 H' (.slice va head.length vc) head := hv.kept hw k'
        have hrest : (restL 0 n).take (k + 1) = (restL 0 n).take k ++ [(k : Int)] := by
          rw [List.take_succ_eq_append_getElem (by rw [restL_len]; omega)]
          simp [restL]
        simp (disch := omega) [-getElem?_pos, if_pos, if_neg, decide_eq_true, decide_eq_false, ir_ref13_orders_l1, e0, e1, e6, hkn]
        refine wpC_use (orders13_l0 hv' (y := (k : Int)) ⟨rfl, by simp [e0], by simp [e6], by simp, by simp⟩) ?_
        rintro e env2 H2 ⟨rfl, rfl, e7⟩ hu
        have u0 := hu 0 (by decide)
        have u1 := hu 1 (by decide)
        have u5 := hu 5 (by decide)
        have u6 := hu 6 (by decide)
        by_cases hm : (k : Int) ∈ head
        · simp (disch := omega) [-getElem?_pos, if_pos, if_neg, decide_eq_true, decide_eq_false, e7, hm, u0, u1, u5, u6, e0, e1, e5, e6, IntWalk.i64_in]
          refine ⟨hkn, by simp [u0, e0], by simp [u1, e1], by simp, w', k', out, M, S, by simp [u5, e5], hM, hS, ?_, ?_⟩
          · rw [Nat.succ_mul]; omega
          · rw [hMe, hrest, List.filter_append, List.filter_cons, if_neg (by simpa using hm), List.filter_nil, List.append_nil]
        · obtain ⟨cells, a1, c1, H3, S3, pe, pa, hA3, k3, w3, i3⟩ := (OwnL.nil (p := fun _ => False) (H := H2) (ty := T_int) (α := Int)).pushAll w' hv' 8 (fun _ h => h.elim) (fun b hb => by have := hp b hb; omega) (by simp) (by simp; omega) (by simp; omega)
          simp only [sz_int, List.length_nil, Nat.zero_add, List.nil_append] at pe pa hA3
          have hS3 : ∀ b ∈ S3, H2.next ≤ b := fun b hb => by
            rcases i3 b hb with h | h
            · simp at h
            · exact h
          have k3' : Keep [] H2 H3 := k3
          obtain ⟨a4, c4, H4, S4, p4, w4, hA4, k4, hS4, _, i4⟩ := push_int w3 (own_ints (q := fun _ => False) hA3 (by simp)) k3' hS3 (a := (k : Int)) (by unfold I64; omega) (by omega)
          have pE : elemsA (H3.alloc (.row [.int .i64 (k : Int)] T_int true)) 1 (.slice (some ⟨H3.next, 0, none⟩) 1 1) = some [.int .i64 (k : Int)] := elems_one rfl
          have n3 := k3'.next
          have n4 := k4.next
          have hA4n := hA4.lt w4
          simp (disch := omega) [-getElem?_pos, if_pos, if_neg, decide_eq_true, decide_eq_false, e7, hm, u0, u1, u5, u6, e0, e1, e5, e6, pe, pa, pE, p4, IntWalk.i64_in]
          have hlen' := leftL_len (f := f) (by rw [hlen]) hkn hm
          have hsl : SlV (fun b => b ∈ S4) H4 (.slice a4 (head.length + 1) c4) (head ++ [(k : Int)]) := hA4.slv (fun _ h => h.elim) (fun b hb => hb) (by simp; omega)
          refine (ih (by omega) (p0 := fun b => b ∈ S4) (H := H4) (head := head ++ [(k : Int)]) (n := n) (fun b hb => hA4n b hb) hsl hlen' (by simp; omega) hn100).mono' fun u H5 w5 ⟨S5, hA5, k5, hS5⟩ => ?_
          have hM2 : ordersL f (head ++ [(k : Int)]) (leftL n (head ++ [(k : Int)])) = g k := by rw [← hg, leftL_snoc]
          have hM2l : (g k).length = fac f := by rw [← hM2, orders_eq f hlen' leftL_nodup]; simp
          rw [hM2] at hA5
          obtain ⟨a5, c5, rfl⟩ := hA5.slice
          have n5 := k5.next
          have hA5n := hA5.lt w5
          have hM5 := hM.kept w' (k4.trans' k5)
          have hq5 : SlV (fun b => H.next ≤ b ∧ b < H5.next ∧ b ∉ S) H5 (.slice a5 (g k).length c5) (g k) := hA5.slv (fun b h => by
              have h4 : H2.next ≤ b := by
                rcases h.1 with h | h
                · exact hS4 b h
                · omega
              exact ⟨by omega, h.2.1, fun hs => by have := hMn b hs; omega⟩) (fun b hb => by
              have := hS5 b hb
              exact ⟨by omega, hA5n b hb, fun hs => by have := hMn b hs; omega⟩) (by omega)
          have hkF : (k + 1) * fac f = k * fac f + fac f := Nat.succ_mul _ _
          have hkF2 : k * fac f ≤ 100 * 362880 := Nat.mul_le_mul (by omega) hFl
          obtain ⟨cells6, a6, c6, H6, S6, pe6, pa6, hA6, k6, w6, i6⟩ := hM5.pushAll w5 hq5 24 (fun b h => ⟨h.1, by have := h.2.1; omega, h.2.2⟩) (fun b h => h.2.1) (fun b hb h => h.2.2 hb) (by omega) (by omega)
          simp only [sz_list] at pe6 pa6
          have n6 := k6.next
          have hA6n := hA6.lt w6
          simp (disch := omega) [-getElem?_pos, if_pos, if_neg, decide_eq_true, decide_eq_false, u0, u1, u5, u6, e0, e1, e5, e6, pe6, pa6, IntWalk.i64_in]
          refine ⟨hkn, by simp [u0, e0], by simp [u1, e1], by simp, w6, ((k'.trans' k4).trans' k5).trans k6 (fun b hb hlt => by have := hS b hb; omega), .slice a6 (M.length + (g k).length) c6, M ++ g k, S6, by simp, ?_, fun b hb => ?_, by rw [List.length_append]; omega, ?_⟩
          · refine hA6.up (fun b h => ⟨h.1, by have := h.2.1; omega, fun hs => ?_⟩) .refl (fun _ _ => rfl) (fun b hb h => h.2.2 hb)
            rcases i6 b hs with g1 | g1
            · exact h.2.2 g1
            · have := h.2.1; omega
          · rcases i6 b hb with g1 | g1
            · exact hS b g1
            · omega
          · rw [hMe, hrest, List.filter_append, List.flatMap_append]
            congr 1
            rw [List.filter_cons, if_pos (by simpa using hm)]
            simp
      · obtain rfl : k = n := by omega
        simp (disch := omega) [-getElem?_pos, if_pos, if_neg, decide_eq_true, decide_eq_false, ir_ref13_orders_l1, e1, e6]
        show ∃ u, env 5 = some u ∧ OrdPost p0 H ((leftL k head).flatMap g) u H'
        refine ⟨out, e5, ?_⟩
        rw [List.take_of_length_le (by rw [restL_len]; omega)] at hMe
        rw [show leftL k head = (restL 0 k).filter fun y => decide (y ∉ head) from rfl, ← hMe]
        exact ⟨S, hM.up (fun b h => ⟨.inr h.1, h.2⟩) .refl (fun _ _ => rfl) (fun b hb h => h.2.2 hb), k', hS⟩
    · rintro e env2 H' ⟨rfl, u, e5, hP⟩ hu
      obtain ⟨S, hA, _⟩ := id hP
      have hc := hA.cell
      simp (disch := omega) [-getElem?_pos, if_pos, if_neg, decide_eq_true, decide_eq_false, e5, hc]
      exact hP
end Go.Proofs.Ytlcddhgfkkjhkaa
