/-
  BruteFar: the walk.
-/
import Derived.Test.YtlcddhgfkkjhkaaBrute8
import Derived.Test.YtlcddhgfkkjhkaaOver
import Derived.Test.YtlcddhgfkkjhkaaTame
import Derived.Test.YtlcddhgfkkjhkaaWakes
set_option maxRecDepth 100000
set_option linter.unusedSimpArgs false
set_option linter.unusedVariables false
namespace Go.Proofs.Ytlcddhgfkkjhkaa
open Go Go.Abs

def Eq13I (H : AH) (v w : Value) (A B : List Int) (k : Nat) (env : Env) (H' : AH) : Prop :=
  env 0 = some v ∧ env 1 = some w ∧ env 12 = some (.int .i64 A.length) ∧ env 13 = some (.int .i64 k) ∧ H' = H ∧ A.take k = B.take k
theorem equal13_spec {p : Nat → Prop} {H : AH} {v w : Value} {A B : List Int} (hA : SlV p H v A) (hB : SlV p H w B) : AFn Try.prog F_law13_equal [v, w] H fun u H' => u = .bool (decide (A = B)) ∧ H' = H := by
  obtain ⟨va, vc, rfl⟩ := hA.slice
  obtain ⟨wa, wc, rfl⟩ := hB.slice
  have hAm := hA.max
  have hBm := hB.max
  refine AFn.enter mixed ir_law13_equal_eq (by simp [ir_law13_equal]) fun hw => ?_
  by_cases hl : A.length = B.length
  · simp (disch := omega) [-getElem?_pos, if_pos, if_neg, decide_eq_true, decide_eq_false, ir_law13_equal, hl]
    rw [← hl]
    refine loop_upto A.length (Eq13I H (.slice va A.length vc) (.slice wa B.length wc) A B) ⟨by simp <;> omega, by simp <;> omega, by simp <;> omega, by simp, rfl, by simp⟩ ?_
    rintro k env H' hk ⟨e0, e1, e12, e13, rfl, hy⟩
    by_cases hkn : k < A.length
    · obtain ⟨b, off, sp, cap, cs, ev, q1, q2⟩ := ints_rd hA (by omega)
      obtain ⟨q3, q4⟩ := q2 k hkn
      cases ev
      obtain ⟨b2, off2, sp2, cap2, cs2, ev, r1, r2⟩ := ints_rd hB (by omega)
      have hkn2 : k < B.length := by omega
      obtain ⟨r3, r4⟩ := r2 k hkn2
      cases ev
      have t1 := List.take_succ_eq_append_getElem hkn
      have t2 := List.take_succ_eq_append_getElem hkn2
      by_cases hx : A[k] = B[k]
      · have hy' : A.take (k + 1) = B.take (k + 1) := by rw [t1, t2, hy, hx]
        generalize A[k] = x at *
        generalize B[k] = z at *
        subst hx
        simp (disch := omega) [-getElem?_pos, if_pos, if_neg, decide_eq_true, decide_eq_false, ir_law13_equal_l0, e0, e1, e12, e13, q1, q3, r1, r3, hkn2, IntWalk.i64_in]
        exact ⟨hkn, by simp [e0], by simp [e1], by simp [e12], by simp, rfl, hy'⟩
      · have hne : A ≠ B := fun h => by subst h; exact hx rfl
        generalize A[k] = x at *
        generalize B[k] = z at *
        simp (disch := omega) [-getElem?_pos, if_pos, if_neg, decide_eq_true, decide_eq_false, ir_law13_equal_l0, e0, e1, e12, e13, q1, q3, r1, r3, hx, hkn2, hne, IntWalk.i64_in]
    · obtain rfl : k = A.length := by omega
      simp (disch := omega) [-getElem?_pos, if_pos, if_neg, decide_eq_true, decide_eq_false, ir_law13_equal_l0, e0, e1, e12, e13]
      rw [List.take_length, hl, List.take_length] at hy
      exact hy
  · simp (disch := omega) [-getElem?_pos, if_pos, if_neg, decide_eq_true, decide_eq_false, ir_law13_equal, hl]
    exact fun h => hl (by rw [h])

/-- Rows of zeros, while they are made. -/
def zrow (N k : Nat) : List (List Int) := List.replicate k (List.replicate N 0)
def FrI (H : AH) (q : Nat) (kd : Int) (N : Nat) (k : Nat) (env : Env) (H' : AH) : Prop :=
  env 5 = some (.pointer (some ⟨q, 0, none⟩)) ∧ env 23 = some (.int .i64 N) ∧ env 24 = some (.int .i64 k) ∧ WF H' ∧ q < H'.next ∧
    ∃ ca S, H'.blk q = some (.row (instC ⟨kd, 0, [], [], 0, []⟩ nilS ca nilS) T_inst_Inst true) ∧ OwnL (RB (q + 1) H' S) H' T_Lint64 ca (zrow N k) S ∧ ∀ b ∈ S, q < b
def FrQ (q : Nat) (kd : Int) (N : Nat) (e : AExit) (env : Env) (H' : AH) : Prop :=
  e = .exit 1 ∧ WF H' ∧ q < H'.next ∧ ∃ ca S, H'.blk q = some (.row (instC ⟨kd, 0, [], [], 0, []⟩ nilS ca nilS) T_inst_Inst true) ∧ OwnL (RB (q + 1) H' S) H' T_Lint64 ca (zrow N N) S ∧ ∀ b ∈ S, q < b
theorem far_l0 {H : AH} {q : Nat} {kd : Int} {N : Nat} (hN : 8 + kd = N) (hN2 : N ≤ 20) {env : Env} (h : FrI H q kd N 0 env H) :
    wpC Try.prog 107 (.loop ir_law13_BruteFar_l0) (FrQ q kd N) env H := by
  refine loop_upto N (FrI H q kd N) (Q := FrQ q kd N) h ?_
  rintro k env H' hk ⟨e5, e23, e24, w', hq, ca, S, hb, hA, hS⟩
  by_cases hkn : k < N
  · have c5 := AH.cells_of hb
    have hAn := hA.lt w'
    simp (disch := omega) [-getElem?_pos, if_pos, if_neg, decide_eq_true, decide_eq_false, ir_law13_BruteFar_l0, e5, e23, e24, c5, hN, IntWalk.i64_in]
    generalize hHb : AH.alloc H' _ = Hb
    have kb : Keep [] H' Hb := by rw [← hHb]; exact .alloc
    have wb : WF Hb := by rw [← hHb]; exact WF.alloc w'
    have nb : Hb.next = H'.next + 1 := by rw [← hHb]; simp
    have cb : Hb.cells H'.next = some (zeros [.int .i64 0] N) := by rw [← hHb]; exact AH.cells_alloc_new
    have hR0 : SlV (fun b => b = H'.next) Hb (.slice (some ⟨H'.next, 0, none⟩) N N) (List.replicate N (0 : Int)) := SlV.zeros (z := [.int .i64 0]) cb rfl ⟨rfl, by unfold I64; omega⟩ (by omega)
    clear hHb
    have hAc : OwnL (RB (q + 1) H' S) Hb T_Lint64 ca (zrow N k) S := hA.kept w' kb
    have hzl : (zrow N k).length = k := by simp [zrow]
    have pE : elemsA (Hb.alloc (.row [.slice (some ⟨H'.next, 0, none⟩) N N] T_Lint64 true)) 1 (.slice (some ⟨H'.next + 1, 0, none⟩) 1 1) = some [.slice (some ⟨H'.next, 0, none⟩) N N] := by rw [← nb]; exact elems_new rfl
    obtain ⟨va, vc, Hd, S', p1, hA', kd', wd, i1⟩ := hAc.push (q := fun b => RB (q + 1) H' S b ∨ b = H'.next) wb (cs := [.slice (some ⟨H'.next, 0, none⟩) N N]) (a := List.replicate N (0 : Int)) ⟨_, rfl, hR0.mono fun b hb => .inr hb⟩ T_Lint64 24 (fun _ h => .inl h) (fun b hb => by rcases hb with h | h; have := h.2.1; omega; omega)
      (fun b hb => by rintro (h | h); exact h.2.2 hb; have := hAn b hb; omega) (by omega) (by omega)
    have nd := kd'.next
    have hd : Hd.blk q = some (.row (instC ⟨kd, 0, [], [], 0, []⟩ nilS ca nilS) T_inst_Inst true) := by rw [kd'.blk q (by omega) (fun h => by have := hS q h; omega), kb.blk q hq (by simp)]; exact hb
    have w2 := writeA_row (off := 3) (news := [.slice va ((zrow N k).length + 1) vc]) hd
    simp only [over, List.take_succ_cons, List.take_zero, List.drop_succ_cons, List.drop_zero, List.length_cons, List.length_nil, List.cons_append, List.nil_append] at w2
    have hA'n := hA'.lt wd
    have hS' : ∀ b ∈ S', q < b := fun b hb => by
      rcases i1 b hb with h | h
      · exact hS b h
      · omega
    simp only [sz_list] at p1
    simp (disch := omega) [-getElem?_pos, if_pos, if_neg, decide_eq_true, decide_eq_false, pE, p1, w2, e5, e23, e24, IntWalk.i64_in]
    refine ⟨hkn, by simp [e5], by simp [e23], by simp, wd.set (by omega), by simp; omega, _, S', AH.set_blk_same, ?_, hS'⟩
    have hz1 : zrow N (k + 1) = zrow N k ++ [List.replicate N 0] := by unfold zrow; rw [List.replicate_succ']
    rw [hz1]
    refine hA'.up (fun b hb => ?_) (fun b hb cs hc => ?_) (fun b hb => AH.set_blk_ne (by have := hS' b hb; omega)) (fun b hb h => h.2.2 hb)
    · rcases hb with h | h
      · refine ⟨h.1, by have := h.2.1; simp; omega, fun hs => ?_⟩
        rcases i1 b hs with g | g
        · exact h.2.2 g
        · have := h.2.1; omega
      · refine ⟨by omega, by simp; omega, fun hs => ?_⟩
        rcases i1 b hs with g | g
        · have := hAn b g; omega
        · omega
    · have : b ≠ q := by
        rcases hb with h | h
        · have := h.1; omega
        · omega
      rw [AH.cells_set_ne this]; exact hc
  · obtain rfl : k = N := by omega
    simp (disch := omega) [-getElem?_pos, if_pos, if_neg, decide_eq_true, decide_eq_false, ir_law13_BruteFar_l0, e23, e24]
    exact ⟨rfl, w', hq, ca, S, hb, hA, hS⟩
end Go.Proofs.Ytlcddhgfkkjhkaa
