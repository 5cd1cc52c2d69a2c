/-
  IheapSorts: popped from either end, two heaps tell a list in order.
-/
import Derived.Test.YtjcncbejnplakaaTwin
set_option maxRecDepth 100000
set_option linter.unusedSimpArgs false
set_option linter.unusedVariables false
namespace Go.Proofs.Ytjcncbejnplakaa
open Go Go.Abs

theorem bools_at {p : Nat → Prop} {H : AH} {v : Value} {E : List Bool} (h : Vw p H 1 v E.length (E.map Value.bool)) (h0 : 0 < E.length) :
    ∃ b off sp cap cs, v = .slice (some ⟨b, off, sp⟩) E.length cap ∧ H.cells b = some cs ∧ ∀ k, k < E.length → cs[off + k]? = some (.bool (E.getD k false)) := by
  obtain ⟨b, off, sp, cap, cs, h1, h2, h3, h4, h5, h6, h7⟩ := h.at h0
  refine ⟨b, off, sp, cap, cs, h1, h4, fun k hk => ?_⟩
  rw [h6 k (by omega), List.getElem?_map, List.getD_eq_getElem?_getD, List.getElem?_eq_getElem hk]
  rfl

/-- A list without its first, or its last, one. -/
theorem EntsV.tail {p : Nat → Prop} {H : AH} {M : List Ent} {b off off' cap : Nat} {sp sp' : Option Nat} (h : EntsV p H (.slice (some ⟨b, off, sp⟩) M.length cap) M) (h0 : 0 < M.length) (ho : M.length = 1 ∨ off' = off + 4) (hs : sp' = none ∨ sp' = some 4) : EntsV p H (.slice (some ⟨b, off', sp'⟩) (M.length - 1) (cap - 1)) (restE M false) := by
  have := Vw.rest h.1 h0 ho hs
  have hr : restE M false = M.tail := rfl
  rw [hr]
  refine ⟨?_, by rw [List.length_tail]; have := h.2; omega⟩
  rw [cellsE_tail, List.length_tail]
  exact this
theorem EntsV.init {p : Nat → Prop} {H : AH} {M : List Ent} {b off cap : Nat} {sp : Option Nat} (h : EntsV p H (.slice (some ⟨b, off, sp⟩) M.length cap) M) (h0 : 0 < M.length) (hc : M.length ≤ cap) : EntsV p H (.slice (some ⟨b, off, sp⟩) (M.length - 1) cap) (restE M true) := by
  have := Vw.first h.1 (k := M.length - 1) (by omega) cap (by omega)
  rw [cellsE_take] at this
  have hr : restE M true = M.take (M.length - 1) := by unfold restE; rw [if_pos rfl, List.dropLast_eq_take]
  rw [hr]
  refine ⟨?_, by rw [List.length_take]; have := h.2; omega⟩
  rw [show (M.take (M.length - 1)).length = M.length - 1 by rw [List.length_take]; omega]
  exact this
theorem rest_length (M : List Ent) (last : Bool) : (restE M last).length = M.length - 1 := by
  unfold restE; cases last <;> simp

def SoP (H0 : AH) (q1 q2 : Nat) (L1 : List Ent) (av : Value) (A : List Ent) (k : Nat) (env : Env) (H' : AH) : Prop :=
  env 7 = some (.pointer (some ⟨q2, 0, none⟩)) ∧ env 37 = some av ∧ env 38 = some (.int .i64 A.length) ∧ env 39 = some (.int .i64 k) ∧ ∃ G, Tw T_iheap_Heap H0 (fun _ => False) H' q2 G q1 L1 av A ∧ StL G ∧ G.length = k ∧ sortL Ent.lt G = sortL Ent.lt (A.take k)
def SoPQ (H0 : AH) (q1 q2 : Nat) (L1 : List Ent) (av : Value) (A : List Ent) (e : AExit) (env : Env) (H' : AH) : Prop :=
  e = .exit 0 ∧ ∃ G, Tw T_iheap_Heap H0 (fun _ => False) H' q2 G q1 L1 av A ∧ StL G ∧ sortL Ent.lt G = sortL Ent.lt A

theorem sorts_l1 {H0 H : AH} {q1 q2 : Nat} {L1 A : List Ent} {av : Value} (hA : A.length ≤ 1000) {env : Env} (h : SoP H0 q1 q2 L1 av A 0 env H) : wpC Try.prog 140 (.loop ir_law06_IheapSorts_l1) (SoPQ H0 q1 q2 L1 av A) env H := by
  have hcx : ∀ y : Ent, cut [Value.int .i64 y.b, .int .i64 y.d, .int .i64 y.s, .int .i64 y.i] 0 4 = some [Value.int .i64 y.b, .int .i64 y.d, .int .i64 y.s, .int .i64 y.i] := fun _ => rfl
  refine loop_upto A.length (SoP H0 q1 q2 L1 av A) (Q := SoPQ H0 q1 q2 L1 av A) h ?_
  rintro k env H' hk ⟨e7, e37, e38, e39, G, hT, hG, hGl, hs⟩
  by_cases hkn : k < A.length
  · obtain ⟨b0, off, sp, cap, cs, rfl, q1, _, _, _, _, q2⟩ := hT.list_at (by omega)
    have q3 := q2 k hkn
    have hst := sort_take hkn
    generalize getE A k = x at *
    have hbn : (H'.alloc (.row [.int .i64 0, .int .i64 0, .int .i64 0, .int .i64 0] T_key_Entry true)).blk H'.next = some (.row [.int .i64 0, .int .i64 0, .int .i64 0, .int .i64 0] T_key_Entry true) := by simp
    have hk2 : Keep [] H' (H'.alloc (.row [.int .i64 x.b, .int .i64 x.d, .int .i64 x.s, .int .i64 x.i] T_key_Entry true)) := .alloc
    have hT2 := (hT.kept hT.wf.alloc hk2).1
    simp only [Ent.cells] at q3
    simp (disch := omega) [-getElem?_pos, if_pos, if_neg, decide_eq_true, decide_eq_false, ir_law06_IheapSorts_l1, e7, e37, e38, e39, q1, q3, writeA_row hbn, over, hcx, IntWalk.i64_in, show (k:Int) < A.length by omega]
    refine (hT2.push x (by omega)).mono' fun u H5 w5 ⟨hT5, _⟩ => ?_
    simp (disch := omega) [-getElem?_pos, if_pos, if_neg, decide_eq_true, decide_eq_false, e39, IntWalk.i64_in]
    exact ⟨hkn, by simp [e7], by simp [e37], by simp [e38], by simp, _, hT5, pushL_st hG x, by rw [riseL_len2]; omega, by rw [hst, ← hs, push_sort]⟩
  · obtain rfl : k = A.length := by omega
    rw [List.take_of_length_le (Nat.le_refl _)] at hs
    simp (disch := omega) [-getElem?_pos, if_pos, if_neg, decide_eq_true, decide_eq_false, ir_law06_IheapSorts_l1, e38, e39]
    exact ⟨rfl, G, hT, hG, hs⟩

def SoI (H0 : AH) (ev : Value) (q1 q2 n : Nat) (k : Nat) (env : Env) (H' : AH) : Prop :=
  env 1 = some ev ∧ env 6 = some (.pointer (some ⟨q1, 0, none⟩)) ∧ env 7 = some (.pointer (some ⟨q2, 0, none⟩)) ∧ env 50 = some (.int .i64 n) ∧ env 51 = some (.int .i64 k) ∧ ∃ L1 L2 mv, env 10 = some mv ∧ Tw T_iheap_Heap H0 (fun _ => False) H' q1 L1 q2 L2 mv (sortL Ent.lt L1) ∧ StL L1 ∧ StL L2 ∧ sortL Ent.lt L1 = sortL Ent.lt L2 ∧ L1.length = n - k
def SoQ (H0 : AH) (q1 q2 : Nat) (e : AExit) (env : Env) (H' : AH) : Prop :=
  e = .exit 2 ∧ env 6 = some (.pointer (some ⟨q1, 0, none⟩)) ∧ env 7 = some (.pointer (some ⟨q2, 0, none⟩)) ∧ ∃ L1 L2 mv, Tw T_iheap_Heap H0 (fun _ => False) H' q1 L1 q2 L2 mv [] ∧ L1.length = 0 ∧ L2.length = 0
theorem endE_is {M : List Ent} (h : 0 < M.length) (last : Bool) : endE M last = some (getE M (if last then M.length - 1 else 0)) := by
  unfold endE getE
  cases last with
  | true => simp [List.getLast?_eq_getElem?, List.getElem?_eq_getElem (show M.length - 1 < M.length by omega)]
  | false => simp [List.head?_eq_getElem?, List.getElem?_eq_getElem h]
theorem set_self {H : AH} {b : Nat} {B : Blk} (h : H.blk b = some B) : H.set b B = H := by
  have : (fun i => if i = b then some B else H.blk i) = H.blk := by
    funext i
    by_cases hi : i = b
    · rw [if_pos hi, hi, h]
    · rw [if_neg hi]
  unfold AH.set
  rw [this]

theorem sorts_l0 {H0 H : AH} (hw : WF H0) {ev : Value} {q1 q2 n : Nat} {E : List Bool} (hE : Vw (fun _ => True) H0 1 ev E.length (E.map Value.bool)) (hn : n ≤ 1000) {env : Env} (h : SoI H0 ev q1 q2 n 0 env H) : wpC Try.prog 140 (.loop ir_law06_IheapSorts_l0) (SoQ H0 q1 q2) env H := by
  have hcx : ∀ y : Ent, cut [Value.int .i64 y.b, .int .i64 y.d, .int .i64 y.s, .int .i64 y.i] 0 4 = some [Value.int .i64 y.b, .int .i64 y.d, .int .i64 y.s, .int .i64 y.i] := fun _ => rfl
  refine loop_upto n (SoI H0 ev q1 q2 n) (Q := SoQ H0 q1 q2) h ?_
  rintro k env H' hk ⟨e1, e6, e7, e50, e51, L1, L2, mv, e10, hT, hL1, hL2, hs, hl⟩
  have hMl := sort_length L1
  have hMl2 := sort_length L2
  rw [← hs] at hMl2
  by_cases hkn : k < n
  · have hT3 := hT.rows zeroB zeroB zeroB
    have hbn : (((H'.alloc zeroB).alloc zeroB).alloc zeroB).blk (H'.next + 1 + 1) = some zeroB := by simp
    have hset : (((H'.alloc zeroB).alloc zeroB).alloc zeroB).set (H'.next + 1 + 1) zeroB = ((H'.alloc zeroB).alloc zeroB).alloc zeroB := set_self hbn
    have hE' := hE.kept hw hT.keeps
    obtain ⟨ea, ec, rfl⟩ := hE.slice
    rcases Nat.lt_or_ge k E.length with hke | hke
    · obtain ⟨eb, eoff, esp, ecap, ecs, hsl, r1, r2⟩ := bools_at hE' (by omega)
      cases hsl
      have r3 := r2 k hke
      cases hlast : E.getD k false with
      | true =>
        rw [hlast] at r3
        simp (disch := omega) [-getElem?_pos, if_pos, if_neg, decide_eq_true, decide_eq_false, ir_law06_IheapSorts_l0, e1, e6, e7, e50, e51, r1, r3, IntWalk.i64_in, show (k:Int) < (n:Int) by omega, show (k:Int) < (E.length:Int) by omega, writeA_row hbn, hset, over, hcx]
        have hy := endE_is (M := sortL Ent.lt L1) (by omega) true
        have hR1 := rest_max hL1
        have hR2 := rest_max hL2
        have hy1 := end_max hL1
        have hy2 := end_max hL2
        rw [← hs] at hy2 hR2
        rw [if_pos rfl] at hy
        rw [hy] at hy1 hy2
        obtain ⟨m, hm⟩ : ∃ m, m = (sortL Ent.lt L1).length - 1 := ⟨_, rfl⟩
        rw [← hm] at hy hy1 hy2
        obtain ⟨y, hyy⟩ : ∃ y, y = getE (sortL Ent.lt L1) m := ⟨_, rfl⟩
        rw [← hyy] at hy hy1 hy2
        refine hT3.popMax.mono' fun u H5 w5 ⟨hu, hT5, r5⟩ => ?_
        subst hu
        rw [← hy1]
        have b05 : H5.blk H'.next = some zeroB := by rw [r5 _ (by omega)]; simp
        have b15 : H5.blk (H'.next + 1) = some zeroB := by rw [r5 _ (by omega)]; simp
        have b25 : H5.blk (H'.next + 1 + 1) = some zeroB := by rw [r5 _ (by omega)]; simp
        simp only [tellV]
        have hT5w := (hT5.write (x := H'.next) (cs := [.int .i64 y.b, .int .i64 y.d, .int .i64 y.s, .int .i64 y.i]) (t := T_key_Entry) (by omega)).swap
        simp (disch := omega) [-getElem?_pos, if_pos, if_neg, decide_eq_true, decide_eq_false, e6, e7, writeA_row b05, over, hcx]
        refine hT5w.popMax.mono' fun u H6 w6 ⟨hu, hT6, r6⟩ => ?_
        subst hu
        rw [← hy2]
        have b06 : H6.blk H'.next = some (.row [.int .i64 y.b, .int .i64 y.d, .int .i64 y.s, .int .i64 y.i] T_key_Entry true) := by rw [r6 _ (by omega)]; simp
        have b16 : H6.blk (H'.next + 1) = some zeroB := by rw [r6 _ (by omega), AH.set_blk_ne (by omega)]; exact b15
        have b26 : H6.blk (H'.next + 1 + 1) = some zeroB := by rw [r6 _ (by omega), AH.set_blk_ne (by omega)]; exact b25
        have hT7 := (hT6.write (x := H'.next + 1) (cs := [.int .i64 y.b, .int .i64 y.d, .int .i64 y.s, .int .i64 y.i]) (t := T_key_Entry) (by omega)).swap
        have b27 : (H6.set (H'.next + 1) (.row [.int .i64 y.b, .int .i64 y.d, .int .i64 y.s, .int .i64 y.i] T_key_Entry true)).blk (H'.next + 1 + 1) = some zeroB := by rw [AH.set_blk_ne (by omega)]; exact b26
        obtain ⟨b0, off, sp, cap, cs, hmv, q1', q2', q3', q4', q5', q6'⟩ := hT7.list_at (by omega)
        subst hmv
        have q7' := q6' m (by omega)
        have hT8 := hT7.part (mv' := .slice (some ⟨b0, off, sp⟩) ((sortL Ent.lt L1).length - 1) cap) (M' := restE (sortL Ent.lt L1) true) fun P hP => hP.init (by omega) q3'
        rw [hR1, ← hm] at hT8
        have hlm : ((sortL Ent.lt L1).length : Int) - 1 = (m : Int) := by omega
        rw [← hyy] at q7'
        simp only [Ent.cells] at q7'
        have hne : b0 ≠ H'.next + 1 + 1 := fun hc => q4' ⟨by omega, by omega⟩
        simp only [tellV]
        have f1 := pop_length (L := L1) (by omega) 1
        have f2 := pop_length (L := L2) (by omega) 1
        have c07 : (H6.set (H'.next + 1) (.row [.int .i64 y.b, .int .i64 y.d, .int .i64 y.s, .int .i64 y.i] T_key_Entry true)).cells H'.next = some [.int .i64 y.b, .int .i64 y.d, .int .i64 y.s, .int .i64 y.i] := by rw [AH.cells_set_ne (by omega)]; exact AH.cells_of b06
        rcases q2' with rfl | rfl
        all_goals
          simp (disch := omega) [-getElem?_pos, if_pos, if_neg, decide_eq_true, decide_eq_false, e6, e7, e10, writeA_row b16, writeA_row b27, over, hcx, hlm, q1', q7', c07, eqE_key, e50, e51, IntWalk.i64_in]
          have hT9 := (hT8.write (x := H'.next + 1 + 1) (cs := [.int .i64 y.b, .int .i64 y.d, .int .i64 y.s, .int .i64 y.i]) (t := T_key_Entry) (by omega)).free
          exact ⟨hkn, by simp [e1], by simp [e6], by simp [e7], by simp [e50], by simp, _, _, _, by simp, hT9, pop_st1 hL1, pop_st1 hL2, by rw [← hR1, ← hR2], by omega⟩
      | false =>
        rw [hlast] at r3
        simp (disch := omega) [-getElem?_pos, if_pos, if_neg, decide_eq_true, decide_eq_false, ir_law06_IheapSorts_l0, e1, e6, e7, e50, e51, r1, r3, IntWalk.i64_in, show (k:Int) < (n:Int) by omega, show (k:Int) < (E.length:Int) by omega, writeA_row hbn, hset, over, hcx]
        have hy := endE_is (M := sortL Ent.lt L1) (by omega) false
        have hR1 := rest_min hL1
        have hR2 := rest_min hL2
        have hy1 := end_min hL1
        have hy2 := end_min hL2
        rw [← hs] at hy2 hR2
        rw [if_neg (by simp)] at hy
        rw [hy] at hy1 hy2
        obtain ⟨m, hm⟩ : ∃ m, m = (sortL Ent.lt L1).length - 1 := ⟨_, rfl⟩
        obtain ⟨y, hyy⟩ : ∃ y, y = getE (sortL Ent.lt L1) 0 := ⟨_, rfl⟩
        rw [← hyy] at hy hy1 hy2
        refine hT3.popMin.mono' fun u H5 w5 ⟨hu, hT5, r5⟩ => ?_
        subst hu
        rw [← hy1]
        have b05 : H5.blk H'.next = some zeroB := by rw [r5 _ (by omega)]; simp
        have b15 : H5.blk (H'.next + 1) = some zeroB := by rw [r5 _ (by omega)]; simp
        have b25 : H5.blk (H'.next + 1 + 1) = some zeroB := by rw [r5 _ (by omega)]; simp
        simp only [tellV]
        have hT5w := (hT5.write (x := H'.next) (cs := [.int .i64 y.b, .int .i64 y.d, .int .i64 y.s, .int .i64 y.i]) (t := T_key_Entry) (by omega)).swap
        simp (disch := omega) [-getElem?_pos, if_pos, if_neg, decide_eq_true, decide_eq_false, e6, e7, writeA_row b05, over, hcx]
        refine hT5w.popMin.mono' fun u H6 w6 ⟨hu, hT6, r6⟩ => ?_
        subst hu
        rw [← hy2]
        have b06 : H6.blk H'.next = some (.row [.int .i64 y.b, .int .i64 y.d, .int .i64 y.s, .int .i64 y.i] T_key_Entry true) := by rw [r6 _ (by omega)]; simp
        have b16 : H6.blk (H'.next + 1) = some zeroB := by rw [r6 _ (by omega), AH.set_blk_ne (by omega)]; exact b15
        have b26 : H6.blk (H'.next + 1 + 1) = some zeroB := by rw [r6 _ (by omega), AH.set_blk_ne (by omega)]; exact b25
        have hT7 := (hT6.write (x := H'.next + 1) (cs := [.int .i64 y.b, .int .i64 y.d, .int .i64 y.s, .int .i64 y.i]) (t := T_key_Entry) (by omega)).swap
        have b27 : (H6.set (H'.next + 1) (.row [.int .i64 y.b, .int .i64 y.d, .int .i64 y.s, .int .i64 y.i] T_key_Entry true)).blk (H'.next + 1 + 1) = some zeroB := by rw [AH.set_blk_ne (by omega)]; exact b26
        obtain ⟨b0, off, sp, cap, cs, hmv, q1', q2', q3', q4', q5', q6'⟩ := hT7.list_at (by omega)
        subst hmv
        have q7' := q6' 0 (by omega)
        have hT8 : ∀ off' sp', ((sortL Ent.lt L1).length = 1 ∨ off' = off + 4) → (sp' = none ∨ sp' = some 4) → Tw T_iheap_Heap H0 (fun b => H'.next ≤ b ∧ b < H'.next + 3) (H6.set (H'.next + 1) (.row [.int .i64 y.b, .int .i64 y.d, .int .i64 y.s, .int .i64 y.i] T_key_Entry true)) q1 (popL 0 L1) q2 (popL 0 L2) (.slice (some ⟨b0, off', sp'⟩) ((sortL Ent.lt L1).length - 1) (cap - 1)) (sortL Ent.lt (popL 0 L1)) := fun off' sp' a1 a2 => by rw [← hR1]; exact hT7.part fun P hP => hP.tail (by omega) a1 a2
        simp only [Nat.zero_mul, Nat.add_zero] at q7'
        have hlm : ((sortL Ent.lt L1).length : Int) - 1 = (m : Int) := by omega
        rw [← hyy] at q7'
        simp only [Ent.cells] at q7'
        have hne : b0 ≠ H'.next + 1 + 1 := fun hc => q4' ⟨by omega, by omega⟩
        simp only [tellV]
        have f1 := pop_length (L := L1) (by omega) 0
        have f2 := pop_length (L := L2) (by omega) 0
        have c07 : (H6.set (H'.next + 1) (.row [.int .i64 y.b, .int .i64 y.d, .int .i64 y.s, .int .i64 y.i] T_key_Entry true)).cells H'.next = some [.int .i64 y.b, .int .i64 y.d, .int .i64 y.s, .int .i64 y.i] := by rw [AH.cells_set_ne (by omega)]; exact AH.cells_of b06
        rcases q2' with rfl | rfl
        · simp (disch := omega) [-getElem?_pos, if_pos, if_neg, decide_eq_true, decide_eq_false, e6, e7, e10, writeA_row b16, writeA_row b27, over, hcx, hlm, q1', q7', c07, eqE_key, e50, e51, IntWalk.i64_in]
          have hT9 := ((hT8 (if cap = 1 then off else off + 4) none (if hc : cap = 1 then .inl (by omega) else .inr (if_neg hc)) (by simp)).write (x := H'.next + 1 + 1) (cs := [.int .i64 y.b, .int .i64 y.d, .int .i64 y.s, .int .i64 y.i]) (t := T_key_Entry) (by omega)).free
          exact ⟨hkn, by simp [e1], by simp [e6], by simp [e7], by simp [e50], by simp, _, _, _, by simp, hT9, pop_st0 hL1, pop_st0 hL2, by rw [← hR1, ← hR2], by omega⟩
        · simp (disch := omega) [-getElem?_pos, if_pos, if_neg, decide_eq_true, decide_eq_false, e6, e7, e10, writeA_row b16, writeA_row b27, over, hcx, hlm, q1', q7', c07, eqE_key, e50, e51, IntWalk.i64_in]
          have hT9 := ((hT8 _ (some 4) (.inr rfl) (.inr rfl)).write (x := H'.next + 1 + 1) (cs := [.int .i64 y.b, .int .i64 y.d, .int .i64 y.s, .int .i64 y.i]) (t := T_key_Entry) (by omega)).free
          exact ⟨hkn, by simp [e1], by simp [e6], by simp [e7], by simp [e50], by simp, _, _, _, by simp, hT9, pop_st0 hL1, pop_st0 hL2, by rw [← hR1, ← hR2], by omega⟩
    · simp (disch := omega) [-getElem?_pos, if_pos, if_neg, decide_eq_true, decide_eq_false, ir_law06_IheapSorts_l0, e1, e6, e7, e50, e51, IntWalk.i64_in, show (k:Int) < (n:Int) by omega, show ¬ (k:Int) < (E.length:Int) by omega, writeA_row hbn, hset, over, hcx]
      have hy := endE_is (M := sortL Ent.lt L1) (by omega) false
      have hR1 := rest_min hL1
      have hR2 := rest_min hL2
      have hy1 := end_min hL1
      have hy2 := end_min hL2
      rw [← hs] at hy2 hR2
      rw [if_neg (by simp)] at hy
      rw [hy] at hy1 hy2
      obtain ⟨m, hm⟩ : ∃ m, m = (sortL Ent.lt L1).length - 1 := ⟨_, rfl⟩
      obtain ⟨y, hyy⟩ : ∃ y, y = getE (sortL Ent.lt L1) 0 := ⟨_, rfl⟩
      rw [← hyy] at hy hy1 hy2
      refine hT3.popMin.mono' fun u H5 w5 ⟨hu, hT5, r5⟩ => ?_
      subst hu
      rw [← hy1]
      have b05 : H5.blk H'.next = some zeroB := by rw [r5 _ (by omega)]; simp
      have b15 : H5.blk (H'.next + 1) = some zeroB := by rw [r5 _ (by omega)]; simp
      have b25 : H5.blk (H'.next + 1 + 1) = some zeroB := by rw [r5 _ (by omega)]; simp
      simp only [tellV]
      have hT5w := (hT5.write (x := H'.next) (cs := [.int .i64 y.b, .int .i64 y.d, .int .i64 y.s, .int .i64 y.i]) (t := T_key_Entry) (by omega)).swap
      simp (disch := omega) [-getElem?_pos, if_pos, if_neg, decide_eq_true, decide_eq_false, e6, e7, writeA_row b05, over, hcx]
      refine hT5w.popMin.mono' fun u H6 w6 ⟨hu, hT6, r6⟩ => ?_
      subst hu
      rw [← hy2]
      have b06 : H6.blk H'.next = some (.row [.int .i64 y.b, .int .i64 y.d, .int .i64 y.s, .int .i64 y.i] T_key_Entry true) := by rw [r6 _ (by omega)]; simp
      have b16 : H6.blk (H'.next + 1) = some zeroB := by rw [r6 _ (by omega), AH.set_blk_ne (by omega)]; exact b15
      have b26 : H6.blk (H'.next + 1 + 1) = some zeroB := by rw [r6 _ (by omega), AH.set_blk_ne (by omega)]; exact b25
      have hT7 := (hT6.write (x := H'.next + 1) (cs := [.int .i64 y.b, .int .i64 y.d, .int .i64 y.s, .int .i64 y.i]) (t := T_key_Entry) (by omega)).swap
      have b27 : (H6.set (H'.next + 1) (.row [.int .i64 y.b, .int .i64 y.d, .int .i64 y.s, .int .i64 y.i] T_key_Entry true)).blk (H'.next + 1 + 1) = some zeroB := by rw [AH.set_blk_ne (by omega)]; exact b26
      obtain ⟨b0, off, sp, cap, cs, hmv, q1', q2', q3', q4', q5', q6'⟩ := hT7.list_at (by omega)
      subst hmv
      have q7' := q6' 0 (by omega)
      have hT8 : ∀ off' sp', ((sortL Ent.lt L1).length = 1 ∨ off' = off + 4) → (sp' = none ∨ sp' = some 4) → Tw T_iheap_Heap H0 (fun b => H'.next ≤ b ∧ b < H'.next + 3) (H6.set (H'.next + 1) (.row [.int .i64 y.b, .int .i64 y.d, .int .i64 y.s, .int .i64 y.i] T_key_Entry true)) q1 (popL 0 L1) q2 (popL 0 L2) (.slice (some ⟨b0, off', sp'⟩) ((sortL Ent.lt L1).length - 1) (cap - 1)) (sortL Ent.lt (popL 0 L1)) := fun off' sp' a1 a2 => by rw [← hR1]; exact hT7.part fun P hP => hP.tail (by omega) a1 a2
      simp only [Nat.zero_mul, Nat.add_zero] at q7'
      have hlm : ((sortL Ent.lt L1).length : Int) - 1 = (m : Int) := by omega
      rw [← hyy] at q7'
      simp only [Ent.cells] at q7'
      have hne : b0 ≠ H'.next + 1 + 1 := fun hc => q4' ⟨by omega, by omega⟩
      simp only [tellV]
      have f1 := pop_length (L := L1) (by omega) 0
      have f2 := pop_length (L := L2) (by omega) 0
      have c07 : (H6.set (H'.next + 1) (.row [.int .i64 y.b, .int .i64 y.d, .int .i64 y.s, .int .i64 y.i] T_key_Entry true)).cells H'.next = some [.int .i64 y.b, .int .i64 y.d, .int .i64 y.s, .int .i64 y.i] := by rw [AH.cells_set_ne (by omega)]; exact AH.cells_of b06
      rcases q2' with rfl | rfl
      · simp (disch := omega) [-getElem?_pos, if_pos, if_neg, decide_eq_true, decide_eq_false, e6, e7, e10, writeA_row b16, writeA_row b27, over, hcx, hlm, q1', q7', c07, eqE_key, e50, e51, IntWalk.i64_in]
        have hT9 := ((hT8 (if cap = 1 then off else off + 4) none (if hc : cap = 1 then .inl (by omega) else .inr (if_neg hc)) (by simp)).write (x := H'.next + 1 + 1) (cs := [.int .i64 y.b, .int .i64 y.d, .int .i64 y.s, .int .i64 y.i]) (t := T_key_Entry) (by omega)).free
        exact ⟨hkn, by simp [e1], by simp [e6], by simp [e7], by simp [e50], by simp, _, _, _, by simp, hT9, pop_st0 hL1, pop_st0 hL2, by rw [← hR1, ← hR2], by omega⟩
      · simp (disch := omega) [-getElem?_pos, if_pos, if_neg, decide_eq_true, decide_eq_false, e6, e7, e10, writeA_row b16, writeA_row b27, over, hcx, hlm, q1', q7', c07, eqE_key, e50, e51, IntWalk.i64_in]
        have hT9 := ((hT8 _ (some 4) (.inr rfl) (.inr rfl)).write (x := H'.next + 1 + 1) (cs := [.int .i64 y.b, .int .i64 y.d, .int .i64 y.s, .int .i64 y.i]) (t := T_key_Entry) (by omega)).free
        exact ⟨hkn, by simp [e1], by simp [e6], by simp [e7], by simp [e50], by simp, _, _, _, by simp, hT9, pop_st0 hL1, pop_st0 hL2, by rw [← hR1, ← hR2], by omega⟩
  · obtain rfl : k = n := by omega
    have h0 : L1 = [] := List.length_eq_zero_iff.1 (by omega)
    simp (disch := omega) [-getElem?_pos, if_pos, if_neg, decide_eq_true, decide_eq_false, ir_law06_IheapSorts_l0, e50, e51]
    subst h0
    exact ⟨rfl, e6, e7, [], L2, mv, hT, rfl, by omega⟩
end Go.Proofs.Ytjcncbejnplakaa
