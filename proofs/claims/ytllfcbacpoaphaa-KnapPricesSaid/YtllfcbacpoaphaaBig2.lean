/-
  The document's big numbers (2): Add, Mul.
-/
import Derived.Test.YtllfcbacpoaphaaBig1
set_option maxRecDepth 100000
set_option linter.unusedSimpArgs false
set_option linter.unusedVariables false
namespace Go.Proofs.Ytllfcbacpoaphaa
open Go Go.Abs
def AdI (H : AH) (q2 q3 q4 : Nat) (A B : List Nat) (k : Nat) (env : Env) (H' : AH) : Prop :=
  env 2 = some (.pointer (some ⟨q2, 0, none⟩)) ∧ env 3 = some (.pointer (some ⟨q3, 0, none⟩)) ∧ env 4 = some (.pointer (some ⟨q4, 0, none⟩)) ∧ env 12 = some (.int .i64 k) ∧ WF H' ∧ Keep [] H H' ∧
  ∃ c ov S out, env 11 = some (uv c) ∧ c ≤ 1 ∧ env 10 = some ov ∧ OwnL (fun _ => False) H' T_uint64 ov out S ∧ (∀ b ∈ S, H.next ≤ b) ∧ out.length = k ∧ (∀ d ∈ out, d < 65536) ∧ bval out + 65536 ^ k * c = bval (A.take k) + bval (B.take k)
def AdQ (H : AH) (q2 q4 : Nat) (A B : List Nat) (e : AExit) (env : Env) (H' : AH) : Prop :=
  e = .exit 2 ∧ env 2 = some (.pointer (some ⟨q2, 0, none⟩)) ∧ env 4 = some (.pointer (some ⟨q4, 0, none⟩)) ∧ WF H' ∧ Keep [] H H' ∧ ∃ ov S out, env 10 = some ov ∧ OwnL (fun _ => False) H' T_uint64 ov out S ∧ (∀ b ∈ S, H.next ≤ b) ∧ (∀ d ∈ out, d < 65536) ∧ bval out = bval A + bval B ∧ out.length ≤ 10000
theorem add_l0 {H : AH} {q2 q3 q4 : Nat} {x y : Option Addr} {c d : Nat} {A B : List Nat} {n m : Nat} (hA : A.length = n) (hB : B.length = m) (hn : n ≤ 1000) (hm : m ≤ 1000) (hw : WF H) (c2 : H.cells q2 = some [.bool false, .slice x n c]) (c3 : H.cells q3 = some [.bool false, .slice y m d]) (vA : SlV (fun _ => True) H (.slice x n c) A) (vB : SlV (fun _ => True) H (.slice y m d) B)
    (dA : ∀ e ∈ A, e < 65536) (dB : ∀ e ∈ B, e < 65536) {env : Env} (h : AdI H q2 q3 q4 A B 0 env H) : wpC Try.prog 125 (.loop ir_ref01_Add_l0) (AdQ H q2 q4 A B) env H := by
  refine loop_upto (max n m + 1) (AdI H q2 q3 q4 A B) (Q := AdQ H q2 q4 A B) h ?_
  rintro k env H' hk ⟨e2, e3, e4, e12, w', k', cy, ov, S, out, e11, hc1, e10, hO, hS, hol, hod, hv⟩
  have c2' := cells_kept hw k' c2
  have c3' := cells_kept hw k' c3
  have vA' := vA.kept hw k'
  have vB' := vB.kept hw k'
  have hgt := uv_gtr (a := cy) (b := 0)
  by_cases hgo : k < n ∨ k < m ∨ 0 < cy
  · have hkN : k < max n m + 1 := by
      apply Classical.byContradiction
      intro hcon
      have hk2 : k = max n m + 1 := by omega
      have hcy : 0 < cy := by omega
      have b1 := bval_lt dA
      have b2 := bval_lt dB
      rw [hA] at b1
      rw [hB] at b2
      rw [List.take_of_length_le (by omega), List.take_of_length_le (by omega)] at hv
      have p1 : 65536 ^ n ≤ 65536 ^ (max n m) := Nat.pow_le_pow_right (by omega) (by omega)
      have p2 : 65536 ^ m ≤ 65536 ^ (max n m) := Nat.pow_le_pow_right (by omega) (by omega)
      rw [hk2, Nat.pow_succ] at hv
      generalize 65536 ^ (max n m) = P at *
      obtain rfl : cy = 1 := by omega
      omega
    have hxl : A.getD k 0 < 65536 := by
      by_cases h : k < n
      · rw [List.getD_eq_getElem?_getD, List.getElem?_eq_getElem (by omega)]; exact dA _ (List.getElem_mem _)
      · rw [List.getD_eq_getElem?_getD, List.getElem?_eq_none (by omega)]; decide
    have hyl : B.getD k 0 < 65536 := by
      by_cases h : k < m
      · rw [List.getD_eq_getElem?_getD, List.getElem?_eq_getElem (by omega)]; exact dB _ (List.getElem_mem _)
      · rw [List.getD_eq_getElem?_getD, List.getElem?_eq_none (by omega)]; decide
    have rA : k < n → ∃ b off sp cs, x = some ⟨b, off, sp⟩ ∧ H'.cells b = some cs ∧ cs[off + k]? = some (uv (A.getD k 0)) := fun h => by
      obtain ⟨b1, off1, sp1, cap1, cs1, hcv1, r1, r2⟩ := nats_rd vA' (by omega)
      injection hcv1 with i1 i2 i3
      have r3 := r2 k (by omega)
      exact ⟨b1, off1, sp1, cs1, i1, r1, by rw [r3, List.getD_eq_getElem?_getD, List.getElem?_eq_getElem (by omega)]; rfl⟩
    have rB : k < m → ∃ b off sp cs, y = some ⟨b, off, sp⟩ ∧ H'.cells b = some cs ∧ cs[off + k]? = some (uv (B.getD k 0)) := fun h => by
      obtain ⟨b1, off1, sp1, cap1, cs1, hcv1, r1, r2⟩ := nats_rd vB' (by omega)
      injection hcv1 with i1 i2 i3
      have r3 := r2 k (by omega)
      exact ⟨b1, off1, sp1, cs1, i1, r1, by rw [r3, List.getD_eq_getElem?_getD, List.getElem?_eq_getElem (by omega)]; rfl⟩
    have tA := bval_takeD A k
    have tB := bval_takeD B k
    have zA : ¬ k < n → A.getD k 0 = 0 := fun h => by rw [List.getD_eq_getElem?_getD, List.getElem?_eq_none (by omega)]; rfl
    have zB : ¬ k < m → B.getD k 0 = 0 := fun h => by rw [List.getD_eq_getElem?_getD, List.getElem?_eq_none (by omega)]; rfl
    generalize hxx : A.getD k 0 = xd at *
    generalize hyy : B.getD k 0 = yd at *
    obtain ⟨s, hs⟩ : ∃ s, s = cy + xd + yd := ⟨_, rfl⟩
    have hround := add_round (P := 65536 ^ k) hs hv
    have hrem := u_rem s (by omega)
    have hquo := u_quo s (by omega)
    have hd1 : s % 65536 < 65536 := Nat.mod_lt _ (by omega)
    have hc2 : s / 65536 ≤ 1 := by omega
    obtain ⟨va, vc, H2, S', p1, w2, hO', k2, hS', _⟩ := push_u64 w' hO k' hS (a := s % 65536) (by omega) (by omega)
    obtain ⟨oa, oc, rfl⟩ := hO.slice
    rw [hol] at p1 hO' e10
    have hsum1 : abin .add (uv cy) (uv xd) = some (uv (cy + xd)) := uv_add (by omega)
    have hsum2 : abin .add (uv (cy + xd)) (uv yd) = some (uv s) := by rw [uv_add (by omega), hs]
    have hsum3 : abin .add (uv cy) (uv yd) = some (uv (cy + yd)) := uv_add (by omega)
    have fin : ∀ env2 : Env, env2 2 = some (.pointer (some ⟨q2, 0, none⟩)) → env2 3 = some (.pointer (some ⟨q3, 0, none⟩)) → env2 4 = some (.pointer (some ⟨q4, 0, none⟩)) → env2 12 = some (.int .i64 ((k : Int) + 1)) → env2 11 = some (uv (s / 65536)) → env2 10 = some (.slice va (k + 1) vc) → AdI H q2 q3 q4 A B (k + 1) env2 H2 :=
      fun env2 f2 f3 f4 f12 f11 f10 => ⟨f2, f3, f4, by rw [f12]; simp, w2, k2, _, _, S', _, f11, hc2, f10, hO', hS', by simp [hol], fun d hd => by
        rcases List.mem_append.1 hd with hd | hd
        · exact hod d hd
        · simp at hd; omega, by rw [bval_snoc, hol, tA, tB, Nat.pow_succ]; exact hround⟩
    clear hround tA tB hv
    generalize s % 65536 = r at *
    generalize s / 65536 = c' at *
    have pE : elemsA (H'.alloc (.row [uv r] T_uint64 true)) 1 (.slice (some ⟨H'.next, 0, none⟩) 1 1) = some [uv r] := elems_one rfl
    by_cases ha : k < n
    · obtain ⟨b1, off1, sp1, cs1, rfl, r1, r3⟩ := rA ha
      by_cases hb : k < m
      · obtain ⟨b2, off2, sp2, cs2, rfl, t1, t3⟩ := rB hb
        generalize cy + xd = cx at *
        simp (disch := omega) [-getElem?_pos, if_pos, if_neg, decide_eq_true, decide_eq_false, ir_ref01_Add_l0, e2, e3, e4, e10, e11, e12, c2', c3', ha, hb, r1, r3, t1, t3, ↓hsum1, ↓hsum2, ↓hrem, ↓hquo, pE, p1, IntWalk.i64_in]
        exact ⟨by omega, fin _ (by simp [e2]) (by simp [e3]) (by simp [e4]) (by simp) (by simp) (by simp)⟩
      · have hy0 := zB hb
        have hse : uv (cy + xd) = uv s := by rw [hs, hy0]; rfl
        rw [hse] at hsum1
        simp (disch := omega) [-getElem?_pos, if_pos, if_neg, decide_eq_true, decide_eq_false, ir_ref01_Add_l0, e2, e3, e4, e10, e11, e12, c2', c3', ha, hb, r1, r3, ↓hsum1, ↓hrem, ↓hquo, pE, p1, IntWalk.i64_in]
        exact ⟨by omega, fin _ (by simp [e2]) (by simp [e3]) (by simp [e4]) (by simp) (by simp) (by simp)⟩
    · have hx0 := zA ha
      by_cases hb : k < m
      · obtain ⟨b2, off2, sp2, cs2, rfl, t1, t3⟩ := rB hb
        have hse : uv (cy + yd) = uv s := by rw [hs, hx0]; rfl
        rw [hse] at hsum3
        simp (disch := omega) [-getElem?_pos, if_pos, if_neg, decide_eq_true, decide_eq_false, ir_ref01_Add_l0, e2, e3, e4, e10, e11, e12, c2', c3', ha, hb, t1, t3, ↓hsum3, ↓hrem, ↓hquo, pE, p1, IntWalk.i64_in]
        exact ⟨by omega, fin _ (by simp [e2]) (by simp [e3]) (by simp [e4]) (by simp) (by simp) (by simp)⟩
      · have hcy : 0 < cy := by omega
        rw [decide_eq_true hcy] at hgt
        have hy0 := zB hb
        have hse : uv cy = uv s := by rw [hs, hx0, hy0]; rfl
        rw [hse] at e11 hgt
        simp (disch := omega) [-getElem?_pos, if_pos, if_neg, decide_eq_true, decide_eq_false, ir_ref01_Add_l0, e2, e3, e4, e10, e11, e12, c2', c3', ha, hb, ↓hgt, ↓hrem, ↓hquo, pE, p1, IntWalk.i64_in]
        exact ⟨by omega, fin _ (by simp [e2]) (by simp [e3]) (by simp [e4]) (by simp) (by simp) (by simp)⟩
  · have h1 : ¬ k < n := fun h => hgo (.inl h)
    have h2 : ¬ k < m := fun h => hgo (.inr (.inl h))
    have h3 : ¬ 0 < cy := fun h => hgo (.inr (.inr h))
    rw [decide_eq_false h3] at hgt
    have hc0 : cy = 0 := by omega
    rw [List.take_of_length_le (by omega), List.take_of_length_le (by omega)] at hv
    simp (disch := omega) [-getElem?_pos, if_pos, if_neg, decide_eq_true, decide_eq_false, ir_ref01_Add_l0, e2, e3, e4, e10, e11, e12, c2', c3', h1, h2, ↓hgt]
    exact ⟨rfl, e2, e4, w', k', ov, S, out, e10, hO, hS, hod, by rw [hc0] at hv; omega, by omega⟩
theorem Add_spec {p q : Nat → Prop} {H : AH} {v w : Value} {a b : Nat} (hA : BigV p H v a) (hB : BigV q H w b) (hla : (bdig a).length ≤ 1000) (hlb : (bdig b).length ≤ 1000) : AFn Try.prog F_ref01_Add [v, w] H fun u H' => BigV (fun z => H.next ≤ z ∧ z < H'.next) H' u ((a + b : Nat) : Int) ∧ Keep [] H H' := by
  obtain ⟨dv, rfl, hA0⟩ := hA
  obtain ⟨ew, rfl, hB0⟩ := hB
  obtain ⟨xa, xc, rfl⟩ := hA0.slice
  obtain ⟨ya, yc, rfl⟩ := hB0.slice
  refine AFn.enter mixed ir_ref01_Add_eq (by simp [ir_ref01_Add]) fun hw => ?_
  rw [Int.natAbs_natCast] at hA0 hB0
  simp only [Int.natAbs_natCast]
  rw [decide_eq_false (show ¬ (a : Int) < 0 by omega), decide_eq_false (show ¬ (b : Int) < 0 by omega)]
  have dA := bdig_lt a
  have dB := bdig_lt b
  have vA := bval_bdig a
  have vB := bval_bdig b
  generalize hAe : bdig a = A at *
  generalize hBe : bdig b = B at *
  generalize hn : A.length = n at *
  generalize hm : B.length = m at *
  simp (disch := omega) [-getElem?_pos, if_pos, if_neg, decide_eq_true, decide_eq_false, ir_ref01_Add, cut2, bigC]
  generalize hH1 : AH.alloc (AH.alloc (AH.alloc _ _) _) _ = H1
  have k1 : Keep [] H H1 := by rw [← hH1]; exact .new_alloc (.new_alloc .alloc)
  have w1 : WF H1 := by rw [← hH1]; exact hw.alloc.alloc.alloc
  have n1 : H1.next = H.next + 3 := by rw [← hH1]; simp
  have c2 : H1.cells H.next = some [.bool false, .slice xa n xc] := by rw [← hH1]; simp; intro h; omega
  have c3 : H1.cells (H.next + 1) = some [.bool false, .slice ya m yc] := by rw [← hH1]; simp
  have b4 : H1.blk (H.next + 2) = some (.row [.bool false, .slice none 0 0] T_secateurref01_Big true) := by rw [← hH1]; simp
  clear hH1
  refine wpC_use (add_l0 (q2 := H.next) (q3 := H.next + 1) (q4 := H.next + 2) hn hm hla hlb w1 c2 c3 (hA0.kept hw k1).any (hB0.kept hw k1).any dA dB ⟨by simp, by simp, by simp, by simp, w1, .refl, 0, .slice none 0 0, [], [], by simp, by omega, by simp, .nil, by simp, rfl, by simp, by simp [bval]⟩) ?_
  rintro e env2 H2 ⟨rfl, e2, e4, w2, k2, ov, S, out, e10, hO, hS, hod, hv, hol⟩ hu
  have n2 := k2.next
  have c22 := cells_kept w1 k2 c2
  have b42 : H2.blk (H.next + 2) = some (.row [.bool false, .slice none 0 0] T_secateurref01_Big true) := by rw [k2.blk _ (by omega) (by simp), b4]
  have hoc := hO.cell
  have hov : SlV (fun z => H1.next ≤ z ∧ z < H2.next) H2 ov out := hO.slv (fun _ h => h.elim) (fun b hb => ⟨hS b hb, hO.lt w2 b hb⟩) (by omega)
  simp (disch := omega) [-getElem?_pos, if_pos, if_neg, decide_eq_true, decide_eq_false, e2, e4, e10, c22, hoc.1, hoc.2]
  refine (trim_spec (s := false) hov hod).mono' fun u H3 w3 ⟨t, hu3, hwv, k3⟩ => ?_
  rw [Bool.false_and] at hu3
  subst hu3
  have hwc := hwv.cell
  have n3 := k3.next
  have b43 : H3.blk (H.next + 2) = some (.row [.bool false, .slice none 0 0] T_secateurref01_Big true) := by rw [k3.blk _ (by omega) (by simp), b42]
  rw [hv, vA, vB] at hwv
  simp (disch := omega) [-getElem?_pos, if_pos, if_neg, decide_eq_true, decide_eq_false, e4, hwc.1, hwc.2, b43, writeA, over, cut2]
  refine ⟨⟨t, by rw [decide_eq_false (by omega)], ?_⟩, .new_set (by omega) (k1.trans' (k2.trans' k3))⟩
  rw [show ((a : Int) + b).natAbs = a + b by omega]
  exact hwv.up (fun z hz => ⟨by omega, by show z < H3.next; omega⟩) (.set (by omega))
/-! ### products -/
def uC (D : List Nat) : List Value := D.map uv
theorem uC_len {D : List Nat} : (uC D).length = D.length := by simp [uC]
theorem uC_get {D : List Nat} {j : Nat} (h : j < D.length) : (uC D)[j]? = some (uv (D.getD j 0)) := by
  simp [uC, h]
theorem uC_over {D : List Nat} {j x : Nat} (h : j < D.length) : over (uC D) j [uv x] = uC (D.set j x) := by
  rw [over_one (by rw [uC_len]; exact h)]
  simp [uC, List.map_set]
theorem uC_zeros (n : Nat) : zeros [uv 0] n = uC (List.replicate n 0) := by
  induction n with
  | zero => rfl
  | succ n ih => rw [List.replicate_succ, zeros, ih]; rfl
theorem bval_replicate (n : Nat) : bval (List.replicate n 0) = 0 := bval_zero fun d hd => (List.mem_replicate.1 hd).2
structure MuS (H1 : AH) (qd N : Nat) (D : List Nat) (H' : AH) : Prop where
  wf : WF H'
  keep : Keep [qd] H1 H'
  blk : H'.blk qd = some (.row (uC D) T_uint64 true)
  len : D.length = N
  low : ∀ d ∈ D, d < 65536
theorem MuS.set {H1 H' : AH} {qd N : Nat} {D : List Nat} (h : MuS H1 qd N D H') {j x : Nat} (hj : j < N) (hx : x < 65536) : writeA H' qd j [uv x] = some (H'.set qd (.row (uC (D.set j x)) T_uint64 true)) ∧ MuS H1 qd N (D.set j x) (H'.set qd (.row (uC (D.set j x)) T_uint64 true)) := by
  obtain ⟨h1, h2, h3, h4, h5⟩ := h
  have hw := writeA_of (off := j) (news := [uv x]) h3 (by rw [uC_len]; simp; omega)
  rw [uC_over (by omega)] at hw
  refine ⟨hw, h1.set (h1.lt h3), ?_, AH.set_blk_same, by rw [List.length_set]; exact h4, fun d hd => ?_⟩
  · exact ⟨h2.next, fun b hb hn => by rw [AH.set_blk_ne (by simpa using hn)]; exact h2.blk b hb hn⟩
  · rcases List.mem_or_eq_of_mem_set hd with h | h
    · exact h5 d h
    · omega
def MrI (H1 : AH) (q2 q3 q4 qd N i : Nat) (A B : List Nat) (V : Nat) (k : Nat) (env : Env) (H' : AH) : Prop :=
  env 2 = some (.pointer (some ⟨q2, 0, none⟩)) ∧ env 3 = some (.pointer (some ⟨q3, 0, none⟩)) ∧ env 4 = some (.pointer (some ⟨q4, 0, none⟩)) ∧ env 5 = some (.slice (some ⟨qd, 0, none⟩) N N) ∧ env 6 = some (.int .i64 i) ∧ env 8 = some (.int .i64 k) ∧
  ∃ c D, env 7 = some (uv c) ∧ c < 65536 ∧ MuS H1 qd N D H' ∧ bval D + 65536 ^ (i + k) * c = V + 65536 ^ i * (A.getD i 0 * bval (B.take k))
def MrQ (H1 : AH) (q2 q3 q4 qd N i : Nat) (A B : List Nat) (V : Nat) (e : AExit) (env : Env) (H' : AH) : Prop :=
  e = .exit 2 ∧ env 2 = some (.pointer (some ⟨q2, 0, none⟩)) ∧ env 3 = some (.pointer (some ⟨q3, 0, none⟩)) ∧ env 4 = some (.pointer (some ⟨q4, 0, none⟩)) ∧ env 5 = some (.slice (some ⟨qd, 0, none⟩) N N) ∧ env 6 = some (.int .i64 i) ∧
  ∃ D, MuS H1 qd N D H' ∧ bval D = V + 65536 ^ i * (A.getD i 0 * bval B)
theorem mul_small {a b : Nat} (ha : a < 65536) (hb : b < 65536) : a * b ≤ 4294836225 := by
  have := Nat.mul_le_mul (show a ≤ 65535 by omega) (show b ≤ 65535 by omega)
  omega
theorem mul_l0 {H1 : AH} {q2 q3 q4 qd : Nat} {s t : Bool} {x y : Option Addr} {c d : Nat} {A B : List Nat} {n m i : Nat} (hA : A.length = n) (hB : B.length = m) (hn : n ≤ 1000) (hm : m ≤ 1000) (hi : i < n) (hw : WF H1) (hq : q2 ≠ qd ∧ q3 ≠ qd) (c2 : H1.cells q2 = some [.bool s, .slice x n c]) (c3 : H1.cells q3 = some [.bool t, .slice y m d])
    (vA : SlV (fun b => b ≠ qd) H1 (.slice x n c) A) (vB : SlV (fun b => b ≠ qd) H1 (.slice y m d) B) (dA : ∀ e ∈ A, e < 65536) (dB : ∀ e ∈ B, e < 65536) {V : Nat} (hV : V = bval (A.take i) * bval B) {env : Env} {H2 : AH} (h : MrI H1 q2 q3 q4 qd (n + m + 1) i A B V 0 env H2) :
    wpC Try.prog 79 (.loop ir_ref01_Mul_l0) (MrQ H1 q2 q3 q4 qd (n + m + 1) i A B V) env H2 := by
  refine loop_upto (m + 1) (MrI H1 q2 q3 q4 qd (n + m + 1) i A B V) (Q := MrQ H1 q2 q3 q4 qd (n + m + 1) i A B V) h ?_
  rintro k env H' hk ⟨e2, e3, e4, e5, e6, e8, cy, D, e7, hcy, hS, hv⟩
  have k' := hS.keep
  have c2' := cells_keep hw k' (by simp [hq.1]) c2
  have c3' := cells_keep hw k' (by simp [hq.2]) c3
  have vA' := vA.sub (.keep hw k' fun b hb h => h (by simpa using hb))
  have vB' := vB.sub (.keep hw k' fun b hb h => h (by simpa using hb))
  have hgt := uv_gtr (a := cy) (b := 0)
  have hai : A.getD i 0 < 65536 := by
    rw [List.getD_eq_getElem?_getD, List.getElem?_eq_getElem (by omega)]; exact dA _ (List.getElem_mem _)
  by_cases hgo : k < m ∨ 0 < cy
  · have hkm : k ≤ m := by
      by_cases hkm : k < m
      · omega
      · have hc0 : 0 < cy := by omega
        rw [List.take_of_length_le (by omega)] at hv
        have hT : V + 65536 ^ i * (A.getD i 0 * bval B) = bval (A.take (i + 1)) * bval B := by
          rw [bval_takeD, hV, Nat.add_mul, Nat.mul_assoc]
        have b1 := bval_take_lt dA (i + 1)
        have b2 := bval_lt dB
        rw [hB] at b2
        have b3 : bval (A.take (i + 1)) * bval B < 65536 ^ (i + 1 + m) := by
          rw [Nat.pow_add]
          exact Nat.mul_lt_mul_of_lt_of_le b1 (Nat.le_of_lt b2) (Nat.pow_pos (by omega))
        have := pow_le_cancel (i := i + k) (j := i + 1 + m) (c := cy) (T := V + 65536 ^ i * (A.getD i 0 * bval B)) (by omega) hc0 (by rw [hT]; exact b3)
        omega
    have hjl : i + k < n + m + 1 := by omega
    have hDj : D.getD (i + k) 0 < 65536 := by
      rw [List.getD_eq_getElem?_getD, List.getElem?_eq_getElem (by rw [hS.len]; exact hjl)]; exact hS.low _ (List.getElem_mem _)
    have hrd := uC_get (D := D) (j := i + k) (by rw [hS.len]; exact hjl)
    have hset := bval_set D (i + k)
    have cD := AH.cells_of hS.blk
    have tB := bval_takeD B k
    have zB : ¬ k < m → B.getD k 0 = 0 := fun h => by rw [List.getD_eq_getElem?_getD, List.getElem?_eq_none (by omega)]; rfl
    have hbk : B.getD k 0 < 65536 := by
      by_cases h : k < m
      · rw [List.getD_eq_getElem?_getD, List.getElem?_eq_getElem (by omega)]; exact dB _ (List.getElem_mem _)
      · rw [zB h]; decide
    have rA : ∃ b off sp cs, x = some ⟨b, off, sp⟩ ∧ H'.cells b = some cs ∧ cs[off + i]? = some (uv (A.getD i 0)) := by
      obtain ⟨b1, off1, sp1, cap1, cs1, hcv1, r1, r2⟩ := nats_rd vA' (by omega)
      injection hcv1 with i1 i2 i3
      have r3 := r2 i (by omega)
      exact ⟨b1, off1, sp1, cs1, i1, r1, by rw [r3, List.getD_eq_getElem?_getD, List.getElem?_eq_getElem (by omega)]; rfl⟩
    have rB : k < m → ∃ b off sp cs, y = some ⟨b, off, sp⟩ ∧ H'.cells b = some cs ∧ cs[off + k]? = some (uv (B.getD k 0)) := fun h => by
      obtain ⟨b1, off1, sp1, cap1, cs1, hcv1, r1, r2⟩ := nats_rd vB' (by omega)
      injection hcv1 with i1 i2 i3
      have r3 := r2 k (by omega)
      exact ⟨b1, off1, sp1, cs1, i1, r1, by rw [r3, List.getD_eq_getElem?_getD, List.getElem?_eq_getElem (by omega)]; rfl⟩
    obtain ⟨p, hp⟩ : ∃ p, p = A.getD i 0 * B.getD k 0 := ⟨_, rfl⟩
    have hpl : p ≤ 4294836225 := by rw [hp]; exact mul_small hai hbk
    obtain ⟨s', hs⟩ : ∃ s', s' = cy + D.getD (i + k) 0 + p := ⟨_, rfl⟩
    have hs' := hset (s' % 65536) (by rw [hS.len]; exact hjl)
    have hround := mul_round (P := 65536 ^ (i + k)) (Q := 0) (by rw [← hp]; exact hs) hv hs'
    have hnext : bval (D.set (i + k) (s' % 65536)) + 65536 ^ (i + (k + 1)) * (s' / 65536) = V + 65536 ^ i * (A.getD i 0 * bval (B.take (k + 1))) := by
      rw [← Nat.add_assoc, Nat.pow_succ, hround, tB, Nat.mul_add, Nat.mul_add, Nat.pow_add, ← Nat.add_assoc]
      congr 1
      rw [Nat.mul_assoc, Nat.mul_left_comm (65536 ^ k)]
    obtain ⟨hwr, hS'⟩ := hS.set (j := i + k) (x := s' % 65536) hjl (Nat.mod_lt _ (by omega))
    have hc' : s' / 65536 < 65536 := by omega
    have hrem := u_rem s' (by omega)
    have hquo := u_quo s' (by omega)
    have fin : ∀ env2 : Env, env2 2 = some (.pointer (some ⟨q2, 0, none⟩)) → env2 3 = some (.pointer (some ⟨q3, 0, none⟩)) → env2 4 = some (.pointer (some ⟨q4, 0, none⟩)) → env2 5 = some (.slice (some ⟨qd, 0, none⟩) (n + m + 1) (n + m + 1)) → env2 6 = some (.int .i64 i) → env2 8 = some (.int .i64 ((k : Int) + 1)) → env2 7 = some (uv (s' / 65536)) →
        MrI H1 q2 q3 q4 qd (n + m + 1) i A B V (k + 1) env2 (H'.set qd (.row (uC (D.set (i + k) (s' % 65536))) T_uint64 true)) :=
      fun env2 f2 f3 f4 f5 f6 f8 f7 => ⟨f2, f3, f4, f5, f6, by rw [f8]; simp, _, _, f7, hc', hS', hnext⟩
    clear hnext hround hs' hset hv tB hS'
    have hsum1 : abin .add (uv cy) (uv (D.getD (i + k) 0)) = some (uv (cy + D.getD (i + k) 0)) := uv_add (by omega)
    have hmul : abin .mul (uv (A.getD i 0)) (uv (B.getD k 0)) = some (uv p) := by rw [uv_mul, ← hp, Nat.mod_eq_of_lt (by omega)]
    have hsum2 : abin .add (uv (cy + D.getD (i + k) 0)) (uv p) = some (uv s') := by rw [uv_add (by omega), hs]
    obtain ⟨b1, off1, sp1, cs1, rfl, r1, r3⟩ := rA
    have hik : (i : Int) + (k : Int) = ((i + k : Nat) : Int) := by omega
    have hikw : IntKind.i64.wrap ((i + k : Nat) : Int) = ((i + k : Nat) : Int) := IntWalk.i64_in _ (by omega)
    generalize (uC (D.set (i + k) (s' % 65536))) = nd at *
    generalize s' % 65536 = r at *
    generalize s' / 65536 = c' at *
    by_cases hkm' : k < m
    · obtain ⟨b2, off2, sp2, cs2, rfl, t1, t3⟩ := rB hkm'
      generalize A.getD i 0 = ai at *
      generalize B.getD k 0 = bk at *
      generalize cy + D.getD (i + k) 0 = cx at *
      generalize D.getD (i + k) 0 = dj at *
      generalize i + k = j at *
      simp (disch := omega) [-getElem?_pos, if_pos, if_neg, decide_eq_true, decide_eq_false, ir_ref01_Mul_l0, e2, e3, e4, e5, e6, e7, e8, c2', c3', hkm', hi, cD, hik, hikw, hjl, hrd, r1, r3, t1, t3, ↓hsum1, ↓hsum2, ↓hmul, ↓hrem, ↓hquo, hwr, IntWalk.i64_in]
      exact ⟨by omega, fin _ (by simp [e2]) (by simp [e3]) (by simp [e4]) (by simp [e5]) (by simp [e6]) (by simp) (by simp)⟩
    · have hy0 := zB hkm'
      have hcy0 : 0 < cy := by omega
      rw [decide_eq_true hcy0] at hgt
      have hse : uv (cy + D.getD (i + k) 0) = uv s' := by rw [hs, hp, hy0]; rfl
      rw [hse] at hsum1
      generalize D.getD (i + k) 0 = dj at *
      generalize i + k = j at *
      simp (disch := omega) [-getElem?_pos, if_pos, if_neg, decide_eq_true, decide_eq_false, ir_ref01_Mul_l0, e2, e3, e4, e5, e6, e7, e8, c2', c3', hkm', hi, cD, hik, hikw, hjl, hrd, ↓hgt, ↓hsum1, ↓hrem, ↓hquo, hwr, IntWalk.i64_in]
      exact ⟨by omega, fin _ (by simp [e2]) (by simp [e3]) (by simp [e4]) (by simp [e5]) (by simp [e6]) (by simp) (by simp)⟩
  · have h1 : ¬ k < m := fun h => hgo (.inl h)
    have h3 : ¬ 0 < cy := fun h => hgo (.inr h)
    rw [decide_eq_false h3] at hgt
    have hc0 : cy = 0 := by omega
    rw [List.take_of_length_le (by omega)] at hv
    simp (disch := omega) [-getElem?_pos, if_pos, if_neg, decide_eq_true, decide_eq_false, ir_ref01_Mul_l0, e2, e3, e4, e5, e6, e7, e8, c2', c3', h1, ↓hgt]
    exact ⟨rfl, e2, e3, e4, e5, e6, D, hS, by rw [hc0] at hv; omega⟩
def MoI (H1 : AH) (q2 q3 q4 qd N : Nat) (A B : List Nat) (k : Nat) (env : Env) (H' : AH) : Prop :=
  env 2 = some (.pointer (some ⟨q2, 0, none⟩)) ∧ env 3 = some (.pointer (some ⟨q3, 0, none⟩)) ∧ env 4 = some (.pointer (some ⟨q4, 0, none⟩)) ∧ env 5 = some (.slice (some ⟨qd, 0, none⟩) N N) ∧ env 6 = some (.int .i64 k) ∧
  ∃ D, MuS H1 qd N D H' ∧ bval D = bval (A.take k) * bval B
def MoQ (H1 : AH) (q2 q3 q4 qd N : Nat) (A B : List Nat) (e : AExit) (env : Env) (H' : AH) : Prop :=
  e = .exit 0 ∧ env 2 = some (.pointer (some ⟨q2, 0, none⟩)) ∧ env 3 = some (.pointer (some ⟨q3, 0, none⟩)) ∧ env 4 = some (.pointer (some ⟨q4, 0, none⟩)) ∧ env 5 = some (.slice (some ⟨qd, 0, none⟩) N N) ∧ ∃ D, MuS H1 qd N D H' ∧ bval D = bval A * bval B
theorem mul_l1 {H1 : AH} {q2 q3 q4 qd : Nat} {s t : Bool} {x y : Option Addr} {c d : Nat} {A B : List Nat} {n m : Nat} (hA : A.length = n) (hB : B.length = m) (hn : n ≤ 1000) (hm : m ≤ 1000) (hw : WF H1) (hq : q2 ≠ qd ∧ q3 ≠ qd) (c2 : H1.cells q2 = some [.bool s, .slice x n c]) (c3 : H1.cells q3 = some [.bool t, .slice y m d])
    (vA : SlV (fun b => b ≠ qd) H1 (.slice x n c) A) (vB : SlV (fun b => b ≠ qd) H1 (.slice y m d) B) (dA : ∀ e ∈ A, e < 65536) (dB : ∀ e ∈ B, e < 65536) {env : Env} {H2 : AH} (h : MoI H1 q2 q3 q4 qd (n + m + 1) A B 0 env H2) :
    wpC Try.prog 79 (.loop ir_ref01_Mul_l1) (MoQ H1 q2 q3 q4 qd (n + m + 1) A B) env H2 := by
  refine loop_upto n (MoI H1 q2 q3 q4 qd (n + m + 1) A B) (Q := MoQ H1 q2 q3 q4 qd (n + m + 1) A B) h ?_
  rintro k env H' hk ⟨e2, e3, e4, e5, e6, D, hS, hv⟩
  have k' := hS.keep
  have c2' := cells_keep hw k' (by simp [hq.1]) c2
  by_cases hkn : k < n
  · simp (disch := omega) [-getElem?_pos, if_pos, if_neg, decide_eq_true, decide_eq_false, ir_ref01_Mul_l1, e2, e3, e4, e5, e6, c2', hkn]
    refine wpC_use (mul_l0 (q4 := q4) (V := bval D) hA hB hn hm hkn hw hq c2 c3 vA vB dA dB hv ⟨by simp [e2], by simp [e3], by simp [e4], by simp [e5], by simp [e6], by simp, 0, D, by simp, by omega, hS, by simp [bval]⟩) ?_
    rintro e env2 H3 ⟨rfl, f2, f3, f4, f5, f6, D2, hS2, hv2⟩ hu
    simp (disch := omega) [-getElem?_pos, if_pos, if_neg, decide_eq_true, decide_eq_false, f2, f3, f4, f5, f6, IntWalk.i64_in]
    exact ⟨hkn, by simp [f2], by simp [f3], by simp [f4], by simp [f5], by simp, D2, hS2, by rw [hv2, hv, bval_takeD, Nat.add_mul, Nat.mul_assoc]⟩
  · obtain rfl : k = n := by omega
    simp (disch := omega) [-getElem?_pos, if_pos, if_neg, decide_eq_true, decide_eq_false, ir_ref01_Mul_l1, e2, e3, e4, e5, e6, c2']
    exact ⟨rfl, e2, e3, e4, e5, D, hS, by rw [List.take_of_length_le (by omega)] at hv; exact hv⟩
theorem sgn_mul (a b : Int) : a * b = sgn (decide (a < 0) != decide (b < 0)) (a.natAbs * b.natAbs) := by
  have h1 := sgn_abs a
  have h2 := sgn_abs b
  conv => lhs; rw [← h1, ← h2]
  cases decide (a < 0) <;> cases decide (b < 0) <;> simp [sgn, Int.mul_neg, Int.neg_mul]
theorem sgn_neg {s : Bool} {m : Nat} : decide (sgn s m < 0) = (s && decide (m ≠ 0)) := by
  cases s
  · simp only [sgn, Bool.false_eq_true, if_false, Bool.false_and]; exact decide_eq_false (by omega)
  · simp only [sgn, if_true, Bool.true_and]; exact decide_eq_decide.2 (by omega)
theorem sgn_natAbs {s : Bool} {m : Nat} : (sgn s m).natAbs = m := by cases s <;> simp [sgn]
theorem Mul_spec {p q : Nat → Prop} {H : AH} {v w : Value} {a b : Int} (hA : BigV p H v a) (hB : BigV q H w b) (hla : (bdig a.natAbs).length ≤ 1000) (hlb : (bdig b.natAbs).length ≤ 1000) : AFn Try.prog F_ref01_Mul [v, w] H fun u H' => BigV (fun z => H.next ≤ z ∧ z < H'.next) H' u (a * b) ∧ Keep [] H H' := by
  obtain ⟨dv, rfl, hA0⟩ := hA
  obtain ⟨ew, rfl, hB0⟩ := hB
  obtain ⟨xa, xc, rfl⟩ := hA0.slice
  obtain ⟨ya, yc, rfl⟩ := hB0.slice
  refine AFn.enter mixed ir_ref01_Mul_eq (by simp [ir_ref01_Mul]) fun hw => ?_
  rw [sgn_mul]
  have dA := bdig_lt a.natAbs
  have dB := bdig_lt b.natAbs
  have vA := bval_bdig a.natAbs
  have vB := bval_bdig b.natAbs
  have hA1 := hA0.ltN hw
  have hB1 := hB0.ltN hw
  clear hA0 hB0
  generalize a.natAbs = an at *
  generalize b.natAbs = bn at *
  generalize decide (a < 0) = s at *
  generalize decide (b < 0) = t at *
  generalize hAe : bdig an = A at *
  generalize hBe : bdig bn = B at *
  generalize hn : A.length = n at *
  generalize hm : B.length = m at *
  have hN : ((n : Int) + (m : Int) + 1) = ((n + m + 1 : Nat) : Int) := by omega
  have hNw : IntKind.i64.wrap ((n + m + 1 : Nat) : Int) = ((n + m + 1 : Nat) : Int) := IntWalk.i64_in _ (by omega)
  have hNw2 : IntKind.i64.wrap ((n : Int) + (m : Int)) = ((n : Int) + (m : Int)) := IntWalk.i64_in _ (by omega)
  have hNn : (((n + m + 1 : Nat) : Int)).toNat = n + m + 1 := by omega
  have hNp : 0 ≤ ((n + m + 1 : Nat) : Int) ∧ ((n + m + 1 : Nat) : Int) ≤ 9223372036854775807 ∧ 8 * ((n + m + 1 : Nat) : Int) ≤ 281474976710656 := by omega
  have hz := uC_zeros (n + m + 1)
  generalize hNe : n + m + 1 = N at *
  simp (disch := omega) [-getElem?_pos, if_pos, if_neg, decide_eq_true, decide_eq_false, ir_ref01_Mul, cut2, bigC, hN, hNw, hNw2, hNn, hNp, hz]
  generalize hH1 : AH.alloc (AH.alloc (AH.alloc (AH.alloc _ _) _) _) _ = H1
  have k1 : Keep [] H H1 := by rw [← hH1]; exact .new_alloc (.new_alloc (.new_alloc .alloc))
  have w1 : WF H1 := by rw [← hH1]; exact hw.alloc.alloc.alloc.alloc
  have n1 : H1.next = H.next + 4 := by rw [← hH1]; simp
  have c2 : H1.cells H.next = some [.bool s, .slice xa n xc] := by rw [← hH1]; exact cells_kept hw.alloc (.new_alloc (.new_alloc .alloc)) AH.cells_alloc_new
  have c3 : H1.cells (H.next + 1) = some [.bool t, .slice ya m yc] := by rw [← hH1]; exact cells_kept hw.alloc.alloc (.new_alloc .alloc) AH.cells_alloc_new
  have b4 : H1.blk (H.next + 2) = some (.row [.bool false, .slice none 0 0] T_secateurref01_Big true) := by rw [← hH1]; simp
  have b5 : H1.blk (H.next + 3) = some (.row (uC (List.replicate N 0)) T_uint64 true) := by rw [← hH1]; simp
  clear hH1
  subst hNe
  refine wpC_use (mul_l1 (q2 := H.next) (q3 := H.next + 1) (q4 := H.next + 2) (qd := H.next + 3) hn hm hla hlb w1 ⟨by omega, by omega⟩ c2 c3 ((hA1.kept hw k1).mono fun z hz => by omega) ((hB1.kept hw k1).mono fun z hz => by omega) dA dB ⟨by simp, by simp, by simp, by simp, by simp, List.replicate (n + m + 1) 0, ⟨w1, .refl, b5, by simp, fun d hd => by rw [(List.mem_replicate.1 hd).2]; decide⟩, by rw [bval_replicate]; simp [bval]⟩) ?_
  rintro e env2 H2 ⟨rfl, e2, e3, e4, e5, D, hS, hv⟩ hu
  have k2 := hS.keep
  have n2 := k2.next
  have w2 := hS.wf
  have c22 := cells_keep w1 k2 (by simp) c2
  have c32 := cells_keep w1 k2 (by simp) c3
  have b42 : H2.blk (H.next + 2) = some (.row [.bool false, .slice none 0 0] T_secateurref01_Big true) := by rw [k2.blk _ (by omega) (by simp), b4]
  have k02 : Keep [] H H2 := k1.trans k2 fun z hz hlt => by simp at hz; omega
  have hD : SlV (fun z => H.next + 2 < z ∧ z < H2.next) H2 (.slice (some ⟨H.next + 3, 0, none⟩) (n + m + 1) (n + m + 1)) D := by
    have hl := hS.len
    refine ⟨⟨by omega, .of (.inl rfl)⟩, uC D, ⟨by rw [uC_len]; simp, .inr ⟨_, 0, none, n + m + 1, uC D, by rw [hl], by omega, .inl rfl, AH.cells_of hS.blk, ?_, by omega, by omega⟩⟩, fun i hi => ⟨?_, by have := hS.low D[i] (List.getElem_mem _); omega⟩⟩
    · rw [sz_nat, Nat.mul_one, cut_eq (by rw [uC_len]; omega), List.drop_zero, List.take_of_length_le (by rw [uC_len]; omega)]
    · simp [chunk, uC, List.drop_eq_getElem_cons, hi]
  have fin : ∀ r : Bool, r = (s != t) → AFn Try.prog F_ref01_trim [.agg #[.bool r, .slice (some ⟨H.next + 3, 0, none⟩) (n + m + 1) (n + m + 1)]] H2 fun u H3 => ∃ w, u = .agg #[.bool (decide (sgn (s != t) (an * bn) < 0)), w] ∧ one w = true ∧ cellsOf w = some [w] ∧ H3.blk (H.next + 2) = some (.row [.bool false, .slice none 0 0] T_secateurref01_Big true) ∧
      BigV (fun z => H.next ≤ z ∧ z < (H3.set (H.next + 2) (.row [.bool (decide (sgn (s != t) (an * bn) < 0)), w] T_secateurref01_Big true)).next) (H3.set (H.next + 2) (.row [.bool (decide (sgn (s != t) (an * bn) < 0)), w] T_secateurref01_Big true)) u (sgn (s != t) (an * bn)) ∧ Keep [] H (H3.set (H.next + 2) (.row [.bool (decide (sgn (s != t) (an * bn) < 0)), w] T_secateurref01_Big true)) := by
    intro r hr
    refine (trim_spec hD hS.low).mono' fun u H3 w3 ⟨w, hu3, hwv, k3⟩ => ?_
    rw [hv, vA, vB] at hu3 hwv
    rw [sgn_neg, ← hr]
    have hwc := hwv.cell
    have n3 := k3.next
    refine ⟨w, hu3, hwc.1, hwc.2, by rw [k3.blk _ (by omega) (by simp), b42], ⟨w, by rw [hu3, sgn_neg], ?_⟩, .new_set (by omega) (k02.trans' k3)⟩
    rw [sgn_natAbs]
    exact hwv.up (fun z hz => ⟨by omega, by show z < H3.next; omega⟩) (.set (by omega))
  have hst : decide (s ≠ t) = (s != t) := by cases s <;> cases t <;> rfl
  have hst2 : (!decide (s = t)) = (s != t) := by cases s <;> cases t <;> rfl
  generalize sgn (s != t) (an * bn) = N at *
  simp (disch := omega) [-getElem?_pos, if_pos, if_neg, decide_eq_true, decide_eq_false, e2, e3, e4, e5, c22, c32, hst, hst2]
  refine (fin _ rfl).mono' fun u H3 w3 ⟨w, hu3, g1, g2, g3, g4, g5⟩ => ?_
  subst hu3
  generalize decide (N < 0) = dN at *
  simp (disch := omega) [-getElem?_pos, if_pos, if_neg, decide_eq_true, decide_eq_false, e4, g1, g2, g3, writeA, over, cut2]
  exact ⟨g4, g5⟩
end Go.Proofs.Ytllfcbacpoaphaa
