/-
  DualBounds.
-/
import Derived.Test.YtejifalflkbekaaDoorDs9
set_option maxRecDepth 100000
set_option linter.unusedSimpArgs false
set_option linter.unusedVariables false
namespace Go.Proofs.YtejifalflkbekaaDoor
open Go Go.Abs Go.Proofs.YtejifalflkbekaaDoor.Bs
theorem tmod2 (x : Int) : -1 ≤ x.tmod 2 ∧ x.tmod 2 ≤ 1 := by
  rcases Int.le_total 0 x with h | h
  · rw [Int.tmod_eq_emod_of_nonneg h]; omega
  · have : x.tmod 2 = -((-x).tmod 2) := by rw [Int.neg_tmod]; omega
    rw [this, Int.tmod_eq_emod_of_nonneg (by omega)]; omega
def DbI (H1 : AH) (xv pv : Value) (N : Nat) (S : List Nat) (k : Nat) (env : Env) (H' : AH) : Prop :=
  env 2 = some xv ∧ env 13 = some pv ∧ env 54 = some (.int .i64 N) ∧ env 55 = some (.int .i64 k) ∧ WF H' ∧ Keep S H1 H' ∧ ∃ P : List Int, OwnL (fun _ => False) H' T_int64 pv P S ∧ P.length = N ∧ ∀ i (h : i < P.length), k ≤ i → 0 ≤ P[i] ∧ P[i] ≤ 2147483648
def DbQ (H1 : AH) (pv : Value) (N : Nat) (S : List Nat) (x : AExit) (env : Env) (H' : AH) : Prop :=
  x = .exit 2 ∧ WF H' ∧ Keep S H1 H' ∧ ∃ P : List Int, OwnL (fun _ => False) H' T_int64 pv P S ∧ P.length = N
theorem bounds_l1 {p : Nat → Prop} {H1 : AH} {xv pv : Value} {X : List Int} {N : Nat} {S : List Nat} (hw : WF H1) (hX : SlV p H1 xv X) (hpS : ∀ b ∈ S, ¬ p b) (hN : N ≤ 12) (hXl : X.length ≤ 12) {env : Env} (h : DbI H1 xv pv N S 0 env H1) :
    wpC Tryd.prog 107 (.loop ir_law18_DualBounds_l1) (DbQ H1 pv N S) env H1 := by
  refine loop_upto N (DbI H1 xv pv N S) (Q := DbQ H1 pv N S) h ?_
  rintro k env H' hk ⟨e2, e13, e54, e55, w', k', P, hO, hP, hb⟩
  obtain ⟨xa, xc, hxv⟩ := hX.slice
  by_cases hkn : k < N
  · have hX' : SlV p H' xv X := hX.sub (.keep hw k' hpS)
    obtain ⟨b', o', sp', cap', cs', ev, q5, q6, q7, q8, _, q9, q10⟩ := hO.at (by omega)
    obtain ⟨c, r1, r2⟩ := q10 k (by omega)
    simp only [sz_int, Nat.mul_one] at r1
    obtain ⟨r2, r3⟩ := R_int.1 r2
    subst r2
    obtain ⟨_, _, _, r4⟩ := cut_spec r1
    have r5 := r4 0 (by simp)
    simp at r5
    by_cases hkx : k < X.length
    · obtain ⟨b0, off, sp, cap, cs, hv, q1, q2⟩ := ints_rd hX' (by omega)
      obtain ⟨q3, _⟩ := q2 k hkx
      have hbk := hb k (by omega) (Nat.le_refl _)
      have htm := tmod2 X[k]
      have hkx' : (k : Int) < (X.length : Int) := by omega
      have hkn' : (k : Int) < (P.length : Int) := by omega
      have hkP : k < P.length := by omega
      have hset : ∀ (a : Int) i (h : i < (P.set k a).length), k + 1 ≤ i → 0 ≤ (P.set k a)[i] ∧ (P.set k a)[i] ≤ 2147483648 := fun a i hi hki => by
        rw [List.getElem_set_ne (by omega)]; exact hb i (by simpa using hi) (by omega)
      subst ev
      have hwr := fun (a : Int) (ha : I64 a) => hO.write (a := a) (c := [.int .i64 a]) q6 (k := k) hkP ⟨rfl, ha⟩
      simp only [sz_int, Nat.mul_one] at hwr
      generalize hy : X[k].tmod 2 = y at *
      generalize hx0 : P[k] = x0 at *
      obtain ⟨w1, w2, w3⟩ := hwr (x0 + y) (by unfold I64; omega)
      have hws : IntKind.i64.wrap (x0 + y) = x0 + y := IntWalk.i64_in _ (by omega)
      have hlt := hO.lt w' b' (by rw [w3]; simp)
      generalize X[k] = xk at *
      have hpl : (P.set k (x0 + y)).length = N := by simp [hP]
      have hs2 := hset (x0 + y)
      subst hv
      simp (disch := omega) [-getElem?_pos, if_pos, if_neg, decide_eq_true, decide_eq_false, ir_law18_DualBounds_l1, e2, e13, e54, e55, hkn, hkx, hkx', hkn', hkP, q1, q3, q7, r5, hy, hws, w1, IntWalk.i64_in]
      exact ⟨by simp [e2], by simp [e13], by simp [e54], by simp, w'.set hlt, k'.trans' (.set (by rw [w3]; simp)), _, w2, hpl, hs2⟩
    · subst hxv
      simp (disch := omega) [-getElem?_pos, if_pos, if_neg, decide_eq_true, decide_eq_false, ir_law18_DualBounds_l1, e2, e13, e54, e55, hkn, hkx, IntWalk.i64_in]
      exact ⟨by simp [e2], by simp [e13], by simp [e54], by simp, w', k', P, hO, hP, fun i hi hki => hb i hi (by omega)⟩
  · obtain rfl : k = N := by omega
    simp (disch := omega) [-getElem?_pos, if_pos, if_neg, decide_eq_true, decide_eq_false, ir_law18_DualBounds_l1, e54, e55]
    exact ⟨rfl, w', k', P, hO, hP⟩
def DcI (H1 : AH) (r q : Nat) (tv av bv : Value) (k : Nat) (env : Env) (H' : AH) : Prop :=
  H' = H1 ∧ env 7 = some (.pointer (some ⟨r, 0, none⟩)) ∧ env 8 = some tv ∧ env 11 = some av ∧ env 12 = some bv ∧ env 76 = some (.slice (some ⟨q, 0, none⟩) 2 2) ∧ env 77 = some (.int .i64 2) ∧ env 78 = some (.int .i64 k)
def DcQ (H1 : AH) (x : AExit) (env : Env) (H' : AH) : Prop := x = .exit 4 ∧ H' = H1
theorem bounds_l0 {p1 p2 p3 p4 p5 p6 : Nat → Prop} {H1 : AH} {r q : Nat} {tv av bv sl xv pv : Value} {L : List SetD} {T : List Bool} {X P : List Int} (hr : H1.cells r = some [.int .i64 T.length, sl]) (hq : H1.cells q = some [xv, pv]) (hs : SetB p1 H1 (.agg #[.int .i64 T.length, sl]) T) (hT : SlV p2 H1 tv T) (hA : SlV p3 H1 av L) (hB : SlV p4 H1 bv L) (hX : SlV p5 H1 xv X) (hP : SlV p6 H1 pv P) (hn : T.length ≤ 12) (hXl : X.length ≤ 1000) (hPl : P.length ≤ 1000) (hl : L.length ≤ 30) (hel : ∀ s ∈ L, s.elems.length ≤ 30) {env : Env} (h : DcI H1 r q tv av bv 0 env H1) :
    wpC Tryd.prog 107 (.loop ir_law18_DualBounds_l0) (DcQ H1) env H1 := by
  refine loop_upto 2 (DcI H1 r q tv av bv) (Q := DcQ H1) h ?_
  rintro k env H' hk ⟨rfl, e7, e8, e11, e12, e76, e77, e78⟩
  by_cases hkn : k < 2
  · obtain ⟨yv, Y, py, hrd, hY, hYl⟩ : ∃ (yv : Value) (Y : List Int) (py : Nat → Prop), [xv, pv][k]? = some yv ∧ SlV py H' yv Y ∧ Y.length ≤ 1000 := by
      have : k = 0 ∨ k = 1 := by omega
      rcases this with rfl | rfl
      · exact ⟨xv, X, p5, rfl, hX, hXl⟩
      · exact ⟨pv, P, p6, rfl, hP, hPl⟩
    have hk2 : (k : Int) < 2 := by omega
    have hcY := hY.cell
    have hcA := hA.cell
    have hcB := hB.cell
    have hcT := hT.cell
    have h1 := Bound_spec hs hA hY hn hYl hl hel
    have h2 := BoundR_spec hT hB hY hn hYl hl hel
    unfold bdV at h1 h2
    generalize (if bdA L T Y = true then Y.sum else 0) = z at *
    generalize bdA L T Y = bb at *
    simp (disch := omega) [-getElem?_pos, if_pos, if_neg, decide_eq_true, decide_eq_false, ir_law18_DualBounds_l0, e7, e8, e11, e12, e76, e77, e78, hkn, hk2, hq, hrd, hr, cut2v, hcY.1, hcY.2, hcA.1, hcA.2]
    refine AFn.pure h1 ?_
    simp (disch := omega) [-getElem?_pos, if_pos, if_neg, decide_eq_true, decide_eq_false, e7, e8, e11, e12, hcY.1, hcY.2, hcB.1, hcB.2, hcT.1, hcT.2]
    refine AFn.pure h2 ?_
    simp (disch := omega) [-getElem?_pos, if_pos, if_neg, decide_eq_true, decide_eq_false, e78, hkn, IntWalk.i64_in]
    exact ⟨rfl, by simp [e7], by simp [e8], by simp [e11], by simp [e12], by simp [e76], by simp [e77], by simp⟩
  · obtain rfl : k = 2 := by omega
    simp (disch := omega) [-getElem?_pos, if_pos, if_neg, decide_eq_true, decide_eq_false, ir_law18_DualBounds_l0, e77, e78]
    exact ⟨rfl, rfl⟩
def DdI (H1 : AH) (r q : Nat) (lv tv xv : Value) (k : Nat) (env : Env) (H' : AH) : Prop :=
  env 1 = some lv ∧ env 2 = some xv ∧ env 7 = some (.pointer (some ⟨r, 0, none⟩)) ∧ env 8 = some tv ∧ env 35 = some (.slice (some ⟨q, 0, none⟩) 2 2) ∧ env 36 = some (.int .i64 2) ∧ env 37 = some (.int .i64 k) ∧ WF H' ∧ Keep [] H1 H'
def DdQ (H1 : AH) (e : AExit) (env : Env) (H' : AH) : Prop := e = .exit 0 ∧ WF H' ∧ Keep [] H1 H'
theorem bounds_l2 {H1 : AH} {r q : Nat} {lv sl tv xv : Value} {L : List SetD} {T : List Bool} {X : List Int} (hw : WF H1) (hr : H1.cells r = some [.int .i64 T.length, sl]) (hq : H1.cells q = some [.int .i64 (-1), .int .i64 T.length]) (hs : SetB (fun b => b < H1.next) H1 (.agg #[.int .i64 T.length, sl]) T) (hT : SlV (fun b => b < H1.next) H1 tv T) (hL : SlV (fun b => b < H1.next) H1 lv L) (hX : SlV (fun b => b < H1.next) H1 xv X) (hXl : X.length ≤ 12) (hn : T.length ≤ 12) {env : Env} (h : DdI H1 r q lv tv xv 0 env H1) :
    wpC Tryd.prog 107 (.loop ir_law18_DualBounds_l2) (DdQ H1) env H1 := by
  refine loop_upto 2 (DdI H1 r q lv tv xv) (Q := DdQ H1) h ?_
  rintro k env H' hk ⟨e1, e2, e7, e8, e35, e36, e37, w', k'⟩
  have n' := k'.next
  by_cases hkn : k < 2
  · have up : ∀ {v : Value} {α : Type} [Ren α] {l : List α} {Ha Hb : AH}, SlV (fun b => b < Ha.next) Ha v l → WF Ha → Keep [] Ha Hb → SlV (fun b => b < Hb.next) Hb v l := fun h hw k => (h.kept hw k).mono fun b hb => by have := k.next; omega
    have hq' := cells_kept hw k' hq
    obtain ⟨sz, hsz, hsz2, hrd⟩ : ∃ sz : Int, (sz = -1 ∨ ∃ m : Nat, sz = m ∧ m ≤ 12) ∧ I64 sz ∧ [Value.int .i64 (-1), .int .i64 (T.length : Int)][k]? = some (.int .i64 sz) := by
      have : k = 0 ∨ k = 1 := by omega
      rcases this with rfl | rfl
      · exact ⟨-1, .inl rfl, by unfold I64; omega, rfl⟩
      · exact ⟨T.length, .inr ⟨_, rfl, hn⟩, by unfold I64; omega, rfl⟩
    have hk2 : (k : Int) < 2 := by omega
    have hcL := hL.cell
    have hcT := hT.cell
    have hcX := hX.cell
    simp (disch := omega) [-getElem?_pos, if_pos, if_neg, decide_eq_true, decide_eq_false, ir_law18_DualBounds_l2, e1, e2, e7, e8, e35, e36, e37, hkn, hk2, hq', hrd, hcL.1, hcL.2]
    refine (sets_spec (up hL hw k') hsz).mono' fun u H2 w2 ⟨a, b, M, hu, hA, hB, hMl, hMo, k2⟩ => ?_
    subst hu
    have hcA := hA.cell
    have hcB := hB.cell
    have k12 := k'.trans' k2
    have n2 := k2.next
    have hM30 : M.length ≤ 30 := by omega
    have hMe : ∀ s ∈ M, s.elems.length ≤ 30 := fun s hs => (hMo s hs).1
    simp (disch := omega) [-getElem?_pos, if_pos, if_neg, decide_eq_true, decide_eq_false, e2, e7, e8, hcA.1, hcA.2, hcB.1, hcB.2, hcT.1, hcT.2]
    refine (PricesR_own (hB.mono fun b hb => hb.2) (up hT hw k12) hn hM30 hMe).mono' fun u H3 w3 ⟨pv, S, hu, hO, hS, k3⟩ => ?_
    subst hu
    have n3 := k3.next
    have k13 := k12.trans' k3
    have hpl := prA_len (L := M) (T := T)
    have hpp := prA_pos (L := M) (T := T)
    generalize (prA M T).isSome = ob
    generalize (prA M T).getD [] = P at *
    obtain ⟨pa, pc, rfl⟩ := hO.slice
    simp (disch := omega) [-getElem?_pos, if_pos, if_neg, decide_eq_true, decide_eq_false, e2, e7, e8]
    refine wpC_use (bounds_l1 (H1 := H3) (xv := xv) (pv := .slice pa P.length pc) (N := P.length) (S := S) w3 (hX.kept hw k13) (fun b hb h => by have := hS b hb; omega) (by omega) hXl ⟨by simp [e2], by simp, by simp, by simp, w3, .refl, P, hO, rfl, fun i hi _ => hpp _ (List.getElem_mem hi)⟩) ?_
    rintro x env2 H4 ⟨rfl, w4, k4, P4, hO4, hP4⟩ hu
    have u1 := hu 1 (by decide)
    have u2 := hu 2 (by decide)
    have u7 := hu 7 (by decide)
    have u8 := hu 8 (by decide)
    have u11 := hu 11 (by decide)
    have u12 := hu 12 (by decide)
    have u13 := hu 13 (by decide)
    have u35 := hu 35 (by decide)
    have u36 := hu 36 (by decide)
    have u37 := hu 37 (by decide)
    simp [e1, e2, e7, e8, e35, e36, e37] at u1 u2 u7 u8 u11 u12 u13 u35 u36 u37
    clear hu
    have n4 := k4.next
    have k34 : Keep [] H2 H4 := k3.trans k4 fun b hb hlt => by have := hS b hb; omega
    have k14 := k12.trans' k34
    have hcP := hO4.cell
    simp (disch := omega) [-getElem?_pos, if_pos, if_neg, decide_eq_true, decide_eq_false, u2, u7, u8, u11, u12, u13, hcX.1, hcX.2, hcP.1, hcP.2]
    obtain ⟨H5, hH5⟩ : ∃ H5, H5 = H4.alloc (.row [xv, .slice pa P.length pc] T_Lint64 true) := ⟨_, rfl⟩
    have k5 : Keep [] H4 H5 := by rw [hH5]; exact .alloc
    have w5 : WF H5 := by rw [hH5]; exact w4.alloc
    have q5 : H5.cells H4.next = some [xv, .slice pa P.length pc] := by rw [hH5]; exact AH.cells_alloc_new
    have k15 := k14.trans' k5
    have k25 := k34.trans' k5
    rw [← hH5]
    refine wpC_use (bounds_l0 (H1 := H5) (r := r) (q := H4.next) (tv := tv) (av := a) (bv := b) (sl := sl) (xv := xv) (pv := .slice pa P.length pc) (L := M) (T := T) (X := X) (P := P4) (cells_kept hw k15 hr) q5 (hs.kept' hw k15) (hT.kept hw k15) (hA.kept w2 k25) (hB.kept w2 k25) (hX.kept hw k15) ((hO4.kept w4 k5).slv (q := fun _ => True) (fun _ _ => trivial) (fun _ _ => trivial) (by omega)) hn (by omega) (by omega) hM30 hMe ⟨rfl, by simp [u7], by simp [u8], by simp [u11], by simp [u12], by simp, by simp, by simp⟩) ?_
    rintro x env3 H6 ⟨rfl, rfl⟩ hu
    have v1 := hu 1 (by decide)
    have v2 := hu 2 (by decide)
    have v7 := hu 7 (by decide)
    have v8 := hu 8 (by decide)
    have v35 := hu 35 (by decide)
    have v36 := hu 36 (by decide)
    have v37 := hu 37 (by decide)
    simp [u1, u2, u7, u8, u35, u36, u37] at v1 v2 v7 v8 v35 v36 v37
    clear hu
    simp (disch := omega) [-getElem?_pos, if_pos, if_neg, decide_eq_true, decide_eq_false, v37, hkn, IntWalk.i64_in]
    exact ⟨by simp [v1], by simp [v2], by simp [v7], by simp [v8], by simp [v35], by simp [v36], by simp, w5, k15⟩
  · obtain rfl : k = 2 := by omega
    simp (disch := omega) [-getElem?_pos, if_pos, if_neg, decide_eq_true, decide_eq_false, ir_law18_DualBounds_l2, e36, e37]
    exact ⟨rfl, w', k'⟩
theorem DualBounds_abs {H : AH} {tv lv xv : Value} {L : List SetD} {T : List Bool} {X : List Int} (hg : GroundA G H) (hT : SlV (fun b => b < H.next) H tv T) (hL : SlV (fun b => b < H.next) H lv L) (hX : SlV (fun b => b < H.next) H xv X) : AFn Tryd.prog F_law18_DualBounds [tv, lv, xv] H fun u H' => u = .bool true ∧ H' = H := by
  refine AFn.calm (fun H0 hs => ?_) rfl
  have hn0 : H0.next = H.next := hs.1
  have hL0 := (hL.same hs).mono (q := fun b => b < H0.next) fun b hb => by omega
  have hT0 := (hT.same hs).mono (q := fun b => b < H0.next) fun b hb => by omega
  have hX0 := (hX.same hs).mono (q := fun b => b < H0.next) fun b hb => by omega
  have hg0 := hg.same hs
  clear hL hT hX
  refine AFn.enter mixed ir_law18_DualBounds_eq (by simp [ir_law18_DualBounds]) fun hw => ?_
  have hcT := hT0.cell
  have hcL := hL0.cell
  obtain ⟨xa, xc, rfl⟩ := hX0.slice
  simp (disch := omega) [-getElem?_pos, if_pos, if_neg, decide_eq_true, decide_eq_false, ir_law18_DualBounds, hcT.1, hcT.2, hcL.1, hcL.2]
  refine (lacks_spec hT0).mono' fun u H1 w1 ⟨sv, w, hu, hS, hW, k1⟩ => ?_
  subst hu
  have n1 := k1.next
  have hlen : (T.take 12).length ≤ 12 := by rw [List.length_take]; omega
  generalize T.take 12 = B at *
  obtain ⟨sl, rfl⟩ := setV hS
  obtain ⟨wa, wc, rfl⟩ := hW.slice
  obtain ⟨H2, hH2⟩ : ∃ H2, H2 = H1.alloc (.row [.int .i64 B.length, sl] T_bitset_Set true) := ⟨_, rfl⟩
  have k2 : Keep [] H1 H2 := by rw [hH2]; exact .alloc
  have w2 : WF H2 := by rw [hH2]; exact w1.alloc
  have n2 : H2.next = H1.next + 1 := by rw [hH2]; rfl
  have r2 : H2.cells H1.next = some [.int .i64 B.length, sl] := by rw [hH2]; exact AH.cells_alloc_new
  have k12 := k1.trans' k2
  have hX2 := (hX0.kept hw k12)
  obtain ⟨m, hm⟩ : ∃ m : Nat, m = min X.length 12 := ⟨_, rfl⟩
  obtain ⟨zv, hsl, hZ⟩ := hX2.sl (m := m) (by omega)
  have hmm : (if (12 : Int) < (X.length : Int) then (12 : Int) else (X.length : Int)) = (m : Int) := by split <;> omega
  have hyl : (X.take m).length = m := by rw [List.length_take]; omega
  generalize X.take m = Z at *
  obtain ⟨za, zc, rfl⟩ := hZ.slice
  simp only [sz_int] at hsl
  obtain ⟨cells, a', c', H3, S', pe, pa, hO, k3, w3, i3⟩ := OwnL.pushAll (p := fun _ => False) (q := fun b => b < H0.next) (ty := T_int64) (S := []) (l := ([] : List Int)) .nil w2 hZ 8 (fun _ h => h.elim) (fun b hb => by omega) (by simp) (by simp; omega) (by simp; omega)
  simp only [sz_int, List.length_nil, Nat.zero_add, List.nil_append] at pe pa hO
  simp (disch := omega) [-getElem?_pos, if_pos, if_neg, decide_eq_true, decide_eq_false, writeA, over, hS.one.1, hS.one.2, ↓ieval_slhi, hmm]
  rw [← hH2]
  simp (disch := omega) [-getElem?_pos, if_pos, if_neg, decide_eq_true, decide_eq_false, ↓ieval_slhi, hmm, hsl, pe, pa]
  have n3 := k3.next
  have hS'n : ∀ c ∈ S', H2.next ≤ c := fun c hc => by rcases i3 c hc with h | h; simp at h; exact h
  have hO3 : SlV (fun b => b < H3.next) H3 (.slice a' Z.length c') Z := by
    obtain ⟨cells, o1, o2, o3⟩ := hO
    have := o1.lt w3
    refine ⟨⟨by omega, ?_⟩, cells, o1.vw (fun b hb => this b hb), fun i hi => o2 i hi⟩
    rcases o1 with ⟨h, _⟩ | ⟨b, off, sp, cap, cs, h, _, _, _, _, _, hsp⟩
    · simp at h; rw [h.1]; exact .nil
    · simp at h; rw [h.1]; exact .of hsp
  obtain ⟨H4, hH4⟩ : ∃ H4, H4 = H3.alloc (.row [.int .i64 (-1), .int .i64 B.length] T_int true) := ⟨_, rfl⟩
  have k4 : Keep [] H3 H4 := by rw [hH4]; exact .alloc
  have w4 : WF H4 := by rw [hH4]; exact w3.alloc
  have n4 : H4.next = H3.next + 1 := by rw [hH4]; rfl
  have q4 : H4.cells H3.next = some [.int .i64 (-1), .int .i64 B.length] := by rw [hH4]; exact AH.cells_alloc_new
  rw [← hH4]
  have k24 := k3.trans' k4
  have k14 := k2.trans' k24
  have k04 := k1.trans' k14
  refine wpC_use (bounds_l2 (H1 := H4) (r := H1.next) (q := H3.next) (sl := sl) (T := B) (L := L) (X := Z) w4 (cells_kept w2 k24 r2) q4 (hS.up2 (fun b hb => by have := hb.2; omega) (.kept w1 k14)) ((hW.kept w1 k14).mono fun b hb => by omega) ((hL0.kept hw k04).mono fun b hb => by omega) ((hO3.kept w3 k4).mono fun b hb => by omega) (by omega) hlen ⟨by simp, by simp, by simp, by simp, by simp, by simp, by simp, w4, .refl⟩) ?_
  rintro e env2 H5 ⟨rfl, w5, k5⟩ _
  simp (disch := omega) [-getElem?_pos, if_pos, if_neg, decide_eq_true, decide_eq_false, ]
  refine AFn.pure (wakes18_spec (hg0.kept hw (k04.trans' k5))) ?_
  simp (disch := omega) [-getElem?_pos, if_pos, if_neg, decide_eq_true, decide_eq_false, ]
end Go.Proofs.YtejifalflkbekaaDoor
