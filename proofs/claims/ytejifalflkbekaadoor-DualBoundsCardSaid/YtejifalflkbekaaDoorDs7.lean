/-
  package dual: Prices; DualPrices.
-/
import Derived.Test.YtejifalflkbekaaDoorDs6
import Derived.Test.YtejifalflkbekaaDoorWak18
set_option maxRecDepth 100000
set_option linter.unusedSimpArgs false
set_option linter.unusedVariables false
namespace Go.Proofs.YtejifalflkbekaaDoor
open Go Go.Abs Go.Proofs.YtejifalflkbekaaDoor.Bs
theorem Bs.SetB.kept' {p : Nat → Prop} {H H' : AH} {v : Value} {B : List Bool} (h : SetB p H v B) (hw : WF H) (hk : Keep [] H H') : SetB p H' v B := h.up2 (fun _ h => h) (.kept hw hk)
theorem Prices_spec {H : AH} {sv lv : Value} {L : List SetD} {T : List Bool} (hg : GroundA G H) (hs : SetB (fun b => b < H.next) H sv T) (hL : SlV (fun b => b < H.next) H lv L) (hn : T.length ≤ 12) (hl : L.length ≤ 30) (hel : ∀ s ∈ L, s.elems.length ≤ 30) : AFn Tryd.prog F_dual_Prices [sv, lv] H (PrV H (prA L T)) := by
  obtain ⟨sl, rfl⟩ := setV hs
  obtain ⟨la, lc, rfl⟩ := hL.slice
  refine AFn.enter mixed ir_dual_Prices_eq (by simp [ir_dual_Prices]) fun hw => ?_
  obtain ⟨H1, hH1⟩ : ∃ H1, H1 = H.alloc (.row [.int .i64 T.length, sl] T_bitset_Set true) := ⟨_, rfl⟩
  have k1 : Keep [] H H1 := by rw [hH1]; exact .alloc
  have w1 : WF H1 := by rw [hH1]; exact hw.alloc
  have n1 : H1.next = H.next + 1 := by rw [hH1]; rfl
  have c1 : H1.cells H.next = some [.int .i64 T.length, sl] := by rw [hH1]; exact AH.cells_alloc_new
  have hs1 := hs.kept' hw k1
  have hL1 := hL.kept hw k1
  have hpa : prA L T = if mayD T.length L then prL L T.length (idxs T) else none := rfl
  rw [hpa]
  simp (disch := omega) [-getElem?_pos, if_pos, if_neg, decide_eq_true, decide_eq_false, ir_dual_Prices, hs.one.1, hs.one.2, cut2v]
  rw [← hH1]
  refine AFn.pure (Size_spec hs1) ?_
  simp (disch := omega) [-getElem?_pos, if_pos, if_neg, decide_eq_true, decide_eq_false, ]
  refine AFn.pure (may_spec (n := (T.length : Int)) (by unfold I64; omega) hL1) ?_
  cases hm : mayD T.length L with
  | false =>
    simp (disch := omega) [-getElem?_pos, if_pos, if_neg, decide_eq_true, decide_eq_false, ]
    exact ⟨_, rfl, .nil, k1⟩
  | true =>
    have hD := mayD_ok hm
    rw [if_pos rfl]
    simp (disch := omega) [-getElem?_pos, if_pos, if_neg, decide_eq_true, decide_eq_false, c1, cut2v]
    refine AFn.pure (Size_spec hs1) ?_
    have hz := rI_zero T.length
    have hz2 := mapI_zero L.length
    simp (disch := omega) [-getElem?_pos, if_pos, if_neg, decide_eq_true, decide_eq_false, ← hz, ← hz2, writeA, over]
    obtain ⟨H2, hH2⟩ : ∃ H2, H2 = H1.alloc (.row (rI (List.replicate T.length 0)) T_int64 true) := ⟨_, rfl⟩
    have k2 : Keep [] H1 H2 := by rw [hH2]; exact .alloc
    have w2 : WF H2 := by rw [hH2]; exact w1.alloc
    have n2 : H2.next = H1.next + 1 := by rw [hH2]; rfl
    have b2 : H2.blk H1.next = some (.row (rI (List.replicate T.length 0)) T_int64 true) := by rw [hH2]; exact AH.alloc_blk_new
    obtain ⟨H3, hH3⟩ : ∃ H3, H3 = H2.alloc (.row (rI (mapI (fun _ => 0) L.length)) T_int64 true) := ⟨_, rfl⟩
    have k3 : Keep [] H2 H3 := by rw [hH3]; exact .alloc
    have w3 : WF H3 := by rw [hH3]; exact w2.alloc
    have n3 : H3.next = H2.next + 1 := by rw [hH3]; rfl
    have b3 : H3.blk H2.next = some (.row (rI (mapI (fun _ => 0) L.length)) T_int64 true) := by rw [hH3]; exact AH.alloc_blk_new
    obtain ⟨H4, hH4⟩ : ∃ H4, H4 = H3.alloc (.row [.slice (some ⟨H2.next, 0, none⟩) L.length L.length] T_Lint64 true) := ⟨_, rfl⟩
    have k4 : Keep [] H3 H4 := by rw [hH4]; exact .alloc
    have w4 : WF H4 := by rw [hH4]; exact w3.alloc
    have n4 : H4.next = H3.next + 1 := by rw [hH4]; rfl
    have b4 : H4.blk H3.next = some (.row [.slice (some ⟨H2.next, 0, none⟩) L.length L.length] T_Lint64 true) := by rw [hH4]; exact AH.alloc_blk_new
    have k14 : Keep [] H1 H4 := k2.trans' (k3.trans' k4)
    have hL4 := (hL1.kept w1 k14)
    have b4l := (k4.blk H2.next (by omega) (by simp)).trans b3
    have b4p := ((k3.trans' k4).blk H1.next (by omega) (by simp)).trans b2
    have e2 : H1.next + 1 = H2.next := n2.symm
    have e3 : H2.next + 1 = H3.next := n3.symm
    rw [← hH2, ← hH3, e2, e3, AH.alloc_set, ← hH4]
    have hq4 := AH.cells_of b4
    have hself : mapI (fun i => if i < 0 then lfN L [] i else 0) L.length = mapI (fun _ => 0) L.length := mapI_congr fun j hj => by simp
    refine wpC_use (prices_l3 (H1 := H4) (q := H3.next) (bl := H2.next) (lv := .slice la L.length lc) (L := L) w4 (by omega) (by omega) hq4 (hL4.mono fun c hc => by omega) hl ⟨by simp, by simp, by simp, by simp, w4, .refl, by rw [hself]; exact b4l⟩) ?_
    rintro x env2 H5 ⟨rfl, w5, k5, b5l⟩ hu
    have u1 := hu 1 (by decide)
    have u2 := hu 2 (by decide)
    have u6 := hu 6 (by decide)
    have u7 := hu 7 (by decide)
    simp at u1 u2 u6 u7
    clear hu
    have n5 := k5.next
    have k45 : Keep [H2.next] H H5 := (k1.trans' k14).mono (by simp) |>.trans' k5
    have kH5 : Keep [] H H5 := ⟨by omega, fun b hb _ => k45.blk b hb (by simp; omega)⟩
    have c5 : H5.cells H.next = some [.int .i64 T.length, sl] := cells_keep w4 k5 (by simp; omega) (cells_kept w1 k14 c1)
    have hs5 := hs.kept' hw kH5
    have hg5 := hg.kept hw kH5
    simp (disch := omega) [-getElem?_pos, if_pos, if_neg, decide_eq_true, decide_eq_false, u2, c5, cut2v]
    refine (List_spec hg5 hs5).mono' fun u H6 w6 ⟨S, hO, k6, hS⟩ => ?_
    have n6 := k6.next
    have hOn := hO.lt w6
    have hIl : ∀ e ∈ idxs T, e < T.length := fun e he => (idxs_mem.1 he).1
    have hIlen : (idxs T).length ≤ T.length := idxTo_length T T.length
    have hOr : ((idxs T).map fun k => Value.int .i64 (k : Nat)) = rI ((idxs T).map fun (i : Nat) => (i : Int)) := by simp [rI]
    rw [hOr] at hO
    have hO' : Own H6 T_int 1 u ((idxs T).map fun (i : Nat) => (i : Int)).length (rI ((idxs T).map fun (i : Nat) => (i : Int))) S := by rw [List.length_map]; exact hO
    have hI6 : SlV (fun c => c ≠ H1.next ∧ c ≠ H2.next) H6 u ((idxs T).map fun (i : Nat) => (i : Int)) := own_slv hO' (fun x hx => by
      obtain ⟨i, hi, rfl⟩ := List.mem_map.1 hx
      have := hIl i hi
      unfold I64; omega) (fun c hc => by have := hS c hc; omega) (by simp; omega)
    obtain ⟨ua, uc, hu6⟩ := hI6.slice
    rw [List.length_map] at hu6
    have b6l := (k6.blk H2.next (by omega) (by simp)).trans b5l
    have b6p : H6.blk H1.next = some (.row (rI (List.replicate T.length 0)) T_int64 true) := by rw [k6.blk _ (by omega) (by simp), k5.blk _ (by omega) (by simp; omega)]; exact b4p
    have c6 : H6.cells H3.next = some [.slice (some ⟨H2.next, 0, none⟩) L.length L.length] := cells_kept w5 k6 (cells_keep w4 k5 (by simp; omega) hq4)
    have hL6 : SlV (fun c => c ≠ H1.next ∧ c ≠ H2.next) H6 (.slice la L.length lc) L := ((hL.kept hw (kH5.trans' k6)).mono fun c hc => by omega)
    have hl0 : mapI (lfN L []) L.length = mapI (lfN L (List.replicate T.length 0)) L.length := mapI_congr fun j hj => by rw [lfN_eq hj, lfN_eq hj, spent_none, spent_zeros]
    rw [hl0] at b6l
    rw [hu6]
    rw [hu6] at hI6
    simp (disch := omega) [-getElem?_pos, if_pos, if_neg, decide_eq_true, decide_eq_false, u1, u6, u7]
    refine wpC_use (prices_l2 (H1 := H6) (bp := H1.next) (bl := H2.next) (q := H3.next) (n := T.length) (lv := .slice la L.length lc) (iv := .slice ua (idxs T).length uc) (L := L) (I := idxs T) w6 (by omega) (by omega) (by omega) (by omega) (by omega) c6 hL6 hI6 (idxs_nodup T _) (by omega) hIl hn hD hl hel ⟨by simp [u1], by simp [u6], by simp [u7], by simp, by simp, by simp, _, ⟨w6, .refl, b6p, b6l⟩, rfl⟩) ?_
    have hfin : ∀ H7 P, PmH H6 H7 H1.next H2.next L P → Keep [] H H7 := fun H7 P h => ⟨by have := h.keep.next; omega, fun b hb _ => by rw [h.keep.blk b (by omega) (by simp; omega), k6.blk b (by omega) (by simp), kH5.blk b hb (by simp)]⟩
    rintro x env3 H7 (⟨rfl, f6, P, hP, hpr⟩ | ⟨rfl, f4, f5, ⟨P, hP⟩, hpr⟩) _
    · obtain ⟨hok, _⟩ := prL_ok hD (idxs T) (idxs_nodup T _) hIl P hpr
      have hPs := slv_rI (H := H7) (q := H1.next) (X := P) (AH.cells_of hP.p) (prOk_mem hok) (by rw [hok.len]; omega)
      rw [hok.len] at hPs
      have := hP.keep.next
      simp (disch := omega) [-getElem?_pos, if_pos, if_neg, decide_eq_true, decide_eq_false, f6]
      rw [hpr]
      exact ⟨_, rfl, hPs.mono fun c hc => ⟨by omega, by omega⟩, hfin _ _ hP⟩
    · simp (disch := omega) [-getElem?_pos, if_pos, if_neg, decide_eq_true, decide_eq_false, f4, f5]
      rw [hpr]
      exact ⟨_, rfl, .nil, hfin _ _ hP⟩
/-! ### DualPrices -/
def SaI (H1 : AH) (v w : Value) (n : Nat) (k : Nat) (env : Env) (H' : AH) : Prop :=
  env 0 = some v ∧ env 1 = some w ∧ env 12 = some (.int .i64 n) ∧ env 13 = some (.int .i64 k) ∧ H' = H1
def SaQ (H1 : AH) (e : AExit) (env : Env) (H' : AH) : Prop := e = .exit 0 ∧ H' = H1
theorem same18_l0 {p q : Nat → Prop} {H1 : AH} {v w : Value} {A : List Int} (hA : SlV p H1 v A) (hB : SlV q H1 w A) {env : Env} (h : SaI H1 v w A.length 0 env H1) : wpC Tryd.prog 26 (.loop ir_law18_same_l0) (SaQ H1) env H1 := by
  refine loop_upto A.length (SaI H1 v w A.length) (Q := SaQ H1) h ?_
  rintro k env H' hk ⟨e0, e1, e12, e13, rfl⟩
  by_cases hkn : k < A.length
  · obtain ⟨b0, off, sp, cap, cs, hcv, q1, q2⟩ := ints_rd hA (by omega)
    obtain ⟨q3, _⟩ := q2 k hkn
    obtain ⟨b1, off1, sp1, cap1, cs1, hcv1, p1, p2⟩ := ints_rd hB (by omega)
    obtain ⟨p3, _⟩ := p2 k hkn
    subst hcv hcv1
    generalize A[k] = x at *
    have hmx := hA.max
    have hws : IntKind.i64.wrap ((k : Int) + 1) = (k : Int) + 1 := IntWalk.i64_in _ (by omega)
    simp (disch := omega) [-getElem?_pos, if_pos, if_neg, decide_eq_true, decide_eq_false, ir_law18_same_l0, e0, e1, e12, e13, hkn, q1, q3, p1, p3, hws]
    exact ⟨by simp [e0], by simp [e1], by simp [e12], by simp, rfl⟩
  · obtain rfl : k = A.length := by omega
    simp (disch := omega) [-getElem?_pos, if_pos, if_neg, decide_eq_true, decide_eq_false, ir_law18_same_l0, e12, e13]
    exact ⟨rfl, rfl⟩
theorem same18_spec {p q : Nat → Prop} {H : AH} {v w : Value} {A : List Int} (hA : SlV p H v A) (hB : SlV q H w A) : AFn Tryd.prog F_law18_same [v, w] H fun u H' => u = .bool true ∧ H' = H := by
  refine AFn.enter mixed ir_law18_same_eq (by simp [ir_law18_same]) fun hw => ?_
  obtain ⟨xa, xc, hv⟩ := hA.slice
  obtain ⟨ya, yc, hw2⟩ := hB.slice
  subst hv hw2
  simp (disch := omega) [-getElem?_pos, if_pos, if_neg, decide_eq_true, decide_eq_false, ir_law18_same]
  refine wpC_use (same18_l0 hA hB ⟨by simp, by simp, by simp, by simp, rfl⟩) ?_
  rintro e env2 H2 ⟨rfl, rfl⟩ _
  simp (disch := omega) [-getElem?_pos, if_pos, if_neg, decide_eq_true, decide_eq_false, ]
def DpI (H1 : AH) (r q : Nat) (lv tv : Value) (n : Nat) (k : Nat) (env : Env) (H' : AH) : Prop :=
  env 1 = some lv ∧ env 5 = some (.pointer (some ⟨r, 0, none⟩)) ∧ env 6 = some tv ∧ env 22 = some (.slice (some ⟨q, 0, none⟩) 2 2) ∧ env 23 = some (.int .i64 2) ∧ env 24 = some (.int .i64 k) ∧ WF H' ∧ Keep [] H1 H'
def DpQ (H1 : AH) (e : AExit) (env : Env) (H' : AH) : Prop := e = .exit 0 ∧ WF H' ∧ Keep [] H1 H'
theorem eqv_bool (b : Bool) : True := trivial
theorem dualPrices_l0 {H1 : AH} {r q : Nat} {lv sl tv : Value} {L : List SetD} {T : List Bool} (hw : WF H1) (hg : GroundA G H1) (hr : H1.cells r = some [.int .i64 T.length, sl]) (hq : H1.cells q = some [.int .i64 (-1), .int .i64 T.length]) (hs : SetB (fun b => b < H1.next) H1 (.agg #[.int .i64 T.length, sl]) T) (hT : SlV (fun b => b < H1.next) H1 tv T) (hL : SlV (fun b => b < H1.next) H1 lv L) (hn : T.length ≤ 12) {env : Env} (h : DpI H1 r q lv tv T.length 0 env H1) :
    wpC Tryd.prog 57 (.loop ir_law18_DualPrices_l0) (DpQ H1) env H1 := by
  refine loop_upto 2 (DpI H1 r q lv tv T.length) (Q := DpQ H1) h ?_
  rintro k env H' hk ⟨e1, e5, e6, e22, e23, e24, w', k'⟩
  have n' := k'.next
  by_cases hkn : k < 2
  · have up : ∀ {v : Value} {α : Type} [Ren α] {l : List α} {Ha Hb : AH}, SlV (fun b => b < Ha.next) Ha v l → WF Ha → Keep [] Ha Hb → SlV (fun b => b < Hb.next) Hb v l := fun h hw k => (h.kept hw k).mono fun b hb => by have := k.next; omega
    have ups : ∀ {Ha Hb : AH} {v : Value}, SetB (fun b => b < Ha.next) Ha v T → WF Ha → Keep [] Ha Hb → SetB (fun b => b < Hb.next) Hb v T := fun h hw k => h.up2 (fun b hb => by have := k.next; omega) (.kept hw k)
    have hq' := cells_kept hw k' hq
    obtain ⟨sz, hsz, hsz2, hrd⟩ : ∃ sz : Int, (sz = -1 ∨ ∃ m : Nat, sz = m ∧ m ≤ 12) ∧ I64 sz ∧ [Value.int .i64 (-1), .int .i64 (T.length : Int)][k]? = some (.int .i64 sz) := by
      have : k = 0 ∨ k = 1 := by omega
      rcases this with rfl | rfl
      · exact ⟨-1, .inl rfl, by unfold I64; omega, rfl⟩
      · exact ⟨T.length, .inr ⟨_, rfl, hn⟩, by unfold I64; omega, rfl⟩
    have hk2 : (k : Int) < 2 := by omega
    obtain ⟨la, lc, hle⟩ := hL.slice
    have hcL := hL.cell
    simp (disch := omega) [-getElem?_pos, if_pos, if_neg, decide_eq_true, decide_eq_false, ir_law18_DualPrices_l0, e1, e5, e6, e22, e23, e24, hkn, hk2, hq', hrd, hcL.1, hcL.2]
    refine (sets_spec (up hL hw k') hsz).mono' fun u H2 w2 ⟨a, b, M, hu, hA, hB, hMl, hMo, k2⟩ => ?_
    subst hu
    have hcA := hA.cell
    have hcB := hB.cell
    have hcT := hT.cell
    have k12 := k'.trans' k2
    have n2 := k2.next
    have r2 := cells_kept hw k12 hr
    have hM30 : M.length ≤ 30 := by omega
    have hMe : ∀ s ∈ M, s.elems.length ≤ 30 := fun s hs => (hMo s hs).1
    have hs2 := ups hs hw k12
    simp (disch := omega) [-getElem?_pos, if_pos, if_neg, decide_eq_true, decide_eq_false, e5, e6, r2, cut2v, hcA.1, hcA.2, hcB.1, hcB.2]
    refine (Prices_spec (hg.kept hw k12) hs2 (hA.mono fun b hb => hb.2) hn hM30 hMe).mono' fun u H3 w3 ⟨pv, hu, hP, k3⟩ => ?_
    subst hu
    have hcP := hP.cell
    have n3 := k3.next
    simp (disch := omega) [-getElem?_pos, if_pos, if_neg, decide_eq_true, decide_eq_false, e6, hcP.1, hcP.2, hcB.1, hcB.2, hcT.1, hcT.2]
    refine (PricesR_spec (up (hB.mono (q := fun b => b < H2.next) fun b hb => hb.2) w2 k3) (up (up hT hw k12) w2 k3) hn hM30 hMe).mono' fun u H4 w4 ⟨qv, hu, hQ, k4⟩ => ?_
    subst hu
    have hcQ := hQ.cell
    simp (disch := omega) [-getElem?_pos, if_pos, if_neg, decide_eq_true, decide_eq_false, hcP.1, hcP.2, hcQ.1, hcQ.2]
    refine AFn.pure (same18_spec (hP.kept w3 k4) hQ) ?_
    generalize (prA M T).isSome = ob
    have k14 := k12.trans' (k3.trans' k4)
    simp (disch := omega) [-getElem?_pos, if_pos, if_neg, decide_eq_true, decide_eq_false, e24, hkn, IntWalk.i64_in]
    exact ⟨by simp [e1], by simp [e5], by simp [e6], by simp [e22], by simp [e23], by simp, w4, k14⟩
  · obtain rfl : k = 2 := by omega
    simp (disch := omega) [-getElem?_pos, if_pos, if_neg, decide_eq_true, decide_eq_false, ir_law18_DualPrices_l0, e23, e24]
    exact ⟨rfl, w', k'⟩
theorem DualPrices_abs {H : AH} {tv lv : Value} {L : List SetD} {T : List Bool} (hg : GroundA G H) (hT : SlV (fun b => b < H.next) H tv T) (hL : SlV (fun b => b < H.next) H lv L) : AFn Tryd.prog F_law18_DualPrices [tv, lv] H fun u H' => u = .bool true ∧ H' = H := by
  refine AFn.calm (fun H0 hs => ?_) rfl
  have hn0 : H0.next = H.next := hs.1
  have hL0 := (hL.same hs).mono (q := fun b => b < H0.next) fun b hb => by omega
  have hT0 := (hT.same hs).mono (q := fun b => b < H0.next) fun b hb => by omega
  have hg0 := hg.same hs
  clear hL hT
  refine AFn.enter mixed ir_law18_DualPrices_eq (by simp [ir_law18_DualPrices]) fun hw => ?_
  have hcT := hT0.cell
  have hcL := hL0.cell
  simp (disch := omega) [-getElem?_pos, if_pos, if_neg, decide_eq_true, decide_eq_false, ir_law18_DualPrices, hcT.1, hcT.2, hcL.1, hcL.2]
  refine (lacks_spec hT0).mono' fun u H1 w1 ⟨sv, w, hu, hS, hW, k1⟩ => ?_
  subst hu
  have n1 := k1.next
  have hlen : (T.take 12).length ≤ 12 := by rw [List.length_take]; omega
  generalize T.take 12 = B at *
  obtain ⟨sl, rfl⟩ := setV hS
  obtain ⟨wa, wc, rfl⟩ := hW.slice
  simp (disch := omega) [-getElem?_pos, if_pos, if_neg, decide_eq_true, decide_eq_false, writeA, over, hS.one.1, hS.one.2]
  generalize hH2 : AH.alloc (AH.alloc H1 _) _ = H2
  have k2 : Keep [] H1 H2 := by rw [← hH2]; exact .trans' .alloc .alloc
  have w2 : WF H2 := by rw [← hH2]; exact (w1.alloc).alloc
  have n2 : H2.next = H1.next + 2 := by rw [← hH2]; rfl
  have r2 : H2.cells H1.next = some [.int .i64 B.length, sl] := by rw [← hH2, AH.cells_alloc_ne (by simp)]; exact AH.cells_alloc_new
  have q2 : H2.cells (H1.next + 1) = some [.int .i64 (-1), .int .i64 B.length] := by rw [← hH2]; exact AH.cells_alloc_new
  have k12 := k1.trans' k2
  refine wpC_use (dualPrices_l0 (H1 := H2) (r := H1.next) (q := H1.next + 1) (sl := sl) (T := B) (L := L) w2 (hg0.kept hw k12) r2 q2 (hS.up2 (fun b hb => by have := hb.2; omega) (.kept w1 k2)) ((hW.kept w1 k2).mono fun b hb => by omega) ((hL0.kept hw k12).mono fun b hb => by omega) hlen ⟨by simp, by simp, by simp, by simp, by simp, by simp, w2, .refl⟩) ?_
  rintro e env2 H3 ⟨rfl, w3, k3⟩ _
  simp (disch := omega) [-getElem?_pos, if_pos, if_neg, decide_eq_true, decide_eq_false, ]
  refine AFn.pure (wakes18_spec (hg0.kept hw (k12.trans' k3))) ?_
  simp (disch := omega) [-getElem?_pos, if_pos, if_neg, decide_eq_true, decide_eq_false, ]
end Go.Proofs.YtejifalflkbekaaDoor
