/-
  KnapPrices: what items are worth by every price is the document's.
-/
import Derived.Test.YtllfcbacpoaphaaKr11
import Derived.Test.YtllfcbacpoaphaaKn12
import Derived.Test.YtllfcbacpoaphaaWak16
set_option maxRecDepth 100000
set_option linter.unusedSimpArgs false
set_option linter.unusedVariables false
namespace Go.Proofs.Ytllfcbacpoaphaa
open Go Go.Abs
def KpI (H1 : AH) (rv v m : Value) (n : Nat) (room r : Int) (k : Nat) (env : Env) (H' : AH) : Prop :=
  env 0 = some v ∧ env 1 = some (.int .i64 room) ∧ env 7 = some m ∧ env 8 = some (.int .i64 r) ∧ env 51 = some rv ∧ env 52 = some (.int .i64 n) ∧ env 53 = some (.int .i64 k) ∧ WF H' ∧ Keep [] H1 H'
def KpQ (e : AExit) (env : Env) (H' : AH) : Prop := e = .exit 0
theorem kpr_l0 {H1 : AH} {rv v m : Value} {R L T : List (Int × Int)} {room r : Int} (hw : WF H1) (hR : SlV (fun b => b < H1.next) H1 rv R) (hL : SlV (fun b => b < H1.next) H1 v L) (hT : SlV (fun b => b < H1.next) H1 m T) (hRl : R.length ≤ 10) {env : Env} (h : KpI H1 rv v m R.length room r 0 env H1) : wpC Try.prog 121 (.loop ir_law16_KnapPrices_l0) KpQ env H1 := by
  refine loop_upto R.length (KpI H1 rv v m R.length room r) (Q := KpQ) h ?_
  rintro k env H' hk ⟨e0, e1, e7, e8, e51, e52, e53, w', k'⟩
  have n' := k'.next
  by_cases hkn : k < R.length
  · obtain ⟨b0, off, sp, cap, cs, hcv, q1, q2⟩ := pairs_rd (hR.kept hw k') (by omega)
    obtain ⟨g1, g2, g3, g4, g5⟩ := q2 k hkn
    generalize R[k] = x at *
    obtain ⟨x0, x1⟩ := x
    simp only at g1 g2 g3 g4 g5
    rw [hcv] at e51
    have hc : ∀ {v : Value} {L : List (Int × Int)} {H2 : AH}, SlV (fun z => z < H1.next) H1 v L → Keep [] H1 H2 → SlV (fun z => z < H2.next) H2 v L := fun h hk => (h.kept hw hk).mono fun z hz => by have := hk.next; omega
    have hcL := hL.cell
    have hcT := hT.cell
    obtain ⟨H2, hH2⟩ : ∃ H2, H2 = H'.alloc (.row [.int .i64 x0, .int .i64 x1] T_ratio_Ratio true) := ⟨_, rfl⟩
    have k2 : Keep [] H' H2 := by rw [hH2]; exact .alloc
    have w2 : WF H2 := by rw [hH2]; exact w'.alloc
    have n2 : H2.next = H'.next + 1 := by rw [hH2]; rfl
    have c2 : H2.cells H'.next = some [.int .i64 x0, .int .i64 x1] := by rw [hH2]; exact AH.cells_alloc_new
    have k12 := k'.trans' k2
    obtain ⟨nR, hnR⟩ : ∃ nR, nR = R.length := ⟨_, rfl⟩
    have hkl : (k : Int) < (R.length : Int) := by omega
    simp (disch := omega) [-getElem?_pos, if_pos, if_neg, decide_eq_true, decide_eq_false, ir_law16_KnapPrices_l0, e0, e51, e52, e53, hkn, hkl, q1, g1, writeA, over, cut2i]
    rw [← hH2]
    refine (show AFn _ _ [_, .int .i64 ((30 : Nat) : Int)] _ _ from items_spec (m := 30) (hc hL k12) (by omega)).mono' fun u H3 w3 ⟨a, b, hu, hA, hB, k3⟩ => ?_
    subst hu
    have hcA := hA.cell
    have hcB := hB.cell
    have n3 := k3.next
    have k13 := k12.trans' k3
    simp (disch := omega) [-getElem?_pos, if_pos, if_neg, decide_eq_true, decide_eq_false, e7, hcA, hcB]
    refine (show AFn _ _ [_, .int .i64 ((30 : Nat) : Int)] _ _ from items_spec (m := 30) (hc hT k13) (by omega)).mono' fun u H4 w4 ⟨c, d, hu, hC, hD, k4⟩ => ?_
    subst hu
    have hcC := hC.cell
    have hcD := hD.cell
    have n4 := k4.next
    have k14 := k13.trans' k4
    have hA4 : SlV (fun b => b < H4.next) H4 a (L.take 30) := (hA.kept w3 k4).mono fun b hb => by omega
    have hB4 : SlV (fun b => b < H4.next) H4 b (L.take 30) := (hB.kept w3 k4).mono fun b hb => by omega
    have hC4 : SlV (fun b => b < H4.next) H4 c (T.take 30) := hC.mono fun b hb => hb.2
    have hD4 : SlV (fun b => b < H4.next) H4 d (T.take 30) := hD.mono fun b hb => by omega
    have hl1 : (L.take 30).length ≤ 40 := by rw [List.length_take]; omega
    have hl2 : (T.take 30).length ≤ 40 := by rw [List.length_take]; omega
    have p1 := Priced_spec (room := room) hA4 hl1 g4 g5
    have p2 := PricedR_spec (room := room) hB4 hl1 g4 g5
    have p3 := Priced_spec (room := r) hC4 hl2 g4 g5
    have p4 := PricedR_spec (room := r) hD4 hl2 g4 g5
    generalize prN (L.take 30) room x0 x1 = a1 at *
    generalize prF (L.take 30) room x0 x1 = a2 at *
    generalize prN (T.take 30) r x0 x1 = a3 at *
    generalize prF (T.take 30) r x0 x1 = a4 at *
    have c24 := cells_kept w2 (k3.trans' k4) c2
    have c24a : ([.int .i64 x0, .int .i64 x1] : List Value)[0]? = some (.int .i64 x0) := rfl
    simp (disch := omega) [-getElem?_pos, if_pos, if_neg, decide_eq_true, decide_eq_false, e1, hcC, hcD, c24, cut2i]
    refine AFn.pure p1 ?_
    simp (disch := omega) [-getElem?_pos, if_pos, if_neg, decide_eq_true, decide_eq_false, e1, c24, cut2i]
    refine AFn.pure p2 ?_
    simp (disch := omega) [-getElem?_pos, if_pos, if_neg, decide_eq_true, decide_eq_false, e8, c24, cut2i]
    refine AFn.pure p3 ?_
    simp (disch := omega) [-getElem?_pos, if_pos, if_neg, decide_eq_true, decide_eq_false, e8, c24, cut2i]
    refine AFn.pure p4 ?_
    simp (disch := omega) [-getElem?_pos, if_pos, if_neg, decide_eq_true, decide_eq_false, e53, IntWalk.i64_in]
    first
    | exact ⟨hkn, by simp [e0], by simp [e1], by simp [e7], by simp [e8], by simp [e51, hcv], by simp [e52], by simp, w4, k14⟩
    | exact ⟨by simp [e0], by simp [e1], by simp [e7], by simp [e8], by simp [e51, hcv], by simp [e52], by simp, w4, k14⟩
  · obtain rfl : k = R.length := by omega
    simp (disch := omega) [-getElem?_pos, if_pos, if_neg, decide_eq_true, decide_eq_false, ir_law16_KnapPrices_l0, e52, e53]
    exact rfl
theorem KnapPrices_abs {H : AH} {v : Value} {L : List (Int × Int)} {room p0 p1 : Int} (hL : SlV (fun b => b < H.next) H v L) (hl : L.length * 16 ≤ 140737488351232) (hp0 : I64 p0) (hp1 : I64 p1) : AFn Try.prog F_law16_KnapPrices [v, .int .i64 room, .agg #[.int .i64 p0, .int .i64 p1]] H fun u H' => u = .bool true ∧ H' = H := by
  refine AFn.calm (fun H0 hs => ?_) rfl
  have hn0 : H0.next = H.next := hs.1
  have hL0 := (hL.same hs).mono (q := fun b => b < H0.next) fun b hb => by omega
  clear hL
  refine AFn.enter mixed ir_law16_KnapPrices_eq (by simp [ir_law16_KnapPrices]) fun hw => ?_
  obtain ⟨Hz, hHz⟩ : ∃ Hz, Hz = H0.alloc (.row [.int .i64 p0, .int .i64 p1] T_2_int64 true) := ⟨_, rfl⟩
  have kz : Keep [] H0 Hz := by rw [hHz]; exact .alloc
  have wz : WF Hz := by rw [hHz]; exact hw.alloc
  have nz : Hz.next = H0.next + 1 := by rw [hHz]; rfl
  have c5 : Hz.cells H0.next = some [.int .i64 p0, .int .i64 p1] := by rw [hHz]; exact AH.cells_alloc_new
  have hLz := (hL0.kept hw kz).mono (q := fun b => b < Hz.next) fun b hb => by omega
  have hcL := hLz.cell
  simp (disch := omega) [-getElem?_pos, if_pos, if_neg, decide_eq_true, decide_eq_false, ir_law16_KnapPrices]
  rw [← hHz]
  refine (tame_spec hLz hl).mono' fun u H1 w1 ⟨w, hu, hT, k1⟩ => ?_
  subst hu
  have hcT := hT.cell
  have n1 := k1.next
  have c51 := cells_kept wz k1 c5
  obtain ⟨H2, hH2⟩ : ∃ H2, H2 = H1.alloc (.row [.int .i64 p0, .int .i64 p1] T_ratio_Ratio true) := ⟨_, rfl⟩
  have k2 : Keep [] H1 H2 := by rw [hH2]; exact .alloc
  have w2 : WF H2 := by rw [hH2]; exact w1.alloc
  have n2 : H2.next = H1.next + 1 := by rw [hH2]; rfl
  have c52 := cells_kept w1 k2 c51
  have hO : OwnL (fun _ => False) H2 T_ratio_Ratio (.slice (some ⟨H1.next, 0, none⟩) 1 1) [(p0, p1)] [H1.next] := by
    rw [hH2]
    exact ⟨[.int .i64 p0, .int .i64 p1], .inr ⟨H1.next, 0, none, 1, [.int .i64 p0, .int .i64 p1], rfl, rfl, AH.alloc_blk_new, by simp, by simp, by simp, .inl rfl⟩, fun i hi => by
      have : i = 0 := by simpa using hi
      subst this
      exact ⟨rfl, hp0, hp1⟩, by simp⟩
  simp (disch := omega) [-getElem?_pos, if_pos, if_neg, decide_eq_true, decide_eq_false, hcT, c51, cut2i]
  rw [← hH2]
  try simp (disch := omega) [-getElem?_pos, if_pos, if_neg, decide_eq_true, decide_eq_false, c52]
  refine (Make_spec (H := H2) hp0 hp1).mono' fun u H3 w3 ⟨hu, k3⟩ => ?_
  subst hu
  have n3 := k3.next
  have hgood : mkOk p0 p1 = true → I64 (mkNum p0 p1) ∧ I64 (mkDen p0 p1) := fun h => by
    unfold mkNum mkDen
    rw [h]
    unfold mkOk at h
    rw [Bool.and_eq_true, Bool.and_eq_true, decide_eq_true_iff, decide_eq_true_iff, decide_eq_true_iff] at h
    have hb := (mk_exact (n := p0) h.1.1).2.2.2
    unfold I64
    exact ⟨h.1.2, by simp only [if_true]; omega, h.2⟩
  generalize mkNum p0 p1 = r1 at *
  generalize mkDen p0 p1 = r2 at *
  obtain ⟨H4, hH4⟩ : ∃ H4, H4 = H3.alloc (.row [.int .i64 r1, .int .i64 r2] T_ratio_Ratio true) := ⟨_, rfl⟩
  have k34 : Keep [] H3 H4 := by rw [hH4]; exact .alloc
  have w4 : WF H4 := by rw [hH4]; exact w3.alloc
  have n4 : H4.next = H3.next + 1 := by rw [hH4]; rfl
  have k24 := k3.trans' k34
  have c10 : H4.cells H3.next = some [.int .i64 r1, .int .i64 r2] := by rw [hH4]; exact AH.cells_alloc_new
  have hO4 := hO.kept w2 k24
  have kz4 := k1.trans' (k2.trans' k24)
  have hL4 : SlV (fun b => b < H4.next) H4 v L := (hLz.kept wz kz4).mono fun b hb => by omega
  have hT4 : SlV (fun b => b < H4.next) H4 w (tameI L) := (hT.kept w1 (k2.trans' k24)).mono fun b hb => by omega
  cases hmo : mkOk p0 p1 with
  | false =>
    simp (disch := omega) [-getElem?_pos, if_pos, if_neg, decide_eq_true, decide_eq_false, writeA, over, cut2i]
    rw [← hH4]
    refine wpC_use (kpr_l0 (H1 := H4) (R := [(p0, p1)]) (room := room) (r := magI room) w4 (hO4.slv (fun _ h => h.elim) (fun b hb => by simp at hb; omega) (by simp)) hL4 hT4 (by simp) ⟨by simp, by simp, by simp, by simp, by simp, by simp, by simp, w4, .refl⟩) ?_
    rintro e env2 H7 rfl _
    simp (disch := omega) [-getElem?_pos, if_pos, if_neg, decide_eq_true, decide_eq_false, ]
    refine AFn.pure wakes16_spec ?_
    simp (disch := omega) [-getElem?_pos, if_pos, if_neg, decide_eq_true, decide_eq_false, ]
  | true =>
    obtain ⟨i1, i2⟩ := hgood hmo
    obtain ⟨va, vc, H6, S6, q1, hO6, k6, w6, hS6⟩ := hO4.push (q := fun _ => False) w4 (cs := [.int .i64 r1, .int .i64 r2]) (a := (r1, r2)) ⟨rfl, i1, i2⟩ T_ratio_Ratio 16 (fun _ h => h) (fun b hb => hb.elim) (by simp) (by simp) (by simp)
    have hsz : Ren.sz (Int × Int) = 2 := rfl
    rw [hsz] at q1
    have hln : [(p0, p1)].length = 1 := rfl
    rw [hln] at q1 hO6
    have he : elemsA (H4.alloc (.row [.int .i64 r1, .int .i64 r2] T_ratio_Ratio true)) 2 (.slice (some ⟨H4.next, 0, none⟩) 1 1) = some [.int .i64 r1, .int .i64 r2] := elems_one rfl
    have k46 : Keep [H1.next] H4 H6 := k6
    have n6 := k6.next
    have hup : ∀ {v : Value} {L : List (Int × Int)}, SlV (fun b => b ≠ H1.next) H4 v L → SlV (fun b => b ≠ H1.next) H6 v L := fun h => h.sub (.keep w4 k46 fun z hz h => h (by simpa using hz))
    have hL6 : SlV (fun b => b ≠ H1.next) H6 v L := hup ((hLz.kept wz kz4).mono fun b hb => by omega)
    have hT6 : SlV (fun b => b ≠ H1.next) H6 w (tameI L) := hup ((hT.kept w1 (k2.trans' k24)).mono fun b hb => by omega)
    have lt6 : ∀ {v : Value} {L : List (Int × Int)}, SlV (fun b => b ≠ H1.next) H6 v L → SlV (fun b => b < H6.next) H6 v L := fun h => by
      obtain ⟨h1, cells, ⟨h2, h3⟩, h4⟩ := h
      refine ⟨h1, cells, ⟨h2, h3.imp id ?_⟩, h4⟩
      rintro ⟨b, off, sp, cap, cs, e1, e2, e3, e4, e5, e6⟩
      exact ⟨b, off, sp, cap, cs, e1, e2, e3, e4, e5, cells_lt w6 e4⟩
    have ne1 : H1.next ≠ H3.next := by omega
    simp (disch := omega) [-getElem?_pos, if_pos, if_neg, decide_eq_true, decide_eq_false, writeA, over, cut2i, c10]
    rw [← hH4]
    have he2 := he
    rw [n4] at he2
    simp (disch := omega) [-getElem?_pos, if_pos, if_neg, decide_eq_true, decide_eq_false, c10, cut2i, he, he2, q1]
    have hRs := hO6.slv (q := fun b => b < H6.next) (fun _ h => h.elim) (fun b hb => hO6.lt w6 b hb) (by simp)
    refine wpC_use (kpr_l0 (H1 := H6) (R := [(p0, p1)] ++ [(r1, r2)]) (room := room) (r := magI room) w6 hRs (lt6 hL6) (lt6 hT6) (by simp) ⟨by simp, by simp, by simp, by simp, by simp, by simp, by simp, w6, .refl⟩) ?_
    rintro e env2 H7 rfl _
    simp (disch := omega) [-getElem?_pos, if_pos, if_neg, decide_eq_true, decide_eq_false, ]
    refine AFn.pure wakes16_spec ?_
    simp (disch := omega) [-getElem?_pos, if_pos, if_neg, decide_eq_true, decide_eq_false, ]
end Go.Proofs.Ytllfcbacpoaphaa
