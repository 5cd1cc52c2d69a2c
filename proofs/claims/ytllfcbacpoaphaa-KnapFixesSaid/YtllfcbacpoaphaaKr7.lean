/-
  The document's Fix.
-/
import Derived.Test.YtllfcbacpoaphaaKr5
import Derived.Test.YtllfcbacpoaphaaKn13
import Derived.Test.YtllfcbacpoaphaaSlLo
import Derived.Test.YtllfcbacpoaphaaOwnAll
set_option maxRecDepth 100000
set_option linter.unusedSimpArgs false
set_option linter.unusedVariables false
namespace Go.Proofs.Ytllfcbacpoaphaa
open Go Go.Abs
def FrI (H : AH) (v : Value) (L : List (Int × Int)) (room worth : Int) (k : Nat) (env : Env) (H' : AH) : Prop :=
  env 0 = some v ∧ env 1 = some (.int .i64 room) ∧ env 2 = some (.int .i64 worth) ∧ env 12 = some (.int .i64 k) ∧ WF H' ∧ Keep [] H H' ∧
    ∃ a S b T, env 10 = some a ∧ env 11 = some b ∧ OwnL (fun _ => False) H' T_int a (selK (inB L room worth) k) S ∧ OwnL (fun _ => False) H' T_int b (selK (outB L room worth) k) T ∧ (∀ c ∈ S, H.next ≤ c) ∧ (∀ c ∈ T, H.next ≤ c) ∧ ∀ c ∈ S, c ∉ T
def FrQ (H : AH) (v : Value) (L : List (Int × Int)) (room worth : Int) (e : AExit) (env : Env) (H' : AH) : Prop := e = .exit 0 ∧ FrI H v L room worth L.length env H'
theorem fixR_l0 {H : AH} {v : Value} {L : List (Int × Int)} {room worth : Int} (hw : WF H) (hL : SlV (fun b => b < H.next) H v L) (hok : ItOk L room) (hl : L.length ≤ 40) (hwo : I64 worth) {env : Env} (h : FrI H v L room worth 0 env H) :
    wpC Try.prog 99 (.loop ir_ref16_Fix_l0) (FrQ H v L room worth) env H := by
  refine loop_upto L.length (FrI H v L room worth) (Q := FrQ H v L room worth) h ?_
  rintro k env H' hk ⟨e0, e1, e2, e12, w', k', a, S, b, T, e10, e11, hA, hB, hS, hT, hST⟩
  by_cases hkn : k < L.length
  · have hn' := k'.next
    have hL' := hL.kept hw k'
    obtain ⟨b0, off, sp, cap, cs, hcv, q1, q2⟩ := pairs_rd hL (by omega)
    obtain ⟨g1, g2, g3, g4, g5⟩ := q2 k hkn
    have hval := hok.val L[k] (List.getElem_mem hkn)
    have hitm := itm_get hkn
    have hin : inB L room worth k = decide ((relL (L.eraseIdx k) room).1 ≤ worth) := rfl
    have hout : outB L room worth k = decide (room < (itm L k).2 ∨ (itm L k).1 + (relL (L.eraseIdx k) (room - (itm L k).2)).1 ≤ worth) := rfl
    rw [hitm] at hout
    have hel : (L.eraseIdx k).length ≤ 40 := by have := List.length_eraseIdx_le L k; omega
    have hr0 := hok.room
    have m1 := may_erase hok k (r := room) (Int.le_refl _)
    have m2 := may_erase hok k (r := room - L[k].2) (by have := hval.2; omega)
    rw [decide_eq_true hr0.1] at m1
    have n1 : rlN (L.eraseIdx k) room = (relL (L.eraseIdx k) room).1 := by unfold rlN; rw [m1]; rfl
    have n2 : 0 ≤ room - L[k].2 → rlN (L.eraseIdx k) (room - L[k].2) = (relL (L.eraseIdx k) (room - L[k].2)).1 := fun h => by unfold rlN; rw [m2, decide_eq_true h]; rfl
    have bd1 := rl_bound (mayB_iff.1 m1) hel
    have bd2 : 0 ≤ room - L[k].2 → 0 ≤ (relL (L.eraseIdx k) (room - L[k].2)).1 ∧ (relL (L.eraseIdx k) (room - L[k].2)).1 ≤ 40 * 2147483648 := fun h => rl_bound (mayB_iff.1 (by rw [m2, decide_eq_true h])) hel
    have hs1 := selK_succ (inB L room worth) k
    have hs2 := selK_succ (outB L room worth) k
    have hl1 := selK_len (inB L room worth) k
    have hl2 := selK_len (outB L room worth) k
    have hwr : IntKind.i64.wrap (room - L[k].2) = room - L[k].2 := IntWalk.i64_in _ (by have := hval.2; omega)
    have hx1 := hval.1
    have hx2 := hval.2
    have hE : L.eraseIdx k = L.take k ++ L.drop (k + 1) := List.eraseIdx_eq_take_drop_succ L k
    have hrl1 := fun (H2 : AH) (w : Value) (hv : SlV (fun b => b < H2.next) H2 w (L.eraseIdx k)) => RelaxR_spec (H := H2) (room := room) hv
    have hrl2 := fun (H2 : AH) (w : Value) (hv : SlV (fun b => b < H2.next) H2 w (L.eraseIdx k)) => RelaxR_spec (H := H2) (room := room - L[k].2) hv
    rw [m1, n1] at hrl1
    rw [m2] at hrl2
    obtain ⟨wv, hsl, hwA⟩ := hL'.sl (m := k) (by omega)
    have hdr := fun (H2 : AH) (hv : SlV (fun b => b < H.next) H2 v L) => hv.dr (m := k + 1) (by omega)
    have hlA : (L.take k).length ≤ 40 := by rw [List.length_take]; omega
    have hlB : (L.drop (k + 1)).length ≤ 40 := by rw [List.length_drop]; omega
    generalize (rlP (L.eraseIdx k) room).1 = pa at *
    generalize (rlP (L.eraseIdx k) room).2 = pb at *
    generalize (rlP (L.eraseIdx k) (room - L[k].2)).1 = pc at *
    generalize (rlP (L.eraseIdx k) (room - L[k].2)).2 = pd at *
    generalize (relL (L.eraseIdx k) room).1 = z1 at *
    generalize (relL (L.eraseIdx k) (room - L[k].2)).1 = z2 at *
    generalize rlN (L.eraseIdx k) (room - L[k].2) = y2 at *
    generalize L[k] = x at *
    generalize L.eraseIdx k = E at *
    generalize L.take k = A at *
    generalize L.drop (k + 1) = B at *
    obtain ⟨x0, x1⟩ := x
    simp only at g1 g2 g3 hout hwr hx1 hx2 n2 bd2 m2 hrl2
    generalize hr2 : room - x1 = r2 at *
    have hev : v = .slice (some ⟨b0, off, sp⟩) L.length cap := hcv
    obtain ⟨aa, ac, rfl⟩ := hA.slice
    obtain ⟨ba, bc, rfl⟩ := hB.slice
    rw [hev] at e0 hsl
    have hsz : Ren.sz (Int × Int) = 2 := rfl
    rw [hsz] at hsl
    obtain ⟨cells1, a1, c1, H2, S1, he1, hp1, hO1, kd1, w2, i1⟩ := OwnL.pushAll (p := fun _ => False) (q := fun b => b < H.next) (ty := T_2_int64) (l := ([] : List (Int × Int))) (S := []) OwnL.nil w' hwA 16 (fun _ h => h.elim) (fun b hb => by omega) (by simp) (by simp; omega) (by simp; omega)
    rw [hsz] at he1 hp1
    simp only [List.length_nil, Nat.zero_add, List.nil_append] at hp1 hO1
    have n2' := kd1.next
    have hS1 : ∀ c ∈ S1, H'.next ≤ c := fun c hc => (i1 c hc).resolve_left (by simp)
    have hL2 := hL'.kept w' kd1
    obtain ⟨wv2, hsl2, hwB⟩ := hdr H2 hL2
    rw [hev, hsz, show ((k + 1 : Nat) : Int) = (k : Int) + 1 by omega] at hsl2
    obtain ⟨cells2, a2, c2, H3, S2, he2, hp2, hO2, kd2, w3, i2⟩ := OwnL.pushAll (p := fun b => b < H.next) (q := fun b => b < H.next) hO1 w2 hwB 16 (fun _ h => h) (fun b hb => by omega) (fun c hc => by have := hS1 c hc; omega) (by omega) (by omega)
    rw [hsz] at he2 hp2
    have hS2 : ∀ c ∈ S2, H'.next ≤ c := fun c hc => (i2 c hc).elim (fun h => hS1 c h) (fun h => by omega)
    have hlen : A.length + B.length = E.length := by rw [hE, List.length_append]
    rw [← hE] at hO2
    rw [hlen] at hp2 hO2
    have n3' := kd2.next
    have k23 : Keep [] H' H3 := ⟨by omega, fun c hc _ => by rw [kd2.blk c (by omega) (fun h => by have := hS1 c h; omega), kd1.blk c hc (by simp)]⟩
    have hlt2 := hO2.lt w3
    have hR3 : SlV (fun b => b < H3.next) H3 (.slice a2 E.length c2) E := hO2.slv (fun b hb => by omega) (fun c hc => hlt2 c hc) (by omega)
    have kH3 := k'.trans' k23
    have q13 := cells_kept hw kH3 q1
    obtain ⟨wa1, wc1, rfl⟩ := hwA.slice
    obtain ⟨wa2, wc2, rfl⟩ := hwB.slice
    have hk1 : IntKind.i64.wrap ((k : Int) + 1) = (k : Int) + 1 := IntWalk.i64_in _ (by omega)
    have hA3 := hA.kept w' k23
    have hB3 := hB.kept w' k23
    have hkl : (k : Int) < (L.length : Int) := by omega
    simp (disch := omega) [-getElem?_pos, if_pos, if_neg, decide_eq_true, decide_eq_false, ir_ref16_Fix_l0, e0, e1, e12, hkn, hkl, ↓ieval_slhi, ↓ieval_sllo, hsl, he1, hp1, hk1, hsl2, he2, hp2]
    refine AFn.pure (hrl1 _ _ hR3) ?_
    -- the first list
    by_cases hi1 : z1 ≤ worth
    case' pos =>
      rw [hin, decide_eq_true hi1, if_pos rfl] at hs1
      obtain ⟨va, vc, H5, S5, p1, pe, w5, k5, hA5, hB5, hS5, hST5, n5, f5⟩ := two_push (H := H) (k := k) w3 kH3 hA3 hB3 hS hST (by omega) (by omega)
      rw [← hs1] at hA5
      have hln : (selK (inB L room worth) k).length + 1 = (selK (inB L room worth) (k + 1)).length := by rw [hs1]; simp
      rw [hln] at p1 hA5
      have q15 := cells_kept hw k5 q1
      simp (disch := omega) [-getElem?_pos, if_pos, if_neg, decide_eq_true, decide_eq_false, e0, e1, e2, e10, e12, hi1, writeA, over, cut2i, pe, p1, hln, hkn, hkl, q15, g1, g2, g3]
    case' neg =>
      rw [hin, decide_eq_false hi1, if_neg (by simp)] at hs1
      have hS5 := hS
      have hST5 := hST
      obtain ⟨H5, hH5⟩ : ∃ H5, H5 = H3 := ⟨_, rfl⟩
      have w5 : WF H5 := by rw [hH5]; exact w3
      have k5 : Keep [] H H5 := by rw [hH5]; exact kH3
      have hA5 : OwnL (fun _ => False) H5 T_int (.slice aa (selK (inB L room worth) k).length ac) (selK (inB L room worth) (k + 1)) S := by rw [hH5, hs1]; exact hA3
      have hB5 : OwnL (fun _ => False) H5 T_int (.slice ba (selK (outB L room worth) k).length bc) (selK (outB L room worth) k) T := by rw [hH5]; exact hB3
      have n5 : H3.next ≤ H5.next := by rw [hH5]; exact Nat.le_refl _
      have f5 : ∀ c, c < H3.next → c ∉ S → H5.blk c = H3.blk c := fun c _ _ => by rw [hH5]
      have q15 := cells_kept hw k5 q1
      rw [← hH5]
      simp (disch := omega) [-getElem?_pos, if_pos, if_neg, decide_eq_true, decide_eq_false, e0, e1, e2, e10, e12, hi1, hkn, hkl, q15, g1, g2, g3]
    all_goals
      have hlt5 : ∀ c ∈ S2, c ∉ S := fun c hc h => by have := hA.lt w' c h; have := hS2 c hc; omega
      have hR5 : SlV (fun b => b < H5.next) H5 (.slice a2 E.length c2) E := (hO2.slv (q := fun b => b < H.next ∨ b ∈ S2) (fun b hb => .inl hb) (fun c hc => .inr hc) (by omega)).up (fun c hc => by
        rcases hc with hc | hc
        · omega
        · have := hlt2 c hc; omega) (fun c hc cs' hcs => by
        unfold AH.cells at hcs ⊢
        rcases hc with hc | hc
        · rw [k5.blk c hc (by simp), ← kH3.blk c hc (by simp)]; exact hcs
        · rw [f5 c (hlt2 c hc) (hlt5 c hc)]; exact hcs)
      obtain ⟨va2, vc2, H8, T8, p2, pe2, w8, k8, hB8, hA8, hT8, hTS8, n8, f8⟩ := two_push (H := H) (k := k) w5 k5 hB5 hA5 hT (fun c hc hc2 => hST5 c hc2 hc) (by omega) (by omega)
      by_cases hr : room < x1
      · rw [hout, decide_eq_true (.inl hr), if_pos rfl] at hs2
        rw [← hs2] at hB8
        have hln2 : (selK (outB L room worth) k).length + 1 = (selK (outB L room worth) (k + 1)).length := by rw [hs2]; simp
        rw [hln2] at p2 hB8
        simp (disch := omega) [-getElem?_pos, if_pos, if_neg, decide_eq_true, decide_eq_false, e0, e1, e2, e11, e12, hr, writeA, over, cut2i, pe2, p2, hln2, IntWalk.i64_in]
        exact ⟨hkn, by simp [e0, hev], by simp [e1], by simp [e2], by simp, w8, k8, _, _, _, T8, by simp [e10], by simp, hA8, hB8, hS5, hT8, fun c hc hc2 => hTS8 c hc2 hc⟩
      · have hr0 : 0 ≤ r2 := by omega
        have hy := n2 hr0
        have hb2 := bd2 hr0
        have hdr2 := decide_eq_true hr0
        have hrl3 := hrl2 H5 _ hR5
        rw [hdr2, hy] at hrl3
        have hws : IntKind.i64.wrap (x0 + z2) = x0 + z2 := IntWalk.i64_in _ (by omega)
        simp (disch := omega) [-getElem?_pos, if_pos, if_neg, decide_eq_true, decide_eq_false, e0, e1, e2, e11, e12, hr, hkn, hkl, q15, g1, g2, g3, hr2, hwr]
        refine AFn.pure hrl3 ?_
        by_cases hq : x0 + z2 ≤ worth
        · rw [hout, decide_eq_true (.inr hq), if_pos rfl] at hs2
          rw [← hs2] at hB8
          have hln2 : (selK (outB L room worth) k).length + 1 = (selK (outB L room worth) (k + 1)).length := by rw [hs2]; simp
          rw [hln2] at p2 hB8
          simp (disch := omega) [-getElem?_pos, if_pos, if_neg, decide_eq_true, decide_eq_false, e0, e1, e2, e11, e12, hkn, hkl, q15, g1, g2, g3, hws, hq, writeA, over, cut2i, pe2, p2, hln2, IntWalk.i64_in]
          exact ⟨by simp [e0, hev], by simp [e1], by simp [e2], by simp, w8, k8, _, _, _, T8, by simp [e10], by simp, hA8, hB8, hS5, hT8, fun c hc hc2 => hTS8 c hc2 hc⟩
        · have hno : ¬ (room < x1 ∨ x0 + z2 ≤ worth) := by omega
          rw [hout, decide_eq_false hno, if_neg (by simp)] at hs2
          have hB7' : OwnL (fun _ => False) H5 T_int (.slice ba (selK (outB L room worth) k).length bc) (selK (outB L room worth) (k + 1)) T := by rw [hs2]; exact hB5
          simp (disch := omega) [-getElem?_pos, if_pos, if_neg, decide_eq_true, decide_eq_false, e0, e1, e2, e11, e12, hkn, hkl, q15, g1, g2, g3, hws, hq, IntWalk.i64_in]
          exact ⟨by simp [e0, hev], by simp [e1], by simp [e2], by simp, w5, k5, _, _, _, T, by simp [e10], by simp [e11], hA5, hB7', hS5, hT, hST5⟩
  · obtain rfl : k = L.length := by omega
    obtain ⟨va, vc, hve⟩ := hL.slice
    rw [hve] at e0
    simp (disch := omega) [-getElem?_pos, if_pos, if_neg, decide_eq_true, decide_eq_false, ir_ref16_Fix_l0, e0, e12]
    exact ⟨rfl, by rw [hve]; exact e0, e1, e2, e12, w', k', a, S, b, T, e10, e11, hA, hB, hS, hT, hST⟩
theorem FixR_spec {H : AH} {v : Value} {L : List (Int × Int)} {room worth : Int} (hL : SlV (fun b => b < H.next) H v L) (hl : L.length ≤ 40) (hwo : I64 worth) : AFn Try.prog F_ref16_Fix [v, .int .i64 room, .int .i64 worth] H fun u H' => ∃ a b, u = .tuple #[a, b, .bool (mayB L room)] ∧ SlV (fun b => H.next ≤ b ∧ b < H'.next) H' a (fxIn L room worth) ∧ SlV (fun b => H.next ≤ b ∧ b < H'.next) H' b (fxOut L room worth) ∧ Keep [] H H' := by
  refine AFn.enter mixed ir_ref16_Fix_eq (by simp [ir_ref16_Fix]) fun hw => ?_
  have hmy := mayR_spec hL room
  have h1 : fxIn L room worth = if mayB L room then selK (inB L room worth) L.length else [] := rfl
  have h2 : fxOut L room worth = if mayB L room then selK (outB L room worth) L.length else [] := rfl
  rw [h1, h2]
  have hL0 := hL
  obtain ⟨va, vc, rfl⟩ := hL.slice
  simp (disch := omega) [-getElem?_pos, if_pos, if_neg, decide_eq_true, decide_eq_false, ir_ref16_Fix]
  refine AFn.pure hmy ?_
  cases hm : mayB L room with
  | false =>
    simp (disch := omega) [-getElem?_pos, if_pos, if_neg, decide_eq_true, decide_eq_false, ]
    refine ⟨.slice none 0 0, .slice none 0 0, ?_, SlV.nil, SlV.nil, .refl⟩
    first | exact ⟨rfl, rfl⟩ | rfl
  | true =>
    have hok := mayB_iff.1 hm
    simp (disch := omega) [-getElem?_pos, if_pos, if_neg, decide_eq_true, decide_eq_false, ]
    refine wpC_use (fixR_l0 (H := H) (worth := worth) (room := room) hw hL0 hok hl hwo ⟨by simp, by simp, by simp, by simp, hw, .refl, .slice none 0 0, [], .slice none 0 0, [], by simp, by simp, .nil, .nil, by simp, by simp, by simp⟩) ?_
    rintro e env2 H2 ⟨rfl, e0, e1, e2, e12, w2, k2, a, S, b, T, e10, e11, hA, hB, hS, hT, hST⟩ _
    have hcA := hA.cell
    have hcB := hB.cell
    have hAl := hA.lt w2
    have hBl := hB.lt w2
    have l1 := selK_len (inB L room worth) L.length
    have l2 := selK_len (outB L room worth) L.length
    simp (disch := omega) [-getElem?_pos, if_pos, if_neg, decide_eq_true, decide_eq_false, e10, e11, hcA, hcB]
    refine ⟨a, b, ?_, hA.slv (fun _ h => h.elim) (fun c hc => ⟨hS c hc, hAl c hc⟩) (by omega), hB.slv (fun _ h => h.elim) (fun c hc => ⟨hT c hc, hBl c hc⟩) (by omega), k2⟩
    first | exact ⟨rfl, rfl⟩ | rfl
end Go.Proofs.Ytllfcbacpoaphaa
