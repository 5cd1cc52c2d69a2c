/-
  package knap: Fix.
-/
import Derived.Test.YtllfcbacpoaphaaKn12
set_option maxRecDepth 100000
set_option linter.unusedSimpArgs false
set_option linter.unusedVariables false
namespace Go.Abs
def selK (b : Nat → Bool) (k : Nat) : List Int := ((List.range k).filter b).map fun (i : Nat) => (i : Int)
theorem selK_succ (b : Nat → Bool) (k : Nat) : selK b (k + 1) = if b k then selK b k ++ [(k : Int)] else selK b k := by
  unfold selK
  rw [List.range_succ, List.filter_append, List.map_append]
  split <;> rename_i h <;> simp [h]
theorem selK_len (b : Nat → Bool) (k : Nat) : (selK b k).length ≤ k := by
  unfold selK
  rw [List.length_map]
  exact Nat.le_trans (List.length_filter_le _ _) (by simp)
theorem selK_mem {b : Nat → Bool} {k : Nat} {a : Int} : a ∈ selK b k ↔ ∃ i : Nat, a = (i : Int) ∧ i < k ∧ b i = true := by
  unfold selK
  rw [List.mem_map]
  constructor
  · rintro ⟨i, hi, rfl⟩
    obtain ⟨h1, h2⟩ := List.mem_filter.1 hi
    exact ⟨i, rfl, List.mem_range.1 h1, h2⟩
  · rintro ⟨i, rfl, h1, h2⟩
    exact ⟨i, List.mem_filter.2 ⟨List.mem_range.2 h1, h2⟩, rfl⟩
theorem rl_bound {L : List (Int × Int)} {room : Int} (h : ItOk L room) (hl : L.length ≤ 40) : 0 ≤ (relL L room).1 ∧ (relL L room).1 ≤ 40 * 2147483648 := by
  refine ⟨relax_pos h, Int.le_trans (relax_max h) ?_⟩
  have : ∀ (l : List (Int × Int)), (∀ x ∈ l, x.1 ≤ 2147483648) → (l.map (·.1)).sum ≤ (l.length : Int) * 2147483648 := fun l => by
    induction l with
    | nil => intro _; simp
    | cons a l ih =>
      intro h
      have := h a (by simp)
      have := ih fun y hy => h y (by simp [hy])
      simp only [List.map_cons, List.sum_cons, List.length_cons]
      omega
  have := this L fun x hx => (h.val x hx).1.2
  omega
theorem may_erase {L : List (Int × Int)} {room r : Int} (h : ItOk L room) (k : Nat) (hr : r ≤ room) : mayB (L.eraseIdx k) r = decide (0 ≤ r) := by
  by_cases h0 : 0 ≤ r
  · rw [decide_eq_true h0]; exact mayB_iff.2 (h.erase k ⟨h0, hr⟩)
  · rw [decide_eq_false h0]
    cases hm : mayB (L.eraseIdx k) r with
    | false => rfl
    | true => exact absurd (mayB_iff.1 hm).room.1 h0
end Go.Abs
namespace Go.Proofs.Ytllfcbacpoaphaa
open Go Go.Abs
def FxI (H : AH) (v : Value) (L : List (Int × Int)) (room worth : Int) (k : Nat) (env : Env) (H' : AH) : Prop :=
  env 0 = some v ∧ env 1 = some (.int .i64 room) ∧ env 2 = some (.int .i64 worth) ∧ env 24 = some v ∧ env 25 = some (.int .i64 L.length) ∧ env 26 = some (.int .i64 k) ∧ WF H' ∧ Keep [] H H' ∧
    ∃ a S b T, env 9 = some a ∧ env 10 = some b ∧ OwnL (fun _ => False) H' T_int a (selK (inB L room worth) k) S ∧ OwnL (fun _ => False) H' T_int b (selK (outB L room worth) k) T ∧ (∀ c ∈ S, H.next ≤ c) ∧ (∀ c ∈ T, H.next ≤ c) ∧ ∀ c ∈ S, c ∉ T
theorem two_push {H H4 : AH} {a b : Value} {A B : List Int} {S T : List Nat} {k : Nat} (w4 : WF H4) (k4 : Keep [] H H4) (hA : OwnL (fun _ => False) H4 T_int a A S) (hB : OwnL (fun _ => False) H4 T_int b B T) (hS : ∀ c ∈ S, H.next ≤ c) (hST : ∀ c ∈ S, c ∉ T) (hk : k ≤ 1000) (hl : A.length ≤ 1000) :
    ∃ va vc H5 S', appendA (H4.alloc (.row [.int .i64 (k : Int)] T_int true)) T_int 1 8 a 1 [.int .i64 (k : Int)] = some (.slice va (A.length + 1) vc, H5) ∧ elemsA (H4.alloc (.row [.int .i64 (k : Int)] T_int true)) 1 (.slice (some ⟨H4.next, 0, none⟩) 1 1) = some [.int .i64 (k : Int)] ∧ WF H5 ∧ Keep [] H H5 ∧
      OwnL (fun _ => False) H5 T_int (.slice va (A.length + 1) vc) (A ++ [(k : Int)]) S' ∧ OwnL (fun _ => False) H5 T_int b B T ∧ (∀ c ∈ S', H.next ≤ c) ∧ (∀ c ∈ S', c ∉ T) ∧ H4.next ≤ H5.next ∧ ∀ c, c < H4.next → c ∉ S → H5.blk c = H4.blk c := by
  obtain ⟨va, vc, H5, S', p1, w5, hA', k5, hS', kd, i1⟩ := push_int w4 hA k4 hS (a := (k : Int)) (by unfold I64; omega) hl
  refine ⟨va, vc, H5, S', p1, elems_one rfl, w5, k5, hA', hB.keep w4 kd (fun _ _ h => h) (fun c hc hcS => hST c hcS hc), hS', fun c hc => ?_, kd.next, fun c hc hcS => kd.blk c hc hcS⟩
  rcases i1 c hc with h | h
  · exact hST c h
  · intro hT'
    have := hB.lt w4 c hT'
    omega
theorem fix_l0 {H : AH} {v : Value} {L : List (Int × Int)} {room worth : Int} (hw : WF H) (hL : SlV (fun b => b < H.next) H v L) (hok : ItOk L room) (hl : L.length ≤ 40) (hwo : I64 worth) {env : Env} (h : FxI H v L room worth 0 env H) :
    wpC Try.prog 75 (.loop ir_knap_Fix_l0) (fun e env' H' => e = .exit 0 ∧ FxI H v L room worth L.length env' H') env H := by
  refine loop_upto L.length (FxI H v L room worth) (Q := fun e env' H' => e = .exit 0 ∧ FxI H v L room worth L.length env' H') h ?_
  rintro k env H' hk ⟨e0, e1, e2, e24, e25, e26, w', k', a, S, b, T, e9, e10, hA, hB, hS, hT, hST⟩
  by_cases hkn : k < L.length
  · have hn' := k'.next
    have hL' := hL.kept hw k'
    obtain ⟨b0, off, sp, cap, cs, hcv, q1, q2⟩ := pairs_rd hL' (by omega)
    obtain ⟨g1, g2, g3, g4, g5⟩ := q2 k hkn
    have hval := hok.val L[k] (List.getElem_mem hkn)
    have hitm := itm_get hkn
    have hin : inB L room worth k = decide ((relL (L.eraseIdx k) room).1 ≤ worth) := rfl
    have hout : outB L room worth k = decide (room < (itm L k).2 ∨ (itm L k).1 + (relL (L.eraseIdx k) (room - (itm L k).2)).1 ≤ worth) := rfl
    rw [hitm] at hout
    have hel : (L.eraseIdx k).length ≤ 40 := by have := List.length_eraseIdx_le L k; omega
    have hr0 := hok.room
    have m1 := may_erase hok k (r := room) (Int.le_refl _)
    have m2 := may_erase hok k (r := room - L[k].2) (by omega)
    rw [decide_eq_true hr0.1] at m1
    have n1 : rlN (L.eraseIdx k) room = (relL (L.eraseIdx k) room).1 := by unfold rlN; rw [m1]; rfl
    have n2 : 0 ≤ room - L[k].2 → rlN (L.eraseIdx k) (room - L[k].2) = (relL (L.eraseIdx k) (room - L[k].2)).1 := fun h => by unfold rlN; rw [m2, decide_eq_true h]; rfl
    have bd1 := rl_bound (mayB_iff.1 m1) hel
    have bd2 : 0 ≤ room - L[k].2 → 0 ≤ (relL (L.eraseIdx k) (room - L[k].2)).1 ∧ (relL (L.eraseIdx k) (room - L[k].2)).1 ≤ 40 * 2147483648 := fun h => rl_bound (mayB_iff.1 (by rw [m2, decide_eq_true h])) hel
    have hs1 := selK_succ (inB L room worth) k
    have hs2 := selK_succ (outB L room worth) k
    have hl1 := selK_len (inB L room worth) k
    have hl2 := selK_len (outB L room worth) k
    have hoth := fun (H2 : AH) (hv : SlV (fun b => b < H.next) H2 v L) => others_spec (H := H2) hv hkn (by omega)
    have hwr : IntKind.i64.wrap (room - L[k].2) = room - L[k].2 := IntWalk.i64_in _ (by omega)
    have hx1 := hval.1
    have hx2 := hval.2
    have hrl1 := fun (H2 : AH) (w : Value) (hv : SlV (fun b => b < H2.next) H2 w (L.eraseIdx k)) => Relax_spec (H := H2) (room := room) hv hel
    have hrl2 := fun (H2 : AH) (w : Value) (hv : SlV (fun b => b < H2.next) H2 w (L.eraseIdx k)) => Relax_spec (H := H2) (room := room - L[k].2) hv hel
    unfold rlV at hrl1 hrl2
    rw [m1, n1] at hrl1
    rw [m2] at hrl2
    generalize (rlP (L.eraseIdx k) room).1 = pa at *
    generalize (rlP (L.eraseIdx k) room).2 = pb at *
    generalize (rlP (L.eraseIdx k) (room - L[k].2)).1 = pc at *
    generalize (rlP (L.eraseIdx k) (room - L[k].2)).2 = pd at *
    generalize (relL (L.eraseIdx k) room).1 = z1 at *
    generalize (relL (L.eraseIdx k) (room - L[k].2)).1 = z2 at *
    generalize rlN (L.eraseIdx k) (room - L[k].2) = y2 at *
    generalize L[k] = x at *
    obtain ⟨x0, x1⟩ := x
    simp only at g1 g4 g5 hout hwr hx1 hx2 n2 bd2 m2 hrl2
    generalize hr2 : room - x1 = r2 at *
    have hev : v = .slice (some ⟨b0, off, sp⟩) L.length cap := hcv
    obtain ⟨aa, ac, rfl⟩ := hA.slice
    obtain ⟨ba, bc, rfl⟩ := hB.slice
    rw [hev] at e0 e24
    obtain ⟨HA, hHA⟩ : ∃ HA, HA = H'.alloc (.row [.int .i64 x0, .int .i64 x1] T_inst_Item true) := ⟨_, rfl⟩
    have ka : Keep [] H' HA := by rw [hHA]; exact .alloc
    have wA : WF HA := by rw [hHA]; exact w'.alloc
    have na : HA.next = H'.next + 1 := by rw [hHA]; rfl
    have c12 : HA.cells H'.next = some [.int .i64 x0, .int .i64 x1] := by rw [hHA]; exact AH.cells_alloc_new
    have hLA := hL'.kept w' ka
    have ho := hoth HA hLA
    rw [hev] at ho
    simp (disch := omega) [-getElem?_pos, if_pos, if_neg, decide_eq_true, decide_eq_false, ir_knap_Fix_l0, e0, e1, e2, e24, e25, e26, hkn, q1, g1, writeA, over, cut2i]
    rw [← hHA]
    refine ho.mono' fun u H2 w2 ⟨hR, k2⟩ => ?_
    have n2' := k2.next
    obtain ⟨ra, rc, rfl⟩ := hR.slice
    simp (disch := omega) [-getElem?_pos, if_pos, if_neg, decide_eq_true, decide_eq_false, e1]
    refine (hrl1 H2 _ (hR.mono fun b hb => hb.2)).mono' fun u H3 w3 ⟨hu, k3⟩ => ?_
    subst hu
    have n3' := k3.next
    have k03 : Keep [] H' H3 := ka.trans' (k2.trans' k3)
    obtain ⟨H4, hH4⟩ : ∃ H4, H4 = H3.alloc (.row [.int .i64 pa, .int .i64 pb] T_ratio_Ratio true) := ⟨_, rfl⟩
    have k4 : Keep [] H' H4 := by rw [hH4]; exact .trans' k03 .alloc
    have w4 : WF H4 := by rw [hH4]; exact w3.alloc
    have n4 : H4.next = H3.next + 1 := by rw [hH4]; rfl
    have hA4 := hA.kept w' k4
    have hB4 := hB.kept w' k4
    have hAlt := hA.lt w'
    have hBlt := hB.lt w'
    have kH4 := k'.trans' k4
    have hR4 : SlV (fun b => HA.next ≤ b ∧ b < H2.next) H4 (.slice ra (L.eraseIdx k).length rc) (L.eraseIdx k) := (hR.kept w2 k3).kept w3 (by rw [hH4]; exact .alloc)
    have b12 : H4.blk H'.next = some (.row [.int .i64 x0, .int .i64 x1] T_inst_Item true) := by
      rw [hH4, AH.alloc_blk_ne (by omega), k3.blk _ (by omega) (by simp), k2.blk _ (by omega) (by simp), hHA]; exact AH.alloc_blk_new
    -- the first list
    by_cases hi1 : z1 ≤ worth
    case' pos =>
      rw [hin, decide_eq_true hi1, if_pos rfl] at hs1
      obtain ⟨va, vc, H5, S5, p1, pe, w5, k5, hA5, hB5, hS5, hST5, n5, f5⟩ := two_push (H := H) (k := k) w4 kH4 hA4 hB4 hS hST (by omega) (by omega)
      rw [← hs1] at hA5
      have hln : (selK (inB L room worth) k).length + 1 = (selK (inB L room worth) (k + 1)).length := by rw [hs1]; simp
      rw [hln] at p1 hA5
      rw [n4] at pe
      simp (disch := omega) [-getElem?_pos, if_pos, if_neg, decide_eq_true, decide_eq_false, e1, e2, e9, hi1, writeA, over, cut2i]
      rw [← hH4]
      simp (disch := omega) [-getElem?_pos, if_pos, if_neg, decide_eq_true, decide_eq_false, pe, p1, hln]
    case' neg =>
      rw [hin, decide_eq_false hi1, if_neg (by simp)] at hs1
      simp (disch := omega) [-getElem?_pos, if_pos, if_neg, decide_eq_true, decide_eq_false, e1, e2, e9, hi1, writeA, over, cut2i]
      rw [← hH4]
      have hS5 := hS
      have hST5 := hST
      obtain ⟨H5, hH5⟩ : ∃ H5, H5 = H4 := ⟨_, rfl⟩
      rw [← hH5]
      have w5 : WF H5 := by rw [hH5]; exact w4
      have k5 : Keep [] H H5 := by rw [hH5]; exact kH4
      have hA5 : OwnL (fun _ => False) H5 T_int (.slice aa (selK (inB L room worth) k).length ac) (selK (inB L room worth) (k + 1)) S := by rw [hH5, hs1]; exact hA4
      have hB5 : OwnL (fun _ => False) H5 T_int (.slice ba (selK (outB L room worth) k).length bc) (selK (outB L room worth) k) T := by rw [hH5]; exact hB4
      have n5 : H4.next ≤ H5.next := by rw [hH5]; exact Nat.le_refl _
      have f5 : ∀ c, c < H4.next → c ∉ S → H5.blk c = H4.blk c := fun c _ _ => by rw [hH5]
    all_goals
      have hnS : ∀ c, H'.next ≤ c → c ∉ S := fun c hc h => by have := hAlt c h; omega
      have b125 : H5.blk H'.next = some (.row [.int .i64 x0, .int .i64 x1] T_inst_Item true) := by rw [f5 _ (by omega) (hnS _ (Nat.le_refl _))]; exact b12
      have c125 := AH.cells_of b125
      have hR5 : SlV (fun b => HA.next ≤ b ∧ b < H2.next) H5 (.slice ra (L.eraseIdx k).length rc) (L.eraseIdx k) := hR4.sub fun c hc cs' hcs => by
        unfold AH.cells at hcs ⊢
        rw [f5 c (by omega) (hnS c (by omega))]; exact hcs
      have c123 := cells_kept wA (k2.trans' k3) c12
      simp (disch := omega) [-getElem?_pos, if_pos, if_neg, decide_eq_true, decide_eq_false, e1, c123, c125, hr2, hwr]
      refine (hrl2 H5 _ (hR5.mono fun b hb => by omega)).mono' fun u H6 w6 ⟨hu, k6⟩ => ?_
      subst hu
      have n6 := k6.next
      obtain ⟨H7, hH7⟩ : ∃ H7, H7 = H6.alloc (.row [.int .i64 pc, .int .i64 pd] T_ratio_Ratio true) := ⟨_, rfl⟩
      have k57 : Keep [] H5 H7 := by rw [hH7]; exact .trans' k6 .alloc
      have w7 : WF H7 := by rw [hH7]; exact w6.alloc
      have n7 : H7.next = H6.next + 1 := by rw [hH7]; rfl
      have k7 := k5.trans' k57
      have hA7 := hA5.kept w5 k57
      have hB7 := hB5.kept w5 k57
      have c126 := cells_kept w5 k6 c125
      have c127 : H7.cells H'.next = some [.int .i64 x0, .int .i64 x1] := cells_kept w5 k57 c125
      obtain ⟨va2, vc2, H8, T8, p2, pe2, w8, k8, hB8, hA8, hT8, hTS8, n8, f8⟩ := two_push (H := H) (k := k) w7 k7 hB7 hA7 hT (fun c hc hc2 => hST5 c hc2 hc) (by omega) (by omega)
      have pe3 := pe2
      rw [n7] at pe2
      by_cases hr : 0 ≤ r2
      · have hy := n2 hr
        have hb2 := bd2 hr
        have hdr := decide_eq_true hr
        rw [hy]
        have hws : IntKind.i64.wrap (x0 + z2) = x0 + z2 := IntWalk.i64_in _ (by omega)
        by_cases hq : x0 + z2 ≤ worth
        · rw [hout, decide_eq_true (.inr hq), if_pos rfl] at hs2
          rw [← hs2] at hB8
          have hln2 : (selK (outB L room worth) k).length + 1 = (selK (outB L room worth) (k + 1)).length := by rw [hs2]; simp
          rw [hln2] at p2 hB8
          simp (disch := omega) [-getElem?_pos, if_pos, if_neg, decide_eq_true, decide_eq_false, e1, e2, e10, hdr, writeA, over, cut2i]
          rw [← hH7]
          simp (disch := omega) [-getElem?_pos, if_pos, if_neg, decide_eq_true, decide_eq_false, c126, c127, hws, hq, e1, e2, e10]
          simp (disch := omega) [-getElem?_pos, if_pos, if_neg, decide_eq_true, decide_eq_false, pe2, pe3, p2, hln2, e0, e1, e2, e9, e24, e25, e26, IntWalk.i64_in]
          exact ⟨hkn, by simp [e0, hev], by simp [e1], by simp [e2], by simp [e24, hev], by simp [e25], by simp, w8, k8, _, _, _, T8, by simp [e9], by simp, hA8, hB8, hS5, hT8, fun c hc hc2 => hTS8 c hc2 hc⟩
        · have hno : ¬ (room < x1 ∨ x0 + z2 ≤ worth) := by omega
          rw [hout, decide_eq_false hno, if_neg (by simp)] at hs2
          have hB7' : OwnL (fun _ => False) H7 T_int (.slice ba (selK (outB L room worth) k).length bc) (selK (outB L room worth) (k + 1)) T := by rw [hs2]; exact hB7
          simp (disch := omega) [-getElem?_pos, if_pos, if_neg, decide_eq_true, decide_eq_false, e1, e2, e10, hdr, writeA, over, cut2i]
          rw [← hH7]
          simp (disch := omega) [-getElem?_pos, if_pos, if_neg, decide_eq_true, decide_eq_false, c126, c127, hws, hq, e0, e1, e2, e9, e10, e24, e25, e26, IntWalk.i64_in]
          exact ⟨hkn, by simp [e0, hev], by simp [e1], by simp [e2], by simp [e24, hev], by simp [e25], by simp, w7, k7, _, _, _, T, by simp [e9], by simp [e10], hA7, hB7', hS5, hT, hST5⟩
      · have hdr := decide_eq_false hr
        rw [hout, decide_eq_true (.inl (by omega)), if_pos rfl] at hs2
        rw [← hs2] at hB8
        have hln2 : (selK (outB L room worth) k).length + 1 = (selK (outB L room worth) (k + 1)).length := by rw [hs2]; simp
        rw [hln2] at p2 hB8
        simp (disch := omega) [-getElem?_pos, if_pos, if_neg, decide_eq_true, decide_eq_false, e1, e2, e10, hdr, writeA, over, cut2i]
        rw [← hH7]
        simp (disch := omega) [-getElem?_pos, if_pos, if_neg, decide_eq_true, decide_eq_false, pe2, pe3, p2, hln2, e0, e1, e2, e9, e24, e25, e26, IntWalk.i64_in]
        exact ⟨hkn, by simp [e0, hev], by simp [e1], by simp [e2], by simp [e24, hev], by simp [e25], by simp, w8, k8, _, _, _, T8, by simp [e9], by simp, hA8, hB8, hS5, hT8, fun c hc hc2 => hTS8 c hc2 hc⟩
  · obtain rfl : k = L.length := by omega
    simp (disch := omega) [-getElem?_pos, if_pos, if_neg, decide_eq_true, decide_eq_false, ir_knap_Fix_l0, e25, e26]
    exact ⟨e0, e1, e2, e24, e25, e26, w', k', a, S, b, T, e9, e10, hA, hB, hS, hT, hST⟩
def fxIn (L : List (Int × Int)) (room worth : Int) : List Int := if mayB L room then selK (inB L room worth) L.length else []
def fxOut (L : List (Int × Int)) (room worth : Int) : List Int := if mayB L room then selK (outB L room worth) L.length else []
theorem Fix_spec {H : AH} {v : Value} {L : List (Int × Int)} {room worth : Int} (hL : SlV (fun b => b < H.next) H v L) (hl : L.length ≤ 40) (hwo : I64 worth) : AFn Try.prog F_knap_Fix [v, .int .i64 room, .int .i64 worth] H fun u H' => ∃ a b, u = .tuple #[a, b, .bool (mayB L room)] ∧ SlV (fun b => H.next ≤ b ∧ b < H'.next) H' a (fxIn L room worth) ∧ SlV (fun b => H.next ≤ b ∧ b < H'.next) H' b (fxOut L room worth) ∧ Keep [] H H' := by
  refine AFn.enter mixed ir_knap_Fix_eq (by simp [ir_knap_Fix]) fun hw => ?_
  have hmy := may_spec hL room
  have h1 : fxIn L room worth = if mayB L room then selK (inB L room worth) L.length else [] := rfl
  have h2 : fxOut L room worth = if mayB L room then selK (outB L room worth) L.length else [] := rfl
  rw [h1, h2]
  have hL0 := hL
  obtain ⟨va, vc, rfl⟩ := hL.slice
  simp (disch := omega) [-getElem?_pos, if_pos, if_neg, decide_eq_true, decide_eq_false, ir_knap_Fix]
  refine AFn.pure hmy ?_
  cases hm : mayB L room with
  | false =>
    simp (disch := omega) [-getElem?_pos, if_pos, if_neg, decide_eq_true, decide_eq_false, ]
    refine ⟨.slice none 0 0, .slice none 0 0, ?_, SlV.nil, SlV.nil, .refl⟩
    first | exact ⟨rfl, rfl⟩ | rfl
  | true =>
    have hok := mayB_iff.1 hm
    simp (disch := omega) [-getElem?_pos, if_pos, if_neg, decide_eq_true, decide_eq_false, ]
    refine wpC_use (fix_l0 (H := H) (worth := worth) (room := room) hw hL0 hok hl hwo ⟨by simp, by simp, by simp, by simp, by simp, by simp, hw, .refl, .slice none 0 0, [], .slice none 0 0, [], by simp, by simp, .nil, .nil, by simp, by simp, by simp⟩) ?_
    rintro e env2 H2 ⟨rfl, e0, e1, e2, e24, e25, e26, w2, k2, a, S, b, T, e9, e10, hA, hB, hS, hT, hST⟩ _
    have hcA := hA.cell
    have hcB := hB.cell
    have hAl := hA.lt w2
    have hBl := hB.lt w2
    have l1 := selK_len (inB L room worth) L.length
    have l2 := selK_len (outB L room worth) L.length
    simp (disch := omega) [-getElem?_pos, if_pos, if_neg, decide_eq_true, decide_eq_false, e9, e10, hcA, hcB]
    refine ⟨a, b, ?_, hA.slv (fun _ h => h.elim) (fun c hc => ⟨hS c hc, hAl c hc⟩) (by omega), hB.slv (fun _ h => h.elim) (fun c hc => ⟨hT c hc, hBl c hc⟩) (by omega), k2⟩
    first | exact ⟨rfl, rfl⟩ | rfl
end Go.Proofs.Ytllfcbacpoaphaa
