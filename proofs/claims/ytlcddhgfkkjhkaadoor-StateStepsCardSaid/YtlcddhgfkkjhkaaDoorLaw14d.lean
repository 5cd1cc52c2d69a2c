/-
  Layer 14: StateSteps.
-/
import Derived.Test.YtlcddhgfkkjhkaaDoorLaw14c
set_option maxRecDepth 100000
set_option linter.unusedSimpArgs false
set_option linter.unusedVariables false
namespace Go.Proofs.YtlcddhgfkkjhkaaDoor
open Go Go.Abs
def Sl0I (H : AH) (lv : Value) (L : List Int) (wr : Int) (k : Nat) (env : Env) (H' : AH) : Prop :=
  H' = H ∧ env 2 = some (.int .i64 wr) ∧ env 62 = some lv ∧ env 63 = some (.int .i64 L.length) ∧ env 64 = some (.int .i64 k) ∧ env 15 = some (.bool (decide (wr ∈ L.take k)))
theorem steps_l0 {p : Nat → Prop} {H : AH} {lv : Value} {L : List Int} {wr : Int} (hL : SlV p H lv L) {env : Env} (h : Sl0I H lv L wr 0 env H) :
    wpC Tryd.prog 170 (.loop ir_law14_StateSteps_l0) (fun e env' H' => e = .exit 2 ∧ H' = H ∧ env' 15 = some (.bool (decide (wr ∈ L)))) env H := by
  refine loop_upto L.length (Sl0I H lv L wr) (Q := fun e env' H' => e = .exit 2 ∧ H' = H ∧ env' 15 = some (.bool (decide (wr ∈ L)))) h ?_
  rintro k env H' hk ⟨rfl, e2, e62, e63, e64, e15⟩
  by_cases hkn : k < L.length
  · obtain ⟨b0, off, sp, cap, cs, hcv, q1, q2⟩ := ints_rd hL (by omega)
    obtain ⟨q3, q4⟩ := q2 k hkn
    have hmx := hL.max
    subst hcv
    have htk : (wr ∈ L.take (k + 1)) ↔ (wr ∈ L.take k ∨ L[k] = wr) := by
      rw [List.take_succ_eq_append_getElem hkn, List.mem_append, List.mem_singleton]
      exact or_congr Iff.rfl eq_comm
    have hd : decide (wr ∈ L.take (k + 1)) = (decide (wr ∈ L.take k) || decide (L[k] = wr)) := by
      rw [Bool.eq_iff_iff]; simp [htk]
    clear h
    generalize decide (wr ∈ L.take k) = m at e15 hd
    generalize L[k] = z at *
    cases m with
    | true =>
      simp (disch := omega) [-getElem?_pos, if_pos, if_neg, decide_eq_true, decide_eq_false, ir_law14_StateSteps_l0, e2, e15, e62, e63, e64, q1, q3, hkn, IntWalk.i64_in]
      exact ⟨rfl, by simp [e2], by simp [e62], by simp [e63], by simp, by simp [e15, hd]⟩
    | false =>
      simp (disch := omega) [-getElem?_pos, if_pos, if_neg, decide_eq_true, decide_eq_false, ir_law14_StateSteps_l0, e2, e15, e62, e63, e64, q1, q3, hkn, IntWalk.i64_in]
      exact ⟨rfl, by simp [e2], by simp [e62], by simp [e63], by simp, by simp [hd]⟩
  · obtain rfl : k = L.length := by omega
    rw [List.take_length] at e15
    simp (disch := omega) [-getElem?_pos, if_pos, if_neg, decide_eq_true, decide_eq_false, ir_law14_StateSteps_l0, e63, e64]
    exact e15
def stRow (s : StD) (pw uw : Value) : List Value := [pw, .int .i64 s.cost, .int .i64 s.left, .int .i64 s.pos, .int .i64 s.used.length, uw]
def StpI (H0 : AH) (q7 : Nat) (x : InstD) (kv : Value) (N : Nat) (wr : Int) (k : Nat) (env : Env) (H' : AH) : Prop :=
  env 2 = some (.int .i64 wr) ∧ env 7 = some (.pointer (some ⟨q7, 0, none⟩)) ∧ env 9 = some (.pointer (some ⟨H0.next, 0, none⟩)) ∧ env 50 = some kv ∧ env 51 = some (.int .i64 N) ∧ env 52 = some (.int .i64 k) ∧ WF H' ∧ Keep [] H0 H' ∧
  ∃ wv W S s pw uw, env 11 = some wv ∧ OwnL (fun _ => False) H' T_int wv W S ∧ (∀ b ∈ S, H0.next < b) ∧ W.length = k ∧ x.replay W = (s, 0, true) ∧ H'.blk H0.next = some (.row [pw, .int .i64 s.cost, .int .i64 s.left, .int .i64 s.pos, .int .i64 s.used.length, uw] T_state_State true) ∧
    StV (fun b => b < H'.next ∧ b ≠ H0.next ∧ b ∉ S) H' (.agg #[pw, .int .i64 s.cost, .int .i64 s.left, .int .i64 s.pos, .int .i64 s.used.length, uw]) s
theorem steps_l1 {p : Nat → Prop} {H0 H1 : AH} {q7 : Nat} {x : InstD} {iv cv sv kv : Value} {K : List Int} {wr : Int} (hg : GroundA G H0) (hw : WF H0) (hwr : I64 wr) (hq : H0.cells q7 = some [.int .i64 x.kind, .int .i64 x.cap, iv, cv, .int .i64 x.size, sv]) (hx : InstV (fun b => b < H0.next) H0 (.agg #[.int .i64 x.kind, .int .i64 x.cap, iv, cv, .int .i64 x.size, sv]) x) (hok : x.Ok) (hK : SlV p H0 kv K) (hKl : K.length ≤ 20)
    {env : Env} (h : StpI H0 q7 x kv K.length wr 0 env H1) : wpC Tryd.prog 170 (.loop ir_law14_StateSteps_l1) (fun e env' H' => e = .exit 0) env H1 := by
  have hc0 := InstD.check_ok.2 hok
  refine loop_upto K.length (StpI H0 q7 x kv K.length wr) (Q := fun e env' H' => e = .exit 0) h ?_
  rintro k env H' hk ⟨e2, e7, e9, e50, e51, e52, w', k', wv, W, S, s, pw, uw, e11, hW, hS, hWl, hr, hb9, hs⟩
  by_cases hkn : k < K.length
  · obtain ⟨b0, off, sp, cap, cs, hcv, q1, q2⟩ := ints_rd (hK.kept hw k') (by omega)
    obtain ⟨q3, q4⟩ := q2 k hkn
    subst hcv
    clear h
    obtain ⟨hso, hpath⟩ := replayF_ok hok (start_ok hok) (show x.replayF x.start 0 W = (s, 0, true) from hr)
    have hpath' : s.path = W := by rw [hpath]; rfl
    have hspl : s.path.length ≤ 20 := by rw [hpath']; omega
    have n' := k'.next
    have hn9 : H0.next < H'.next := w'.lt hb9
    have c9 := AH.cells_of hb9
    have c7 := cells_kept hw k' hq
    have q7n := cells_lt hw hq
    have hSl := hW.lt w'
    obtain ⟨pv', uv', hagg, s1, s2⟩ := id hs
    obtain ⟨rfl, rfl⟩ : pw = pv' ∧ uw = uv' := by simp at hagg; exact hagg
    have hsc := s1.cell
    have huc := SetB_cell s2
    have hmv := Moves_spec (hg.kept hw k') hs.any (hx.kept hw k').any hok hso
    generalize K[k] = z at *
    simp (disch := omega) [-getElem?_pos, if_pos, if_neg, decide_eq_true, decide_eq_false, ir_law14_StateSteps_l1, e7, e9, e50, e51, e52, q1, q3, hkn, c7, c9, cut6']
    refine hmv.mono' fun lv H2 w2 ⟨S2, hM, k2, hS2⟩ => ?_
    have n2 := k2.next
    obtain ⟨ma, mc, rfl⟩ := hM.slice
    have hML := moves_len (x := x) (s := s)
    have hML2 : (x.moves s).length ≤ 5000 := by
      have := hso.used
      have := slots_le hok
      omega
    by_cases hM0 : (x.moves s).length = 0
    · have hM0' : ((x.moves s).length : Int) = 0 := by omega
      simp (disch := omega) [-getElem?_pos, if_pos, if_neg, decide_eq_true, decide_eq_false, hM0']
    · have hMne := eq_false (show ((x.moves s).length : Int) ≠ 0 by omega)
      have hMe : (x.moves s = []) = False := eq_false fun h => hM0 (by rw [h]; rfl)
      have hM2 : SlV (fun b => b < H2.next) H2 (.slice ma (x.moves s).length mc) (x.moves s) := hM.slv (fun _ h => h.elim) (fun b hb => hM.lt w2 b hb) (by omega)
      simp (disch := omega) [-getElem?_pos, if_pos, if_neg, decide_eq_true, decide_eq_false, hMne, hMe]
      refine wpC_use (steps_l0 (wr := wr) hM2 ⟨rfl, by simp [e2], by simp, by simp, by simp, by simp⟩) ?_
      rintro e env2 H2x ⟨rfl, hh, f15⟩ hu
      rw [hh]
      clear hh
      have u2 := hu 2 (by decide)
      have u7 := hu 7 (by decide)
      have u9 := hu 9 (by decide)
      have u11 := hu 11 (by decide)
      have u13 := hu 13 (by decide)
      have u14 := hu 14 (by decide)
      have u50 := hu 50 (by decide)
      have u51 := hu 51 (by decide)
      have u52 := hu 52 (by decide)
      simp only [put, upd] at u2 u7 u9 u11 u13 u14 u50 u51 u52
      simp [e2, e7, e9, e11, e50, e51, e52] at u2 u7 u9 u11 u13 u14 u50 u51 u52
      have c92 := cells_kept w' k2 c9
      have c72 := cells_kept w' k2 c7
      have hs2' : StV (fun b => b < H'.next ∧ b ≠ H0.next ∧ ¬ b ∈ S) H2 (.agg #[pw, .int .i64 s.cost, .int .i64 s.left, .int .i64 s.pos, .int .i64 s.used.length, uw]) s := hs.kept w' k2
      have hx2 := (hx.kept hw k').up (q := fun b => b < H2.next) (fun b hb => by omega) (.kept w' k2)
      have hap := Apply_spec (d := wr) (hg.kept hw (k'.trans' k2)) (fun b hb => by have := hb.1; omega) hs2' hx2 hok hso hwr (by omega)
      clear hagg
      simp (disch := omega) [-getElem?_pos, if_pos, if_neg, decide_eq_true, decide_eq_false, u2, u7, u9, c92, c72, hsc.1, hsc.2, huc.1, huc.2, cut6']
      refine hap.mono' fun u H3 w3 ⟨k3, hu3⟩ => ?_
      have n3 := k3.next
      clear hap hmv
      by_cases hwm : wr ∈ x.moves s
      case' pos =>
        rw [if_pos hwm] at hu3
        rw [decide_eq_true hwm] at f15
        generalize x.applyS s wr = sx at hu3
        obtain ⟨tx, rfl, hx3⟩ := hu3
        obtain ⟨px, ux, rfl, x1, x2⟩ := id hx3
        have hxc := x1.cell
        have hxu := SetB_cell x2
        simp (disch := omega) [-getElem?_pos, if_pos, if_neg, decide_eq_true, decide_eq_false, u2, u7, u9, u13, u14, f15, hxc.1, hxc.2, hxu.1, hxu.2, writeA, over, cut6']
      case' neg =>
        rw [if_neg hwm] at hu3
        rw [decide_eq_false hwm] at f15
        generalize zeroSt = sx at hu3
        obtain ⟨tx, rfl, hx3⟩ := hu3
        obtain ⟨px, ux, rfl, x1, x2⟩ := id hx3
        have hxc := x1.cell
        have hxu := SetB_cell x2
        simp (disch := omega) [-getElem?_pos, if_pos, if_neg, decide_eq_true, decide_eq_false, u2, u7, u9, u13, u14, f15, hxc.1, hxc.2, hxu.1, hxu.2, writeA, over, cut6']
      all_goals
        generalize hH4 : AH.alloc H3 _ = H4
        have k4 : Keep [] H3 H4 := by rw [← hH4]; exact .alloc
        have w4 : WF H4 := by rw [← hH4]; exact w3.alloc
        clear hH4 hxu hxc x1 x2 hx3
        have n4 := k4.next
        have k24 := k3.trans' k4
        have k'4 := k2.trans' k24
        obtain ⟨b1, off1, sp1, cap1, cs1, hcv1, r1, r2⟩ := ints_rd (hM2.kept w2 k24) (by omega)
        cases hcv1
        have hz0 : 0 ≤ (if 0 < z then z else 0) := by split <;> omega
        obtain ⟨j, hj⟩ : ∃ j : Nat, (if 0 < z then z else 0).tmod (x.moves s).length = (j : Int) := ⟨((if 0 < z then z else 0).tmod (x.moves s).length).toNat, by rw [Int.toNat_of_nonneg (Int.tmod_nonneg _ hz0)]⟩
        have hjl : j < (x.moves s).length := by
          have := Int.tmod_lt_of_pos (if 0 < z then z else 0) (show (0 : Int) < (x.moves s).length by omega)
          omega
        obtain ⟨r3, r4⟩ := r2 j hjl
        have hdm : (x.moves s)[j] ∈ x.moves s := List.getElem_mem _
        generalize (x.moves s)[j] = d at *
        have hs4 := hs2'.kept w2 k24
        have hx4 := (hx2.kept w2 k24).up (q := fun b => b < H4.next) (fun b hb => by omega) .refl
        have c94 := cells_kept w2 k24 c92
        have c74 := cells_kept w2 k24 c72
        have hap := Apply_spec (d := d) (hg.kept hw (k'.trans' k'4)) (fun b hb => by have := hb.1; omega) hs4 hx4 hok hso r4 (by omega)
        simp (disch := omega) [-getElem?_pos, if_pos, if_neg, decide_eq_true, decide_eq_false, hMe, hj, r1, r3, u7, u9, c94, c74, hsc.1, hsc.2, huc.1, huc.2, cut6']
        refine hap.mono' fun u H5 w5 ⟨k5, hu5⟩ => ?_
        have n5 := k5.next
        clear hap
        rw [if_pos hdm] at hu5
        obtain ⟨tt, rfl, ht5⟩ := hu5
        obtain ⟨pt, ut, rfl, t1, t2⟩ := id ht5
        have htc := t1.cell
        have htu := SetB_cell t2
        have hsn := replayF_snoc (show x.replayF x.start 0 W = (s, 0, true) from hr) hdm
        have hpt : (x.applyS s d).path = W ++ [d] := by rw [apply_path, hpath']
        generalize x.applyS s d = t at *
        obtain ⟨H6, hH6⟩ : ∃ H6, H6 = H5.alloc (.row [pt, .int .i64 t.cost, .int .i64 t.left, .int .i64 t.pos, .int .i64 t.used.length, ut] T_state_State true) := ⟨_, rfl⟩
        have k6 : Keep [] H5 H6 := by rw [hH6]; exact .alloc
        have w6 : WF H6 := by rw [hH6]; exact w5.alloc
        have n6 : H6.next = H5.next + 1 := by rw [hH6]; simp
        have c6 : H6.cells H5.next = some [pt, .int .i64 t.cost, .int .i64 t.left, .int .i64 t.pos, .int .i64 t.used.length, ut] := by rw [hH6]; simp
        have k'6 := k'4.trans' (k5.trans' k6)
        obtain ⟨oa, oc, rfl⟩ := hW.slice
        obtain ⟨va, vc, H7, S7, p1, w7, hW7, k07, hS7, k67, hS7'⟩ := push_i64 (ty := T_int) (H := H0) w6 (hW.kept w' k'6) (k'.trans' k'6) (fun b hb => by have := hS b hb; omega) r4 (by omega)
        have pE : elemsA (H6.alloc (.row [.int .i64 d] T_int true)) 1 (.slice (some ⟨H6.next, 0, none⟩) 1 1) = some [.int .i64 d] := elems_one rfl
        simp (disch := omega) [-getElem?_pos, if_pos, if_neg, decide_eq_true, decide_eq_false, u11, htc.1, htc.2, htu.1, htu.2, writeA, over, cut6', ← hH6]
        have n7 := k67.next
        have nS : ∀ b ∈ S, H0.next < b ∧ b < H'.next := fun b hb => ⟨hS b hb, hSl b hb⟩
        have c97 : H7.cells H0.next = some [pw, .int .i64 s.cost, .int .i64 s.left, .int .i64 s.pos, .int .i64 s.used.length, uw] := cells_keep w6 k67 (fun h => by have := nS _ h; omega) (cells_kept w4 (k5.trans' k6) c94)
        have c67 : H7.cells H5.next = some [pt, .int .i64 t.cost, .int .i64 t.left, .int .i64 t.pos, .int .i64 t.used.length, ut] := cells_keep w6 k67 (fun h => by have := nS _ h; omega) c6
        have c77 := cells_kept hw k07 hq
        have hx7 : InstV (fun b => b < H7.next) H7 (.agg #[.int .i64 x.kind, .int .i64 x.cap, iv, cv, .int .i64 x.size, sv]) x := hx.up (fun b hb => by omega) (.kept hw k07)
        have hs7 := (hs4.kept w4 (k5.trans' k6)).up (q := fun b => b < H'.next ∧ b ≠ H0.next ∧ ¬ b ∈ S) (fun _ h => h) (.keep w6 k67 fun b hb h => h.2.2 hb)
        have ht7 := (ht5.kept w5 k6).up (q := fun b => (b < H'.next ∧ b ≠ H0.next ∧ ¬ b ∈ S ∨ H4.next ≤ b) ∧ b < H5.next) (fun _ h => h) (.keep w6 k67 fun b hb h => by
          rcases h.1 with h1 | h1
          · exact h1.2.2 hb
          · have := nS _ hb; omega)
        have hWl7 : (W ++ [d]).length = W.length + 1 := by simp
        have hWv : SlV (fun b => b < H7.next) H7 (.slice va (W.length + 1) vc) (W ++ [d]) := hW7.slv (fun _ h => h.elim) (fun b hb => hW7.lt w7 b hb) (by omega)
        have hrp := Replay_spec (hg.kept hw k07) hx7 hWv (by omega)
        rw [hc0] at hrp
        simp only [if_true] at hrp
        rw [show x.replay (W ++ [d]) = (t, 0, true) from hsn] at hrp
        simp (disch := omega) [-getElem?_pos, if_pos, if_neg, decide_eq_true, decide_eq_false, pE, p1, u7, c77, cut6']
        refine hrp.mono' fun u H8 w8 ⟨tv, hu8, ht8, k8⟩ => ?_
        subst hu8
        dsimp only at ht8
        obtain ⟨p8, u8, rfl, y1, y2⟩ := id ht8
        have h8c := y1.cell
        have h8u := SetB_cell y2
        have n8 := k8.next
        clear hrp
        simp (disch := omega) [-getElem?_pos, if_pos, if_neg, decide_eq_true, decide_eq_false, h8c.1, h8c.2, h8u.1, h8u.2, writeA, over, cut6']
        have c78 := cells_kept w7 k8 c77
        have hq78 : q7 ≠ H8.next := by omega
        have k9 : Keep [] H8 (H8.alloc (.row [p8, .int .i64 t.cost, .int .i64 t.left, .int .i64 t.pos, .int .i64 t.used.length, u8] T_state_State true)) := .alloc
        have w9 : WF (H8.alloc (.row [p8, .int .i64 t.cost, .int .i64 t.left, .int .i64 t.pos, .int .i64 t.used.length, u8] T_state_State true)) := w8.alloc
        have n9 : (H8.alloc (.row [p8, .int .i64 t.cost, .int .i64 t.left, .int .i64 t.pos, .int .i64 t.used.length, u8] T_state_State true)).next = H8.next + 1 := by simp
        have c9u : (H8.alloc (.row [p8, .int .i64 t.cost, .int .i64 t.left, .int .i64 t.pos, .int .i64 t.used.length, u8] T_state_State true)).cells H8.next = some [p8, .int .i64 t.cost, .int .i64 t.left, .int .i64 t.pos, .int .i64 t.used.length, u8] := by simp
        generalize AH.alloc H8 _ = H9 at *
        have c79 := cells_kept w8 k9 c78
        have k79 := k8.trans' k9
        have hsub : ((W.length + 1 : Nat) : Int) - 1 = (W.length : Int) := by omega
        have hsub' : ((W.length : Int) + 1) - 1 = (W.length : Int) := by omega
        obtain ⟨wP, hsl, hwP⟩ := ((hWv.kept w7 k79).kept w9 (.room (m := 15))).sl (m := W.length) (by omega)
        simp only [sz_int] at hsl
        rw [List.take_left'  rfl] at hwP
        have hwPc := hwP.cell
        simp (disch := omega) [-getElem?_pos, if_pos, if_neg, decide_eq_true, decide_eq_false, u7, hq78, c78, cut6', ↓ieval_slhi, hsub, hsub', hsl, IntWalk.i64_in]
        refine callM_grow (X := [H8.next + 1 + 11]) (Y := []) rfl (by unfold mind; simp) (GrowCall.of good_state_Replay fun Hx hxn hxb hxw => ?_)
        have hn0 : Hx.next = H9.next + 15 := by simpa using hxn
        have k9x : Keep [] H9 Hx := ⟨by omega, fun b hb _ => by
          rw [hxb b (by simp; omega), AH.set_blk_ne (by omega)]; rfl⟩
        have k0x := k07.trans' (k79.trans' k9x)
        have hwPx : SlV (fun b => b < Hx.next) Hx wP W := hwP.up (fun b hb => by omega) fun b hb cs hc => by
          unfold AH.cells at hc ⊢
          rw [hxb b (by simp; omega), AH.set_blk_ne (by omega)]
          exact hc
        have hrp := Replay_spec (hg.kept hw k0x) (hx.up (q := fun b => b < Hx.next) (fun b hb => by have := k0x.next; omega) (.kept hw k0x)) hwPx (by omega)
        rw [hc0] at hrp
        simp only [if_true] at hrp
        rw [hr] at hrp
        refine hrp.mono fun u H10 ⟨tv, hu10, hs10, k10⟩ w10 hle10 => ⟨fun b hb => ?_, ?_⟩
        · rcases hb with hb | hb
          · exact k10.blk b (by simp at hb; omega) (by simp)
          · simp at hb
        have n10 := k10.next
        have n9x := k9x.next
        generalize hG : graft _ _ H10 = G1
        have gn : G1.next = H10.next := by rw [← hG]; rfl
        have gb : ∀ b, b ≠ H8.next + 1 + 11 → G1.blk b = H10.blk b := fun b hb => by
          rw [← hG]
          exact if_neg (by simpa using hb)
        have gx : G1.blk (H8.next + 1 + 11) = some (.row [.slice none 0 0, .int .i64 0, .int .i64 0, .int .i64 0, .int .i64 0, .slice none 0 0] T_state_State true) := by
          rw [← hG]
          refine (if_pos (by simp)).trans ?_
          exact AH.set_blk_same
        clear hG
        have k9g : Keep [] H9 G1 := ⟨by omega, fun b hb _ => by rw [gb b (by omega), k10.blk b (by omega) (by simp), k9x.blk b hb (by simp)]⟩
        have wG : WF G1 := fun b B hB => by
          by_cases hbx : b = H8.next + 1 + 11
          · omega
          · rw [gb b hbx] at hB
            have := w10 b B hB
            omega
        have hsG := hs10.up (q := fun b => Hx.next ≤ b ∧ b < H10.next) (fun _ h => h) fun b hb cs hc => by
          unfold AH.cells at hc ⊢
          rw [gb b (by have := hb.1; omega)]
          exact hc
        subst hu10
        dsimp only at hsG
        obtain ⟨p9, v9, rfl, z1, z2⟩ := id hsG
        have z1c := z1.cell
        have z2c := SetB_cell z2
        have cG9 := cells_kept w9 k9g (cells_kept w7 k79 c97)
        have cG5 := cells_kept w9 k9g (cells_kept w7 k79 c67)
        have cG8 := cells_kept w9 k9g c9u
        simp (disch := omega) [-getElem?_pos, if_pos, if_neg, decide_eq_true, decide_eq_false, gx, z1c.1, z1c.2, z2c.1, z2c.2, writeA, over, cut6']
        have k9h : Keep [] H9 (G1.set (H8.next + 1 + 11) (.row [p9, .int .i64 s.cost, .int .i64 s.left, .int .i64 s.pos, .int .i64 s.used.length, v9] T_state_State true)) := .new_set (by omega) k9g
        have wh : WF (G1.set (H8.next + 1 + 11) (.row [p9, .int .i64 s.cost, .int .i64 s.left, .int .i64 s.pos, .int .i64 s.used.length, v9] T_state_State true)) := wG.set (by omega)
        have ch : (G1.set (H8.next + 1 + 11) (.row [p9, .int .i64 s.cost, .int .i64 s.left, .int .i64 s.pos, .int .i64 s.used.length, v9] T_state_State true)).cells (H8.next + 1 + 11) = some [p9, .int .i64 s.cost, .int .i64 s.left, .int .i64 s.pos, .int .i64 s.used.length, v9] := AH.cells_set_same
        have hsh : StV (fun b => Hx.next ≤ b ∧ b < H10.next) (G1.set (H8.next + 1 + 11) (.row [p9, .int .i64 s.cost, .int .i64 s.left, .int .i64 s.pos, .int .i64 s.used.length, v9] T_state_State true)) (.agg #[p9, .int .i64 s.cost, .int .i64 s.left, .int .i64 s.pos, .int .i64 s.used.length, v9]) s := hsG.up (fun _ h => h) (.set (by omega))
        generalize AH.set G1 _ _ = H11 at *
        have ch9 := cells_kept w9 k9h (cells_kept w7 k79 c97)
        have ch5 := cells_kept w9 k9h (cells_kept w7 k79 c67)
        have ch8 := cells_kept w9 k9h c9u
        have k7h := k79.trans' k9h
        have hs11 := hs7.kept w7 k7h
        have ht11 := ht7.kept w7 k7h
        have hu11 := ht8.kept w8 (k9.trans' k9h)
        simp (disch := omega) [-getElem?_pos, if_pos, if_neg, decide_eq_true, decide_eq_false, u9, cG9, cG5, cG8, ch9, ch5, ch8, ch, cut6']
        refine AFn.pure (Equal_st ht11.any hu11.any) ?_
        have hst : (s.path = t.path) = False := eq_false fun h => by
          rw [hpt, hpath'] at h
          have := congrArg List.length h
          simp at this
        have hlen : ((t.path.length : Nat) : Int) = (s.path.length : Int) + 1 := by rw [hpt, hpath']; simp
        simp (disch := omega) [-getElem?_pos, if_pos, if_neg, decide_eq_true, decide_eq_false, u9, cG9, cG5, cG8, ch9, ch5, ch8, ch, cut6']
        refine AFn.pure (Equal_st hs11.any hsh.any) ?_
        simp (disch := omega) [-getElem?_pos, if_pos, if_neg, decide_eq_true, decide_eq_false, u9, cG9, cG5, cG8, ch9, ch5, ch8, ch, cut6']
        refine AFn.pure (Equal_st hs11.any ht11.any) ?_
        obtain ⟨ta, tc, rfl⟩ := t1.slice
        obtain ⟨sa, sc, rfl⟩ := s1.slice
        have b9 : H11.blk H0.next = some (.row [.slice sa s.path.length sc, .int .i64 s.cost, .int .i64 s.left, .int .i64 s.pos, .int .i64 s.used.length, uw] T_state_State true) := by
          rw [k7h.blk _ (by omega) (by simp), k67.blk _ (by omega) (fun h => by have := nS _ h; omega), k'6.blk _ hn9 (by simp), hb9]
        generalize hsl2 : s.path.length = sl at *
        generalize htl2 : t.path.length = tl at *
        simp (disch := omega) [-getElem?_pos, if_pos, if_neg, decide_eq_true, decide_eq_false, u9, hst, hlen, cG9, cG5, cG8, ch9, ch5, ch8, ch, b9, htc.1, htc.2, htu.1, htu.2, u52, cut6', writeA, over, IntWalk.i64_in]
        have wz : WF (H11.set H0.next (.row [.slice ta tl tc, .int .i64 t.cost, .int .i64 t.left, .int .i64 t.pos, .int .i64 t.used.length, ut] T_state_State true)) := wh.set (by have := k7h.next; omega)
        have h7n := k7h.next
        have hW11 := hW7.kept w7 k7h
        refine ⟨hkn, by simp [u2], by simp [u7], by simp [u9], by simp [u50], by simp [u51], by simp, wz, .new_set (by omega) (k07.trans' k7h), _, W ++ [d], S7, t, .slice ta tl tc, ut, by simp; rfl, ?_, fun b hb => ?_, by simp; omega, hsn, AH.set_blk_same, ?_⟩
        · have := hW11.over (H' := H11.set H0.next (.row [.slice ta tl tc, .int .i64 t.cost, .int .i64 t.left, .int .i64 t.pos, .int .i64 t.used.length, ut] T_state_State true)) (fun _ h => h.elim) (fun b hb => AH.set_blk_ne (by
            rcases hS7' b hb with h | h
            · have := nS b h; omega
            · omega))
          exact this
        · rcases hS7' b hb with h | h
          · exact (nS b h).1
          · omega
        · subst htl2
          refine ht11.up (fun b hb => ?_) (.set fun hb => ?_)
          · refine ⟨by show b < H11.next; omega, fun h => ?_, fun h => ?_⟩
            · rcases hb.1 with h1 | h1
              · exact h1.2.1 h
              · omega
            · rcases hS7' b h with h2 | h2
              · rcases hb.1 with h1 | h1
                · exact h1.2.2 h2
                · have := nS b h2; omega
              · omega
          · rcases hb.1 with h1 | h1
            · exact h1.2.1 rfl
            · omega
  · obtain rfl : k = K.length := by omega
    simp (disch := omega) [-getElem?_pos, if_pos, if_neg, decide_eq_true, decide_eq_false, ir_law14_StateSteps_l1, e51, e52]
end Go.Proofs.YtlcddhgfkkjhkaaDoor
