/-
  Layer 14: StateAnswers, whole.
-/
import Derived.Test.YtlcddhgfkkjhkaaDoorClipT
import Derived.Test.YtlcddhgfkkjhkaaDoorWak14
import Derived.Test.YtlcddhgfkkjhkaaDoorState7
import Derived.Test.YtlcddhgfkkjhkaaDoorAns
set_option maxRecDepth 100000
set_option linter.unusedSimpArgs false
set_option linter.unusedVariables false
namespace Go.Proofs.YtlcddhgfkkjhkaaDoor
open Go Go.Abs
theorem Feasible_spec {H : AH} {v w : Value} {x : InstD} {X : List Int} (hx : InstV (fun _ => True) H v x) (hX : SlV (fun _ => True) H w X) : AFn Tryd.prog F_eval_Feasible [v, w] H fun u H' => u = .bool (decide (x.check = 0) && x.may X) ∧ H' = H := by
  refine AFn.calm (fun H0 hs => ?_) rfl
  have hx0 := hx.same hs
  have hX0 := hX.same hs
  obtain ⟨iv, cv, sv, rfl, i1, i2, i3, h1, h2, h3⟩ := id hx0
  obtain ⟨wa, wc, rfl⟩ := hX.slice
  refine AFn.enter mixed ir_eval_Feasible_eq (by simp [ir_eval_Feasible]) fun hw => ?_
  have bc : (H0.alloc (.row (instC x iv cv sv) T_inst_Inst true)).cells H0.next = some (instC x iv cv sv) := AH.cells_alloc_new
  have k1 : Keep [] H0 (H0.alloc (.row (instC x iv cv sv) T_inst_Inst true)) := .alloc
  have w1 := WF.alloc hw (B := .row (instC x iv cv sv) T_inst_Inst true)
  have hX1 := hX0.kept hw k1
  have hx1 := hx0.kept hw k1
  generalize hq : H0.next = q at *
  simp (disch := omega) [-getElem?_pos, if_pos, if_neg, decide_eq_true, decide_eq_false, ir_eval_Feasible, hq, inst_cut]
  generalize H0.alloc (.row (instC x iv cv sv) T_inst_Inst true) = H1 at *
  refine AFn.pure (Check_spec hx1) ?_
  by_cases hc : x.check = 0
  · have hok := InstD.check_ok.1 hc
    simp (disch := omega) [-getElem?_pos, if_pos, if_neg, decide_eq_true, decide_eq_false, hc, bc, inst_cut]
    refine AFn.pure (may_spec hx1 hX1 hok) ?_
    simp (disch := omega) [-getElem?_pos, if_pos, if_neg, decide_eq_true, decide_eq_false, ]
  · simp (disch := omega) [-getElem?_pos, if_pos, if_neg, decide_eq_true, decide_eq_false, hc]
def AwI (H0 : AH) (q5 : Nat) (x : InstD) (kv : Value) (k : Nat) (env : Env) (H' : AH) : Prop :=
  env 1 = some kv ∧ env 5 = some (.pointer (some ⟨q5, 0, none⟩)) ∧ env 7 = some (.pointer (some ⟨H0.next, 0, none⟩)) ∧ env 9 = some (.int .i64 k) ∧ WF H' ∧ Keep [] H0 H' ∧
  ∃ s pw uw, StOk x s ∧ AnsI x s ∧ s.path.length = k ∧ H'.blk H0.next = some (.row [pw, .int .i64 s.cost, .int .i64 s.left, .int .i64 s.pos, .int .i64 s.used.length, uw] T_state_State true) ∧
    StV (fun b => b < H'.next ∧ b ≠ H0.next) H' (.agg #[pw, .int .i64 s.cost, .int .i64 s.left, .int .i64 s.pos, .int .i64 s.used.length, uw]) s
def AwQ (e : AExit) (env : Env) (H' : AH) : Prop := e = .ret ∧ env 4 = some (.bool true)
theorem answers_l0 {H0 H1 : AH} {q5 : Nat} {x : InstD} {iv cv sv kv : Value} {K : List Int} (hg : GroundA G H0) (hw : WF H0) (hq : H0.cells q5 = some [.int .i64 x.kind, .int .i64 x.cap, iv, cv, .int .i64 x.size, sv]) (hx : InstV (fun b => b < H0.next) H0 (.agg #[.int .i64 x.kind, .int .i64 x.cap, iv, cv, .int .i64 x.size, sv]) x) (ht : Tame 8 x) (hK : SlV (fun b => b < H0.next) H0 kv K)
    {env : Env} (h : AwI H0 q5 x kv 0 env H1) : wpC Tryd.prog 109 (.loop ir_law14_StateAnswers_l0) AwQ env H1 := by
  have hok := ht.ok
  have hc0 := InstD.check_ok.2 hok
  refine loop_upto 20 (AwI H0 q5 x kv) (Q := AwQ) h ?_
  rintro k env H' hk ⟨e1, e5, e7, e9, w', k', s, pw, uw, hso, han, hpl, hb7, hs⟩
  clear h
  have hp8 := path_le (m := 8) hok hso ht.items (by have := ht.cost; omega) ht.sets
  have hk20 : k < 20 := by omega
  have n' := k'.next
  have hn7 : H0.next < H'.next := w'.lt hb7
  have c7 := AH.cells_of hb7
  have c5 := cells_kept hw k' hq
  have q5n := cells_lt hw hq
  obtain ⟨pv', uv', hagg, s1, s2⟩ := id hs
  obtain ⟨rfl, rfl⟩ : pw = pv' ∧ uw = uv' := by simp at hagg; exact hagg
  clear hagg
  have hsc := s1.cell
  have huc := SetB_cell s2
  have hxk := hx.kept hw k'
  have hmv := Moves_spec (hg.kept hw k') hs.any hxk.any hok hso
  have hkv := hK.kept hw k'
  obtain ⟨ka, kc, rfl⟩ := hK.slice
  have hKm := hK.max
  simp (disch := omega) [-getElem?_pos, if_pos, if_neg, decide_eq_true, decide_eq_false, ir_law14_StateAnswers_l0, e1, e5, e7, e9, hk20, c5, c7, cut6']
  refine hmv.mono' fun lv H2 w2 ⟨S2, hM, k2, hS2⟩ => ?_
  clear hmv
  have n2 := k2.next
  obtain ⟨ma, mc, rfl⟩ := hM.slice
  have hML := moves_len (x := x) (s := s)
  have hML2 : (x.moves s).length ≤ 5000 := by
    have := hso.used
    have := slots_le hok
    omega
  have c52 := cells_kept w' k2 c5
  have c72 := cells_kept w' k2 c7
  have hx2 := hxk.kept w' k2
  have hs2 : StV (fun b => b < H'.next ∧ b ≠ H0.next) H2 (.agg #[pw, .int .i64 s.cost, .int .i64 s.left, .int .i64 s.pos, .int .i64 s.used.length, uw]) s := hs.kept w' k2
  have han2 := Answer_spec (hs2.up (q := fun b => b < H2.next) (fun b hb => by have := hb.1; omega) .refl) (hx2.up (q := fun b => b < H2.next) (fun b hb => by omega) .refl) (by omega)
  simp (disch := omega) [-getElem?_pos, if_pos, if_neg, decide_eq_true, decide_eq_false, e1, e5, e7, e9, c52, c72, cut6']
  refine han2.mono' fun u H3 w3 ⟨av, hu, hN⟩ => ?_
  subst hu
  clear han2
  obtain ⟨S3, hA, k3, hS3⟩ := id hN
  have n3 := k3.next
  have hac := hA.cell
  have c53 := cells_kept w2 k3 c52
  have c73 := cells_kept w2 k3 c72
  have hx3 := hx2.kept w2 k3
  have hs3 := hs2.kept w2 k3
  have hM3 : SlV (fun b => b < H3.next) H3 (.slice ma (x.moves s).length mc) (x.moves s) := (hM.kept w2 k3).slv (fun _ h => h.elim) (fun b hb => (hM.kept w2 k3).lt w3 b hb) (by omega)
  have hAs : SlV (fun b => True) H3 av (x.answer s) := hA.slv (fun _ h => h.elim) (fun b hb => trivial) (by
    unfold InstD.answer
    split
    · split
      · omega
      · split
        · simp; omega
        · rw [List.length_map]; exact Nat.le_trans (List.length_filter_le _ _) (by simp; omega)
    · simp)
  simp (disch := omega) [-getElem?_pos, if_pos, if_neg, decide_eq_true, decide_eq_false, e5, e7, hac, c53, c73, cut6']
  refine AFn.pure (Done_spec hs3.any hx3.any) ?_
  cases hd : x.done s with
  | true =>
    have hm0 := done_moves hd
    obtain ⟨hmay, hcost⟩ := done_answer hok hso han hd
    have hml0 : (x.moves s).length = 0 := by rw [hm0]; rfl
    have hm0' : ((x.moves s).length : Int) = 0 := by omega
    have hve : x.valueE (x.answer s) = 0 := by unfold InstD.valueE; rw [if_pos hc0, if_pos hmay]
    have hC := Cost_spec hx3.any hAs
    have hF := Feasible_spec hx3.any hAs
    rw [hcost, hve] at hC
    rw [hmay, hc0] at hF
    obtain ⟨aa, ac, rfl⟩ := hA.slice
    clear hcost hve hmay hm0
    generalize x.answer s = A at *
    generalize (x.moves s).length = ML at *
    generalize s.cost = sc at *
    simp (disch := omega) [-getElem?_pos, if_pos, if_neg, decide_eq_true, decide_eq_false, e5, e7, hm0', hml0, c53, c73, cut6']
    refine AFn.pure hC ?_
    simp (disch := omega) [-getElem?_pos, if_pos, if_neg, decide_eq_true, decide_eq_false, e5, e7, c53, c73, cut6']
    refine AFn.pure hF ?_
    simp (disch := omega) [-getElem?_pos, if_pos, if_neg, decide_eq_true, decide_eq_false, ]
    exact ⟨rfl, by simp⟩
  | false =>
    have hst := stuck_cover hok hso han hd
    by_cases hM0 : (x.moves s).length = 0
    · have hm0 : x.moves s = [] := List.eq_nil_of_length_eq_zero hM0
      have hm0' : ((x.moves s).length : Int) = 0 := by omega
      have hk3 := eq_true (hst hm0)
      simp (disch := omega) [-getElem?_pos, if_pos, if_neg, decide_eq_true, decide_eq_false, e5, e7, hm0', hm0, hk3, c53, c73, cut6']
      exact ⟨rfl, by simp⟩
    · have hMne := eq_false (show ((x.moves s).length : Int) ≠ 0 by omega)
      have hMe : (x.moves s = []) = False := eq_false fun h => hM0 (by rw [h]; rfl)
      have fin : ∀ (d : Int), d ∈ x.moves s → ∀ (tt : Value) (H5 : AH), WF H5 → Keep [] H3 H5 → StV (fun b => (b < H'.next ∧ b ≠ H0.next ∨ H3.next ≤ b) ∧ b < H5.next) H5 tt (x.applyS s d) → ∃ pt ut, tt = .agg #[pt, .int .i64 (x.applyS s d).cost, .int .i64 (x.applyS s d).left, .int .i64 (x.applyS s d).pos, .int .i64 (x.applyS s d).used.length, ut] ∧ one pt = true ∧ cellsOf pt = some [pt] ∧ one ut = true ∧ cellsOf ut = some [ut] ∧
          H5.blk H0.next = some (.row [pw, .int .i64 s.cost, .int .i64 s.left, .int .i64 s.pos, .int .i64 s.used.length, uw] T_state_State true) ∧
          ∀ env2 : Env, env2 1 = some (.slice ka K.length kc) → env2 5 = some (.pointer (some ⟨q5, 0, none⟩)) → env2 7 = some (.pointer (some ⟨H0.next, 0, none⟩)) → env2 9 = some (.int .i64 ((k + 1 : Nat) : Int)) →
          AwI H0 q5 x (.slice ka K.length kc) (k + 1) env2 (H5.set H0.next (.row [pt, .int .i64 (x.applyS s d).cost, .int .i64 (x.applyS s d).left, .int .i64 (x.applyS s d).pos, .int .i64 (x.applyS s d).used.length, ut] T_state_State true)) := by
        intro d hdm tt H5 w5 k5 ht5
        obtain ⟨pt, ut, rfl, t1, t2⟩ := id ht5
        have htc := t1.cell
        have htu := SetB_cell t2
        have n5 := k5.next
        refine ⟨pt, ut, rfl, htc.1, htc.2, htu.1, htu.2, ?_, fun env2 f1 f5 f7 f9 => ⟨f1, f5, f7, f9, w5.set (by omega), .new_set (by omega) (k'.trans' (k2.trans' (k3.trans' k5))), x.applyS s d, pt, ut, apply_ok hok hso hdm, ans_apply hok hso han hdm, by rw [apply_path]; simp; omega, AH.set_blk_same, ?_⟩⟩
        · rw [k5.blk _ (by omega) (by simp), k3.blk _ (by omega) (by simp), k2.blk _ (by omega) (by simp), hb7]
        · refine ht5.up (fun b hb => ?_) (.set fun hb => ?_)
          · refine ⟨hb.2, fun h => ?_⟩
            rcases hb.1 with h1 | h1
            · exact h1.2 h
            · omega
          · rcases hb.1 with h1 | h1
            · exact h1.2 rfl
            · omega
      have hap := fun (d : Int) (hdd : I64 d) => Apply_spec (d := d) (hg.kept hw (k'.trans' (k2.trans' k3))) (fun b (hb : b < H'.next ∧ b ≠ H0.next) => by omega) hs3 (hx3.up (q := fun b => b < H3.next) (fun b hb => by omega) .refl) hok hso hdd (by omega)
      obtain ⟨b1, off1, sp1, cap1, cs1, hcv1, r1, r2⟩ := ints_rd hM3 (by omega)
      cases hcv1
      by_cases hkn : k < K.length
      · obtain ⟨b0, off, sp, cap, cs, hcv, q1, q2⟩ := ints_rd ((hkv.kept w' k2).kept w2 k3) (by omega)
        obtain ⟨q3, q4⟩ := q2 k hkn
        cases hcv
        generalize K[k] = z at *
        have hz0 : 0 ≤ (if 0 < z then z else 0) := by split <;> omega
        obtain ⟨j, hj⟩ : ∃ j : Nat, (if 0 < z then z else 0).tmod (x.moves s).length = (j : Int) := ⟨((if 0 < z then z else 0).tmod (x.moves s).length).toNat, by rw [Int.toNat_of_nonneg (Int.tmod_nonneg _ hz0)]⟩
        have hjl : j < (x.moves s).length := by
          have := Int.tmod_lt_of_pos (if 0 < z then z else 0) (show (0 : Int) < (x.moves s).length by omega)
          omega
        obtain ⟨r3, r4⟩ := r2 j hjl
        have hdm : (x.moves s)[j] ∈ x.moves s := List.getElem_mem _
        generalize (x.moves s)[j] = d at *
        simp (disch := omega) [-getElem?_pos, if_pos, if_neg, decide_eq_true, decide_eq_false, e1, e5, e7, e9, hMne, hMe, hkn, q1, q3, hj, hjl, r1, r3, c53, c73, cut6']
        refine AFnD.from (hap d r4) fun u H5 w5 ⟨k5, hu5⟩ => ⟨k5.grow w3, ?_⟩
        rw [if_pos hdm] at hu5
        obtain ⟨tt, rfl, ht5⟩ := hu5
        obtain ⟨pt, ut, rfl, f1, f2, f3, f4, f5, f6⟩ := fin d hdm tt H5 w5 k5 ht5
        clear fin
        generalize x.applyS s d = t at *
        simp (disch := omega) [-getElem?_pos, if_pos, if_neg, decide_eq_true, decide_eq_false, e7, f1, f2, f3, f4, f5, writeA, over, cut6', e9, IntWalk.i64_in]
        exact ⟨by omega, f6 _ (by simp [e1]) (by simp [e5]) (by simp [e7]) (by simp)⟩
      · obtain ⟨r3, r4⟩ := r2 0 (by omega)
        have hdm : (x.moves s)[0] ∈ x.moves s := List.getElem_mem _
        generalize (x.moves s)[0] = d at *
        rw [Nat.add_zero] at r3
        have hM1 : 0 < (x.moves s).length := by omega
        simp (disch := omega) [-getElem?_pos, if_pos, if_neg, decide_eq_true, decide_eq_false, e1, e5, e7, e9, hMne, hMe, hkn, hM1, r1, r3, c53, c73, cut6']
        refine AFnD.from (hap d r4) fun u H5 w5 ⟨k5, hu5⟩ => ⟨k5.grow w3, ?_⟩
        rw [if_pos hdm] at hu5
        obtain ⟨tt, rfl, ht5⟩ := hu5
        obtain ⟨pt, ut, rfl, f1, f2, f3, f4, f5, f6⟩ := fin d hdm tt H5 w5 k5 ht5
        clear fin
        generalize x.applyS s d = t at *
        simp (disch := omega) [-getElem?_pos, if_pos, if_neg, decide_eq_true, decide_eq_false, e7, f1, f2, f3, f4, f5, writeA, over, cut6', e9, IntWalk.i64_in]
        exact ⟨by omega, f6 _ (by simp [e1]) (by simp [e5]) (by simp [e7]) (by simp)⟩
theorem StateAnswers_abs {H : AH} {v kv : Value} {x : InstD} {K : List Int} (hg : GroundA G H) (hx : InstV (fun b => b < H.next) H v x) (hK : SlV (fun b => b < H.next) H kv K) : AFn Tryd.prog F_law14_StateAnswers [v, kv] H fun u H' => u = .bool true ∧ H' = H := by
  refine AFn.calm (fun H0 hs => ?_) rfl
  have hn0 : H0.next = H.next := hs.1
  have hg0 := hg.of (H' := H0) hs.2
  have hx0 := (hx.same hs).up (q := fun b => b < H0.next) (fun b hb => by omega) .refl
  have hK0 := (hK.same hs).mono (q := fun b => b < H0.next) (fun b hb => by omega)
  clear hx hK hg
  obtain ⟨iv, cv, sv, rfl, i1, i2, i3, h1, h2, h3⟩ := id hx0
  refine AFn.enter mixed ir_law14_StateAnswers_eq (by simp [ir_law14_StateAnswers]) fun hw => ?_
  simp (disch := omega) [-getElem?_pos, if_pos, if_neg, decide_eq_true, decide_eq_false, ir_law14_StateAnswers, cut6']
  generalize hH1 : AH.alloc H0 _ = H1
  have k1 : Keep [] H0 H1 := by rw [← hH1]; exact .alloc
  have w1 : WF H1 := by rw [← hH1]; exact hw.alloc
  have n1 : H1.next = H0.next + 1 := by rw [← hH1]; simp
  clear hH1
  have hx1 := (hx0.kept hw k1).up (q := fun b => b < H1.next) (fun b hb => by omega) .refl
  refine (show AFn _ _ [_, .int .i64 ((8 : Nat) : Int)] _ _ from (tame_spec (m := 8) (by omega) (by omega) hx1)).mono' fun u H7 w7 ⟨y, hy, ht, k7⟩ => ?_
  have n7 := k7.next
  have hy7 : InstV (fun b => b < H7.next) H7 u y := hy.up (fun b hb => hb.2) .refl
  simp (disch := omega) [-getElem?_pos, if_pos, if_neg, decide_eq_true, decide_eq_false, ]
  refine (insts_spec hy7).mono' fun u3 H8 w8 ⟨a, b, hu, ha', hb', k8⟩ => ?_
  rw [clip_tame (by omega) ht] at ha' hb'
  subst hu
  have n8 := k8.next
  obtain ⟨ia', ca', sa', rfl, _⟩ := id ha'
  obtain ⟨ib', cb', sb', rfl, _⟩ := id hb'
  have hc0 := InstD.check_ok.2 ht.ok
  simp (disch := omega) [-getElem?_pos, if_pos, if_neg, decide_eq_true, decide_eq_false, writeA, over, cut6']
  generalize hH9 : AH.set (AH.set _ _ _) _ _ = H9
  have k9 : Keep [] H8 H9 := by rw [← hH9]; exact .new_set (by omega) (.new_set (by omega) (.new_alloc .alloc))
  have w9 : WF H9 := by rw [← hH9]; refine WF.set (WF.set (WF.alloc (WF.alloc w8)) ?_) ?_ <;> simp <;> omega
  have e7 : H9.cells H8.next = some [.int .i64 y.kind, .int .i64 y.cap, ia', ca', .int .i64 y.size, sa'] := by rw [← hH9]; simp
  have n9 : H9.next = H8.next + 2 := by rw [← hH9]; simp
  clear hH9
  have k09 := k1.trans' (k7.trans' (k8.trans' k9))
  have ha9 := ha'.up (q := fun b => b < H9.next) (fun b hb => by have := hb.2; omega) (.kept w8 k9)
  refine (Start_spec ha9).mono' fun u H10 w10 ⟨tv, hu, ht10, k10⟩ => ?_
  subst hu
  rw [if_pos hc0] at ht10
  rw [hc0]
  obtain ⟨pw, uw, rfl, s1, s2⟩ := id ht10
  have hsc := s1.cell
  have huc := SetB_cell s2
  have k010 := k09.trans' k10
  have n10 := k10.next
  have hK10 := (hK0.kept hw k010)
  obtain ⟨ka, kc, rfl⟩ := hK0.slice
  simp (disch := omega) [-getElem?_pos, if_pos, if_neg, decide_eq_true, decide_eq_false, hsc.1, hsc.2, huc.1, huc.2, writeA, over, cut6']
  have hb11 : (H10.alloc (.row [pw, .int .i64 y.start.cost, .int .i64 y.start.left, .int .i64 y.start.pos, .int .i64 y.start.used.length, uw] T_state_State true)).blk H10.next = some (.row [pw, .int .i64 y.start.cost, .int .i64 y.start.left, .int .i64 y.start.pos, .int .i64 y.start.used.length, uw] T_state_State true) := by simp
  have k11 : Keep [] H10 (H10.alloc (.row [pw, .int .i64 y.start.cost, .int .i64 y.start.left, .int .i64 y.start.pos, .int .i64 y.start.used.length, uw] T_state_State true)) := .alloc
  have w11 : WF (H10.alloc (.row [pw, .int .i64 y.start.cost, .int .i64 y.start.left, .int .i64 y.start.pos, .int .i64 y.start.used.length, uw] T_state_State true)) := w10.alloc
  have n11 : (H10.alloc (.row [pw, .int .i64 y.start.cost, .int .i64 y.start.left, .int .i64 y.start.pos, .int .i64 y.start.used.length, uw] T_state_State true)).next = H10.next + 1 := by simp
  generalize AH.alloc H10 _ = H11 at *
  refine AFn.pure (wakes14_spec (hg0.kept hw (k010.trans' k11))) ?_
  simp (disch := omega) [-getElem?_pos, if_pos, if_neg, decide_eq_true, decide_eq_false, ]
  refine wpC_use (answers_l0 (H0 := H10) (q5 := H8.next) (hg0.kept hw k010) w10 (cells_kept w9 k10 e7) (ha9.up (fun b hb => by omega) (.kept w9 k10)) ht (hK10.mono (fun b hb => by have := k010.next; omega)) ⟨by simp, by simp, by simp, by simp, w11, k11, y.start, pw, uw, start_ok ht.ok, ans_start ht.ok, rfl, hb11, ?_⟩) ?_
  · exact ht10.up (fun b hb => ⟨by omega, by have := hb.2; omega⟩) (.kept w10 k11)
  rintro e env2 H12 ⟨rfl, e4⟩ hu
  simp (disch := omega) [-getElem?_pos, if_pos, if_neg, decide_eq_true, decide_eq_false, e4]
end Go.Proofs.YtlcddhgfkkjhkaaDoor
