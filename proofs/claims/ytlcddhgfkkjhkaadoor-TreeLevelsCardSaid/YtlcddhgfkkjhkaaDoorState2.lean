/-
  package state (2): Done, free, Moves.
-/
import Derived.Test.YtlcddhgfkkjhkaaDoorState1
set_option maxRecDepth 100000
set_option linter.unusedSimpArgs false
set_option linter.unusedVariables false
namespace Go.Proofs.YtlcddhgfkkjhkaaDoor
open Go Go.Abs
theorem st_get (s : StD) (pv uv : Value) : (stC s pv uv)[0]? = some pv ∧ (stC s pv uv)[1]? = some (.int .i64 s.cost) ∧ (stC s pv uv)[2]? = some (.int .i64 s.left) ∧ (stC s pv uv)[3]? = some (.int .i64 s.pos) := ⟨rfl, rfl, rfl, rfl⟩
theorem inst_get (x : InstD) (iv cv sv : Value) : (instC x iv cv sv)[0]? = some (.int .i64 x.kind) ∧ (instC x iv cv sv)[1]? = some (.int .i64 x.cap) ∧ (instC x iv cv sv)[2]? = some iv ∧ (instC x iv cv sv)[3]? = some cv ∧ (instC x iv cv sv)[4]? = some (.int .i64 x.size) ∧ (instC x iv cv sv)[5]? = some sv := ⟨rfl, rfl, rfl, rfl, rfl, rfl⟩
theorem Done_spec {H : AH} {v w : Value} {s : StD} {x : InstD} (hs : StV (fun _ => True) H v s) (hx : InstV (fun _ => True) H w x) : AFn Tryd.prog F_state_State_Done [v, w] H fun u H' => u = .bool (x.done s) ∧ H' = H := by
  refine AFn.calm (fun H0 hsm => ?_) rfl
  have hs0 := hs.same hsm
  have hx0 := hx.same hsm
  obtain ⟨pv, uv, rfl, s1, s2⟩ := id hs0
  obtain ⟨iv, cv, sv, rfl, i1, i2, i3, h1, h2, h3⟩ := id hx0
  obtain ⟨pa, pc, rfl⟩ := s1.slice
  obtain ⟨ia, ic, rfl⟩ := h1.slice
  obtain ⟨ca, cc, rfl⟩ := h2.slice
  have hc := SetB_cell s2
  refine AFn.enter mixed ir_state_State_Done_eq (by simp [ir_state_State_Done]) fun hw => ?_
  simp (disch := omega) [-getElem?_pos, if_pos, if_neg, decide_eq_true, decide_eq_false, ir_state_State_Done, hc.1, hc.2]
  generalize hH1 : AH.alloc (AH.alloc H0 _) _ = H1
  have k1 : Keep [] H0 H1 := by rw [← hH1]; exact .new_alloc .alloc
  have w1 : WF H1 := by rw [← hH1]; exact hw.alloc.alloc
  have c1 : H1.cells H0.next = some (stC s (.slice pa s.path.length pc) uv) := by rw [← hH1]; simp [stC]
  have c2 : H1.cells (H0.next + 1) = some (instC x (.slice ia x.items.length ic) (.slice ca x.cost.length cc) sv) := by rw [← hH1]; simp [instC]
  clear hH1
  have t0 := (st_get s (.slice pa s.path.length pc) uv).1
  obtain ⟨_, _, g2, g3, _, _⟩ := inst_get x (.slice ia x.items.length ic) (.slice ca x.cost.length cc) sv
  have s21 := SetB_sub s2 (q := fun _ => True) (fun _ _ => trivial) (.kept hw k1)
  unfold InstD.done
  by_cases k0 : x.kind = 0
  · have k0T := eq_true k0
    simp (disch := omega) [-getElem?_pos, if_pos, if_neg, decide_eq_true, decide_eq_false, k0T, c1, c2, t0, g2]
    omega
  · have k0F := eq_false k0
    by_cases k1 : x.kind = 1
    · have k1T := eq_true k1
      simp (disch := omega) [-getElem?_pos, if_pos, if_neg, decide_eq_true, decide_eq_false, k0F, k1T, c1, c2, t0, g3]
      omega
    · have k1F := eq_false k1
      have hCnt := Bs.Count_spec s21
      have hSz := Bs.Size_spec s21
      generalize s.used.count true = c at *
      simp (disch := omega) [-getElem?_pos, if_pos, if_neg, decide_eq_true, decide_eq_false, k0F, k1F, c1, st_cut4]
      refine AFnD.of hCnt ?_
      simp (disch := omega) [-getElem?_pos, if_pos, if_neg, decide_eq_true, decide_eq_false, ]
      refine AFnD.of hSz ?_
      simp (disch := omega) [-getElem?_pos, if_pos, if_neg, decide_eq_true, decide_eq_false, ]
      omega
theorem freeL_idxs (B : List Bool) : (Bs.idxs (Bs.eachB (fun a b => a && !b) (List.replicate B.length true) B)).map (fun k => ((k : Nat) : Int)) = freeL B := by
  unfold Bs.idxs Bs.idxTo freeL
  rw [Bs.eachB_length, List.length_replicate]
  congr 1
  apply List.filter_congr
  intro k hk
  have hkl := List.mem_range.1 hk
  rw [Bs.eachB_get, List.length_replicate, if_pos hkl]
  have : (List.replicate B.length true).getD k false = true := by rw [List.getD_eq_getElem?_getD, List.getElem?_replicate, if_pos hkl]; rfl
  rw [this]; rfl
def iL (L : List Int) : List Value := L.map (.int .i64)
theorem own_ints {H : AH} {u : Value} {L : List Int} {n : Nat} {S : List Nat} (h : Own H T_int 1 u n (L.map (.int .i64)) S) (hn : n = L.length) (hI : ∀ y ∈ L, I64 y) : OwnL (fun _ => False) H T_int u L S := by
  subst hn
  refine ⟨L.map (.int .i64), h, fun i hi => ⟨?_, hI _ (List.getElem_mem _)⟩, by simp⟩
  apply List.ext_getElem?
  intro j
  simp only [sz_int, chunk, Nat.mul_one]
  by_cases hj : j = 0
  · subst hj
    rw [List.getElem?_take_of_lt (by omega), List.getElem?_drop, Nat.add_zero, List.getElem?_map, List.getElem?_eq_getElem hi]; rfl
  · rw [List.getElem?_eq_none (by simp; omega), List.getElem?_eq_none (by simp; omega)]
theorem free_spec {H : AH} {v : Value} {s : StD} (hg : GroundA G H) (hs : StV (fun _ => True) H v s) : AFn Tryd.prog F_state_State_free [v] H fun u H' => NewL H u (freeL s.used) H' := by
  obtain ⟨pv, uv, rfl, s1, s2⟩ := id hs
  obtain ⟨pa, pc, rfl⟩ := s1.slice
  have hc := SetB_cell s2
  obtain ⟨_, _, _, hl4⟩ := id s2
  refine AFn.enter mixed ir_state_State_free_eq (by simp [ir_state_State_free]) fun hw => ?_
  have k1 : Keep [] H (H.alloc (.row (stC s (.slice pa s.path.length pc) uv) T_state_State true)) := .alloc
  have w1 := WF.alloc hw (B := .row (stC s (.slice pa s.path.length pc) uv) T_state_State true)
  have n1 : (H.alloc (.row (stC s (.slice pa s.path.length pc) uv) T_state_State true)).next = H.next + 1 := by simp
  have c1 : (H.alloc (.row (stC s (.slice pa s.path.length pc) uv) T_state_State true)).cells H.next = some (stC s (.slice pa s.path.length pc) uv) := AH.cells_alloc_new
  have s21 := SetB_sub s2 (q := fun _ => True) (fun _ _ => trivial) (.kept hw k1)
  have hcs : cellsOf (Value.agg #[.slice pa s.path.length pc, .int .i64 s.cost, .int .i64 s.left, .int .i64 s.pos, .int .i64 s.used.length, uv]) = some (stC s (.slice pa s.path.length pc) uv) := by simp [hc.1, stC]
  simp (disch := omega) [-getElem?_pos, if_pos, if_neg, decide_eq_true, decide_eq_false, ir_state_State_free, hcs, st_cut4]
  generalize H.alloc (.row (stC s (.slice pa s.path.length pc) uv) T_state_State true) = H1 at *
  refine AFn.pure (Bs.Size_spec s21) ?_
  simp (disch := omega) [-getElem?_pos, if_pos, if_neg, decide_eq_true, decide_eq_false, ]
  refine (Bs.Full_spec (s.used.length : Int) ⟨by omega, by omega⟩).mono' fun u H2 w2 ⟨fv, hu, hF, k2⟩ => ?_
  subst hu
  have hso : Bs.sizeOk s.used.length = true := by unfold Bs.sizeOk; simp; omega
  have hno : Bs.nOk s.used.length = s.used.length := by unfold Bs.nOk; rw [hso]; simp
  rw [hno] at hF
  obtain ⟨fl, rfl, _, _⟩ := id hF
  have hlr : (List.replicate s.used.length true).length = s.used.length := by simp
  rw [hlr] at hF ⊢
  have hfc := SetB_cell hF
  have n2 := k2.next
  have c2 := cells_kept w1 k2 c1
  have cut2 : cut [Value.int .i64 s.used.length, fl] 0 2 = some [.int .i64 s.used.length, fl] := by simp [cut]
  simp (disch := omega) [-getElem?_pos, if_pos, if_neg, decide_eq_true, decide_eq_false, hfc.1, hfc.2, writeA, over, c2, st_cut4, cut2]
  generalize hH3 : AH.alloc H2 _ = H3
  have k3 : Keep [] H2 H3 := by rw [← hH3]; exact .alloc
  have w3 : WF H3 := by rw [← hH3]; exact w2.alloc
  clear hH3
  have hF3 := SetB_sub hF (q := fun _ => True) (fun _ _ => trivial) (.kept w2 k3)
  have s23 := SetB_sub s21 (q := fun _ => True) (fun _ _ => trivial) (.kept w1 (k2.trans' k3))
  refine (Bs.Less_spec hF3 s23).mono' fun u H4 w4 ⟨hL, k4⟩ => ?_
  obtain ⟨ll, rfl, _, _⟩ := id hL
  have k14 := ((k1.trans' k2).trans' k3).trans' k4
  simp (disch := omega) [-getElem?_pos, if_pos, if_neg, decide_eq_true, decide_eq_false, ]
  refine (Bs.List_spec (hg.kept hw k14) hL).mono' fun u H5 w5 ⟨S, ho, k5, hS⟩ => ?_
  have n14 := k14.next
  obtain ⟨ua, uc, rfl⟩ := ho.slice
  simp (disch := omega) [-getElem?_pos, if_pos, if_neg, decide_eq_true, decide_eq_false, ]
  have hfl := freeL_idxs s.used
  have hmp : (freeL s.used).map (Value.int .i64) = (Bs.idxs (Bs.eachB (fun a b => a && !b) (List.replicate s.used.length true) s.used)).map fun k => Value.int .i64 ((k : Nat) : Int) := by
    rw [← hfl, List.map_map]; rfl
  rw [← hmp] at ho
  refine ⟨S, own_ints ho (by rw [← hfl]; simp) fun y hy => ?_, k14.trans' k5, fun b hb => by have := hS b hb; omega⟩
  have := freeL_mem.1 hy
  unfold I64; omega
theorem new_ints {H : AH} {cs : List Value} {L : List Int} (hcs : cs = iL L) (hw : WF H) (hI : ∀ y ∈ L, I64 y) {H1 : AH} (hk : Keep [] H1 H) : NewL H1 (.slice (some ⟨H.next, 0, none⟩) L.length L.length) L (H.alloc (.row cs T_int true)) := by
  have hn := hk.next
  refine ⟨[H.next], own_ints ?_ rfl hI, .new_alloc hk, fun b hb => by simp at hb; omega⟩
  refine .inr ⟨H.next, 0, none, L.length, cs, rfl, rfl, AH.alloc_blk_new, ?_, Nat.le_refl _, ?_, .inl rfl⟩
  · rw [hcs]; simp [iL]
  · rw [hcs, List.drop_zero, Nat.mul_one, List.take_of_length_le (by simp [iL])]; rfl
theorem Moves_spec {H : AH} {v w : Value} {s : StD} {x : InstD} (hg : GroundA G H) (hs : StV (fun _ => True) H v s) (hx : InstV (fun _ => True) H w x) (hok : x.Ok) (hso : StOk x s) : AFn Tryd.prog F_state_State_Moves [v, w] H fun u H' => NewL H u (x.moves s) H' := by
  obtain ⟨pv, uv, rfl, s1, s2⟩ := id hs
  obtain ⟨iv, cv, sv, rfl, i1, i2, i3, h1, h2, h3⟩ := id hx
  obtain ⟨pa, pc, rfl⟩ := s1.slice
  obtain ⟨ia, ic, rfl⟩ := h1.slice
  obtain ⟨sa, sc, rfl⟩ := h3.slice
  have hpm := s1.max
  have him := h1.max
  have hsm := h3.max
  have hc := SetB_cell s2
  have hk0 := hok.kind0
  have hk4 := hok.kind4
  refine AFn.enter mixed ir_state_State_Moves_eq (by simp [ir_state_State_Moves]) fun hw => ?_
  have hcs : cellsOf (Value.agg #[.slice pa s.path.length pc, .int .i64 s.cost, .int .i64 s.left, .int .i64 s.pos, .int .i64 s.used.length, uv]) = some (stC s (.slice pa s.path.length pc) uv) := by simp [hc.1, stC]
  have t0 := (st_get s (.slice pa s.path.length pc) uv).1
  have t2 := (st_get s (.slice pa s.path.length pc) uv).2.2.1
  obtain ⟨g0, _, g2, _, _, g5⟩ := inst_get x (.slice ia x.items.length ic) cv (.slice sa x.sets.length sc)
  have hci : cellsOf (Value.agg #[.int .i64 x.kind, .int .i64 x.cap, .slice ia x.items.length ic, cv, .int .i64 x.size, .slice sa x.sets.length sc]) = some (instC x (.slice ia x.items.length ic) cv (.slice sa x.sets.length sc)) := by
    have hcv : one cv = true := (h2.cell).1
    simp [hcv, instC]
  have hSa : Value.agg (stC s (.slice pa s.path.length pc) uv).toArray = .agg #[.slice pa s.path.length pc, .int .i64 s.cost, .int .i64 s.left, .int .i64 s.pos, .int .i64 s.used.length, uv] := rfl
  have hIa : Value.agg (instC x (.slice ia x.items.length ic) cv (.slice sa x.sets.length sc)).toArray = .agg #[.int .i64 x.kind, .int .i64 x.cap, .slice ia x.items.length ic, cv, .int .i64 x.size, .slice sa x.sets.length sc] := rfl
  have hI6 := inst_cut x (.slice ia x.items.length ic) cv (.slice sa x.sets.length sc)
  have hS6 := st_cut s (.slice pa s.path.length pc) uv
  have hdone := fun (H1 : AH) (k1 : Keep [] H H1) => Done_spec (hs.kept hw k1) (hx.kept hw k1)
  have hfree := fun (H1 : AH) (k1 : Keep [] H H1) => free_spec (hg.kept hw k1) (hs.kept hw k1)
  have hitem : x.kind = 0 → s.path.length < x.items.length → ∃ b off sp cap cs, Value.slice ia x.items.length ic = .slice (some ⟨b, off, sp⟩) x.items.length cap ∧ H.cells b = some cs ∧ cs[off + s.path.length * 2 + 1]? = some (.int .i64 (x.wtN s.path.length)) := fun k0 hlt => by
    obtain ⟨b1, off1, sp1, cap1, cs1, hcv1, r1, r2⟩ := pairs_rd h1 (by omega)
    obtain ⟨r3, r4, r5, r6, r7⟩ := r2 s.path.length hlt
    refine ⟨b1, off1, sp1, cap1, cs1, hcv1, r1, ?_⟩
    rw [r5]; unfold InstD.wtN; rw [List.getD_eq_getElem?_getD, List.getElem?_eq_getElem hlt]; rfl
  generalize hSC : stC s (.slice pa s.path.length pc) uv = SC at *
  generalize hIC : instC x (.slice ia x.items.length ic) cv (.slice sa x.sets.length sc) = IC at *
  simp (disch := omega) [-getElem?_pos, if_pos, if_neg, decide_eq_true, decide_eq_false, ir_state_State_Moves, hcs, hci]
  generalize hH1 : AH.alloc (AH.alloc H _) _ = H1
  have k1 : Keep [] H H1 := by rw [← hH1]; exact .new_alloc .alloc
  have w1 : WF H1 := by rw [← hH1]; exact hw.alloc.alloc
  have c1 : H1.cells H.next = some SC := by rw [← hH1]; simp
  have c2 : H1.cells (H.next + 1) = some IC := by rw [← hH1]; simp
  clear hH1
  simp (disch := omega) [-getElem?_pos, if_pos, if_neg, decide_eq_true, decide_eq_false, c1, c2, t0, hI6, hS6, hSa, hIa]
  have hd := hdone H1 k1
  have n1 := k1.next
  have nil' : ∀ H', H' = H1 → NewL H (.slice none 0 0) [] H' := fun H' h => by subst h; exact ⟨[], .nil, k1, by simp⟩
  have i01 : ∀ y ∈ [(1 : Int), 0], I64 y := by intro y hy; simp at hy; unfold I64; omega
  have i0 : ∀ y ∈ [(0 : Int)], I64 y := by intro y hy; simp at hy; unfold I64; omega
  have two : NewL H (.slice (some ⟨H1.next, 0, none⟩) 2 2) [1, 0] (H1.alloc (.row [.int .i64 1, .int .i64 0] T_int true)) := new_ints rfl w1 i01 k1
  have one' : NewL H (.slice (some ⟨H1.next, 0, none⟩) 1 1) [0] (H1.alloc (.row [.int .i64 0] T_int true)) := new_ints rfl w1 i0 k1
  unfold InstD.moves
  refine AFn.pure hd ?_
  cases hdn : x.done s with
  | true =>
    simp (disch := omega) [-getElem?_pos, if_pos, if_neg, decide_eq_true, decide_eq_false, ]
    exact nil' _ rfl
  | false =>
    by_cases k0 : x.kind = 0
    · have hlt : s.path.length < x.items.length := by
        have := (hso.items k0).1
        unfold InstD.done at hdn
        rw [if_pos k0] at hdn
        have : ¬ s.path.length = x.items.length := by simpa using hdn
        omega
      obtain ⟨b1, off1, sp1, cap1, cs1, hcv1, r1, r5⟩ := hitem k0 hlt
      cases hcv1
      have r1' := cells_kept hw k1 r1
      have k0T := eq_true k0
      generalize x.wtN s.path.length = wt at *
      by_cases hgt : s.left < wt
      · simp (disch := omega) [-getElem?_pos, if_pos, if_neg, decide_eq_true, decide_eq_false, c1, c2, g0, g2, t2, k0T, r1', r5, hlt, hgt]
        exact one'
      · simp (disch := omega) [-getElem?_pos, if_pos, if_neg, decide_eq_true, decide_eq_false, c1, c2, g0, g2, t2, k0T, r1', r5, hlt, hgt]
        exact two
    · have k0F := eq_false k0
      by_cases k3 : x.kind = 3
      · have k3T := eq_true k3
        by_cases hge : x.sets.length ≤ s.path.length
        · simp (disch := omega) [-getElem?_pos, if_pos, if_neg, decide_eq_true, decide_eq_false, c1, c2, g0, g5, k0F, k3T, hge]
          exact nil' _ rfl
        · simp (disch := omega) [-getElem?_pos, if_pos, if_neg, decide_eq_true, decide_eq_false, c1, c2, g0, g5, k0F, k3T, hge]
          exact two
      · have k3F := eq_false k3
        simp (disch := omega) [-getElem?_pos, if_pos, if_neg, decide_eq_true, decide_eq_false, c1, c2, g0, g5, k0F, k3F, hS6, hSa]
        refine (hfree H1 k1).mono' fun u H2 w2 ⟨S, hA, k2, hS⟩ => ?_
        have hcA := hA.cell
        simp (disch := omega) [-getElem?_pos, if_pos, if_neg, decide_eq_true, decide_eq_false, hcA]
        exact ⟨S, hA, k1.trans' k2, fun b hb => by have := hS b hb; omega⟩
end Go.Proofs.YtlcddhgfkkjhkaaDoor
