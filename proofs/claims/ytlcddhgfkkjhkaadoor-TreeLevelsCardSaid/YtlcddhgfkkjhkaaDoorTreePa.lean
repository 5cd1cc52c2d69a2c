/-
  Layer 15: the document's paths.
-/
import Derived.Test.YtlcddhgfkkjhkaaDoorTreeP
import Derived.Test.YtlcddhgfkkjhkaaDoorRef14c
import Derived.Test.YtlcddhgfkkjhkaaDoorRepF
import Derived.Test.YtlcddhgfkkjhkaaDoorIr15
set_option maxRecDepth 100000
set_option linter.unusedSimpArgs false
set_option linter.unusedVariables false
namespace Go.Proofs.YtlcddhgfkkjhkaaDoor
open Go Go.Abs
def pathsL (L : List StD) : List (List Int) := L.map fun s => s.path
theorem pathsL_append (A B : List StD) : pathsL (A ++ B) = pathsL A ++ pathsL B := by simp [pathsL]
theorem pathsL_len (A : List StD) : (pathsL A).length = A.length := by simp [pathsL]
def belowN (x : InstD) (s : StD) (k : Nat) : List StD := s :: ((kids x s).take k).flatMap (treeOf x)
theorem belowN_succ {x : InstD} {s : StD} {k : Nat} (h : k < (kids x s).length) : belowN x s (k + 1) = belowN x s k ++ treeOf x (kids x s)[k] := by
  unfold belowN
  rw [List.take_succ_eq_append_getElem h, List.flatMap_append]
  simp
theorem belowN_all {x : InstD} {s : StD} (hok : x.Ok) (hs : StOk x s) : belowN x s (kids x s).length = treeOf x s := by
  unfold belowN
  rw [List.take_length, treeOf_eq hok hs]
theorem belowN_le {x : InstD} {s : StD} (hok : x.Ok) (hs : StOk x s) (k : Nat) : (belowN x s k).length ≤ (treeOf x s).length := by
  rw [treeOf_eq hok hs]
  unfold belowN
  conv => rhs; rw [← List.take_append_drop k (kids x s)]
  rw [List.flatMap_append]
  simp
def PathP (D0 : Nat → Prop) (H : AH) (M : List (List Int)) (u : Value) (H' : AH) : Prop :=
  ∃ S, OwnL (fun b => (D0 b ∨ H.next ≤ b) ∧ b < H'.next ∧ b ∉ S) H' T_Lint u M S ∧ Keep [] H H' ∧ ∀ b ∈ S, H.next ≤ b
def PthI (D0 : Nat → Prop) (H0 H4 : AH) (x : InstD) (s : StD) (pv mv : Value) (k : Nat) (env : Env) (H' : AH) : Prop :=
  env 1 = some pv ∧ env 2 = some (.int .i64 5000) ∧ env 3 = some (.pointer (some ⟨H0.next, 0, none⟩)) ∧ env 11 = some mv ∧ env 12 = some (.int .i64 k) ∧ WF H' ∧ Keep [H0.next + 1] H4 H' ∧
  ∃ ov S, env 7 = some ov ∧ OwnL (fun b => (D0 b ∨ H0.next ≤ b) ∧ b < H'.next ∧ b ∉ S) H' T_Lint ov (pathsL (belowN x s k)) S ∧ Keep [] H0 H' ∧ ∀ b ∈ S, b = H0.next + 1 ∨ H4.next ≤ b
theorem paths_step {x : InstD} (hok : x.Ok) (hdec : x.decs ≤ 100) {H : AH} {v pv : Value} {P : List Int} {s : StD} {D0 : Nat → Prop} (hx : InstV (fun b => b < H.next) H v x) (hP : SlV D0 H pv P) (hD0 : ∀ b, D0 b → b < H.next) (hr : x.replay P = (s, 0, true)) (hT : (treeOf x s).length ≤ 5000)
    (IH : ∀ m ∈ x.moves s, ∀ {H : AH} {v pv : Value} {D0 : Nat → Prop}, InstV (fun b => b < H.next) H v x → SlV D0 H pv (P ++ [m]) → (∀ b, D0 b → b < H.next) → AFn Tryd.prog F_ref15_Paths [v, pv, .int .i64 5000] H (PathP D0 H (pathsL (treeOf x (x.applyS s m))))) :
    AFn Tryd.prog F_ref15_Paths [v, pv, .int .i64 5000] H (PathP D0 H (pathsL (treeOf x s))) := by
  obtain ⟨iv, cv, sv, rfl, i1, i2, i3, h1, h2, h3⟩ := id hx
  obtain ⟨hso, hpath⟩ := replayF_ok hok (start_ok hok) (show x.replayF x.start 0 P = (s, 0, true) from hr)
  have hpath' : s.path = P := by rw [hpath]; rfl
  have hpd := path_decs hok hso
  have hPl : P.length ≤ 100 := by rw [← hpath']; omega
  have hpc := hP.cell
  refine AFn.enter mixed ir_ref15_Paths_eq (by simp [ir_ref15_Paths]) fun hw => ?_
  simp (disch := omega) [-getElem?_pos, if_pos, if_neg, decide_eq_true, decide_eq_false, ir_ref15_Paths, inst_cut, hpc.1, hpc.2]
  generalize hH1 : AH.alloc (AH.alloc H _) _ = H1
  have k1 : Keep [] H H1 := by rw [← hH1]; exact .new_alloc .alloc
  have w1 : WF H1 := by rw [← hH1]; exact hw.alloc.alloc
  have n1 : H1.next = H.next + 2 := by rw [← hH1]; simp
  have c3 : H1.cells H.next = some (instC x iv cv sv) := by rw [← hH1]; exact cells_kept hw.alloc .alloc AH.cells_alloc_new
  have b7 : H1.blk (H.next + 1) = some (.row [pv] T_Lint true) := by rw [← hH1]; exact AH.alloc_blk_new
  clear hH1
  have hx1 := (hx.kept hw k1).up (q := fun b => b < H1.next) (fun b hb => by omega) .refl
  have hP1 := hP.kept hw k1
  have hrp := RReplay_spec hx1 hok (hP1.mono fun b hb => by have := hD0 b hb; omega) (by omega)
  rw [hr] at hrp
  refine hrp.mono' fun u H2 w2 ⟨sv2, hu, hs2, k2⟩ => ?_
  subst hu
  dsimp only at hs2
  have n2 := k2.next
  obtain ⟨pw, bw, rfl, p2, u2⟩ := id hs2
  have o1 := p2.cell
  have o2 := u2.cell
  have c32 := cells_kept w1 k2 c3
  have hne : ¬ H.next = H2.next := by omega
  simp (disch := omega) [-getElem?_pos, if_pos, if_neg, decide_eq_true, decide_eq_false, o1.1, o1.2, o2.1, o2.2, c32, hne, inst_cut, cut5', writeA, over]
  generalize hH3 : AH.alloc H2 _ = H3
  have k3 : Keep [] H2 H3 := by rw [← hH3]; exact .alloc
  have w3 : WF H3 := by rw [← hH3]; exact w2.alloc
  have n3 : H3.next = H2.next + 1 := by rw [← hH3]; simp
  clear hH3
  have k13 := k2.trans' k3
  have hx3 := hx1.kept w1 k13
  have hmv := RMoves_spec (hs2.kept w2 k3).any hx3.any hok hso
  refine hmv.mono' fun u H4 w4 ⟨SM, hM, k4, hSM⟩ => ?_
  have n4 := k4.next
  have k14 := k13.trans' k4
  have k04 := k1.trans' k14
  have hMl := moves_max hok hso
  have hMv : SlV (fun b => H3.next ≤ b) H4 u (x.moves s) := hM.slv (fun _ h => h.elim) (fun b hb => hSM b hb) (by omega)
  obtain ⟨ma, mc, rfl⟩ := hM.slice
  have b74 : H4.blk (H.next + 1) = some (.row [pv] T_Lint true) := (k14.blk _ (by omega) (by simp)).trans b7
  have hO : OwnL (fun b => (D0 b ∨ H.next ≤ b) ∧ b < H4.next ∧ b ∉ [H.next + 1]) H4 T_Lint (.slice (some ⟨H.next + 1, 0, none⟩) 1 1) (pathsL (belowN x s 0)) [H.next + 1] := by
    have h0 : pathsL (belowN x s 0) = [P] := by unfold belowN pathsL; simp [hpath']
    rw [h0]
    exact ⟨[pv], .inr ⟨H.next + 1, 0, none, 1, [pv], rfl, rfl, b74, by simp, Nat.le_refl _, by simp, .inl rfl⟩, fun i hi => by
      obtain rfl : i = 0 := by simpa using hi
      exact ⟨pv, rfl, (hP1.kept w1 k14).mono fun b hb => ⟨.inl hb, by have := hD0 b hb; omega, by have := hD0 b hb; simp; omega⟩⟩, fun z hz h => h.2.2 hz⟩
  simp (disch := omega) [-getElem?_pos, if_pos, if_neg, decide_eq_true, decide_eq_false, ]
  have hkl : (kids x s).length = (x.moves s).length := by simp [kids]
  have c34 := cells_kept w1 k14 c3
  refine wpC_use (loop_upto (x.moves s).length (PthI D0 H H4 x s pv (.slice ma (x.moves s).length mc)) (Q := fun e env H' => e = .exit 0 ∧ ∃ ov, env 7 = some ov ∧ PathP D0 H (pathsL (treeOf x s)) ov H') ⟨by simp, by simp, by simp, by simp, by simp, w4, .refl, _, [H.next + 1], by simp, hO, k04, by simp⟩ ?_) ?_
  · rintro k env H' hk ⟨e1, e2, e3, e11, e12, w', kk, ov, S, e7, hOv, k', hS⟩
    have n' := k'.next
    have nk := kk.next
    by_cases hkn : k < (x.moves s).length
    · obtain ⟨b1, off1, sp1, cap1, cs1, hcv1, r1, r2⟩ := ints_rd (hMv.sub (.keep w4 kk (fun b hb h => by simp at hb; omega))) (by omega)
      obtain ⟨r3, r4⟩ := r2 k hkn
      cases hcv1
      have hmm : (x.moves s)[k] ∈ x.moves s := List.getElem_mem _
      have hkid : (kids x s)[k]'(by omega) = x.applyS s (x.moves s)[k] := by simp [kids]
      have hsucc := belowN_succ (x := x) (s := s) (k := k) (by omega)
      rw [hkid] at hsucc
      have hbl := belowN_le hok hso k
      have hbl1 := belowN_le hok hso (k + 1)
      generalize (x.moves s)[k] = m at *
      -- the path of the next one
      have hPk : SlV D0 H' pv P := hP.kept hw k'
      obtain ⟨cells, va, vc, Ha, Sa, pE, pA, hA, ka, wa, iSa⟩ := (OwnL.nil (p := fun _ => False) (H := H') (ty := T_int) (α := Int)).pushAll (q := fun b => b < H'.next) w' (hPk.mono fun b hb => by have := hD0 b hb; omega) 8 (fun _ h => h.elim) (fun _ h => h) (by simp) (by simp; omega) (by simp; omega)
      have hA2 := ownI hA
      have na := ka.next
      have iSa' : ∀ b ∈ Sa, H'.next ≤ b := fun b hb => by
        rcases iSa b hb with h | h
        · simp at h
        · exact h
      simp only [List.length_nil, Nat.zero_add, List.nil_append, sz_int] at pE pA hA2
      obtain ⟨va2, vc2, Hb, Sb, p1, hB, kb, wb, iSb⟩ := hA2.push (q := fun _ => False) wa (cs := [.int .i64 m]) (a := m) ⟨rfl, r4⟩ T_int 8 (fun _ h => h) (fun _ h => h.elim) (by simp) (by omega) (by omega)
      have nb := kb.next
      have iSb' : ∀ b ∈ Sb, H'.next ≤ b := fun b hb => by
        rcases iSb b hb with h | h
        · exact iSa' b h
        · omega
      simp only [sz_int] at p1
      have kHb : Keep [] H' Hb := ka.trans kb fun b hb hlt => by have := iSa' b hb; omega
      have r1a := cells_kept w' ka r1
      have pE2 : elemsA (Ha.alloc (.row [.int .i64 m] T_int true)) 1 (.slice (some ⟨Ha.next, 0, none⟩) 1 1) = some [.int .i64 m] := elems_one rfl
      have hBl := hB.lt wb
      have hNx : SlV (fun b => b ∈ Sb) Hb (.slice va2 (P.length + 1) vc2) (P ++ [m]) := hB.slv (fun _ h => h.elim) (fun b hb => hb) (by simp; omega)
      have hxb : InstV (fun b => b < Hb.next) Hb (.agg #[.int .i64 x.kind, .int .i64 x.cap, iv, cv, .int .i64 x.size, sv]) x := (hx.kept hw (k'.trans' kHb)).up (fun b hb => by omega) .refl
      have c3b := cells_kept w' kHb (cells_keep w4 kk (by simp) c34)
      have hrec := IH m hmm hxb hNx (fun b hb => hBl b hb)
      obtain ⟨oa, oc, rfl⟩ := hOv.slice
      have hol : (pathsL (belowN x s k)).length ≤ 5000 := by rw [pathsL_len]; omega
      have hol' : ((pathsL (belowN x s k)).length : Int) ≤ 5000 := by omega
      have hpc' := hP.cell
      obtain ⟨pa, pc, rfl⟩ := hP.slice
      simp (disch := omega) [-getElem?_pos, if_pos, if_neg, decide_eq_true, decide_eq_false, ir_ref15_Paths_l0, e1, e2, e3, e7, e11, e12, hkn, r1a, r3, pE, pA, pE2, p1, hol, hol', c3b, inst_cut]
      refine hrec.mono' fun u Hc wc ⟨Sc, hC, kc, hSc⟩ => ?_
      have nc := kc.next
      have hOc := (hOv.kept w' kHb).kept wb kc
      have hSl := hOv.lt w'
      have hSD : ∀ b ∈ S, ¬ ((D0 b ∨ H.next ≤ b) ∧ b < H'.next ∧ b ∉ S) := fun b hb h => h.2.2 hb
      have hCl := hC.lt wc
      have hcl : (pathsL (treeOf x (x.applyS s m))).length ≤ 5000 := by
        have := congrArg List.length hsucc
        rw [List.length_append] at this
        rw [pathsL_len]; omega
      have hCv : SlV (fun b => (D0 b ∨ H.next ≤ b) ∧ b < Hc.next ∧ b ∉ S) Hc u (pathsL (treeOf x (x.applyS s m))) := by
        refine hC.slv (fun b hb => ?_) (fun b hb => ?_) (by omega)
        · have h1 : H'.next ≤ b := by
            rcases hb.1 with h | h
            · exact iSb' b h
            · omega
          exact ⟨.inr (by omega), hb.2.1, fun h => by have := hSl b h; omega⟩
        · have := hSc b hb
          exact ⟨.inr (by omega), hCl b hb, fun h => by have := hSl b h; omega⟩
      obtain ⟨cells2, va3, vc3, Hd, Sd, qE, qA, hD, kd, wd, iSd⟩ := hOc.pushAll (q := fun b => (D0 b ∨ H.next ≤ b) ∧ b < Hc.next ∧ b ∉ S) wc hCv 24 (fun b hb => ⟨hb.1, by omega, hb.2.2⟩) (fun b hb => hb.2.1) (fun b hb h => h.2.2 hb) (by omega) (by omega)
      obtain ⟨ua, uc, rfl⟩ := hC.slice
      simp only [sz_list] at qE qA hD
      have nd := kd.next
      simp (disch := omega) [-getElem?_pos, if_pos, if_neg, decide_eq_true, decide_eq_false, e1, e2, e3, e7, e11, e12, qE, qA, IntWalk.i64_in]
      have hcat : pathsL (belowN x s (k + 1)) = pathsL (belowN x s k) ++ pathsL (treeOf x (x.applyS s m)) := by rw [hsucc, pathsL_append]
      have kHd : Keep [] H Hd := (k'.trans' (kHb.trans' kc)).trans kd fun b hb hlt => by have := hS b hb; omega
      have hS0 : ∀ b ∈ S, H.next ≤ b := fun b hb => by rcases hS b hb with h | h <;> omega
      refine ⟨hkn, by simp [e1], by simp [e2], by simp [e3], by simp [e11], by simp, wd, ?_, _, Sd, by simp; rfl, ?_, (k'.trans' (kHb.trans' kc)).trans kd fun b hb hlt => by have := hS0 b hb; omega, fun b hb => ?_⟩
      · have kt := kHb.trans' kc
        refine ⟨by omega, fun b hb hn => ?_⟩
        have hbS : b ∉ S := fun h => by
          rcases hS b h with h | h
          · exact hn (by simp [h])
          · omega
        rw [kd.blk b (by omega) hbS, kt.blk b (by omega) (by simp), kk.blk b hb hn]
      · rw [hcat]
        refine hD.mono (fun b hb => ⟨hb.1, by omega, fun h => ?_⟩) (fun b hb h => h.2.2 hb)
        rcases iSd b h with h | h
        · exact hb.2.2 h
        · omega
      · rcases iSd b hb with h | h
        · exact hS b h
        · exact .inr (by omega)
    · obtain rfl : k = (x.moves s).length := by omega
      simp (disch := omega) [-getElem?_pos, if_pos, if_neg, decide_eq_true, decide_eq_false, ir_ref15_Paths_l0, e11, e12]
      refine ⟨ov, e7, ?_⟩
      rw [← belowN_all hok hso, hkl]
      exact ⟨S, hOv, k', fun b hb => by rcases hS b hb with h | h <;> omega⟩
  · rintro e env2 H5 ⟨rfl, ov, e7, hPP⟩ hu
    have hoc : one ov = true ∧ cellsOf ov = some [ov] := (let ⟨S, h, _⟩ := hPP; h.cell)
    simp (disch := omega) [-getElem?_pos, if_pos, if_neg, decide_eq_true, decide_eq_false, e7, hoc.1, hoc.2]
    exact hPP
theorem Paths_spec {x : InstD} (hok : x.Ok) (hdec : x.decs ≤ 100) : ∀ (d : Nat) {H : AH} {v pv : Value} {P : List Int} {s : StD} {D0 : Nat → Prop}, InstV (fun b => b < H.next) H v x → SlV D0 H pv P → (∀ b, D0 b → b < H.next) → x.replay P = (s, 0, true) → x.decs - P.length = d → (treeOf x s).length ≤ 5000 →
    AFn Tryd.prog F_ref15_Paths [v, pv, .int .i64 5000] H (PathP D0 H (pathsL (treeOf x s)))
  | d, H, v, pv, P, s, D0, hx, hP, hD0, hr, hd, hT => by
    refine paths_step hok hdec hx hP hD0 hr hT fun m hm {H2 v2 pv2 D2} hx2 hP2 hD2 => ?_
    obtain ⟨hso, hpath⟩ := replayF_ok hok (start_ok hok) (show x.replayF x.start 0 P = (s, 0, true) from hr)
    have hpath' : s.path = P := by rw [hpath]; rfl
    have hlt := moves_path hok hso hm
    rw [hpath'] at hlt
    have hsn := replayF_snoc (show x.replayF x.start 0 P = (s, 0, true) from hr) hm
    have hkT : (treeOf x (x.applyS s m)).length ≤ (treeOf x s).length := by
      rw [treeOf_eq hok hso, List.length_cons, List.length_flatMap]
      have : (treeOf x (x.applyS s m)).length ∈ (kids x s).map fun t => (treeOf x t).length := List.mem_map.2 ⟨_, List.mem_map.2 ⟨m, hm, rfl⟩, rfl⟩
      have key : ∀ (l : List Nat) (a : Nat), a ∈ l → a ≤ l.sum := by
        intro l
        induction l with
        | nil => intro a h; simp at h
        | cons b l ih =>
          intro a h
          rw [List.sum_cons]
          rcases List.mem_cons.1 h with rfl | h
          · omega
          · have := ih a h; omega
      have := key _ _ this
      omega
    cases d with
    | zero => omega
    | succ d => exact Paths_spec hok hdec d hx2 hP2 hD2 hsn (by rw [List.length_append]; simp; omega) (by omega)
end Go.Proofs.YtlcddhgfkkjhkaaDoor
