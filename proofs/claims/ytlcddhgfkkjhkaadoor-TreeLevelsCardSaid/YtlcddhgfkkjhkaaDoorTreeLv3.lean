/-
  Layer 15: TreeLevels.
-/
import Derived.Test.YtlcddhgfkkjhkaaDoorTreeLv2
import Derived.Test.YtlcddhgfkkjhkaaDoorTreePa
import Derived.Test.YtlcddhgfkkjhkaaDoorT15
import Derived.Test.YtlcddhgfkkjhkaaDoorWak15
import Derived.Test.YtlcddhgfkkjhkaaDoorRef09
set_option maxRecDepth 100000
set_option linter.unusedSimpArgs false
set_option linter.unusedVariables false
namespace Go.Abs
open Go
theorem fold_max1 : ∀ (l : List Nat) (a : Nat), l.foldl (fun a d => max a (d + 1)) (a + 1) = l.foldl max a + 1
  | [], a => rfl
  | d :: l, a => by
    rw [List.foldl_cons, List.foldl_cons, show max (a + 1) (d + 1) = max a d + 1 by omega]
    exact fold_max1 l _
theorem fold_max {l : List Nat} (h : l ≠ []) : l.foldl (fun a d => max a (d + 1)) 0 = l.foldl max 0 + 1 := by
  cases l with
  | nil => exact absurd rfl h
  | cons d l =>
    rw [List.foldl_cons, List.foldl_cons, show max 0 (d + 1) = max 0 d + 1 by omega]
    exact fold_max1 l _
def cntK (x : InstD) (k i : Nat) : Nat := (((allS x).take k).map fun s => s.path.length).count i
def deepK (x : InstD) (k : Nat) : Nat := (((allS x).take k).map fun s => s.path.length).foldl max 0
def wantK (x : InstD) (k : Nat) : List Int := (List.range 20).map fun i => ((cntK x k i : Nat) : Int)
theorem cntK_succ {x : InstD} {k i : Nat} (h : k < (allS x).length) : cntK x (k + 1) i = cntK x k i + (if (allS x)[k].path.length = i then 1 else 0) := by
  unfold cntK
  rw [List.take_succ_eq_append_getElem h, List.map_append, List.count_append, List.map_singleton, List.count_cons]
  simp
theorem deepK_succ {x : InstD} {k : Nat} (h : k < (allS x).length) : deepK x (k + 1) = max (deepK x k) (allS x)[k].path.length := by
  unfold deepK
  rw [List.take_succ_eq_append_getElem h, List.map_append, List.foldl_append]
  rfl
theorem wantK_len {x : InstD} {k : Nat} : (wantK x k).length = 20 := by simp [wantK]
theorem wantK_get {x : InstD} {k i : Nat} (h : i < 20) : (wantK x k)[i]? = some ((cntK x k i : Nat) : Int) := by simp [wantK, h]
theorem wantK_set {x : InstD} {k : Nat} (h : k < (allS x).length) (hd : (allS x)[k].path.length < 20) : (wantK x k).set (allS x)[k].path.length ((cntK x k (allS x)[k].path.length : Nat) + 1 : Int) = wantK x (k + 1) := by
  apply List.ext_getElem?
  intro i
  by_cases hi : i < 20
  · rw [wantK_get hi, List.getElem?_set, cntK_succ h]
    by_cases he : (allS x)[k].path.length = i
    · subst he
      rw [if_pos rfl, if_pos (by rw [wantK_len]; exact hi), if_pos rfl]
      simp
    · rw [if_neg he, if_neg he, wantK_get hi]; simp
  · rw [List.getElem?_eq_none (by rw [List.length_set, wantK_len]; omega), List.getElem?_eq_none (by rw [wantK_len]; omega)]
theorem cntK_le {x : InstD} {k i : Nat} : cntK x k i ≤ (allS x).length := by
  unfold cntK
  have h := List.count_le_length (a := i) (l := ((allS x).take k).map fun s => s.path.length)
  rw [List.length_map, List.length_take] at h
  omega
theorem lvK_all {x : InstD} (hok : x.Ok) : (lvK x (allS x).length).length = deepK x (allS x).length + 1 ∧ ∀ i, (lvK x (allS x).length).getD i 0 = cntK x (allS x).length i := by
  constructor
  · unfold lvK lvs deepK
    rw [lvs_len, List.length_nil]
    refine fold_max fun h => ?_
    have h2 := congrArg List.length h
    have hp := all_pos hok
    rw [List.length_map, List.length_take, List.length_nil] at h2
    omega
  · intro i
    unfold lvK lvs cntK
    rw [lvs_get]
    simp
end Go.Abs
namespace Go.Proofs.YtlcddhgfkkjhkaaDoor
open Go Go.Abs
theorem iL_set {L : List Int} {i : Nat} {z : Int} (h : i < L.length) : over (iL L) i [.int .i64 z] = iL (L.set i z) := by
  rw [over_one (by simp [iL]; exact h)]
  simp [iL, List.map_set]
theorem iL_get {L : List Int} {i : Nat} {z : Int} (h : L[i]? = some z) : (iL L)[i]? = some (.int .i64 z) := by simp [iL, h]
theorem iL_len {L : List Int} : (iL L).length = L.length := by simp [iL]
def TlI (H0 : AH) (x : InstD) (qw : Nat) (v31 : Value) (e5 e2 e0 e1 e7 : Value) (k : Nat) (env : Env) (H' : AH) : Prop :=
  env 0 = some e0 ∧ env 1 = some e1 ∧ env 2 = some e2 ∧ env 5 = some e5 ∧ env 7 = some e7 ∧ env 8 = some (.slice (some ⟨qw, 0, none⟩) 20 20) ∧ env 9 = some (.int .i64 (deepK x k : Nat)) ∧ env 31 = some v31 ∧ env 32 = some (.int .i64 (allS x).length) ∧ env 33 = some (.int .i64 k) ∧ WF H' ∧
  (∀ b, b ≠ qw → H'.blk b = H0.blk b) ∧ H'.next = H0.next ∧ H'.blk qw = some (.row (iL (wantK x k)) T_int true)
theorem tlevels_l1 {H0 : AH} {x : InstD} {qw : Nat} {v31 e5 e2 e0 e1 e7 : Value} (hw : WF H0) (hT : (allS x).length ≤ 2000) (hd : ∀ s ∈ allS x, s.path.length < 20) (hL : SlV (fun b => b ≠ qw) H0 v31 (pathsL (allS x))) {env : Env} {H : AH} (h : TlI H0 x qw v31 e5 e2 e0 e1 e7 0 env H) :
    wpC Tryd.prog 121 (.loop ir_law15_TreeLevels_l1) (fun e env' H' => e = .exit 0 ∧ TlI H0 x qw v31 e5 e2 e0 e1 e7 (allS x).length env' H') env H := by
  refine loop_upto (allS x).length (TlI H0 x qw v31 e5 e2 e0 e1 e7) (Q := fun e env' H' => e = .exit 0 ∧ TlI H0 x qw v31 e5 e2 e0 e1 e7 (allS x).length env' H') h ?_
  rintro k env H' hk ⟨f0, f1, f2, f5, f7, f8, f9, f31, f32, f33, w', hfr, hn, hb⟩
  by_cases hkn : k < (allS x).length
  · have hL' : SlV (fun b => b ≠ qw) H' v31 (pathsL (allS x)) := hL.sub fun b hb cs hc => by
      unfold AH.cells at hc ⊢
      rw [hfr b hb]; exact hc
    have hpl := pathsL_len (allS x)
    obtain ⟨b1, off, sp, cap, cs, hcv, q1, q2⟩ := rows_rd hL' (by omega)
    obtain ⟨w, q3, q4⟩ := q2 k (by omega)
    have hpk : (pathsL (allS x))[k]'(by omega) = (allS x)[k].path := by simp [pathsL]
    rw [hpk] at q4
    subst hcv
    obtain ⟨wa, wc, rfl⟩ := q4.slice
    have hdk := hd (allS x)[k] (List.getElem_mem _)
    have hws := wantK_set hkn hdk
    have hwg := iL_get (wantK_get (x := x) (k := k) hdk)
    have hdp := deepK_succ hkn
    have hcl := cntK_le (x := x) (k := k) (i := (allS x)[k].path.length)
    have hwl : (allS x)[k].path.length < (wantK x k).length := by rw [wantK_len]; exact hdk
    generalize (allS x)[k].path.length = d at *
    generalize cntK x k d = c at *
    have wr := writeA_of (off := d) (news := [Value.int .i64 ((c : Int) + 1)]) hb (by rw [iL_len]; simp; omega)
    rw [iL_set hwl, hws] at wr
    have cb := AH.cells_of hb
    have hd20 : (d : Int) < 20 := by omega
    have hmx : (if ((deepK x k : Nat) : Int) < (d : Int) then (d : Int) else ((deepK x k : Nat) : Int)) = ((deepK x (k + 1) : Nat) : Int) := by rw [hdp]; split <;> omega
    generalize hdn : deepK x (k + 1) = dn at *
    generalize deepK x k = dp at *
    rw [hpl] at *
    simp (disch := omega) [-getElem?_pos, if_pos, if_neg, decide_eq_true, decide_eq_false, ir_law15_TreeLevels_l1, f8, f9, f31, f32, f33, hkn, q1, q3, cb, hdk, hd20, hwg, wr, hmx, IntWalk.i64_in]
    exact ⟨by simp [f0], by simp [f1], by simp [f2], by simp [f5], by simp [f7], by simp [f8], by rw [hdn]; simp; split <;> omega, by simp [f31], by simp [f32], by simp, w'.set (w'.lt hb), fun b hbq => by rw [AH.set_blk_ne hbq]; exact hfr b hbq, hn, AH.set_blk_same⟩
  · obtain rfl : k = (allS x).length := by omega
    simp (disch := omega) [-getElem?_pos, if_pos, if_neg, decide_eq_true, decide_eq_false, ir_law15_TreeLevels_l1, f32, f33]
    exact ⟨f0, f1, f2, f5, f7, f8, f9, f31, f32, f33, w', hfr, hn, hb⟩
theorem zeros20 : zeros [Value.int .i64 0] 20 = iL ((List.range 20).map fun _ => (0 : Int)) := rfl
theorem wantK_zero {x : InstD} : wantK x 0 = (List.range 20).map fun _ => (0 : Int) := by
  unfold wantK cntK
  simp
def Tl0I (H : AH) (qw : Nat) (v84 : Value) (L : List Int) (e2 : Value) (k : Nat) (env : Env) (H' : AH) : Prop :=
  H' = H ∧ env 2 = some e2 ∧ env 8 = some (.slice (some ⟨qw, 0, none⟩) 20 20) ∧ env 84 = some v84 ∧ env 85 = some (.int .i64 L.length) ∧ env 86 = some (.int .i64 k)
theorem tlevels_l0 {H : AH} {qw : Nat} {v84 e2 : Value} {L W : List Int} {p : Nat → Prop} (hW : H.cells qw = some (iL W)) (hL : SlV p H v84 L) (hl : L.length ≤ 20) (he : ∀ i (h : i < L.length), W[i]? = some L[i]) {env : Env} (h : Tl0I H qw v84 L e2 0 env H) :
    wpC Tryd.prog 121 (.loop ir_law15_TreeLevels_l0) (fun e env' H' => e = .exit 2 ∧ H' = H ∧ env' 2 = some e2) env H := by
  refine loop_upto L.length (Tl0I H qw v84 L e2) (Q := fun e env' H' => e = .exit 2 ∧ H' = H ∧ env' 2 = some e2) h ?_
  rintro k env H' hk ⟨rfl, f2, f8, f84, f85, f86⟩
  by_cases hkn : k < L.length
  · obtain ⟨b0, off, sp, cap, cs, hcv, q1, q2⟩ := ints_rd hL (by omega)
    obtain ⟨q3, q4⟩ := q2 k hkn
    have hw := iL_get (he k hkn)
    subst hcv
    have hk20 : k < 20 := by omega
    have hk20' : (k : Int) < 20 := by omega
    generalize L[k] = z at *
    simp (disch := omega) [-getElem?_pos, if_pos, if_neg, decide_eq_true, decide_eq_false, ir_law15_TreeLevels_l0, f8, f84, f85, f86, hkn, q1, q3, hW, hw, hk20, hk20', IntWalk.i64_in]
    exact ⟨rfl, by simp [f2], by simp [f8], by simp [f84], by simp [f85], by simp⟩
  · obtain rfl : k = L.length := by omega
    simp (disch := omega) [-getElem?_pos, if_pos, if_neg, decide_eq_true, decide_eq_false, ir_law15_TreeLevels_l0, f85, f86]
    exact f2
theorem lvp_full {H : AH} {x : InstD} {most : Int} {u : Value} {H' : AH} (h : LvP H x most u H') (hc : x.check = 0) (hm : (allS x).length ≤ mostN most) : ∃ av, u = .tuple #[av, .int .i64 0] ∧ NewL H av (nI (lvK x (allS x).length)) H' := by
  obtain ⟨_, h⟩ := h
  rw [if_pos hc, if_pos hm] at h
  exact h
theorem lvp_over {H : AH} {x : InstD} {most : Int} {u : Value} {H' : AH} (h : LvP H x most u H') (hm : x.check = 0 → ¬ (allS x).length ≤ mostN most) : Keep [] H H' ∧ u = .tuple #[.slice none 0 0, .int .i64 (if x.check = 0 then 24 else x.check)] := by
  obtain ⟨k, h⟩ := h
  refine ⟨k, ?_⟩
  by_cases hc : x.check = 0
  · rw [if_pos hc, if_neg (hm hc)] at h
    rw [if_pos hc]; exact h
  · rw [if_neg hc] at h
    rw [if_neg hc]; exact h
theorem TreeLevels_abs {H : AH} {v : Value} {x : InstD} {n : Int} (hg : GroundA G H) (hx : InstV (fun b => b < H.next) H v x) (hn : 0 ≤ n ∧ n ≤ 255) : AFn Tryd.prog F_law15_TreeLevels [v, .int .u8 n] H fun u H' => u = .bool true ∧ H' = H := by
  refine AFn.calm (fun H0 hs => ?_) rfl
  have hn0 : H0.next = H.next := hs.1
  have hg0 := hg.of (H' := H0) hs.2
  have hx0 := (hx.same hs).up (q := fun b => b < H0.next) (fun b hb => by omega) .refl
  clear hx hg
  obtain ⟨iv, cv, sv, rfl, i1, i2, i3, h1, h2, h3⟩ := id hx0
  refine AFn.enter mixed ir_law15_TreeLevels_eq (by simp [ir_law15_TreeLevels]) fun hw => ?_
  simp (disch := omega) [-getElem?_pos, if_pos, if_neg, decide_eq_true, decide_eq_false, ir_law15_TreeLevels, cut6']
  generalize hH1 : AH.alloc H0 _ = H1
  have k1 : Keep [] H0 H1 := by rw [← hH1]; exact .alloc
  have w1 : WF H1 := by rw [← hH1]; exact hw.alloc
  have n1 : H1.next = H0.next + 1 := by rw [← hH1]; simp
  have c1 : H1.cells H0.next = some [.int .i64 x.kind, .int .i64 x.cap, iv, cv, .int .i64 x.size, sv] := by rw [← hH1]; simp
  clear hH1
  have hx1 := (hx0.kept hw k1).up (q := fun b => b < H1.next) (fun b hb => by omega) .refl
  refine (show AFn _ _ [_, .int .i64 ((6 : Nat) : Int)] _ _ from (LAW15.tame_spec (m := 6) (by omega) (by omega) hx1)).mono' fun u H7 w7 ⟨y, hy, ht, k7⟩ => ?_
  have n7 := k7.next
  have hy7 : InstV (fun b => b < H7.next) H7 u y := hy.up (fun b hb => hb.2) .refl
  simp (disch := omega) [-getElem?_pos, if_pos, if_neg, decide_eq_true, decide_eq_false, ]
  refine (LAW15.insts_spec hy7).mono' fun u3 H8 w8 ⟨a, b, hu, ha', hb', k8⟩ => ?_
  rw [LAW15.clip_tame (by omega) ht] at ha' hb'
  subst hu
  have n8 := k8.next
  obtain ⟨ia', ca', sa', rfl, _⟩ := id ha'
  obtain ⟨ib', cb', sb', rfl, _⟩ := id hb'
  have hok := ht.ok
  have hc0 := InstD.check_ok.2 hok
  obtain ⟨hTl, hdm⟩ := all_small hok (m := 6) (by omega) ht.items ht.cost ht.sets
  have hTp := all_pos hok
  simp (disch := omega) [-getElem?_pos, if_pos, if_neg, decide_eq_true, decide_eq_false, writeA, over, cut6']
  generalize hH9 : AH.set (AH.set _ _ _) _ _ = H9
  have k9 : Keep [] H8 H9 := by rw [← hH9]; exact .new_set (by omega) (.new_set (by omega) (.new_alloc .alloc))
  have w9 : WF H9 := by rw [← hH9]; refine WF.set (WF.set (WF.alloc (WF.alloc w8)) ?_) ?_ <;> simp <;> omega
  have e7 : H9.cells H8.next = some [.int .i64 y.kind, .int .i64 y.cap, ia', ca', .int .i64 y.size, sa'] := by rw [← hH9]; simp
  have n9 : H9.next = H8.next + 2 := by rw [← hH9]; simp
  clear hH9
  have k09 := k1.trans' (k7.trans' (k8.trans' k9))
  have ha9 := ha'.up (q := fun b => b < H9.next) (fun b hb => by have := hb.2; omega) (.kept w8 k9)
  have hb9 := hb'.up (q := fun b => b < H9.next) (fun b hb => by have := hb.2; omega) (.kept w8 k9)
  refine (Paths_spec hok (by omega) (y.decs - 0) (P := []) (s := y.start) (D0 := fun _ => False) hb9 .nil (fun _ h => h.elim) rfl rfl (by show (allS y).length ≤ 5000; omega)).mono' fun u H10 w10 ⟨S, hO, k10, hS⟩ => ?_
  have n10 := k10.next
  have hPl : SlV (fun b => H9.next ≤ b ∧ b < H10.next) H10 u (pathsL (allS y)) := hO.slv (fun b hb => ⟨by rcases hb.1 with h | h; exact h.elim; exact h, hb.2.1⟩) (fun b hb => ⟨hS b hb, hO.lt w10 b hb⟩) (by show (pathsL (allS y)).length ≤ _; rw [pathsL_len]; omega)
  have hlen : (pathsL (allS y)).length = (allS y).length := pathsL_len _
  obtain ⟨ua, uc, rfl⟩ := hPl.slice
  have hz := zeros20
  rw [hlen]
  simp (disch := omega) [-getElem?_pos, if_pos, if_neg, decide_eq_true, decide_eq_false, hz]
  generalize hH11 : AH.alloc H10 _ = H11
  have k11 : Keep [] H10 H11 := by rw [← hH11]; exact .alloc
  have w11 : WF H11 := by rw [← hH11]; exact w10.alloc
  have n11 : H11.next = H10.next + 1 := by rw [← hH11]; simp
  have b11 : H11.blk H10.next = some (.row (iL (wantK y 0)) T_int true) := by rw [wantK_zero, ← hH11]; exact AH.alloc_blk_new
  clear hH11
  have hP11 := (hPl.kept w10 k11).mono (q := fun b => b ≠ H10.next) (fun b hb => by omega)
  have hdd : ∀ s ∈ allS y, s.path.length < 20 := fun s hs => by have := path_decs hok (all_ok hok hs).1; omega
  have hP11' : SlV (fun b => b ≠ H10.next) H11 (.slice ua (allS y).length uc) (pathsL (allS y)) := by rw [← hlen]; exact hP11
  refine wpC_use (tlevels_l1 (H0 := H11) (x := y) (qw := H10.next) w11 (by omega) hdd hP11' ⟨by simp; rfl, by simp; rfl, by simp; rfl, by simp; rfl, by simp; rfl, by simp, by simp [deepK], by simp, by simp, by simp, w11, fun _ _ => rfl, rfl, b11⟩) ?_
  rintro e env2 H12 ⟨rfl, f0, f1, f2, f5, f7, f8, f9, f31, f32, f33, w12, hfr, n12, b12⟩ hu
  have k112 : Keep [] H10 H12 := ⟨by omega, fun b hb _ => by rw [hfr b (by omega), k11.blk b hb (by simp)]⟩
  have k912 := k10.trans' k112
  have k012 := k09.trans' k912
  have c12 := cells_kept w9 k912 e7
  have ha12 := (ha9.kept w9 k912).up (q := fun b => b < H12.next) (fun b hb => by have := k912.next; omega) .refl
  have hg12 := hg0.kept hw k012
  have hm1 : mostN ((allS y).length : Int) = (allS y).length := by unfold mostN; rw [if_pos (by omega)]; omega
  have hsp1 := Levels_spec (most := ((allS y).length : Int)) hg12 ha12 (by unfold I64; omega) (fun _ => by omega)
  simp (disch := omega) [-getElem?_pos, if_pos, if_neg, decide_eq_true, decide_eq_false, f5, f7, c12, cut6']
  refine hsp1.mono' fun u1 H13 w13 hlv => ?_
  obtain ⟨av, rfl, SA, hA, k13, hSA⟩ := lvp_full hlv hc0 (by omega)
  clear hlv hsp1
  have n13 := k13.next
  have hAc := hA.cell
  obtain ⟨hdeep, hcnt⟩ := lvK_all hok
  have hm2 : ¬ (allS y).length ≤ mostN (((allS y).length : Int) - 1 - n) := by unfold mostN; split <;> omega
  have hsp2 := Levels_spec (most := ((allS y).length : Int) - 1 - n) (hg12.kept w12 k13) ((ha12.kept w12 k13).up (q := fun b => b < H13.next) (fun b hb => by omega) .refl) (by unfold I64; omega) (fun _ => by unfold mostN; split <;> omega)
  have c13 := cells_kept w12 k13 c12
  have hwn : IntKind.i64.wrap n = n := IntWalk.i64_in _ (by omega)
  have hwa : IntKind.i64.wrap (((allS y).length : Int) - 1) = ((allS y).length : Int) - 1 := IntWalk.i64_in _ (by omega)
  have hwb : IntKind.i64.wrap (((allS y).length : Int) - 1 - n) = ((allS y).length : Int) - 1 - n := IntWalk.i64_in _ (by omega)
  simp (disch := omega) [-getElem?_pos, if_pos, if_neg, decide_eq_true, decide_eq_false, f1, f5, f7, c13, cut6', hwn, hwa, hwb]
  refine hsp2.mono' fun u2 H14 w14 hlv => ?_
  obtain ⟨k14, rfl⟩ := lvp_over hlv (fun _ => hm2)
  rw [if_pos hc0]
  clear hlv hsp2
  have n14 := k14.next
  have k1214 := k13.trans' k14
  have k014 := k012.trans' k1214
  simp (disch := omega) [-getElem?_pos, if_pos, if_neg, decide_eq_true, decide_eq_false, ]
  refine AFn.pure (wakes15_spec (hg0.kept hw k014)) ?_
  have hLn : (nI (lvK y (allS y).length)).length = deepK y (allS y).length + 1 := by rw [nI_len, hdeep]
  have hAv : SlV (fun b => b < H14.next) H14 av (nI (lvK y (allS y).length)) := (hA.kept w13 k14).slv (fun _ h => h.elim) (fun b hb => by have := hA.lt w13 b hb; omega) (by rw [hLn]; have := lvK_len hok (allS y).length; omega)
  have hd20 : deepK y (allS y).length + 1 ≤ 20 := by
    rw [← hdeep]
    unfold lvK lvs
    rw [lvs_len]
    refine fold_le 20 _ _ (by simp) fun d hd => ?_
    obtain ⟨s, hs, rfl⟩ := List.mem_map.1 hd
    have := hdd s (List.mem_of_mem_take hs)
    omega
  have he : ∀ i (h : i < (nI (lvK y (allS y).length)).length), (wantK y (allS y).length)[i]? = some (nI (lvK y (allS y).length))[i] := fun i h => by
    rw [wantK_get (by omega), nI_get h, hcnt]
  have cw14 : H14.cells H10.next = some (iL (wantK y (allS y).length)) := cells_kept w12 k1214 (AH.cells_of b12)
  obtain ⟨aa, ac, rfl⟩ := hAv.slice
  have hAv' := hAv
  rw [hLn] at hAv'
  rw [hLn]
  have hdc : ((deepK y (allS y).length + 1 : Nat) : Int) = ((deepK y (allS y).length : Nat) : Int) + 1 := by omega
  generalize hdp : deepK y (allS y).length = dp at *
  simp (disch := omega) [-getElem?_pos, if_pos, if_neg, decide_eq_true, decide_eq_false, f9, IntWalk.i64_in]
  refine wpC_use (tlevels_l0 (qw := H10.next) (L := nI (lvK y (allS y).length)) (W := wantK y (allS y).length) cw14 hAv' (by rw [hLn]; omega) (fun i h => he i h) ⟨rfl, by simp [f2]; rfl, by simp [f8], by simp, by rw [hLn]; simp, by simp⟩) ?_
  rintro e env3 H15 ⟨rfl, rfl, g2⟩ hu2
  have c114 := cells_kept w1 (k7.trans' (k8.trans' (k9.trans' (k912.trans' k1214)))) c1
  have hxE := (hx1.kept w1 (k7.trans' (k8.trans' (k9.trans' (k912.trans' k1214))))).up (q := fun b => b < H15.next) (fun b hb => by have := k014.next; omega) .refl
  simp (disch := omega) [-getElem?_pos, if_pos, if_neg, decide_eq_true, decide_eq_false, g2, c114, cut6']
  refine (LAW15.insts_spec hxE).mono' fun u4 H16 w16 ⟨a2, b2, hu4, ha2, hb2, k16⟩ => ?_
  subst hu4
  have n16 := k16.next
  obtain ⟨ic, cc, sc, rfl, _⟩ := id ha2
  obtain ⟨id', cd, sd, rfl, _⟩ := id hb2
  simp (disch := omega) [-getElem?_pos, if_pos, if_neg, decide_eq_true, decide_eq_false, writeA, over, cut6']
  generalize hH17 : AH.set (AH.set _ _ _) _ _ = H17
  have k17 : Keep [] H16 H17 := by rw [← hH17]; exact .new_set (by omega) (.new_set (by omega) (.new_alloc .alloc))
  have w17 : WF H17 := by rw [← hH17]; refine WF.set (WF.set (WF.alloc (WF.alloc w16)) ?_) ?_ <;> simp <;> omega
  have cc17 : H17.cells H16.next = some [.int .i64 (LAW15.clipI x).kind, .int .i64 (LAW15.clipI x).cap, ic, cc, .int .i64 (LAW15.clipI x).size, sc] := by rw [← hH17]; simp
  have cd17 : H17.cells (H16.next + 1) = some [.int .i64 (LAW15.clipI x).kind, .int .i64 (LAW15.clipI x).cap, id', cd, .int .i64 (LAW15.clipI x).size, sd] := by rw [← hH17]; simp
  have n17 : H17.next = H16.next + 2 := by rw [← hH17]; simp
  clear hH17
  have ha17 := ha2.up (q := fun b => b < H17.next) (fun b hb => by have := hb.2; omega) (.kept w16 k17)
  have hb17 := hb2.up (q := fun b => b < H17.next) (fun b hb => by have := hb.2; omega) (.kept w16 k17)
  have hm0 : mostN 0 = 0 := rfl
  have hsp3 := Levels_spec (most := 0) (hg0.kept hw (k014.trans' (k16.trans' k17))) ha17 (by unfold I64; omega) (fun _ => by rw [hm0]; omega)
  generalize LAW15.clipI x = z at *
  refine hsp3.mono' fun u5 H18 w18 hlv => ?_
  obtain ⟨k18, rfl⟩ := lvp_over hlv (fun hc => by rw [hm0]; have := all_pos (InstD.check_ok.1 hc); omega)
  clear hlv hsp3
  have cd18 := cells_kept w17 k18 cd17
  have hck := fun H' (k : Keep [] H18 H') => Check9_spec ((hb17.kept w17 k18).kept w18 k)
  simp (disch := omega) [-getElem?_pos, if_pos, if_neg, decide_eq_true, decide_eq_false, cd18, cut6']
  refine AFn.pure (hck _ .refl) ?_
  by_cases hcz : z.check = 0
  · rw [hcz]
    simp (disch := omega) [-getElem?_pos, if_pos, if_neg, decide_eq_true, decide_eq_false, cd18, cut6']
    refine AFn.pure (hck _ .refl) ?_
    rw [hcz]
    simp (disch := omega) [-getElem?_pos, if_pos, if_neg, decide_eq_true, decide_eq_false, ]
  · rw [if_neg hcz]
    simp (disch := omega) [-getElem?_pos, if_pos, if_neg, decide_eq_true, decide_eq_false, ]
end Go.Proofs.YtlcddhgfkkjhkaaDoor
