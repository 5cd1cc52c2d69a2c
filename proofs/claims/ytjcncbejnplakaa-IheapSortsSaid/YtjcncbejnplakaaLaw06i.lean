/-
  IheapPlays (3): the rounds.
-/
import Derived.Test.YtjcncbejnplakaaLaw06h
set_option maxRecDepth 100000
set_option linter.unusedSimpArgs false
set_option linter.unusedVariables false
namespace Go.Proofs.Ytjcncbejnplakaa
open Go Go.Abs

/-- The cells of acts. -/
def cellsA : List (Int × Ent) → List Value
  | [] => []
  | (z, x) :: r => .int .i64 z :: .int .i64 x.b :: .int .i64 x.d :: .int .i64 x.s :: .int .i64 x.i :: cellsA r
theorem cellsA_length (l : List (Int × Ent)) : (cellsA l).length = l.length * 5 := by
  induction l with
  | nil => rfl
  | cons a l ih => obtain ⟨z, x⟩ := a; simp [cellsA, ih]; omega
theorem cellsA_get (l : List (Int × Ent)) (k : Nat) (h : k < l.length) : ((cellsA l).drop (k * 5)).take 5 = [.int .i64 l[k].1, .int .i64 l[k].2.b, .int .i64 l[k].2.d, .int .i64 l[k].2.s, .int .i64 l[k].2.i] := by
  induction l generalizing k with
  | nil => simp at h
  | cons a l ih =>
    obtain ⟨z, x⟩ := a
    cases k with
    | zero => simp [cellsA]
    | succ k =>
      have := ih k (by simpa using h)
      simp only [cellsA, Nat.add_mul, Nat.one_mul, show k * 5 + 5 = (k * 5 + 4) + 1 from rfl, List.drop_succ_cons, List.getElem_cons_succ]
      exact this
theorem cellsA_take (l : List (Int × Ent)) (k : Nat) : (cellsA l).take (k * 5) = cellsA (l.take k) := by
  induction l generalizing k with
  | nil => simp [cellsA]
  | cons a l ih =>
    obtain ⟨z, x⟩ := a
    cases k with
    | zero => simp [cellsA]
    | succ k =>
      have := ih k
      simp only [cellsA, Nat.add_mul, Nat.one_mul, show k * 5 + 5 = (k * 5 + 4) + 1 from rfl, List.take_succ_cons, this]
theorem acts_at {p : Nat → Prop} {H : AH} {v : Value} {l : List (Int × Ent)} (h : Vw p H 5 v l.length (cellsA l)) (h0 : 0 < l.length) : ∃ b off sp cap cs, v = .slice (some ⟨b, off, sp⟩) l.length cap ∧ H.cells b = some cs ∧ ∀ k, k < l.length → ∃ (z : Int) (x : Ent), cut cs (off + k * 5) 5 = some [.int .i64 z, .int .i64 x.b, .int .i64 x.d, .int .i64 x.s, .int .i64 x.i] := by
  obtain ⟨b, off, sp, cap, cs, h1, h2, h3, h4, h5, h6, h7, _⟩ := h.at h0
  refine ⟨b, off, sp, cap, cs, h1, h4, fun k hk => ⟨l[k].1, l[k].2, ?_⟩⟩
  obtain ⟨q1, q2, q3, q4⟩ := cut_spec h7
  rw [cut_eq (by omega), ← cellsA_get l k hk, q2, List.drop_take, List.drop_drop, List.take_take, Nat.min_eq_left (by omega)]

def PL1I (Hb : AH) (q : Nat) (av sv : Value) (A : List Ent) (k : Nat) (env : Env) (H' : AH) : Prop :=
  env 1 = some av ∧ env 5 = some (.pointer (some ⟨q, 0, none⟩)) ∧ env 23 = some sv ∧ env 24 = some (.int .i64 A.length) ∧ env 25 = some (.int .i64 k) ∧ WF H' ∧ Keep [] Hb H' ∧ ∃ mv, env 6 = some mv ∧ EntsV (fun b => Hb.next ≤ b) H' mv (sortL Ent.lt (A.take k))
def PL1Q (Hb : AH) (q : Nat) (av : Value) (A : List Ent) (e : AExit) (env : Env) (H' : AH) : Prop :=
  e = .exit 0 ∧ env 1 = some av ∧ env 5 = some (.pointer (some ⟨q, 0, none⟩)) ∧ WF H' ∧ Keep [] Hb H' ∧ ∃ mv, env 6 = some mv ∧ EntsV (fun b => Hb.next ≤ b) H' mv (sortL Ent.lt A)

theorem plays_l1 {Hb : AH} (hw : WF Hb) {q : Nat} {av sv : Value} {A : List Ent} (hv : Vw (fun _ => True) Hb 4 sv A.length (cellsE A)) (hA : A.length ≤ 1000) {env : Env} (h : PL1I Hb q av sv A 0 env Hb) : wpC Try.prog 146 (.loop ir_law06_IheapPlays_l1) (PL1Q Hb q av A) env Hb := by
  have hcx : ∀ y : Ent, cut [Value.int .i64 y.b, .int .i64 y.d, .int .i64 y.s, .int .i64 y.i] 0 4 = some [Value.int .i64 y.b, .int .i64 y.d, .int .i64 y.s, .int .i64 y.i] := fun _ => rfl
  refine loop_upto A.length (PL1I Hb q av sv A) (Q := PL1Q Hb q av A) h ?_
  rintro k env H' hk ⟨e1, e5, e23, e24, e25, w', k', mv, e6, hm⟩
  by_cases hkn : k < A.length
  · obtain ⟨b0, off, sp, cap, cs, rfl, q1, q2⟩ := ents_at (hv.kept hw k') (by omega)
    have q3 := q2 k hkn
    have hs := sort_take hkn
    have hl := sort_length (A.take k)
    rw [List.length_take] at hl
    generalize getE A k = x at *
    have hbn : (H'.alloc (.row [.int .i64 0, .int .i64 0, .int .i64 0, .int .i64 0] T_secateurlaw06_Entry true)).blk H'.next = some (.row [.int .i64 0, .int .i64 0, .int .i64 0, .int .i64 0] T_secateurlaw06_Entry true) := by simp
    have hk2 : Keep [] H' (H'.alloc (.row [.int .i64 x.b, .int .i64 x.d, .int .i64 x.s, .int .i64 x.i] T_secateurlaw06_Entry true)) := .alloc
    simp only [Ent.cells] at q3
    simp (disch := omega) [-getElem?_pos, if_pos, if_neg, decide_eq_true, decide_eq_false, ir_law06_IheapPlays_l1, ir_law06_IheapPlays_b1, e1, e5, e6, e23, e24, e25, q1, q3, writeA_row hbn, over, hcx, IntWalk.i64_in, show (k:Int) < A.length by omega]
    refine (Push5_spec (hm.kept w' hk2) x (by omega)).mono' fun u H5 w5 ⟨h5, k5⟩ => ?_
    simp (disch := omega) [-getElem?_pos, if_pos, if_neg, decide_eq_true, decide_eq_false, e1, e5, e6, e23, e24, e25, IntWalk.i64_in]
    have hn := k'.next
    exact ⟨hkn, by simp [e1], by simp [e5], by simp [e23], by simp [e24], by simp, w5, k'.trans' (hk2.trans' k5), u, by simp, by rw [hs]; exact h5.mono fun b hb => by simp at hb; omega⟩
  · obtain rfl : k = A.length := by omega
    rw [List.take_of_length_le (Nat.le_refl _)] at hm
    simp (disch := omega) [-getElem?_pos, if_pos, if_neg, decide_eq_true, decide_eq_false, ir_law06_IheapPlays_l1, e24, e25]
    exact ⟨rfl, e1, e5, w', k', mv, e6, hm⟩

def PL0I (H0 : AH) (q : Nat) (sv : Value) (n : Nat) (k : Nat) (env : Env) (H' : AH) : Prop :=
  env 5 = some (.pointer (some ⟨q, 0, none⟩)) ∧ env 43 = some sv ∧ env 44 = some (.int .i64 n) ∧ env 45 = some (.int .i64 k) ∧ ∃ L mv, env 6 = some mv ∧ StH H0 H' q L mv (sortL Ent.lt L) ∧ StL L ∧ L.length ≤ 40 + k
theorem plays_l0 {H0 H : AH} (hw : WF H0) {q : Nat} {sv : Value} {l : List (Int × Ent)} (hv : Vw (fun _ => True) H0 5 sv l.length (cellsA l)) (hn : l.length ≤ 60) {env : Env} (h : PL0I H0 q sv l.length 0 env H) : wpC Try.prog 146 (.loop ir_law06_IheapPlays_l0) (fun e env H' => e = .exit 2) env H := by
  have hcx : ∀ y : Ent, cut [Value.int .i64 y.b, .int .i64 y.d, .int .i64 y.s, .int .i64 y.i] 0 4 = some [Value.int .i64 y.b, .int .i64 y.d, .int .i64 y.s, .int .i64 y.i] := fun _ => rfl
  refine loop_upto l.length (PL0I H0 q sv l.length) (Q := fun e env H' => e = .exit 2) h ?_
  rintro k env H' hk ⟨e5, e43, e44, e45, L, mv, e6, hS, hL, hl⟩
  by_cases hkn : k < l.length
  · obtain ⟨_, _, w', k', _⟩ := id hS
    obtain ⟨b0, off, sp, cap, cs, rfl, q1, q2⟩ := acts_at (hv.kept hw k') (by omega)
    obtain ⟨z, x, q3⟩ := q2 k hkn
    have hS3 := hS.three (.row [.int .i64 z, .int .i64 x.b, .int .i64 x.d, .int .i64 x.s, .int .i64 x.i] T_secateurlaw06_Act true) zeroB ref5B
    obtain ⟨P, hP⟩ := hS3.read.2
    obtain ⟨ma, mc, rfl⟩ := hP.1.slice
    have hbn : (H'.alloc (.row [.int .i64 0, .int .i64 0, .int .i64 0, .int .i64 0, .int .i64 0] T_secateurlaw06_Act true)).blk H'.next = some (.row [.int .i64 0, .int .i64 0, .int .i64 0, .int .i64 0, .int .i64 0] T_secateurlaw06_Act true) := by simp
    obtain ⟨d, hd, hdz⟩ : ∃ d : Nat, d < 5 ∧ (if 0 < z then z else 0).tmod 5 = (d : Int) := by
      refine ⟨((if 0 < z then z else 0).tmod 5).toNat, ?_, ?_⟩
      · split
        · rw [Int.tmod_eq_emod_of_nonneg (by omega)]; omega
        · simp
      · split
        · rw [Int.tmod_eq_emod_of_nonneg (by omega)]; omega
        · simp
    have hMl := sort_length L
    simp (disch := omega) [-getElem?_pos, if_pos, if_neg, decide_eq_true, decide_eq_false, ir_law06_IheapPlays_l0, ir_law06_IheapPlays_b3, e5, e6, e43, e44, e45, q1, q3, writeA_row hbn, over, hdz, IntWalk.i64_in, show (k:Int) < l.length by omega]
    refine wpC_use (plays_b4 hS3 hL (by omega) hd x z (by simp; omega) (by simp) (by simp) (by simp [e5]) (by simp [e6]) (by simp) (by simp) (by simp) (by simp) (by simp [hMl]) (by simp)) fun e env2 H5 ⟨he, L', mv', y, ok, f6, f12, f14, hS5, hL5, hl5, g0, g1, g2⟩ hout => ?_
    subst he
    have f5 := hout 5 (by decide)
    have f10 := hout 10 (by decide)
    have f11 := hout 11 (by decide)
    have f13 := hout 13 (by decide)
    have f43 := hout 43 (by decide)
    have f44 := hout 44 (by decide)
    have f45 := hout 45 (by decide)
    simp [e5, e43, e44, e45] at f5 f10 f11 f13 f43 f44 f45
    clear hout
    obtain ⟨hR, P5, hP5⟩ := hS5.read
    obtain ⟨ma5, mc5, rfl⟩ := hP5.1.slice
    have hMl5 := sort_length L'
    have w5 := hS5.wf
    simp only [Ent.cells] at g1 g2
    rw [hMl5] at f6
    simp (disch := omega) [-getElem?_pos, if_pos, if_neg, decide_eq_true, decide_eq_false, f5, f6, f10, f11, f12, f13, f14, f43, f44, f45, g1, g2, hcx]
    refine AFnD.of (of6_spec y) ?_
    simp (disch := omega) [-getElem?_pos, if_pos, if_neg, decide_eq_true, decide_eq_false, f5, f6, f10, f11, f12, f13, f14, f43, f44, f45, g1, g2, hcx, eqE_key]
    refine AFnD.of (Len_spec hR) ?_
    simp (disch := omega) [-getElem?_pos, if_pos, if_neg, decide_eq_true, decide_eq_false, f5, f6, f10, f11, f12, f13, f14, f43, f44, f45, g1, g2, hcx]
    refine AFnD.from (List_spec hR) fun u H7 w7 ⟨S7, o7, k7, _⟩ => ⟨k7.grow w5, ?_⟩
    simp (disch := omega) [-getElem?_pos, if_pos, if_neg, decide_eq_true, decide_eq_false, ]
    refine AFnD.of (stands_spec (own_ents o7 k7 (by assumption) (by omega)).1 hL5) ?_
    simp (disch := omega) [-getElem?_pos, if_pos, if_neg, decide_eq_true, decide_eq_false, f5, f6, f43, f44, f45, IntWalk.i64_in]
    have hS7 := (hS5.kept w7 k7).1.plain
    rw [hMl5] at hS7
    exact ⟨hkn, by simp [f5], by simp [f43], by simp [f44], by simp, L', .slice ma5 L'.length mc5, by simp [f6], hS7, hL5, by omega⟩
  · obtain rfl : k = l.length := by omega
    simp (disch := omega) [-getElem?_pos, if_pos, if_neg, decide_eq_true, decide_eq_false, ir_law06_IheapPlays_l0, e44, e45]

theorem IheapPlays_abs {H : AH} {v av : Value} {L : List Ent} {l : List (Int × Ent)} (h : Rd H 4 v L.length (cellsE L)) (ha : Rd H 5 av l.length (cellsA l)) : AFn Try.prog F_law06_IheapPlays [v, av] H fun u H' => u = .bool true ∧ H' = H := by
  refine AFn.calm (fun H0 hs => ?_) rfl
  replace h := Rd.same h hs
  replace ha := Rd.same ha hs
  refine AFn.enter mixed ir_law06_IheapPlays_eq (by simp [ir_law06_IheapPlays]) fun hw => ?_
  have hv := h.vw (p := fun _ => True) hw fun _ _ => trivial
  have hav := ha.vw (p := fun _ => True) hw fun _ _ => trivial
  obtain ⟨mn, hmn⟩ : ∃ mn : Nat, mn = min L.length 40 := ⟨_, rfl⟩
  have hif : (if (40 : Int) < (L.length : Int) then (40 : Int) else (L.length : Int)) = (mn : Int) := by split <;> omega
  have ht : L.take 40 = L.take mn := by
    by_cases hc : 40 ≤ L.length
    · rw [show mn = 40 by omega]
    · rw [List.take_of_length_le (by omega), List.take_of_length_le (by omega)]
  have hAl : (L.take mn).length = mn := by rw [List.length_take]; omega
  obtain ⟨mn2, hmn2⟩ : ∃ mn2 : Nat, mn2 = min l.length 60 := ⟨_, rfl⟩
  have hif2 : (if (60 : Int) < (l.length : Int) then (60 : Int) else (l.length : Int)) = (mn2 : Int) := by split <;> omega
  have hal : (l.take mn2).length = mn2 := by rw [List.length_take]; omega
  have go := all_spec (m := 40) h (by omega)
  rw [ht] at go
  have hA3 : ∀ {b off cap : Nat}, v = .slice (some ⟨b, off, none⟩) L.length cap → L.length ≤ cap → Vw (fun _ => True) H0 4 (.slice (some ⟨b, off, none⟩) mn cap) (L.take mn).length (cellsE (L.take mn)) := fun {b off cap} e hc => by
    rw [e] at hv
    have := Vw.first hv (k := mn) (by omega) cap (by omega)
    rw [hAl, ← cellsE_take]
    exact this
  have hl3 : ∀ {b off cap : Nat}, av = .slice (some ⟨b, off, none⟩) l.length cap → l.length ≤ cap → Vw (fun _ => True) H0 5 (.slice (some ⟨b, off, none⟩) mn2 cap) (l.take mn2).length (cellsA (l.take mn2)) := fun {b off cap} e hc => by
    rw [e] at hav
    have := Vw.first hav (k := mn2) (by omega) cap (by omega)
    rw [hal, ← cellsA_take]
    exact this
  simp (disch := omega) [-getElem?_pos, if_pos, if_neg, decide_eq_true, decide_eq_false, ir_law06_IheapPlays]
  refine go.mono' fun u H1 w1 ⟨hA1, k1⟩ => ?_
  simp (disch := omega) [-getElem?_pos, if_pos, if_neg, decide_eq_true, decide_eq_false, ]
  refine (Build_spec hA1.1 (by omega)).mono' fun u H2 w2 ⟨q, S, hu, hB, k2, hq, hS⟩ => ?_
  subst hu
  have k02 := k1.trans' k2
  have hn1 := k1.next
  have hst := buildL_st (L.take mn)
  have hpm := buildL_perm (L.take mn)
  have hqS := hB.lt w2
  have hsrt := sortL_eq isOrd hpm
  have hbl := hpm.length_eq
  have start : ∀ {mv : Value} {H3 : AH}, WF H3 → Keep [] H2 H3 → EntsV (fun b => H2.next ≤ b) H3 mv (sortL Ent.lt (L.take mn)) → StH H0 H3 q (buildL (L.take mn)) mv (sortL Ent.lt (buildL (L.take mn))) := fun {mv H3} w3 k3 hm => by
    rw [hsrt]
    exact ⟨S, fun b => H2.next ≤ b ∧ b < H3.next, w3, k02.trans' k3, by omega, fun b hb => by have := hS b hb; omega, hB.kept w2 k3, ⟨Vw.below hm.1 w3, hm.2⟩, fun b ⟨hb1, hb2⟩ => ⟨by omega, fun hc => by have := hqS.2 b hc; omega, hb2⟩⟩
  clear hsrt hpm hqS
  generalize buildL (L.take mn) = G at *
  rcases h with ⟨rfl, hL, _⟩ | ⟨rfl, hL, _⟩ | ⟨b, off, cap, cs, rfl, q1, q2, q3⟩
  obtain rfl := List.length_eq_zero_iff.1 hL
  simp (disch := omega) [-getElem?_pos, if_pos, if_neg, decide_eq_true, decide_eq_false, ir_law06_IheapPlays_b0]
  refine wpC_use (plays_l1 w2 (A := List.take mn []) (sv := .slice none 0 0) (av := av) (q := q) (by rw [List.take_nil]; exact .nil) (by simp) ⟨by simp, by simp, by simp, by simp, by simp, w2, .refl, _, by simp, .nil⟩) ?_
  rotate_left
  obtain rfl := List.length_eq_zero_iff.1 hL
  simp (disch := omega) [-getElem?_pos, if_pos, if_neg, decide_eq_true, decide_eq_false, ir_law06_IheapPlays_b0]
  refine wpC_use (plays_l1 w2 (A := List.take mn []) (sv := .slice (some ⟨0, 0, none⟩) 0 0) (av := av) (q := q) (by rw [List.take_nil]; exact ⟨rfl, .inl ⟨rfl, _, _, rfl, fun h => by cases h⟩⟩) (by simp) ⟨by simp, by simp, by simp, by simp, by simp, w2, .refl, _, by simp, .nil⟩) ?_
  rotate_left
  simp (disch := omega) [-getElem?_pos, if_pos, if_neg, decide_eq_true, decide_eq_false, ir_law06_IheapPlays_b0, hif]
  refine wpC_use (plays_l1 w2 (sv := .slice (some ⟨b, off, none⟩) mn cap) (av := av) (q := q) ((hA3 rfl q1).kept hw k02) (by omega) ⟨by simp, by simp, by simp, by simp [hAl], by simp, w2, .refl, _, by simp, .nil⟩) ?_
  rotate_left
  all_goals
    rintro e env2 H3 ⟨he, e1, e5, w3, k3, mv, e6, hm⟩ _
    subst he
    simp (disch := omega) [-getElem?_pos, if_pos, if_neg, decide_eq_true, decide_eq_false, e1, e5, e6]
    refine AFn.pure wakes6_spec ?_
    have hst3 := start w3 k3 hm
    have hGl : G.length ≤ 40 + 0 := by omega
    rcases ha with ⟨rfl, hl, _⟩ | ⟨rfl, hl, _⟩ | ⟨b2, off2, cap2, cs2, rfl, r1, r2, r3⟩
    · obtain rfl := List.length_eq_zero_iff.1 hl
      simp (disch := omega) [-getElem?_pos, if_pos, if_neg, decide_eq_true, decide_eq_false, e1, e5, e6, ir_law06_IheapPlays_b2]
      refine wpC_use (plays_l0 hw (l := []) (sv := .slice none 0 0) (q := q) .nil (by simp) ⟨by simp [e5], by simp, by simp, by simp, G, mv, by simp [e6], hst3, hst, hGl⟩) fun e env3 H4 he _ => ?_
      subst he
      simp (disch := omega) [-getElem?_pos, if_pos, if_neg, decide_eq_true, decide_eq_false, ]
    · obtain rfl := List.length_eq_zero_iff.1 hl
      simp (disch := omega) [-getElem?_pos, if_pos, if_neg, decide_eq_true, decide_eq_false, e1, e5, e6, ir_law06_IheapPlays_b2]
      refine wpC_use (plays_l0 hw (l := []) (sv := .slice (some ⟨0, 0, none⟩) 0 0) (q := q) ⟨rfl, .inl ⟨rfl, _, _, rfl, fun h => by cases h⟩⟩ (by simp) ⟨by simp [e5], by simp, by simp, by simp, G, mv, by simp [e6], hst3, hst, hGl⟩) fun e env3 H4 he _ => ?_
      subst he
      simp (disch := omega) [-getElem?_pos, if_pos, if_neg, decide_eq_true, decide_eq_false, ]
    · simp (disch := omega) [-getElem?_pos, if_pos, if_neg, decide_eq_true, decide_eq_false, e1, e5, e6, ir_law06_IheapPlays_b2, hif2]
      refine wpC_use (plays_l0 hw (sv := .slice (some ⟨b2, off2, none⟩) mn2 cap2) (q := q) (hl3 rfl r1) (by omega) ⟨by simp [e5], by simp, by simp [hal], by simp, G, mv, by simp [e6], hst3, hst, hGl⟩) fun e env3 H4 he _ => ?_
      subst he
      simp (disch := omega) [-getElem?_pos, if_pos, if_neg, decide_eq_true, decide_eq_false, ]
end Go.Proofs.Ytjcncbejnplakaa
