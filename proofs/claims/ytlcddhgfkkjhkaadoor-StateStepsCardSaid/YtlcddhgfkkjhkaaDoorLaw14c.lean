/-
  Layer 14: StateReplays.
-/
import Derived.Test.YtlcddhgfkkjhkaaDoorLaw14b
import Derived.Test.YtlcddhgfkkjhkaaDoorClipT
set_option maxRecDepth 100000
set_option linter.unusedSimpArgs false
set_option linter.unusedVariables false
namespace Go.Proofs.YtlcddhgfkkjhkaaDoor
open Go Go.Abs
def SrI (H0 : AH) (q1 q2 q3 : Nat) (k : Nat) (env : Env) (H' : AH) : Prop :=
  env 14 = some (.pointer (some ⟨q1, 0, none⟩)) ∧ env 15 = some (.pointer (some ⟨q2, 0, none⟩)) ∧ env 75 = some (.slice (some ⟨q3, 0, none⟩) 2 2) ∧ env 76 = some (.int .i64 2) ∧ env 77 = some (.int .i64 k) ∧ WF H' ∧ Keep [] H0 H'
theorem answer_len (x : InstD) (s : StD) : (x.answer s).length ≤ s.path.length + 1 := by
  unfold InstD.answer
  split
  · split
    · omega
    · split
      · rw [List.length_cons]; omega
      · rw [List.length_map]
        have := List.length_filter_le (fun k => s.path.getD k 0 == 1) (List.range s.path.length)
        rw [List.length_range] at this
        omega
  · rw [List.length_nil]; omega
theorem replays_l0 {H0 : AH} {q1 q2 q3 : Nat} {y : InstD} {ia ca sa ib cb sb p0 p1 : Value} {P0 P1 : List Int} (hg : GroundA G H0) (hw : WF H0) (hok : y.Ok)
    (c1 : H0.cells q1 = some [.int .i64 y.kind, .int .i64 y.cap, ia, ca, .int .i64 y.size, sa]) (c2 : H0.cells q2 = some [.int .i64 y.kind, .int .i64 y.cap, ib, cb, .int .i64 y.size, sb]) (c3 : H0.cells q3 = some [p0, p1])
    (hxa : InstV (fun b => b < H0.next) H0 (.agg #[.int .i64 y.kind, .int .i64 y.cap, ia, ca, .int .i64 y.size, sa]) y) (hxb : InstV (fun b => b < H0.next) H0 (.agg #[.int .i64 y.kind, .int .i64 y.cap, ib, cb, .int .i64 y.size, sb]) y)
    (hp0 : SlV (fun b => b < H0.next) H0 p0 P0) (hp1 : SlV (fun b => b < H0.next) H0 p1 P1) (hl0 : P0.length ≤ 20) (hl1 : P1.length ≤ 20) {env : Env} (h : SrI H0 q1 q2 q3 0 env H0) :
    wpC Tryd.prog 160 (.loop ir_law14_StateReplays_l0) (fun e env H' => e = .exit 0 ∧ WF H' ∧ Keep [] H0 H') env H0 := by
  have hc0 := InstD.check_ok.2 hok
  refine loop_upto 2 (SrI H0 q1 q2 q3) (Q := fun e env H' => e = .exit 0 ∧ WF H' ∧ Keep [] H0 H') h ?_
  rintro k env H' hk ⟨e14, e15, e75, e76, e77, w', k'⟩
  by_cases hkn : k < 2
  · obtain ⟨pv, P, hpk, hpv, hPl⟩ : ∃ pv P, ([p0, p1] : List Value)[k]? = some pv ∧ SlV (fun b => b < H0.next) H0 pv P ∧ P.length ≤ 20 := by
      have : k = 0 ∨ k = 1 := by omega
      rcases this with rfl | rfl
      · exact ⟨p0, P0, rfl, hp0, hl0⟩
      · exact ⟨p1, P1, rfl, hp1, hl1⟩
    have hpc := hpv.cell
    have n' := k'.next
    have b3 := cells_kept hw k' c3
    have b1 := cells_kept hw k' c1
    have hxa1 : InstV (fun b => b < H'.next) H' (.agg #[.int .i64 y.kind, .int .i64 y.cap, ia, ca, .int .i64 y.size, sa]) y := hxa.up (fun b hb => by omega) (.kept hw k')
    have hP1 : SlV (fun b => b < H'.next) H' pv P := (hpv.kept hw k').mono fun b hb => by omega
    have hrp := Replay_spec (hg.kept hw k') hxa1 hP1 (by omega)
    rw [hc0] at hrp
    simp only [if_true] at hrp
    clear hc0
    simp (disch := omega) [-getElem?_pos, if_pos, if_neg, decide_eq_true, decide_eq_false, ir_law14_StateReplays_l0, e14, e75, e76, e77, b3, b1, hpk, hkn, hpc.1, hpc.2, cut6', IntWalk.i64_in]
    refine hrp.mono' fun u H2 w2 ⟨sv, hu, hs2, k2⟩ => ?_
    subst hu
    have hrt : ∀ t j, y.replay P = (t, j, true) → StOk y t ∧ t.path = P := fun t j h => by
      obtain ⟨h1, h2⟩ := replayF_ok hok (start_ok hok) (show y.replayF y.start 0 P = (t, j, true) from h)
      exact ⟨h1, by rw [h2]; rfl⟩
    have n2 := k2.next
    have hxb2 : InstV (fun b => b < H2.next) H2 (.agg #[.int .i64 y.kind, .int .i64 y.cap, ib, cb, .int .i64 y.size, sb]) y := (hxb.kept hw k').up (fun b hb => by omega) (.kept w' k2)
    have hP2 : SlV (fun b => b < H2.next) H2 pv P := (hP1.kept w' k2).mono fun b hb => by omega
    have b22 := cells_kept w' k2 (cells_kept hw k' c2)
    have b12 := cells_kept w' k2 b1
    have hxa2 := hxa1.up (q := fun b => b < H2.next) (fun b hb => by omega) (.kept w' k2)
    obtain ⟨pw, uw, rfl, s1, s2⟩ := id hs2
    have hsc := s1.cell
    have huc := SetB_cell s2
    have q2n := cells_lt w2 b22
    have q1n := cells_lt w2 b12
    generalize hr : y.replay P = r at *
    obtain ⟨s, j, ok⟩ := r
    dsimp only at s1 s2 hs2 hsc huc ⊢
    generalize hqs : H2.next = qs at *
    simp (disch := omega) [-getElem?_pos, if_pos, if_neg, decide_eq_true, decide_eq_false, e15, b22, hsc.1, hsc.2, huc.1, huc.2, hpc.1, hpc.2, writeA, over, cut6', hqs]
    generalize hH3 : AH.set (AH.alloc H2 _) _ _ = H3
    have k3 : Keep [] H2 H3 := by rw [← hH3]; exact .new_set (by omega) .alloc
    have w3 : WF H3 := by rw [← hH3]; exact WF.set w2.alloc (by simp [hqs])
    have n3 : H3.next = qs + 1 := by rw [← hH3]; simp [hqs]
    have d3 : H3.cells qs = some [pw, .int .i64 s.cost, .int .i64 s.left, .int .i64 s.pos, .int .i64 s.used.length, uw] := by rw [← hH3]; simp
    clear hH3
    have hrr := RReplay_spec (x := y) (P := P) (hxb2.up (q := fun b => b < H3.next) (fun b hb => by omega) (.kept w2 k3)) hok ((hP2.kept w2 k3).mono fun b hb => by omega) (by omega)
    rw [hr] at hrr
    refine hrr.mono' fun u H4 w4 ⟨rv, hu, hs4, k4⟩ => ?_
    subst hu
    dsimp only at hs4
    obtain ⟨pr, br, rfl, t1, t2⟩ := id hs4
    have n4 := k4.next
    have htc := t1.cell
    have hbc := t2.cell
    generalize hqr : H4.next = qr at *
    have hu8 := s2
    have hju : (j : Int) = j := rfl
    cases ok with
    | false =>
      simp (disch := omega) [-getElem?_pos, if_pos, if_neg, decide_eq_true, decide_eq_false, e77, htc.1, htc.2, hbc.1, hbc.2, writeA, over, hqr, IntWalk.i64_in]
      generalize hH5 : AH.set (AH.alloc H4 _) _ _ = H5
      have k5 : Keep [] H4 H5 := by rw [← hH5]; exact .new_set (by omega) .alloc
      have w5 : WF H5 := by rw [← hH5]; exact WF.set w4.alloc (by simp [hqr])
      exact ⟨hkn, by simp [e14], by simp [e15], by simp [e75], by simp [e76], by simp, w5, k'.trans' (k2.trans' (k3.trans' (k4.trans' k5)))⟩
    | true =>
      obtain ⟨hso, hpath⟩ := hrt s j rfl
      have hspl : s.path.length ≤ 20 := by rw [hpath]; exact hPl
      simp (disch := omega) [-getElem?_pos, if_pos, if_neg, decide_eq_true, decide_eq_false, htc.1, htc.2, hbc.1, hbc.2, writeA, over, hqr, cut6']
      generalize hH5 : AH.set (AH.alloc H4 _) _ _ = H5
      have k5 : Keep [] H4 H5 := by rw [← hH5]; exact .new_set (by omega) .alloc
      have w5 : WF H5 := by rw [← hH5]; exact WF.set w4.alloc (by simp [hqr])
      have n5 : H5.next = qr + 1 := by rw [← hH5]; simp [hqr]
      have d5 : H5.cells qr = some [pr, .int .i64 s.cost, .int .i64 s.left, .int .i64 s.pos, br] := by rw [← hH5]; simp
      clear hH5
      have k25 := k3.trans' (k4.trans' k5)
      have d35 := cells_kept w3 (k4.trans' k5) d3
      have b15 := cells_kept w2 k25 b12
      have b25 := cells_kept w2 k25 b22
      have hs5 := hs2.up (q := fun b => b < H5.next) (fun b hb => by omega) (.kept w2 k25)
      have ht5 := hs4.up (q := fun b => b < H5.next) (fun b hb => by omega) (.kept w4 k5)
      have hxa5 := hxa2.up (q := fun b => b < H5.next) (fun b hb => by omega) (.kept w2 k25)
      have hxb5 := hxb2.up (q := fun b => b < H5.next) (fun b hb => by omega) (.kept w2 k25)
      have k05 := k'.trans' (k2.trans' k25)
      have d34 := cells_kept w3 k4 d3
      have b14 := cells_kept w2 (k3.trans' k4) b12
      simp (disch := omega) [-getElem?_pos, if_pos, if_neg, decide_eq_true, decide_eq_false, e14, d34, d35, b14, b15, hsc.1, hsc.2, huc.1, huc.2, cut6']
      refine (Answer_spec hs5 hxa5 (by omega)).mono' fun u H6 w6 ⟨av, hu, SA, hA, kA, hSA⟩ => ?_
      subst hu
      have nA := kA.next
      have d56 := cells_kept w5 kA d5
      have b26 := cells_kept w5 kA b25
      simp (disch := omega) [-getElem?_pos, if_pos, if_neg, decide_eq_true, decide_eq_false, e15, d56, b26, htc.1, htc.2, hbc.1, hbc.2, cut6', cut5']
      refine (RAnswer_spec (ht5.up (q := fun b => b < H6.next) (fun b hb => by omega) (.kept w5 kA)) (hxb5.up (q := fun b => b < H6.next) (fun b hb => by omega) (.kept w5 kA)) (by omega)).mono' fun u H7 w7 ⟨zv, hu, SZ, hZ, kZ, hSZ⟩ => ?_
      subst hu
      have k57 := kA.trans' kZ
      have d57 := cells_kept w5 k57 d5
      have d37 := cells_kept w5 k57 d35
      have hac := hA.cell
      have hzc := hZ.cell
      simp (disch := omega) [-getElem?_pos, if_pos, if_neg, decide_eq_true, decide_eq_false, d57, d37, hac.1, hac.2, hzc.1, hzc.2, cut6', cut5']
      refine AFnD.of (same14_spec (hs5.kept w5 k57).any (ht5.kept w5 k57).any) ?_
      have b17 := cells_kept w5 k57 b15
      have b27 := cells_kept w5 k57 b25
      simp (disch := omega) [-getElem?_pos, if_pos, if_neg, decide_eq_true, decide_eq_false, e14, e15, d57, d37, b17, b27, cut6', cut5']
      have hg7 := hg.kept hw (k05.trans' k57)
      refine AFnD.from (Moves_spec hg7 (hs5.kept w5 k57).any (hxa5.kept w5 k57).any hok hso) fun u8 H8 w8 ⟨S8, hM8, k8, hS8⟩ => ⟨k8.grow w7, ?_⟩
      simp (disch := omega) [-getElem?_pos, if_pos, if_neg, decide_eq_true, decide_eq_false, ]
      have k58 := k57.trans' k8
      refine AFnD.from (RMoves_spec (ht5.kept w5 k58).any (hxb5.kept w5 k58).any hok hso) fun u9 H9 w9 ⟨S9, hM9, k9, hS9⟩ => ⟨k9.grow w8, ?_⟩
      simp (disch := omega) [-getElem?_pos, if_pos, if_neg, decide_eq_true, decide_eq_false, ]
      have hlm : (y.moves s).length ≤ 5000 := by
        have := moves_len (x := y) (s := s)
        have := hso.used
        have := slots_le hok
        omega
      refine AFnD.of (equal13_spec ((hM8.slv (q := fun _ => True) (fun _ h => h.elim) (fun _ _ => trivial) (by omega)).kept w8 k9) (hM9.slv (q := fun _ => True) (fun _ h => h.elim) (fun _ _ => trivial) (by omega))) ?_
      have k59 := k58.trans' k9
      have d39 := cells_kept w5 k59 d35
      have b19 := cells_kept w5 k59 b15
      simp (disch := omega) [-getElem?_pos, if_pos, if_neg, decide_eq_true, decide_eq_false, e14, d39, b19, cut6']
      refine AFnD.of (Done_spec (hs5.kept w5 k59).any (hxa5.kept w5 k59).any) ?_
      simp (disch := omega) [-getElem?_pos, if_pos, if_neg, decide_eq_true, decide_eq_false, ]
      have hal := answer_len y s
      have k79 := k8.trans' k9
      refine AFnD.of (equal13_spec ((hA.slv (q := fun _ => True) (fun _ h => h.elim) (fun _ _ => trivial) (by omega)).kept w6 (kZ.trans' k79)) ((hZ.slv (q := fun _ => True) (fun _ h => h.elim) (fun _ _ => trivial) (by omega)).kept w7 k79)) ?_
      simp (disch := omega) [-getElem?_pos, if_pos, if_neg, decide_eq_true, decide_eq_false, e77, IntWalk.i64_in]
      exact ⟨hkn, by simp [e14], by simp [e15], by simp [e75], by simp [e76], by simp, w9, k05.trans' k59⟩
  · obtain rfl : k = 2 := by omega
    simp (disch := omega) [-getElem?_pos, if_pos, if_neg, decide_eq_true, decide_eq_false, ir_law14_StateReplays_l0, e76, e77]
    exact ⟨w', k'⟩
theorem StateReplays_abs {H : AH} {v pv kv : Value} {x : InstD} {P K : List Int} (hg : GroundA G H) (hx : InstV (fun b => b < H.next) H v x) (hP : SlV (fun b => b < H.next) H pv P) (hK : SlV (fun b => b < H.next) H kv K) : AFn Tryd.prog F_law14_StateReplays [v, pv, kv] H fun u H' => u = .bool true ∧ H' = H := by
  refine AFn.calm (fun H0 hs => ?_) rfl
  have hn0 : H0.next = H.next := hs.1
  have hg0 := hg.of (H' := H0) hs.2
  have hx0 := (hx.same hs).up (q := fun b => b < H0.next) (fun b hb => by omega) .refl
  have hP0 := (hP.same hs).mono (q := fun b => b < H0.next) (fun b hb => by omega)
  have hK0 := (hK.same hs).mono (q := fun b => b < H0.next) (fun b hb => by omega)
  clear hx hP hK hg
  obtain ⟨iv, cv, sv, rfl, i1, i2, i3, h1, h2, h3⟩ := id hx0
  refine AFn.enter mixed ir_law14_StateReplays_eq (by simp [ir_law14_StateReplays]) fun hw => ?_
  simp (disch := omega) [-getElem?_pos, if_pos, if_neg, decide_eq_true, decide_eq_false, ir_law14_StateReplays, cut6']
  generalize hH1 : AH.alloc H0 _ = H1
  have k1 : Keep [] H0 H1 := by rw [← hH1]; exact .alloc
  have w1 : WF H1 := by rw [← hH1]; exact hw.alloc
  have n1 : H1.next = H0.next + 1 := by rw [← hH1]; simp
  have c1 : H1.cells H0.next = some [.int .i64 x.kind, .int .i64 x.cap, iv, cv, .int .i64 x.size, sv] := by rw [← hH1]; simp
  clear hH1
  have hx1 := (hx0.kept hw k1).up (q := fun b => b < H1.next) (fun b hb => by omega) .refl
  refine (insts_spec hx1).mono' fun u H2 w2 ⟨a, b, hu, ha, hb, k2⟩ => ?_
  subst hu
  generalize clipI x = z at *
  have n2 := k2.next
  obtain ⟨ia, ca, sa, rfl, _⟩ := id ha
  obtain ⟨ib, cb, sb, rfl, _⟩ := id hb
  simp (disch := omega) [-getElem?_pos, if_pos, if_neg, decide_eq_true, decide_eq_false, writeA, over, cut6']
  generalize hH3 : AH.set (AH.set _ _ _) _ _ = H3
  have k3 : Keep [] H2 H3 := by rw [← hH3]; exact .new_set (by omega) (.new_set (by omega) (.new_alloc .alloc))
  have w3 : WF H3 := by rw [← hH3]; refine WF.set (WF.set (WF.alloc (WF.alloc w2)) ?_) ?_ <;> simp <;> omega
  have d7 : H3.cells H2.next = some [.int .i64 z.kind, .int .i64 z.cap, ia, ca, .int .i64 z.size, sa] := by rw [← hH3]; simp
  have d8 : H3.cells (H2.next + 1) = some [.int .i64 z.kind, .int .i64 z.cap, ib, cb, .int .i64 z.size, sb] := by rw [← hH3]; simp
  have n3 : H3.next = H2.next + 2 := by rw [← hH3]; simp
  clear hH3
  have ha3 := ha.up (q := fun b => b < H3.next) (fun b hb => by have := hb.2; omega) (.kept w2 k3)
  have hb3 := hb.up (q := fun b => b < H3.next) (fun b hb => by have := hb.2; omega) (.kept w2 k3)
  have hc3 := Check9_spec hb3
  have k13 := k2.trans' k3
  refine AFn.pure hc3 ?_
  by_cases hz : z.check = 0
  case' pos =>
    have hzT := eq_true hz
    have c13 := cells_kept w1 k13 c1
    simp (disch := omega) [-getElem?_pos, if_pos, if_neg, decide_eq_true, decide_eq_false, hzT, c13, cut6']
    obtain ⟨H6, hH6⟩ : ∃ H6, H6 = H3 := ⟨_, rfl⟩
    have w6 : WF H6 := by rw [hH6]; exact w3
    have k16 : Keep [] H1 H6 := by rw [hH6]; exact k13
    rw [← hH6]
    clear hH6
  case' neg =>
    have hzF := eq_false hz
    have hpc := hP0.cell
    have hrp := Replay_spec (x := z) (P := P) (hg0.kept hw (k1.trans' k13)) ha3 ((hP0.kept hw (k1.trans' k13)).mono fun b hb => by omega) (fun h => absurd h hz)
    simp only [if_neg hz] at hrp
    have d8' := d8
    simp (disch := omega) [-getElem?_pos, if_pos, if_neg, decide_eq_true, decide_eq_false, hzF, d7, cut6']
    refine hrp.mono' fun u H4 w4 ⟨tv, hu, ht4, k4⟩ => ?_
    subst hu
    have n4 := k4.next
    obtain ⟨pw, uw, rfl, s1, s2⟩ := id ht4
    have hsc := s1.cell
    have huc := SetB_cell s2
    have d74 := cells_kept w3 k4 d7
    simp (disch := omega) [-getElem?_pos, if_pos, if_neg, decide_eq_true, decide_eq_false, d74, hsc.1, hsc.2, huc.1, huc.2, hpc.1, hpc.2, writeA, over, cut6']
    generalize hH5 : AH.alloc H4 _ = H5
    have k5 : Keep [] H4 H5 := by rw [← hH5]; exact .alloc
    have w5 : WF H5 := by rw [← hH5]; exact w4.alloc
    clear hH5
    have k35 := k4.trans' k5
    refine (Start_spec (ha3.kept w3 k35)).mono' fun u H5b w5b ⟨tv2, hu, ht5, k5b⟩ => ?_
    subst hu
    rw [if_neg hz] at ht5
    obtain ⟨pw2, uw2, rfl, s12, s22⟩ := id ht5
    have hsc2 := s12.cell
    have huc2 := SetB_cell s22
    have d85 := cells_kept w3 (k35.trans' k5b) d8
    have hq2 : H2.next + 1 ≠ H5b.next := by have := cells_lt w5b d85; omega
    simp (disch := omega) [-getElem?_pos, if_pos, if_neg, decide_eq_true, decide_eq_false, d85, hq2, hsc2.1, hsc2.2, huc2.1, huc2.2, writeA, over, cut6']
    generalize hH6 : AH.alloc H5b _ = H6
    have k6 : Keep [] H5b H6 := by rw [← hH6]; exact .alloc
    have w6 : WF H6 := by rw [← hH6]; exact w5b.alloc
    have k36 := (k35.trans' k5b).trans' k6
    have k16 : Keep [] H1 H6 := k13.trans' k36
    clear hH6
    have c16 := cells_kept w1 k16 c1
    refine AFn.pure (Check9_spec (hb3.kept w3 k36)) ?_
    simp (disch := omega) [-getElem?_pos, if_pos, if_neg, decide_eq_true, decide_eq_false, c16, cut6']
  all_goals
    have n6 := k16.next
    have hx6 := hx1.up (q := fun b => b < H6.next) (fun b hb => by omega) (.kept w1 k16)
    refine (show AFn _ _ [_, .int .i64 ((8 : Nat) : Int)] _ _ from (tame_spec (m := 8) (by omega) (by omega) hx6)).mono' fun u H7 w7 ⟨y, hy, ht, k7⟩ => ?_
    have n7 := k7.next
    have hy7 : InstV (fun b => b < H7.next) H7 u y := hy.up (fun b hb => hb.2) .refl
    simp (disch := omega) [-getElem?_pos, if_pos, if_neg, decide_eq_true, decide_eq_false, ]
    refine (insts_spec hy7).mono' fun u3 H8 w8 ⟨a, b, hu, ha', hb', k8⟩ => ?_
    rw [clip_tame (by omega) ht] at ha' hb'
    subst hu
    have n8 := k8.next
    obtain ⟨ia', ca', sa', rfl, _⟩ := id ha'
    obtain ⟨ib', cb', sb', rfl, _⟩ := id hb'
    simp (disch := omega) [-getElem?_pos, if_pos, if_neg, decide_eq_true, decide_eq_false, writeA, over, cut6']
    generalize hH9 : AH.set (AH.set _ _ _) _ _ = H9
    have k9 : Keep [] H8 H9 := by rw [← hH9]; exact .new_set (by omega) (.new_set (by omega) (.new_alloc .alloc))
    have w9 : WF H9 := by rw [← hH9]; refine WF.set (WF.set (WF.alloc (WF.alloc w8)) ?_) ?_ <;> simp <;> omega
    have e7 : H9.cells H8.next = some [.int .i64 y.kind, .int .i64 y.cap, ia', ca', .int .i64 y.size, sa'] := by rw [← hH9]; simp
    have e8 : H9.cells (H8.next + 1) = some [.int .i64 y.kind, .int .i64 y.cap, ib', cb', .int .i64 y.size, sb'] := by rw [← hH9]; simp
    have n9 : H9.next = H8.next + 2 := by rw [← hH9]; simp
    clear hH9
    have k19 := k16.trans' (k7.trans' (k8.trans' k9))
    have k09 := k1.trans' k19
    have hP9 := (hP0.kept hw k09).mono (q := fun b => b < H9.next) (fun b hb => by omega)
    have hK9 := (hK0.kept hw k09).mono (q := fun b => b < H9.next) (fun b hb => by omega)
    have ha9 := ha'.up (q := fun b => b < H9.next) (fun b hb => by have := hb.2; omega) (.kept w8 k9)
    have hb9 := hb'.up (q := fun b => b < H9.next) (fun b hb => by have := hb.2; omega) (.kept w8 k9)
    obtain ⟨w, hsl, hw20⟩ := hP9.sl (m := min P.length 20) (by omega)
    have hl20 : (P.take (min P.length 20)).length ≤ 20 := by rw [List.length_take]; omega
    simp only [sz_int] at hsl
    generalize P.take (min P.length 20) = P2 at *
    have m20 := min20 (n := P.length)
    obtain ⟨pa, pc, rfl⟩ := hP0.slice
    simp (disch := omega) [-getElem?_pos, if_pos, if_neg, decide_eq_true, decide_eq_false, m20, ↓ieval_slhi, hsl, e8, cut6']
    refine AFnD.from (way_spec hb9 ht.ok hK9) fun u H10 w10 ⟨W, ⟨S, hW, k10, hS⟩, hWl⟩ => ⟨k10.grow w9, ?_⟩
    have hwc := hw20.cell
    have hWc := hW.cell
    simp (disch := omega) [-getElem?_pos, if_pos, if_neg, decide_eq_true, decide_eq_false, hwc.1, hwc.2, hWc.1, hWc.2]
    have n10 := k10.next
    generalize hH11 : AH.alloc H10 _ = H11
    have k11 : Keep [] H10 H11 := by rw [← hH11]; exact .alloc
    have w11 : WF H11 := by rw [← hH11]; exact w10.alloc
    have e9 : H11.cells H10.next = some [w, u] := by rw [← hH11]; simp
    have n11 : H11.next = H10.next + 1 := by rw [← hH11]; simp
    clear hH11
    have kx := k10.trans' k11
    refine wpC_use (replays_l0 (hg0.kept hw (k09.trans' kx)) w11 ht.ok (cells_kept w9 kx e7) (cells_kept w9 kx e8) e9 (ha9.up (fun b hb => by omega) (.kept w9 kx)) (hb9.up (fun b hb => by omega) (.kept w9 kx)) ((hw20.kept w9 kx).mono fun b hb => by omega) ((hW.slv (q := fun b => b < H10.next) (fun _ h => h.elim) (fun b hb => hW.lt w10 b hb) (by omega)).up (fun b hb => by omega) (.kept w10 k11)) hl20 hWl ⟨by simp, by simp, by simp, by simp, by simp, w11, .refl⟩) ?_
    rintro e env2 H12 ⟨rfl, w12, k12⟩ hu
    simp (disch := omega) [-getElem?_pos, if_pos, if_neg, decide_eq_true, decide_eq_false, ]
    refine AFn.pure (wakes14_spec (hg0.kept hw (k09.trans' (kx.trans' k12)))) ?_
    simp (disch := omega) [-getElem?_pos, if_pos, if_neg, decide_eq_true, decide_eq_false, ]
end Go.Proofs.YtlcddhgfkkjhkaaDoor
