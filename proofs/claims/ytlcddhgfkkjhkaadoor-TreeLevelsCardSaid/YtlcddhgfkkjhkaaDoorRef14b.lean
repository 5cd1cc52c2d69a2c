/-
  The document's state (2): Replay.
-/
import Derived.Test.YtlcddhgfkkjhkaaDoorRef14a
import Derived.Test.YtlcddhgfkkjhkaaDoorAB
set_option maxRecDepth 100000
set_option linter.unusedSimpArgs false
set_option linter.unusedVariables false
namespace Go.Abs
open Go
theorem setT_nat {B : List Bool} {Z : Nat} (h : Z < B.length) : setT B (Z : Int) = B.set Z true := by
  unfold setT
  rw [if_pos ⟨by omega, by omega⟩]; rfl
theorem AH.set_swap {H : AH} {a b : Nat} {A B : Blk} (h : a ≠ b) : (H.set a A).set b B = (H.set b B).set a A := by
  simp only [AH.set, AH.mk.injEq, and_true]
  funext i
  by_cases hi : i = a
  · subst hi; simp [h]
  · simp [hi]
theorem AH.set_over3 {H : AH} {l r : Nat} {X Y Z : Blk} : ((H.set l X).set r Y).set l Z = (H.set r Y).set l Z := by
  simp only [AH.set]
  congr 1
  funext i
  by_cases h1 : i = l
  · simp [h1]
  · simp [h1]
def bCs (B : List Bool) : List Value := B.map .bool
theorem bCs_len {B : List Bool} : (bCs B).length = B.length := by simp [bCs]
theorem bCs_set {B : List Bool} {i : Nat} (h : i < B.length) : over (bCs B) i [.bool true] = bCs (B.set i true) := by
  rw [over_one (by rw [bCs_len]; exact h)]
  simp [bCs, List.map_set]
theorem bCs_tk {B : List Bool} {i : Nat} (h : i < B.length) : (bCs B).take i ++ .bool true :: (bCs B).drop (i + 1) = bCs (B.set i true) := by
  rw [← bCs_set h]; simp [over]
theorem bCs_rep (n : Nat) : zeros [.bool false] n = bCs (List.replicate n false) := by
  induction n with
  | zero => rfl
  | succ n ih => rw [zeros, ih, List.replicate_succ]; rfl
theorem SlV.bools {H : AH} {q : Nat} {X : List Bool} (h : H.cells q = some (bCs X)) (hl : X.length ≤ 9223372036854775807) : SlV (fun b => b = q) H (.slice (some ⟨q, 0, none⟩) X.length X.length) X := by
  have hc : cut (bCs X) 0 (X.length * 1) = some (bCs X) := by rw [cut_eq (by rw [bCs_len]; omega), List.drop_zero, List.take_of_length_le (by rw [bCs_len]; omega)]
  refine ⟨⟨hl, .of (.inl rfl)⟩, bCs X, ⟨by rw [bCs_len]; simp, .inr ⟨q, 0, none, X.length, _, rfl, Nat.le_refl _, .inl rfl, h, hc, rfl⟩⟩, fun i hi => ?_⟩
  show chunk 1 i (bCs X) = [.bool X[i]]
  apply List.ext_getElem?
  intro j
  simp only [chunk, Nat.mul_one]
  by_cases hj : j = 0
  · subst hj
    rw [List.getElem?_take_of_lt (by omega), List.getElem?_drop, Nat.add_zero]
    simp [bCs, hi]
  · rw [List.getElem?_eq_none (by simp; omega), List.getElem?_eq_none (by simp; omega)]
end Go.Abs
namespace Go.Proofs.YtlcddhgfkkjhkaaDoor
open Go Go.Abs
def Rl1I (H : AH) (mv pv : Value) (q q4 q7 : Nat) (M : List Int) (d : Int) (kk : Nat) (j : Nat) (env : Env) (H' : AH) : Prop :=
  H' = H ∧ env 1 = some pv ∧ env 2 = some (.pointer (some ⟨q, 0, none⟩)) ∧ env 4 = some (.pointer (some ⟨q4, 0, none⟩)) ∧ env 7 = some (.pointer (some ⟨q7, 0, none⟩)) ∧ env 8 = some (.int .i64 kk) ∧ env 9 = some mv ∧ env 11 = some (.int .i64 j) ∧ env 10 = some (.bool (decide (d ∈ M.take j)))
def Rl1Q (H : AH) (pv : Value) (q q4 q7 : Nat) (M : List Int) (d : Int) (kk : Nat) (e : AExit) (env : Env) (H' : AH) : Prop :=
  H' = H ∧ e = .exit 2 ∧ env 1 = some pv ∧ env 2 = some (.pointer (some ⟨q, 0, none⟩)) ∧ env 4 = some (.pointer (some ⟨q4, 0, none⟩)) ∧ env 7 = some (.pointer (some ⟨q7, 0, none⟩)) ∧ env 8 = some (.int .i64 kk) ∧ env 10 = some (.bool (decide (d ∈ M)))
theorem rreplay_l1 {p p' : Nat → Prop} {H : AH} {mv pv : Value} {q q4 q7 : Nat} {M P : List Int} {kk : Nat} (hM : SlV p H mv M) (hP : SlV p' H pv P) (hk : kk < P.length) {env : Env} (h : Rl1I H mv pv q q4 q7 M P[kk] kk 0 env H) : wpC Tryd.prog 187 (.loop ir_ref14_Replay_l1) (Rl1Q H pv q q4 q7 M P[kk] kk) env H := by
  refine loop_upto M.length (Rl1I H mv pv q q4 q7 M P[kk] kk) (Q := Rl1Q H pv q q4 q7 M P[kk] kk) h ?_
  have hMm := hM.max
  have hPm := hP.max
  obtain ⟨ma, mc, rfl⟩ := hM.slice
  obtain ⟨b0, off, sp, cap, cs, hcv, q1, q2⟩ := ints_rd hP (by omega)
  obtain ⟨q3, _⟩ := q2 kk hk
  subst hcv
  generalize P[kk] = d at *
  rintro j env H' hj ⟨rfl, e1, e2, e4, e7, e8, e9, e11, e10⟩
  by_cases hjn : j < M.length
  · obtain ⟨b1, off1, sp1, cap1, cs1, hcv1, r1, r2⟩ := ints_rd hM (by omega)
    obtain ⟨r3, _⟩ := r2 j hjn
    cases hcv1
    have ht : M.take (j + 1) = M.take j ++ [M[j]] := List.take_succ_eq_append_getElem hjn
    have hmt : d ∈ M.take (j + 1) ↔ d ∈ M.take j ∨ M[j] = d := by rw [ht, List.mem_append, List.mem_singleton]; constructor <;> rintro (h | h) <;> first | exact .inl h | exact .inr h.symm
    generalize M[j] = m at *
    by_cases hd : d ∈ M.take j
    · rw [decide_eq_true hd] at e10
      have hn : decide (d ∈ M.take (j + 1)) = true := decide_eq_true (hmt.2 (.inl hd))
      simp (disch := omega) [-getElem?_pos, if_pos, if_neg, decide_eq_true, decide_eq_false, ir_ref14_Replay_l1, e1, e2, e4, e7, e8, e9, e10, e11, hjn, IntWalk.i64_in]
      exact ⟨rfl, by simp [e1], by simp [e2], by simp [e4], by simp [e7], by simp [e8], by simp [e9], by simp, by rw [hn]; simp⟩
    · rw [decide_eq_false hd] at e10
      by_cases hmd : m = d
      · have hn : decide (d ∈ M.take (j + 1)) = true := decide_eq_true (hmt.2 (.inr hmd))
        have hmT := eq_true hmd
        simp (disch := omega) [-getElem?_pos, if_pos, if_neg, decide_eq_true, decide_eq_false, ir_ref14_Replay_l1, e1, e2, e4, e7, e8, e9, e10, e11, q1, q3, r1, r3, hk, hjn, hmT, IntWalk.i64_in]
        exact ⟨rfl, by simp [e1], by simp [e2], by simp [e4], by simp [e7], by simp [e8], by simp [e9], by simp, by rw [hn]; simp⟩
      · have hn : decide (d ∈ M.take (j + 1)) = false := decide_eq_false fun h => by rcases hmt.1 h with h | h; exact hd h; exact hmd h
        have hmF := eq_false hmd
        simp (disch := omega) [-getElem?_pos, if_pos, if_neg, decide_eq_true, decide_eq_false, ir_ref14_Replay_l1, e1, e2, e4, e7, e8, e9, e10, e11, q1, q3, r1, r3, hk, hjn, hmF, IntWalk.i64_in]
        exact ⟨rfl, by simp [e1], by simp [e2], by simp [e4], by simp [e7], by simp [e8], by simp [e9], by simp, by rw [hn]; simp⟩
  · obtain rfl : j = M.length := by omega
    rw [List.take_length] at e10
    simp (disch := omega) [-getElem?_pos, if_pos, if_neg, decide_eq_true, decide_eq_false, ir_ref14_Replay_l1, e9, e11]
    exact ⟨rfl, rfl, e1, e2, e4, e7, e8, e10⟩
def Rl0I (H : AH) (pv : Value) (q q4 q7 ub kk : Nat) (U : List Bool) (E : List Int) (k : Nat) (env : Env) (H' : AH) : Prop :=
  env 1 = some pv ∧ env 2 = some (.pointer (some ⟨q, 0, none⟩)) ∧ env 4 = some (.pointer (some ⟨q4, 0, none⟩)) ∧ env 7 = some (.pointer (some ⟨q7, 0, none⟩)) ∧ env 8 = some (.int .i64 kk) ∧ env 14 = some (.int .i64 k) ∧ H' = H.set ub (.row (bCs ((E.take k).foldl setT U)) T_bool true)
def Rl0Q (H : AH) (pv : Value) (q q4 q7 ub kk : Nat) (U : List Bool) (E : List Int) (e : AExit) (env : Env) (H' : AH) : Prop :=
  e = .exit 5 ∧ env 1 = some pv ∧ env 2 = some (.pointer (some ⟨q, 0, none⟩)) ∧ env 4 = some (.pointer (some ⟨q4, 0, none⟩)) ∧ env 7 = some (.pointer (some ⟨q7, 0, none⟩)) ∧ env 8 = some (.int .i64 kk) ∧ H' = H.set ub (.row (bCs (E.foldl setT U)) T_bool true)
theorem rreplay_l0 {H : AH} {pv a0 a1 a2 a3 iv cv sv : Value} {q q4 q7 ub kk n : Nat} {x : InstD} {U : List Bool} {E : List Int} (hw : WF H) (hq : H.cells q = some [.int .i64 x.kind, .int .i64 x.cap, iv, cv, .int .i64 x.size, sv]) (hs : SlV (fun b => b < q) H sv x.sets) (hqu : q < ub) (h7u : q7 ≠ ub) (h7 : H.cells q7 = some [a0, a1, a2, a3, .slice (some ⟨ub, 0, none⟩) n n]) (hU : U.length = n)
    (hkk : kk < x.sets.length) (hE : E = x.sets[kk].elems) (hr : ∀ y ∈ E, 0 ≤ y ∧ y < n) {env : Env} (h : Rl0I H pv q q4 q7 ub kk U E 0 env (H.set ub (.row (bCs U) T_bool true))) :
    wpC Tryd.prog 187 (.loop ir_ref14_Replay_l0) (Rl0Q H pv q q4 q7 ub kk U E) env (H.set ub (.row (bCs U) T_bool true)) := by
  refine loop_upto E.length (Rl0I H pv q q4 q7 ub kk U E) (Q := Rl0Q H pv q q4 q7 ub kk U E) h ?_
  have hsm := hs.max
  obtain ⟨b1, off1, sp1, cap1, cs1, hcv1, r1, r2⟩ := sets_rd hs (by omega)
  obtain ⟨ew, r3, r4, r5, r6, r7⟩ := r2 kk hkk
  rw [← hE] at r7
  subst hcv1
  have hEm := r7.max
  obtain ⟨b1', _, _, _, cs1', e1', _, _, r1', pb1, _⟩ := hs.at (by omega)
  cases e1'
  obtain ⟨ea, ec, rfl⟩ := r7.slice
  rintro k env H' hk ⟨e1, e2, e4, e7, e8, e14, rfl⟩
  have hln : ((E.take k).foldl setT U).length = n := by rw [fold_len, hU]
  by_cases hkn : k < E.length
  · obtain ⟨b2, off2, sp2, cap2, cs2, hcv2, t1, t2⟩ := ints_rd r7 (by omega)
    obtain ⟨t3, t4⟩ := t2 k hkn
    cases hcv2
    obtain ⟨_, _, _, _, _, e2', _, _, _, pb2, _⟩ := r7.at (by omega)
    cases e2'
    have hrz := hr E[k] (List.getElem_mem _)
    obtain ⟨Z, hZ⟩ : ∃ Z : Nat, E[k] = Z := ⟨E[k].toNat, by omega⟩
    have hZn : Z < n := by omega
    have ht : (E.take (k + 1)).foldl setT U = ((E.take k).foldl setT U).set Z true := by
      rw [List.take_succ_eq_append_getElem hkn, List.foldl_append, hZ]
      show setT _ _ = _
      exact setT_nat (by rw [hln]; exact hZn)
    rw [hZ] at t3
    generalize hB : (E.take k).foldl setT U = B at *
    have wr := writeA_of (H := H.set ub (.row (bCs B) T_bool true)) (off := Z) (news := [Value.bool true]) AH.set_blk_same (by rw [bCs_len]; simp; omega)
    rw [bCs_set (by omega), AH.set_set] at wr
    have g0 : (H.set ub (.row (bCs B) T_bool true)).cells q = _ := (AH.cells_set_ne (by omega)).trans hq
    have g7 : (H.set ub (.row (bCs B) T_bool true)).cells q7 = _ := (AH.cells_set_ne h7u).trans h7
    have g1 : (H.set ub (.row (bCs B) T_bool true)).cells b1 = _ := (AH.cells_set_ne (by omega)).trans r1
    have g2 : (H.set ub (.row (bCs B) T_bool true)).cells b2 = _ := (AH.cells_set_ne (by omega)).trans t1
    generalize hH1 : H.set ub (.row (bCs B) T_bool true) = H1 at *
    simp (disch := omega) [-getElem?_pos, if_pos, if_neg, decide_eq_true, decide_eq_false, ir_ref14_Replay_l0, e1, e2, e4, e7, e8, e14, g0, g1, g2, g7, r5, t3, hkn, hkk, hZn, wr, IntWalk.i64_in]
    exact ⟨by simp [e1], by simp [e2], by simp [e4], by simp [e7], by simp [e8], by simp, by rw [ht]⟩
  · obtain rfl : k = E.length := by omega
    rw [List.take_length] at *
    have g0 : (H.set ub (.row (bCs (E.foldl setT U)) T_bool true)).cells q = _ := (AH.cells_set_ne (by omega)).trans hq
    have g1 : (H.set ub (.row (bCs (E.foldl setT U)) T_bool true)).cells b1 = _ := (AH.cells_set_ne (by omega)).trans r1
    generalize hH1 : H.set ub (.row (bCs (E.foldl setT U)) T_bool true) = H1 at *
    simp (disch := omega) [-getElem?_pos, if_pos, if_neg, decide_eq_true, decide_eq_false, ir_ref14_Replay_l0, e2, e8, e14, g0, g1, r5, hkk]
    exact ⟨rfl, e1, e2, e4, e7, e8, hH1.symm⟩
def RfS (p : Nat → Prop) (H1 : AH) (q7 ub : Nat) (s : StD) (H' : AH) : Prop :=
  ∃ pw, H'.blk q7 = some (.row [pw, .int .i64 s.cost, .int .i64 s.left, .int .i64 s.pos, .slice (some ⟨ub, 0, none⟩) s.used.length s.used.length] T_secateurref14_State true) ∧ H'.blk ub = some (.row (bCs s.used) T_bool true) ∧ SlV p H' pw s.path
def Rl2I (p : Nat → Prop) (H1 : AH) (q q4 q7 ub : Nat) (x : InstD) (pv : Value) (P : List Int) (k : Nat) (env : Env) (H' : AH) : Prop :=
  env 1 = some pv ∧ env 2 = some (.pointer (some ⟨q, 0, none⟩)) ∧ env 4 = some (.pointer (some ⟨q4, 0, none⟩)) ∧ env 7 = some (.pointer (some ⟨q7, 0, none⟩)) ∧ env 8 = some (.int .i64 k) ∧ WF H' ∧ H1.next ≤ H'.next ∧ (∀ b, b < H1.next → b ≠ q7 → b ≠ ub → H'.blk b = H1.blk b) ∧
    ∃ s, RfS p H1 q7 ub s H' ∧ StOk x s ∧ s.path.length = k ∧ x.replay P = x.replayF s k (P.drop k) ∧ s.path = P.take k
def Rl2Q (p : Nat → Prop) (H1 : AH) (q q4 q7 ub : Nat) (x : InstD) (P : List Int) (e : AExit) (env : Env) (H' : AH) : Prop :=
  env 4 = some (.pointer (some ⟨q4, 0, none⟩)) ∧ H1.next ≤ H'.next ∧ (∀ b, b < H1.next → b ≠ q7 → b ≠ ub → b ≠ q4 → H'.blk b = H1.blk b) ∧
  ((e = .ret ∧ ∃ i : Nat, x.replay P = (zeroSt, i, false) ∧ env 5 = some (.int .i64 i) ∧ env 6 = some (.bool false) ∧ H'.blk q4 = some (.row [.slice none 0 0, .int .i64 0, .int .i64 0, .int .i64 0, .slice none 0 0] T_secateurref14_State true)) ∨
   (e = .exit 0 ∧ env 7 = some (.pointer (some ⟨q7, 0, none⟩)) ∧ H'.blk q4 = H1.blk q4 ∧ ∃ s, RfS p H1 q7 ub s H' ∧ x.replay P = (s, 0, true)))
theorem rreplay_l2 {H1 H2 : AH} {q q4 q7 ub : Nat} {x : InstD} {iv cv sv pv : Value} {P : List Int} (hw1 : WF H1) (hq : q < q4) (hq4 : q4 < q7) (hq7 : q7 < H1.next) (hub : ub < H1.next) (h4u : q4 < ub) (h7u : q7 ≠ ub)
    (hx : InstV (fun b => b < q) H1 (.agg #[.int .i64 x.kind, .int .i64 x.cap, iv, cv, .int .i64 x.size, sv]) x) (c0 : H1.cells q = some [.int .i64 x.kind, .int .i64 x.cap, iv, cv, .int .i64 x.size, sv])
    (b4 : H1.blk q4 = some (.row [.slice none 0 0, .int .i64 0, .int .i64 0, .int .i64 0, .slice none 0 0] T_secateurref14_State true)) (hok : x.Ok) (hP : SlV (fun b => b < q) H1 pv P) (hPl : P.length ≤ 1000) {env : Env} (h : Rl2I (fun b => b < q) H1 q q4 q7 ub x pv P 0 env H2) :
    wpC Tryd.prog 187 (.loop ir_ref14_Replay_l2) (Rl2Q (fun b => b < q) H1 q q4 q7 ub x P) env H2 := by
  refine loop_upto P.length (Rl2I (fun b => b < q) H1 q q4 q7 ub x pv P) (Q := Rl2Q (fun b => b < q) H1 q q4 q7 ub x P) h ?_
  have hPm := hP.max
  obtain ⟨pa, pc, rfl⟩ := hP.slice
  rintro k env H' hk ⟨e1, e2, e4, e7, e8, w', nx, hkb, s, ⟨pw, bs, bu, hpw⟩, hso, hpl, hr, hpt⟩
  have subq : Sub (fun b => b < q) H1 H' := fun b hb cs hc => by unfold AH.cells at hc ⊢; rw [hkb b (by omega) (by omega) (by omega)]; exact hc
  have c0' : H'.cells q = some [.int .i64 x.kind, .int .i64 x.cap, iv, cv, .int .i64 x.size, sv] := by unfold AH.cells at c0 ⊢; rw [hkb q (by omega) (by omega) (by omega)]; exact c0
  have hPk := hP.sub subq
  by_cases hkn : k < P.length
  · obtain ⟨b0, off, sp, cap, cs, hcv, q1, q2⟩ := ints_rd hPk (by omega)
    obtain ⟨q3, q4'⟩ := q2 k hkn
    cases hcv
    have hdr : P.drop k = P[k] :: P.drop (k + 1) := (List.getElem_cons_drop hkn).symm
    rw [hdr, replay_step] at hr
    have cb := AH.cells_of bs
    have hx' := (hx.up (fun b hb => hb) subq)
    have hst : RsV (fun _ => True) H' (.agg #[pw, .int .i64 s.cost, .int .i64 s.left, .int .i64 s.pos, .slice (some ⟨ub, 0, none⟩) s.used.length s.used.length]) s :=
      ⟨_, _, rfl, hpw.any, (SlV.bools (AH.cells_of bu) (by have := hso.used; have := slots_le hok; omega)).any⟩
    have hmv := RMoves_spec hst hx'.any hok hso
    simp (disch := omega) [-getElem?_pos, if_pos, if_neg, decide_eq_true, decide_eq_false, ir_ref14_Replay_l2, e1, e2, e7, e8, cb, c0', cut5', cut6', hkn]
    refine hmv.mono' fun u H3 w3 ⟨S, hM, k3, hS⟩ => ?_
    have n3 := k3.next
    have q33 := q3
    have hPk3 := hPk.kept w' k3
    have hcM := hM.cell
    have hMs : SlV (fun _ => True) H3 u (x.moves s) := hM.slv (fun _ h => h.elim) (fun _ _ => trivial) (by have := moves_len (x := x) (s := s); have := hso.used; have := slots_le hok; omega)
    simp (disch := omega) [-getElem?_pos, if_pos, if_neg, decide_eq_true, decide_eq_false, hcM.1]
    refine wpC_use (rreplay_l1 (q := q) (q4 := q4) (q7 := q7) hMs hPk3 hkn ⟨rfl, by simp [e1], by simp [e2], by simp [e4], by simp [e7], by simp [e8], by simp, by simp, by simp⟩) ?_
    rintro e env2 H3' ⟨rfl, rfl, f1, f2, f4, f7, f8, f10⟩ hu
    have bs3 := (k3.blk q7 (by omega) (by simp)).trans bs
    have bu3 := (k3.blk ub (by omega) (by simp)).trans bu
    have b43 : H3'.blk q4 = some (.row [.slice none 0 0, .int .i64 0, .int .i64 0, .int .i64 0, .slice none 0 0] T_secateurref14_State true) := by
      rw [k3.blk q4 (by omega) (by simp), hkb q4 (by omega) (by omega) (by omega)]; exact b4
    have c03 := cells_kept w' k3 c0'
    have q13 := cells_kept w' k3 q1
    have hkb3 : ∀ b, b < H1.next → b ≠ q7 → b ≠ ub → H3'.blk b = H1.blk b := fun b h1 h2 h3 => by rw [k3.blk b (by omega) (by simp)]; exact hkb b h1 h2 h3
    obtain ⟨ph, hsl, hph⟩ := hPk3.sl (m := k + 1) (by omega)
    simp only [sz_int] at hsl
    have hphc := hph.cell
    have hkk : (k : Int) + 1 = ((k + 1 : Nat) : Int) := by omega
    rw [← hkk] at hsl
    clear hkk
    by_cases hm : P[k] ∈ x.moves s
    · rw [if_pos hm] at hr
      have hmT := decide_eq_true hm
      rw [hmT] at f10
      have hso2 := apply_ok hok hso hm
      have hapl := apply_path (x := x) (s := s) (d := P[k])
      have hpt2 : (x.applyS s P[k]).path = P.take (k + 1) := by rw [hapl, hpt, List.take_succ_eq_append_getElem hkn]
      have hpl2 : (x.applyS s P[k]).path.length = k + 1 := by rw [hapl]; simp [hpl]
      have hn3 := w3 q7 _ bs3
      have hnu := w3 ub _ bu3
      have hcb := hso.cost
      have hk0 := hok.kind0
      have hk4 := hok.kind4
      have hus := hso.used
      have hsl4 := slots_le hok
      have fin : ∀ (env3 : Env) (H4 : AH) (s' : StD), x.applyS s P[k] = s' → env3 1 = env2 1 → env3 2 = env2 2 → env3 4 = env2 4 → env3 7 = env2 7 → env3 8 = some (.int .i64 ((k : Int) + 1)) → WF H4 → H4.next = H3'.next →
          H4.blk q7 = some (.row [ph, .int .i64 s'.cost, .int .i64 s'.left, .int .i64 s'.pos, .slice (some ⟨ub, 0, none⟩) s.used.length s.used.length] T_secateurref14_State true) → H4.blk ub = some (.row (bCs s'.used) T_bool true) → (∀ b, b ≠ q7 → b ≠ ub → H4.blk b = H3'.blk b) →
          Rl2I (fun b => b < q) H1 q q4 q7 ub x (.slice (some ⟨b0, off, sp⟩) P.length pc) P (k + 1) env3 H4 := fun env3 H4 s' hs' g1 g2 g4 g7 g8 w4 n4 hb7 hbu hbo => by
        have hul : s'.used.length = s.used.length := by rw [← hs']; exact apply_used
        refine ⟨g1.trans f1, g2.trans f2, g4.trans f4, g7.trans f7, by rw [g8]; simp, w4, by omega, fun b h1 h2 h3 => by rw [hbo b h2 h3]; exact hkb3 b h1 h2 h3, s', ⟨ph, by rw [hul]; exact hb7, hbu, ?_⟩, by rw [← hs']; exact hso2, by rw [← hs']; exact hpl2, by rw [← hs']; exact hr, by rw [← hs']; exact hpt2⟩
        have hp' : s'.path = P.take (k + 1) := by rw [← hs']; exact hpt2
        rw [hp']
        exact hph.sub fun b hb cs hc => by unfold AH.cells at hc ⊢; rw [hbo b (by omega) (by omega)]; exact hc
      -- the path is one longer
      have wr7 := writeA_of (off := 0) (news := [ph]) bs3 (by simp)
      simp only [over, List.take_zero, List.nil_append, List.length_cons, List.length_nil, Nat.zero_add, List.drop_succ_cons, List.drop_zero, List.cons_append, List.append_nil] at wr7
      have wI : ∀ y ∈ P, True := fun _ _ => trivial
      generalize hd : P[k] = d at *
      simp (disch := omega) [-getElem?_pos, if_pos, if_neg, decide_eq_true, decide_eq_false, f1, f2, f7, f8, f10, q13, q33, hkn, ↓ieval_slhi, hsl, hphc.1, hphc.2, wr7, c03, IntWalk.i64_in]
      generalize hH4 : AH.set H3' _ _ = H4
      have w4 : WF H4 := by rw [← hH4]; exact w3.set hn3
      have n4 : H4.next = H3'.next := by rw [← hH4]; rfl
      have e74 : H4.blk q7 = some (.row [ph, .int .i64 s.cost, .int .i64 s.left, .int .i64 s.pos, .slice (some ⟨ub, 0, none⟩) s.used.length s.used.length] T_secateurref14_State true) := by rw [← hH4, AH.set_blk_same]
      have eo4 : ∀ b, b ≠ q7 → H4.blk b = H3'.blk b := fun b hb => by rw [← hH4, AH.set_blk_ne hb]
      have eu4 := (eo4 ub (Ne.symm h7u)).trans bu3
      have c04 : H4.cells q = H3'.cells q := by rw [← hH4, AH.cells_set_ne (by omega)]
      replace c04 := c04.trans c03
      have sub4 : Sub (fun b => b < q) H1 H4 := fun b hb cs hc => by unfold AH.cells at hc ⊢; rw [eo4 b (by omega), hkb3 b (by omega) (by omega) (by omega)]; exact hc
      clear hH4
      have ce7 := AH.cells_of e74
      have ceu := AH.cells_of eu4
      obtain ⟨iv', cv', sv', e0, _, _, _, h1, h2, h3⟩ := id hx
      simp at e0
      obtain ⟨rfl, rfl, rfl⟩ := e0
      have a1 := h1.sub sub4
      have a2 := h2.sub sub4
      have a3 := h3.sub sub4
      have hmi := h1.max
      have hmc := h2.max
      have hms := h3.max
      have hu7 : ub ≠ q7 := Ne.symm h7u
      -- a stored number, a stored truth
      have fin2 : ∀ (env3 : Env) (s' : StD) (X Y : List Value), x.applyS s d = s' → env3 1 = env2 1 → env3 2 = env2 2 → env3 4 = env2 4 → env3 7 = env2 7 → env3 8 = some (.int .i64 ((k : Int) + 1)) →
          X = [ph, .int .i64 s'.cost, .int .i64 s'.left, .int .i64 s'.pos, .slice (some ⟨ub, 0, none⟩) s.used.length s.used.length] → Y = bCs s'.used →
          Rl2I (fun b => b < q) H1 q q4 q7 ub x (.slice (some ⟨b0, off, sp⟩) P.length pc) P (k + 1) env3 ((H4.set ub (.row Y T_bool true)).set q7 (.row X T_secateurref14_State true)) ∧ (Y = bCs s.used → Rl2I (fun b => b < q) H1 q q4 q7 ub x (.slice (some ⟨b0, off, sp⟩) P.length pc) P (k + 1) env3 (H4.set q7 (.row X T_secateurref14_State true))) ∧ (X = [ph, .int .i64 s.cost, .int .i64 s.left, .int .i64 s.pos, .slice (some ⟨ub, 0, none⟩) s.used.length s.used.length] → Y = bCs s.used → Rl2I (fun b => b < q) H1 q q4 q7 ub x (.slice (some ⟨b0, off, sp⟩) P.length pc) P (k + 1) env3 H4) := fun env3 s' X Y hs' g1 g2 g4 g7 g8 hX hY => by
        refine ⟨fin env3 _ s' hs' g1 g2 g4 g7 g8 ((w4.set (by omega)).set (by simp; omega)) (by simp [n4]) (by rw [AH.set_blk_same, hX]) (by rw [AH.set_blk_ne hu7, AH.set_blk_same, hY]) (fun b h1 h2 => by rw [AH.set_blk_ne h1, AH.set_blk_ne h2, eo4 b h1]), fun hYs => ?_, fun hXs hYs => ?_⟩
        · exact fin env3 _ s' hs' g1 g2 g4 g7 g8 (w4.set (by omega)) (by simp [n4]) (by rw [AH.set_blk_same, hX]) (by rw [AH.set_blk_ne hu7, eu4, ← hYs, hY]) (fun b h1 h2 => by rw [AH.set_blk_ne h1, eo4 b h1])
        · exact fin env3 _ s' hs' g1 g2 g4 g7 g8 w4 n4 (by rw [e74, ← hXs, hX]) (by rw [eu4, ← hYs, hY]) (fun b h1 h2 => eo4 b h1)
      by_cases k0 : x.kind = 0
      · have k0T := eq_true k0
        have hit := hso.items k0
        have hkl : k < x.items.length := by
          have hm' := hm
          unfold InstD.moves at hm'
          split at hm'
          · simp at hm'
          · rename_i hdn
            unfold InstD.done at hdn
            rw [if_pos k0] at hdn
            have : ¬ s.path.length = x.items.length := by simpa using hdn
            omega
        by_cases hd1 : d = 1
        · have hd1T := eq_true hd1
          obtain ⟨b1, off1, sp1, cap1, cs1, rfl, r1, r2⟩ := pairs_rd a1 (by omega)
          obtain ⟨r3, r4, r5, r6, r7⟩ := r2 k hkl
          have pb1 : b1 < q := by obtain ⟨_, _, _, _, _, e, _, _, _, pb, _⟩ := a1.at (by omega); cases e; exact pb
          have hv := val_mag hok hkl
          have x1 : x.items[k].1 = x.valN k := by unfold InstD.valN; rw [List.getD_eq_getElem?_getD, List.getElem?_eq_getElem hkl]; rfl
          have x2 : x.items[k].2 = x.wtN k := by unfold InstD.wtN; rw [List.getD_eq_getElem?_getD, List.getElem?_eq_getElem hkl]; rfl
          rw [x1] at r4
          rw [x2] at r5
          have hap : x.applyS s d = ⟨s.path ++ [d], s.cost - x.valN k, s.left - x.wtN k, s.pos, s.used⟩ := by
            unfold InstD.applyS InstD.choseS; rw [if_neg (by omega), if_neg (by omega), if_pos hd1, if_pos k0, hpl]
          have hwr1 := wr_mid (n := s.cost - x.valN k) (by omega)
          have hwr2 := wr_mid (n := s.left - x.wtN k) (by omega)
          clear fin
          generalize x.valN k = a at *
          generalize x.wtN k = b at *
          simp (disch := omega) [-getElem?_pos, if_pos, if_neg, decide_eq_true, decide_eq_false, k0T, hd1T, f2, f7, f8, c04, ce7, e74, r1, r4, r5, hkl, hwr1, hwr2, writeA, over, IntWalk.i64_in]
          exact ⟨hkn, (fin2 _ _ _ _ hap (by simp) (by simp) (by simp) (by simp) (by simp) rfl rfl).2.1 rfl⟩
        · have hd1F := eq_false hd1
          have hap : x.applyS s d = ⟨s.path ++ [d], s.cost, s.left, s.pos, s.used⟩ := by
            unfold InstD.applyS; rw [if_neg (by omega), if_neg (by omega), if_neg hd1]
          simp (disch := omega) [-getElem?_pos, if_pos, if_neg, decide_eq_true, decide_eq_false, k0T, hd1F, f2, f7, f8, c04, IntWalk.i64_in]
          exact ⟨hkn, (fin2 _ _ _ _ hap (by simp) (by simp) (by simp) (by simp) (by simp) rfl rfl).2.2 rfl rfl⟩
      · have k0F := eq_false k0
        by_cases k1 : x.kind = 1
        · have k1T := eq_true k1
          obtain ⟨g1, g2, g3, g4⟩ := moves_tour (.inl k1) hm
          have hz := size_zero hok (.inl k1)
          obtain ⟨D, rfl⟩ : ∃ D : Nat, d = D := ⟨d.toNat, by omega⟩
          have hDl : D < x.cost.length := by omega
          have hDu : D < s.used.length := by omega
          have hkl : k < x.cost.length := by
            have := hso.rows k1
            unfold InstD.done at g1
            rw [if_neg (by omega), if_pos k1] at g1
            have : ¬ s.path.length = x.cost.length := by simpa using g1
            omega
          have hmag := costN_mag hok hkl hDl
          obtain ⟨b1, off1, sp1, cap1, cs1, w1', b2, off2, sp2, cap2, cs2, rfl, r1, r2, rfl, r3, r4⟩ := row_cell a2 hok hkl
          have r4D := r4 D hDl
          have hwr := wr_mid (n := s.cost + x.costN k D) (by omega)
          have hap : x.applyS s (D : Int) = ⟨s.path ++ [(D : Int)], s.cost + x.costN k D, s.left, s.pos, s.used.set D true⟩ := by
            unfold InstD.applyS; rw [if_pos k1, hpl, setT_nat hDu]; rfl
          clear fin
          generalize x.costN k D = cc at *
          have hDb : D + 1 ≤ (bCs s.used).length := by rw [bCs_len]; omega
          have htk := bCs_tk hDu
          simp (disch := omega) [-getElem?_pos, if_pos, if_neg, decide_eq_true, decide_eq_false, k0F, k1T, f2, f7, f8, c04, ce7, e74, r1, r2, r3, r4D, hkl, hDl, hDu, hwr, eu4, hDb, htk, writeA, over, IntWalk.i64_in]
          rw [AH.set_swap h7u]
          exact ⟨hkn, (fin2 _ _ _ _ hap (by simp) (by simp) (by simp) (by simp) (by simp) rfl rfl).1⟩
        · have k1F := eq_false k1
          by_cases k2 : x.kind = 2
          · have k2T := eq_true k2
            obtain ⟨g1, g2, g3, g4⟩ := moves_tour (.inr k2) hm
            have hz := size_zero hok (.inr k2)
            obtain ⟨t1, t2, t3⟩ := hso.tour k2
            obtain ⟨D, rfl⟩ : ∃ D : Nat, d = D := ⟨d.toNat, by omega⟩
            obtain ⟨N, hN⟩ : ∃ N : Nat, s.pos = N := ⟨s.pos.toNat, by omega⟩
            have hDl : D < x.cost.length := by omega
            have hNl : N < x.cost.length := by omega
            have hDu : D < s.used.length := by omega
            have hmag1 := costN_mag hok hNl hDl
            have hmag2 := costN_mag hok hDl (k := 0) (by omega)
            obtain ⟨b1, off1, sp1, cap1, cs1, w1', b2, off2, sp2, cap2, cs2, rfl, r1, r2, rfl, r3, r4⟩ := row_cell a2 hok hNl
            have r4D := r4 D hDl
            have hwr := wr_mid (n := s.cost + x.costN N D) (by omega)
            have hwr2 := wr_mid (n := s.cost + x.costN N D + x.costN D 0) (by omega)
            have hap : x.applyS s (D : Int) = if x.done ⟨s.path ++ [(D : Int)], s.cost + x.costN N D, s.left, (D : Int), s.used.set D true⟩ then ⟨s.path ++ [(D : Int)], s.cost + x.costN N D + x.costN D 0, s.left, (D : Int), s.used.set D true⟩ else ⟨s.path ++ [(D : Int)], s.cost + x.costN N D, s.left, (D : Int), s.used.set D true⟩ := by
              unfold InstD.applyS InstD.wentS; rw [if_neg k1, if_pos k2]; simp only [hN, Int.toNat_natCast, setT_nat hDu]
            have hdn : x.done ⟨s.path ++ [(D : Int)], s.cost + x.costN N D, s.left, (D : Int), s.used.set D true⟩ = decide ((s.used.set D true).count true = (s.used.set D true).length) := by
              unfold InstD.done; rw [if_neg k0, if_neg k1]
            rw [hdn] at hap
            clear fin hdn
            rw [hN] at ce7 e74
            have hDb : D + 1 ≤ (bCs s.used).length := by rw [bCs_len]; omega
            have htk := bCs_tk hDu
            simp (disch := omega) [-getElem?_pos, if_pos, if_neg, decide_eq_true, decide_eq_false, k0F, k1F, k2T, f2, f7, f8, c04, ce7, e74, r1, r2, r3, r4D, hNl, hDl, hDu, hwr, eu4, hDb, htk, writeA, over, IntWalk.i64_in]
            rw [AH.set_over3]
            have hsl1 : (s.used.set D true).length = s.used.length := by simp
            generalize hH5 : AH.set (AH.set H4 _ _) _ _ = H5
            have w5 : WF H5 := by rw [← hH5]; exact (w4.set (by omega)).set (by simp; omega)
            have e75 : H5.blk q7 = some (.row [ph, .int .i64 (s.cost + x.costN N D), .int .i64 s.left, .int .i64 D, .slice (some ⟨ub, 0, none⟩) s.used.length s.used.length] T_secateurref14_State true) := by rw [← hH5, AH.set_blk_same]
            have eu5 : H5.cells ub = some (bCs (s.used.set D true)) := by rw [← hH5, AH.cells_set_ne hu7, AH.cells_set_same]
            have c05 : H5.cells q = H4.cells q := by rw [← hH5, AH.cells_set_ne (by omega), AH.cells_set_ne (by omega)]
            replace c05 := c05.trans c04
            have a25 := a2.sub (H' := H5) (by rw [← hH5]; exact .trans (.set (by omega)) (.set (by omega)))
            have ce75 := AH.cells_of e75
            have hfl := full_spec (SlV.bools eu5 (by omega))
            rw [hsl1] at hfl
            refine AFn.pure hfl ?_
            by_cases hfull : (s.used.set D true).count true = s.used.length
            · obtain ⟨b1', off1', sp1', cap1', cs1', w1'', b3, off3, sp3, cap3, cs3, e1', u1, u2, rfl, u3, u4⟩ := row_cell a25 hok hDl
              cases e1'
              have u40 := u4 0 (by omega)
              rw [Nat.add_zero] at u40
              have h0l : 0 < x.cost.length := by omega
              rw [hsl1, decide_eq_true hfull, if_pos rfl] at hap
              rw [decide_eq_true hfull]
              generalize x.costN N D = cc at *
              generalize x.costN D 0 = cd at *
              simp (disch := omega) [-getElem?_pos, if_pos, if_neg, decide_eq_true, decide_eq_false, f2, f7, f8, c05, ce75, e75, u1, u2, u3, u40, hDl, h0l, hwr2, writeA, over, IntWalk.i64_in]
              rw [← hH5, AH.set_set]
              exact ⟨hkn, (fin2 _ _ _ _ hap (by simp) (by simp) (by simp) (by simp) (by simp) rfl rfl).1⟩
            · rw [hsl1, decide_eq_false hfull, if_neg (by simp)] at hap
              rw [decide_eq_false hfull]
              generalize x.costN N D = cc at *
              simp (disch := omega) [-getElem?_pos, if_pos, if_neg, decide_eq_true, decide_eq_false, f2, f7, f8, IntWalk.i64_in]
              rw [← hH5]
              exact ⟨hkn, (fin2 _ _ _ _ hap (by simp) (by simp) (by simp) (by simp) (by simp) rfl rfl).1⟩
          · have k2F := eq_false k2
            have k3 : x.kind = 3 := by omega
            by_cases hd1 : d = 1
            · have hd1T := eq_true hd1
              have hkl : k < x.sets.length := by
                have hm' := hm
                unfold InstD.moves at hm'
                split at hm'
                · simp at hm'
                · split at hm'
                  · simp at hm'
                  · omega
              have hmg := set_mag hok hkl
              have hwr := wr_mid (n := s.cost + (x.setN k).cost) (by omega)
              have hap : x.applyS s d = ⟨s.path ++ [d], s.cost + (x.setN k).cost, s.left, s.pos, (x.setN k).elems.foldl setT s.used⟩ := by
                unfold InstD.applyS InstD.choseS; rw [if_neg k1, if_neg k2, if_pos hd1, if_neg k0, hpl]
              have hse : x.sets[k] = x.setN k := by unfold InstD.setN; rw [List.getD_eq_getElem?_getD, List.getElem?_eq_getElem hkl]; rfl
              have hsr : ∀ y ∈ (x.setN k).elems, 0 ≤ y ∧ y < s.used.length := fun y hy => by
                have hR := hok.shaped.sets k hkl
                rw [hse] at hR
                have h9 := hok.few.size0
                have hrr : ∀ {l : List Int} {last n : Int}, Rises last n l → ∀ y ∈ l, last < y ∧ y < n := fun {l} => by
                  induction l with
                  | nil => intro last n _ y hy; simp at hy
                  | cons a l ih =>
                    intro last n ⟨h1, h2, h3⟩ y hy
                    rcases List.mem_cons.1 hy with rfl | hy
                    · exact ⟨h1, h2⟩
                    · have := ih h3 y hy; omega
                have := hrr hR y hy
                omega
              obtain ⟨b1, off1, sp1, cap1, cs1, rfl, r1, r2⟩ := sets_rd a3 (by omega)
              obtain ⟨ew, r3, r4, r5, r6, r7⟩ := r2 k hkl
              rw [hse] at r4
              clear fin
              have hE : (x.setN k).elems = x.sets[k].elems := by rw [hse]
              generalize (x.setN k).cost = cc at *
              generalize (x.setN k).elems = E at *
              simp (disch := omega) [-getElem?_pos, if_pos, if_neg, decide_eq_true, decide_eq_false, k0F, k1F, k2F, hd1T, f2, f7, f8, c04, ce7, e74, r1, r4, hkl, hwr, writeA, over, IntWalk.i64_in]
              generalize hH5 : AH.set H4 _ _ = H5
              have w5 : WF H5 := by rw [← hH5]; exact w4.set (by omega)
              have e75 : H5.cells q7 = some [ph, .int .i64 (s.cost + cc), .int .i64 s.left, .int .i64 s.pos, .slice (some ⟨ub, 0, none⟩) s.used.length s.used.length] := by rw [← hH5, AH.cells_set_same]
              have c05 : H5.cells q = H4.cells q := by rw [← hH5, AH.cells_set_ne (by omega)]
              replace c05 := c05.trans c04
              have eu5 : H5.blk ub = some (.row (bCs s.used) T_bool true) := by rw [← hH5, AH.set_blk_ne hu7]; exact eu4
              have a35 := a3.sub (H' := H5) (by rw [← hH5]; exact .set (by omega))
              have hself : H5.set ub (.row (bCs s.used) T_bool true) = H5 := by
                cases H5 with
                | mk blk next =>
                  simp only [AH.set, AH.mk.injEq, and_true]
                  funext i
                  by_cases hi : i = ub
                  · subst hi; simpa using eu5.symm
                  · simp [hi]
              have hl0 := fun (e0 : Env) => rreplay_l0 (env := e0) (H := H5) (pv := .slice (some ⟨b0, off, sp⟩) P.length pc) (q := q) (q4 := q4) (q7 := q7) (ub := ub) (kk := k) (n := s.used.length) (x := x) (U := s.used) (E := E) w5 c05 a35 (by omega) h7u e75 rfl hkl hE hsr
              simp only [hself] at hl0
              refine wpC_use (hl0 _ ⟨by simp [f1], by simp [f2], by simp [f4], by simp [f7], by simp [f8], by simp, by rw [List.take_zero]; exact hself.symm⟩) ?_
              rintro e env4 H6 ⟨rfl, g1, g2, g4, g7, g8, rfl⟩ hu4
              simp (disch := omega) [-getElem?_pos, if_pos, if_neg, decide_eq_true, decide_eq_false, g8, IntWalk.i64_in]
              rw [← hH5, AH.set_swap h7u]
              exact ⟨hkn, (fin2 _ _ _ _ hap (by simp [g1, f1]) (by simp [g2, f2]) (by simp [g4, f4]) (by simp [g7, f7]) (by simp) rfl rfl).1⟩
            · have hd1F := eq_false hd1
              have hap : x.applyS s d = ⟨s.path ++ [d], s.cost, s.left, s.pos, s.used⟩ := by
                unfold InstD.applyS; rw [if_neg k1, if_neg k2, if_neg hd1]
              simp (disch := omega) [-getElem?_pos, if_pos, if_neg, decide_eq_true, decide_eq_false, k0F, k1F, k2F, hd1F, f2, f7, f8, c04, IntWalk.i64_in]
              exact ⟨hkn, (fin2 _ _ _ _ hap (by simp) (by simp) (by simp) (by simp) (by simp) rfl rfl).2.2 rfl rfl⟩
    · rw [if_neg hm] at hr
      have hmF := decide_eq_false hm
      rw [hmF] at f10
      simp (disch := omega) [-getElem?_pos, if_pos, if_neg, decide_eq_true, decide_eq_false, f4, f8, f10, b43, writeA, over]
      refine ⟨by simp [f4], by simp; omega, fun b h1 h2 h3 h4 => by rw [AH.set_blk_ne h4]; exact hkb3 b h1 h2 h3, .inl ⟨rfl, k, hr, by simp, by simp, AH.set_blk_same⟩⟩
  · obtain rfl : k = P.length := by omega
    rw [List.drop_length] at hr
    simp (disch := omega) [-getElem?_pos, if_pos, if_neg, decide_eq_true, decide_eq_false, ir_ref14_Replay_l2, e1, e8]
    exact ⟨e4, nx, fun b h1 h2 h3 _ => hkb b h1 h2 h3, .inr ⟨rfl, e7, hkb q4 (by omega) (by omega) (by omega), s, ⟨pw, bs, bu, hpw⟩, hr⟩⟩
end Go.Proofs.YtlcddhgfkkjhkaaDoor
