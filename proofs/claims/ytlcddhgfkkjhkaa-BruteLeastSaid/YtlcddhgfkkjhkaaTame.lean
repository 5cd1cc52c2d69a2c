/-
  An instance that may be, of few decisions, made of any one.
-/
import Derived.Test.YtlcddhgfkkjhkaaInsts

set_option maxRecDepth 100000
set_option linter.unusedSimpArgs false
set_option linter.unusedVariables false
namespace Go.Proofs.Ytlcddhgfkkjhkaa
open Go Go.Abs
theorem mag_spec (n : Int) : ∃ z, Mag (-2147483648) z ∧ ∀ H : AH, AFn Try.prog F_law13_tame_1 [.int .i64 n] H fun u H' => u = .int .i64 z ∧ H' = H := by
  refine ⟨if 2147483648 < (if n < -2147483648 then -2147483648 else n) then 2147483648 else (if n < -2147483648 then -2147483648 else n), ?_, ?_⟩
  · unfold Mag; split <;> split <;> omega
  · intro H
    refine AFn.enter mixed ir_law13_tame_1_eq (by simp [ir_law13_tame_1]) fun hw => ?_
    simp (disch := omega) [-getElem?_pos, if_pos, if_neg, decide_eq_true, decide_eq_false, ir_law13_tame_1]
structure Tm (H0 H' : AH) (n : Nat) (xc out : List Value) : Prop where
  wf : WF H'
  keep : Keep [] H0 H'
  b0 : H'.blk n = some (.row xc T_secateurlaw13_Inst true)
  b1 : H'.blk (n + 1) = some (.row [.int .i64 0, .int .i64 0, nilS, nilS, .int .i64 0, nilS] T_secateurlaw13_Inst true)
  b2 : H'.blk (n + 2) = some (.row out T_secateurlaw13_Inst true)
  hn : n + 3 ≤ H'.next
theorem elems_new {H : AH} {cs : List Value} {t sz : Nat} (h : cs.length = sz) : elemsA (H.alloc (.row cs t true)) sz (.slice (some ⟨H.next, 0, none⟩) 1 1) = some cs := by
  have hc : (H.alloc (.row cs t true)).cells H.next = some cs := AH.cells_of AH.alloc_blk_new
  simp [elemsA, hc, cut, h]
  rw [← h, List.take_length]
theorem tm_put {H0 H1 H' Hd : AH} {n c : Nat} {xc out out' : List Value} {va : Value} {S : List Nat} (h0 : H0.next = n) (h1 : n + 3 ≤ H1.next) (hT : Tm H0 H' n xc out) (k' : Keep [n + 2] H1 H')
    (wd : WF Hd) (kd : Keep S H' Hd) (hS : ∀ b ∈ S, H1.next ≤ b) (hc : over out c [va] = out') (hc6 : c < out.length) :
    ∃ Hf, writeA Hd (n + 2) c [va] = some Hf ∧ Tm H0 Hf n xc out' ∧ Keep [n + 2] H1 Hf ∧ Hf.next = Hd.next ∧ WF Hf ∧ ∀ b, b ≠ n + 2 → Hf.blk b = Hd.blk b := by
  have hn1 := k'.next
  have hn2 := kd.next
  have hvar : ∀ b, b < n + 3 → b ∉ S := fun b hb h => by have := hS b h; omega
  have hn := hT.hn
  have d2 : Hd.blk (n + 2) = some (.row out T_secateurlaw13_Inst true) := by rw [kd.blk _ (by omega) (hvar _ (by omega))]; exact hT.b2
  have w2 := writeA_row (off := c) (news := [va]) d2
  rw [if_pos (by simp; omega), hc] at w2
  have ff : ∀ b, b ≠ n + 2 → (Hd.set (n + 2) (.row out' T_secateurlaw13_Inst true)).blk b = Hd.blk b := fun b h => AH.set_blk_ne h
  have wf : WF (Hd.set (n + 2) (.row out' T_secateurlaw13_Inst true)) := wd.set (by omega)
  refine ⟨_, w2, ⟨wf, ⟨?_, fun b hb _ => ?_⟩, ?_, ?_, AH.set_blk_same, ?_⟩, ⟨?_, fun b hb hs => ?_⟩, rfl, wf, ff⟩
  · have := hT.keep.next; simp; omega
  · rw [ff b (by omega), kd.blk b (by omega) (hvar _ (by omega)), hT.keep.blk b hb (by simp)]
  · rw [ff _ (by omega), kd.blk _ (by omega) (hvar _ (by omega)), hT.b0]
  · rw [ff _ (by omega), kd.blk _ (by omega) (hvar _ (by omega)), hT.b1]
  · simp; omega
  · simp; omega
  · simp at hs
    rw [ff b hs, kd.blk b (by omega) (fun h => by have := hS b h; omega), k'.blk b hb (by simp; omega)]
def Fine (x : Int × Int) : Prop := Mag 0 x.1 ∧ Mag 0 x.2
def TiI (H0 H1 : AH) (n : Nat) (xc : List Value) (y : InstD) (iv : Value) (N : Nat) (k : Nat) (env : Env) (H' : AH) : Prop :=
  env 5 = some (.func (.func F_law13_tame_1) #[] #[]) ∧ env 6 = some (.pointer (some ⟨n + 2, 0, none⟩)) ∧ env 106 = some iv ∧ env 107 = some (.int .i64 N) ∧ env 108 = some (.int .i64 k) ∧ Keep [n + 2] H1 H' ∧
    ∃ ia M S, Tm H0 H' n xc (instC y ia nilS nilS) ∧ OwnL (fun _ => False) H' T_2_int64 ia M S ∧ M.length = k ∧ (∀ z ∈ M, Fine z) ∧ ∀ b ∈ S, H1.next ≤ b
def TiQ (H0 H1 : AH) (n : Nat) (xc : List Value) (y : InstD) (N : Nat) (e : AExit) (env : Env) (H' : AH) : Prop :=
  e = .exit 5 ∧ Keep [n + 2] H1 H' ∧ ∃ ia M S, Tm H0 H' n xc (instC y ia nilS nilS) ∧ OwnL (fun _ => False) H' T_2_int64 ia M S ∧ M.length = N ∧ (∀ z ∈ M, Fine z) ∧ ∀ b ∈ S, H1.next ≤ b
theorem tame_l5 {H0 H1 : AH} {n : Nat} {xc : List Value} {y : InstD} {iv : Value} {L : List (Int × Int)} (hw : WF H1) (h0 : H0.next = n) (h1 : n + 3 ≤ H1.next) (hL : SlV (fun b => b < n) H1 iv L) (hl : L.length ≤ 100) {env : Env} (h : TiI H0 H1 n xc y iv L.length 0 env H1) :
    wpC Try.prog 130 (.loop ir_law13_tame_l5) (TiQ H0 H1 n xc y L.length) env H1 := by
  refine loop_upto L.length (TiI H0 H1 n xc y iv L.length) (Q := TiQ H0 H1 n xc y L.length) h ?_
  rintro k env H' hk ⟨e5, e6, e106, e107, e108, k', ia, M, S, hT, hA, hM, hF, hS⟩
  have hn1 := k'.next
  by_cases hkn : k < L.length
  · have hL' : SlV (fun b => b < n) H' iv L := hL.sub (.keep hw k' (fun b hb => by simp at hb; omega))
    obtain ⟨b0, off, sp, cap, cs, rfl, q1, q2⟩ := pairs_rd hL' (by omega)
    obtain ⟨q3, q4, q5, q6, q7⟩ := q2 k hkn
    generalize L[k] = y at *
    obtain ⟨y1, y2⟩ := y
    simp only at q3 q4 q5 q6 q7
    have hAn := hA.lt hT.wf
    have c2 := AH.cells_of hT.b2
    have hn := hT.hn
    have hz : (H'.alloc (.row [.int .i64 0, .int .i64 0] T_2_int64 true)).blk H'.next = some (.row [.int .i64 0, .int .i64 0] T_2_int64 true) := AH.alloc_blk_new
    simp (disch := omega) [-getElem?_pos, if_pos, if_neg, decide_eq_true, decide_eq_false, ir_law13_tame_l5, e5, e6, e106, e107, e108, q1, q3, writeA_row hz, over, c2, IntWalk.i64_in]
    obtain ⟨z1, m1, s1⟩ := mag_spec y1
    obtain ⟨z2, m2, s2⟩ := mag_spec y2
    refine AFnD.of (s1 _) ?_
    simp (disch := omega) [-getElem?_pos, if_pos, if_neg, decide_eq_true, decide_eq_false, ]
    refine AFnD.of (s2 _) ?_
    simp (disch := omega) [-getElem?_pos, if_pos, if_neg, decide_eq_true, decide_eq_false, ]
    have f1 : Mag 0 (if 0 < z1 then z1 else 0) := by unfold Mag at *; split <;> omega
    have f2 : Mag 0 (if 0 < z2 then z2 else 0) := by unfold Mag at *; split <;> omega
    generalize (if 0 < z1 then z1 else 0) = z3 at *
    generalize (if 0 < z2 then z2 else 0) = z4 at *
    generalize hHb : AH.alloc H' _ = Hb
    have kb : Keep [] H' Hb := by rw [← hHb]; exact .alloc
    have kb2 : Keep S H' Hb := by rw [← hHb]; exact .alloc
    have wb : WF Hb := by rw [← hHb]; exact WF.alloc hT.wf
    have nb : Hb.next = H'.next + 1 := by rw [← hHb]; simp
    obtain ⟨va, vc, Hc, S', p1, hA', kc, wc, i1⟩ := (hA.kept hT.wf kb).push (q := fun _ => False) wb (cs := [.int .i64 z3, .int .i64 z4]) (a := (z3, z4)) ⟨rfl, by unfold Mag at f1; unfold I64; omega, by unfold Mag at f2; unfold I64; omega⟩ T_2_int64 16 (fun _ h => h) (fun _ h => h.elim) (by simp) (by omega) (by omega)
    have hHb1 : H'.next ≤ Hb.next := kb.next
    have kc' : Keep S H' Hc := kb2.trans' kc
    obtain ⟨Hf, w2, hTf, hKf, nf, wf, ff⟩ := tm_put (c := 2) (out' := instC y (.slice va (M.length + 1) vc) nilS nilS) h0 h1 hT k' wc kc' hS rfl (by simp)
    simp only [sz_pair] at p1
    have pE : elemsA (Hb.alloc (.row [.int .i64 z3, .int .i64 z4] T_2_int64 true)) 2 (.slice (some ⟨H'.next + 1, 0, none⟩) 1 1) = some [.int .i64 z3, .int .i64 z4] := by rw [← nb]; exact elems_new rfl
    simp (disch := omega) [-getElem?_pos, if_pos, if_neg, decide_eq_true, decide_eq_false, pE, p1, w2, e5, e6, e106, e107, e108, IntWalk.i64_in]
    have hS' : ∀ b ∈ S', H1.next ≤ b := fun b hb => by
      rcases i1 b hb with h | h
      · exact hS b h
      · omega
    exact ⟨hkn, by simp [e5], by simp [e6], by simp [e106], by simp [e107], by simp, hKf, _, _, S', hTf, hA'.over (fun b h => h.elim) fun b hb => ff b (by have := hS' b hb; omega), by simp [hM], fun z hz => by
      rcases List.mem_append.1 hz with hz | hz
      · exact hF z hz
      · simp at hz; subst hz; exact ⟨f1, f2⟩, hS'⟩
  · obtain rfl : k = L.length := by omega
    simp (disch := omega) [-getElem?_pos, if_pos, if_neg, decide_eq_true, decide_eq_false, ir_law13_tame_l5, e107, e108]
    exact ⟨rfl, k', ia, M, S, hT, hA, hM, hF, hS⟩
theorem Tm.kept {H0 H' Hd : AH} {n : Nat} {xc out : List Value} {S : List Nat} (hT : Tm H0 H' n xc out) (h0 : H0.next = n) (wd : WF Hd) (kd : Keep S H' Hd) (hS : ∀ b ∈ S, n + 3 ≤ b) : Tm H0 Hd n xc out := by
  have hn := hT.hn
  have hn2 := kd.next
  have ff : ∀ b, b < n + 3 → Hd.blk b = H'.blk b := fun b hb => kd.blk b (by omega) fun h => by have := hS b h; omega
  refine ⟨wd, ⟨?_, fun b hb _ => ?_⟩, ?_, ?_, ?_, by omega⟩
  · have := hT.keep.next; omega
  · rw [ff b (by omega), hT.keep.blk b hb (by simp)]
  · rw [ff _ (by omega), hT.b0]
  · rw [ff _ (by omega), hT.b1]
  · rw [ff _ (by omega), hT.b2]
theorem zeros_i64 (n : Nat) : zeros [Value.int .i64 0] n = List.replicate n (.int .i64 0) := by
  induction n with
  | zero => rfl
  | succ n ih => simp only [zeros, ih, List.replicate_succ]; rfl
/-! ### rows -/
def TrI (H0 H1 : AH) (n : Nat) (xc : List Value) (y : InstD) (ca : Value) (N i rb : Nat) (sp : Option Nat) (k : Nat) (env : Env) (H' : AH) : Prop :=
  env 2 = some (.pointer (some ⟨n, 0, none⟩)) ∧ env 5 = some (.func (.func F_law13_tame_1) #[] #[]) ∧ env 6 = some (.pointer (some ⟨n + 2, 0, none⟩)) ∧ env 16 = some (.int .i64 i) ∧ env 17 = some (.slice (some ⟨rb, 0, sp⟩) N N) ∧ env 40 = some (.int .i64 N) ∧ env 41 = some (.int .i64 k) ∧ Keep [rb] H1 H' ∧
    ∃ R : List Int, Tm H0 H' n xc (instC y nilS ca nilS) ∧ OwnL (fun _ => False) H' T_int64 (.slice (some ⟨rb, 0, sp⟩) N N) R [rb] ∧ R.length = N ∧ (∀ z ∈ R, Mag (-2147483648) z) ∧ (y.kind = 2 → R.getD i 0 = 0)
def TrQ (H0 H1 : AH) (n : Nat) (xc : List Value) (y : InstD) (ca : Value) (N i rb : Nat) (sp : Option Nat) (e : AExit) (env : Env) (H' : AH) : Prop :=
  e = .exit 3 ∧ Keep [rb] H1 H' ∧
    ∃ R : List Int, Tm H0 H' n xc (instC y nilS ca nilS) ∧ OwnL (fun _ => False) H' T_int64 (.slice (some ⟨rb, 0, sp⟩) N N) R [rb] ∧ R.length = N ∧ (∀ z ∈ R, Mag (-2147483648) z) ∧ (y.kind = 2 → R.getD i 0 = 0)
theorem tame_l0 {H0 H1 : AH} {n : Nat} {x y : InstD} {iv cv sv ca : Value} {N i rb : Nat} {sp : Option Nat} (hw : WF H1) (h0 : H0.next = n) (h1 : n + 3 ≤ H1.next) (hrb : n + 3 ≤ rb) (hL : SlV (fun b => b < n) H1 cv x.cost) (hl : N ≤ 100) (hi : i < N) {env : Env} (h : TrI H0 H1 n (instC x iv cv sv) y ca N i rb sp 0 env H1) :
    wpC Try.prog 130 (.loop ir_law13_tame_l0) (TrQ H0 H1 n (instC x iv cv sv) y ca N i rb sp) env H1 := by
  refine loop_upto N (TrI H0 H1 n (instC x iv cv sv) y ca N i rb sp) (Q := TrQ H0 H1 n (instC x iv cv sv) y ca N i rb sp) h ?_
  rintro k env H' hk ⟨e2, e5, e6, e16, e17, e40, e41, k', R, hT, hR, hN, hM, hD⟩
  have hn1 := k'.next
  by_cases hkn : k < N
  · have hL' : SlV (fun b => b < n) H' cv x.cost := hL.sub (.keep hw k' (fun b hb => by simp at hb; omega))
    have c0 := AH.cells_of hT.b0
    have c2 := AH.cells_of hT.b2
    obtain ⟨ca0, cc0, ecv⟩ := hL'.slice
    by_cases hi1 : i < x.cost.length
    · obtain ⟨b0, off, sp0, cap, cs, ecv2, q1, q2⟩ := rows_rd hL' (by omega)
      obtain ⟨w, q3, q4⟩ := q2 i hi1
      obtain ⟨wa, wc, ew⟩ := q4.slice
      subst ecv2
      by_cases hj : k < x.cost[i].length
      · obtain ⟨bw, ow, sw, capw, csw, ew2, r1, r2⟩ := ints_rd q4 (by omega)
        obtain ⟨r3, r4⟩ := r2 k hj
        subst ew2
        by_cases hkd : y.kind = 2 ∧ i = k
        · obtain ⟨hk2, rfl⟩ := hkd
          simp (disch := omega) [-getElem?_pos, if_pos, if_neg, decide_eq_true, decide_eq_false, ir_law13_tame_l0, e2, e5, e6, e16, e17, e40, e41, c0, c2, q1, q3, hi1, hj, hk2, r1, r3, IntWalk.i64_in]
          exact ⟨hkn, by simp [e2], by simp [e5], by simp [e6], by simp [e16], by simp [e17], by simp [e40], by simp, k', R, hT, hR, hN, hM, hD⟩
        · obtain ⟨z, m1, s1⟩ := mag_spec x.cost[i][k]
          obtain ⟨b', o', sp', cap', cs', ev, q5, q6, _⟩ := hR.at (by omega)
          simp at q5 ev
          obtain ⟨rfl, rfl, rfl⟩ := ev.1
          obtain ⟨w1, w2, w3⟩ := hR.write (a := z) (c := [.int .i64 z]) q6 (k := k) (by omega) ⟨rfl, by unfold Mag at m1; unfold I64; omega⟩
          simp only [sz_int, Nat.mul_one, Nat.zero_add] at w1 w2
          generalize hHf : AH.set H' rb _ = Hf at *
          have kf : Keep [rb] H' Hf := by rw [← hHf]; exact ⟨Nat.le_refl _, fun b _ hb => AH.set_blk_ne (by simpa using hb)⟩
          have hrl := hR.lt hT.wf rb (by simp)
          have wf : WF Hf := by rw [← hHf]; exact hT.wf.set hrl
          have hTf := hT.kept h0 wf kf (by simp; exact hrb)
          have fin : Keep [rb] H1 Hf ∧ ∃ R : List Int, Tm H0 Hf n (instC x iv (.slice (some ⟨b0, off, sp0⟩) x.cost.length cap) sv) (instC y nilS ca nilS) ∧ OwnL (fun _ => False) Hf T_int64 (.slice (some ⟨rb, 0, sp⟩) N N) R [rb] ∧ R.length = N ∧ (∀ z ∈ R, Mag (-2147483648) z) ∧ (y.kind = 2 → R.getD i 0 = 0) := by
            refine ⟨k'.trans' kf, R.set k z, hTf, w2, by simp [hN], fun a ha => ?_, fun h2 => ?_⟩
            · rcases List.mem_or_eq_of_mem_set ha with h | h
              · exact hM a h
              · rw [h]; exact m1
            · rw [List.getD_eq_getElem?_getD, List.getElem?_set_ne (fun h => hkd ⟨h2, h.symm⟩), ← List.getD_eq_getElem?_getD]; exact hD h2
          by_cases hk2 : y.kind = 2
          · have hik : ¬ (i : Int) = k := fun h => hkd ⟨hk2, by omega⟩
            simp (disch := omega) [-getElem?_pos, if_pos, if_neg, decide_eq_true, decide_eq_false, ir_law13_tame_l0, e2, e5, e6, e16, e17, e40, e41, c0, c2, q1, q3, hi1, hj, hk2, hik, r1, r3, IntWalk.i64_in]
            refine AFn.pure (s1 _) ?_
            simp (disch := omega) [-getElem?_pos, if_pos, if_neg, decide_eq_true, decide_eq_false, w1, e2, e5, e6, e16, e17, e40, e41, IntWalk.i64_in]
            exact ⟨hkn, by simp [e2], by simp [e5], by simp [e6], by simp [e16], by simp [e17], by simp [e40], by simp, fin⟩
          · simp (disch := omega) [-getElem?_pos, if_pos, if_neg, decide_eq_true, decide_eq_false, ir_law13_tame_l0, e2, e5, e6, e16, e17, e40, e41, c0, c2, q1, q3, hi1, hj, hk2, r1, r3, IntWalk.i64_in]
            refine AFn.pure (s1 _) ?_
            simp (disch := omega) [-getElem?_pos, if_pos, if_neg, decide_eq_true, decide_eq_false, w1, e2, e5, e6, e16, e17, e40, e41, IntWalk.i64_in]
            exact ⟨hkn, by simp [e2], by simp [e5], by simp [e6], by simp [e16], by simp [e17], by simp [e40], by simp, fin⟩
      · subst ew
        simp (disch := omega) [-getElem?_pos, if_pos, if_neg, decide_eq_true, decide_eq_false, ir_law13_tame_l0, e2, e5, e6, e16, e17, e40, e41, c0, c2, q1, q3, hi1, hj, IntWalk.i64_in]
        exact ⟨hkn, by simp [e2], by simp [e5], by simp [e6], by simp [e16], by simp [e17], by simp [e40], by simp, k', R, hT, hR, hN, hM, hD⟩
    · subst ecv
      simp (disch := omega) [-getElem?_pos, if_pos, if_neg, decide_eq_true, decide_eq_false, ir_law13_tame_l0, e2, e5, e6, e16, e17, e40, e41, c0, c2, hi1, IntWalk.i64_in]
      exact ⟨hkn, by simp [e2], by simp [e5], by simp [e6], by simp [e16], by simp [e17], by simp [e40], by simp, k', R, hT, hR, hN, hM, hD⟩
  · obtain rfl : k = N := by omega
    simp (disch := omega) [-getElem?_pos, if_pos, if_neg, decide_eq_true, decide_eq_false, ir_law13_tame_l0, e40, e41]
    exact ⟨rfl, k', R, hT, hR, hN, hM, hD⟩
def RB (m : Nat) (H' : AH) (S : List Nat) : Nat → Prop := fun b => m ≤ b ∧ b < H'.next ∧ b ∉ S
def RowOk (y : InstD) (N : Nat) (M : List (List Int)) : Prop := (∀ r ∈ M, r.length = N ∧ ∀ z ∈ r, Mag (-2147483648) z) ∧ (y.kind = 2 → ∀ k (h : k < M.length), M[k].getD k 0 = 0)
def TcI (H0 H1 : AH) (n : Nat) (xc : List Value) (y : InstD) (N : Nat) (k : Nat) (env : Env) (H' : AH) : Prop :=
  env 2 = some (.pointer (some ⟨n, 0, none⟩)) ∧ env 5 = some (.func (.func F_law13_tame_1) #[] #[]) ∧ env 6 = some (.pointer (some ⟨n + 2, 0, none⟩)) ∧ env 15 = some (.int .i64 N) ∧ env 34 = some (.int .i64 N) ∧ env 35 = some (.int .i64 k) ∧ Keep [n + 2] H1 H' ∧
    ∃ ca M S, Tm H0 H' n xc (instC y nilS ca nilS) ∧ OwnL (RB H1.next H' S) H' T_Lint64 ca M S ∧ M.length = k ∧ RowOk y N M ∧ ∀ b ∈ S, H1.next ≤ b
def TcQ (H0 H1 : AH) (n : Nat) (xc : List Value) (y : InstD) (N : Nat) (e : AExit) (env : Env) (H' : AH) : Prop :=
  e = .exit 1 ∧ Keep [n + 2] H1 H' ∧
    ∃ ca M S, Tm H0 H' n xc (instC y nilS ca nilS) ∧ OwnL (RB H1.next H' S) H' T_Lint64 ca M S ∧ M.length = N ∧ RowOk y N M ∧ ∀ b ∈ S, H1.next ≤ b
theorem tame_l1 {H0 H1 : AH} {n : Nat} {x y : InstD} {iv cv sv : Value} {N : Nat} (hw : WF H1) (h0 : H0.next = n) (h1 : n + 3 ≤ H1.next) (hL : SlV (fun b => b < n) H1 cv x.cost) (hl : N ≤ 100) {env : Env} (h : TcI H0 H1 n (instC x iv cv sv) y N 0 env H1) :
    wpC Try.prog 130 (.loop ir_law13_tame_l1) (TcQ H0 H1 n (instC x iv cv sv) y N) env H1 := by
  refine loop_upto N (TcI H0 H1 n (instC x iv cv sv) y N) (Q := TcQ H0 H1 n (instC x iv cv sv) y N) h ?_
  rintro k env H' hk ⟨e2, e5, e6, e15, e34, e35, k', ca, M, S, hT, hA, hM, hF, hS⟩
  have hn1 := k'.next
  by_cases hkn : k < N
  · have hL' : SlV (fun b => b < n) H' cv x.cost := hL.sub (.keep hw k' (fun b hb => by simp at hb; omega))
    have hAn := hA.lt hT.wf
    have hn := hT.hn
    simp (disch := omega) [-getElem?_pos, if_pos, if_neg, decide_eq_true, decide_eq_false, ir_law13_tame_l1, e2, e5, e6, e15, e34, e35, IntWalk.i64_in]
    generalize hHb : AH.alloc H' _ = Hb
    have kb : Keep [] H' Hb := by rw [← hHb]; exact .alloc
    have wb : WF Hb := by rw [← hHb]; exact WF.alloc hT.wf
    have nb : Hb.next = H'.next + 1 := by rw [← hHb]; simp
    have hR0 : OwnL (fun _ => False) Hb T_int64 (.slice (some ⟨H'.next, 0, none⟩) N N) (List.replicate N (0 : Int)) [H'.next] := by
      have hb : Hb.blk H'.next = some (.row (List.replicate N (.int .i64 0)) T_int64 true) := by rw [← hHb, AH.alloc_blk_new, ← zeros_i64]
      refine ⟨List.replicate N (.int .i64 0), .inr ⟨H'.next, 0, none, N, _, by simp, rfl, hb, by simp, by simp, by simp, .inl rfl⟩, fun i hi => ?_, by simp⟩
      simp at hi
      refine ⟨?_, by simp; unfold I64; omega⟩
      rw [List.getElem_replicate]
      unfold chunk
      show List.take 1 (List.drop (i * 1) _) = _
      rw [List.drop_replicate, List.take_replicate, show min 1 (N - i * 1) = 1 by omega]
      rfl
    refine wpC_use (tame_l0 (H0 := H0) (H1 := Hb) (N := N) (i := k) (rb := H'.next) (sp := none) wb h0 (by omega) (by omega) (hL'.kept hT.wf kb) hl hkn ⟨by simp [e2], by simp [e5], by simp [e6], by simp, by simp, by simp, by simp, .refl, _, hT.kept h0 wb kb (by simp), hR0, by simp, fun z hz => by rw [List.eq_of_mem_replicate hz]; unfold Mag; omega, fun _ => by simp [List.getD_eq_getElem?_getD, List.getElem?_replicate, hkn]⟩) ?_
    rintro e env2 Hc ⟨rfl, kc, R, hTc, hRc, hRN, hRM, hRD⟩ hu
    have u2 := hu 2 (by decide)
    have u5 := hu 5 (by decide)
    have u6 := hu 6 (by decide)
    have u15 := hu 15 (by decide)
    have u17 := hu 17 (by decide)
    have u34 := hu 34 (by decide)
    have u35 := hu 35 (by decide)
    have wc := hTc.wf
    have nc := kc.next
    have kbc : Keep [H'.next] H' Hc := (kb.mono (by simp)).trans' kc
    have kc0 : Keep [] H' Hc := kbc.mono (by simp)
    have c2 := AH.cells_of hTc.b2
    have hAc : OwnL (RB H1.next H' S) Hc T_Lint64 ca M S := hA.kept hT.wf kc0
    have pE : elemsA (Hc.alloc (.row [.slice (some ⟨H'.next, 0, none⟩) N N] T_Lint64 true)) 1 (.slice (some ⟨Hc.next, 0, none⟩) 1 1) = some [.slice (some ⟨H'.next, 0, none⟩) N N] := elems_new rfl
    have hRs : SlV (fun b => b = H'.next) Hc (.slice (some ⟨H'.next, 0, none⟩) N N) R := hRc.slv (fun _ h => h.elim) (by simp) (by omega)
    obtain ⟨va, vc, Hd, S', p1, hA', kd, wd, i1⟩ := hAc.push (q := fun b => RB H1.next H' S b ∨ b = H'.next) wc (cs := [.slice (some ⟨H'.next, 0, none⟩) N N]) (a := R) ⟨_, rfl, hRs.mono fun b hb => .inr hb⟩ T_Lint64 24 (fun _ h => .inl h) (fun b hb => by rcases hb with h | h; have := h.2.1; omega; omega)
      (fun b hb => by rintro (h | h); exact h.2.2 hb; have := hAn b hb; omega) (by omega) (by omega)
    obtain ⟨Hf, w2, hTf, hKf, nf, wf, ff⟩ := tm_put (c := 3) (out' := instC y nilS (.slice va (M.length + 1) vc) nilS) h0 h1 hTc (k'.trans' (kc0.mono (by simp))) wd kd hS rfl (by simp)
    simp only [sz_list] at p1
    simp (disch := omega) [-getElem?_pos, if_pos, if_neg, decide_eq_true, decide_eq_false, c2, u2, u5, u6, u15, u17, u34, u35, pE, p1, w2, e2, e5, e6, e15, e34, e35, IntWalk.i64_in]
    have hS' : ∀ b ∈ S', H1.next ≤ b := fun b hb => by
      rcases i1 b hb with h | h
      · exact hS b h
      · omega
    have hA'n := hA'.lt wd
    refine ⟨hkn, by simp [e2, u2], by simp [e5, u5], by simp [e6, u6], by simp [e15, u15], by simp [e34, u34], by simp, hKf, _, M ++ [R], S', hTf, ?_, by rw [List.length_append, hM]; rfl, ⟨fun r hr => ?_, fun h2 j hj => ?_⟩, hS'⟩
    · refine hA'.up (fun b hb => ?_) (fun b hb cs hc => ?_) (fun b hb => ff b (by have := hS' b hb; omega)) (fun b hb h => h.2.2 hb)
      · have hd := kd.next
        rcases hb with h | h
        · refine ⟨h.1, by have := h.2.1; omega, fun hs => ?_⟩
          rcases i1 b hs with g | g
          · exact h.2.2 g
          · have := h.2.1; omega
        · refine ⟨by omega, by omega, fun hs => ?_⟩
          rcases i1 b hs with g | g
          · have := hAn b g; omega
          · omega
      · have : b ≠ n + 2 := by
          rcases hb with h | h
          · have := h.1; omega
          · omega
        unfold AH.cells at hc ⊢
        rw [ff b this]; exact hc
    · rcases List.mem_append.1 hr with hr | hr
      · exact hF.1 r hr
      · simp at hr; subst hr; exact ⟨hRN, hRM⟩
    · rw [List.getElem_append]
      split
      · exact hF.2 h2 j _
      · simp at hj
        obtain rfl : j = k := by omega
        simpa using hRD h2
  · obtain rfl : k = N := by omega
    simp (disch := omega) [-getElem?_pos, if_pos, if_neg, decide_eq_true, decide_eq_false, ir_law13_tame_l1, e34, e35]
    exact ⟨rfl, k', ca, M, S, hT, hA, hM, hF, hS⟩
/-! ### sets -/
theorem rises_up {l n m : Int} (h : n ≤ m) : ∀ {E : List Int}, Rises l n E → Rises l m E
  | [], _ => trivial
  | x :: E, ⟨h1, h2, h3⟩ => ⟨h1, by omega, rises_up h h3⟩
theorem rises_snoc {n : Int} : ∀ {E : List Int} {l : Int}, l < n → Rises l n E → Rises l (n + 1) (E ++ [n])
  | [], l, h, _ => ⟨h, by omega, trivial⟩
  | x :: E, l, _, ⟨h1, h2, h3⟩ => ⟨h1, by omega, rises_snoc h2 h3⟩
structure Sm (H1 H' : AH) (q : Nat) (c : Int) (E : List Int) : Prop where
  wf : WF H'
  keep : Keep [q] H1 H'
  own : ∃ ev S, H'.blk q = some (.row [.int .i64 c, ev] T_secateurlaw13_Set true) ∧ OwnL (fun _ => False) H' T_int ev E S ∧ ∀ b ∈ S, H1.next ≤ b
def TeI (H' : AH) (q : Nat) (e : Nat) (iv : Value) (N : Nat) (k : Nat) (env : Env) (H : AH) : Prop :=
  env 11 = some (.pointer (some ⟨q, 0, none⟩)) ∧ env 12 = some (.int .i64 e) ∧ env 166 = some iv ∧ env 167 = some (.int .i64 N) ∧ env 168 = some (.int .i64 k) ∧ H = H'
def TeQ (H1 : AH) (q : Nat) (c : Int) (E : List Int) (e : Nat) (x : AExit) (env : Env) (H : AH) : Prop :=
  x = .exit 11 ∧ (Sm H1 H q c E ∨ Sm H1 H q c (E ++ [(e : Int)]))
theorem tame_l2 {H1 H' : AH} {q : Nat} {c : Int} {E : List Int} {e : Nat} {p : Nat → Prop} {iv : Value} {L : List Int} (hq : q < H1.next) (hS : Sm H1 H' q c E) (hE : E.length ≤ 100) (he : e ≤ 100) (hL : SlV p H' iv L) {env : Env} (h : TeI H' q e iv L.length 0 env H') :
    wpC Try.prog 130 (.loop ir_law13_tame_l2) (TeQ H1 q c E e) env H' := by
  refine loop_upto L.length (TeI H' q e iv L.length) (Q := TeQ H1 q c E e) h ?_
  rintro k env H hk ⟨e11, e12, e166, e167, e168, rfl⟩
  have hLm := hL.max
  by_cases hkn : k < L.length
  · obtain ⟨b0, off, sp, cap, cs, rfl, q1, q2⟩ := ints_rd hL (by omega)
    obtain ⟨q3, q4⟩ := q2 k hkn
    obtain ⟨wf, keep, ev, S, hb, hA, hSn⟩ := hS
    have cq := AH.cells_of hb
    generalize L[k] = z at *
    by_cases hz : (if 0 < z then z else 0).tmod 9 = e
    · simp (disch := omega) [-getElem?_pos, if_pos, if_neg, decide_eq_true, decide_eq_false, ir_law13_tame_l2, e11, e12, e166, e167, e168, q1, q3, cq, hz, IntWalk.i64_in]
      have pE : elemsA (H.alloc (.row [.int .i64 e] T_int true)) 1 (.slice (some ⟨H.next, 0, none⟩) 1 1) = some [.int .i64 e] := elems_new rfl
      obtain ⟨va, vc, Hd, S', p1, hA', kd, wd, i1⟩ := hA.push (q := fun _ => False) wf (cs := [.int .i64 e]) (a := (e : Int)) ⟨rfl, by unfold I64; omega⟩ T_int 8 (fun _ h => h) (fun b hb => hb.elim) (by simp) (by omega) (by omega)
      have hn1 := keep.next
      have hn2 := kd.next
      have hd : Hd.blk q = some (.row [.int .i64 c, ev] T_secateurlaw13_Set true) := by rw [kd.blk q (by omega) (fun h => by have := hSn q h; omega)]; exact hb
      have w2 := writeA_row (off := 1) (news := [.slice va (E.length + 1) vc]) hd
      simp only [over, List.take_succ_cons, List.take_zero, List.drop_succ_cons, List.drop_zero, List.length_cons, List.length_nil, List.cons_append, List.nil_append] at w2
      simp only [sz_int] at p1
      simp (disch := omega) [-getElem?_pos, if_pos, if_neg, decide_eq_true, decide_eq_false, pE, p1, w2, e11, e12, IntWalk.i64_in]
      have hS' : ∀ b ∈ S', H1.next ≤ b := fun b hb => by
        rcases i1 b hb with h | h
        · exact hSn b h
        · omega
      refine ⟨rfl, .inr ⟨wd.set (by omega), ⟨by simp; omega, fun b hb hs => ?_⟩, _, S', AH.set_blk_same, hA'.over (fun b h => h.elim) fun b hb => AH.set_blk_ne (by have := hS' b hb; omega), hS'⟩⟩
      rw [AH.set_blk_ne (by simpa using hs), kd.blk b (by omega) (fun h => by have := hSn b h; omega), keep.blk b hb hs]
    · simp (disch := omega) [-getElem?_pos, if_pos, if_neg, decide_eq_true, decide_eq_false, ir_law13_tame_l2, e11, e12, e166, e167, e168, q1, q3, cq, hz, IntWalk.i64_in]
      exact ⟨hkn, by simp [e11], by simp [e12], by simp [e166], by simp [e167], by simp, rfl⟩
  · obtain rfl : k = L.length := by omega
    simp (disch := omega) [-getElem?_pos, if_pos, if_neg, decide_eq_true, decide_eq_false, ir_law13_tame_l2, e167, e168]
    exact ⟨rfl, .inl hS⟩
def TkI (H1 : AH) (q q10 : Nat) (c : Int) (xs : Value) (N : Nat) (k : Nat) (env : Env) (H : AH) : Prop :=
  env 10 = some (.pointer (some ⟨q10, 0, none⟩)) ∧ env 11 = some (.pointer (some ⟨q, 0, none⟩)) ∧ env 156 = some (.int .i64 N) ∧ env 157 = some (.int .i64 k) ∧ ∃ E : List Int, Sm H1 H q c E ∧ Rises (-1) k E ∧ E.length ≤ k
def TkQ (H1 : AH) (q : Nat) (c : Int) (N : Nat) (x : AExit) (env : Env) (H : AH) : Prop :=
  x = .exit 9 ∧ ∃ E : List Int, Sm H1 H q c E ∧ Rises (-1) N E ∧ E.length ≤ N
theorem tame_l3 {H1 : AH} {q q10 n : Nat} {c sc : Int} {N : Nat} {xs : Value} {L : List Int} (hw : WF H1) (hq : q < H1.next) (hq10 : q10 < H1.next) (hne : q10 ≠ q) (hnq : n ≤ q) (h10 : H1.cells q10 = some [.int .i64 sc, xs]) (hL : SlV (fun b => b < n) H1 xs L) (hN : N ≤ 100) {env : Env} (h : TkI H1 q q10 c xs N 0 env H1) :
    wpC Try.prog 130 (.loop ir_law13_tame_l3) (TkQ H1 q c N) env H1 := by
  refine loop_upto N (TkI H1 q q10 c xs N) (Q := TkQ H1 q c N) h ?_
  rintro k env H hk ⟨e10, e11, e156, e157, E, hS, hE, hl⟩
  by_cases hkn : k < N
  · have hL' : SlV (fun b => b < n) H xs L := hL.sub (.keep hw hS.keep (fun b hb => by simp at hb; omega))
    have c10 : H.cells q10 = some [.int .i64 sc, xs] := cells_keep hw hS.keep (by simpa using hne) h10
    obtain ⟨m, hm⟩ : ∃ m : Nat, m = min L.length 40 := ⟨_, rfl⟩
    obtain ⟨w, hsl, hz⟩ := hL'.sl (m := m) (by omega)
    have hmm : (if (40 : Int) < (L.length : Int) then (40 : Int) else (L.length : Int)) = (m : Int) := by split <;> omega
    obtain ⟨xa, xc, rfl⟩ := hL'.slice
    have hzl : (L.take m).length = m := by rw [List.length_take]; omega
    generalize L.take m = Z at *
    obtain ⟨wa, wc, rfl⟩ := hz.slice
    simp only [sz_int] at hsl
    simp (disch := omega) [-getElem?_pos, if_pos, if_neg, decide_eq_true, decide_eq_false, ir_law13_tame_l3, e10, e11, e156, e157, c10, ↓ieval_slhi, hmm, hsl, IntWalk.i64_in]
    refine wpC_use (tame_l2 (e := k) hq hS (by omega) (by omega) hz ⟨by simp [e11], by simp, by simp [hzl], by simp [hzl], by simp, rfl⟩) ?_
    rintro e env2 H' ⟨rfl, hS'⟩ hu
    have u10 := hu 10 (by decide)
    have u11 := hu 11 (by decide)
    have u156 := hu 156 (by decide)
    have u157 := hu 157 (by decide)
    simp (disch := omega) [-getElem?_pos, if_pos, if_neg, decide_eq_true, decide_eq_false, u10, u11, u156, u157, e10, e11, e156, e157, IntWalk.i64_in]
    refine ⟨hkn, by simp [u10, e10], by simp [u11, e11], by simp [u156, e156], by simp, ?_⟩
    rcases hS' with hS' | hS'
    · exact ⟨E, hS', rises_up (by omega) hE, by omega⟩
    · exact ⟨_, hS', by have := rises_snoc (n := k) (by omega) hE; simpa using this, by simp; omega⟩
  · obtain rfl : k = N := by omega
    simp (disch := omega) [-getElem?_pos, if_pos, if_neg, decide_eq_true, decide_eq_false, ir_law13_tame_l3, e156, e157]
    exact ⟨rfl, E, hS, hE, hl⟩
def SetOk (N : Nat) (M : List SetD) : Prop := ∀ s ∈ M, Mag 0 s.cost ∧ Rises (-1) N s.elems ∧ s.elems.length ≤ N
def TsI (H0 H1 : AH) (n : Nat) (xc : List Value) (y : InstD) (iv : Value) (N : Nat) (k : Nat) (env : Env) (H' : AH) : Prop :=
  env 5 = some (.func (.func F_law13_tame_1) #[] #[]) ∧ env 6 = some (.pointer (some ⟨n + 2, 0, none⟩)) ∧ env 143 = some iv ∧ env 144 = some (.int .i64 N) ∧ env 145 = some (.int .i64 k) ∧ Keep [n + 2] H1 H' ∧
    ∃ sa M S, Tm H0 H' n xc (instC y nilS nilS sa) ∧ OwnL (RB H1.next H' S) H' T_secateurlaw13_Set sa M S ∧ M.length = k ∧ SetOk y.size.toNat M ∧ ∀ b ∈ S, H1.next ≤ b
def TsQ (H0 H1 : AH) (n : Nat) (xc : List Value) (y : InstD) (N : Nat) (e : AExit) (env : Env) (H' : AH) : Prop :=
  e = .exit 7 ∧ Keep [n + 2] H1 H' ∧
    ∃ sa M S, Tm H0 H' n xc (instC y nilS nilS sa) ∧ OwnL (RB H1.next H' S) H' T_secateurlaw13_Set sa M S ∧ M.length = N ∧ SetOk y.size.toNat M ∧ ∀ b ∈ S, H1.next ≤ b
theorem tame_l4 {H0 H1 : AH} {n : Nat} {xc : List Value} {y : InstD} {iv : Value} {L : List SetD} {Z : Nat} (hw : WF H1) (h0 : H0.next = n) (h1 : n + 3 ≤ H1.next) (hZ : y.size = Z) (hZ9 : Z < 9) (hL : SlV (fun b => b < n) H1 iv L) (hl : L.length ≤ 100) {env : Env} (h : TsI H0 H1 n xc y iv L.length 0 env H1) :
    wpC Try.prog 130 (.loop ir_law13_tame_l4) (TsQ H0 H1 n xc y L.length) env H1 := by
  refine loop_upto L.length (TsI H0 H1 n xc y iv L.length) (Q := TsQ H0 H1 n xc y L.length) h ?_
  rintro k env H' hk ⟨e5, e6, e143, e144, e145, k', sa, M, S, hT, hA, hM, hF, hS⟩
  have hn1 := k'.next
  by_cases hkn : k < L.length
  · have hL' : SlV (fun b => b < n) H' iv L := hL.sub (.keep hw k' (fun b hb => by simp at hb; omega))
    obtain ⟨b0, off, sp, cap, cs, rfl, q1, q2⟩ := sets_rd hL' (by omega)
    obtain ⟨xv, q3, q4, q5, q6, q7⟩ := q2 k hkn
    generalize L[k] = s at *
    have hAn := hA.lt hT.wf
    have hn := hT.hn
    obtain ⟨z1, m1, s1⟩ := mag_spec s.cost
    have hz : ∀ {H : AH}, (H.alloc (.row [.int .i64 0, .slice none 0 0] T_secateurlaw13_Set true)).blk H.next = some (.row [.int .i64 0, .slice none 0 0] T_secateurlaw13_Set true) := fun {H} => AH.alloc_blk_new
    simp (disch := omega) [-getElem?_pos, if_pos, if_neg, decide_eq_true, decide_eq_false, ir_law13_tame_l4, e5, e6, e143, e144, e145, q1, q3, writeA_row hz, over, IntWalk.i64_in]
    refine AFn.pure (s1 _) ?_
    have hz2 : ((H'.alloc (.row [.int .i64 s.cost, xv] T_secateurlaw13_Set true)).alloc (.row [.int .i64 0, .slice none 0 0] T_secateurlaw13_Set true)).blk (H'.next + 1) = some (.row [.int .i64 0, .slice none 0 0] T_secateurlaw13_Set true) := hz
    have c2 := AH.cells_of hT.b2
    have f1 : Mag 0 (if 0 < z1 then z1 else 0) := by unfold Mag at *; split <;> omega
    simp (disch := omega) [-getElem?_pos, if_pos, if_neg, decide_eq_true, decide_eq_false, writeA_row hz2, over, c2, e5, e6, e143, e144, e145, hZ, IntWalk.i64_in]
    generalize (if 0 < z1 then z1 else 0) = z3 at *
    generalize hHb : AH.set _ _ _ = Hb
    have kb : Keep [] H' Hb := by rw [← hHb]; exact .new_set (by omega) (.new_alloc .alloc)
    have wb : WF Hb := by rw [← hHb]; refine WF.set (WF.alloc (WF.alloc hT.wf)) ?_; simp
    have nb : Hb.next = H'.next + 2 := by rw [← hHb]; simp
    have cb : Hb.cells H'.next = some [.int .i64 s.cost, xv] := by rw [← hHb]; simp (disch := omega) [if_neg, if_pos]
    have bb : Hb.blk (H'.next + 1) = some (.row [.int .i64 z3, nilS] T_secateurlaw13_Set true) := by rw [← hHb]; exact AH.set_blk_same
    clear hHb
    have hxv : SlV (fun b => b < n) Hb xv s.elems := q7.kept hT.wf kb
    refine wpC_use (tame_l3 (H1 := Hb) (q := H'.next + 1) (q10 := H'.next) (N := Z) (c := z3) (n := n) wb (by omega) (by omega) (by omega) (by omega) cb hxv (by omega) ⟨by simp, by simp, by simp, by simp, [], ⟨wb, .refl, _, [], bb, .nil, by simp⟩, trivial, by simp⟩) ?_
    rintro e env2 Hc ⟨rfl, E, ⟨wc, kc, ev, Se, bc, hEo, hSe⟩, hE, hEl⟩ hu
    have u5 := hu 5 (by decide)
    have u6 := hu 6 (by decide)
    have u11 := hu 11 (by decide)
    have u143 := hu 143 (by decide)
    have u144 := hu 144 (by decide)
    have u145 := hu 145 (by decide)
    have nc := kc.next
    have kc0 : Keep [] H' Hc := ((kb.mono (S' := [H'.next + 1]) (by simp)).trans' kc).mono (by simp)
    have hTc := hT.kept h0 wc kc0 (by simp)
    have c2' := AH.cells_of hTc.b2
    have c11 := AH.cells_of bc
    have hAc : OwnL (RB H1.next H' S) Hc T_secateurlaw13_Set sa M S := hA.kept hT.wf kc0
    have pE : elemsA (Hc.alloc (.row [.int .i64 z3, ev] T_secateurlaw13_Set true)) 2 (.slice (some ⟨Hc.next, 0, none⟩) 1 1) = some [.int .i64 z3, ev] := elems_new rfl
    have hEs : SlV (fun b => H'.next ≤ b ∧ b < Hc.next) Hc ev E := hEo.slv (fun _ h => h.elim) (fun b hb => ⟨by have := hSe b hb; omega, hEo.lt wc b hb⟩) (by omega)
    have hev := hEs.cell
    obtain ⟨va, vc, Hd, S', p1, hA', kd, wd, i1⟩ := hAc.push (q := fun b => RB H1.next H' S b ∨ (H'.next ≤ b ∧ b < Hc.next)) wc (cs := [.int .i64 z3, ev]) (a := (⟨z3, E⟩ : SetD)) ⟨ev, rfl, by unfold Mag at f1; unfold I64; simp; omega, hEs.mono fun b hb => .inr hb⟩ T_secateurlaw13_Set 32 (fun _ h => .inl h) (fun b hb => by rcases hb with h | h; have := h.2.1; omega; omega)
      (fun b hb => by rintro (h | h); exact h.2.2 hb; have := hAn b hb; omega) (by omega) (by omega)
    obtain ⟨Hf, w2, hTf, hKf, nf, wf, ff⟩ := tm_put (c := 5) (out' := instC y nilS nilS (.slice va (M.length + 1) vc)) h0 h1 hTc (k'.trans' (kc0.mono (by simp))) wd kd hS rfl (by simp)
    simp only [sz_set] at p1
    have hcx : cut [Value.int .i64 z3, ev] 0 2 = some [Value.int .i64 z3, ev] := rfl
    simp (disch := omega) [-getElem?_pos, if_pos, if_neg, decide_eq_true, decide_eq_false, c2', c11, hcx, over, u5, u6, u11, u143, u144, u145, hev.1, hev.2, pE, p1, w2, e5, e6, e143, e144, e145, IntWalk.i64_in]
    have hS' : ∀ b ∈ S', H1.next ≤ b := fun b hb => by
      rcases i1 b hb with h | h
      · exact hS b h
      · omega
    refine ⟨hkn, by simp [e5, u5], by simp [e6, u6], by simp [e143, u143], by simp [e144, u144], by simp, hKf, _, M ++ [⟨z3, E⟩], S', hTf, ?_, by rw [List.length_append, hM]; rfl, fun r hr => ?_, hS'⟩
    · refine hA'.up (fun b hb => ?_) (fun b hb cs hc => ?_) (fun b hb => ff b (by have := hS' b hb; omega)) (fun b hb h => h.2.2 hb)
      · have hd := kd.next
        rcases hb with h | h
        · refine ⟨h.1, by have := h.2.1; omega, fun hs => ?_⟩
          rcases i1 b hs with g | g
          · exact h.2.2 g
          · have := h.2.1; omega
        · refine ⟨by omega, by omega, fun hs => ?_⟩
          rcases i1 b hs with g | g
          · have := hAn b g; omega
          · omega
      · have : b ≠ n + 2 := by
          rcases hb with h | h
          · have := h.1; omega
          · omega
        unfold AH.cells at hc ⊢
        rw [ff b this]; exact hc
    · rcases List.mem_append.1 hr with hr | hr
      · exact hF r hr
      · simp at hr; subst hr
        rw [hZ]
        exact ⟨f1, by simpa using hE, by simpa using hEl⟩
  · obtain rfl : k = L.length := by omega
    simp (disch := omega) [-getElem?_pos, if_pos, if_neg, decide_eq_true, decide_eq_false, ir_law13_tame_l4, e144, e145]
    exact ⟨rfl, k', sa, M, S, hT, hA, hM, hF, hS⟩
end Go.Proofs.Ytlcddhgfkkjhkaa

set_option maxRecDepth 100000
namespace Go.Proofs.Ytlcddhgfkkjhkaa
open Go Go.Abs
structure Tame (m : Nat) (y : InstD) : Prop where
  ok : y.Ok
  items : y.items.length ≤ m
  cost : y.cost.length < m
  sets : y.sets.length ≤ m
  size : y.size ≤ 8
  elems : ∀ s ∈ y.sets, s.elems.length ≤ 8
theorem mod4 (k : Int) : ∃ d, d = ((k.tmod 4 + 4).tmod 4) ∧ 0 ≤ d ∧ d < 4 ∧ -3 ≤ k.tmod 4 ∧ k.tmod 4 ≤ 3 := by
  refine ⟨_, rfl, ?_⟩
  have h1 : -3 ≤ k.tmod 4 ∧ k.tmod 4 ≤ 3 := by
    have a := Int.tmod_lt_of_pos k (show (0:Int) < 4 by omega)
    have b := Int.lt_tmod_of_pos k (show (0:Int) < 4 by omega)
    omega
  have h2 : 0 ≤ k.tmod 4 + 4 := by omega
  rw [Int.tmod_eq_emod_of_nonneg h2]
  omega
theorem mod9 (k : Int) : ∃ Z : Nat, (if 0 < k then k else 0).tmod 9 = (Z : Int) ∧ Z < 9 := by
  have h : (0 : Int) ≤ if 0 < k then k else 0 := by split <;> omega
  rw [Int.tmod_eq_emod_of_nonneg h]
  exact ⟨((if 0 < k then k else 0) % 9).toNat, by omega, by omega⟩
theorem tm_start {H : AH} (hw : WF H) {xc o : List Value} : Tm H ((((H.alloc (.row xc T_secateurlaw13_Inst true)).alloc (.row [.int .i64 0, .int .i64 0, nilS, nilS, .int .i64 0, nilS] T_secateurlaw13_Inst true)).alloc (.row [.int .i64 0, .int .i64 0, nilS, nilS, .int .i64 0, nilS] T_secateurlaw13_Inst true)).set (H.next + 1 + 1) (.row o T_secateurlaw13_Inst true)) H.next xc o := by
  refine ⟨?_, .new_set (by omega) (.new_alloc (.new_alloc .alloc)), ?_, ?_, ?_, by simp⟩
  · refine WF.set (WF.alloc (WF.alloc (WF.alloc hw))) ?_; simp
  all_goals simp (disch := omega) [nilS, if_neg, if_pos]
theorem tm_end {H0 H2 : AH} {n : Nat} {xc : List Value} {y : InstD} {ia ca sa : Value} (h0 : H0.next = n) (hT : Tm H0 H2 n xc (instC y ia ca sa)) (j1 : I64 y.kind) (j2 : I64 y.cap) (j3 : I64 y.size)
    (h1 : SlV (fun b => n + 3 ≤ b ∧ b < H2.next) H2 ia y.items) (h2 : SlV (fun b => n + 3 ≤ b ∧ b < H2.next) H2 ca y.cost) (h3 : SlV (fun b => n + 3 ≤ b ∧ b < H2.next) H2 sa y.sets) :
    InstV (New H0 (H2.set (n + 1) (.row (instC y ia ca sa) T_secateurlaw13_Inst true))) (H2.set (n + 1) (.row (instC y ia ca sa) T_secateurlaw13_Inst true)) (.agg #[.int .i64 y.kind, .int .i64 y.cap, ia, ca, .int .i64 y.size, sa]) y ∧ Keep [] H0 (H2.set (n + 1) (.row (instC y ia ca sa) T_secateurlaw13_Inst true)) := by
  have mv : ∀ {α : Type} [Ren α] {w : Value} {l : List α}, SlV (fun b => n + 3 ≤ b ∧ b < H2.next) H2 w l → SlV (New H0 (H2.set (n + 1) (.row (instC y ia ca sa) T_secateurlaw13_Inst true))) (H2.set (n + 1) (.row (instC y ia ca sa) T_secateurlaw13_Inst true)) w l := fun h => h.up (fun b hb => ⟨by omega, by simp; omega⟩) (.set (by omega))
  exact ⟨⟨ia, ca, sa, rfl, j1, j2, j3, mv h1, mv h2, mv h3⟩, .new_set (by omega) hT.keep⟩
theorem mag_i64 {n : Int} (h : Mag 0 n) : I64 n := by unfold Mag at h; unfold I64; omega
theorem tame_spec {H : AH} {v : Value} {x : InstD} {m : Nat} (hm2 : 2 ≤ m) (hm : m ≤ 40) (hx : InstV (fun b => b < H.next) H v x) : AFn Try.prog F_law13_tame [v, .int .i64 (m : Nat)] H fun u H' => ∃ y, InstV (New H H') H' u y ∧ Tame m y ∧ Keep [] H H' := by
  obtain ⟨iv, cv, sv, rfl, i1, i2, i3, h1, h2, h3⟩ := hx
  refine AFn.enter mixed ir_law13_tame_eq (by simp [ir_law13_tame]) fun hw => ?_
  obtain ⟨n, hn⟩ : ∃ n, n = H.next := ⟨_, rfl⟩
  rw [← hn] at h1 h2 h3
  obtain ⟨kd, hkd, kd0, kd4, kb1, kb2⟩ := mod4 x.kind
  obtain ⟨ia0, ic0, rfl⟩ := h1.slice
  obtain ⟨ca0, cc0, rfl⟩ := h2.slice
  obtain ⟨sa0, sc0, rfl⟩ := h3.slice
  have min_if' : ∀ a : Nat, (if m < a then (m : Int) else (a : Int)) = ((min a m : Nat) : Int) := fun a => by split <;> omega
  have hm1 := min_if' x.items.length
  have hm3 := min_if' x.sets.length
  have hz : ∀ {H : AH}, (H.alloc (.row [.int .i64 0, .int .i64 0, nilS, nilS, .int .i64 0, nilS] T_secateurlaw13_Inst true)).blk H.next = some (.row [.int .i64 0, .int .i64 0, nilS, nilS, .int .i64 0, nilS] T_secateurlaw13_Inst true) := fun {H} => AH.alloc_blk_new
  rcases (show kd = 0 ∨ kd = 3 ∨ (kd ≠ 0 ∧ kd ≠ 3) by omega) with rfl | rfl | ⟨hk0, hk3⟩
  · simp (disch := omega) [-getElem?_pos, if_pos, if_neg, decide_eq_true, decide_eq_false, ir_law13_tame, ← hkd, over, writeA, IntWalk.i64_in]
    obtain ⟨z1, m1, s1⟩ := mag_spec x.cap
    refine AFn.pure (s1 _) ?_
    have f1 : Mag 0 (if 0 < z1 then z1 else 0) := by unfold Mag at *; split <;> omega
    simp (disch := omega) [-getElem?_pos, if_pos, if_neg, decide_eq_true, decide_eq_false, over, writeA, ↓ieval_slhi, IntWalk.i64_in]
    generalize (if 0 < z1 then z1 else 0) = z3 at *
    generalize hHb : AH.set _ _ _ = Hb
    have hT : Tm H Hb n (instC x (.slice ia0 x.items.length ic0) (.slice ca0 x.cost.length cc0) (.slice sa0 x.sets.length sc0)) (instC ⟨0, z3, [], [], 0, []⟩ nilS nilS nilS) := by
      rw [← hHb, hn]; exact tm_start hw
    clear hHb
    have wb := hT.wf
    have kb := hT.keep
    have nb := hT.hn
    obtain ⟨w, hsl, hz⟩ := (h1.kept hw kb).sl (m := min x.items.length m) (by omega)
    have hlw : (x.items.take (min x.items.length m)).length = min x.items.length m := by rw [List.length_take]; omega
    generalize x.items.take (min x.items.length m) = L at *
    obtain ⟨wa, wc, rfl⟩ := hz.slice
    simp only [sz_pair] at hsl
    rw [← hn]
    simp (disch := omega) [-getElem?_pos, if_pos, if_neg, decide_eq_true, decide_eq_false, hm1, hsl, ↓ieval_slhi]
    refine wpC_use (tame_l5 (H0 := H) (y := ⟨0, z3, [], [], 0, []⟩) wb hn.symm (by omega) hz (by omega) ⟨by simp, by simp, by simp, by simp, by simp, .refl, nilS, [], [], hT, .nil, rfl, by simp, by simp⟩) ?_
    rintro e env2 H2 ⟨rfl, k2, ia, M, S, hT2, hA2, hM2, hF2, hS2⟩ hu2
    have u4 := hu2 4 (by decide)
    have u6 := hu2 6 (by decide)
    have c2 : H2.cells (n + 1 + 1) = some (instC ⟨0, z3, [], [], 0, []⟩ ia nilS nilS) := AH.cells_of hT2.b2
    have hcx := inst_cut ⟨0, z3, [], [], 0, []⟩ ia nilS nilS
    have w1 := writeA_row (off := 0) (news := instC ⟨0, z3, [], [], 0, []⟩ ia nilS nilS) hT2.b1
    simp only [over, List.take_zero, List.length_cons, List.length_nil, List.nil_append, List.drop_succ_cons, List.drop_zero, List.append_nil, Nat.zero_add, Nat.le_refl, if_true] at w1
    obtain ⟨r1, r2⟩ := tm_end (y := ⟨0, z3, M, [], 0, []⟩) hn.symm hT2 (by unfold I64; simp) (mag_i64 f1) (by unfold I64; simp) (hA2.slv (fun _ h => h.elim) (fun b hb => ⟨by have := hS2 b hb; omega, hA2.lt hT2.wf b hb⟩) (by omega)) .nil .nil
    simp (disch := omega) [-getElem?_pos, if_pos, if_neg, decide_eq_true, decide_eq_false, u4, u6, c2, hcx, w1]
    refine ⟨⟨0, z3, M, [], 0, []⟩, r1, ⟨⟨by simp, by simp, ⟨.inl rfl, .inr (.inr rfl), .inr ⟨rfl, rfl⟩⟩, ⟨by simp, by simp; omega, by simp, by simp, by simp⟩, ⟨by simp, by simp⟩, ⟨f1, fun k hk => hF2 _ (List.getElem_mem hk), by simp, by simp⟩, by intro h; simp at h⟩, by simp; omega, by simp; omega, by simp, by simp, by simp⟩, r2⟩
  · obtain ⟨Z, hZ, hZ9⟩ := mod9 x.size
    simp (disch := omega) [-getElem?_pos, if_pos, if_neg, decide_eq_true, decide_eq_false, ir_law13_tame, ← hkd, over, writeA, ↓ieval_slhi, hZ, IntWalk.i64_in]
    generalize hHb : AH.set _ _ _ = Hb
    have hT : Tm H Hb n (instC x (.slice ia0 x.items.length ic0) (.slice ca0 x.cost.length cc0) (.slice sa0 x.sets.length sc0)) (instC ⟨3, 0, [], [], Z, []⟩ nilS nilS nilS) := by
      rw [← hHb, hn]; exact tm_start hw
    clear hHb
    have wb := hT.wf
    have kb := hT.keep
    have nb := hT.hn
    obtain ⟨w, hsl, hz⟩ := (h3.kept hw kb).sl (m := min x.sets.length m) (by omega)
    have hlw : (x.sets.take (min x.sets.length m)).length = min x.sets.length m := by rw [List.length_take]; omega
    generalize x.sets.take (min x.sets.length m) = L at *
    obtain ⟨wa, wc, rfl⟩ := hz.slice
    simp only [sz_set] at hsl
    rw [← hn]
    simp (disch := omega) [-getElem?_pos, if_pos, if_neg, decide_eq_true, decide_eq_false, hm3, hsl, ↓ieval_slhi]
    refine wpC_use (tame_l4 (H0 := H) (y := ⟨3, 0, [], [], Z, []⟩) (Z := Z) wb hn.symm (by omega) rfl hZ9 hz (by omega) ⟨by simp, by simp, by simp, by simp, by simp, .refl, nilS, [], [], hT, .nil, rfl, fun s hs => by simp at hs, by simp⟩) ?_
    rintro e env2 H2 ⟨rfl, k2, sa, M, S, hT2, hA2, hM2, hF2, hS2⟩ hu2
    have u4 := hu2 4 (by decide)
    have u6 := hu2 6 (by decide)
    have c2 : H2.cells (n + 1 + 1) = some (instC ⟨3, 0, [], [], Z, []⟩ nilS nilS sa) := AH.cells_of hT2.b2
    have hcx := inst_cut ⟨3, 0, [], [], Z, []⟩ nilS nilS sa
    have w1 := writeA_row (off := 0) (news := instC ⟨3, 0, [], [], Z, []⟩ nilS nilS sa) hT2.b1
    simp only [over, List.take_zero, List.length_cons, List.length_nil, List.nil_append, List.drop_succ_cons, List.drop_zero, List.append_nil, Nat.zero_add, Nat.le_refl, if_true] at w1
    obtain ⟨r1, r2⟩ := tm_end (y := ⟨3, 0, [], [], Z, M⟩) hn.symm hT2 (by unfold I64; simp) (by unfold I64; simp) (by unfold I64; simp; omega) .nil .nil (hA2.slv (fun b h => ⟨by have := h.1; omega, h.2.1⟩) (fun b hb => ⟨by have := hS2 b hb; omega, hA2.lt hT2.wf b hb⟩) (by omega))
    simp (disch := omega) [-getElem?_pos, if_pos, if_neg, decide_eq_true, decide_eq_false, u4, u6, c2, hcx, w1]
    have hF3 : ∀ s ∈ M, Mag 0 s.cost ∧ Rises (-1) Z s.elems ∧ s.elems.length ≤ Z := fun s hs => by simpa using hF2 s hs
    refine ⟨⟨3, 0, [], [], Z, M⟩, r1, ⟨⟨by simp, by simp, ⟨.inr ⟨rfl, rfl⟩, .inr (.inr rfl), .inl rfl⟩, ⟨by simp, by simp, by simp; omega, by simp, by simp; omega⟩, ⟨by simp, fun k hk => (hF3 _ (List.getElem_mem hk)).2.1⟩, ⟨by simp [Mag], by simp, by simp, fun k hk => (hF3 _ (List.getElem_mem hk)).1⟩, by intro h; simp at h⟩, by simp, by simp; omega, by simp; omega, by simp; omega, fun s hs => by have := (hF3 s hs).2.2; omega⟩, r2⟩
  · obtain ⟨N, hN⟩ : ∃ N : Nat, N = max 1 (min x.cost.length (m - 1)) := ⟨_, rfl⟩
    simp (disch := omega) [-getElem?_pos, if_pos, if_neg, decide_eq_true, decide_eq_false, ir_law13_tame, ← hkd, over, writeA, hk0, hk3, IntWalk.i64_in]
    have hNN : (if 1 < (if (m : Int) - 1 < (x.cost.length : Int) then (m : Int) - 1 else (x.cost.length : Int)) then (if (m : Int) - 1 < (x.cost.length : Int) then (m : Int) - 1 else (x.cost.length : Int)) else 1) = (N : Int) := by (repeat' split) <;> omega
    generalize hHb : AH.set _ _ _ = Hb
    have hT : Tm H Hb n (instC x (.slice ia0 x.items.length ic0) (.slice ca0 x.cost.length cc0) (.slice sa0 x.sets.length sc0)) (instC ⟨kd, 0, [], [], 0, []⟩ nilS nilS nilS) := by
      rw [← hHb, hn]; exact tm_start hw
    clear hHb
    have wb := hT.wf
    have kb := hT.keep
    have nb := hT.hn
    rw [← hn]
    refine wpC_use (tame_l1 (H0 := H) (y := ⟨kd, 0, [], [], 0, []⟩) (N := N) wb hn.symm (by omega) (h2.kept hw kb) (by omega) ⟨by simp, by simp, by simp, by simp [hNN], by simp [hNN], by simp, .refl, nilS, [], [], hT, .nil, rfl, ⟨by simp, by simp⟩, by simp⟩) ?_
    rintro e env2 H2 ⟨rfl, k2, ca, M, S, hT2, hA2, hM2, hF2, hS2⟩ hu2
    have u4 := hu2 4 (by decide)
    have u6 := hu2 6 (by decide)
    have c2 : H2.cells (n + 1 + 1) = some (instC ⟨kd, 0, [], [], 0, []⟩ nilS ca nilS) := AH.cells_of hT2.b2
    have hcx := inst_cut ⟨kd, 0, [], [], 0, []⟩ nilS ca nilS
    have w1 := writeA_row (off := 0) (news := instC ⟨kd, 0, [], [], 0, []⟩ nilS ca nilS) hT2.b1
    simp only [over, List.take_zero, List.length_cons, List.length_nil, List.nil_append, List.drop_succ_cons, List.drop_zero, List.append_nil, Nat.zero_add, Nat.le_refl, if_true] at w1
    obtain ⟨r1, r2⟩ := tm_end (y := ⟨kd, 0, [], M, 0, []⟩) hn.symm hT2 (by unfold I64; simp; omega) (by unfold I64; simp) (by unfold I64; simp) .nil (hA2.slv (fun b h => ⟨by have := h.1; omega, h.2.1⟩) (fun b hb => ⟨by have := hS2 b hb; omega, hA2.lt hT2.wf b hb⟩) (by omega)) .nil
    simp (disch := omega) [-getElem?_pos, if_pos, if_neg, decide_eq_true, decide_eq_false, u4, u6, c2, hcx, w1]
    have hF3 := hF2.1
    refine ⟨⟨kd, 0, [], M, 0, []⟩, r1, ⟨⟨kd0, kd4, ⟨.inr ⟨rfl, rfl⟩, by simp; omega, .inr ⟨rfl, rfl⟩⟩, ⟨fun _ => ⟨by simp; omega, by simp; omega⟩, by simp, by simp, by simp, by simp⟩, ⟨fun k hk => by rw [(hF3 _ (List.getElem_mem hk)).1]; exact hM2.symm, by simp⟩, ⟨by simp [Mag], by simp, fun k hk j hj => (hF3 _ (List.getElem_mem hk)).2 _ (List.getElem_mem hj), by simp⟩, hF2.2⟩, by simp, by simp; omega, by simp, by simp, by simp⟩, r2⟩
end Go.Proofs.Ytlcddhgfkkjhkaa
