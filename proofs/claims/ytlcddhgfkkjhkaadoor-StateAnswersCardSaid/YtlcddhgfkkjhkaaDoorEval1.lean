/-
  package eval (1): rises, fits, parts.
-/
import Derived.Test.YtlcddhgfkkjhkaaDoorNum2
import Derived.Test.YtlcddhgfkkjhkaaDoorLs
import Derived.Test.YtlcddhgfkkjhkaaDoorIrE
import Derived.Test.YtlcddhgfkkjhkaaDoorInst
set_option maxRecDepth 100000
set_option linter.unusedSimpArgs false
set_option linter.unusedVariables false
namespace Go.Abs
open Go
def InstD.wt (x : InstD) (k : Int) : Int := (x.items.getD k.toNat (0, 0)).2
def InstD.val (x : InstD) (k : Int) : Int := (x.items.getD k.toNat (0, 0)).1
def InstD.setE (x : InstD) (k : Int) : SetD := x.sets.getD k.toNat ⟨0, []⟩
def InstD.costE (x : InstD) (i k : Int) : Int := (x.cost.getD i.toNat []).getD k.toNat 0
def orderB (X : List Int) (n : Nat) : Bool := decide (X.length = n) && (List.range n).all fun k => X.count (k : Int) == 1
def InstD.cov (x : InstD) (X : List Int) : Bool := (List.range x.size.toNat).all fun e => X.any fun i => (x.setE i).elems.contains (e : Int)
noncomputable def InstD.may (x : InstD) (X : List Int) : Bool :=
  if x.kind = 0 then tr (Rises (-1) x.items.length X) && decide ((X.map x.wt).sum ≤ x.cap)
  else if x.kind = 1 then orderB X x.cost.length
  else if x.kind = 2 then orderB X x.cost.length && decide (X.getD 0 0 = 0)
  else tr (Rises (-1) x.sets.length X) && x.cov X
def InstD.part (x : InstD) (X : List Int) (i : Nat) : Int :=
  if x.kind = 0 then x.val (X.getD i 0)
  else if x.kind = 1 then x.costE i (X.getD i 0)
  else if x.kind = 2 then x.costE (X.getD i 0) (X.getD ((i + 1) % X.length) 0)
  else (x.setE (X.getD i 0)).cost
def InstD.parts (x : InstD) (X : List Int) : List Int := (List.range X.length).map (x.part X)
noncomputable def InstD.valueE (x : InstD) (X : List Int) : Int := if x.check = 0 then (if x.may X then 0 else 12) else x.check
noncomputable def InstD.value (x : InstD) (X : List Int) : Int := if x.check = 0 then (if x.may X then (x.parts X).sum else 0) else 0
noncomputable def InstD.costOf (x : InstD) (X : List Int) : Int := if x.kind = 0 then -x.value X else x.value X
theorem rises_range {last n : Int} : ∀ {l : List Int}, Rises last n l → ∀ y ∈ l, last < y ∧ y < n
  | [], _, y, hy => by simp at hy
  | a :: l, ⟨h1, h2, h3⟩, y, hy => by
    rcases List.mem_cons.1 hy with rfl | hy
    · exact ⟨h1, h2⟩
    · have := rises_range h3 y hy; omega
theorem rises_len {last n : Int} : ∀ {l : List Int}, Rises last n l → last ≤ n → (l.length : Int) ≤ n - last - 1 ∨ l = []
  | [], _, _ => .inr rfl
  | a :: l, ⟨h1, h2, h3⟩, h => by
    left
    rcases rises_len h3 (by omega) with h4 | rfl
    · simp; omega
    · simp; omega
end Go.Abs
namespace Go.Proofs.YtlcddhgfkkjhkaaDoor
open Go Go.Abs
theorem push_i64e {ty : Nat} {H H1 : AH} {v : Value} {L : List Int} {S : List Nat} (hw : WF H1) (hA : OwnL (fun _ => False) H1 ty v L S) (hk : Keep [] H H1) (hS : ∀ b ∈ S, H.next ≤ b) {a : Int} (ha : I64 a) (hl : L.length ≤ 100000) :
    ∃ va vc H2 S', appendA (H1.alloc (.row [.int .i64 a] ty true)) ty 1 8 v 1 [.int .i64 a] = some (.slice va (L.length + 1) vc, H2) ∧ WF H2 ∧ OwnL (fun _ => False) H2 ty (.slice va (L.length + 1) vc) (L ++ [a]) S' ∧ Keep [] H H2 ∧ (∀ b ∈ S', H.next ≤ b) ∧ Keep S H1 H2 ∧ ∀ b ∈ S', b ∈ S ∨ H1.next ≤ b := by
  obtain ⟨va, vc, Hd, S', p1, hA', kd, wd, i1⟩ := hA.push (q := fun _ => False) hw (cs := [.int .i64 a]) (a := a) ⟨rfl, ha⟩ ty 8 (fun _ h => h) (fun b hb => hb.elim) (by simp) (by omega) (by omega)
  have hn := hk.next
  refine ⟨va, vc, Hd, S', p1, wd, hA', hk.trans kd (fun b hb hlt => by have := hS b hb; omega), fun b hb => ?_, kd, i1⟩
  rcases i1 b hb with h | h
  · exact hS b h
  · omega
def RiI (H : AH) (v : Value) (X : List Int) (n : Int) (k : Nat) (env : Env) (H' : AH) : Prop :=
  H' = H ∧ env 1 = some (.int .i64 n) ∧ env 8 = some v ∧ env 9 = some (.int .i64 X.length) ∧ env 10 = some (.int .i64 k) ∧ env 5 = some (.int .i64 (if k = 0 then -1 else X.getD (k - 1) 0)) ∧
    ∀ j (h : j < X.length), j < k → (if j = 0 then -1 else X.getD (j - 1) 0) < X[j] ∧ X[j] < n
def RiQ (H : AH) (X : List Int) (n : Int) (e : AExit) (env : Env) (H' : AH) : Prop :=
  H' = H ∧ ((e = .exit 0 ∧ Rises (-1) n X) ∨ (e = .ret ∧ env 4 = some (.bool false) ∧ ¬ Rises (-1) n X))
theorem rises_spec {p : Nat → Prop} {H : AH} {v : Value} {X : List Int} {n : Int} (hX : SlV p H v X) : AFn Tryd.prog F_eval_rises [v, .int .i64 n] H fun u H' => u = .bool (tr (Rises (-1) n X)) ∧ H' = H := by
  have hmax := hX.max
  obtain ⟨va, vc, rfl⟩ := hX.slice
  refine AFn.enter mixed ir_eval_rises_eq (by simp [ir_eval_rises]) fun hw => ?_
  simp (disch := omega) [-getElem?_pos, if_pos, if_neg, decide_eq_true, decide_eq_false, ir_eval_rises]
  refine wpC_use (loop_upto X.length (RiI H (.slice va X.length vc) X n) (Q := RiQ H X n) ⟨rfl, by simp, by simp, by simp, by simp, by simp, by omega⟩ ?_) ?_
  · rintro k env H' hk ⟨rfl, e1, e8, e9, e10, e5, hj⟩
    by_cases hkn : k < X.length
    · obtain ⟨b0, off, sp, cap, cs, hcv, q1, q2⟩ := ints_rd hX (by omega)
      obtain ⟨q3, q4⟩ := q2 k hkn
      cases hcv
      have hg : X[k]?.getD 0 = X[k] := by simp [hkn]
      have key : X[k] < n → ((if k = 0 then -1 else X.getD (k - 1) 0) < X[k]) → ∀ j (h : j < X.length), j < k + 1 → (if j = 0 then -1 else X.getD (j - 1) 0) < X[j] ∧ X[j] < n := fun g1 g2 j hjn hjk => by
        by_cases hjk' : j = k
        · subst hjk'; exact ⟨g2, g1⟩
        · exact hj j hjn (by omega)
      have bad : ¬ ((if k = 0 then -1 else X.getD (k - 1) 0) < X[k] ∧ X[k] < n) → ¬ Rises (-1) n X := fun hb hR => hb (rises_get.1 hR k hkn)
      generalize X[k] = z at *
      generalize (if k = 0 then (-1 : Int) else X.getD (k - 1) 0) = last at *
      by_cases h1 : z ≤ last
      · simp (disch := omega) [-getElem?_pos, if_pos, if_neg, decide_eq_true, decide_eq_false, ir_eval_rises_l0, e1, e5, e8, e9, e10, q1, q3, h1, IntWalk.i64_in]
        exact ⟨rfl, .inr ⟨rfl, by simp, bad (by omega)⟩⟩
      · by_cases h2 : z ≥ n
        · simp (disch := omega) [-getElem?_pos, if_pos, if_neg, decide_eq_true, decide_eq_false, ir_eval_rises_l0, e1, e5, e8, e9, e10, q1, q3, h1, h2, IntWalk.i64_in]
          exact ⟨rfl, .inr ⟨rfl, by simp, bad (by omega)⟩⟩
        · simp (disch := omega) [-getElem?_pos, if_pos, if_neg, decide_eq_true, decide_eq_false, ir_eval_rises_l0, e1, e5, e8, e9, e10, q1, q3, h1, h2, IntWalk.i64_in]
          exact ⟨hkn, rfl, by simp [e1], by simp [e8], by simp [e9], by simp, by simp [hg], key (by omega) (by omega)⟩
    · obtain rfl : k = X.length := by omega
      simp (disch := omega) [-getElem?_pos, if_pos, if_neg, decide_eq_true, decide_eq_false, ir_eval_rises_l0, e1, e9, e10]
      exact ⟨rfl, .inl ⟨rfl, rises_get.2 fun j h => hj j h h⟩⟩
  · rintro e env2 H' ⟨rfl, ⟨rfl, hR⟩ | ⟨rfl, e4, hR⟩⟩ hu
    · rw [tr_true hR]
      simp (disch := omega) [-getElem?_pos, if_pos, if_neg, decide_eq_true, decide_eq_false, ]
    · rw [tr_false hR]
      simp (disch := omega) [-getElem?_pos, if_pos, if_neg, decide_eq_true, decide_eq_false, e4]
def FiI (H1 : AH) (q : Nat) (v : Value) (X : List Int) (L : List Int) (k : Nat) (env : Env) (H' : AH) : Prop :=
  env 2 = some (.pointer (some ⟨q, 0, none⟩)) ∧ env 10 = some v ∧ env 11 = some (.int .i64 X.length) ∧ env 12 = some (.int .i64 k) ∧ WF H' ∧ Keep [] H1 H' ∧
    ∃ ov S, env 5 = some ov ∧ OwnL (fun _ => False) H' T_int64 ov (L.take k) S ∧ ∀ b ∈ S, H1.next ≤ b
def FiQ (H1 : AH) (q : Nat) (L : List Int) (e : AExit) (env : Env) (H' : AH) : Prop :=
  e = .exit 0 ∧ env 2 = some (.pointer (some ⟨q, 0, none⟩)) ∧ WF H' ∧ Keep [] H1 H' ∧ ∃ ov, env 5 = some ov ∧ SlV (fun _ => True) H' ov L
theorem fits_l0 {H1 : AH} {q : Nat} {x : InstD} {iv cv sv v : Value} {X : List Int} (hw1 : WF H1) (hq : H1.cells q = some (instC x iv cv sv)) (hi : SlV (fun _ => True) H1 iv x.items) (hX : SlV (fun _ => True) H1 v X) (hR : Rises (-1) x.items.length X) (hl : x.items.length ≤ 4096) {env : Env} (h : FiI H1 q v X (X.map x.wt) 0 env H1) :
    wpC Tryd.prog 38 (.loop ir_eval_fits_l0) (FiQ H1 q (X.map x.wt)) env H1 := by
  refine loop_upto X.length (FiI H1 q v X (X.map x.wt)) (Q := FiQ H1 q (X.map x.wt)) h ?_
  have hXl : X.length ≤ 4096 := by
    rcases rises_len hR (by omega) with h | h
    · omega
    · rw [h]; simp
  rintro k env H' hk ⟨e2, e10, e11, e12, w', k', ov, S, e5, hA, hS⟩
  by_cases hkn : k < X.length
  · obtain ⟨b0, off, sp, cap, cs, hcv, q1, q2⟩ := ints_rd (hX.kept hw1 k') (by omega)
    obtain ⟨q3, q4⟩ := q2 k hkn
    subst hcv
    have hr := rises_range hR X[k] (List.getElem_mem _)
    obtain ⟨N, hN⟩ : ∃ N : Nat, X[k] = N := ⟨X[k].toNat, by omega⟩
    have hNl : N < x.items.length := by omega
    obtain ⟨b1, off1, sp1, cap1, cs1, hcv1, r1, r2⟩ := pairs_rd (hi.kept hw1 k') (by omega)
    obtain ⟨r3, r4, r5, r6, r7⟩ := r2 N hNl
    subst hcv1
    have hwt : x.wt X[k] = x.items[N].2 := by rw [hN]; unfold InstD.wt; simp [hNl]
    have ht : (X.map x.wt).take (k + 1) = (X.map x.wt).take k ++ [x.items[N].2] := by rw [List.take_succ_eq_append_getElem (by simpa using hkn), List.getElem_map, hwt]
    have hlk : ((X.map x.wt).take k).length = k := by simp; omega
    rw [hN] at q3
    have cq := cells_kept hw1 k' hq
    obtain ⟨oa, oc, rfl⟩ := hA.slice
    obtain ⟨va, vc, H2, S', p1, w2, hA', k2, hS', _⟩ := push_i64e w' hA k' hS r7 (by rw [hlk]; omega)
    rw [← ht] at hA'
    rw [hlk] at p1 hA' e5
    generalize x.items[N].2 = w at *
    have pE : elemsA (H'.alloc (.row [.int .i64 w] T_int64 true)) 1 (.slice (some ⟨H'.next, 0, none⟩) 1 1) = some [.int .i64 w] := elems_one rfl
    simp (disch := omega) [-getElem?_pos, if_pos, if_neg, decide_eq_true, decide_eq_false, ir_eval_fits_l0, e2, e5, e10, e11, e12, q1, q3, cq, instC, r1, r5, hNl, hkn, pE, p1, IntWalk.i64_in]
    exact ⟨by simp [e2], by simp [e10], by simp [e11], by simp, w2, k2, _, S', by simp, hA', hS'⟩
  · obtain rfl : k = X.length := by omega
    simp (disch := omega) [-getElem?_pos, if_pos, if_neg, decide_eq_true, decide_eq_false, ir_eval_fits_l0, e11, e12]
    rw [List.take_of_length_le (by simp)] at hA
    exact ⟨rfl, e2, w', k', ov, e5, hA.slv (fun _ h => h.elim) (fun _ _ => trivial) (by simp; omega)⟩
theorem sum_leE {L : List Int} {c : Int} (h : ∀ y ∈ L, 0 ≤ y ∧ y ≤ c) : 0 ≤ L.sum ∧ L.sum ≤ L.length * c := by
  induction L with
  | nil => simp
  | cons a l ih =>
    have h1 := h a (by simp)
    have h2 := ih fun y hy => h y (by simp [hy])
    rw [List.sum_cons, List.length_cons]
    have : ((l.length + 1 : Nat) : Int) * c = l.length * c + c := by rw [Int.natCast_add, Int.add_mul]; simp
    rw [this]; omega
theorem sum_absE {L : List Int} (h : ∀ y ∈ L, -2147483648 ≤ y ∧ y ≤ 2147483648) : -(L.length * 2147483648 : Int) ≤ L.sum ∧ L.sum ≤ L.length * 2147483648 := by
  induction L with
  | nil => simp
  | cons a l ih =>
    have h1 := h a (by simp)
    have h2 := ih fun y hy => h y (by simp [hy])
    rw [List.sum_cons, List.length_cons]
    omega
theorem fits_spec {H : AH} {v w : Value} {x : InstD} {X : List Int} (hx : InstV (fun _ => True) H v x) (hX : SlV (fun _ => True) H w X) (hok : x.Ok) (hR : Rises (-1) x.items.length X) : AFn Tryd.prog F_eval_fits [v, w] H fun u H' => u = .bool (decide ((X.map x.wt).sum ≤ x.cap)) ∧ H' = H := by
  refine AFn.calm (fun H0 hs => ?_) rfl
  have hx0 := hx.same hs
  have hX0 := hX.same hs
  obtain ⟨iv, cv, sv, rfl, i1, i2, i3, h1, h2, h3⟩ := id hx0
  obtain ⟨wa, wc, rfl⟩ := hX.slice
  have hm := hX.max
  have hfi := hok.few.items
  have hsm := hok.small.items
  refine AFn.enter mixed ir_eval_fits_eq (by simp [ir_eval_fits]) fun hw => ?_
  have bc : (H0.alloc (.row (instC x iv cv sv) T_inst_Inst true)).cells H0.next = some (instC x iv cv sv) := AH.cells_alloc_new
  have k1 : Keep [] H0 (H0.alloc (.row (instC x iv cv sv) T_inst_Inst true)) := .alloc
  have w1 := WF.alloc hw (B := .row (instC x iv cv sv) T_inst_Inst true)
  have hX1 := hX0.kept hw k1
  have hi1 := h1.kept hw k1
  generalize hq : H0.next = q at *
  simp (disch := omega) [-getElem?_pos, if_pos, if_neg, decide_eq_true, decide_eq_false, ir_eval_fits, hq, inst_cut]
  generalize H0.alloc (.row (instC x iv cv sv) T_inst_Inst true) = H1 at *
  refine wpC_use (fits_l0 w1 bc hi1 hX1 hR hfi ⟨by simp, by simp, by simp, by simp, w1, .refl, .slice none 0 0, [], by simp, by simpa using OwnL.nil, by simp⟩) ?_
  rintro e env2 H2 ⟨rfl, e2, w2, k2, ov, e5, hS⟩ hu
  have hXl : X.length ≤ 4096 := by
    rcases rises_len hR (by omega) with h | h
    · omega
    · rw [h]; simp
  have hb := sum_leE (L := X.map x.wt) (c := 2147483648) fun y hy => by
    obtain ⟨z, hz, rfl⟩ := List.mem_map.1 hy
    have hr := rises_range hR z hz
    have hl : z.toNat < x.items.length := by omega
    have := (hsm z.toNat hl).2
    unfold InstD.wt
    rw [List.getD_eq_getElem?_getD, List.getElem?_eq_getElem hl]
    exact this
  have hfit : fitsI (X.map x.wt).sum = true := by unfold fitsI; simp at hb ⊢; omega
  have hsh : shortI (X.map x.wt).sum = (X.map x.wt).sum := by unfold shortI; rw [if_pos hfit]
  have cq := cells_kept w1 k2 bc
  have hs := Sum_spec (H := H2) hS (by simp; omega)
  rw [hfit, hsh] at hs
  generalize (X.map x.wt).sum = s at *
  clear hb hfit hsh
  simp (disch := omega) [-getElem?_pos, if_pos, if_neg, decide_eq_true, decide_eq_false, e2, e5]
  refine AFn.pure hs ?_
  simp (disch := omega) [-getElem?_pos, if_pos, if_neg, decide_eq_true, decide_eq_false, e2, cq, instC]
end Go.Proofs.YtlcddhgfkkjhkaaDoor
