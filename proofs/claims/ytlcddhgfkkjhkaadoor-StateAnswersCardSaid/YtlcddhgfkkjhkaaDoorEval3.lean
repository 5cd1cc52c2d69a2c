/-
  package eval (3): parts, may, Value, Cost.
-/
import Derived.Test.YtlcddhgfkkjhkaaDoorEval2
set_option maxRecDepth 100000
set_option linter.unusedSimpArgs false
set_option linter.unusedVariables false
namespace Go.Abs
open Go
structure PartOk (x : InstD) (X : List Int) : Prop where
  items : x.kind = 0 → ∀ y ∈ X, 0 ≤ y ∧ y < x.items.length
  len : x.kind = 1 ∨ x.kind = 2 → X.length = x.cost.length
  cost : x.kind = 1 ∨ x.kind = 2 → ∀ y ∈ X, 0 ≤ y ∧ y < x.cost.length
  sets : ¬ (x.kind = 0 ∨ x.kind = 1 ∨ x.kind = 2) → ∀ y ∈ X, 0 ≤ y ∧ y < x.sets.length
  few : X.length ≤ 4096
theorem may_part {x : InstD} {X : List Int} (hok : x.Ok) (h : x.may X = true) : PartOk x X := by
  unfold InstD.may at h
  have h1 := hok.few.items
  have h2 := hok.few.sets
  have h3 := hok.few.sq
  by_cases k0 : x.kind = 0
  · rw [if_pos k0] at h
    simp only [Bool.and_eq_true] at h
    have hR := tr_iff.1 h.1
    refine ⟨fun _ y hy => by have := rises_range hR y hy; omega, by omega, by omega, by omega, ?_⟩
    rcases rises_len hR (by omega) with h | h
    · omega
    · rw [h]; simp
  · rw [if_neg k0] at h
    by_cases k1 : x.kind = 1
    · rw [if_pos k1] at h
      have ho := orderB_iff.1 h
      exact ⟨by omega, fun _ => ho.1, fun _ => order_range _ ho.1 ho.2, by omega, by have := h3 (.inl k1); omega⟩
    · rw [if_neg k1] at h
      by_cases k2 : x.kind = 2
      · rw [if_pos k2] at h
        simp only [Bool.and_eq_true] at h
        have ho := orderB_iff.1 h.1
        exact ⟨by omega, fun _ => ho.1, fun _ => order_range _ ho.1 ho.2, by omega, by have := h3 (.inr k2); omega⟩
      · rw [if_neg k2] at h
        simp only [Bool.and_eq_true] at h
        have hR := tr_iff.1 h.1
        refine ⟨by omega, by omega, by omega, fun _ y hy => by have := rises_range hR y hy; omega, ?_⟩
        rcases rises_len hR (by omega) with h | h
        · omega
        · rw [h]; simp
theorem costE_mag {x : InstD} (hok : x.Ok) {i k : Int} (hi : 0 ≤ i ∧ i < x.cost.length) (hk : 0 ≤ k ∧ k < x.cost.length) : -2147483648 ≤ x.costE i k ∧ x.costE i k ≤ 2147483648 := by
  unfold InstD.costE
  have hil : i.toNat < x.cost.length := by omega
  have hrow := hok.shaped.rows i.toNat hil
  have hkl : k.toNat < x.cost[i.toNat].length := by omega
  have hm := hok.small.rows i.toNat hil k.toNat hkl
  rw [List.getD_eq_getElem?_getD, List.getD_eq_getElem?_getD, List.getElem?_eq_getElem hil]
  simp only [Option.getD_some]
  rw [List.getElem?_eq_getElem hkl]
  exact hm
theorem part_mag {x : InstD} {X : List Int} (hok : x.Ok) (h : PartOk x X) {k : Nat} (hk : k < X.length) : -2147483648 ≤ x.part X k ∧ x.part X k ≤ 2147483648 := by
  have hg : ∀ i, i < X.length → X.getD i 0 ∈ X := fun i hi => by rw [List.getD_eq_getElem?_getD, List.getElem?_eq_getElem hi]; exact List.getElem_mem _
  have hm : (k + 1) % X.length < X.length := Nat.mod_lt _ (by omega)
  unfold InstD.part
  split
  · rename_i k0
    have := h.items k0 _ (hg k hk)
    have hl : (X.getD k 0).toNat < x.items.length := by omega
    have := (hok.small.items _ hl).1
    unfold InstD.val
    rw [List.getD_eq_getElem?_getD (l := x.items), List.getElem?_eq_getElem hl]
    unfold Mag at this
    simp only [Option.getD_some]
    omega
  · split
    · rename_i k1
      have h1 := h.cost (.inl k1) _ (hg k hk)
      have h2 := h.len (.inl k1)
      exact costE_mag hok (by omega) h1
    · split
      · rename_i k2
        exact costE_mag hok (h.cost (.inr k2) _ (hg k hk)) (h.cost (.inr k2) _ (hg _ hm))
      · have := h.sets (by omega) _ (hg k hk)
        have hl : (X.getD k 0).toNat < x.sets.length := by omega
        have := hok.small.sets _ hl
        unfold InstD.setE
        rw [List.getD_eq_getElem?_getD (l := x.sets), List.getElem?_eq_getElem hl]
        unfold Mag at this
        simp only [Option.getD_some]
        omega
theorem parts_sum {x : InstD} {X : List Int} (hok : x.Ok) (h : PartOk x X) : -8796093022208 ≤ (x.parts X).sum ∧ (x.parts X).sum ≤ 8796093022208 := by
  have := Go.Proofs.YtlcddhgfkkjhkaaDoor.sum_absE (L := x.parts X) fun y hy => by
    unfold InstD.parts at hy
    obtain ⟨i, hi, rfl⟩ := List.mem_map.1 hy
    exact part_mag hok h (List.mem_range.1 hi)
  have hl : (x.parts X).length = X.length := by simp [InstD.parts]
  have := h.few
  omega
end Go.Abs
namespace Go.Proofs.YtlcddhgfkkjhkaaDoor
open Go Go.Abs
def PaI (H1 : AH) (q : Nat) (v : Value) (x : InstD) (X : List Int) (k : Nat) (env : Env) (H' : AH) : Prop :=
  env 1 = some v ∧ env 2 = some (.pointer (some ⟨q, 0, none⟩)) ∧ env 8 = some v ∧ env 9 = some (.int .i64 X.length) ∧ env 10 = some (.int .i64 k) ∧ WF H' ∧ Keep [] H1 H' ∧
    ∃ ov S, env 5 = some ov ∧ OwnL (fun _ => False) H' T_int64 ov ((x.parts X).take k) S ∧ ∀ b ∈ S, H1.next ≤ b
def PaQ (H1 : AH) (x : InstD) (X : List Int) (e : AExit) (env : Env) (H' : AH) : Prop :=
  e = .exit 0 ∧ WF H' ∧ ∃ ov S, env 5 = some ov ∧ OwnL (fun _ => False) H' T_int64 ov (x.parts X) S ∧ Keep [] H1 H' ∧ ∀ b ∈ S, H1.next ≤ b
theorem parts_l0 {H1 : AH} {q : Nat} {x : InstD} {iv cv sv v : Value} {X : List Int} (hw1 : WF H1) (hq : H1.cells q = some (instC x iv cv sv)) (hi : SlV (fun _ => True) H1 iv x.items) (hc : SlV (fun _ => True) H1 cv x.cost) (hs : SlV (fun _ => True) H1 sv x.sets) (hX : SlV (fun _ => True) H1 v X) (hok : x.Ok) (hp : PartOk x X)
    {env : Env} (h : PaI H1 q v x X 0 env H1) : wpC Tryd.prog 72 (.loop ir_eval_parts_l0) (PaQ H1 x X) env H1 := by
  refine loop_upto X.length (PaI H1 q v x X) (Q := PaQ H1 x X) h ?_
  have hfew := hp.few
  have hpl : (x.parts X).length = X.length := by simp [InstD.parts]
  have hmi := hi.max
  have hmc := hc.max
  have hms := hs.max
  rintro k env H' hk ⟨e1, e2, e8, e9, e10, w', k', ov, S, e5, hA, hS⟩
  by_cases hkn : k < X.length
  · have hXk := hX.kept hw1 k'
    obtain ⟨b0, off, sp, cap, cs, hcv, q1, q2⟩ := ints_rd hXk (by omega)
    obtain ⟨q3, q4⟩ := q2 k hkn
    have hmag := part_mag hok hp hkn
    have hI : I64 (x.part X k) := by unfold I64; omega
    have ht : (x.parts X).take (k + 1) = (x.parts X).take k ++ [x.part X k] := by
      rw [List.take_succ_eq_append_getElem (by omega)]; simp [InstD.parts]
    have hlk : ((x.parts X).take k).length = k := by simp [hpl]; omega
    have hmem : X[k] ∈ X := List.getElem_mem _
    have hgk : X.getD k 0 = X[k] := by rw [List.getD_eq_getElem?_getD, List.getElem?_eq_getElem hkn]; rfl
    have cq := cells_kept hw1 k' hq
    obtain ⟨oa, oc, rfl⟩ := hA.slice
    obtain ⟨va, vc, H2, S', p1, w2, hA', k2, hS', _⟩ := push_i64e w' hA k' hS hI (by rw [hlk]; omega)
    rw [← ht] at hA'
    rw [hlk] at p1 hA' e5
    have pE : elemsA (H'.alloc (.row [.int .i64 (x.part X k)] T_int64 true)) 1 (.slice (some ⟨H'.next, 0, none⟩) 1 1) = some [.int .i64 (x.part X k)] := elems_one rfl
    have fin : ∀ env2 : Env, env2 1 = some v → env2 2 = some (.pointer (some ⟨q, 0, none⟩)) → env2 8 = some v → env2 9 = some (.int .i64 X.length) → env2 10 = some (.int .i64 ((k : Int) + 1)) → env2 5 = some (.slice va (k + 1) vc) → PaI H1 q v x X (k + 1) env2 H2 :=
      fun env2 g1 g2 g8 g9 g10 g5 => ⟨g1, g2, g8, g9, by rw [g10]; simp, w2, k2, _, S', g5, hA', hS'⟩
    simp only [instC] at cq
    by_cases k0 : x.kind = 0
    · have hr := hp.items k0 X[k] hmem
      obtain ⟨N, hN⟩ : ∃ N : Nat, X[k] = N := ⟨X[k].toNat, by omega⟩
      have hNl : N < x.items.length := by omega
      obtain ⟨b1, off1, sp1, cap1, cs1, hcv1, r1, r2⟩ := pairs_rd (hi.kept hw1 k') (by omega)
      obtain ⟨r3, r4, r5, r6, r7⟩ := r2 N hNl
      have hpv : x.part X k = x.items[N].1 := by unfold InstD.part; rw [if_pos k0, hgk, hN]; unfold InstD.val; simp [hNl]
      rw [← hpv] at r4
      rw [hN] at q3
      generalize x.part X k = w at *
      have k0T := eq_true k0
      subst hcv hcv1
      simp (disch := omega) [-getElem?_pos, if_pos, if_neg, decide_eq_true, decide_eq_false, ir_eval_parts_l0, e1, e2, e5, e8, e9, e10, q1, q3, cq, k0T, r1, r4, hNl, hkn, pE, p1, IntWalk.i64_in]
      exact fin _ (by simp [e1]) (by simp [e2]) (by simp [e8]) (by simp [e9]) (by simp) (by simp)
    · by_cases k1 : x.kind = 1
      · have hr := hp.cost (.inl k1) X[k] hmem
        have hlen := hp.len (.inl k1)
        obtain ⟨N, hN⟩ : ∃ N : Nat, X[k] = N := ⟨X[k].toNat, by omega⟩
        have hNl : N < x.cost.length := by omega
        have hkc : k < x.cost.length := by omega
        obtain ⟨b1, off1, sp1, cap1, cs1, hcv1, r1, r2⟩ := rows_rd (hc.kept hw1 k') (by omega)
        obtain ⟨w, r3, r4⟩ := r2 k hkc
        have hrow := hok.shaped.rows k hkc
        obtain ⟨b2, off2, sp2, cap2, cs2, hcv2, t1, t2⟩ := ints_rd r4 (by omega)
        obtain ⟨t3, t4⟩ := t2 N (by omega)
        rw [hrow] at hcv2
        have hpv : x.part X k = x.cost[k][N] := by unfold InstD.part; rw [if_neg k0, if_pos k1, hgk, hN]; unfold InstD.costE; simp [hkc, hNl, hrow]
        rw [← hpv] at t3
        rw [hN] at q3
        generalize x.part X k = w at *
        have k0F := eq_false k0
        have k1T := eq_true k1
        subst hcv hcv1 hcv2
        simp (disch := omega) [-getElem?_pos, if_pos, if_neg, decide_eq_true, decide_eq_false, ir_eval_parts_l0, e1, e2, e5, e8, e9, e10, q1, q3, cq, k0F, k1T, r1, r3, t1, t3, hNl, hkc, hkn, pE, p1, IntWalk.i64_in]
        exact fin _ (by simp [e1]) (by simp [e2]) (by simp [e8]) (by simp [e9]) (by simp) (by simp)
      · by_cases k2 : x.kind = 2
        · have hr := hp.cost (.inr k2) X[k] hmem
          have hlen := hp.len (.inr k2)
          obtain ⟨N, hN⟩ : ∃ N : Nat, X[k] = N := ⟨X[k].toNat, by omega⟩
          have hNl : N < x.cost.length := by omega
          obtain ⟨b1, off1, sp1, cap1, cs1, hcv1, r1, r2⟩ := rows_rd (hc.kept hw1 k') (by omega)
          obtain ⟨w, r3, r4⟩ := r2 N hNl
          have hrow := hok.shaped.rows N hNl
          obtain ⟨b2, off2, sp2, cap2, cs2, hcv2, t1, t2⟩ := ints_rd r4 (by omega)
          rw [hrow] at hcv2
          have hml : (k + 1) % X.length < X.length := Nat.mod_lt _ (by omega)
          obtain ⟨u3, u4⟩ := q2 ((k + 1) % X.length) hml
          have hgm : X.getD ((k + 1) % X.length) 0 = X[(k + 1) % X.length] := by rw [List.getD_eq_getElem?_getD, List.getElem?_eq_getElem hml]; rfl
          have hr2 := hp.cost (.inr k2) X[(k + 1) % X.length] (List.getElem_mem _)
          obtain ⟨M, hM⟩ : ∃ M : Nat, X[(k + 1) % X.length] = M := ⟨X[(k + 1) % X.length].toNat, by omega⟩
          have hMl : M < x.cost.length := by omega
          obtain ⟨t3, t4⟩ := t2 M (by omega)
          have hpv : x.part X k = x.cost[N][M] := by unfold InstD.part; rw [if_neg k0, if_neg k1, if_pos k2, hgk, hgm, hN, hM]; unfold InstD.costE; simp [hNl, hrow, hMl]
          rw [← hpv] at t3
          rw [hN] at q3
          rw [hM] at u3
          have hrem : abin .rem (.int .i64 ((k : Int) + 1)) (.int .i64 X.length) = some (.int .i64 (((k + 1) % X.length : Nat) : Int)) := by
            have h0 : ¬ ((X.length : Int) = 0) := by omega
            simp only [abin]
            have hX0 : ¬ X.length = 0 := by omega
            have : ((k : Int) + 1).tmod (X.length : Int) = (((k + 1) % X.length : Nat) : Int) := by
              rw [Int.tmod_eq_emod_of_nonneg (by omega)]; push_cast; rfl
            simp [hX0, this]
          generalize x.part X k = w at *
          clear hpv t4 hM hr2 hgm u4
          generalize (k + 1) % X.length = m at *
          have k0F := eq_false k0
          have k1F := eq_false k1
          have k2T := eq_true k2
          subst hcv hcv1 hcv2
          simp (disch := omega) [-getElem?_pos, if_pos, if_neg, decide_eq_true, decide_eq_false, ir_eval_parts_l0, e1, e2, e5, e8, e9, e10, q1, q3, u3, cq, k0F, k1F, k2T, r1, r3, t1, t3, hNl, hMl, hml, hkn, ↓hrem, pE, p1, IntWalk.i64_in]
          exact fin _ (by simp [e1]) (by simp [e2]) (by simp [e8]) (by simp [e9]) (by simp) (by simp)
        · have hr := hp.sets (by omega) X[k] hmem
          obtain ⟨N, hN⟩ : ∃ N : Nat, X[k] = N := ⟨X[k].toNat, by omega⟩
          have hNl : N < x.sets.length := by omega
          obtain ⟨b1, off1, sp1, cap1, cs1, hcv1, r1, r2⟩ := sets_rd (hs.kept hw1 k') (by omega)
          obtain ⟨w, r3, r4, r5, r6, r7⟩ := r2 N hNl
          have hpv : x.part X k = x.sets[N].cost := by unfold InstD.part; rw [if_neg k0, if_neg k1, if_neg k2, hgk, hN]; unfold InstD.setE; simp [hNl]
          rw [← hpv] at r4
          rw [hN] at q3
          generalize x.part X k = w at *
          have k0F := eq_false k0
          have k1F := eq_false k1
          have k2F := eq_false k2
          subst hcv hcv1
          simp (disch := omega) [-getElem?_pos, if_pos, if_neg, decide_eq_true, decide_eq_false, ir_eval_parts_l0, e1, e2, e5, e8, e9, e10, q1, q3, cq, k0F, k1F, k2F, r1, r4, hNl, hkn, pE, p1, IntWalk.i64_in]
          exact fin _ (by simp [e1]) (by simp [e2]) (by simp [e8]) (by simp [e9]) (by simp) (by simp)
  · obtain rfl : k = X.length := by omega
    simp (disch := omega) [-getElem?_pos, if_pos, if_neg, decide_eq_true, decide_eq_false, ir_eval_parts_l0, e9, e10]
    rw [List.take_of_length_le (by omega)] at hA
    exact ⟨rfl, w', ov, S, e5, hA, k', hS⟩
theorem parts_spec {H : AH} {v w : Value} {x : InstD} {X : List Int} (hx : InstV (fun _ => True) H v x) (hX : SlV (fun _ => True) H w X) (hok : x.Ok) (hp : PartOk x X) : AFn Tryd.prog F_eval_parts [v, w] H fun u H' => ∃ S, OwnL (fun _ => False) H' T_int64 u (x.parts X) S ∧ Keep [] H H' ∧ ∀ b ∈ S, H.next ≤ b := by
  obtain ⟨iv, cv, sv, rfl, i1, i2, i3, h1, h2, h3⟩ := id hx
  obtain ⟨wa, wc, rfl⟩ := hX.slice
  have hm := hX.max
  refine AFn.enter mixed ir_eval_parts_eq (by simp [ir_eval_parts]) fun hw => ?_
  have bc : (H.alloc (.row (instC x iv cv sv) T_inst_Inst true)).cells H.next = some (instC x iv cv sv) := AH.cells_alloc_new
  have k1 : Keep [] H (H.alloc (.row (instC x iv cv sv) T_inst_Inst true)) := .alloc
  have w1 := WF.alloc hw (B := .row (instC x iv cv sv) T_inst_Inst true)
  have hX1 := hX.kept hw k1
  have a1 := h1.kept hw k1
  have a2 := h2.kept hw k1
  have a3 := h3.kept hw k1
  generalize hq : H.next = q at *
  simp (disch := omega) [-getElem?_pos, if_pos, if_neg, decide_eq_true, decide_eq_false, ir_eval_parts, hq, inst_cut]
  generalize H.alloc (.row (instC x iv cv sv) T_inst_Inst true) = H1 at *
  have n1 := k1.next
  refine wpC_use (parts_l0 w1 bc a1 a2 a3 hX1 hok hp ⟨by simp, by simp, by simp, by simp, by simp, w1, .refl, .slice none 0 0, [], by simp, by simpa using OwnL.nil, by simp⟩) ?_
  rintro e env2 H2 ⟨rfl, w2, ov, S, e5, hA, k2, hS⟩ hu
  have hc := hA.cell
  simp (disch := omega) [-getElem?_pos, if_pos, if_neg, decide_eq_true, decide_eq_false, e5, hc]
  exact ⟨S, hA, k1.trans' k2, fun b hb => by have := hS b hb; omega⟩
theorem may_spec {H : AH} {v w : Value} {x : InstD} {X : List Int} (hx : InstV (fun _ => True) H v x) (hX : SlV (fun _ => True) H w X) (hok : x.Ok) : AFn Tryd.prog F_eval_may [v, w] H fun u H' => u = .bool (x.may X) ∧ H' = H := by
  refine AFn.calm (fun H0 hs => ?_) rfl
  have hx0 := hx.same hs
  have hX0 := hX.same hs
  obtain ⟨iv, cv, sv, rfl, i1, i2, i3, h1, h2, h3⟩ := id hx0
  obtain ⟨wa, wc, rfl⟩ := hX.slice
  have hm := hX.max
  obtain ⟨ia, ic, rfl⟩ := h1.slice
  obtain ⟨ca, cc, rfl⟩ := h2.slice
  obtain ⟨sa, sc, rfl⟩ := h3.slice
  have hmi := h1.max
  have hmc := h2.max
  have hms := h3.max
  refine AFn.enter mixed ir_eval_may_eq (by simp [ir_eval_may]) fun hw => ?_
  generalize hI : instC x (.slice ia x.items.length ic) (.slice ca x.cost.length cc) (.slice sa x.sets.length sc) = I
  have hI' : I = [.int .i64 x.kind, .int .i64 x.cap, .slice ia x.items.length ic, .slice ca x.cost.length cc, .int .i64 x.size, .slice sa x.sets.length sc] := hI.symm
  have bc : (H0.alloc (.row I T_inst_Inst true)).cells H0.next = some I := AH.cells_alloc_new
  have k1 : Keep [] H0 (H0.alloc (.row I T_inst_Inst true)) := .alloc
  have w1 := WF.alloc hw (B := .row I T_inst_Inst true)
  have hX1 := hX0.kept hw k1
  have hx1 := hx0.kept hw k1
  have hcut : cut I 0 6 = some I := by rw [hI']; rfl
  have hIe : [.int .i64 x.kind, .int .i64 x.cap, .slice ia x.items.length ic, .slice ca x.cost.length cc, .int .i64 x.size, .slice sa x.sets.length sc] = I := hI'.symm
  have g0 : I[0]? = some (.int .i64 x.kind) := by rw [hI']; rfl
  have g2 : I[2]? = some (.slice ia x.items.length ic) := by rw [hI']; rfl
  have g3 : I[3]? = some (.slice ca x.cost.length cc) := by rw [hI']; rfl
  have g5 : I[5]? = some (.slice sa x.sets.length sc) := by rw [hI']; rfl
  have ht : Value.agg I.toArray = .agg #[.int .i64 x.kind, .int .i64 x.cap, .slice ia x.items.length ic, .slice ca x.cost.length cc, .int .i64 x.size, .slice sa x.sets.length sc] := by rw [hI']
  rw [← ht] at hx1 ⊢
  have hc6 : cellsOf (Value.agg I.toArray) = some I := by rw [ht, hI']; rfl
  clear hI hI' hIe
  generalize hq : H0.next = q at *
  simp (disch := omega) [-getElem?_pos, if_pos, if_neg, decide_eq_true, decide_eq_false, ir_eval_may, hq, hc6]
  generalize H0.alloc (.row I T_inst_Inst true) = H1 at *
  unfold InstD.may
  by_cases k0 : x.kind = 0
  · have k0T := eq_true k0
    simp (disch := omega) [-getElem?_pos, if_pos, if_neg, decide_eq_true, decide_eq_false, bc, g0, g2, k0T]
    refine AFn.pure (rises_spec hX1) ?_
    by_cases hR : Rises (-1) x.items.length X
    · rw [tr_true hR]
      simp (disch := omega) [-getElem?_pos, if_pos, if_neg, decide_eq_true, decide_eq_false, bc, hcut]
      refine AFn.pure (fits_spec hx1 hX1 hok hR) ?_
      simp (disch := omega) [-getElem?_pos, if_pos, if_neg, decide_eq_true, decide_eq_false, ]
    · rw [tr_false hR]
      simp (disch := omega) [-getElem?_pos, if_pos, if_neg, decide_eq_true, decide_eq_false, ]
  · have k0F := eq_false k0
    by_cases k1 : x.kind = 1
    · have k1T := eq_true k1
      simp (disch := omega) [-getElem?_pos, if_pos, if_neg, decide_eq_true, decide_eq_false, bc, g0, g3, k0F, k1T]
      refine AFn.pure (order_spec' hX1 (by have := hok.few.sq (.inl k1); omega)) ?_
      simp (disch := omega) [-getElem?_pos, if_pos, if_neg, decide_eq_true, decide_eq_false, ]
    · have k1F := eq_false k1
      by_cases k2 : x.kind = 2
      · have k2T := eq_true k2
        generalize hz0 : X.getD 0 0 = z0
        simp (disch := omega) [-getElem?_pos, if_pos, if_neg, decide_eq_true, decide_eq_false, bc, g0, g3, k0F, k1F, k2T]
        refine AFn.pure (order_spec' hX1 (by have := hok.few.sq (.inr k2); omega)) ?_
        cases ho : orderB X x.cost.length with
        | true =>
          have hl := (orderB_iff.1 ho).1
          have hpos : 0 < X.length := by have := hok.few.sq (.inr k2); omega
          obtain ⟨b0, off, sp, cap, cs, hcv, q1, q2⟩ := ints_rd hX1 hpos
          obtain ⟨q3, q4⟩ := q2 0 hpos
          cases hcv
          have hg0 : X[0] = z0 := by rw [← hz0, List.getD_eq_getElem?_getD, List.getElem?_eq_getElem hpos]; rfl
          rw [Nat.add_zero, hg0] at q3
          simp (disch := omega) [-getElem?_pos, if_pos, if_neg, decide_eq_true, decide_eq_false, q1, q3, hpos]
        | false => simp (disch := omega) [-getElem?_pos, if_pos, if_neg, decide_eq_true, decide_eq_false, ]
      · have k2F := eq_false k2
        simp (disch := omega) [-getElem?_pos, if_pos, if_neg, decide_eq_true, decide_eq_false, bc, g0, g5, k0F, k1F, k2F]
        refine AFn.pure (rises_spec hX1) ?_
        by_cases hR : Rises (-1) x.sets.length X
        · rw [tr_true hR]
          simp (disch := omega) [-getElem?_pos, if_pos, if_neg, decide_eq_true, decide_eq_false, bc, hcut]
          refine AFn.pure (covers_spec hx1 hX1 hok hR) ?_
          simp (disch := omega) [-getElem?_pos, if_pos, if_neg, decide_eq_true, decide_eq_false, ]
        · rw [tr_false hR]
          simp (disch := omega) [-getElem?_pos, if_pos, if_neg, decide_eq_true, decide_eq_false, ]
theorem Value_spec {H : AH} {v w : Value} {x : InstD} {X : List Int} (hx : InstV (fun _ => True) H v x) (hX : SlV (fun _ => True) H w X) : AFn Tryd.prog F_eval_Value [v, w] H fun u H' => u = .tuple #[.int .i64 (x.value X), .int .i64 (x.valueE X)] ∧ H' = H := by
  refine AFn.calm (fun H0 hs => ?_) rfl
  have hx0 := hx.same hs
  have hX0 := hX.same hs
  obtain ⟨iv, cv, sv, rfl, i1, i2, i3, h1, h2, h3⟩ := id hx0
  obtain ⟨wa, wc, rfl⟩ := hX.slice
  refine AFn.enter mixed ir_eval_Value_eq (by simp [ir_eval_Value]) fun hw => ?_
  have bc : (H0.alloc (.row (instC x iv cv sv) T_inst_Inst true)).cells H0.next = some (instC x iv cv sv) := AH.cells_alloc_new
  have k1 : Keep [] H0 (H0.alloc (.row (instC x iv cv sv) T_inst_Inst true)) := .alloc
  have w1 := WF.alloc hw (B := .row (instC x iv cv sv) T_inst_Inst true)
  have hX1 := hX0.kept hw k1
  have hx1 := hx0.kept hw k1
  generalize hq : H0.next = q at *
  simp (disch := omega) [-getElem?_pos, if_pos, if_neg, decide_eq_true, decide_eq_false, ir_eval_Value, hq, inst_cut]
  generalize H0.alloc (.row (instC x iv cv sv) T_inst_Inst true) = H1 at *
  refine AFn.pure (Check_spec hx1) ?_
  unfold InstD.value InstD.valueE
  by_cases hc : x.check = 0
  · have hok := InstD.check_ok.1 hc
    simp (disch := omega) [-getElem?_pos, if_pos, if_neg, decide_eq_true, decide_eq_false, hc, bc, inst_cut]
    refine AFn.pure (may_spec hx1 hX1 hok) ?_
    cases hmy : x.may X with
    | false => simp (disch := omega) [-getElem?_pos, if_pos, if_neg, decide_eq_true, decide_eq_false, ]
    | true =>
      have hp := may_part hok hmy
      have hb := parts_sum hok hp
      have hfit : fitsI (x.parts X).sum = true := by unfold fitsI; simp; omega
      have hsh : shortI (x.parts X).sum = (x.parts X).sum := by unfold shortI; rw [if_pos hfit]
      have hfew := hp.few
      have hpl : (x.parts X).length = X.length := by simp [InstD.parts]
      simp (disch := omega) [-getElem?_pos, if_pos, if_neg, decide_eq_true, decide_eq_false, bc, inst_cut]
      refine (parts_spec hx1 hX1 hok hp).mono' fun u H2 w2 ⟨S, hA, k2, hS⟩ => ?_
      have hs := Sum_spec (hA.slv (q := fun _ => True) (fun _ h => h.elim) (fun _ _ => trivial) (by omega)) (by omega)
      rw [hfit, hsh] at hs
      obtain ⟨ua, uc, rfl⟩ := hA.slice
      generalize (x.parts X).sum = s at *
      simp (disch := omega) [-getElem?_pos, if_pos, if_neg, decide_eq_true, decide_eq_false, ]
      refine AFn.pure hs ?_
      simp (disch := omega) [-getElem?_pos, if_pos, if_neg, decide_eq_true, decide_eq_false, ]
  · simp (disch := omega) [-getElem?_pos, if_pos, if_neg, decide_eq_true, decide_eq_false, hc]
theorem Cost_spec {H : AH} {v w : Value} {x : InstD} {X : List Int} (hx : InstV (fun _ => True) H v x) (hX : SlV (fun _ => True) H w X) : AFn Tryd.prog F_eval_Cost [v, w] H fun u H' => u = .tuple #[.int .i64 (x.costOf X), .int .i64 (x.valueE X)] ∧ H' = H := by
  refine AFn.calm (fun H0 hs => ?_) rfl
  have hx0 := hx.same hs
  have hX0 := hX.same hs
  obtain ⟨iv, cv, sv, rfl, i1, i2, i3, h1, h2, h3⟩ := id hx0
  obtain ⟨wa, wc, rfl⟩ := hX.slice
  refine AFn.enter mixed ir_eval_Cost_eq (by simp [ir_eval_Cost]) fun hw => ?_
  have bc : (H0.alloc (.row (instC x iv cv sv) T_inst_Inst true)).cells H0.next = some (instC x iv cv sv) := AH.cells_alloc_new
  have k1 : Keep [] H0 (H0.alloc (.row (instC x iv cv sv) T_inst_Inst true)) := .alloc
  have w1 := WF.alloc hw (B := .row (instC x iv cv sv) T_inst_Inst true)
  have hX1 := hX0.kept hw k1
  have hx1 := hx0.kept hw k1
  generalize hq : H0.next = q at *
  simp (disch := omega) [-getElem?_pos, if_pos, if_neg, decide_eq_true, decide_eq_false, ir_eval_Cost, hq, inst_cut]
  generalize H0.alloc (.row (instC x iv cv sv) T_inst_Inst true) = H1 at *
  refine AFn.pure (Value_spec hx1 hX1) ?_
  have hvb : -8796093022208 ≤ x.value X ∧ x.value X ≤ 8796093022208 := by
    unfold InstD.value
    split
    · rename_i hc
      split
      · rename_i hm
        exact parts_sum (InstD.check_ok.1 hc) (may_part (InstD.check_ok.1 hc) hm)
      · omega
    · omega
  simp only [instC] at bc
  unfold InstD.costOf
  by_cases k0 : x.kind = 0
  · have k0T := eq_true k0
    generalize x.value X = s at *
    have hwr : IntKind.i64.wrap (-s) = -s := IntWalk.i64_in _ (by omega)
    simp (disch := omega) [-getElem?_pos, if_pos, if_neg, decide_eq_true, decide_eq_false, bc, k0T, hwr]
  · have k0F := eq_false k0
    simp (disch := omega) [-getElem?_pos, if_pos, if_neg, decide_eq_true, decide_eq_false, bc, k0F]
end Go.Proofs.YtlcddhgfkkjhkaaDoor
