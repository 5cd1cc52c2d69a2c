/-
  BruteFar: the walk, whole.
-/
import Derived.Test.YtlcddhgfkkjhkaaFar
set_option maxRecDepth 100000
set_option linter.unusedSimpArgs false
set_option linter.unusedVariables false
namespace Go.Proofs.Ytlcddhgfkkjhkaa
open Go Go.Abs

theorem far_ok0 {k : Nat} (hk : k ≤ 20) : InstD.Ok ⟨0, 0, List.replicate k (0, 0), [], 0, []⟩ :=
  ⟨by simp, by simp, ⟨by simp, by simp, by simp⟩, ⟨by simp, by simp; omega, by simp, by simp, by simp⟩, ⟨by simp, by simp⟩, ⟨by simp [Mag], by simp [Mag], by simp, by simp⟩, by simp [InstD.Bare]⟩
theorem far_ok3 {k : Nat} (hk : k ≤ 20) : InstD.Ok ⟨3, 0, [], [], 0, List.replicate k ⟨0, []⟩⟩ :=
  ⟨by simp, by simp, ⟨by simp, by simp, by simp⟩, ⟨by simp, by simp, by simp; omega, by simp, by simp⟩, ⟨by simp, by simp [Rises]⟩, ⟨by simp [Mag], by simp, by simp, by simp [Mag]⟩, by simp [InstD.Bare]⟩
theorem far_okR {kd N : Nat} (h : kd = 1 ∨ kd = 2) (hN : N = 8 + kd) : InstD.Ok ⟨kd, 0, [], zrow N N, 0, []⟩ := by
  have hl : (zrow N N).length = N := by simp [zrow]
  refine ⟨by simp, by simp; omega, ⟨.inr ⟨rfl, rfl⟩, by simp; omega, .inr ⟨rfl, rfl⟩⟩, ⟨fun _ => ?_, by simp, by simp, by simp, by simp⟩, ⟨fun k hk => ?_, by simp⟩, ⟨by simp [Mag], by simp, fun k hk j hj => ?_, by simp⟩, fun _ k hk => ?_⟩
  · show 1 ≤ (zrow N N).length ∧ (zrow N N).length ≤ 64
    omega
  · show ((zrow N N)[k]'hk).length = (zrow N N).length
    rw [hl]; simp [zrow]
  · show Mag _ (((zrow N N)[k]'hk)[j]'hj)
    simp [zrow, Mag]
  · show ((zrow N N)[k]'hk).getD k 0 = 0
    simp only [zrow, List.getElem_replicate, List.getD_eq_getElem?_getD, List.getElem?_replicate]
    split <;> rfl
theorem far_c0 {k : Nat} (hk : k = 20) : InstD.countE ⟨0, 0, List.replicate k (0, 0), [], 0, []⟩ = 0 ∧ InstD.count ⟨0, 0, List.replicate k (0, 0), [], 0, []⟩ = ((1048576 : Nat) : Int) := by
  have ho := far_ok0 (k := k) (by omega)
  have h := over_count k (by omega) _ ho (.inl rfl) (by unfold InstD.n; rw [if_pos (InstD.check_ok.2 ho)]; simp)
  rw [if_pos (by omega), if_pos (by omega)] at h
  exact ⟨h.2, by rw [h.1, hk]⟩
theorem far_c3 {k : Nat} (hk : k = 20) : InstD.countE ⟨3, 0, [], [], 0, List.replicate k ⟨0, []⟩⟩ = 0 ∧ InstD.count ⟨3, 0, [], [], 0, List.replicate k ⟨0, []⟩⟩ = ((1048576 : Nat) : Int) := by
  have ho := far_ok3 (k := k) (by omega)
  have h := over_count k (by omega) _ ho (.inr rfl) (by unfold InstD.n; rw [if_pos (InstD.check_ok.2 ho)]; simp)
  rw [if_pos (by omega), if_pos (by omega)] at h
  exact ⟨h.2, by rw [h.1, hk]⟩
theorem far_cR {kd N : Nat} (h : kd = 1 ∨ kd = 2) (hN : N = 8 + kd) : InstD.countE ⟨kd, 0, [], zrow N N, 0, []⟩ = 0 ∧ InstD.count ⟨kd, 0, [], zrow N N, 0, []⟩ = ((362880 : Nat) : Int) := by
  have hok := far_okR h hN
  have h0 := InstD.check_ok.2 hok
  have hl : (zrow N N).length = N := by simp [zrow]
  have hn : InstD.n ⟨kd, 0, [], zrow N N, 0, []⟩ = 9 := by
    unfold InstD.n
    rw [if_pos h0]
    rcases h with rfl | rfl
    · simp [hl]; omega
    · simp [hl]; omega
  have hm : InstD.many ⟨kd, 0, [], zrow N N, 0, []⟩ = 362880 := by
    unfold InstD.many
    rw [hn]
    have : ¬ ((kd : Int) = 0 ∨ (kd : Int) = 3) := by omega
    simp only [this, if_false]
    decide
  unfold InstD.countE InstD.count
  rw [if_pos h0, if_pos h0, hm]
  exact ⟨by simp, by simp⟩

theorem chosen_len : ∀ (f : Nat) {k m : Nat}, (chosenL f k m).length ≤ f
  | 0, k, m => by simp [chosenL]
  | f + 1, k, m => by
    have ih := chosen_len f (k := k + 1) (m := m / 2)
    unfold chosenL
    split
    · simp
    · rw [List.length_append]
      split <;> simp <;> omega
theorem at_max {x : InstD} {k : Nat} (hc : x.countE = 0) (hk : (k : Int) < x.count) : (x.at k).length ≤ 100 := by
  by_cases hs : x.kind = 0 ∨ x.kind = 3
  · unfold InstD.at
    rw [if_pos hs]
    have := chosen_len 20 (k := 0) (m := k)
    omega
  · rw [at_len hc hk hs]
    have := (count_ord hc hs).2.2.2.2
    omega

theorem BruteFar_abs {H : AH} (n k : Int) (hn : 0 ≤ n ∧ n < 256) (hk : 0 ≤ k ∧ k < 4294967296) : AFn Try.prog F_law13_BruteFar [.int .u8 n, .int .u32 k] H fun u H' => u = .bool true ∧ H' = H := by
  refine AFn.calm (fun H0 hs => ?_) rfl
  refine AFn.enter mixed ir_law13_BruteFar_eq (by simp [ir_law13_BruteFar]) fun hw => ?_
  obtain ⟨kd, hkd⟩ : ∃ kd : Nat, n.tmod 4 = (kd : Int) := ⟨(n.tmod 4).toNat, by rw [Int.tmod_eq_emod_of_nonneg hn.1]; omega⟩
  have hk4 : kd < 4 := by rw [Int.tmod_eq_emod_of_nonneg hn.1] at hkd; omega
  rcases (show kd = 0 ∨ kd = 3 ∨ (kd ≠ 0 ∧ kd ≠ 3) by omega) with rfl | rfl | ⟨hk0, hk3⟩
  · simp (disch := omega) [-getElem?_pos, if_pos, if_neg, decide_eq_true, decide_eq_false, ir_law13_BruteFar, hkd, writeA, over, cut]
    generalize hH2 : AH.set _ _ _ = H2
    have w2 : WF H2 := by rw [← hH2]; refine WF.set (WF.alloc (WF.alloc hw)) ?_; simp; omega
    have n2 : H2.next = H0.next + 2 := by rw [← hH2]; simp
    obtain ⟨q, hq⟩ : ∃ q, q = H0.next := ⟨_, rfl⟩
    obtain ⟨T, hT⟩ : ∃ T : Nat, T = 20 := ⟨_, rfl⟩
    obtain ⟨cs6, hcs6⟩ : ∃ cs6 : List Value, cs6 = [.int .i64 0, .int .i64 0, .slice (some ⟨H0.next + 1, 0, none⟩) T T, .slice none 0 0, .int .i64 0, .slice none 0 0] := ⟨_, rfl⟩
    have hc2 : H2.cells q = some cs6 := by rw [← hH2, hq, hcs6, hT]; simp
    have hcut : cut cs6 0 6 = some cs6 := by rw [hcs6]; rfl
    have hx : InstV (fun b => b < H2.next) H2 (.agg cs6.toArray) ⟨0, 0, List.replicate T (0, 0), [], 0, []⟩ := by
      rw [hcs6]
      exact ⟨_, _, _, rfl, by simp [I64], by simp [I64], by simp [I64], SlV.zeros (z := [.int .i64 0, .int .i64 0]) (by rw [← hH2, hT]; simp) (by omega) ⟨rfl, by simp [I64], by simp [I64]⟩ (by omega), .nil, .nil⟩
    obtain ⟨hE, hC⟩ := far_c0 hT
    obtain ⟨C, hCC, hC1, hC2⟩ : ∃ C : Nat, 1048576 = C ∧ 1 ≤ C ∧ C ≤ 1048576 := ⟨_, rfl, by omega, by omega⟩
    rw [hCC] at hC
    have hfirst : (#[.int .i64 0, .int .i64 0, .slice (some ⟨H0.next + 1, 0, none⟩) T T, .slice none 0 0, .int .i64 0, .slice none 0 0] : Array Value) = cs6.toArray := by rw [hcs6]
    have u5 := trivial
    have u1 := trivial
    have v5 := trivial
    rw [hT] at hfirst
    rw [hfirst]
    rw [← hq]
    generalize hxx : (⟨0, 0, List.replicate T (0, 0), [], 0, []⟩ : InstD) = x at *
    clear hH2 hfirst hcs6 hxx hCC
    refine AFn.pure (Count_spec hx) ?_
    simp (disch := omega) [-getElem?_pos, if_pos, if_neg, decide_eq_true, decide_eq_false, hE, hC]
    refine AFn.pure wakes13_spec ?_
    have hC1' : ¬ (C : Int) < 1 := by omega
    obtain ⟨K0, rfl⟩ : ∃ K0 : Nat, k = K0 := ⟨k.toNat, by omega⟩
    have hcv : IntKind.i64.wrap (K0 : Int) = K0 := IntWalk.i64_in _ (by omega)
    have hr := i64_rem_nat (a := K0) (b := C) (by omega)
    have hKC := Nat.mod_lt K0 (show 0 < C by omega)
    generalize K0 % C = K at *
    simp (disch := omega) [-getElem?_pos, if_pos, if_neg, decide_eq_true, decide_eq_false, hC1', u5, u1, hcv, ↓hr, hc2, hcut]
    refine (At_spec (k := K) hx hE (by rw [hC]; omega)).mono' fun u H3 w3 ⟨w, hu, S, hA, k3, hS⟩ => ?_
    subst hu
    obtain ⟨wa, wc, rfl⟩ := hA.slice
    have n3 := k3.next
    have hx3 : InstV (fun b => b < H3.next) H3 (.agg cs6.toArray) x := hx.up (fun b hb => by omega) (.kept w2 k3)
    have hc3 := cells_kept w2 k3 hc2
    have hal := at_max (k := K) hE (by rw [hC]; omega)
    have hA3 : SlV (fun b => b < H3.next) H3 (.slice wa (x.at K).length wc) (x.at K) := hA.slv (fun _ h => h.elim) (fun b hb => hA.lt w3 b hb) (by omega)
    simp (disch := omega) [-getElem?_pos, if_pos, if_neg, decide_eq_true, decide_eq_false, hc3, hcut, u5]
    refine (Rank_spec hx3 hA3 hE).mono' fun u H4 w4 ⟨hu, k4⟩ => ?_
    rw [rank_at hE (by rw [hC]; omega)] at hu
    subst hu
    have n4 := k4.next
    have hx4 : InstV (fun b => b < H4.next) H4 (.agg cs6.toArray) x := hx3.up (fun b hb => by omega) (.kept w3 k4)
    have hc4 := cells_kept w3 k4 hc3
    have hr2 : abin .rem (.int .i64 ((K : Int) + 1)) (.int .i64 (C : Int)) = some (.int .i64 (((K + 1) % C : Nat) : Int)) := i64_rem_nat (a := K + 1) (by omega)
    have hK2 := Nat.mod_lt (K + 1) (show 0 < C by omega)
    have hKK : C ≠ 1 → (K + 1) % C ≠ K := fun h => by
      by_cases h2 : K + 1 < C
      · rw [Nat.mod_eq_of_lt h2]; omega
      · rw [show K + 1 = C by omega, Nat.mod_self]; omega
    generalize (K + 1) % C = K2 at *
    simp (disch := omega) [-getElem?_pos, if_pos, if_neg, decide_eq_true, decide_eq_false, maskV, hc4, hcut, u5, ↓hr2, IntWalk.i64_in]
    refine AFnD.from (At_spec (k := K2) hx4 hE (by rw [hC]; omega)) fun u H5 w5 ⟨w, hu, S2, hA2, k5, hS2⟩ => ⟨keep_grow w4 k5, ?_⟩
    subst hu
    obtain ⟨xa, xc, rfl⟩ := hA2.slice
    have hal2 := at_max (k := K2) hE (by rw [hC]; omega)
    by_cases hC1e : C = 1
    · simp (disch := omega) [-getElem?_pos, if_pos, if_neg, decide_eq_true, decide_eq_false, hC1e]
    · simp (disch := omega) [-getElem?_pos, if_pos, if_neg, decide_eq_true, decide_eq_false, hC1e]
      refine AFn.pure (equal13_spec (p := fun _ => True) (hA3.any.kept w3 (k4.trans' k5)) (hA2.slv (q := fun _ => True) (fun _ h => h.elim) (fun _ _ => trivial) (by omega))) ?_
      have hne : x.at K ≠ x.at K2 := fun h => by
        have h1 := rank_at (x := x) (k := K) hE (by rw [hC]; omega)
        have h2 := rank_at (x := x) (k := K2) hE (by rw [hC]; omega)
        rw [h, h2] at h1
        exact hKK hC1e (by simpa using h1)
      simp (disch := omega) [-getElem?_pos, if_pos, if_neg, decide_eq_true, decide_eq_false, hne]
  · simp (disch := omega) [-getElem?_pos, if_pos, if_neg, decide_eq_true, decide_eq_false, ir_law13_BruteFar, hkd, writeA, over, cut]
    generalize hH2 : AH.set _ _ _ = H2
    have w2 : WF H2 := by rw [← hH2]; refine WF.set (WF.alloc (WF.alloc hw)) ?_; simp; omega
    have n2 : H2.next = H0.next + 2 := by rw [← hH2]; simp
    obtain ⟨q, hq⟩ : ∃ q, q = H0.next := ⟨_, rfl⟩
    obtain ⟨T, hT⟩ : ∃ T : Nat, T = 20 := ⟨_, rfl⟩
    obtain ⟨cs6, hcs6⟩ : ∃ cs6 : List Value, cs6 = [.int .i64 3, .int .i64 0, .slice none 0 0, .slice none 0 0, .int .i64 0, .slice (some ⟨H0.next + 1, 0, none⟩) T T] := ⟨_, rfl⟩
    have hc2 : H2.cells q = some cs6 := by rw [← hH2, hq, hcs6, hT]; simp
    have hcut : cut cs6 0 6 = some cs6 := by rw [hcs6]; rfl
    have hx : InstV (fun b => b < H2.next) H2 (.agg cs6.toArray) ⟨3, 0, [], [], 0, List.replicate T ⟨0, []⟩⟩ := by
      rw [hcs6]
      exact ⟨_, _, _, rfl, by simp [I64], by simp [I64], by simp [I64], .nil, .nil, SlV.zeros (z := [.int .i64 0, .slice none 0 0]) (by rw [← hH2, hT]; simp) (by omega) ⟨_, rfl, by simp [I64], .nil⟩ (by omega)⟩
    obtain ⟨hE, hC⟩ := far_c3 hT
    obtain ⟨C, hCC, hC1, hC2⟩ : ∃ C : Nat, 1048576 = C ∧ 1 ≤ C ∧ C ≤ 1048576 := ⟨_, rfl, by omega, by omega⟩
    rw [hCC] at hC
    have hfirst : (#[.int .i64 3, .int .i64 0, .slice none 0 0, .slice none 0 0, .int .i64 0, .slice (some ⟨H0.next + 1, 0, none⟩) T T] : Array Value) = cs6.toArray := by rw [hcs6]
    have u5 := trivial
    have u1 := trivial
    have v5 := trivial
    rw [hT] at hfirst
    rw [hfirst]
    rw [← hq]
    generalize hxx : (⟨3, 0, [], [], 0, List.replicate T ⟨0, []⟩⟩ : InstD) = x at *
    clear hH2 hfirst hcs6 hxx hCC
    refine AFn.pure (Count_spec hx) ?_
    simp (disch := omega) [-getElem?_pos, if_pos, if_neg, decide_eq_true, decide_eq_false, hE, hC]
    refine AFn.pure wakes13_spec ?_
    have hC1' : ¬ (C : Int) < 1 := by omega
    obtain ⟨K0, rfl⟩ : ∃ K0 : Nat, k = K0 := ⟨k.toNat, by omega⟩
    have hcv : IntKind.i64.wrap (K0 : Int) = K0 := IntWalk.i64_in _ (by omega)
    have hr := i64_rem_nat (a := K0) (b := C) (by omega)
    have hKC := Nat.mod_lt K0 (show 0 < C by omega)
    generalize K0 % C = K at *
    simp (disch := omega) [-getElem?_pos, if_pos, if_neg, decide_eq_true, decide_eq_false, hC1', u5, u1, hcv, ↓hr, hc2, hcut]
    refine (At_spec (k := K) hx hE (by rw [hC]; omega)).mono' fun u H3 w3 ⟨w, hu, S, hA, k3, hS⟩ => ?_
    subst hu
    obtain ⟨wa, wc, rfl⟩ := hA.slice
    have n3 := k3.next
    have hx3 : InstV (fun b => b < H3.next) H3 (.agg cs6.toArray) x := hx.up (fun b hb => by omega) (.kept w2 k3)
    have hc3 := cells_kept w2 k3 hc2
    have hal := at_max (k := K) hE (by rw [hC]; omega)
    have hA3 : SlV (fun b => b < H3.next) H3 (.slice wa (x.at K).length wc) (x.at K) := hA.slv (fun _ h => h.elim) (fun b hb => hA.lt w3 b hb) (by omega)
    simp (disch := omega) [-getElem?_pos, if_pos, if_neg, decide_eq_true, decide_eq_false, hc3, hcut, u5]
    refine (Rank_spec hx3 hA3 hE).mono' fun u H4 w4 ⟨hu, k4⟩ => ?_
    rw [rank_at hE (by rw [hC]; omega)] at hu
    subst hu
    have n4 := k4.next
    have hx4 : InstV (fun b => b < H4.next) H4 (.agg cs6.toArray) x := hx3.up (fun b hb => by omega) (.kept w3 k4)
    have hc4 := cells_kept w3 k4 hc3
    have hr2 : abin .rem (.int .i64 ((K : Int) + 1)) (.int .i64 (C : Int)) = some (.int .i64 (((K + 1) % C : Nat) : Int)) := i64_rem_nat (a := K + 1) (by omega)
    have hK2 := Nat.mod_lt (K + 1) (show 0 < C by omega)
    have hKK : C ≠ 1 → (K + 1) % C ≠ K := fun h => by
      by_cases h2 : K + 1 < C
      · rw [Nat.mod_eq_of_lt h2]; omega
      · rw [show K + 1 = C by omega, Nat.mod_self]; omega
    generalize (K + 1) % C = K2 at *
    simp (disch := omega) [-getElem?_pos, if_pos, if_neg, decide_eq_true, decide_eq_false, maskV, hc4, hcut, u5, ↓hr2, IntWalk.i64_in]
    refine AFnD.from (At_spec (k := K2) hx4 hE (by rw [hC]; omega)) fun u H5 w5 ⟨w, hu, S2, hA2, k5, hS2⟩ => ⟨keep_grow w4 k5, ?_⟩
    subst hu
    obtain ⟨xa, xc, rfl⟩ := hA2.slice
    have hal2 := at_max (k := K2) hE (by rw [hC]; omega)
    by_cases hC1e : C = 1
    · simp (disch := omega) [-getElem?_pos, if_pos, if_neg, decide_eq_true, decide_eq_false, hC1e]
    · simp (disch := omega) [-getElem?_pos, if_pos, if_neg, decide_eq_true, decide_eq_false, hC1e]
      refine AFn.pure (equal13_spec (p := fun _ => True) (hA3.any.kept w3 (k4.trans' k5)) (hA2.slv (q := fun _ => True) (fun _ h => h.elim) (fun _ _ => trivial) (by omega))) ?_
      have hne : x.at K ≠ x.at K2 := fun h => by
        have h1 := rank_at (x := x) (k := K) hE (by rw [hC]; omega)
        have h2 := rank_at (x := x) (k := K2) hE (by rw [hC]; omega)
        rw [h, h2] at h1
        exact hKK hC1e (by simpa using h1)
      simp (disch := omega) [-getElem?_pos, if_pos, if_neg, decide_eq_true, decide_eq_false, hne]
  · have hw8 : IntKind.i64.wrap (kd : Int) = kd := IntWalk.i64_in _ (by omega)
    have hk0' : ¬ (kd : Int) = 0 := by omega
    have hk3' : ¬ (kd : Int) = 3 := by omega
    obtain ⟨N, hN⟩ : ∃ N, N = 8 + kd := ⟨_, rfl⟩
    simp (disch := omega) [-getElem?_pos, if_pos, if_neg, decide_eq_true, decide_eq_false, ir_law13_BruteFar, hkd, hw8, hk0', hk3', writeA, over, IntWalk.i64_in]
    generalize hH1 : AH.alloc _ _ = H1
    obtain ⟨q, hq⟩ : ∃ q, q = H0.next := ⟨_, rfl⟩
    rw [← hq]
    have w1 : WF H1 := by rw [← hH1]; exact WF.alloc hw
    have n1 : H1.next = q + 1 := by rw [← hH1, hq]; simp
    have b1 : H1.blk q = some (.row (instC ⟨kd, 0, [], [], 0, []⟩ nilS nilS nilS) T_inst_Inst true) := by rw [← hH1, hq]; exact AH.alloc_blk_new
    clear hH1
    refine wpC_use (Q := FrQ q kd N) ?_ ?_
    · refine far_l0 (by omega) (by omega) ⟨?_, ?_, ?_, w1, by omega, nilS, [], b1, .nil, by simp⟩
      · simp
      · simp; omega
      · simp
    rintro e env2 H2 ⟨rfl, w2, hq2, ca, S, b2, hA, hS⟩ hu
    have u5 := hu 5 (by decide)
    have u1 := hu 1 (by decide)
    have v5 : True := trivial
    obtain ⟨cs6, hcs6⟩ : ∃ cs6 : List Value, cs6 = [.int .i64 kd, .int .i64 0, .slice none 0 0, ca, .int .i64 0, .slice none 0 0] := ⟨_, rfl⟩
    have hc2 : H2.cells q = some cs6 := by rw [hcs6]; exact AH.cells_of b2
    have hcut : cut cs6 0 6 = some cs6 := by rw [hcs6]; rfl
    have hx : InstV (fun b => b < H2.next) H2 (.agg cs6.toArray) ⟨kd, 0, [], zrow N N, 0, []⟩ := by
      rw [hcs6]
      exact ⟨_, _, _, rfl, by simp [I64]; omega, by simp [I64], by simp [I64], .nil, hA.slv (fun b h => h.2.1) (fun b hb => hA.lt w2 b hb) (by simp [zrow]; omega), .nil⟩
    obtain ⟨hE, hC⟩ := far_cR (kd := kd) (N := N) (by omega) hN
    obtain ⟨C, hCC, hC1, hC2⟩ : ∃ C : Nat, 362880 = C ∧ 1 ≤ C ∧ C ≤ 1048576 := ⟨_, rfl, by omega, by omega⟩
    rw [hCC] at hC
    generalize hxx : (⟨kd, 0, [], zrow N N, 0, []⟩ : InstD) = x at *
    simp (disch := omega) [-getElem?_pos, if_pos, if_neg, decide_eq_true, decide_eq_false, u5, hc2, hcut]
    clear hcs6 hxx hCC
    refine AFn.pure (Count_spec hx) ?_
    simp (disch := omega) [-getElem?_pos, if_pos, if_neg, decide_eq_true, decide_eq_false, hE, hC]
    refine AFn.pure wakes13_spec ?_
    have hC1' : ¬ (C : Int) < 1 := by omega
    obtain ⟨K0, rfl⟩ : ∃ K0 : Nat, k = K0 := ⟨k.toNat, by omega⟩
    have hcv : IntKind.i64.wrap (K0 : Int) = K0 := IntWalk.i64_in _ (by omega)
    have hr := i64_rem_nat (a := K0) (b := C) (by omega)
    have hKC := Nat.mod_lt K0 (show 0 < C by omega)
    generalize K0 % C = K at *
    simp (disch := omega) [-getElem?_pos, if_pos, if_neg, decide_eq_true, decide_eq_false, hC1', u5, u1, hcv, ↓hr, hc2, hcut]
    refine (At_spec (k := K) hx hE (by rw [hC]; omega)).mono' fun u H3 w3 ⟨w, hu, S, hA, k3, hS⟩ => ?_
    subst hu
    obtain ⟨wa, wc, rfl⟩ := hA.slice
    have n3 := k3.next
    have hx3 : InstV (fun b => b < H3.next) H3 (.agg cs6.toArray) x := hx.up (fun b hb => by omega) (.kept w2 k3)
    have hc3 := cells_kept w2 k3 hc2
    have hal := at_max (k := K) hE (by rw [hC]; omega)
    have hA3 : SlV (fun b => b < H3.next) H3 (.slice wa (x.at K).length wc) (x.at K) := hA.slv (fun _ h => h.elim) (fun b hb => hA.lt w3 b hb) (by omega)
    simp (disch := omega) [-getElem?_pos, if_pos, if_neg, decide_eq_true, decide_eq_false, hc3, hcut, u5]
    refine (Rank_spec hx3 hA3 hE).mono' fun u H4 w4 ⟨hu, k4⟩ => ?_
    rw [rank_at hE (by rw [hC]; omega)] at hu
    subst hu
    have n4 := k4.next
    have hx4 : InstV (fun b => b < H4.next) H4 (.agg cs6.toArray) x := hx3.up (fun b hb => by omega) (.kept w3 k4)
    have hc4 := cells_kept w3 k4 hc3
    have hr2 : abin .rem (.int .i64 ((K : Int) + 1)) (.int .i64 (C : Int)) = some (.int .i64 (((K + 1) % C : Nat) : Int)) := i64_rem_nat (a := K + 1) (by omega)
    have hK2 := Nat.mod_lt (K + 1) (show 0 < C by omega)
    have hKK : C ≠ 1 → (K + 1) % C ≠ K := fun h => by
      by_cases h2 : K + 1 < C
      · rw [Nat.mod_eq_of_lt h2]; omega
      · rw [show K + 1 = C by omega, Nat.mod_self]; omega
    generalize (K + 1) % C = K2 at *
    simp (disch := omega) [-getElem?_pos, if_pos, if_neg, decide_eq_true, decide_eq_false, maskV, hc4, hcut, u5, ↓hr2, IntWalk.i64_in]
    refine AFnD.from (At_spec (k := K2) hx4 hE (by rw [hC]; omega)) fun u H5 w5 ⟨w, hu, S2, hA2, k5, hS2⟩ => ⟨keep_grow w4 k5, ?_⟩
    subst hu
    obtain ⟨xa, xc, rfl⟩ := hA2.slice
    have hal2 := at_max (k := K2) hE (by rw [hC]; omega)
    by_cases hC1e : C = 1
    · simp (disch := omega) [-getElem?_pos, if_pos, if_neg, decide_eq_true, decide_eq_false, hC1e]
    · simp (disch := omega) [-getElem?_pos, if_pos, if_neg, decide_eq_true, decide_eq_false, hC1e]
      refine AFn.pure (equal13_spec (p := fun _ => True) (hA3.any.kept w3 (k4.trans' k5)) (hA2.slv (q := fun _ => True) (fun _ h => h.elim) (fun _ _ => trivial) (by omega))) ?_
      have hne : x.at K ≠ x.at K2 := fun h => by
        have h1 := rank_at (x := x) (k := K) hE (by rw [hC]; omega)
        have h2 := rank_at (x := x) (k := K2) hE (by rw [hC]; omega)
        rw [h, h2] at h1
        exact hKK hC1e (by simpa using h1)
      simp (disch := omega) [-getElem?_pos, if_pos, if_neg, decide_eq_true, decide_eq_false, hne]
end Go.Proofs.Ytlcddhgfkkjhkaa
