import Derived.Test.YtakdkbdjjlmccaaWakes
set_option maxRecDepth 100000
set_option linter.unusedSimpArgs false
set_option linter.unusedVariables false
namespace Go.Proofs.Ytakdkbdjjlmccaa
open Go Go.Abs

theorem NewI_spec (n : Int) (H : AH) : AFn Try.prog 21 [.int .i64 n] H fun v H' =>
    if 1 ≤ n ∧ n ≤ 1048576 then H' = H.alloc (.row [.int .i64 n, .slice none 0 0, .slice none 0 0] 75 true) ∧ v = .tuple #[.pointer (some ⟨H.next, 0, none⟩), .int .i64 0]
    else H' = H ∧ v = .tuple #[.pointer none, .int .i64 2] := by
  refine AFn.enter mixed ir21_eq (by simp [ir21]) fun hw => ?_
  by_cases h1 : n < 1
  · simp [ir21, h1, show ¬ (1 ≤ n) by omega]
  · by_cases h2 : n > 1048576
    · simp [ir21, h1, h2, show ¬ (n ≤ 1048576) by omega]
    · simp [ir21, h1, h2, show (1 ≤ n) by omega, show n ≤ 1048576 by omega, over]

theorem PutI_nil (x : Value) (H : AH) : AFn Try.prog 22 [.pointer none, x] H fun v H' => v = .tuple #[.int .i64 0, .int .i64 1] ∧ H' = H := by
  refine AFn.enter mixed ir22_eq (by simp [ir22]) fun hw => ?_
  simp [ir22]
theorem GetI_nil (x : Value) (H : AH) : AFn Try.prog 23 [.pointer none, x] H fun v H' => v = .tuple #[.int .i64 0, .int .i64 1] ∧ H' = H := by
  refine AFn.enter mixed ir23_eq (by simp [ir23]) fun hw => ?_
  simp [ir23]
theorem TakeI_nil (x : Value) (H : AH) : AFn Try.prog 24 [.pointer none, x] H fun v H' => v = .tuple #[.int .i64 0, .int .i64 1] ∧ H' = H := by
  refine AFn.enter mixed ir24_eq (by simp [ir24]) fun hw => ?_
  simp [ir24]
  refine AFn.pure (GetI_nil x H) ?_
  simp
theorem LenI_nil (H : AH) : AFn Try.prog 25 [.pointer none] H fun v H' => v = .int .i64 0 ∧ H' = H := by
  refine AFn.enter mixed ir25_eq (by simp [ir25]) fun hw => ?_
  simp [ir25]
theorem IDsI_nil (H : AH) : AFn Try.prog 26 [.pointer none] H fun v H' => v = .slice none 0 0 ∧ H' = H := by
  refine AFn.enter mixed ir26_eq (by simp [ir26]) fun hw => ?_
  simp [ir26]


theorem loop5 (x y : Int) (b : Nat) {env : Env} {H : AH} (hw : WF H) (h21 : env 21 = some (.slice (some ⟨b, 0, none⟩) 2 2)) (h22 : env 22 = some (.int .i64 2)) (h23 : env 23 = some (.int .i64 0)) (hb : H.blk b = some (.row [.int .i64 x, .int .i64 y] 3 true)) :
    wpC Try.prog 98 (.loop ir5_l0) (fun e env' H' => e = .exit 0 ∧ Keep [] H H') env H := by
  refine loop_rule (fun j env H' => ∃ k : Nat, k ≤ 2 ∧ j = 2 - k ∧ env 21 = some (.slice (some ⟨b, 0, none⟩) 2 2) ∧ env 22 = some (.int .i64 2) ∧ env 23 = some (.int .i64 k) ∧ Keep [] H H') ?_ (j := 2) ⟨0, by omega, rfl, h21, h22, h23, .refl⟩
  rintro j env H' ⟨k, hk, rfl, h21, h22, h23, hkeep⟩
  have hb' : H'.blk b = _ := (hkeep.blk b (hw.lt hb) (by simp)).trans hb
  have hc := AH.cells_of hb'
  have hgo : ∀ n : Int, H'.cells b = some [.int .i64 x, .int .i64 y] → ([Value.int .i64 x, .int .i64 y][k]? = some (.int .i64 n)) → k < 2 → wpC Try.prog 98 ir5_l0 (fun e env H_1 => match e with
      | .normal => ∃ j', j' < 2 - k ∧ ∃ k : Nat, k ≤ 2 ∧ j' = 2 - k ∧ env 21 = some (.slice (some ⟨b, 0, none⟩) 2 2) ∧ env 22 = some (.int .i64 2) ∧ env 23 = some (.int .i64 k) ∧ Keep [] H H_1
      | e => e = .exit 0 ∧ Keep [] H H_1) env H' := by
    intro n hc hn hk2
    simp (disch := omega) [-getElem?_pos, if_pos, if_neg, decide_eq_true, decide_eq_false, ir5_l0, h21, h22, h23, hc, hn]
    refine (NewI_spec n H').mono fun v H2 hq => ?_
    by_cases hr : 1 ≤ n ∧ n ≤ 1048576
    · rw [if_pos hr] at hq
      obtain ⟨rfl, rfl⟩ := hq
      simp (disch := omega) [-getElem?_pos, if_pos, if_neg, decide_eq_true, decide_eq_false, hr.1, hr.2, h21, h22, h23, IntWalk.i64_in]
      exact ⟨1 - k, by omega, k + 1, by omega, by omega, by simp, hkeep.trans' .alloc⟩
    · rw [if_neg hr] at hq
      obtain ⟨rfl, rfl⟩ := hq
      by_cases h1 : 1 ≤ n
      · have h2 : ¬ n ≤ 1048576 := fun h => hr ⟨h1, h⟩
        simp (disch := omega) [-getElem?_pos, if_pos, if_neg, decide_eq_true, decide_eq_false, h1, h2, h21, h22, h23, IntWalk.i64_in]
        exact ⟨1 - k, by omega, k + 1, by omega, by omega, by simp, hkeep⟩
      · simp (disch := omega) [-getElem?_pos, if_pos, if_neg, decide_eq_true, decide_eq_false, h1, h21, h22, h23, IntWalk.i64_in]
        exact ⟨1 - k, by omega, k + 1, by omega, by omega, by simp, hkeep⟩
  match k, hk with
  | 0, _ => exact hgo x hc (by simp) (by omega)
  | 1, _ => exact hgo y hc (by simp) (by omega)
  | 2, _ =>
    simp (disch := omega) [-getElem?_pos, ir5_l0, h21, h22, h23]
    exact hkeep

theorem PoolMakes_abs (most id : Int) (H : AH) : AFn Try.prog 5 [.int .i64 most, .int .i64 id] H fun v H' => v = .bool true ∧ Keep [] H H' := by
  refine AFn.enter mixed ir5_eq (by simp [ir5]) fun hw => ?_
  simp [ir5]
  refine wpC_use (loop5 most ((max 0 most).tmod 50) H.next hw.alloc (by simp) (by simp) (by simp) (by simp; split <;> rename_i h <;> congr <;> omega)) fun e env' H' ⟨he, hk⟩ henv => ?_
  subst he
  have h1 := henv 1 (by simp [wrC, wrO, ir5_l0])
  simp at h1
  simp
  refine AFn.pure (PutI_nil _ _) ?_
  simp [h1]
  refine AFn.pure (GetI_nil _ _) ?_
  simp [h1]
  refine AFn.pure (TakeI_nil _ _) ?_
  simp
  refine (Wakes_spec H').mono fun v H2 ⟨hv, hk2⟩ => ?_
  subst hv
  simp
  refine AFn.pure (LenI_nil _) ?_
  simp
  refine AFn.pure (IDsI_nil _) ?_
  simp
  exact (Keep.alloc.trans' hk).trans' hk2
end Go.Proofs.Ytakdkbdjjlmccaa
