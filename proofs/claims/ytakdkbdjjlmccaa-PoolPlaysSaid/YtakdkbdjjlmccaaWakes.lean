import Derived.Test.YtakdkbdjjlmccaaPS
set_option maxRecDepth 100000
set_option linter.unusedSimpArgs false
set_option linter.unusedVariables false
namespace Go.Proofs.Ytakdkbdjjlmccaa
open Go Go.Abs

theorem Wakes_spec (H : AH) : AFn Try.prog 7 [] H fun v H' => v = .bool true ∧ Keep [] H H' := by
  refine AFn.enter mixed ir7_eq (by simp [ir7]) fun hw => ?_
  simp [ir7]
  refine (PoolS.New_my H (n := 3) (by omega)).mono' fun v1 H1 w1 ⟨p, h1, hv⟩ => ?_
  subst hv
  simp
  refine (PoolS.Put_my h1 _ rfl ⟨by simp, by simp, by simp⟩).mono' fun v2 H2 w2 ⟨h2, hv⟩ => ?_
  subst hv
  simp [PoolR.full, PoolR.put] at h2 ⊢
  refine (PoolS.Put_my h2 _ rfl ⟨by simp, by simp, by simp⟩).mono' fun v3 H3 w3 ⟨h3, hv⟩ => ?_
  subst hv
  simp [PoolR.full, PoolR.put] at h3 ⊢
  refine (PoolS.Put_my h3 _ rfl ⟨by simp, by simp, by simp⟩).mono' fun v4 H4 w4 ⟨h4, hv⟩ => ?_
  subst hv
  simp [PoolR.full, PoolR.put] at h4 ⊢
  refine (PoolS.Put_my h4 _ rfl ⟨by simp, by simp, by simp⟩).mono' fun v5 H5 w5 ⟨h5, hv⟩ => ?_
  subst hv
  simp [PoolR.full, PoolR.put] at h5 ⊢
  refine (PoolS.Take_my h5 0 (by simp)).mono' fun v6 H6 w6 ⟨h6, hv⟩ => ?_
  subst hv
  simp [PoolR.at, PoolR.drop] at h6 ⊢
  refine (PoolS.Take_my h6 2 (by simp)).mono' fun v7 H7 w7 ⟨h7, hv⟩ => ?_
  subst hv
  simp [PoolR.at, PoolR.drop] at h7 ⊢
  refine (PoolS.Put_my h7 _ rfl ⟨by simp, by simp, by simp⟩).mono' fun v8 H8 w8 ⟨h8, hv⟩ => ?_
  subst hv
  simp [PoolR.full, PoolR.put] at h8 ⊢
  refine (PoolS.Put_my h8 _ rfl ⟨by simp, by simp, by simp⟩).mono' fun v9 H9 w9 ⟨h9, hv⟩ => ?_
  subst hv
  simp [PoolR.full, PoolR.put] at h9 ⊢
  refine AFn.pure (PoolS.Len_my h9) ?_
  simp
  exact ⟨by decide, h9.kept⟩
end Go.Proofs.Ytakdkbdjjlmccaa
