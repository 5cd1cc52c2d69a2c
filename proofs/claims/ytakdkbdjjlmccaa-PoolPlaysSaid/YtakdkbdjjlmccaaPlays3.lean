/-
  PoolPlays: the walk (2).
-/
import Derived.Test.YtakdkbdjjlmccaaPlays2
set_option maxRecDepth 100000
set_option linter.unusedSimpArgs false
set_option linter.unusedVariables false
namespace Go.Proofs.Ytakdkbdjjlmccaa
open Go Go.Abs

/-- The cells of acts. -/
def actCells : List (Int × Int × Int) → List Value
  | [] => []
  | (d, i, x) :: r => .int .i64 d :: .int .i64 i :: .int .i64 x :: actCells r

theorem actCells_length (l : List (Int × Int × Int)) : (actCells l).length = l.length * 3 := by
  induction l with
  | nil => rfl
  | cons a l ih => obtain ⟨d, i, x⟩ := a; simp [actCells, ih]; omega

theorem actCells_get (l : List (Int × Int × Int)) (k : Nat) (h : k < l.length) : ((actCells l).drop (k * 3)).take 3 = [.int .i64 l[k].1, .int .i64 l[k].2.1, .int .i64 l[k].2.2] := by
  induction l generalizing k with
  | nil => simp at h
  | cons a l ih =>
    obtain ⟨d, i, x⟩ := a
    cases k with
    | zero => simp [actCells]
    | succ k =>
      have := ih k (by simpa using h)
      simp only [actCells, Nat.add_mul, Nat.one_mul, show k * 3 + 3 = (k * 3 + 2) + 1 from rfl, List.drop_succ_cons, List.getElem_cons_succ]
      exact this

theorem actCells_take (l : List (Int × Int × Int)) (k : Nat) : (actCells l).take (k * 3) = actCells (l.take k) := by
  induction l generalizing k with
  | nil => simp [actCells]
  | cons a l ih =>
    obtain ⟨d, i, x⟩ := a
    cases k with
    | zero => simp [actCells]
    | succ k =>
      have := ih k
      simp only [actCells, Nat.add_mul, Nat.one_mul, show k * 3 + 3 = (k * 3 + 2) + 1 from rfl, List.take_succ_cons, this]

theorem Pair.alloc {H0 H : AH} {p m : Nat} {R : PoolR} {M : RefR} {F : List Nat} (h : Pair H0 H p m R M F) (B : Blk) : Pair H0 (H.alloc B) p m R M F ∧ H.next ∉ F := by
  obtain ⟨S, S2, hF, h1, h2, h3, h4, h5⟩ := h.two
  have hS := h1.lt h.wf
  have hS2 := h2.lt h.wf
  refine ⟨⟨⟨S, S2, hF, h1.keep fun b hb => AH.alloc_blk_ne (Nat.ne_of_lt (hS b hb)), h2.keep fun b hb => AH.alloc_blk_ne (Nat.ne_of_lt (hS2 b hb)), h3, h4, h5⟩, h.kept.trans' .alloc, h.wf.alloc, h.link, h.cap, h.small⟩, ?_⟩
  rw [hF]
  intro hc
  rcases List.mem_append.1 hc with h | h
  · have := hS _ h; omega
  · have := hS2 _ h; omega

theorem Pair.later {H0 H H' : AH} {p m : Nat} {R : PoolR} {M : RefR} {F : List Nat} (h : Pair H0 H p m R M F) (hk : Keep [] H H') (hw : WF H') : Pair H0 H' p m R M F := by
  obtain ⟨S, S2, hF, h1, h2, h3, h4, h5⟩ := h.two
  have hS := h1.lt h.wf
  have hS2 := h2.lt h.wf
  exact ⟨⟨S, S2, hF, h1.keep fun b hb => hk.blk b (hS b hb) (by simp), h2.keep fun b hb => hk.blk b (hS2 b hb) (by simp), h3, h4, h5⟩, h.kept.trans' hk, hw, h.link, h.cap, h.small⟩

theorem rem4 (d : Int) : 0 ≤ (if d > 0 then d else 0).tmod 4 ∧ (if d > 0 then d else 0).tmod 4 < 4 := by
  split
  · constructor
    · exact Int.tmod_nonneg _ (by omega)
    · exact Int.tmod_lt_of_pos _ (by omega)
  · simp

theorem plays_b1 {env : Env} {H H0 : AH} {p m : Nat} {R : PoolR} {M : RefR} {F : List Nat} {d id x : Int} {b off cap n k : Nat} {cs : List Value} (h : Pair H0 H p m R M F) (hk : k < n) (hc : H.cells b = some cs) (hcut : cut cs (off + k * 3) 3 = some [.int .i64 d, .int .i64 id, .int .i64 x])
    (e5 : env 5 = some (.pointer (some ⟨p, 0, none⟩))) (e7 : env 7 = some (.pointer (some ⟨m, 0, none⟩))) (e51 : env 51 = some (.slice (some ⟨b, off, none⟩) n cap)) (e53 : env 53 = some (.int .i64 k)) :
    wpC Try.prog 166 ir4_b1 (fun e env' H' => e = .normal ∧ ∃ R' M' F', Pair H0 H' p m R' M' F') env H := by
  simp (disch := omega) [-getElem?_pos, if_pos, if_neg, decide_eq_true, decide_eq_false, ir4_b1, e5, e7, e51, e53, hc, hcut, writeA]
  obtain ⟨h1, hnF⟩ := h.alloc (.row [.int .i64 d, .int .i64 id, .int .i64 x] 47 true)
  have hr := rem4 d
  refine wpC_use (plays_b2 (d := d) (id := id) (x := x) (e := 47) h1 (by simp) hnF hr (by simp [e5]) (by simp [e7]) (by simp) (by simp)) fun e env2 H2 ⟨he, R2, M2, F2, hP⟩ henv => ?_
  subst he
  have f5 := henv 5 (by simp [wrC, wrO, ir4_b2])
  have f7 := henv 7 (by simp [wrC, wrO, ir4_b2])
  simp [e5, e7] at f5 f7
  simp (disch := omega) [-getElem?_pos, if_pos, if_neg, decide_eq_true, decide_eq_false, f5, f7]
  have hs := hP.small_xs
  have hlr := hP.link.len_rise
  have hcnt := hP.link.cnt
  have hnext := hP.link.next
  obtain ⟨S, S2, hF, h3, h4, _⟩ := hP.two
  refine (IDs_spec h3 (by omega)).mono' fun v H3 w3 ⟨a, c, S3, hv, o1, k3, hS3⟩ => ?_
  rw [hP.link.rise] at hv o1
  subst hv
  simp (disch := omega) [-getElem?_pos, if_pos, if_neg, decide_eq_true, decide_eq_false, f5, f7]
  have hP3 := hP.later k3 w3
  obtain ⟨T, T2, hF3, g3, g4, _⟩ := hP3.two
  refine (Rising_spec g4 R2.xs.length hnext (by omega) (by omega)).mono' fun v H4 w4 ⟨a', c', S4, hv, o2, k4, hS4⟩ => ?_
  subst hv
  have hP4 := hP3.later k4 w4
  obtain ⟨U, U2, hF4, u3, u4, _⟩ := hP4.two
  have o1' := o1.kept w3 k4 (by simp)
  rw [hlr] at o1 o2 o1'
  simp only [hlr]
  simp (disch := omega) [-getElem?_pos, if_pos, if_neg, decide_eq_true, decide_eq_false, f5, f7]
  refine AFn.pure (PoolL.Len_spec u3) ?_
  simp (disch := omega) [-getElem?_pos, if_pos, if_neg, decide_eq_true, decide_eq_false, f5, f7, IntWalk.i64_in, ir4_b3]
  have hL : (risen M2.ids R2.xs.length).length < 1000000 := by omega
  have hl2 : M2.ids.length = (risen M2.ids R2.xs.length).length := hlr.symm
  rw [hl2] at o1' o2
  refine wpC_use (plays_l0 o1' o2 hL (by simp [hl2]) (by simp [hl2]) (by simp [hl2]) (by simp)) fun e env3 H5 ⟨he, hH⟩ henv3 => ?_
  subst he hH
  simp
  exact ⟨R2, M2, F2, hP4⟩

theorem cut_part {cs : List Value} {off n : Nat} {acts : List (Int × Int × Int)} (h : cut cs off (n * 3) = some (actCells acts)) (k : Nat) (hk : k < acts.length) (hn : acts.length = n) :
    cut cs (off + k * 3) 3 = some [.int .i64 acts[k].1, .int .i64 acts[k].2.1, .int .i64 acts[k].2.2] := by
  obtain ⟨q1, q2, q3, q4⟩ := cut_spec h
  rw [cut_eq (by omega), ← actCells_get acts k hk, q2, List.drop_take, List.drop_drop, List.take_take, Nat.min_eq_left (by omega)]

theorem plays_l1 {env : Env} {H H0 : AH} {p m : Nat} {R : PoolR} {M : RefR} {F : List Nat} {av : Value} {n : Nat} {acts : List (Int × Int × Int)} (hw0 : WF H0) (h : Pair H0 H p m R M F) (hrd : Rd H0 3 av n (actCells acts)) (hn : n ≤ 60)
    (e5 : env 5 = some (.pointer (some ⟨p, 0, none⟩))) (e7 : env 7 = some (.pointer (some ⟨m, 0, none⟩))) (e51 : env 51 = some av) (e52 : env 52 = some (.int .i64 n)) (e53 : env 53 = some (.int .i64 0)) :
    wpC Try.prog 166 (.loop ir4_l1) (fun e env' H' => e = .exit 0 ∧ Keep [] H0 H') env H := by
  have hal : acts.length = n := by have := hrd.len; rw [actCells_length] at this; omega
  refine loop_upto n (fun k env H' => env 5 = some (.pointer (some ⟨p, 0, none⟩)) ∧ env 7 = some (.pointer (some ⟨m, 0, none⟩)) ∧ env 51 = some av ∧ env 52 = some (.int .i64 n) ∧ env 53 = some (.int .i64 k) ∧ ∃ R M F, Pair H0 H' p m R M F) ⟨e5, e7, e51, e52, e53, R, M, F, h⟩ ?_
  rintro k env H' hk ⟨e5, e7, e51, e52, e53, R, M, F, hP⟩
  by_cases hkn : k < n
  · obtain ⟨b, off, cap, cs, rfl, q1, q2, q3, q4, q5⟩ := (hrd.kept hw0 hP.kept).at (by omega)
    have hcut := cut_part q5 k (by omega) hal
    simp (disch := omega) [-getElem?_pos, if_pos, if_neg, decide_eq_true, decide_eq_false, ir4_l1, e52, e53]
    refine wpC_use (plays_b1 (cap := cap) hP hkn q2 hcut (by simp [e5]) (by simp [e7]) (by simp [e51]) (by simp [e53])) fun e env2 H2 ⟨he, hP2⟩ henv => ?_
    subst he
    have f5 := henv 5 (by simp [wrC, wrO, ir4_b1, ir4_b2, ir4_b3, ir4_l0, ir4_b4])
    have f7 := henv 7 (by simp [wrC, wrO, ir4_b1, ir4_b2, ir4_b3, ir4_l0, ir4_b4])
    have f51 := henv 51 (by simp [wrC, wrO, ir4_b1, ir4_b2, ir4_b3, ir4_l0, ir4_b4])
    have f52 := henv 52 (by simp [wrC, wrO, ir4_b1, ir4_b2, ir4_b3, ir4_l0, ir4_b4])
    have f53 := henv 53 (by simp [wrC, wrO, ir4_b1, ir4_b2, ir4_b3, ir4_l0, ir4_b4])
    simp [e5, e7, e51, e52, e53] at f5 f7 f51 f52 f53
    simp (disch := omega) [-getElem?_pos, if_pos, if_neg, decide_eq_true, decide_eq_false, f5, f7, f51, f52, f53, IntWalk.i64_in]
    exact ⟨hkn, hP2⟩
  · obtain rfl : k = n := by omega
    simp (disch := omega) [-getElem?_pos, if_pos, if_neg, decide_eq_true, decide_eq_false, ir4_l1, e52, e53]
    exact hP.kept

theorem rem12 (d : Int) : 0 ≤ (if d > 0 then d else 0).tmod 12 ∧ (if d > 0 then d else 0).tmod 12 < 12 := by
  split
  · constructor
    · exact Int.tmod_nonneg _ (by omega)
    · exact Int.tmod_lt_of_pos _ (by omega)
  · simp

theorem PoolPlays_abs (most : Int) (av : Value) (n : Nat) (acts : List (Int × Int × Int)) (H : AH) (hrd : Rd H 3 av n (actCells acts)) (hn : n ≤ 9223372036854775807) :
    AFn Try.prog 4 [.int .i64 most, av] H fun v H' => v = .bool true ∧ Keep [] H H' := by
  refine AFn.enter mixed ir4_eq (by simp [ir4]) fun hw => ?_
  have hr := rem12 most
  simp (disch := omega) [-getElem?_pos, if_pos, if_neg, decide_eq_true, decide_eq_false, ir4, IntWalk.i64_in]
  generalize (if 0 < most then most else 0).tmod 12 = r at *
  rw [IntWalk.i64_in _ (by omega)]
  refine (PoolL.New_spec (1 + r) H).mono' fun v H1 w1 hq => ?_
  rw [if_pos (by omega)] at hq
  obtain ⟨rfl, rfl⟩ := hq
  simp (disch := omega) [-getElem?_pos, if_pos, if_neg, decide_eq_true, decide_eq_false]
  generalize hH2 : ((H.alloc (.row [.int .i64 (1 + r), .slice none 0 0, .slice none 0 0] 70 true)).alloc (.row [.int .i64 (1 + r), .slice none 0 0, .slice none 0 0, .slice none 0 0, .int .i64 0] 45 true)) = H2
  have hw2 : WF H2 := by rw [← hH2]; exact w1.alloc
  have hP : Pair H H2 H.next (H.next + 1) ⟨1 + r, [], []⟩ ⟨1 + r, [], [], [], 0⟩ ([H.next] ++ [H.next + 1]) := by
    refine ⟨⟨[H.next], [H.next + 1], rfl, ⟨none, 0, none, 0, [], [], ?_, .nil, .nil, rfl, by simp⟩, ⟨none, 0, none, 0, none, 0, [], [], [], ?_, .nil, .nil, .nil, rfl, by simp⟩, by simp, by simp, by simp⟩, ?_, hw2, Link.start _, by simp; omega, by simp; omega⟩
    · rw [← hH2]; simp
    · rw [← hH2]; simp
    · rw [← hH2]; exact Keep.alloc.trans' .alloc
  refine (Wakes_spec H2).mono' fun v H3 w3 ⟨hv, k3⟩ => ?_
  subst hv
  have hP3 := hP.later k3 w3
  simp (disch := omega) [-getElem?_pos, if_pos, if_neg, decide_eq_true, decide_eq_false]
  have hno : ∀ l : List (Int × Int × Int), actCells l = [] → l = [] := fun l hc => by
    cases l with
    | nil => rfl
    | cons a l => obtain ⟨d, i, x⟩ := a; simp [actCells] at hc
  rcases hrd with ⟨rfl, rfl, hc⟩ | ⟨rfl, rfl, hc⟩ | ⟨b, off, cap, cs, rfl, q1, q2, q3⟩
  · obtain rfl := hno _ hc
    simp (disch := omega) [-getElem?_pos, if_pos, if_neg, decide_eq_true, decide_eq_false, ir4_b0]
    refine wpC_use (plays_l1 (n := 0) (acts := []) hw hP3 .nil (by omega) (by simp) (by simp) (by simp) (by simp) (by simp)) fun e env2 H4 ⟨he, hk⟩ henv => ?_
    subst he
    simp
    exact hk
  · obtain rfl := hno _ hc
    simp (disch := omega) [-getElem?_pos, if_pos, if_neg, decide_eq_true, decide_eq_false, ir4_b0]
    refine wpC_use (plays_l1 (n := 0) (acts := []) hw hP3 (.inr (.inl ⟨rfl, rfl, rfl⟩)) (by omega) (by simp) (by simp) (by simp) (by simp) (by simp)) fun e env2 H4 ⟨he, hk⟩ henv => ?_
    subst he
    simp
    exact hk
  · generalize hmn : min n 60 = mn
    have hmn1 : mn ≤ n ∧ mn ≤ 60 := by omega
    have hrd2 : Rd H 3 (.slice (some ⟨b, off, none⟩) mn cap) mn (actCells (acts.take mn)) := by
      rw [← actCells_take]
      exact Rd.first (.inr (.inr ⟨b, off, cap, cs, rfl, q1, q2, q3⟩)) hmn1.1
    have hif : (if (60 : Int) < n then (60 : Int) else n) = mn := by split <;> omega
    simp (disch := omega) [-getElem?_pos, if_pos, if_neg, decide_eq_true, decide_eq_false, ir4_b0, hif]
    refine wpC_use (plays_l1 (n := mn) (acts := acts.take mn) hw hP3 hrd2 (by omega) (by simp) (by simp) (by simp) (by simp) (by simp)) fun e env2 H4 ⟨he, hk⟩ henv => ?_
    subst he
    simp
    exact hk
end Go.Proofs.Ytakdkbdjjlmccaa
