/-
  An instance that may be, of few decisions, made of any one: the whole.
-/
import Derived.Test.YtlcddhgfkkjhkaaTame
set_option maxRecDepth 100000
set_option linter.unusedSimpArgs false
set_option linter.unusedVariables false
namespace Go.Proofs.Ytlcddhgfkkjhkaa
open Go Go.Abs

/-- An instance that may be, of at most m decisions. -/
structure Tame (m : Nat) (y : InstD) : Prop where
  ok : y.Ok
  items : y.items.length ≤ m
  cost : y.cost.length < m
  sets : y.sets.length ≤ m
  size : y.size ≤ 8
  elems : ∀ s ∈ y.sets, s.elems.length ≤ 8

theorem mod4 (k : Int) : ∃ d, d = ((k.tmod 4 + 4).tmod 4) ∧ 0 ≤ d ∧ d < 4 ∧ -3 ≤ k.tmod 4 ∧ k.tmod 4 ≤ 3 := by
  refine ⟨_, rfl, ?_⟩
  have h1 : -3 ≤ k.tmod 4 ∧ k.tmod 4 ≤ 3 := by
    have a := Int.tmod_lt_of_pos k (show (0:Int) < 4 by omega)
    have b := Int.lt_tmod_of_pos k (show (0:Int) < 4 by omega)
    omega
  have h2 : 0 ≤ k.tmod 4 + 4 := by omega
  rw [Int.tmod_eq_emod_of_nonneg h2]
  omega
theorem mod9 (k : Int) : ∃ Z : Nat, (if 0 < k then k else 0).tmod 9 = (Z : Int) ∧ Z < 9 := by
  have h : (0 : Int) ≤ if 0 < k then k else 0 := by split <;> omega
  rw [Int.tmod_eq_emod_of_nonneg h]
  exact ⟨((if 0 < k then k else 0) % 9).toNat, by omega, by omega⟩

theorem tm_start {H : AH} (hw : WF H) {xc o : List Value} : Tm H ((((H.alloc (.row xc T_secateurlaw13_Inst true)).alloc (.row [.int .i64 0, .int .i64 0, nilS, nilS, .int .i64 0, nilS] T_secateurlaw13_Inst true)).alloc (.row [.int .i64 0, .int .i64 0, nilS, nilS, .int .i64 0, nilS] T_secateurlaw13_Inst true)).set (H.next + 1 + 1) (.row o T_secateurlaw13_Inst true)) H.next xc o := by
  refine ⟨?_, .new_set (by omega) (.new_alloc (.new_alloc .alloc)), ?_, ?_, ?_, by simp⟩
  · refine WF.set (WF.alloc (WF.alloc (WF.alloc hw))) ?_; simp
  all_goals simp (disch := omega) [nilS, if_neg, if_pos]

theorem tm_end {H0 H2 : AH} {n : Nat} {xc : List Value} {y : InstD} {ia ca sa : Value} (h0 : H0.next = n) (hT : Tm H0 H2 n xc (instC y ia ca sa)) (j1 : I64 y.kind) (j2 : I64 y.cap) (j3 : I64 y.size)
    (h1 : SlV (fun b => n + 3 ≤ b ∧ b < H2.next) H2 ia y.items) (h2 : SlV (fun b => n + 3 ≤ b ∧ b < H2.next) H2 ca y.cost) (h3 : SlV (fun b => n + 3 ≤ b ∧ b < H2.next) H2 sa y.sets) :
    InstV (New H0 (H2.set (n + 1) (.row (instC y ia ca sa) T_secateurlaw13_Inst true))) (H2.set (n + 1) (.row (instC y ia ca sa) T_secateurlaw13_Inst true)) (.agg #[.int .i64 y.kind, .int .i64 y.cap, ia, ca, .int .i64 y.size, sa]) y ∧ Keep [] H0 (H2.set (n + 1) (.row (instC y ia ca sa) T_secateurlaw13_Inst true)) := by
  have mv : ∀ {α : Type} [Ren α] {w : Value} {l : List α}, SlV (fun b => n + 3 ≤ b ∧ b < H2.next) H2 w l → SlV (New H0 (H2.set (n + 1) (.row (instC y ia ca sa) T_secateurlaw13_Inst true))) (H2.set (n + 1) (.row (instC y ia ca sa) T_secateurlaw13_Inst true)) w l := fun h => h.up (fun b hb => ⟨by omega, by simp; omega⟩) (.set (by omega))
  exact ⟨⟨ia, ca, sa, rfl, j1, j2, j3, mv h1, mv h2, mv h3⟩, .new_set (by omega) hT.keep⟩
theorem mag_i64 {n : Int} (h : Mag 0 n) : I64 n := by unfold Mag at h; unfold I64; omega

theorem tame_spec {H : AH} {v : Value} {x : InstD} {m : Nat} (hm2 : 2 ≤ m) (hm : m ≤ 40) (hx : InstV (fun b => b < H.next) H v x) : AFn Try.prog F_law13_tame [v, .int .i64 (m : Nat)] H fun u H' => ∃ y, InstV (New H H') H' u y ∧ Tame m y ∧ Keep [] H H' := by
  obtain ⟨iv, cv, sv, rfl, i1, i2, i3, h1, h2, h3⟩ := hx
  refine AFn.enter mixed ir_law13_tame_eq (by simp [ir_law13_tame]) fun hw => ?_
  obtain ⟨n, hn⟩ : ∃ n, n = H.next := ⟨_, rfl⟩
  rw [← hn] at h1 h2 h3
  obtain ⟨kd, hkd, kd0, kd4, kb1, kb2⟩ := mod4 x.kind
  obtain ⟨ia0, ic0, rfl⟩ := h1.slice
  obtain ⟨ca0, cc0, rfl⟩ := h2.slice
  obtain ⟨sa0, sc0, rfl⟩ := h3.slice
  have min_if' : ∀ a : Nat, (if m < a then (m : Int) else (a : Int)) = ((min a m : Nat) : Int) := fun a => by split <;> omega
  have hm1 := min_if' x.items.length
  have hm3 := min_if' x.sets.length
  have hz : ∀ {H : AH}, (H.alloc (.row [.int .i64 0, .int .i64 0, nilS, nilS, .int .i64 0, nilS] T_secateurlaw13_Inst true)).blk H.next = some (.row [.int .i64 0, .int .i64 0, nilS, nilS, .int .i64 0, nilS] T_secateurlaw13_Inst true) := fun {H} => AH.alloc_blk_new
  rcases (show kd = 0 ∨ kd = 3 ∨ (kd ≠ 0 ∧ kd ≠ 3) by omega) with rfl | rfl | ⟨hk0, hk3⟩
  · simp (disch := omega) [-getElem?_pos, if_pos, if_neg, decide_eq_true, decide_eq_false, ir_law13_tame, ← hkd, over, writeA, IntWalk.i64_in]
    obtain ⟨z1, m1, s1⟩ := mag_spec x.cap
    refine AFn.pure (s1 _) ?_
    have f1 : Mag 0 (if 0 < z1 then z1 else 0) := by unfold Mag at *; split <;> omega
    simp (disch := omega) [-getElem?_pos, if_pos, if_neg, decide_eq_true, decide_eq_false, over, writeA, ↓ieval_slhi, IntWalk.i64_in]
    generalize (if 0 < z1 then z1 else 0) = z3 at *
    generalize hHb : AH.set _ _ _ = Hb
    have hT : Tm H Hb n (instC x (.slice ia0 x.items.length ic0) (.slice ca0 x.cost.length cc0) (.slice sa0 x.sets.length sc0)) (instC ⟨0, z3, [], [], 0, []⟩ nilS nilS nilS) := by
      rw [← hHb, hn]; exact tm_start hw
    clear hHb
    have wb := hT.wf
    have kb := hT.keep
    have nb := hT.hn
    obtain ⟨w, hsl, hz⟩ := (h1.kept hw kb).sl (m := min x.items.length m) (by omega)
    have hlw : (x.items.take (min x.items.length m)).length = min x.items.length m := by rw [List.length_take]; omega
    generalize x.items.take (min x.items.length m) = L at *
    obtain ⟨wa, wc, rfl⟩ := hz.slice
    simp only [sz_pair] at hsl
    rw [← hn]
    simp (disch := omega) [-getElem?_pos, if_pos, if_neg, decide_eq_true, decide_eq_false, hm1, hsl, ↓ieval_slhi]
    refine wpC_use (tame_l5 (H0 := H) (y := ⟨0, z3, [], [], 0, []⟩) wb hn.symm (by omega) hz (by omega) ⟨by simp, by simp, by simp, by simp, by simp, .refl, nilS, [], [], hT, .nil, rfl, by simp, by simp⟩) ?_
    rintro e env2 H2 ⟨rfl, k2, ia, M, S, hT2, hA2, hM2, hF2, hS2⟩ hu2
    have u4 := hu2 4 (by decide)
    have u6 := hu2 6 (by decide)
    have c2 : H2.cells (n + 1 + 1) = some (instC ⟨0, z3, [], [], 0, []⟩ ia nilS nilS) := AH.cells_of hT2.b2
    have hcx := inst_cut ⟨0, z3, [], [], 0, []⟩ ia nilS nilS
    have w1 := writeA_row (off := 0) (news := instC ⟨0, z3, [], [], 0, []⟩ ia nilS nilS) hT2.b1
    simp only [over, List.take_zero, List.length_cons, List.length_nil, List.nil_append, List.drop_succ_cons, List.drop_zero, List.append_nil, Nat.zero_add, Nat.le_refl, if_true] at w1
    obtain ⟨r1, r2⟩ := tm_end (y := ⟨0, z3, M, [], 0, []⟩) hn.symm hT2 (by unfold I64; simp) (mag_i64 f1) (by unfold I64; simp) (hA2.slv (fun _ h => h.elim) (fun b hb => ⟨by have := hS2 b hb; omega, hA2.lt hT2.wf b hb⟩) (by omega)) .nil .nil
    simp (disch := omega) [-getElem?_pos, if_pos, if_neg, decide_eq_true, decide_eq_false, u4, u6, c2, hcx, w1]
    refine ⟨⟨0, z3, M, [], 0, []⟩, r1, ⟨⟨by simp, by simp, ⟨.inl rfl, .inr (.inr rfl), .inr ⟨rfl, rfl⟩⟩, ⟨by simp, by simp; omega, by simp, by simp, by simp⟩, ⟨by simp, by simp⟩, ⟨f1, fun k hk => hF2 _ (List.getElem_mem hk), by simp, by simp⟩, by intro h; simp at h⟩, by simp; omega, by simp; omega, by simp, by simp, by simp⟩, r2⟩
  · obtain ⟨Z, hZ, hZ9⟩ := mod9 x.size
    simp (disch := omega) [-getElem?_pos, if_pos, if_neg, decide_eq_true, decide_eq_false, ir_law13_tame, ← hkd, over, writeA, ↓ieval_slhi, hZ, IntWalk.i64_in]
    generalize hHb : AH.set _ _ _ = Hb
    have hT : Tm H Hb n (instC x (.slice ia0 x.items.length ic0) (.slice ca0 x.cost.length cc0) (.slice sa0 x.sets.length sc0)) (instC ⟨3, 0, [], [], Z, []⟩ nilS nilS nilS) := by
      rw [← hHb, hn]; exact tm_start hw
    clear hHb
    have wb := hT.wf
    have kb := hT.keep
    have nb := hT.hn
    obtain ⟨w, hsl, hz⟩ := (h3.kept hw kb).sl (m := min x.sets.length m) (by omega)
    have hlw : (x.sets.take (min x.sets.length m)).length = min x.sets.length m := by rw [List.length_take]; omega
    generalize x.sets.take (min x.sets.length m) = L at *
    obtain ⟨wa, wc, rfl⟩ := hz.slice
    simp only [sz_set] at hsl
    rw [← hn]
    simp (disch := omega) [-getElem?_pos, if_pos, if_neg, decide_eq_true, decide_eq_false, hm3, hsl, ↓ieval_slhi]
    refine wpC_use (tame_l4 (H0 := H) (y := ⟨3, 0, [], [], Z, []⟩) (Z := Z) wb hn.symm (by omega) rfl hZ9 hz (by omega) ⟨by simp, by simp, by simp, by simp, by simp, .refl, nilS, [], [], hT, .nil, rfl, fun s hs => by simp at hs, by simp⟩) ?_
    rintro e env2 H2 ⟨rfl, k2, sa, M, S, hT2, hA2, hM2, hF2, hS2⟩ hu2
    have u4 := hu2 4 (by decide)
    have u6 := hu2 6 (by decide)
    have c2 : H2.cells (n + 1 + 1) = some (instC ⟨3, 0, [], [], Z, []⟩ nilS nilS sa) := AH.cells_of hT2.b2
    have hcx := inst_cut ⟨3, 0, [], [], Z, []⟩ nilS nilS sa
    have w1 := writeA_row (off := 0) (news := instC ⟨3, 0, [], [], Z, []⟩ nilS nilS sa) hT2.b1
    simp only [over, List.take_zero, List.length_cons, List.length_nil, List.nil_append, List.drop_succ_cons, List.drop_zero, List.append_nil, Nat.zero_add, Nat.le_refl, if_true] at w1
    obtain ⟨r1, r2⟩ := tm_end (y := ⟨3, 0, [], [], Z, M⟩) hn.symm hT2 (by unfold I64; simp) (by unfold I64; simp) (by unfold I64; simp; omega) .nil .nil (hA2.slv (fun b h => ⟨by have := h.1; omega, h.2.1⟩) (fun b hb => ⟨by have := hS2 b hb; omega, hA2.lt hT2.wf b hb⟩) (by omega))
    simp (disch := omega) [-getElem?_pos, if_pos, if_neg, decide_eq_true, decide_eq_false, u4, u6, c2, hcx, w1]
    have hF3 : ∀ s ∈ M, Mag 0 s.cost ∧ Rises (-1) Z s.elems ∧ s.elems.length ≤ Z := fun s hs => by simpa using hF2 s hs
    refine ⟨⟨3, 0, [], [], Z, M⟩, r1, ⟨⟨by simp, by simp, ⟨.inr ⟨rfl, rfl⟩, .inr (.inr rfl), .inl rfl⟩, ⟨by simp, by simp, by simp; omega, by simp, by simp; omega⟩, ⟨by simp, fun k hk => (hF3 _ (List.getElem_mem hk)).2.1⟩, ⟨by simp [Mag], by simp, by simp, fun k hk => (hF3 _ (List.getElem_mem hk)).1⟩, by intro h; simp at h⟩, by simp, by simp; omega, by simp; omega, by simp; omega, fun s hs => by have := (hF3 s hs).2.2; omega⟩, r2⟩
  · obtain ⟨N, hN⟩ : ∃ N : Nat, N = max 1 (min x.cost.length (m - 1)) := ⟨_, rfl⟩
    simp (disch := omega) [-getElem?_pos, if_pos, if_neg, decide_eq_true, decide_eq_false, ir_law13_tame, ← hkd, over, writeA, hk0, hk3, IntWalk.i64_in]
    have hNN : (if 1 < (if (m : Int) - 1 < (x.cost.length : Int) then (m : Int) - 1 else (x.cost.length : Int)) then (if (m : Int) - 1 < (x.cost.length : Int) then (m : Int) - 1 else (x.cost.length : Int)) else 1) = (N : Int) := by (repeat' split) <;> omega
    generalize hHb : AH.set _ _ _ = Hb
    have hT : Tm H Hb n (instC x (.slice ia0 x.items.length ic0) (.slice ca0 x.cost.length cc0) (.slice sa0 x.sets.length sc0)) (instC ⟨kd, 0, [], [], 0, []⟩ nilS nilS nilS) := by
      rw [← hHb, hn]; exact tm_start hw
    clear hHb
    have wb := hT.wf
    have kb := hT.keep
    have nb := hT.hn
    rw [← hn]
    refine wpC_use (tame_l1 (H0 := H) (y := ⟨kd, 0, [], [], 0, []⟩) (N := N) wb hn.symm (by omega) (h2.kept hw kb) (by omega) ⟨by simp, by simp, by simp, by simp [hNN], by simp [hNN], by simp, .refl, nilS, [], [], hT, .nil, rfl, ⟨by simp, by simp⟩, by simp⟩) ?_
    rintro e env2 H2 ⟨rfl, k2, ca, M, S, hT2, hA2, hM2, hF2, hS2⟩ hu2
    have u4 := hu2 4 (by decide)
    have u6 := hu2 6 (by decide)
    have c2 : H2.cells (n + 1 + 1) = some (instC ⟨kd, 0, [], [], 0, []⟩ nilS ca nilS) := AH.cells_of hT2.b2
    have hcx := inst_cut ⟨kd, 0, [], [], 0, []⟩ nilS ca nilS
    have w1 := writeA_row (off := 0) (news := instC ⟨kd, 0, [], [], 0, []⟩ nilS ca nilS) hT2.b1
    simp only [over, List.take_zero, List.length_cons, List.length_nil, List.nil_append, List.drop_succ_cons, List.drop_zero, List.append_nil, Nat.zero_add, Nat.le_refl, if_true] at w1
    obtain ⟨r1, r2⟩ := tm_end (y := ⟨kd, 0, [], M, 0, []⟩) hn.symm hT2 (by unfold I64; simp; omega) (by unfold I64; simp) (by unfold I64; simp) .nil (hA2.slv (fun b h => ⟨by have := h.1; omega, h.2.1⟩) (fun b hb => ⟨by have := hS2 b hb; omega, hA2.lt hT2.wf b hb⟩) (by omega)) .nil
    simp (disch := omega) [-getElem?_pos, if_pos, if_neg, decide_eq_true, decide_eq_false, u4, u6, c2, hcx, w1]
    have hF3 := hF2.1
    refine ⟨⟨kd, 0, [], M, 0, []⟩, r1, ⟨⟨kd0, kd4, ⟨.inr ⟨rfl, rfl⟩, by simp; omega, .inr ⟨rfl, rfl⟩⟩, ⟨fun _ => ⟨by simp; omega, by simp; omega⟩, by simp, by simp, by simp, by simp⟩, ⟨fun k hk => by rw [(hF3 _ (List.getElem_mem hk)).1]; exact hM2.symm, by simp⟩, ⟨by simp [Mag], by simp, fun k hk j hj => (hF3 _ (List.getElem_mem hk)).2 _ (List.getElem_mem hj), by simp⟩, hF2.2⟩, by simp, by simp; omega, by simp, by simp, by simp⟩, r2⟩
end Go.Proofs.Ytlcddhgfkkjhkaa
