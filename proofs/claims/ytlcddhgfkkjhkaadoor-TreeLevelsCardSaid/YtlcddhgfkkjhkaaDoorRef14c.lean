/-
  The document's state (3): Replay, whole; Answer.
-/
import Derived.Test.YtlcddhgfkkjhkaaDoorRef14b
set_option maxRecDepth 100000
set_option linter.unusedSimpArgs false
set_option linter.unusedVariables false
namespace Go.Proofs.YtlcddhgfkkjhkaaDoor
open Go Go.Abs
theorem replayF_used {x : InstD} : ∀ {P : List Int} {s : StD} {i j : Nat} {t : StD}, x.replayF s i P = (t, j, true) → t.used.length = s.used.length
  | [], s, i, j, t, h => by cases h; rfl
  | d :: l, s, i, j, t, h => by
    rw [replay_step] at h
    split at h
    · rw [replayF_used h, apply_used]
    · cases h
theorem start_used {x : InstD} : x.start.used.length = x.cost.length + x.size.toNat := by
  unfold InstD.start; simp only
  split
  · rw [setT_len, List.length_replicate]
  · rw [List.length_replicate]
theorem replay_used {x : InstD} {P : List Int} {j : Nat} {t : StD} (h : x.replay P = (t, j, true)) : t.used.length = x.cost.length + x.size.toNat := by
  rw [replayF_used h, start_used]
theorem RReplay_spec {H : AH} {w pv : Value} {x : InstD} {P : List Int} (hx : InstV (fun b => b < H.next) H w x) (hok : x.Ok) (hP : SlV (fun b => b < H.next) H pv P) (hPl : P.length ≤ 1000) :
    AFn Tryd.prog F_ref14_Replay [w, pv] H fun u H' => ∃ sv, u = .tuple #[sv, .int .i64 ((x.replay P).2.1 : Nat), .bool (x.replay P).2.2] ∧ RsV (fun b => b < H'.next) H' sv (x.replay P).1 ∧ Keep [] H H' := by
  obtain ⟨iv, cv, sv, rfl, i1, i2, i3, h1, h2, h3⟩ := id hx
  have hci := h1.cell
  have hcs := h3.cell
  obtain ⟨ca, cc, rfl⟩ := h2.slice
  obtain ⟨pa, pc, rfl⟩ := hP.slice
  have hPm := hP.max
  have hPc := hP.cell
  obtain ⟨n, hn⟩ : ∃ n : Nat, n = x.cost.length + x.size.toNat := ⟨_, rfl⟩
  have hs0 := hok.few.size0
  have hn4 := slots_le hok
  have hwr : IntKind.i64.wrap ((x.cost.length : Int) + x.size) = (n : Int) := by rw [show (x.cost.length : Int) + x.size = (n : Int) by omega]; exact IntWalk.i64_in _ (by omega)
  have hn0 : (0 : Int) ≤ n := by omega
  refine AFn.enter mixed ir_ref14_Replay_eq (by simp [ir_ref14_Replay]) fun hw => ?_
  simp (disch := omega) [-getElem?_pos, if_pos, if_neg, decide_eq_true, decide_eq_false, ir_ref14_Replay, hci.1, hcs.1, cut6', cut5', hwr, writeA, over]
  generalize hq : H.next = q at *
  rw [bCs_rep]
  generalize hH1 : AH.set (AH.set _ _ _) _ _ = H1
  have k1 : Keep [] H H1 := by rw [← hH1]; exact .new_set (by omega) (.new_set (by omega) (.trans' (.new_alloc .alloc) .room))
  have w1 : WF H1 := by rw [← hH1]; refine WF.set (WF.set (WF.room (WF.alloc (WF.alloc hw))) ?_) ?_ <;> simp <;> omega
  have n1 : H1.next = q + 14 := by rw [← hH1]; simp [hq]
  have d0 : H1.cells q = some [.int .i64 x.kind, .int .i64 x.cap, iv, .slice ca x.cost.length cc, .int .i64 x.size, sv] := by rw [← hH1]; simp (disch := omega) [hq, if_pos, if_neg]
  have d4 : H1.blk (q + 1) = some (.row [.slice none 0 0, .int .i64 0, .int .i64 0, .int .i64 0, .slice none 0 0] T_secateurref14_State true) := by rw [← hH1]; simp (disch := omega) [hq, if_pos, if_neg]
  have du : H1.blk (q + 1 + 1 + 8) = some (.row (bCs (List.replicate n false)) T_bool true) := by rw [← hH1]; simp (disch := omega) [hq, if_pos, if_neg]
  have d7 : H1.blk (q + 1 + 1 + 10) = some (.row [.slice none 0 0, .int .i64 0, .int .i64 x.cap, .int .i64 0, .slice (some ⟨q + 1 + 1 + 8, 0, none⟩) n n] T_secateurref14_State true) := by rw [← hH1]; simp (disch := omega) [hq, if_pos, if_neg]
  clear hH1
  generalize hub : q + 1 + 1 + 8 = ub at *
  generalize hq7 : q + 1 + 1 + 10 = q7 at *
  have hso := start_ok hok
  have hul : x.start.used.length = n := by rw [hso.used, hn]
  have hr0 : x.replay P = x.replayF x.start 0 (P.drop 0) := by rw [List.drop_zero]; rfl
  -- from the loop on
  have main : ∀ (H2 : AH) (env : Env), WF H2 → H2.next = H1.next → (∀ b, b ≠ ub → H2.blk b = H1.blk b) → H2.blk ub = some (.row (bCs x.start.used) T_bool true) → env 1 = some (.slice pa P.length pc) → env 2 = some (.pointer (some ⟨q, 0, none⟩)) → env 4 = some (.pointer (some ⟨q + 1, 0, none⟩)) → env 7 = some (.pointer (some ⟨q7, 0, none⟩)) → env 8 = some (.int .i64 0) →
      wpC Tryd.prog 187 (.loop ir_ref14_Replay_l2) (Rl2Q (fun b => b < q) H1 q (q + 1) q7 ub x P) env H2 := fun H2 env w2 n2 ho hu2 g1 g2 g4 g7 g8 => by
    refine rreplay_l2 (iv := iv) (cv := .slice ca x.cost.length cc) (sv := sv) (pv := .slice pa P.length pc) w1 (by omega) (by omega) (by omega) (by omega) (by omega) (by omega) (hx.kept hw k1) d0 d4 hok (hP.kept hw k1) hPl ⟨g1, g2, g4, g7, by rw [g8]; simp, w2, by omega, fun b _ h1 h2 => ho b h2, x.start, ⟨.slice none 0 0, ?_, hu2, .nil⟩, hso, rfl, hr0, by simp [InstD.start]⟩
    rw [ho q7 (by omega), d7, hul]
    rfl
  have ends : ∀ (e : AExit) (env : Env) (H4 : AH), Rl2Q (fun b => b < q) H1 q (q + 1) q7 ub x P e env H4 → (e = .ret ∧ ∃ i : Nat, x.replay P = (zeroSt, i, false) ∧ env 4 = some (.pointer (some ⟨q + 1, 0, none⟩)) ∧ env 5 = some (.int .i64 i) ∧ env 6 = some (.bool false) ∧ H4.cells (q + 1) = some [.slice none 0 0, .int .i64 0, .int .i64 0, .int .i64 0, .slice none 0 0] ∧ Keep [] H H4) ∨
      (e = .exit 0 ∧ ∃ s pw, x.replay P = (s, 0, true) ∧ env 4 = some (.pointer (some ⟨q + 1, 0, none⟩)) ∧ env 7 = some (.pointer (some ⟨q7, 0, none⟩)) ∧ H4.blk (q + 1) = some (.row [.slice none 0 0, .int .i64 0, .int .i64 0, .int .i64 0, .slice none 0 0] T_secateurref14_State true) ∧ H4.cells q7 = some [pw, .int .i64 s.cost, .int .i64 s.left, .int .i64 s.pos, .slice (some ⟨ub, 0, none⟩) s.used.length s.used.length] ∧ one pw = true ∧ Keep [] H H4 ∧
        ∀ B, RsV (fun b => b < (H4.set (q + 1) B).next) (H4.set (q + 1) B) (.agg #[pw, .int .i64 s.cost, .int .i64 s.left, .int .i64 s.pos, .slice (some ⟨ub, 0, none⟩) s.used.length s.used.length]) s ∧ Keep [] H (H4.set (q + 1) B)) := fun e env H4 ⟨e4, nx, hkb, hr⟩ => by
    rcases hr with ⟨rfl, i, hr, e5, e6, b4⟩ | ⟨rfl, e7, b4, s, ⟨pw, bs, bu, hpw⟩, hr⟩
    · exact .inl ⟨rfl, i, hr, e4, e5, e6, AH.cells_of b4, ⟨by omega, fun b hb _ => by rw [hkb b (by omega) (by omega) (by omega) (by omega), k1.blk b (by omega) (by simp)]⟩⟩
    · have kk : Keep [] H H4 := ⟨by omega, fun b hb _ => by rw [hkb b (by omega) (by omega) (by omega) (by omega), k1.blk b (by omega) (by simp)]⟩
      have hue : s.used.length ≤ 9223372036854775807 := by
        have := AH.cells_of bs
        have h2 := (replay_used (x := x) (P := P) hr)
        omega
      refine .inr ⟨rfl, s, pw, hr, e4, e7, b4.trans d4, AH.cells_of bs, hpw.cell.1, kk, fun B => ⟨⟨pw, _, rfl, hpw.up (fun b hb => by simp; omega) (.set (by omega)), (SlV.bools (AH.cells_of bu) hue).up (fun b hb => by simp; omega) (.set (by omega))⟩, .new_set (by omega) kk⟩⟩
  by_cases hk : x.kind = 2
  · have hkT := eq_true hk
    have hl := hok.few.sq (.inr hk)
    have h0n : 0 < n := by omega
    have hDb : 0 + 1 ≤ (bCs (List.replicate n false)).length := by rw [bCs_len]; simp; omega
    have htk := bCs_tk (B := List.replicate n false) (i := 0) (by simp; omega)
    have hst : x.start.used = (List.replicate n false).set 0 true := by unfold InstD.start; simp only; rw [if_pos hk, ← hn]; exact setT_nat (by simp; omega)
    have d7c := AH.cells_of d7
    have hov : over (bCs (List.replicate n false)) 0 [.bool true] = bCs x.start.used := by rw [hst]; exact bCs_set (by simp; omega)
    have wr := writeA_of (off := 0) (news := [Value.bool true]) du (by rw [bCs_len]; simp; omega)
    rw [hov] at wr
    simp (disch := omega) [-getElem?_pos, if_pos, if_neg, decide_eq_true, decide_eq_false, hkT, d7c, h0n, wr]
    refine wpC_use (main _ _ (w1.set (by omega)) rfl (fun b hb => AH.set_blk_ne hb) AH.set_blk_same (by simp) (by simp) (by simp) (by simp) (by simp)) ?_
    intro e env2 H4 hQ hu
    rcases ends e env2 H4 hQ with ⟨rfl, i, hr, e4, e5, e6, c4, kk⟩ | ⟨rfl, s, pw, hr, e4, e7, b4, c7, op, kk, hB⟩
    · simp (disch := omega) [-getElem?_pos, if_pos, if_neg, decide_eq_true, decide_eq_false, e4, e5, e6, c4, cut5', hr]
      exact ⟨rsv_zero, kk⟩
    · simp (disch := omega) [-getElem?_pos, if_pos, if_neg, decide_eq_true, decide_eq_false, e4, e7, c7, b4, op, writeA, over, cut5', hr]
      exact hB _
  · have hkF := eq_false hk
    have hst : x.start.used = List.replicate n false := by unfold InstD.start; simp only; rw [if_neg hk, ← hn]
    simp (disch := omega) [-getElem?_pos, if_pos, if_neg, decide_eq_true, decide_eq_false, hkF]
    refine wpC_use (main _ _ w1 rfl (fun b hb => rfl) (by rw [du, hst]) (by simp) (by simp) (by simp) (by simp) (by simp)) ?_
    intro e env2 H4 hQ hu
    rcases ends e env2 H4 hQ with ⟨rfl, i, hr, e4, e5, e6, c4, kk⟩ | ⟨rfl, s, pw, hr, e4, e7, b4, c7, op, kk, hB⟩
    · simp (disch := omega) [-getElem?_pos, if_pos, if_neg, decide_eq_true, decide_eq_false, e4, e5, e6, c4, cut5', hr]
      exact ⟨rsv_zero, kk⟩
    · simp (disch := omega) [-getElem?_pos, if_pos, if_neg, decide_eq_true, decide_eq_false, e4, e7, c7, b4, op, writeA, over, cut5', hr]
      exact hB _
end Go.Proofs.YtlcddhgfkkjhkaaDoor
