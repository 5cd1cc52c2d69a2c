/-
  package state (6): Replay, Answer, Equal.
-/
import Derived.Test.YtlcddhgfkkjhkaaDoorState5
set_option maxRecDepth 100000
set_option linter.unusedSimpArgs false
set_option linter.unusedVariables false
namespace Go.Abs
open Go
theorem replay_step {x : InstD} {s : StD} {i : Nat} {d : Int} {l : List Int} : x.replayF s i (d :: l) = if d ∈ x.moves s then x.replayF (x.applyS s d) (i + 1) l else (zeroSt, i, false) := rfl
end Go.Abs
namespace Go.Proofs.YtlcddhgfkkjhkaaDoor
open Go Go.Abs
def RpI (p : Nat → Prop) (H1 : AH) (q : Nat) (x : InstD) (pv : Value) (P : List Int) (k : Nat) (env : Env) (H' : AH) : Prop :=
  env 2 = some (.pointer (some ⟨q, 0, none⟩)) ∧ env 4 = some (.pointer (some ⟨q + 1, 0, none⟩)) ∧ env 7 = some (.pointer (some ⟨H1.next, 0, none⟩)) ∧ env 20 = some pv ∧ env 21 = some (.int .i64 P.length) ∧ env 22 = some (.int .i64 k) ∧ WF H' ∧ H1.next < H'.next ∧ Keep [] H1 H' ∧
    ∃ s pw uw, H'.blk H1.next = some (.row [pw, .int .i64 s.cost, .int .i64 s.left, .int .i64 s.pos, .int .i64 s.used.length, uw] T_state_State true) ∧ StV (fun b => q + 2 ≤ b ∧ b < H'.next ∧ b ≠ H1.next) H' (.agg #[pw, .int .i64 s.cost, .int .i64 s.left, .int .i64 s.pos, .int .i64 s.used.length, uw]) s ∧ StOk x s ∧ s.path.length = k ∧ x.replay P = x.replayF s k (P.drop k)
def RpQ (H1 : AH) (q : Nat) (x : InstD) (P : List Int) (e : AExit) (env : Env) (H' : AH) : Prop :=
  (e = .ret ∧ ∃ i : Nat, x.replay P = (zeroSt, i, false) ∧ env 4 = some (.pointer (some ⟨q + 1, 0, none⟩)) ∧ env 5 = some (.int .i64 i) ∧ env 6 = some (.int .i64 2) ∧ H1.next ≤ H'.next ∧ (∀ b, b < q → H'.blk b = H1.blk b) ∧ H'.blk (q + 1) = some (.row [.slice none 0 0, .int .i64 0, .int .i64 0, .int .i64 0, .int .i64 0, .slice none 0 0] T_state_State true)) ∨
  (e = .exit 0 ∧ env 2 = some (.pointer (some ⟨q, 0, none⟩)) ∧ env 4 = some (.pointer (some ⟨q + 1, 0, none⟩)) ∧ env 7 = some (.pointer (some ⟨H1.next, 0, none⟩)) ∧ WF H' ∧ H1.next < H'.next ∧ Keep [] H1 H' ∧
    ∃ s pw uw, H'.blk H1.next = some (.row [pw, .int .i64 s.cost, .int .i64 s.left, .int .i64 s.pos, .int .i64 s.used.length, uw] T_state_State true) ∧ StV (fun b => q + 2 ≤ b ∧ b < H'.next ∧ b ≠ H1.next) H' (.agg #[pw, .int .i64 s.cost, .int .i64 s.left, .int .i64 s.pos, .int .i64 s.used.length, uw]) s ∧ x.replay P = (s, 0, true))
theorem replay_l0 {p : Nat → Prop} {H1 H2 : AH} {q : Nat} {x : InstD} {iv cv sv pv : Value} {P : List Int} (hg : GroundA G H1) (hw1 : WF H1) (hq : q + 2 ≤ H1.next) (hx : InstV (fun b => b < q) H1 (.agg #[.int .i64 x.kind, .int .i64 x.cap, iv, cv, .int .i64 x.size, sv]) x) (c0 : H1.cells q = some [.int .i64 x.kind, .int .i64 x.cap, iv, cv, .int .i64 x.size, sv])
    (b1 : H1.blk (q + 1) = some (.row [.slice none 0 0, .int .i64 0, .int .i64 0, .int .i64 0, .int .i64 0, .slice none 0 0] T_state_State true)) (hok : x.Ok) (hP : SlV (fun b => b < q) H1 pv P) (hPl : P.length ≤ 1000) {env : Env} (h : RpI p H1 q x pv P 0 env H2) : wpC Tryd.prog 41 (.loop ir_state_Replay_l0) (RpQ H1 q x P) env H2 := by
  refine loop_upto P.length (RpI p H1 q x pv P) (Q := RpQ H1 q x P) h ?_
  rintro k env H' hk ⟨e2, e4, e7, e20, e21, e22, w', nx, k', s, pw, uw, hb, hs, hso, hpl, hr⟩
  by_cases hkn : k < P.length
  · obtain ⟨b0, off, sp, cap, cs, hcv, q1, q2⟩ := ints_rd (hP.kept hw1 k') (by omega)
    obtain ⟨q3, q4⟩ := q2 k hkn
    subst hcv
    have hdr : P.drop k = P[k] :: P.drop (k + 1) := (List.getElem_cons_drop hkn).symm
    rw [hdr, replay_step] at hr
    have cb := AH.cells_of hb
    have c0' := cells_kept hw1 k' c0
    have hx' : InstV (fun b => b < H'.next) H' (.agg #[.int .i64 x.kind, .int .i64 x.cap, iv, cv, .int .i64 x.size, sv]) x := hx.up (fun b hb => by omega) (.kept hw1 k')
    have hap := Apply_spec (d := P[k]) (hg.kept hw1 k') (fun b hb => hb.2.1) hs hx' hok hso q4 (by omega)
    have b1' := (k'.blk (q + 1) (by omega) (by simp)).trans b1
    generalize P[k] = d at *
    simp (disch := omega) [-getElem?_pos, if_pos, if_neg, decide_eq_true, decide_eq_false, ir_state_Replay_l0, e2, e7, e20, e21, e22, q1, q3, cb, c0', cut6', hkn]
    refine hap.mono' fun u H3 w3 ⟨k3, hA⟩ => ?_
    have n3 := k3.next
    have hb3 := (k3.blk H1.next (by omega) (by simp)).trans hb
    have b13 := (k3.blk (q + 1) (by omega) (by simp)).trans b1'
    by_cases hm : d ∈ x.moves s
    · rw [if_pos hm] at hA hr
      obtain ⟨sv', rfl, hs3⟩ := hA
      have hso3 := apply_ok hok hso hm
      have hpl3 : (x.applyS s d).path.length = k + 1 := by rw [apply_path]; simp [hpl]
      generalize x.applyS s d = s' at *
      obtain ⟨pw', uw', rfl, p3, u3⟩ := id hs3
      have o1 := p3.cell
      have o2 := SetB_cell u3
      simp (disch := omega) [-getElem?_pos, if_pos, if_neg, decide_eq_true, decide_eq_false, e7, e22, hb3, o1.1, o1.2, o2.1, o2.2, writeA, over, IntWalk.i64_in]
      refine ⟨hkn, by simp [e2], by simp [e4], by simp [e7], by simp [e20], by simp [e21], by simp, w3.set (by omega), by simp; omega, .new_set (by omega) (k'.trans' k3), s', pw', uw', AH.set_blk_same, ?_, hso3, hpl3, hr⟩
      refine hs3.up (fun b hb => ?_) (.set ?_)
      · obtain ⟨h | h, h2⟩ := hb
        · exact ⟨h.1, by simp; omega, h.2.2⟩
        · exact ⟨by omega, by simp; omega, by omega⟩
      · rintro ⟨h | h, h2⟩
        · exact h.2.2 rfl
        · omega
    · rw [if_neg hm] at hA hr
      obtain ⟨sv', rfl, hs3⟩ := hA
      obtain ⟨pw', uw', rfl, p3, u3⟩ := id hs3
      have o1 := p3.cell
      have o2 := SetB_cell u3
      simp (disch := omega) [-getElem?_pos, if_pos, if_neg, decide_eq_true, decide_eq_false, e4, e7, e22, hb3, b13, o1.1, o1.2, o2.1, o2.2, writeA, over, IntWalk.i64_in]
      refine .inl ⟨rfl, k, hr, by simp [e4], by simp, by simp, by simp; omega, fun b hbq => ?_, AH.set_blk_same⟩
      rw [AH.set_blk_ne (by omega), AH.set_blk_ne (by omega), k3.blk b (by omega) (by simp), k'.blk b (by omega) (by simp)]
  · obtain rfl : k = P.length := by omega
    rw [List.drop_length] at hr
    simp (disch := omega) [-getElem?_pos, if_pos, if_neg, decide_eq_true, decide_eq_false, ir_state_Replay_l0, e21, e22]
    exact .inr ⟨rfl, e2, e4, e7, w', nx, k', s, pw, uw, hb, hs, hr⟩
theorem Replay_spec {H : AH} {w pv : Value} {x : InstD} {P : List Int} (hg : GroundA G H) (hx : InstV (fun b => b < H.next) H w x) (hP : SlV (fun b => b < H.next) H pv P) (hPl : x.check = 0 → P.length ≤ 1000) :
    AFn Tryd.prog F_state_Replay [w, pv] H fun u H' => ∃ sv, u = .tuple #[sv, .int .i64 (if x.check = 0 then (x.replay P).2.1 else 0 : Nat), .int .i64 (if x.check = 0 then (if (x.replay P).2.2 then 0 else 2) else x.check)] ∧ StV (fun b => H.next ≤ b ∧ b < H'.next) H' sv (if x.check = 0 then (x.replay P).1 else zeroSt) ∧ Keep [] H H' := by
  obtain ⟨iv, cv, sv, rfl, i1, i2, i3, h1, h2, h3⟩ := id hx
  have hcc := h2.cell
  have hci := h1.cell
  have hcs := h3.cell
  obtain ⟨pa, pc, rfl⟩ := hP.slice
  have hPm := hP.max
  refine AFn.enter mixed ir_state_Replay_eq (by simp [ir_state_Replay]) fun hw => ?_
  simp (disch := omega) [-getElem?_pos, if_pos, if_neg, decide_eq_true, decide_eq_false, ir_state_Replay, hcc.1, hci.1, hcs.1, cut6']
  generalize hq : H.next = q at *
  generalize hH1 : AH.alloc (AH.alloc _ _) _ = H1
  have k1 : Keep [] H H1 := by rw [← hH1]; exact .new_alloc .alloc
  have w1 : WF H1 := by rw [← hH1]; exact hw.alloc.alloc
  have n1 : H1.next = q + 2 := by rw [← hH1]; simp [hq]
  have d0 : H1.cells q = some [.int .i64 x.kind, .int .i64 x.cap, iv, cv, .int .i64 x.size, sv] := by rw [← hH1]; simp [hq]
  have d1 : H1.blk (q + 1) = some (.row [.slice none 0 0, .int .i64 0, .int .i64 0, .int .i64 0, .int .i64 0, .slice none 0 0] T_state_State true) := by rw [← hH1]; simp [hq]
  clear hH1
  refine (Start_spec (hx.kept hw k1)).mono' fun u H2 w2 ⟨sv2, hu, hs2, k2⟩ => ?_
  subst hu
  have n2 := k2.next
  have d02 := cells_kept w1 k2 d0
  have d12 := (k2.blk (q + 1) (by omega) (by simp)).trans d1
  by_cases hc : x.check = 0
  · have hok := InstD.check_ok.1 hc
    simp only [hc, if_true] at hs2 ⊢
    have hso := start_ok hok
    have hsl : x.start.path = [] := rfl
    have hrp : x.replay P = x.replayF x.start 0 P := rfl
    generalize x.start = s0 at *
    obtain ⟨pw, uw, rfl, p2, u2⟩ := id hs2
    have o1 := p2.cell
    have o2 := SetB_cell u2
    simp (disch := omega) [-getElem?_pos, if_pos, if_neg, decide_eq_true, decide_eq_false, o1.1, o1.2, o2.1, o2.2, writeA, over]
    generalize hH3 : AH.alloc H2 _ = H3
    have k3 : Keep [] H2 H3 := by rw [← hH3]; exact .alloc
    have w3 : WF H3 := by rw [← hH3]; exact w2.alloc
    have n3 : H3.next = H2.next + 1 := by rw [← hH3]; simp
    have b3 : H3.blk H2.next = some (.row [pw, .int .i64 s0.cost, .int .i64 s0.left, .int .i64 s0.pos, .int .i64 s0.used.length, uw] T_state_State true) := by rw [← hH3]; exact AH.alloc_blk_new
    clear hH3
    have k02 := k1.trans' k2
    refine wpC_use (replay_l0 (p := fun _ => True) (H1 := H2) (H2 := H3) (q := q) (iv := iv) (cv := cv) (sv := sv) (P := P) (hg.kept hw k02) w2 (by omega) ((hx.kept hw k02)) d02 d12 hok (hP.kept hw k02) (hPl hc) ⟨by simp, by simp, by simp, by simp, by simp, by simp, w3, by omega, k3, s0, pw, uw, b3, hs2.up (fun b hb => ⟨by omega, by omega, by omega⟩) (.kept w2 k3), hso, by rw [hsl]; rfl, by rw [hrp, List.drop_zero]⟩) ?_
    rintro e env2 H4 (⟨rfl, i, hr, e4, e5, e6, nx, hkb, hbq⟩ | ⟨rfl, e2, e4, e7, w4, nx, k4, s, pw4, uw4, hb, hs, hr⟩) hu
    · have cb := AH.cells_of hbq
      simp (disch := omega) [-getElem?_pos, if_pos, if_neg, decide_eq_true, decide_eq_false, e4, e5, e6, cb, cut6']
      rw [hr]
      exact ⟨_, ⟨rfl, by simp⟩, stv_zero, ⟨by omega, fun b hb _ => by rw [hkb b (by omega), k02.blk b (by omega) (by simp)]⟩⟩
    · have cb := AH.cells_of hb
      have d14 := (k4.blk (q + 1) (by omega) (by simp)).trans d12
      obtain ⟨_, _, e, p4, u4⟩ := id hs
      have o3 : one pw4 = true ∧ one uw4 = true := by
        simp at e
        obtain ⟨rfl, rfl⟩ := e
        exact ⟨p4.cell.1, (SetB_cell u4).1⟩
      simp (disch := omega) [-getElem?_pos, if_pos, if_neg, decide_eq_true, decide_eq_false, e4, e7, cb, d14, o3.1, o3.2, writeA, over, cut6']
      rw [hr]
      refine ⟨_, ⟨rfl, by simp⟩, hs.up (fun b hb => ⟨by omega, by show b < H4.next; omega⟩) (.set (by omega)), .new_set (by omega) ((k02).trans' k4)⟩
  · simp only [hc, if_false] at hs2 ⊢
    obtain ⟨pw, uw, rfl, p2, u2⟩ := id hs2
    have o1 := p2.cell
    have o2 := SetB_cell u2
    simp (disch := omega) [-getElem?_pos, if_pos, if_neg, decide_eq_true, decide_eq_false, hc, o1.1, o1.2, o2.1, o2.2, d12, writeA, over, cut6']
    exact ⟨stv_zero, .new_set (by omega) (.new_alloc (k1.trans' k2))⟩
end Go.Proofs.YtlcddhgfkkjhkaaDoor
