/-
  package state (3): went, chosen.
-/
import Derived.Test.YtlcddhgfkkjhkaaDoorState2
set_option maxRecDepth 100000
set_option linter.unusedSimpArgs false
set_option linter.unusedVariables false
namespace Go.Proofs.YtlcddhgfkkjhkaaDoor
open Go Go.Abs
theorem cut6' {a b c d e f : Value} : cut [a, b, c, d, e, f] 0 6 = some [a, b, c, d, e, f] := by simp [cut]
theorem cut42 {a b c d e f : Value} : cut [a, b, c, d, e, f] 4 2 = some [e, f] := by simp [cut]
theorem StV.mk' {p : Nat → Prop} {H : AH} {s : StD} {pv uv : Value} {n : Nat} (hn : s.used.length = n) (h1 : SlV p H pv s.path) (h2 : Bs.SetB p H (.agg #[.int .i64 n, uv]) s.used) : StV p H (.agg #[pv, .int .i64 s.cost, .int .i64 s.left, .int .i64 s.pos, .int .i64 n, uv]) s := by
  subst hn
  exact ⟨pv, uv, rfl, h1, h2⟩
theorem wr_mid {n : Int} (h : -4611686018427387904 ≤ n ∧ n ≤ 4611686018427387904) : IntKind.i64.wrap n = n := IntWalk.i64_in _ ⟨by omega, by omega⟩
theorem row_cell {H : AH} {cv : Value} {x : InstD} {p : Nat → Prop} (hc : SlV p H cv x.cost) (hok : x.Ok) {i : Nat} (hi : i < x.cost.length) : ∃ b off sp cap cs w b2 off2 sp2 cap2 cs2, cv = .slice (some ⟨b, off, sp⟩) x.cost.length cap ∧ H.cells b = some cs ∧ cs[off + i]? = some w ∧ w = .slice (some ⟨b2, off2, sp2⟩) x.cost.length cap2 ∧ H.cells b2 = some cs2 ∧ ∀ k, k < x.cost.length → cs2[off2 + k]? = some (.int .i64 (x.costN i k)) := by
  obtain ⟨b1, off1, sp1, cap1, cs1, hcv1, r1, r2⟩ := rows_rd hc (by omega)
  obtain ⟨w, r3, r4⟩ := r2 i hi
  have hrow := hok.shaped.rows i hi
  obtain ⟨b2, off2, sp2, cap2, cs2, hcv2, t1, t2⟩ := ints_rd r4 (by omega)
  rw [hrow] at hcv2
  refine ⟨b1, off1, sp1, cap1, cs1, w, b2, off2, sp2, cap2, cs2, hcv1, r1, r3, hcv2, t1, fun k hk => ?_⟩
  rw [(t2 k (by omega)).1]
  unfold InstD.costN
  simp [hi, hrow, hk]
theorem went_spec {H : AH} {p : Nat → Prop} {v w : Value} {s : StD} {x : InstD} {d : Int} (hp : ∀ b, p b → b < H.next) (hs : StV p H v s) (hx : InstV (fun b => b < H.next) H w x) (hok : x.Ok) (hk : x.kind = 2) (hu : s.used.length = x.cost.length) (hpos : 0 ≤ s.pos ∧ s.pos < x.cost.length) (hd : 0 ≤ d ∧ d < x.cost.length) (hcost : -1000000000000000 ≤ s.cost ∧ s.cost ≤ 1000000000000000) :
    AFn Tryd.prog F_state_State_went [v, w, .int .i64 d] H fun u H' => StV (fun b => (p b ∨ H.next ≤ b) ∧ b < H'.next) H' u (x.wentS s d) ∧ Keep [] H H' := by
  obtain ⟨pv, uv, rfl, s1, s2⟩ := id hs
  obtain ⟨iv, cv, sv, rfl, i1, i2, i3, h1, h2, h3⟩ := id hx
  obtain ⟨N, hN⟩ : ∃ N : Nat, s.pos = N := ⟨s.pos.toNat, by omega⟩
  obtain ⟨D, hD⟩ : ∃ D : Nat, d = D := ⟨d.toNat, by omega⟩
  have hNl : N < x.cost.length := by omega
  have hDl : D < x.cost.length := by omega
  have hm1 := costN_mag hok hNl hDl
  have hm2 := costN_mag hok hDl (k := 0) (by omega)
  have hc := SetB_cell s2
  have hcp := s1.cell
  have hcc := h2.cell
  have hci := h1.cell
  have hcs := h3.cell
  obtain ⟨b1, off1, sp1, cap1, cs1, w1, b2, off2, sp2, cap2, cs2, rfl, r1, r2, rfl, r3, r4⟩ := row_cell h2 hok hNl
  obtain ⟨b1', off1', sp1', cap1', cs1', w1', b3, off3, sp3, cap3, cs3, e1, t1, t2, rfl, t3, t4⟩ := row_cell h2 hok hDl
  cases e1
  rw [r1] at t1
  obtain rfl := Option.some.inj t1
  have r4D := r4 D hDl
  have t40 := t4 0 (by omega)
  rw [Nat.add_zero] at t40
  refine AFn.enter mixed ir_state_State_went_eq (by simp [ir_state_State_went]) fun hw => ?_
  have hb1 := cells_lt hw r1
  have hb2 := cells_lt hw r3
  have hb3 := cells_lt hw t3
  have hwr1 := wr_mid (n := s.cost + x.costN N D) (by omega)
  have hwr2 := wr_mid (n := s.cost + x.costN N D + x.costN D 0) (by omega)
  have hposl : 0 < x.cost.length := by omega
  have hmcost := h2.max
  subst hD
  have hsd : x.wentS s (D : Int) = if x.done ⟨s.path, s.cost + x.costN N D, s.left, (D : Int), setT s.used D⟩ then ⟨s.path, s.cost + x.costN N D + x.costN D 0, s.left, (D : Int), setT s.used D⟩ else ⟨s.path, s.cost + x.costN N D, s.left, (D : Int), setT s.used D⟩ := by
    unfold InstD.wentS
    simp only [hN, Int.toNat_natCast]
  rw [hsd]
  clear hsd
  rw [hN] at hs ⊢
  generalize x.costN N D = c1 at *
  generalize x.costN D 0 = c2 at *
  simp (disch := omega) [-getElem?_pos, if_pos, if_neg, decide_eq_true, decide_eq_false, ir_state_State_went, hc.1, hcp.1, hci.1, hcs.1, r1, r2, r3, r4D, hNl, hDl, hwr1, writeA, over, cut42]
  generalize hq : H.next = q at *
  generalize hH1 : AH.set _ _ _ = H1
  have k1 : Keep [] H H1 := by rw [← hH1]; exact .new_set (by omega) (.new_alloc (.new_alloc .alloc))
  have w1 : WF H1 := by rw [← hH1]; refine WF.set (WF.alloc (WF.alloc (WF.alloc hw))) ?_; simp; omega
  have n1 : H1.next = q + 3 := by rw [← hH1]; simp [hq]
  have e0 : H1.blk q = some (.row [pv, .int .i64 (s.cost + c1), .int .i64 s.left, .int .i64 N, .int .i64 s.used.length, uv] T_state_State true) := by rw [← hH1, AH.set_blk_same]
  have e1 : H1.cells (q + 1) = some [.int .i64 x.kind, .int .i64 x.cap, iv, .slice (some ⟨b1, off1, sp1⟩) x.cost.length cap1, .int .i64 x.size, sv] := by rw [← hH1]; simp [hq]
  have e2 : H1.blk (q + 2) = some (.row [.slice none 0 0, .int .i64 0, .int .i64 0, .int .i64 0, .int .i64 0, .slice none 0 0] T_state_State true) := by rw [← hH1]; simp [hq]
  clear hH1
  have s21 := SetB_sub s2 (q := p) (fun b hb => hb) (.kept hw k1)
  refine (Bs.With_spec s21 (D : Int)).mono' fun u H2 w2 ⟨hu2, k2⟩ => ?_
  rw [setT_eq] at hu2
  obtain ⟨ul, rfl, _, _⟩ := id hu2
  have hul : (setT s.used (D : Int)).length = s.used.length := setT_len
  rw [hul] at hu2
  have hulI : ((setT s.used (D : Int)).length : Int) = (s.used.length : Int) := by rw [hul]
  have hone2 := SetB_cell hu2
  have n2 := k2.next
  have e02 := (k2.blk q (by omega) (by simp)).trans e0
  have e12 := cells_kept w1 k2 e1
  have e22 := (k2.blk (q + 2) (by omega) (by simp)).trans e2
  have c02 := AH.cells_of e02
  have k02 := k1.trans' k2
  have r12 := cells_kept hw k02 r1
  have t32 := cells_kept hw k02 t3
  simp (disch := omega) [-getElem?_pos, if_pos, if_neg, decide_eq_true, decide_eq_false, hulI, hone2.1, hone2.2, e02, e12, e22, cut6', writeA, over]
  obtain ⟨sn, hsn⟩ : ∃ sn : StD, sn = ⟨s.path, s.cost + c1, s.left, (D : Int), setT s.used D⟩ := ⟨_, rfl⟩
  rw [← hsn]
  generalize hH3 : AH.set H2 _ _ = H3
  have k3 : Keep [] H H3 := by rw [← hH3]; exact .new_set (by omega) k02
  have w3 : WF H3 := by rw [← hH3]; exact w2.set (by omega)
  have n3 : H3.next = H2.next := by rw [← hH3]; rfl
  have e03 : H3.blk q = some (.row [pv, .int .i64 (s.cost + c1), .int .i64 s.left, .int .i64 D, .int .i64 s.used.length, ul] T_state_State true) := by rw [← hH3, AH.set_blk_same]
  have e13 : H3.cells (q + 1) = some [.int .i64 x.kind, .int .i64 x.cap, iv, .slice (some ⟨b1, off1, sp1⟩) x.cost.length cap1, .int .i64 x.size, sv] := by rw [← hH3, AH.cells_set_ne (by omega)]; exact e12
  have e23 : H3.blk (q + 2) = H2.blk (q + 2) := by rw [← hH3, AH.set_blk_ne (by omega)]
  replace e23 := e23.trans e22
  have r13 : H3.cells b1 = some cs1 := by rw [← hH3, AH.cells_set_ne (by omega)]; exact r12
  have t33 : H3.cells b3 = some cs3 := by rw [← hH3, AH.cells_set_ne (by omega)]; exact t32
  have c03 := AH.cells_of e03
  -- the parts of the state
  have P1 : SlV p H3 pv s.path := s1.kept hw k3
  have P2 : Bs.SetB (fun b => (p b ∨ q ≤ b) ∧ b < H3.next ∧ b ≠ q ∧ b ≠ q + 2) H3 (.agg #[.int .i64 s.used.length, ul]) (setT s.used (D : Int)) := by
    refine SetB_sub (SetB_lt hu2 w2) (fun b hb => ?_) (by rw [← hH3]; refine .set ?_; rintro ⟨h | h, _⟩; (have := hp _ h; omega); omega)
    obtain ⟨h | h, h2⟩ := hb
    · have := hp b h; exact ⟨.inl h, by omega, by omega, by omega⟩
    · exact ⟨.inr (by omega), by omega, by omega, by omega⟩
  clear hH3
  have mk : ∀ (c : Int) (H4 : AH), Sub (fun b => (p b ∨ q ≤ b) ∧ b < H3.next ∧ b ≠ q ∧ b ≠ q + 2) H3 H4 → H4.next = H3.next → StV (fun b => (p b ∨ q ≤ b) ∧ b < H4.next) H4 (.agg #[pv, .int .i64 c, .int .i64 s.left, .int .i64 D, .int .i64 s.used.length, ul]) ⟨s.path, c, s.left, (D : Int), setT s.used D⟩ := fun c H4 hsub hn =>
    StV.mk' (s := ⟨s.path, c, s.left, (D : Int), setT s.used D⟩) hul (P1.up (fun b hb => by have := hp b hb; exact ⟨.inl hb, by omega⟩) (hsub.less fun b hb => by have := hp b hb; exact ⟨.inl hb, by omega, by omega, by omega⟩)) (SetB_sub P2 (fun b hb => ⟨hb.1, by omega⟩) hsub)
  have hst : StV (fun _ => True) H3 (.agg #[pv, .int .i64 (s.cost + c1), .int .i64 s.left, .int .i64 D, .int .i64 s.used.length, ul]) sn := by rw [hsn]; exact (mk (s.cost + c1) H3 .refl rfl).any
  have hx3 : InstV (fun _ => True) H3 (.agg #[.int .i64 x.kind, .int .i64 x.cap, iv, .slice (some ⟨b1, off1, sp1⟩) x.cost.length cap1, .int .i64 x.size, sv]) x := (hx.kept hw k3).any
  refine AFn.pure (Done_spec hst hx3) ?_
  cases hdn : x.done sn with
  | true =>
    simp (disch := omega) [-getElem?_pos, if_pos, if_neg, decide_eq_true, decide_eq_false, e03, c03, e13, e23, r13, t2, t33, t40, hDl, hposl, hwr2, cut6', hone2.1, hone2.2, hcp.1, hcp.2, writeA, over]
    exact ⟨mk _ _ (.trans (.set (by simp)) (.set (by simp))) rfl, .new_set (by omega) (.new_set (by omega) k3)⟩
  | false =>
    simp (disch := omega) [-getElem?_pos, if_pos, if_neg, decide_eq_true, decide_eq_false, e03, c03, e13, e23, cut6', hone2.1, hone2.2, hcp.1, hcp.2, writeA, over]
    rw [hsn]
    exact ⟨mk _ _ (.set (by simp)) rfl, .new_set (by omega) k3⟩
end Go.Proofs.YtlcddhgfkkjhkaaDoor
