/-
  The document's Relax.
-/
import Derived.Test.YtllfcbacpoaphaaKr4
import Derived.Test.YtllfcbacpoaphaaKn10
set_option maxRecDepth 100000
set_option linter.unusedSimpArgs false
set_option linter.unusedVariables false
namespace Go.Proofs.Ytllfcbacpoaphaa
open Go Go.Abs
def RrI (H1 : AH) (L : List (Int × Int)) (room : Int) (v ov : Value) (k : Nat) (env : Env) (H' : AH) : Prop :=
  env 0 = some v ∧ env 9 = some ov ∧ env 11 = some (.int .i64 k) ∧ WF H' ∧ Keep [] H1 H' ∧
    ∃ s r : Int, env 10 = some (.int .i64 s) ∧ env 1 = some (.int .i64 r) ∧ 0 ≤ s ∧ s ≤ (k : Int) * 2147483648 ∧ 0 ≤ r ∧ r ≤ 2147483648 ∧ relK L ((ordW L).drop k) s r = relL L room
def RrQ (L : List (Int × Int)) (room : Int) (e : AExit) (env : Env) (H' : AH) : Prop :=
  (e = .ret ∧ env 4 = some (.int .i64 (relL L room).1) ∧ env 5 = some (.int .i64 (prOf (relL L room).2).1) ∧ env 6 = some (.int .i64 (prOf (relL L room).2).2) ∧ env 7 = some (.bool true)) ∨
    (e = .exit 0 ∧ env 10 = some (.int .i64 (relL L room).1) ∧ (relL L room).2 = none)
theorem relaxR_l0 {H1 : AH} {L : List (Int × Int)} {room : Int} {v ov : Value} (hw : WF H1) (hL : SlV (fun _ => True) H1 v L) (hO : SlV (fun _ => True) H1 ov (ordW L)) (hok : ItOk L room) {env : Env} (h : RrI H1 L room v ov 0 env H1) :
    wpC Try.prog 75 (.loop ir_ref16_Relax_l0) (RrQ L room) env H1 := by
  have hol := ordW_len hok.wt
  refine loop_upto (ordW L).length (RrI H1 L room v ov) (Q := RrQ L room) h ?_
  rintro k env H' hk ⟨e0, e9, e11, w', k', s, r, e10, e1, hs0, hs1, hr0, hr1, hrel⟩
  have hn' := k'.next
  have hlen := hok.len
  by_cases hkn : k < (ordW L).length
  · have hO' := hO.kept hw k'
    have hL' := hL.kept hw k'
    obtain ⟨b0, off, sp, cap, cs, hcv, q1, q2⟩ := ints_rd hO' (by omega)
    obtain ⟨q3, _⟩ := q2 k hkn
    have hmem : (ordW L)[k] ∈ ordW L := List.getElem_mem hkn
    obtain ⟨hm0, hm1⟩ := (ordW_mem hok.wt).1 hmem
    obtain ⟨m, hm⟩ : ∃ m : Nat, (ordW L)[k] = (m : Int) := ⟨((ordW L)[k]).toNat, by omega⟩
    have hml : m < L.length := by omega
    obtain ⟨b1, off1, sp1, cap1, cs1, hcv1, p1, p2⟩ := pairs_rd hL' (by omega)
    obtain ⟨p3, _, _, p4, p5⟩ := p2 m hml
    have hdr : (ordW L).drop k = (m : Int) :: (ordW L).drop (k + 1) := by rw [List.drop_eq_getElem_cons hkn, hm]
    have hit : itm L (m : Int) = L[m] := itm_get hml
    have hval := hok.val L[m] (List.getElem_mem hml)
    rw [hdr, relK, hit] at hrel
    rw [hm] at q3
    subst hcv hcv1
    obtain ⟨n, hn⟩ : ∃ n, n = (ordW L).length := ⟨_, rfl⟩
    have hkn' : k < n := by omega
    have hml' : (m : Int) < (L.length : Int) := by omega
    have hx1 := hval.1
    have hx2 := hval.2
    have hk40 : (k : Int) ≤ 4096 := by omega
    by_cases hlt : r < L[m].2
    · rw [if_pos hlt] at hrel
      have hpr : prOf (relL L room).2 = (mkNum L[m].1 L[m].2, mkDen L[m].1 L[m].2) := by rw [← hrel]; rfl
      have hre : (relL L room).1 = s + L[m].1 * r / L[m].2 := by rw [← hrel]
      unfold RrQ
      rw [hre, hpr]
      clear hre hpr hrel
      generalize L[m] = x at *
      obtain ⟨x0, x1⟩ := x
      simp only at *
      obtain ⟨a, rfl⟩ : ∃ a : Nat, x0 = (a : Int) := ⟨x0.toNat, by omega⟩
      obtain ⟨b, rfl⟩ : ∃ b : Nat, x1 = (b : Int) := ⟨x1.toNat, by omega⟩
      obtain ⟨t, rfl⟩ : ∃ t : Nat, r = (t : Int) := ⟨r.toNat, by omega⟩
      have hmk := fun H => MakeR_spec (H := H) (n := a) (d := b) (by omega) (by omega)
      have hle : a * t ≤ 2147483648 * 2147483648 := Nat.mul_le_mul (by omega) (by omega)
      have hfl := fun H => FloorR_spec (H := H) (a := a * t) (b := b) (by omega) (by omega)
      have hq1 : a * t / b ≤ a := Nat.div_le_of_le_mul (by rw [Nat.mul_comm b]; exact Nat.mul_le_mul_left a (by omega))
      have hwm : IntKind.i64.wrap ((a : Int) * (t : Int)) = ((a * t : Nat) : Int) := by
        rw [← Int.natCast_mul]
        have := IntWalk.i64_in ((a * t : Nat) : Int) (by omega)
        exact this
      rw [show s + (a : Int) * (t : Int) / (b : Int) = s + ((a * t / b : Nat) : Int) by rw [Int.natCast_ediv, Int.natCast_mul]]
      generalize mkNum (a : Int) (b : Int) = pn at *
      generalize mkDen (a : Int) (b : Int) = pd at *
      generalize a * t / b = qq at *
      have hws : IntKind.i64.wrap (s + (qq : Int)) = s + (qq : Int) := IntWalk.i64_in _ (by omega)
      generalize a * t = pr at *
      simp (disch := omega) [-getElem?_pos, if_pos, if_neg, decide_eq_true, decide_eq_false, ir_ref16_Relax_l0, e0, e1, e9, e10, e11, hkn, q1, q3, p1, p3, hml, hml', hlt, writeA, over, cut2i]
      refine AFn.pure (hmk _) ?_
      simp (disch := omega) [-getElem?_pos, if_pos, if_neg, decide_eq_true, decide_eq_false, writeA, over, cut2i, e1, e10, hwm]
      refine AFn.pure (hfl _) ?_
      simp (disch := omega) [-getElem?_pos, if_pos, if_neg, decide_eq_true, decide_eq_false, e10, hws]
    · rw [if_neg hlt] at hrel
      have hws : IntKind.i64.wrap (s + L[m].1) = s + L[m].1 := IntWalk.i64_in _ (by omega)
      have hwr : IntKind.i64.wrap (r - L[m].2) = r - L[m].2 := IntWalk.i64_in _ (by omega)
      generalize L[m] = x at *
      obtain ⟨x0, x1⟩ := x
      simp only at *
      simp (disch := omega) [-getElem?_pos, if_pos, if_neg, decide_eq_true, decide_eq_false, ir_ref16_Relax_l0, e0, e1, e9, e10, e11, hkn, q1, q3, p1, p3, hml, hml', hlt, writeA, over, cut2i, hws, hwr, IntWalk.i64_in]
      exact ⟨by simp [e0], by simp [e9], by simp, w'.alloc, k'.trans' .alloc, s + x0, r - x1, by simp, by simp, by omega, by omega, by omega, by omega, hrel⟩
  · obtain rfl : k = (ordW L).length := by omega
    rw [List.drop_length, relK] at hrel
    obtain ⟨oa, oc, hov⟩ := hO.slice
    rw [hov] at e9
    simp (disch := omega) [-getElem?_pos, if_pos, if_neg, decide_eq_true, decide_eq_false, ir_ref16_Relax_l0, e9, e11]
    refine .inr ⟨rfl, ?_, ?_⟩
    · simp [e10, ← hrel]
    · rw [← hrel]
theorem RelaxR_spec {H : AH} {v : Value} {L : List (Int × Int)} {room : Int} (hL : SlV (fun b => b < H.next) H v L) : AFn Try.prog F_ref16_Relax [v, .int .i64 room] H fun u H' => u = .tuple #[.int .i64 (rlN L room), .int .i64 (rlP L room).1, .int .i64 (rlP L room).2, .bool (mayB L room)] ∧ H' = H := by
  refine AFn.calm (fun H0 hs => ?_) rfl
  refine AFn.enter mixed ir_ref16_Relax_eq (by simp [ir_ref16_Relax]) fun hw => ?_
  have hn0 := hs.1
  have hL0 : SlV (fun b => b < H0.next) H0 v L := (hL.same hs).mono fun z hz => by omega
  have hmy := mayR_spec hL0 room
  have hrn : rlN L room = if mayB L room then (relL L room).1 else 0 := rfl
  have hrp : rlP L room = if mayB L room then prOf (relL L room).2 else (0, 0) := rfl
  rw [hrn, hrp]
  obtain ⟨va, vc, hve⟩ := hL0.slice
  rw [hve] at hmy ⊢
  simp (disch := omega) [-getElem?_pos, if_pos, if_neg, decide_eq_true, decide_eq_false, ir_ref16_Relax]
  refine AFn.pure hmy ?_
  cases hm : mayB L room with
  | false =>
    simp (disch := omega) [-getElem?_pos, if_pos, if_neg, decide_eq_true, decide_eq_false, ]
  | true =>
    have hok := mayB_iff.1 hm
    have ho : ordL L = ordW L := by unfold ordL; rw [may_zero hm]; rfl
    simp (disch := omega) [-getElem?_pos, if_pos, if_neg, decide_eq_true, decide_eq_false, ]
    rw [← hve]
    refine (OrderR_spec hL0).mono' fun u H2 w2 ⟨hO, k2⟩ => ?_
    rw [ho] at hO
    rw [hve]
    simp (disch := omega) [-getElem?_pos, if_pos, if_neg, decide_eq_true, decide_eq_false, ]
    refine wpC_use (relaxR_l0 (H1 := H2) (v := v) (ov := u) (room := room) w2 (hL0.kept hw k2).any hO.any hok ⟨by simp [hve], by simp, by simp, w2, .refl, 0, room, by simp, by simp, by omega, by omega, hok.room.1, hok.room.2, rfl⟩) ?_
    rintro e env2 H3 h3 _
    rcases h3 with ⟨rfl, f4, f5, f6, f7⟩ | ⟨rfl, f10, hnone⟩
    · simp (disch := omega) [-getElem?_pos, if_pos, if_neg, decide_eq_true, decide_eq_false, f4, f5, f6, f7]
    · rw [hnone]
      simp (disch := omega) [-getElem?_pos, if_pos, if_neg, decide_eq_true, decide_eq_false, f10, prOf]
end Go.Proofs.Ytllfcbacpoaphaa
