/-
  The document's big numbers (1): trim, Of, far, Cmp, Short.
-/
import Derived.Test.YtllfcbacpoaphaaBigN
import Derived.Test.YtllfcbacpoaphaaNum2
import Derived.Test.YtllfcbacpoaphaaLs
import Derived.Test.YtllfcbacpoaphaaIr01
set_option maxRecDepth 100000
set_option linter.unusedSimpArgs false
set_option linter.unusedVariables false
namespace Go.Abs
open Go
def BigV (p : Nat → Prop) (H : AH) (v : Value) (n : Int) : Prop := ∃ dv, v = .agg #[.bool (decide (n < 0)), dv] ∧ SlV p H dv (bdig n.natAbs)
theorem BigV.up {p q : Nat → Prop} {H H' : AH} {v : Value} {n : Int} (h : BigV p H v n) (hpq : ∀ b, p b → q b) (hs : Sub p H H') : BigV q H' v n := by
  obtain ⟨dv, h1, h2⟩ := h; exact ⟨dv, h1, h2.up hpq hs⟩
theorem BigV.kept {p : Nat → Prop} {H H' : AH} {v : Value} {n : Int} (h : BigV p H v n) (hw : WF H) (hk : Keep [] H H') : BigV p H' v n := h.up (fun _ h => h) (.kept hw hk)
theorem BigV.same {p : Nat → Prop} {H H' : AH} {v : Value} {n : Int} (h : BigV p H v n) (hs : SameC H H') : BigV p H' v n := h.up (fun _ h => h) (.same hs)
theorem BigV.any {p : Nat → Prop} {H : AH} {v : Value} {n : Int} (h : BigV p H v n) : BigV (fun _ => True) H v n := h.up (fun _ _ => trivial) .refl
theorem SlV.ltN {p : Nat → Prop} {H : AH} {v : Value} {l : List Nat} (h : SlV p H v l) (hw : WF H) : SlV (fun b => p b ∧ b < H.next) H v l := by
  obtain ⟨h1, cells, ⟨h2, h3⟩, h4⟩ := h
  refine ⟨h1, cells, ⟨h2, h3.imp id ?_⟩, h4⟩
  rintro ⟨b, off, sp, cap, cs, e, q1, q2, q3, q4, q5⟩
  exact ⟨b, off, sp, cap, cs, e, q1, q2, q3, q4, q5, cells_lt hw q3⟩
theorem cut2 {a b : Value} : cut [a, b] 0 2 = some [a, b] := by simp [cut]
theorem bigC (s : Bool) (a : Option Addr) (n c : Nat) : cellsOf (.agg #[.bool s, .slice a n c]) = some [.bool s, .slice a n c] := rfl
theorem bigT (s : Bool) (a : Option Addr) (n c : Nat) : Value.agg [.bool s, .slice a n c].toArray = .agg #[.bool s, .slice a n c] := rfl
end Go.Abs
namespace Go.Proofs.Ytllfcbacpoaphaa
open Go Go.Abs
def TzI (H1 : AH) (q1 q2 : Nat) (L : List Nat) (k : Nat) (env : Env) (H' : AH) : Prop :=
  H' = H1 ∧ env 1 = some (.pointer (some ⟨q1, 0, none⟩)) ∧ env 2 = some (.pointer (some ⟨q2, 0, none⟩)) ∧ env 3 = some (.int .i64 ((L.length - k : Nat) : Int)) ∧ ∀ j (h : j < L.length), L.length - k ≤ j → L[j] = 0
def TzQ (H1 : AH) (q1 q2 : Nat) (L : List Nat) (e : AExit) (env : Env) (H' : AH) : Prop :=
  e = .exit 0 ∧ H' = H1 ∧ env 1 = some (.pointer (some ⟨q1, 0, none⟩)) ∧ env 2 = some (.pointer (some ⟨q2, 0, none⟩)) ∧ ∃ n : Nat, env 3 = some (.int .i64 (n : Int)) ∧ n ≤ L.length ∧ (∀ j (h : j < L.length), n ≤ j → L[j] = 0) ∧ LastNz L n
theorem trim_l0 {H1 : AH} {q1 q2 : Nat} {s : Bool} {a : Option Addr} {c : Nat} {L : List Nat} (hc : H1.cells q1 = some [.bool s, .slice a L.length c]) (hL : SlV (fun _ => True) H1 (.slice a L.length c) L) {env : Env} (h : TzI H1 q1 q2 L 0 env H1) :
    wpC Try.prog 31 (.loop ir_ref01_trim_l0) (TzQ H1 q1 q2 L) env H1 := by
  refine loop_upto L.length (TzI H1 q1 q2 L) (Q := TzQ H1 q1 q2 L) h ?_
  rintro k env H' hk ⟨rfl, e1, e2, e3, hz⟩
  have hm := hL.max
  by_cases hkn : k < L.length
  · obtain ⟨m, hm1⟩ : ∃ m, L.length - k = m + 1 := ⟨L.length - k - 1, by omega⟩
    have hml : m < L.length := by omega
    obtain ⟨b, off, sp, cap, cs, hcv, q1', q2'⟩ := nats_rd hL (by omega)
    have q3 := q2' m hml
    cases hcv
    rw [hm1] at e3
    have hs1 : ((m + 1 : Nat) : Int) - 1 = (m : Int) := by omega
    have hs2 : ((m : Int) + 1) - 1 = (m : Int) := by omega
    have hp : (0 : Int) < (m : Int) + 1 := by omega
    have hLm : L[m]? = some L[m] := by simp [hml]
    have heq := uv_eql (a := L[m]) (b := 0)
    have hdig : ∀ j (h : j < L.length), L.length - (k + 1) ≤ j → L[m] = 0 → L[j] = 0 := fun j hj h1 h2 => by
      by_cases hjm : j = m
      · subst hjm; exact h2
      · exact hz j hj (by omega)
    have hnz : L[m] ≠ 0 → LastNz L (m + 1) := fun h => .inr ⟨m, rfl, hml, h⟩
    generalize L[m] = z at *
    by_cases hz0 : z = 0
    · rw [decide_eq_true hz0] at heq
      simp (disch := omega) [-getElem?_pos, if_pos, if_neg, decide_eq_true, decide_eq_false, ir_ref01_trim_l0, e1, e2, e3, hc, hs1, hs2, hp, hml, q1', q3, ↓heq, IntWalk.i64_in]
      exact ⟨hkn, rfl, by simp [e1], by simp [e2], by simp; omega, fun j hj h1 => hdig j hj h1 hz0⟩
    · rw [decide_eq_false hz0] at heq
      simp (disch := omega) [-getElem?_pos, if_pos, if_neg, decide_eq_true, decide_eq_false, ir_ref01_trim_l0, e1, e2, e3, hc, hs1, hs2, hp, hml, q1', q3, ↓heq, IntWalk.i64_in]
      exact ⟨rfl, rfl, by simp [e1], by simp [e2], m + 1, by simp [e3], by omega, fun j hj h1 => hz j hj (by omega), hnz hz0⟩
  · obtain rfl : k = L.length := by omega
    rw [Nat.sub_self] at e3
    simp (disch := omega) [-getElem?_pos, if_pos, if_neg, decide_eq_true, decide_eq_false, ir_ref01_trim_l0, e1, e2, e3]
    exact ⟨rfl, rfl, e1, e2, 0, e3, by omega, fun j hj h1 => hz j hj (by omega), .inl rfl⟩
def TrP (p : Nat → Prop) (H : AH) (s : Bool) (m : Nat) (u : Value) (H' : AH) : Prop := ∃ w, u = .agg #[.bool (s && decide (m ≠ 0)), w] ∧ SlV p H' w (bdig m) ∧ Keep [] H H'
theorem trim_spec {p : Nat → Prop} {H : AH} {s : Bool} {dv : Value} {L : List Nat} (hL : SlV p H dv L) (hd : ∀ d ∈ L, d < 65536) : AFn Try.prog F_ref01_trim [.agg #[.bool s, dv]] H (TrP p H s (bval L)) := by
  obtain ⟨a, c, rfl⟩ := hL.slice
  refine AFn.enter mixed ir_ref01_trim_eq (by simp [ir_ref01_trim]) fun hw => ?_
  simp (disch := omega) [-getElem?_pos, if_pos, if_neg, decide_eq_true, decide_eq_false, ir_ref01_trim, cut2, bigC]
  generalize hH1 : AH.alloc (AH.alloc _ _) _ = H1
  have k1 : Keep [] H H1 := by rw [← hH1]; exact .new_alloc .alloc
  have w1 : WF H1 := by rw [← hH1]; exact hw.alloc.alloc
  have n1 : H1.next = H.next + 2 := by rw [← hH1]; simp
  have c1 : H1.cells H.next = some [.bool s, .slice a L.length c] := by rw [← hH1]; simp
  have b2 : H1.blk (H.next + 1) = some (.row [.bool false, .slice none 0 0] T_secateurref01_Big true) := by rw [← hH1]; simp
  clear hH1
  have hL1 := (hL.ltN hw).kept hw k1
  refine wpC_use (trim_l0 (q1 := H.next) (q2 := H.next + 1) c1 hL1.any ⟨rfl, by simp, by simp, by simp, fun j hj h => by omega⟩) ?_
  rintro e env2 H2 ⟨rfl, rfl, e1, e2, n, e3, hn, hz, hl⟩ hu
  have htk := bdig_take L hd n hn hz hl
  obtain ⟨w, hsl, hwv⟩ := hL1.sl hn
  simp only [sz_nat] at hsl
  have hnb : (0 < n) ↔ bval L ≠ 0 := by
    have hlen : (bdig (bval L)).length = n := by rw [← htk, List.length_take]; omega
    rw [← hlen]
    constructor
    · intro h h2
      rw [h2] at h
      simp [bdig_zero] at h
    · intro h
      apply Nat.pos_of_ne_zero
      intro h2
      exact h (bdig_nil.1 (List.eq_nil_of_length_eq_zero h2))
  rw [htk] at hwv
  have hwc := hwv.cell
  have c2 := AH.cells_of b2
  have fin : ∀ t : Bool, t = (s && decide (bval L ≠ 0)) → TrP p H s (bval L) (.agg #[.bool t, w]) (H2.set (H.next + 1) (.row [.bool t, w] T_secateurref01_Big true)) := fun t ht =>
    ⟨w, by rw [ht], hwv.up (fun _ h => h.1) (.set (by omega)), .new_set (by omega) k1⟩
  clear hl hz hu
  cases s with
  | false =>
    simp (disch := omega) [-getElem?_pos, if_pos, if_neg, decide_eq_true, decide_eq_false, e1, e2, e3, c1, ↓ieval_slhi, hsl, hwc.1, hwc.2, c2, b2, writeA, over, cut2]
    exact fin false rfl
  | true =>
    by_cases hn0 : 0 < n
    · have hn0' : (0 : Int) < (n : Int) := by omega
      simp (disch := omega) [-getElem?_pos, if_pos, if_neg, decide_eq_true, decide_eq_false, e1, e2, e3, c1, hn0, hn0', ↓ieval_slhi, hsl, hwc.1, hwc.2, c2, b2, writeA, over, cut2]
      exact fin true (by rw [decide_eq_true (hnb.1 hn0)]; rfl)
    · have hn0' : ¬ (0 : Int) < (n : Int) := by omega
      simp (disch := omega) [-getElem?_pos, if_pos, if_neg, decide_eq_true, decide_eq_false, e1, e2, e3, c1, hn0, hn0', ↓ieval_slhi, hsl, hwc.1, hwc.2, c2, b2, writeA, over, cut2]
      exact fin false (by rw [decide_eq_false (fun h => hn0 (hnb.2 h))]; rfl)
end Go.Proofs.Ytllfcbacpoaphaa
namespace Go.Proofs.Ytllfcbacpoaphaa
open Go Go.Abs
theorem u_rem (u : Nat) (h : u < 18446744073709551616) : abin .rem (uv u) (uv 65536) = some (uv (u % 65536)) := by
  simp only [abin, uv]
  simp [IntKind.wrap, IntKind.signed, IntKind.bits]
  rw [Int.tmod_eq_emod_of_nonneg (by omega)]
theorem u_quo (u : Nat) (h : u < 18446744073709551616) : abin .quo (uv u) (uv 65536) = some (uv (u / 65536)) := by
  simp only [abin, uv]
  simp [IntKind.wrap, IntKind.signed, IntKind.bits]
  omega
theorem push_u64 {ty : Nat} {H H1 : AH} {v : Value} {L : List Nat} {S : List Nat} (hw : WF H1) (hA : OwnL (fun _ => False) H1 ty v L S) (hk : Keep [] H H1) (hS : ∀ b ∈ S, H.next ≤ b) {a : Nat} (ha : a < 18446744073709551616) (hl : L.length ≤ 100000) :
    ∃ va vc H2 S', appendA (H1.alloc (.row [uv a] ty true)) ty 1 8 v 1 [uv a] = some (.slice va (L.length + 1) vc, H2) ∧ WF H2 ∧ OwnL (fun _ => False) H2 ty (.slice va (L.length + 1) vc) (L ++ [a]) S' ∧ Keep [] H H2 ∧ (∀ b ∈ S', H.next ≤ b) ∧ Keep S H1 H2 ∧ ∀ b ∈ S', b ∈ S ∨ H1.next ≤ b := by
  obtain ⟨va, vc, Hd, S', p1, hA', kd, wd, i1⟩ := hA.push (q := fun _ => False) hw (cs := [uv a]) (a := a) ⟨rfl, ha⟩ ty 8 (fun _ h => h) (fun b hb => hb.elim) (by simp) (by omega) (by omega)
  have hn := hk.next
  refine ⟨va, vc, Hd, S', p1, wd, hA', hk.trans kd (fun b hb hlt => by have := hS b hb; omega), fun b hb => ?_, kd, i1⟩
  rcases i1 b hb with h | h
  · exact hS b h
  · omega
def OfI (H : AH) (q2 : Nat) (n : Int) (k : Nat) (env : Env) (H' : AH) : Prop :=
  env 0 = some (.int .i64 n) ∧ env 2 = some (.pointer (some ⟨q2, 0, none⟩)) ∧ env 3 = some (uv (n.natAbs / 65536 ^ k)) ∧ env 5 = some (.int .i64 k) ∧ WF H' ∧ H'.blk q2 = some (.row [.bool false, .slice none 0 0] T_secateurref01_Big true) ∧
    Keep [] H H' ∧ ∃ ov S, env 4 = some ov ∧ OwnL (fun _ => False) H' T_uint64 ov ((List.range k).map (bdg n.natAbs)) S ∧ ∀ b ∈ S, H.next ≤ b
def OfQ (H : AH) (q2 : Nat) (n : Int) (e : AExit) (env : Env) (H' : AH) : Prop := e = .exit 0 ∧ OfI H q2 n 4 env H'
theorem of_l0 {H H1 : AH} {q2 : Nat} {n : Int} (hn : I64 n) (hq : q2 < H.next) (hw : WF H1) {env : Env} (h : OfI H q2 n 0 env H1) : wpC Try.prog 31 (.loop ir_ref01_Of_l0) (OfQ H q2 n) env H1 := by
  refine loop_upto 4 (OfI H q2 n) (Q := OfQ H q2 n) h ?_
  rintro k env H' hk ⟨e0, e2, e3, e5, w', hb, k', ov, S, e4, hA, hS⟩
  by_cases hkn : k < 4
  · have hu : n.natAbs / 65536 ^ k < 18446744073709551616 := by
      obtain ⟨h1, h2⟩ := hn
      exact Nat.lt_of_le_of_lt (Nat.div_le_self _ _) (by omega)
    have hrs : (List.range (k + 1)).map (bdg n.natAbs) = (List.range k).map (bdg n.natAbs) ++ [n.natAbs / 65536 ^ k % 65536] := by rw [List.range_succ, List.map_append]; rfl
    have hdv : n.natAbs / 65536 ^ (k + 1) = n.natAbs / 65536 ^ k / 65536 := by rw [Nat.pow_succ, Nat.div_div_eq_div_mul]
    have hlk : ((List.range k).map (bdg n.natAbs)).length = k := by simp
    obtain ⟨va, vc, H2, S', p1, w2, hA', k2, hS', kd, _⟩ := push_u64 w' hA k' hS (a := n.natAbs / 65536 ^ k % 65536) (by omega) (by omega)
    rw [← hrs] at hA'
    have hlt := hA.lt w'
    generalize n.natAbs / 65536 ^ k = u at *
    have hrem := u_rem u hu
    have hquo := u_quo u hu
    obtain ⟨oa, oc, rfl⟩ := hA.slice
    rw [hlk] at p1 hA' e4
    generalize u % 65536 = d at *
    have pE : elemsA (H'.alloc (.row [uv d] T_uint64 true)) 1 (.slice (some ⟨H'.next, 0, none⟩) 1 1) = some [uv d] := elems_one rfl
    simp (disch := omega) [-getElem?_pos, if_pos, if_neg, decide_eq_true, decide_eq_false, ir_ref01_Of_l0, e0, e2, e3, e4, e5, hkn, ↓hrem, ↓hquo, pE, p1, IntWalk.i64_in]
    refine ⟨by simp [e0], by simp [e2], by simp [hdv], by simp, w2, ?_, k2, _, S', by simp, hA', hS'⟩
    rw [kd.blk q2 (by have := k'.next; omega) (fun h => by have := hS _ h; omega)]
    exact hb
  · obtain rfl : k = 4 := by omega
    simp (disch := omega) [-getElem?_pos, if_pos, if_neg, decide_eq_true, decide_eq_false, ir_ref01_Of_l0, e5]
    exact ⟨rfl, e0, e2, e3, e5, w', hb, k', ov, S, e4, hA, hS⟩
theorem Of_spec {H : AH} {n : Int} (hn : I64 n) : AFn Try.prog F_ref01_Of [.int .i64 n] H fun u H' => BigV (fun b => H.next ≤ b ∧ b < H'.next) H' u n ∧ Keep [] H H' := by
  refine AFn.enter mixed ir_ref01_Of_eq (by simp [ir_ref01_Of]) fun hw => ?_
  obtain ⟨h1, h2⟩ := id hn
  have start : ∀ env : Env, env 0 = some (.int .i64 n) → env 2 = some (.pointer (some ⟨H.next, 0, none⟩)) → env 3 = some (uv n.natAbs) → env 4 = some (.slice none 0 0) → env 5 = some (.int .i64 0) → OfI (H.alloc (.row [.bool false, .slice none 0 0] T_secateurref01_Big true)) H.next n 0 env (H.alloc (.row [.bool false, .slice none 0 0] T_secateurref01_Big true)) := fun env f0 f2 f3 f4 f5 =>
    ⟨f0, f2, by rw [f3]; simp, f5, hw.alloc, by simp, .refl, .slice none 0 0, [], f4, by simpa using OwnL.nil, by simp⟩
  have fin : ∀ env H', OfI (H.alloc (.row [.bool false, .slice none 0 0] T_secateurref01_Big true)) H.next n 4 env H' → WF H' ∧ H.next < H'.next ∧ Keep [] H H' ∧ env 0 = some (.int .i64 n) ∧ env 2 = some (.pointer (some ⟨H.next, 0, none⟩)) ∧ H'.blk H.next = some (.row [.bool false, .slice none 0 0] T_secateurref01_Big true) ∧ ∃ ov, env 4 = some ov ∧ SlV (fun b => H.next < b ∧ b < H'.next) H' ov ((List.range 4).map (bdg n.natAbs)) := by
    rintro env H' ⟨f0, f2, f3, f5, w', hb, k', ov, S, e4, hA, hS⟩
    exact ⟨w', w'.lt hb, Keep.alloc.trans' k', f0, f2, hb, ov, e4, hA.slv (fun _ h => h.elim) (fun b hb => ⟨by have := hS b hb; simp at this; omega, hA.lt w' b hb⟩) (by simp)⟩
  have hbv : bval ((List.range 4).map (bdg n.natAbs)) = n.natAbs := bval_bdg4 (by omega)
  have hdl := bdg_lt (u := n.natAbs) (k := 4)
  have tail : ∀ (s : Bool) (H' : AH), s = decide (n < 0) → WF H' → H.next < H'.next → Keep [] H H' → H'.blk H.next = some (.row [.bool false, .slice none 0 0] T_secateurref01_Big true) → ∀ ov, SlV (fun b => H.next < b ∧ b < H'.next) H' ov ((List.range 4).map (bdg n.natAbs)) →
      AFn Try.prog F_ref01_trim [.agg #[.bool s, ov]] H' fun u H3 => ∃ w, u = .agg #[.bool s, w] ∧ one w = true ∧ cellsOf w = some [w] ∧ H3.blk H.next = some (.row [.bool false, .slice none 0 0] T_secateurref01_Big true) ∧ BigV (fun b => H.next ≤ b ∧ b < (H3.set H.next (.row [.bool s, w] T_secateurref01_Big true)).next) (H3.set H.next (.row [.bool s, w] T_secateurref01_Big true)) u n ∧ Keep [] H (H3.set H.next (.row [.bool s, w] T_secateurref01_Big true)) := by
    intro s H' hs w' hn' k' hb ov hov
    have hsn : (s && decide (n.natAbs ≠ 0)) = s := by
      subst hs
      by_cases h : n < 0
      · rw [decide_eq_true h, decide_eq_true (by omega)]; rfl
      · rw [decide_eq_false h]; rfl
    refine (trim_spec hov hdl).mono' fun u H3 w3 ⟨w, hu, hwv, k3⟩ => ?_
    rw [hbv] at hu hwv
    rw [hsn] at hu
    have hwc := hwv.cell
    have n3 := k3.next
    refine ⟨w, hu, hwc.1, hwc.2, by rw [k3.blk _ hn' (by simp), hb], ⟨w, by rw [hu, hs], hwv.up (fun b hb => ⟨by omega, by show b < H3.next; omega⟩) (.set (by omega))⟩, .new_set (by omega) (k'.trans' k3)⟩
  by_cases h0 : n < 0
  · have hwr : Value.int .u64 (IntKind.u64.wrap (-(n + 1))) = uv (n.natAbs - 1) := by
      unfold uv; congr 1
      simp [IntKind.wrap, IntKind.signed, IntKind.bits]; omega
    have hwi : IntKind.i64.wrap (-(n + 1)) = -(n + 1) := IntWalk.i64_in _ (by omega)
    have hwj : IntKind.i64.wrap (n + 1) = n + 1 := IntWalk.i64_in _ (by omega)
    have hadd : abin .add (uv (n.natAbs - 1)) (uv 1) = some (uv n.natAbs) := by
      rw [uv_add (by omega)]; congr 2; omega
    generalize hu' : n.natAbs - 1 = u' at *
    simp (disch := omega) [-getElem?_pos, if_pos, if_neg, decide_eq_true, decide_eq_false, ir_ref01_Of, h0, hwj, hwi, hwr, ↓hadd]
    refine wpC_use (of_l0 hn (by simp) hw.alloc (start _ (by simp) (by simp) (by simp) (by simp) (by simp))) ?_
    rintro e env2 H2 ⟨rfl, hI⟩ hu
    obtain ⟨w2, n2, k2, f0, f2, hb2, ov, f4, hov⟩ := fin _ _ hI
    have hoc := hov.cell
    simp (disch := omega) [-getElem?_pos, if_pos, if_neg, decide_eq_true, decide_eq_false, f0, f2, f4, h0, hoc.1, hoc.2]
    refine (tail true H2 (by rw [decide_eq_true h0]) w2 n2 k2 hb2 ov hov).mono' fun u H3 w3 ⟨w, hu, g1, g2, g3, g4, g5⟩ => ?_
    subst hu
    simp (disch := omega) [-getElem?_pos, if_pos, if_neg, decide_eq_true, decide_eq_false, f2, g1, g2, g3, writeA, over, cut2]
    exact ⟨g4, g5⟩
  · have hwr : Value.int .u64 (IntKind.u64.wrap n) = uv n.natAbs := by
      unfold uv; congr 1
      simp [IntKind.wrap, IntKind.signed, IntKind.bits]; omega
    simp (disch := omega) [-getElem?_pos, if_pos, if_neg, decide_eq_true, decide_eq_false, ir_ref01_Of, h0, hwr]
    refine wpC_use (of_l0 hn (by simp) hw.alloc (start _ (by simp) (by simp) (by simp) (by simp) (by simp))) ?_
    rintro e env2 H2 ⟨rfl, hI⟩ hu
    obtain ⟨w2, n2, k2, f0, f2, hb2, ov, f4, hov⟩ := fin _ _ hI
    have hoc := hov.cell
    simp (disch := omega) [-getElem?_pos, if_pos, if_neg, decide_eq_true, decide_eq_false, f0, f2, f4, h0, hoc.1, hoc.2]
    refine (tail false H2 (by rw [decide_eq_false h0]) w2 n2 k2 hb2 ov hov).mono' fun u H3 w3 ⟨w, hu, g1, g2, g3, g4, g5⟩ => ?_
    subst hu
    simp (disch := omega) [-getElem?_pos, if_pos, if_neg, decide_eq_true, decide_eq_false, f2, g1, g2, g3, writeA, over, cut2]
    exact ⟨g4, g5⟩
end Go.Proofs.Ytllfcbacpoaphaa
namespace Go.Proofs.Ytllfcbacpoaphaa
open Go Go.Abs
def FaI (H1 : AH) (q1 q2 : Nat) (A B : List Nat) (n : Nat) (k : Nat) (env : Env) (H' : AH) : Prop :=
  H' = H1 ∧ env 2 = some (.pointer (some ⟨q1, 0, none⟩)) ∧ env 3 = some (.pointer (some ⟨q2, 0, none⟩)) ∧ env 5 = some (.int .i64 ((n : Int) - 1 - k)) ∧ A.drop (n - k) = B.drop (n - k)
def FaQ (H1 : AH) (A B : List Nat) (e : AExit) (env : Env) (H' : AH) : Prop :=
  H' = H1 ∧ ((e = .exit 0 ∧ A = B) ∨ (e = .ret ∧ env 4 = some (.int .i64 (-1)) ∧ bval A < bval B) ∨ (e = .ret ∧ env 4 = some (.int .i64 1) ∧ bval B < bval A))
theorem far_l0 {H1 : AH} {q1 q2 : Nat} {s t : Bool} {x y : Option Addr} {c d : Nat} {A B : List Nat} {n : Nat} (hA : A.length = n) (hB : B.length = n) (c1 : H1.cells q1 = some [.bool s, .slice x n c]) (c2 : H1.cells q2 = some [.bool t, .slice y n d]) (vA : SlV (fun _ => True) H1 (.slice x n c) A) (vB : SlV (fun _ => True) H1 (.slice y n d) B)
    (dA : ∀ e ∈ A, e < 65536) (dB : ∀ e ∈ B, e < 65536) {env : Env} (h : FaI H1 q1 q2 A B n 0 env H1) : wpC Try.prog 50 (.loop ir_ref01_far_l0) (FaQ H1 A B) env H1 := by
  refine loop_upto n (FaI H1 q1 q2 A B n) (Q := FaQ H1 A B) h ?_
  rintro k env H' hk ⟨rfl, e2, e3, e5, hd⟩
  have hm := vA.max
  by_cases hkn : k < n
  · obtain ⟨m, hm1⟩ : ∃ m, n - k = m + 1 := ⟨n - k - 1, by omega⟩
    obtain ⟨b1, off1, sp1, cap1, cs1, hcv1, r1, r2⟩ := nats_rd vA (by omega)
    obtain ⟨b2, off2, sp2, cap2, cs2, hcv2, t1, t2⟩ := nats_rd vB (by omega)
    have r3 := r2 m (by omega)
    have t3 := t2 m (by omega)
    injection hcv1 with i1 i2 i3
    injection hcv2 with j1 j2 j3
    subst i1 i3 j1 j3
    rw [show (n : Int) - 1 - k = (m : Int) by omega] at e5
    rw [hm1] at hd
    have hmn : m < n := by omega
    have hlt := fun (h : A[m] < B[m]) => bval_cmp dA dB (i := m) (by omega) (by omega) hd h
    have hgt := fun (h : B[m] < A[m]) => bval_cmp dB dA (i := m) (by omega) (by omega) hd.symm h
    have heq : A[m] = B[m] → A.drop (n - (k + 1)) = B.drop (n - (k + 1)) := fun h => by
      rw [show n - (k + 1) = m by omega, ← List.getElem_cons_drop (show m < A.length by omega), ← List.getElem_cons_drop (show m < B.length by omega), hd, h]
    have hi0 : (0 : Int) ≤ (m : Int) := by omega
    have l1 := uv_lss (a := A[m]) (b := B[m])
    have l2 := uv_gtr (a := A[m]) (b := B[m])
    generalize A[m] = za at *
    generalize B[m] = zb at *
    by_cases h1 : za < zb
    · rw [decide_eq_true h1] at l1
      simp (disch := omega) [-getElem?_pos, if_pos, if_neg, decide_eq_true, decide_eq_false, ir_ref01_far_l0, e2, e3, e5, c1, c2, r1, t1, r3, t3, hi0, hmn, ↓l1, IntWalk.i64_in]
      exact ⟨rfl, .inr (.inl ⟨rfl, by simp, hlt h1⟩)⟩
    · rw [decide_eq_false h1] at l1
      by_cases h2 : za > zb
      · rw [decide_eq_true h2] at l2
        simp (disch := omega) [-getElem?_pos, if_pos, if_neg, decide_eq_true, decide_eq_false, ir_ref01_far_l0, e2, e3, e5, c1, c2, r1, t1, r3, t3, hi0, hmn, ↓l1, ↓l2, IntWalk.i64_in]
        exact ⟨rfl, .inr (.inr ⟨rfl, by simp, hgt h2⟩)⟩
      · rw [decide_eq_false h2] at l2
        simp (disch := omega) [-getElem?_pos, if_pos, if_neg, decide_eq_true, decide_eq_false, ir_ref01_far_l0, e2, e3, e5, c1, c2, r1, t1, r3, t3, hi0, hmn, ↓l1, ↓l2, IntWalk.i64_in]
        exact ⟨hkn, rfl, by simp [e2], by simp [e3], by simp; omega, heq (by omega)⟩
  · obtain rfl : k = n := by omega
    have hi0 : ¬ (0 : Int) ≤ (k : Int) - 1 - k := by omega
    simp (disch := omega) [-getElem?_pos, if_pos, if_neg, decide_eq_true, decide_eq_false, ir_ref01_far_l0, e2, e3, e5, hi0]
    rw [Nat.sub_self] at hd
    exact ⟨rfl, .inl ⟨rfl, by simpa using hd⟩⟩
theorem far_spec {p q : Nat → Prop} {H : AH} {s t : Bool} {dv ew : Value} {a b : Nat} (hA : SlV p H dv (bdig a)) (hB : SlV q H ew (bdig b)) : AFn Try.prog F_ref01_far [.agg #[.bool s, dv], .agg #[.bool t, ew]] H fun u H' => u = .int .i64 (cmpB a b) ∧ H' = H := by
  refine AFn.calm (fun H0 hs => ?_) rfl
  have hA0 := hA.same hs
  have hB0 := hB.same hs
  obtain ⟨xa, xc, rfl⟩ := hA0.slice
  obtain ⟨ya, yc, rfl⟩ := hB0.slice
  have ma := hA.max
  have mb := hB.max
  have hlt := cmpN_len (a := a) (b := b)
  have hgt := cmpN_len (a := b) (b := a)
  have dA := bdig_lt a
  have dB := bdig_lt b
  have vA := bval_bdig a
  have vB := bval_bdig b
  refine AFn.enter mixed ir_ref01_far_eq (by simp [ir_ref01_far]) fun hw => ?_
  generalize hAe : bdig a = A at *
  generalize hBe : bdig b = B at *
  generalize hn : A.length = n at *
  generalize hm : B.length = m at *
  simp (disch := omega) [-getElem?_pos, if_pos, if_neg, decide_eq_true, decide_eq_false, ir_ref01_far, cut2, bigC]
  generalize hH1 : AH.alloc (AH.alloc _ _) _ = H1
  have k1 : Keep [] H0 H1 := by rw [← hH1]; exact .new_alloc .alloc
  have w1 : WF H1 := by rw [← hH1]; exact hw.alloc.alloc
  have c1 : H1.cells H0.next = some [.bool s, .slice xa n xc] := by rw [← hH1]; simp
  have c2 : H1.cells (H0.next + 1) = some [.bool t, .slice ya m yc] := by rw [← hH1]; simp
  clear hH1
  unfold cmpB
  by_cases hne : n = m
  · subst hne
    simp (disch := omega) [-getElem?_pos, if_pos, if_neg, decide_eq_true, decide_eq_false, c1, c2, IntWalk.i64_in]
    refine wpC_use (far_l0 (q1 := H0.next) (q2 := H0.next + 1) hn hm c1 c2 ((hA0.kept hw k1).any) ((hB0.kept hw k1).any) dA dB ⟨rfl, by simp, by simp, by simp, ?_⟩) ?_
    · rw [Nat.sub_zero, List.drop_of_length_le (by omega), List.drop_of_length_le (by omega)]
    rintro e env2 H2 ⟨rfl, ⟨rfl, rfl⟩ | ⟨rfl, e4, hl⟩ | ⟨rfl, e4, hl⟩⟩ hu
    · have : a = b := by rw [← vA, ← vB]
      rw [if_neg (by omega), if_neg (by omega)]
      simp (disch := omega) [-getElem?_pos, if_pos, if_neg, decide_eq_true, decide_eq_false, ]
    · rw [if_pos (by omega)]
      simp (disch := omega) [-getElem?_pos, if_pos, if_neg, decide_eq_true, decide_eq_false, e4]
    · rw [if_neg (by omega), if_pos (by omega)]
      simp (disch := omega) [-getElem?_pos, if_pos, if_neg, decide_eq_true, decide_eq_false, e4]
  · by_cases hl : n < m
    · rw [if_pos (hlt hl)]
      simp (disch := omega) [-getElem?_pos, if_pos, if_neg, decide_eq_true, decide_eq_false, c1, c2, hne, hl]
    · have := hgt (by omega)
      rw [if_neg (by omega), if_pos this]
      simp (disch := omega) [-getElem?_pos, if_pos, if_neg, decide_eq_true, decide_eq_false, c1, c2, hne, hl]
theorem Cmp_spec {p q : Nat → Prop} {H : AH} {v w : Value} {a b : Int} (hA : BigV p H v a) (hB : BigV q H w b) : AFn Try.prog F_ref01_Cmp [v, w] H fun u H' => u = .int .i64 (cmpZ a b) ∧ H' = H := by
  refine AFn.calm (fun H0 hs => ?_) rfl
  obtain ⟨dv, rfl, hA0⟩ := hA.same hs
  obtain ⟨ew, rfl, hB0⟩ := hB.same hs
  obtain ⟨xa, xc, rfl⟩ := hA0.slice
  obtain ⟨ya, yc, rfl⟩ := hB0.slice
  rw [cmpZ_of]
  refine AFn.enter mixed ir_ref01_Cmp_eq (by simp [ir_ref01_Cmp]) fun hw => ?_
  have hfar := fun (H1 : AH) (k1 : Keep [] H0 H1) => far_spec (s := decide (a < 0)) (t := decide (b < 0)) (hA0.kept hw k1) (hB0.kept hw k1)
  have hbd : -1 ≤ cmpB a.natAbs b.natAbs ∧ cmpB a.natAbs b.natAbs ≤ 1 := by
    unfold cmpB
    split
    · omega
    · split <;> omega
  generalize (bdig a.natAbs).length = n at *
  generalize (bdig b.natAbs).length = m at *
  generalize cmpB a.natAbs b.natAbs = f at *
  have hwf : IntKind.i64.wrap (-f) = -f := IntWalk.i64_in _ (by omega)
  by_cases ha : a < 0
  · rw [decide_eq_true ha] at *
    by_cases hb : b < 0
    · rw [decide_eq_true hb] at *
      rw [if_pos rfl, if_pos ha]
      simp (disch := omega) [-getElem?_pos, if_pos, if_neg, decide_eq_true, decide_eq_false, ir_ref01_Cmp, cut2, bigC, bigT]
      refine AFn.pure (hfar _ (.new_alloc .alloc)) ?_
      simp (disch := omega) [-getElem?_pos, if_pos, if_neg, decide_eq_true, decide_eq_false, hwf]
    · rw [decide_eq_false hb] at *
      rw [if_neg (by simp), if_pos ha]
      simp (disch := omega) [-getElem?_pos, if_pos, if_neg, decide_eq_true, decide_eq_false, ir_ref01_Cmp, cut2, bigC, bigT]
  · rw [decide_eq_false ha] at *
    by_cases hb : b < 0
    · rw [decide_eq_true hb] at *
      rw [if_neg (by simp), if_neg ha]
      simp (disch := omega) [-getElem?_pos, if_pos, if_neg, decide_eq_true, decide_eq_false, ir_ref01_Cmp, cut2, bigC, bigT]
    · rw [decide_eq_false hb] at *
      rw [if_pos rfl, if_neg ha]
      simp (disch := omega) [-getElem?_pos, if_pos, if_neg, decide_eq_true, decide_eq_false, ir_ref01_Cmp, cut2, bigC, bigT]
      refine AFn.pure (hfar _ (.new_alloc .alloc)) ?_
      simp (disch := omega) [-getElem?_pos, if_pos, if_neg, decide_eq_true, decide_eq_false, hwf]
def sgn (s : Bool) (m : Nat) : Int := if s then -(m : Int) else m
theorem sgn_abs (n : Int) : sgn (decide (n < 0)) n.natAbs = n := by unfold sgn; split <;> (rename_i h; simp at h; omega)
theorem bval_drop_le {D : List Nat} {m : Nat} : bval (D.drop m) ≤ bval D := by
  conv => rhs; rw [← List.take_append_drop m D]
  rw [bval_append]
  have : 1 ≤ 65536 ^ (D.take m).length := Nat.one_le_pow _ _ (by omega)
  have := Nat.mul_le_mul_right (bval (D.drop m)) this
  omega
theorem bval_drop {D : List Nat} {m : Nat} (h : m < D.length) : bval (D.drop m) = D[m] + 65536 * bval (D.drop (m + 1)) := by
  rw [← List.getElem_cons_drop h, bval]
def ShI (H1 : AH) (q1 : Nat) (s : Bool) (D : List Nat) (k : Nat) (env : Env) (H' : AH) : Prop :=
  H' = H1 ∧ env 1 = some (.pointer (some ⟨q1, 0, none⟩)) ∧ env 9 = some (.int .i64 ((D.length : Int) - 1 - k)) ∧ env 8 = some (.int .i64 (sgn s (bval (D.drop (D.length - k)))))
theorem short_l0 {H1 : AH} {q1 : Nat} {s : Bool} {x : Option Addr} {c : Nat} {D : List Nat} (c1 : H1.cells q1 = some [.bool s, .slice x D.length c]) (vD : SlV (fun _ => True) H1 (.slice x D.length c) D) (hf : I64 (sgn s (bval D))) (dD : ∀ d ∈ D, d < 65536)
    {env : Env} (h : ShI H1 q1 s D 0 env H1) : wpC Try.prog 53 (.loop ir_ref01_Short_l0) (fun e env' H' => e = .exit 0 ∧ env' 8 = some (.int .i64 (sgn s (bval D)))) env H1 := by
  refine loop_upto D.length (ShI H1 q1 s D) (Q := fun e env' H' => e = .exit 0 ∧ env' 8 = some (.int .i64 (sgn s (bval D)))) h ?_
  rintro k env H' hk ⟨rfl, e1, e9, e8⟩
  have hm := vD.max
  by_cases hkn : k < D.length
  · obtain ⟨m, hm1⟩ : ∃ m, D.length - k = m + 1 := ⟨D.length - k - 1, by omega⟩
    obtain ⟨b1, off1, sp1, cap1, cs1, hcv1, r1, r2⟩ := nats_rd vD (by omega)
    have hml : m < D.length := by omega
    have r3 := r2 m hml
    cases hcv1
    rw [show (D.length : Int) - 1 - k = (m : Int) by omega] at e9
    rw [hm1] at e8
    have hdr := bval_drop hml
    have hle := bval_drop_le (D := D) (m := m)
    have hnx : D.length - (k + 1) = m := by omega
    have hi0 : (0 : Int) ≤ (m : Int) := by omega
    have hk9 : (m : Int) - 1 = (D.length : Int) - 1 - (k + 1 : Nat) := by omega
    obtain ⟨f1, f2⟩ := hf
    have hzl := dD D[m] (List.getElem_mem _)
    have hfin : bval (D.drop (D.length - (k + 1))) = bval (D.drop m) := by rw [hnx]
    clear hnx
    generalize bval (D.drop m) = vm at *
    generalize bval (D.drop (m + 1)) = vr at *
    generalize bval D = vd at *
    generalize D[m] = z at *
    cases s with
    | true =>
      simp only [sgn, if_true] at *
      have g1 : IntKind.i64.wrap (-(vr : Int) * 65536) = -(vr : Int) * 65536 := IntWalk.i64_in _ (by omega)
      have g2 : IntKind.i64.wrap (z : Int) = (z : Int) := IntWalk.i64_in _ (by omega)
      have g3 : IntKind.i64.wrap (-(vr : Int) * 65536 - z) = -(vr : Int) * 65536 - z := IntWalk.i64_in _ (by omega)
      have g4 : IntKind.i64.wrap ((m : Int) - 1) = (m : Int) - 1 := IntWalk.i64_in _ (by omega)
      have g5 : -(vr : Int) * 65536 - z = -(vm : Int) := by omega
      simp only [uv] at r3
      simp (disch := omega) [-getElem?_pos, if_pos, if_neg, decide_eq_true, decide_eq_false, ir_ref01_Short_l0, e1, e8, e9, c1, r1, r3, hi0, hml, g1, g2, g3, g4]
      exact ⟨hkn, rfl, by simp [e1], by simp; omega, by rw [hfin]; simp [sgn]; omega⟩
    | false =>
      simp only [sgn, Bool.false_eq_true, if_false] at *
      have g1 : IntKind.i64.wrap ((vr : Int) * 65536) = (vr : Int) * 65536 := IntWalk.i64_in _ (by omega)
      have g2 : IntKind.i64.wrap (z : Int) = (z : Int) := IntWalk.i64_in _ (by omega)
      have g3 : IntKind.i64.wrap ((vr : Int) * 65536 + z) = (vr : Int) * 65536 + z := IntWalk.i64_in _ (by omega)
      have g4 : IntKind.i64.wrap ((m : Int) - 1) = (m : Int) - 1 := IntWalk.i64_in _ (by omega)
      simp only [uv] at r3
      simp (disch := omega) [-getElem?_pos, if_pos, if_neg, decide_eq_true, decide_eq_false, ir_ref01_Short_l0, e1, e8, e9, c1, r1, r3, hi0, hml, g1, g2, g3, g4]
      exact ⟨hkn, rfl, by simp [e1], by simp; omega, by rw [hfin]; simp [sgn]; omega⟩
  · obtain rfl : k = D.length := by omega
    have hi0 : ¬ (0 : Int) ≤ (D.length : Int) - 1 - D.length := by omega
    rw [Nat.sub_self, List.drop_zero] at e8
    simp (disch := omega) [-getElem?_pos, if_pos, if_neg, decide_eq_true, decide_eq_false, ir_ref01_Short_l0, e1, e8, e9, hi0]
theorem Short_spec {p : Nat → Prop} {H : AH} {v : Value} {n : Int} (hv : BigV p H v n) : AFn Try.prog F_ref01_Short [v] H fun u H' => u = .tuple #[.int .i64 (shortI n), .bool (fitsI n)] ∧ H' = H := by
  refine AFn.calm (fun H0 hs => ?_) rfl
  have hv0 := hv.same hs
  obtain ⟨dv, rfl, hA0⟩ := id hv0
  obtain ⟨xa, xc, rfl⟩ := hA0.slice
  refine AFn.enter mixed ir_ref01_Short_eq (by simp [ir_ref01_Short]) fun hw => ?_
  simp (disch := omega) [-getElem?_pos, if_pos, if_neg, decide_eq_true, decide_eq_false, ir_ref01_Short, bigC]
  generalize hH1 : AH.alloc H0 _ = H1
  have k1 : Keep [] H0 H1 := by rw [← hH1]; exact .alloc
  have w1 : WF H1 := by rw [← hH1]; exact hw.alloc
  have c1 : H1.cells H0.next = some [.bool (decide (n < 0)), .slice xa (bdig n.natAbs).length xc] := by rw [← hH1]; simp
  clear hH1
  have n1 := cells_lt w1 c1
  refine (Of_spec (n := -9223372036854775808) (by unfold I64; omega)).mono' fun u H2 w2 ⟨hlo, k2⟩ => ?_
  obtain ⟨dl, rfl, hl⟩ := id hlo
  have hlc := hl.cell
  have hlo' : BigV (fun b => H1.next ≤ b ∧ b < H2.next) H2 (.agg #[.bool true, dl]) (-9223372036854775808) := hlo
  have hlt : decide ((-9223372036854775808 : Int) < 0) = true := rfl
  rw [hlt]
  simp (disch := omega) [-getElem?_pos, if_pos, if_neg, decide_eq_true, decide_eq_false, hlc.1, hlc.2, writeA, over, cut2]
  generalize hH3 : AH.alloc H2 _ = H3
  have k3 : Keep [] H2 H3 := by rw [← hH3]; exact .alloc
  have w3 : WF H3 := by rw [← hH3]; exact w2.alloc
  have c3 : H3.cells H2.next = some [.bool true, dl] := by rw [← hH3]; simp
  clear hH3
  refine (Of_spec (n := 9223372036854775807) (by unfold I64; omega)).mono' fun u H4 w4 ⟨hhi, k4⟩ => ?_
  obtain ⟨dh, rfl, hh⟩ := id hhi
  have hhc := hh.cell
  have hhi' : BigV (fun b => H3.next ≤ b ∧ b < H4.next) H4 (.agg #[.bool false, dh]) 9223372036854775807 := hhi
  have hht : decide ((9223372036854775807 : Int) < 0) = false := rfl
  rw [hht]
  have n2 := k2.next
  have n3 := k3.next
  have n4 := k4.next
  have n3' := cells_lt w3 c3
  have c4 := cells_kept w3 k4 c3
  have k14 := k2.trans' (k3.trans' k4)
  have c14 := cells_kept w1 k14 c1
  simp (disch := omega) [-getElem?_pos, if_pos, if_neg, decide_eq_true, decide_eq_false, hhc.1, hhc.2, writeA, over, cut2, bigT, c14, c4]
  generalize hH5 : AH.alloc H4 _ = H5
  have k5 : Keep [] H4 H5 := by rw [← hH5]; exact .alloc
  have w5 : WF H5 := by rw [← hH5]; exact w4.alloc
  have c5 : H5.cells H4.next = some [.bool false, dh] := by rw [← hH5]; simp
  clear hH5
  have c15 := cells_kept w4 k5 c14
  have c35 := cells_kept w4 k5 c4
  have hv5 := (hv0.kept hw k1).kept w1 (k14.trans' k5)
  have hlo5 := hlo'.kept w2 (k3.trans' (k4.trans' k5))
  have hhi5 := hhi'.kept w4 k5
  have hx := Cmp_spec hv5 hlo5
  have hy := Cmp_spec hv5 hhi5
  have hD := (hA0.kept hw k1).kept w1 (k14.trans' k5)
  have hsl := fun (env : Env) h => short_l0 (env := env) (D := bdig n.natAbs) c15 hD.any (by rw [bval_bdig, sgn_abs]; exact h) (bdig_lt _)
  rw [bval_bdig, sgn_abs] at hsl
  have hdl : (bdig n.natAbs).drop (bdig n.natAbs).length = [] := List.drop_length
  unfold ShI at hsl
  simp only [Nat.sub_zero, hdl] at hsl
  have hlm := hA0.max
  generalize (bdig n.natAbs).length = len at *
  refine AFn.pure hx ?_
  simp (disch := omega) [-getElem?_pos, if_pos, if_neg, decide_eq_true, decide_eq_false, c15, c35, c5, cut2, bigT]
  refine AFn.pure hy ?_
  unfold shortI fitsI cmpZ
  by_cases h1 : n < -9223372036854775808
  · rw [if_pos h1, decide_eq_false (by omega)]
    simp (disch := omega) [-getElem?_pos, if_pos, if_neg, decide_eq_true, decide_eq_false, ]
  · by_cases h2 : 9223372036854775807 < n
    · rw [if_neg h1, if_neg (show ¬ n < 9223372036854775807 by omega), if_pos h2, decide_eq_false (by omega)]
      have h3 : ¬ (if (-9223372036854775808 : Int) < n then (1 : Int) else 0) < 0 := by split <;> omega
      simp (disch := omega) [-getElem?_pos, if_pos, if_neg, decide_eq_true, decide_eq_false, h3]
    · rw [if_neg h1, if_neg h2, decide_eq_true (by omega)]
      have h3 : ¬ (if (-9223372036854775808 : Int) < n then (1 : Int) else 0) < 0 := by split <;> omega
      have hwl : IntKind.i64.wrap ((len : Int) - 1) = (len : Int) - 1 := IntWalk.i64_in _ (by omega)
      have h4 : ¬ (0 : Int) < (if n < 9223372036854775807 then (-1 : Int) else 0) := by split <;> omega
      simp (disch := omega) [-getElem?_pos, if_pos, if_neg, decide_eq_true, decide_eq_false, h3, h4, c15, IntWalk.i64_in]
      refine wpC_use (hsl _ ⟨by omega, by omega⟩ ⟨trivial, by simp, by simp [hwl], by simp [bval, sgn]⟩) ?_
      rintro e env2 H6 ⟨rfl, e8⟩ hu
      simp (disch := omega) [-getElem?_pos, if_pos, if_neg, decide_eq_true, decide_eq_false, e8]
end Go.Proofs.Ytllfcbacpoaphaa
