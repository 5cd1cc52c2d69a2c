/-
  The document's state (1): full, Done, Moves.
-/
import Derived.Test.YtlcddhgfkkjhkaaDoorState6
import Derived.Test.YtlcddhgfkkjhkaaDoorOwnAll
import Derived.Test.YtlcddhgfkkjhkaaDoorRepF
import Derived.Test.YtlcddhgfkkjhkaaDoorIr14r
set_option maxRecDepth 100000
set_option linter.unusedSimpArgs false
set_option linter.unusedVariables false
namespace Go.Abs
open Go
theorem bools_rd {p : Nat → Prop} {H : AH} {v : Value} {l : List Bool} (h : SlV p H v l) (h0 : 0 < l.length) : ∃ b off sp cap cs, v = .slice (some ⟨b, off, sp⟩) l.length cap ∧ H.cells b = some cs ∧ ∀ k (hk : k < l.length), cs[off + k]? = some (.bool l[k]) := by
  obtain ⟨b, off, sp, cap, cs, h1, h2, h3, h4, h5, h6⟩ := h.at h0
  refine ⟨b, off, sp, cap, cs, h1, h4, fun k hk => ?_⟩
  obtain ⟨c, q1, q3⟩ := h6 k hk
  have q3' : c = [.bool l[k]] := q3
  subst q3'
  obtain ⟨_, _, _, q4⟩ := cut_spec q1
  have := q4 0 (by simp)
  simp at this
  exact this
end Go.Abs
namespace Go.Proofs.YtlcddhgfkkjhkaaDoor
open Go Go.Abs
def RsV (p : Nat → Prop) (H : AH) (v : Value) (s : StD) : Prop :=
  ∃ pv bv, v = .agg #[pv, .int .i64 s.cost, .int .i64 s.left, .int .i64 s.pos, bv] ∧ SlV p H pv s.path ∧ SlV p H bv s.used
theorem cut5' {a b c d e : Value} : cut [a, b, c, d, e] 0 5 = some [a, b, c, d, e] := by simp [cut]
section
variable {p q : Nat → Prop} {H H' : AH} {v : Value} {s : StD}
theorem RsV.up (h : RsV p H v s) (hpq : ∀ b, p b → q b) (hs : Sub p H H') : RsV q H' v s := by
  obtain ⟨pv, uv, h1, h2, h3⟩ := h
  exact ⟨pv, uv, h1, h2.up hpq hs, h3.up hpq hs⟩
theorem RsV.kept (h : RsV p H v s) (hw : WF H) (hk : Keep [] H H') : RsV p H' v s := h.up (fun _ h => h) (.kept hw hk)
theorem RsV.same (h : RsV p H v s) (hs : SameC H H') : RsV p H' v s := h.up (fun _ h => h) (.same hs)
theorem RsV.any (h : RsV p H v s) : RsV (fun _ => True) H v s := h.up (fun _ _ => trivial) .refl
theorem rsv_zero : RsV p H (.agg #[.slice none 0 0, .int .i64 0, .int .i64 0, .int .i64 0, .slice none 0 0]) zeroSt := ⟨_, _, rfl, .nil, .nil⟩
end
def FuI (H : AH) (v : Value) (B : List Bool) (k : Nat) (env : Env) (H' : AH) : Prop := H' = H ∧ env 0 = some v ∧ env 3 = some (.int .i64 k) ∧ ∀ j, j < k → B.getD j false = true
def FuQ (H : AH) (B : List Bool) (e : AExit) (env : Env) (H' : AH) : Prop :=
  H' = H ∧ ((e = .ret ∧ env 2 = some (.bool false) ∧ ¬ B.count true = B.length) ∨ (e = .exit 0 ∧ B.count true = B.length))
theorem all_count' {B : List Bool} : B.count true = B.length ↔ ∀ j, j < B.length → B.getD j false = true := by
  rw [List.count_eq_length]
  constructor
  · intro h j hj
    rw [List.getD_eq_getElem?_getD, List.getElem?_eq_getElem hj]
    exact (h _ (List.getElem_mem hj)).symm
  · intro h b hb
    obtain ⟨j, hj, rfl⟩ := List.getElem_of_mem hb
    have := h j hj
    rw [List.getD_eq_getElem?_getD, List.getElem?_eq_getElem hj] at this
    exact this.symm
theorem full_spec {p : Nat → Prop} {H : AH} {v : Value} {B : List Bool} (hB : SlV p H v B) : AFn Tryd.prog F_ref14_full [v] H fun u H' => u = .bool (decide (B.count true = B.length)) ∧ H' = H := by
  obtain ⟨va, vc, rfl⟩ := hB.slice
  have hm := hB.max
  refine AFn.enter mixed ir_ref14_full_eq (by simp [ir_ref14_full]) fun hw => ?_
  generalize hd : decide (B.count true = B.length) = dd
  simp (disch := omega) [-getElem?_pos, if_pos, if_neg, decide_eq_true, decide_eq_false, ir_ref14_full]
  refine wpC_use (loop_upto B.length (FuI H (.slice va B.length vc) B) (Q := FuQ H B) ⟨rfl, by simp, by simp, by omega⟩ ?_) ?_
  · rintro k env H' hk ⟨rfl, e0, e3, hj⟩
    by_cases hkn : k < B.length
    · obtain ⟨b0, off, sp, cap, cs, hcv, q1, q2⟩ := bools_rd hB (by omega)
      have q3 := q2 k hkn
      cases hcv
      have hgk : B.getD k false = B[k] := by rw [List.getD_eq_getElem?_getD, List.getElem?_eq_getElem hkn]; rfl
      cases hz : B[k] with
      | true =>
        rw [hz] at q3 hgk
        simp (disch := omega) [-getElem?_pos, if_pos, if_neg, decide_eq_true, decide_eq_false, ir_ref14_full_l0, e0, e3, q1, q3, hkn, IntWalk.i64_in]
        refine ⟨rfl, by simp [e0], by simp, fun j hjk => ?_⟩
        by_cases h : j = k
        · subst h; exact hgk
        · exact hj j (by omega)
      | false =>
        rw [hz] at q3 hgk
        simp (disch := omega) [-getElem?_pos, if_pos, if_neg, decide_eq_true, decide_eq_false, ir_ref14_full_l0, e0, e3, q1, q3, hkn, IntWalk.i64_in]
        refine ⟨rfl, .inl ⟨rfl, by simp, fun hc => ?_⟩⟩
        have := all_count'.1 hc k hkn
        rw [hgk] at this; cases this
    · obtain rfl : k = B.length := by omega
      simp (disch := omega) [-getElem?_pos, if_pos, if_neg, decide_eq_true, decide_eq_false, ir_ref14_full_l0, e0, e3]
      exact ⟨rfl, .inr ⟨rfl, all_count'.2 hj⟩⟩
  · rintro e env2 H2 ⟨rfl, ⟨rfl, e2, hc⟩ | ⟨rfl, hc⟩⟩ hu
    · have : dd = false := by rw [← hd]; simp [hc]
      rw [this]
      simp (disch := omega) [-getElem?_pos, if_pos, if_neg, decide_eq_true, decide_eq_false, e2]
    · have : dd = true := by rw [← hd]; simp [hc]
      rw [this]
      simp (disch := omega) [-getElem?_pos, if_pos, if_neg, decide_eq_true, decide_eq_false, ]
theorem RDone_spec {H : AH} {v w : Value} {s : StD} {x : InstD} (hs : RsV (fun _ => True) H w s) (hx : InstV (fun _ => True) H v x) : AFn Tryd.prog F_ref14_Done [v, w] H fun u H' => u = .bool (x.done s) ∧ H' = H := by
  refine AFn.calm (fun H0 hsm => ?_) rfl
  have hs0 := hs.same hsm
  have hx0 := hx.same hsm
  obtain ⟨pv, bv, rfl, s1, s2⟩ := id hs0
  obtain ⟨iv, cv, sv, rfl, i1, i2, i3, h1, h2, h3⟩ := id hx0
  have hc3 := h3.cell
  have hcb := s2.cell
  obtain ⟨pa, pc, rfl⟩ := s1.slice
  obtain ⟨ia, ic, rfl⟩ := h1.slice
  obtain ⟨ca, cc, rfl⟩ := h2.slice
  refine AFn.enter mixed ir_ref14_Done_eq (by simp [ir_ref14_Done]) fun hw => ?_
  simp (disch := omega) [-getElem?_pos, if_pos, if_neg, decide_eq_true, decide_eq_false, ir_ref14_Done, hc3.1, hcb.1]
  generalize hH1 : AH.alloc (AH.alloc H0 _) _ = H1
  have k1 : Keep [] H0 H1 := by rw [← hH1]; exact .new_alloc .alloc
  have c1 : H1.cells (H0.next + 1) = some [.slice pa s.path.length pc, .int .i64 s.cost, .int .i64 s.left, .int .i64 s.pos, bv] := by rw [← hH1]; simp
  have c2 : H1.cells H0.next = some [.int .i64 x.kind, .int .i64 x.cap, .slice ia x.items.length ic, .slice ca x.cost.length cc, .int .i64 x.size, sv] := by rw [← hH1]; simp
  clear hH1
  have hf := full_spec (s2.kept hw k1)
  unfold InstD.done
  by_cases k0 : x.kind = 0
  · have k0T := eq_true k0
    simp (disch := omega) [-getElem?_pos, if_pos, if_neg, decide_eq_true, decide_eq_false, k0T, c1, c2]
    omega
  · have k0F := eq_false k0
    by_cases k1 : x.kind = 1
    · have k1T := eq_true k1
      simp (disch := omega) [-getElem?_pos, if_pos, if_neg, decide_eq_true, decide_eq_false, k0F, k1T, c1, c2]
      omega
    · have k1F := eq_false k1
      generalize decide (s.used.count true = s.used.length) = dd at *
      simp (disch := omega) [-getElem?_pos, if_pos, if_neg, decide_eq_true, decide_eq_false, k0F, k1F, c1, c2]
      refine AFn.pure hf ?_
      simp (disch := omega) [-getElem?_pos, if_pos, if_neg, decide_eq_true, decide_eq_false, ]
def freeK (B : List Bool) (k : Nat) : List Int := ((List.range k).filter fun i => !B.getD i false).map fun i => ((i : Nat) : Int)
theorem freeK_succ {B : List Bool} {k : Nat} : freeK B (k + 1) = if B.getD k false = true then freeK B k else freeK B k ++ [(k : Int)] := by
  unfold freeK
  rw [List.range_succ, List.filter_append, List.map_append]
  cases h : B.getD k false with
  | true =>
    have : [k].filter (fun i => !B.getD i false) = [] := by rw [List.filter_cons, if_neg (by rw [h]; simp)]; rfl
    rw [this]; simp
  | false =>
    have : [k].filter (fun i => !B.getD i false) = [k] := by rw [List.filter_cons, if_pos (by rw [h]; rfl)]; rfl
    rw [this]; simp
theorem freeK_len {B : List Bool} {k : Nat} : (freeK B k).length ≤ k := by
  unfold freeK
  rw [List.length_map]
  exact Nat.le_trans (List.length_filter_le _ _) (by simp)
def RmI (H : AH) (q : Nat) (B : List Bool) (k : Nat) (env : Env) (H' : AH) : Prop :=
  env 3 = some (.pointer (some ⟨q, 0, none⟩)) ∧ env 8 = some (.int .i64 k) ∧ WF H' ∧ ∃ ov S, env 7 = some ov ∧ OwnL (fun _ => False) H' T_int ov (freeK B k) S ∧ Keep [] H H' ∧ ∀ b ∈ S, H.next ≤ b
def RmQ (H : AH) (B : List Bool) (e : AExit) (env : Env) (H' : AH) : Prop := e = .exit 0 ∧ ∃ ov, env 7 = some ov ∧ NewL H ov (freeL B) H'
theorem rmoves_l0 {p : Nat → Prop} {H H1 : AH} {q : Nat} {a b c d bv : Value} {B : List Bool} (hw : WF H) (hq : H.cells q = some [a, b, c, d, bv]) (hB : SlV p H bv B) (hl : B.length ≤ 5000) {env : Env} (h : RmI H q B 0 env H1) : wpC Tryd.prog 57 (.loop ir_ref14_Moves_l0) (RmQ H B) env H1 := by
  refine loop_upto B.length (RmI H q B) (Q := RmQ H B) h ?_
  rintro k env H' hk ⟨e3, e8, w', ov, S, e7, hA, hK, hS⟩
  have cq := cells_kept hw hK hq
  by_cases hkn : k < B.length
  · obtain ⟨b0, off, sp, cap, cs, hcv, q1, q2⟩ := bools_rd (hB.kept hw hK) (by omega)
    have q3 := q2 k hkn
    subst hcv
    have hgk : B.getD k false = B[k] := by rw [List.getD_eq_getElem?_getD, List.getElem?_eq_getElem hkn]; rfl
    have hsu := freeK_succ (B := B) (k := k)
    have hol := freeK_len (B := B) (k := k)
    rw [hgk] at hsu
    cases hz : B[k] with
    | true =>
      rw [hz, if_pos rfl] at hsu
      rw [hz] at q3
      simp (disch := omega) [-getElem?_pos, if_pos, if_neg, decide_eq_true, decide_eq_false, ir_ref14_Moves_l0, e3, e7, e8, cq, q1, q3, hkn, IntWalk.i64_in]
      exact ⟨by simp [e3], by simp, w', ov, S, by simp [e7], by rw [hsu]; exact hA, hK, hS⟩
    | false =>
      rw [hz, if_neg (by simp)] at hsu
      rw [hz] at q3
      obtain ⟨oa, oc, rfl⟩ := hA.slice
      obtain ⟨va, vc, H2, S', p1, w2, hA', k2, hS', _⟩ := push_i64 w' hA hK hS (a := (k : Int)) (by unfold I64; omega) (by omega)
      have pE : elemsA (H'.alloc (.row [.int .i64 (k : Int)] T_int true)) 1 (.slice (some ⟨H'.next, 0, none⟩) 1 1) = some [.int .i64 (k : Int)] := elems_one rfl
      rw [← hsu] at hA'
      simp (disch := omega) [-getElem?_pos, if_pos, if_neg, decide_eq_true, decide_eq_false, ir_ref14_Moves_l0, e3, e7, e8, cq, q1, q3, hkn, pE, p1, IntWalk.i64_in]
      exact ⟨by simp [e3], by simp, w2, _, S', by simp, hA', k2, hS'⟩
  · obtain rfl : k = B.length := by omega
    obtain ⟨va, vc, rfl⟩ := hB.slice
    simp (disch := omega) [-getElem?_pos, if_pos, if_neg, decide_eq_true, decide_eq_false, ir_ref14_Moves_l0, e3, e8, cq]
    exact ⟨rfl, ov, e7, S, hA, hK, hS⟩
theorem RMoves_spec {H : AH} {v w : Value} {s : StD} {x : InstD} (hs : RsV (fun _ => True) H w s) (hx : InstV (fun _ => True) H v x) (hok : x.Ok) (hso : StOk x s) : AFn Tryd.prog F_ref14_Moves [v, w] H fun u H' => NewL H u (x.moves s) H' := by
  obtain ⟨pv, bv, rfl, s1, s2⟩ := id hs
  obtain ⟨iv, cv, sv, rfl, i1, i2, i3, h1, h2, h3⟩ := id hx
  have hcc := h2.cell
  have hcb := s2.cell
  obtain ⟨pa, pc, rfl⟩ := s1.slice
  obtain ⟨ia, ic, rfl⟩ := h1.slice
  obtain ⟨sa, sc, rfl⟩ := h3.slice
  have hpm := s1.max
  have him := h1.max
  have hsm := h3.max
  have hus := hso.used
  have h4 := slots_le hok
  refine AFn.enter mixed ir_ref14_Moves_eq (by simp [ir_ref14_Moves]) fun hw => ?_
  simp (disch := omega) [-getElem?_pos, if_pos, if_neg, decide_eq_true, decide_eq_false, ir_ref14_Moves, hcc.1, hcb.1, cut5', cut6']
  generalize hH1 : AH.alloc (AH.alloc H _) _ = H1
  have k1 : Keep [] H H1 := by rw [← hH1]; exact .new_alloc .alloc
  have w1 : WF H1 := by rw [← hH1]; exact hw.alloc.alloc
  have n1 := k1.next
  have c1 : H1.cells (H.next + 1) = some [.slice pa s.path.length pc, .int .i64 s.cost, .int .i64 s.left, .int .i64 s.pos, bv] := by rw [← hH1]; simp
  have c2 : H1.cells H.next = some [.int .i64 x.kind, .int .i64 x.cap, .slice ia x.items.length ic, cv, .int .i64 x.size, .slice sa x.sets.length sc] := by rw [← hH1]; simp
  clear hH1
  have nil' : ∀ H', H' = H1 → NewL H (.slice none 0 0) [] H' := fun H' h => by subst h; exact ⟨[], .nil, k1, by simp⟩
  have i01 : ∀ y ∈ [(1 : Int), 0], I64 y := by intro y hy; simp at hy; unfold I64; omega
  have i0 : ∀ y ∈ [(0 : Int)], I64 y := by intro y hy; simp at hy; unfold I64; omega
  have two : NewL H (.slice (some ⟨H1.next, 0, none⟩) 2 2) [1, 0] (H1.alloc (.row [.int .i64 1, .int .i64 0] T_int true)) := new_ints rfl w1 i01 k1
  have one' : NewL H (.slice (some ⟨H1.next, 0, none⟩) 1 1) [0] (H1.alloc (.row [.int .i64 0] T_int true)) := new_ints rfl w1 i0 k1
  refine AFn.pure (RDone_spec ((hs.kept hw k1)) ((hx.kept hw k1))) ?_
  unfold InstD.moves
  cases hdn : x.done s with
  | true =>
    simp (disch := omega) [-getElem?_pos, if_pos, if_neg, decide_eq_true, decide_eq_false, ]
    exact nil' _ rfl
  | false =>
    by_cases k0 : x.kind = 0
    · have hlt : s.path.length < x.items.length := by
        have := (hso.items k0).1
        unfold InstD.done at hdn
        rw [if_pos k0] at hdn
        have : ¬ s.path.length = x.items.length := by simpa using hdn
        omega
      obtain ⟨b1, off1, sp1, cap1, cs1, hcv1, r1, r2⟩ := pairs_rd (h1.kept hw k1) (by omega)
      obtain ⟨r3, r4, r5, r6, r7⟩ := r2 s.path.length hlt
      cases hcv1
      have e2 : x.items[s.path.length].2 = x.wtN s.path.length := by unfold InstD.wtN; rw [List.getD_eq_getElem?_getD, List.getElem?_eq_getElem hlt]; rfl
      rw [e2] at r5
      have k0T := eq_true k0
      generalize x.wtN s.path.length = wt at *
      by_cases hgt : s.left < wt
      · simp (disch := omega) [-getElem?_pos, if_pos, if_neg, decide_eq_true, decide_eq_false, c1, c2, k0T, r1, r5, hlt, hgt]
        exact one'
      · simp (disch := omega) [-getElem?_pos, if_pos, if_neg, decide_eq_true, decide_eq_false, c1, c2, k0T, r1, r5, hlt, hgt]
        exact two
    · have k0F := eq_false k0
      by_cases k3 : x.kind = 3
      · have k3T := eq_true k3
        by_cases hge : x.sets.length ≤ s.path.length
        · simp (disch := omega) [-getElem?_pos, if_pos, if_neg, decide_eq_true, decide_eq_false, c1, c2, k0F, k3T, hge]
          exact nil' _ rfl
        · simp (disch := omega) [-getElem?_pos, if_pos, if_neg, decide_eq_true, decide_eq_false, c1, c2, k0F, k3T, hge]
          exact two
      · have k3F := eq_false k3
        simp (disch := omega) [-getElem?_pos, if_pos, if_neg, decide_eq_true, decide_eq_false, c1, c2, k0F, k3F]
        refine wpC_use (rmoves_l0 (p := fun _ => True) (H := H1) (B := s.used) w1 c1 (s2.kept hw k1) (by omega) ⟨by simp, by simp, w1, .slice none 0 0, [], by simp, by simpa [freeK] using OwnL.nil, .refl, by simp⟩) ?_
        rintro e env2 H2 ⟨rfl, ov, e7, S, hA, k2, hS⟩ hu
        have hcA := hA.cell
        simp (disch := omega) [-getElem?_pos, if_pos, if_neg, decide_eq_true, decide_eq_false, e7, hcA]
        exact ⟨S, hA, k1.trans' k2, fun b hb => by have := hS b hb; omega⟩
end Go.Proofs.YtlcddhgfkkjhkaaDoor
