/-
  Law 6 (3): the document's list in order: Push, Pop.
-/
import Derived.Test.YtgecnmjohhmfjaaLaw06b
set_option maxRecDepth 100000
set_option linter.unusedSimpArgs false
set_option linter.unusedVariables false
namespace Go.Proofs.Ytgecnmjohhmfjaa
open Go Go.Abs
def posL : List Ent → Ent → Nat
  | [], _ => 0
  | y :: l, x => if x.lt y then 0 else posL l x + 1
theorem posL_le : ∀ (l : List Ent) (x : Ent), posL l x ≤ l.length
  | [], _ => Nat.le_refl _
  | y :: l, x => by
    unfold posL
    have := posL_le l x
    split
    · omega
    · simp; omega
theorem posL_lt : ∀ (l : List Ent) (x : Ent) (k : Nat), k < posL l x → x.lt (getE l k) = false ∧ getE (insL Ent.lt l x) k = getE l k
  | [], _, k, h => by simp [posL] at h
  | y :: l, x, k, h => by
    unfold posL at h
    unfold insL
    cases hx : x.lt y with
    | true => rw [hx] at h; simp at h
    | false =>
      rw [hx] at h
      cases k with
      | zero => exact ⟨hx, rfl⟩
      | succ k => exact posL_lt l x k (by simpa using h)
theorem posL_at : ∀ (l : List Ent) (x : Ent), (posL l x < l.length → x.lt (getE l (posL l x)) = true) ∧ getE (insL Ent.lt l x) (posL l x) = x
  | [], x => ⟨fun h => by simp at h, rfl⟩
  | y :: l, x => by
    unfold posL insL
    obtain ⟨h1, h2⟩ := posL_at l x
    cases hx : x.lt y with
    | true => exact ⟨fun _ => hx, rfl⟩
    | false => exact ⟨fun h => h1 (by simpa using h), h2⟩
theorem posL_ge : ∀ (l : List Ent) (x : Ent) (k : Nat), posL l x ≤ k → getE (insL Ent.lt l x) (k + 1) = getE l k
  | [], x, k, _ => by unfold insL getE; simp
  | y :: l, x, k, h => by
    unfold posL at h
    unfold insL
    cases hx : x.lt y with
    | true => rfl
    | false =>
      rw [hx] at h
      cases k with
      | zero => simp at h
      | succ k => exact posL_ge l x k (by simpa using h)
def cntP (l : List Ent) (x : Ent) (k : Nat) : Nat := if posL l x < k then k + 1 else k
def Push5I (H : AH) (sv : Value) (b : Nat) (L : List Ent) (x : Ent) (k : Nat) (env : Env) (H' : AH) : Prop :=
  env 0 = some sv ∧ env 3 = some (.pointer (some ⟨b, 0, none⟩)) ∧ env 6 = some (.bool (decide (posL L x < k))) ∧ env 7 = some (.int .i64 k) ∧ ∃ out, env 5 = some out ∧ Acc H T_secateurref05_Entry 4 (cellsE (insL Ent.lt L x)) (cntP L x k) out H'
def Push5Q (H : AH) (b : Nat) (L : List Ent) (x : Ent) (e : AExit) (env : Env) (H' : AH) : Prop := e = .exit 0 ∧ env 3 = some (.pointer (some ⟨b, 0, none⟩)) ∧ env 6 = some (.bool (decide (posL L x < L.length))) ∧ ∃ out, env 5 = some out ∧ Acc H T_secateurref05_Entry 4 (cellsE (insL Ent.lt L x)) (cntP L x L.length) out H'
theorem Push5_spec {p : Nat → Prop} {H : AH} {v : Value} {L : List Ent} (h : EntsV p H v L) (x : Ent) (hl : L.length < 1000000) : AFn Try.prog F_ref05_Push [v, x.val] H (EntsN H (insL Ent.lt L x)) := by
  refine AFn.enter mixed ir_ref05_Push_eq (by simp [ir_ref05_Push]) fun hw => ?_
  obtain ⟨a, c, rfl⟩ := h.1.slice
  have hI := insL_length (lt := Ent.lt) L x
  have hk1 : Keep [] H (H.alloc (.row [.int .i64 x.b, .int .i64 x.d, .int .i64 x.s, .int .i64 x.i] T_secateurref05_Entry true)) := .alloc
  have hw1 : WF (H.alloc (.row [.int .i64 x.b, .int .i64 x.d, .int .i64 x.s, .int .i64 x.i] T_secateurref05_Entry true)) := hw.alloc
  have h1 := h.kept hw hk1
  have hb1 : (H.alloc (.row [.int .i64 x.b, .int .i64 x.d, .int .i64 x.s, .int .i64 x.i] T_secateurref05_Entry true)).blk H.next = some (.row [.int .i64 x.b, .int .i64 x.d, .int .i64 x.s, .int .i64 x.i] T_secateurref05_Entry true) := by simp
  have hn1 : (H.alloc (.row [.int .i64 x.b, .int .i64 x.d, .int .i64 x.s, .int .i64 x.i] T_secateurref05_Entry true)).next = H.next + 1 := by simp
  have hcx : ∀ y : Ent, cut [Value.int .i64 y.b, .int .i64 y.d, .int .i64 y.s, .int .i64 y.i] 0 4 = some [Value.int .i64 y.b, .int .i64 y.d, .int .i64 y.s, .int .i64 y.i] := fun _ => rfl
  simp (disch := omega) [-getElem?_pos, if_pos, if_neg, decide_eq_true, decide_eq_false, ir_ref05_Push]
  generalize H.alloc (.row [.int .i64 x.b, .int .i64 x.d, .int .i64 x.s, .int .i64 x.i] T_secateurref05_Entry true) = H1 at *
  have hput : ∀ {k : Nat} {out : Value} {H' : AH}, Acc H1 T_secateurref05_Entry 4 (cellsE (insL Ent.lt L x)) k out H' → k < L.length + 1 → ∃ a1 c1 a2 c2 H5, out = .slice a1 k c1 ∧ appendA (H'.alloc (.row (getE (insL Ent.lt L x) k).cells T_secateurref05_Entry true)) T_secateurref05_Entry 4 32 out 1 (getE (insL Ent.lt L x) k).cells = some (.slice a2 (k + 1) c2, H5) ∧ Acc H1 T_secateurref05_Entry 4 (cellsE (insL Ent.lt L x)) (k + 1) (.slice a2 (k + 1) c2) H5 ∧ Keep [] H1 H5 ∧ WF H5 :=
    fun {k out H'} ho hk => ho.push (bytes := 32) _ (drop_ent (by omega)) rfl (by omega) (by omega)
  have hat : ∀ H', Keep [] H1 H' → H'.cells H.next = some [.int .i64 x.b, .int .i64 x.d, .int .i64 x.s, .int .i64 x.i] := fun H' hk => cells_kept hw1 hk (AH.cells_of hb1)
  have hple := posL_le L x
  refine wpC_use (loop_upto L.length (Push5I H1 (.slice a L.length c) H.next L x) (Q := Push5Q H1 H.next L x) ⟨by simp, by simp, by simp, by simp, .slice none 0 0, by simp, .start hw1⟩ ?_) fun e env2 H2 ⟨he, e3, e6, out, e5, ho⟩ _ => ?_
  · rintro k env H' hk ⟨e0, e3, e6, e7, out, e5, ho⟩
    by_cases hkn : k < L.length
    · obtain ⟨b0, off, sp, cap, cs, hsl, q0, q2⟩ := ents_at h1.1 (by omega)
      cases hsl
      have q1 := cells_kept hw1 ho.2.1 q0
      have q3 := q2 k hkn
      have q4 := hat H' ho.2.1
      have hc3 : k < posL L x ∨ k = posL L x ∨ posL L x < k := by omega
      rcases hc3 with hc | hc | hc
      · obtain ⟨g1, g2⟩ := posL_lt L x k hc
        have hz : cntP L x k = k := by unfold cntP; rw [if_neg (by omega)]
        have hz' : cntP L x (k + 1) = k + 1 := by unfold cntP; rw [if_neg (by omega)]
        rw [hz] at ho
        obtain ⟨a1, c1, a2, c2, H5, rfl, p1, p2, p3, p4⟩ := hput ho (by omega)
        rw [g2] at p1
        generalize getE L k = y at *
        have hd : decide (posL L x < k) = false := by simp; omega
        have hd' : decide (posL L x < k + 1) = false := by simp; omega
        rw [hd] at e6
        simp only [Ent.cells] at q3 p1
        simp (disch := omega) [-getElem?_pos, if_pos, if_neg, decide_eq_true, decide_eq_false, ir_ref05_Push_l0, e0, e3, e5, e6, e7, q1, q3, q4, hcx, show (k:Int) < L.length by omega]
        refine AFnD.of (Less5_spec x y) ?_
        simp (disch := omega) [-getElem?_pos, if_pos, if_neg, decide_eq_true, decide_eq_false, g1, e0, e3, e5, e6, e7, q1, q3, q4, hcx, elemsA, p1, IntWalk.i64_in]
        exact ⟨hkn, by simp [e0], by simp [e3], by rw [hd']; simp [e6], by simp, _, rfl, by rw [hz']; exact p2⟩
      · have g1 := (posL_at L x).1 (by omega)
        have g2 := (posL_at L x).2
        have g3 := posL_ge L x k (by omega)
        rw [← hc] at g1 g2
        have hz : cntP L x k = k := by unfold cntP; rw [if_neg (by omega)]
        have hz' : cntP L x (k + 1) = k + 2 := by unfold cntP; rw [if_pos (by omega)]
        rw [hz] at ho
        obtain ⟨a1, c1, a2, c2, H5, rfl, p1, p2, p3, p4⟩ := hput ho (by omega)
        obtain ⟨a3, c3, a4, c4, H6, hsl2, r1, r2, r3, r4⟩ := hput p2 (by omega)
        cases hsl2
        have q5 := cells_kept hw1 p3 q0
        rw [g2] at p1
        rw [g3] at r1
        generalize getE L k = y at *
        have hd : decide (posL L x < k) = false := by simp; omega
        have hd' : decide (posL L x < k + 1) = true := by simp; omega
        rw [hd] at e6
        simp only [Ent.cells] at q3 p1 r1
        simp (disch := omega) [-getElem?_pos, if_pos, if_neg, decide_eq_true, decide_eq_false, ir_ref05_Push_l0, e0, e3, e5, e6, e7, q1, q3, q4, hcx, show (k:Int) < L.length by omega]
        refine AFnD.of (Less5_spec x y) ?_
        simp (disch := omega) [-getElem?_pos, if_pos, if_neg, decide_eq_true, decide_eq_false, g1, e0, e3, e5, e6, e7, q1, q3, q4, q5, hcx, elemsA, p1, r1, IntWalk.i64_in]
        exact ⟨hkn, by simp [e0], by simp [e3], by rw [hd']; simp, by simp, _, rfl, by rw [hz']; exact r2⟩
      · have g3 := posL_ge L x k (by omega)
        have hz : cntP L x k = k + 1 := by unfold cntP; rw [if_pos (by omega)]
        have hz' : cntP L x (k + 1) = k + 2 := by unfold cntP; rw [if_pos (by omega)]
        rw [hz] at ho
        obtain ⟨a1, c1, a2, c2, H5, rfl, p1, p2, p3, p4⟩ := hput ho (by omega)
        rw [g3] at p1
        generalize getE L k = y at *
        have hd : decide (posL L x < k) = true := by simp; omega
        have hd' : decide (posL L x < k + 1) = true := by simp; omega
        rw [hd] at e6
        simp only [Ent.cells] at q3 p1
        simp (disch := omega) [-getElem?_pos, if_pos, if_neg, decide_eq_true, decide_eq_false, ir_ref05_Push_l0, e0, e3, e5, e6, e7, q1, q3, q4, hcx, show (k:Int) < L.length by omega]
        refine AFnD.of (Less5_spec x y) ?_
        cases hx : x.lt y with
        | true =>
          simp (disch := omega) [-getElem?_pos, if_pos, if_neg, decide_eq_true, decide_eq_false, e0, e3, e5, e6, e7, q1, q3, q4, hcx, elemsA, p1, IntWalk.i64_in]
          exact ⟨hkn, by simp [e0], by simp [e3], by rw [hd']; simp [e6], by simp, _, rfl, by rw [hz']; exact p2⟩
        | false =>
          simp (disch := omega) [-getElem?_pos, if_pos, if_neg, decide_eq_true, decide_eq_false, e0, e3, e5, e6, e7, q1, q3, q4, hcx, elemsA, p1, IntWalk.i64_in]
          exact ⟨hkn, by simp [e0], by simp [e3], by rw [hd']; simp [e6], by simp, _, rfl, by rw [hz']; exact p2⟩
    · obtain rfl : k = L.length := by omega
      simp (disch := omega) [-getElem?_pos, if_pos, if_neg, decide_eq_true, decide_eq_false, ir_ref05_Push_l0, e0, e7]
      exact ⟨rfl, e3, e6, out, e5, ho⟩
  · subst he
    have fin : ∀ {out : Value} {H2 : AH}, Acc H1 T_secateurref05_Entry 4 (cellsE (insL Ent.lt L x)) (L.length + 1) out H2 → EntsN H (insL Ent.lt L x) out H2 := fun {out H2} ho => by
      rw [← hI] at ho
      obtain ⟨f1, f2⟩ := acc_ents ho (by omega)
      exact ⟨f1.mono fun b hb => by omega, hk1.trans' f2⟩
    have q4 := hat H2 ho.2.1
    by_cases hp : posL L x < L.length
    · have hz : cntP L x L.length = L.length + 1 := by unfold cntP; rw [if_pos hp]
      rw [hz] at ho
      rw [decide_eq_true hp] at e6
      simp (disch := omega) [-getElem?_pos, if_pos, if_neg, decide_eq_true, decide_eq_false, e3, e5, e6]
      exact fin ho
    · have hz : cntP L x L.length = L.length := by unfold cntP; rw [if_neg hp]
      have g2 := (posL_at L x).2
      rw [show posL L x = L.length by omega] at g2
      rw [hz] at ho
      rw [decide_eq_false hp] at e6
      obtain ⟨a1, c1, a2, c2, H5, rfl, p1, p2, p3, p4⟩ := hput ho (by omega)
      rw [g2] at p1
      simp only [Ent.cells] at p1
      simp (disch := omega) [-getElem?_pos, if_pos, if_neg, decide_eq_true, decide_eq_false, e3, e5, e6, q4, hcx, elemsA, p1]
      exact fin p2
end Go.Proofs.Ytgecnmjohhmfjaa
