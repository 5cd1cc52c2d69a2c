/-
  DeheapPlays: the lists at the start; acts.
-/
import Derived.Test.YtgecnmjohhmfjaaPlays3
import Derived.Test.YtgecnmjohhmfjaaAppAt
import Derived.Test.YtgecnmjohhmfjaaGrow
set_option maxRecDepth 100000
set_option linter.unusedSimpArgs false
set_option linter.unusedVariables false
namespace Go.Proofs.Ytgecnmjohhmfjaa
open Go Go.Abs
theorem DatAt.pushAt {H : AH} {v : Value} {L : List Ent} {S : List Nat} (h : DatAt H v L S) {id : Nat} (hid : id < H.next) (x : Ent) (hl : L.length < 100000) :
    ∃ b' off' sp' c' H', appendAt id H T_key_Entry 4 32 v 1 x.cells = some (.slice (some ⟨b', off', sp'⟩) (L.length + 1) c', H') ∧ DatAt H' (.slice (some ⟨b', off', sp'⟩) (L.length + 1) c') (L ++ [x]) [b'] ∧ H'.next = H.next ∧ (∀ b, b ≠ id → b ∉ S → H'.blk b = H.blk b) ∧ (S = [b'] ∨ b' = id) := by
  obtain ⟨b', off', sp', c', H', q1, q2, q3, q4, q5⟩ := h.1.pushAt hid (bytes := 32) (m := 1) (news := x.cells) (by simp [Ent.cells]) (by omega) (by omega) (by omega)
  refine ⟨b', off', sp', c', H', q1, ⟨?_, by simp; omega⟩, q3, q4, q5⟩
  rw [List.length_append, cellsE_append]
  simpa [cellsE, Ent.cells] using q2
theorem DatAt.blk {H : AH} {v : Value} {L : List Ent} {S : List Nat} (h : DatAt H v L S) : blkOf (some v) = S := by
  rcases h.1 with ⟨rfl, _, _, rfl⟩ | ⟨b, off, sp, cap, cs, rfl, rfl, _⟩ <;> rfl
theorem sort_take {A : List Ent} {k : Nat} (h : k < A.length) : sortL Ent.lt (A.take (k + 1)) = insL Ent.lt (sortL Ent.lt (A.take k)) (getE A k) := by
  unfold sortL
  rw [List.take_succ_eq_append_getElem h, List.foldl_append, getE_eq h]
  rfl
theorem of7_calm {H : AH} (x : Ent) : CalmCall Try.prog (.func (.func F_law07_of) #[] #[]) [x.val] [] H x.val := .pure good_law07_of (fun H1 => of7_spec x) rfl
def cellsD : List (Int × Ent × Int) → List Value
  | [] => []
  | (z, x, n) :: r => .int .i64 z :: .int .i64 x.b :: .int .i64 x.d :: .int .i64 x.s :: .int .i64 x.i :: .int .i64 n :: cellsD r
theorem cellsD_length (l : List (Int × Ent × Int)) : (cellsD l).length = l.length * 6 := by
  induction l with
  | nil => rfl
  | cons a l ih => obtain ⟨z, x, n⟩ := a; simp [cellsD, ih]; omega
theorem cellsD_get (l : List (Int × Ent × Int)) (k : Nat) (h : k < l.length) : ((cellsD l).drop (k * 6)).take 6 = [.int .i64 l[k].1, .int .i64 l[k].2.1.b, .int .i64 l[k].2.1.d, .int .i64 l[k].2.1.s, .int .i64 l[k].2.1.i, .int .i64 l[k].2.2] := by
  induction l generalizing k with
  | nil => simp at h
  | cons a l ih =>
    obtain ⟨z, x, n⟩ := a
    cases k with
    | zero => simp [cellsD]
    | succ k =>
      rw [show (k + 1) * 6 = k * 6 + 6 by omega]
      simpa [cellsD] using ih k (by simpa using h)
theorem cellsD_take (l : List (Int × Ent × Int)) (k : Nat) : (cellsD l).take (k * 6) = cellsD (l.take k) := by
  induction l generalizing k with
  | nil => simp [cellsD]
  | cons a l ih =>
    obtain ⟨z, x, n⟩ := a
    cases k with
    | zero => simp [cellsD]
    | succ k =>
      rw [show (k + 1) * 6 = k * 6 + 6 by omega]
      simp [cellsD, ih]
theorem dacts_at {p : Nat → Prop} {H : AH} {v : Value} {l : List (Int × Ent × Int)} (h : Vw p H 6 v l.length (cellsD l)) (h0 : 0 < l.length) : ∃ b off sp cap cs, v = .slice (some ⟨b, off, sp⟩) l.length cap ∧ H.cells b = some cs ∧ ∀ k, k < l.length → ∃ (z : Int) (x : Ent) (n : Int), cut cs (off + k * 6) 6 = some [.int .i64 z, .int .i64 x.b, .int .i64 x.d, .int .i64 x.s, .int .i64 x.i, .int .i64 n] := by
  obtain ⟨b, off, sp, cap, cs, h1, h2, h3, h4, h5, h6, h7, _⟩ := h.at h0
  refine ⟨b, off, sp, cap, cs, h1, h4, fun k hk => ⟨l[k].1, l[k].2.1, l[k].2.2, ?_⟩⟩
  obtain ⟨q1, q2, q3, q4⟩ := cut_spec h7
  rw [cut_eq (by omega), ← cellsD_get l k hk, q2, List.drop_take, List.drop_drop, List.take_take, Nat.min_eq_left (by omega)]
def DpI (H0 : AH) (lv : Value) (L : List Ent) (k : Nat) (env : Env) (H' : AH) : Prop :=
  env 23 = some lv ∧ env 24 = some (.int .i64 L.length) ∧ env 25 = some (.int .i64 k) ∧ WF H' ∧ Keep [] H0 H' ∧ ∃ av mv S, ∃ P : Nat → Prop, env 8 = some av ∧ env 9 = some mv ∧ DatAt H' av (L.take k) S ∧ (∀ b ∈ S, H0.next ≤ b) ∧ EntsV P H' mv (sortL Ent.lt (L.take k)) ∧ ∀ b, P b → b ∉ S ∧ b < H'.next
def DpQ (H0 : AH) (L : List Ent) (e : AExit) (env : Env) (H' : AH) : Prop :=
  e = .exit 0 ∧ WF H' ∧ Keep [] H0 H' ∧ ∃ av mv S, ∃ P : Nat → Prop, env 8 = some av ∧ env 9 = some mv ∧ DatAt H' av L S ∧ (∀ b ∈ S, H0.next ≤ b) ∧ EntsV P H' mv (sortL Ent.lt L) ∧ ∀ b, P b → b ∉ S ∧ b < H'.next
theorem dplays_l1 {H0 : AH} {lv : Value} {L : List Ent} (hw : WF H0) (hL : EntsV (fun _ => True) H0 lv L) (hl : L.length ≤ 20) {env : Env} (h : DpI H0 lv L 0 env H0) : wpC Try.prog 99 (.loop ir_law07_DeheapPlays_l1) (DpQ H0 L) env H0 := by
  refine loop_upto L.length (DpI H0 lv L) (Q := DpQ H0 L) h ?_
  rintro k env H' hk ⟨e23, e24, e25, w', k', av, mv, S, P, e8, e9, hA, hS, hM, hP⟩
  by_cases hkn : k < L.length
  · obtain ⟨b0, off, sp, cap, cs, rfl, q1, q2⟩ := ents_at (hL.1.kept hw k') (by omega)
    have q3 := q2 k hkn
    have hst := sort_take hkn
    have hsn : L.take (k + 1) = L.take k ++ [getE L k] := by rw [List.take_succ_eq_append_getElem hkn, getE_eq hkn]
    have hlt : (L.take k).length = k := by rw [List.length_take]; omega
    have hsl := sort_length (L.take k)
    have hAb := hA.blk
    have hAn := hA.1.lt w'
    generalize getE L k = x at *
    have hcx : cut [Value.int .i64 x.b, .int .i64 x.d, .int .i64 x.s, .int .i64 x.i] 0 4 = some [Value.int .i64 x.b, .int .i64 x.d, .int .i64 x.s, .int .i64 x.i] := rfl
    have hbn := blk0 H' T_secateurlaw07_Entry
    simp only [Ent.cells] at q3
    simp (disch := omega) [-getElem?_pos, if_pos, if_neg, decide_eq_true, decide_eq_false, ir_law07_DeheapPlays_l1, e8, e9, e23, e24, e25, q1, q3, hkn, writeA_row hbn, over, hcx, IntWalk.i64_in]
    refine callM_use (of7_calm x) ?_
    have hS1 : S = [] ∨ ∃ b, S = [b] ∧ b < H'.next := by
      rcases hA.1 with ⟨_, _, _, h⟩ | ⟨b, _, _, _, _, _, h, _⟩
      · exact .inl h
      · exact .inr ⟨b, h, hAn b (by rw [h]; simp)⟩
    simp (disch := omega) [-getElem?_pos, if_pos, if_neg, decide_eq_true, decide_eq_false, hcx, elemsA, e8, e9, AH.cells_set_ne]
    have hn := k'.next
    generalize hHb : AH.set (AH.room _ _) _ _ = Hb
    have wb : WF Hb := by
      rw [← hHb]
      refine WF.set (WF.room (WF.alloc w')) ?_
      simp
    have kb : Keep [] H' Hb := by rw [← hHb]; exact .new_set (by omega) (.trans' .alloc .room)
    have nb : Hb.next = H'.next + 11 := by rw [← hHb]; simp
    obtain ⟨b1, off1, sp1, c1, Hc, p1, hA', n1, f1, i1⟩ := (hA.kept w' kb).pushAt (id := H'.next + 1 + 4) (by omega) x (by omega)
    have wc : WF Hc := by
      intro b B hb
      by_cases h1 : b = H'.next + 1 + 4
      · omega
      · by_cases h2 : b ∈ S
        · have := hAn b h2; omega
        · rw [f1 b h1 h2] at hb
          have := wb b B hb; omega
    have hMc : EntsV P Hc mv (sortL Ent.lt (L.take k)) := (hM.kept w' kb).over fun b hb => by
      unfold AH.cells; rw [f1 b (by have := (hP b hb).2; omega) (hP b hb).1]
    simp only [Ent.cells] at p1
    rw [hlt] at p1 hA'
    have kc : Keep [] H0 Hc := ⟨by omega, fun b hb _ => by
      rw [f1 b (by omega) (fun h => by have := hS b h; omega), kb.blk b (by omega) (by simp), k'.blk b hb (by simp)]⟩
    have b1n : b1 < Hc.next ∧ H0.next ≤ b1 := by
      rcases i1 with h | h
      · have h1 := hAn b1 (by rw [h]; simp)
        have h2 := hS b1 (by rw [h]; simp)
        exact ⟨by omega, h2⟩
      · omega
    simp (disch := omega) [-getElem?_pos, if_pos, if_neg, decide_eq_true, decide_eq_false, p1, hAb, e23, e24, e25]
    refine ⟨⟨offs_iff.2 fun a ha => by have := hAn a ha; simp; omega, offs_iff.2 fun a _ => by simp⟩, ?_⟩
    refine callM_new [] [] good_ref05_Push rfl (by unfold mind; simp) wc (by simp) (by simp) (Q := fun u H2 => EntsV (fun b => Hc.next ≤ b ∧ b < H2.next) H2 u (insL Ent.lt (sortL Ent.lt (L.take k)) x))
      (fun Hx hxw hxn hxb => (Push5_spec (hMc.over fun b _ => by unfold AH.cells; rw [hxb b (by simp)]) x (by omega)).mono' fun u H2 w2 ⟨r, kk⟩ => ⟨⟨hxn ▸ Vw.below r.1 w2, r.2⟩, kk⟩) fun u H2 G wG kG nG gb q => ?_
    have r1 : EntsV (fun b => Hc.next ≤ b ∧ b < G.next) G u (insL Ent.lt (sortL Ent.lt (L.take k)) x) := (q.over fun b hb => by unfold AH.cells; rw [gb b hb.1]).mono fun b hb => by omega
    simp (disch := omega) [-getElem?_pos, if_pos, if_neg, decide_eq_true, decide_eq_false, e23, e24, e25, IntWalk.i64_in]
    rw [← hsn] at hA'
    have nG' := kG.next
    exact ⟨hkn, by simp [e23], by simp [e24], by simp, wG, kc.trans' kG, .slice (some ⟨b1, off1, sp1⟩) (k + 1) c1, u, [b1], (fun b => Hc.next ≤ b ∧ b < G.next), by simp, by simp, ⟨hA'.1.kept wc kG (by simp), hA'.2⟩, fun b hb => by simp at hb; omega, by rw [hst]; exact r1, fun b hb => ⟨by simp; omega, hb.2⟩⟩
  · obtain rfl : k = L.length := by omega
    simp (disch := omega) [-getElem?_pos, if_pos, if_neg, decide_eq_true, decide_eq_false, ir_law07_DeheapPlays_l1, e24, e25]
    rw [List.take_length] at hA hM
    exact ⟨rfl, w', k', av, mv, S, P, e8, e9, hA, hS, hM, hP⟩
end Go.Proofs.Ytgecnmjohhmfjaa
