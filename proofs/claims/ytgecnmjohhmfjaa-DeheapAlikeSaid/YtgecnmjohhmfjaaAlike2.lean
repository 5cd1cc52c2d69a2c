/-
  DeheapAlike (2): an act done to both.
-/
import Derived.Test.YtgecnmjohhmfjaaAlike1
set_option maxRecDepth 100000
set_option linter.unusedSimpArgs false
set_option linter.unusedVariables false
namespace Go.Proofs.Ytgecnmjohhmfjaa
open Go Go.Abs
theorem endE_is (M : List Ent) (last : Bool) : (endE M last).isSome = decide (0 < M.length) := by
  unfold endE
  cases M with
  | nil => cases last <;> rfl
  | cons y M => cases last <;> simp
theorem tell_of (M : List Ent) (last : Bool) : ∃ y : Ent, tellV (endE M last) = .tuple #[y.val, .bool (decide (0 < M.length))] := ⟨_, by rw [← endE_is M last]; exact tellV_eq _⟩
theorem restE_srt {M : List Ent} (h : Srt Ent.lt M) (last : Bool) : Srt Ent.lt (restE M last) := by
  unfold restE Srt at *
  split
  · exact h.sublist (List.dropLast_sublist M)
  · exact h.sublist (List.tail_sublist M)
theorem drop_uniq {M : List Ent} {bd : Int} {j j' : Nat} (hj : j ≤ M.length) (hj' : j' ≤ M.length) (h1 : ∀ p, j ≤ p → p < M.length → bd ≤ (getE M p).b) (h2 : j = 0 ∨ (getE M (j - 1)).b < bd) (h1' : ∀ p, j' ≤ p → p < M.length → bd ≤ (getE M p).b) (h2' : j' = 0 ∨ (getE M (j' - 1)).b < bd) : j = j' := by
  by_cases h : j < j'
  · have := h1 (j' - 1) (by omega) (by omega)
    omega
  · by_cases h3 : j' < j
    · have := h1' (j - 1) (by omega) (by omega)
      omega
    · omega
theorem ent_one {p : Nat → Prop} {H : AH} {b : Nat} {y : Ent} (h : H.cells b = some y.cells) (hp : p b) : EntsV p H (.slice (some ⟨b, 0, none⟩) 1 1) [y] :=
  ⟨⟨rfl, .inr ⟨b, 0, none, 1, y.cells, rfl, Nat.le_refl _, .inl rfl, h, rfl, hp⟩⟩, by simp⟩
def ABQ (H0 : AH) (d1 d2 : Nat) (e : AExit) (env : Env) (H' : AH) : Prop :=
  e = .normal ∧ ∃ M S T X v w, env 13 = some v ∧ env 14 = some w ∧ EntsV (fun _ => True) H' v X ∧ EntsV (fun _ => True) H' w X ∧ AlS H0 H' d1 d2 M S T
theorem alike_b4 {H0 H : AH} {d1 d2 r : Nat} {M : List Ent} {S T : List Nat} (hS : AlS H0 H d1 d2 M S T) {e : Nat} (he : e < 4) {z n : Int} {x : Ent} (c12 : H.cells r = some [.int .i64 z, .int .i64 x.b, .int .i64 x.d, .int .i64 x.s, .int .i64 x.i, .int .i64 n]) (hr : r < H.next) (hrS : r ∉ S)
    {env : Env} (e5 : env 5 = some (pV d1)) (e7 : env 7 = some (pV d2)) (e12 : env 12 = some (.pointer (some ⟨r, 0, none⟩))) (e13 : env 13 = some (.slice none 0 0)) (e14 : env 14 = some (.slice none 0 0)) (e82 : env 82 = some (.int .i64 e)) : wpC Try.prog 182 ir_law07_DeheapAlike_b4 (ABQ H0 d1 d2) env H := by
  have hcx : cut [Value.int .i64 z, .int .i64 x.b, .int .i64 x.d, .int .i64 x.s, .int .i64 x.i, .int .i64 n] 1 4 = some [.int .i64 x.b, .int .i64 x.d, .int .i64 x.s, .int .i64 x.i] := rfl
  have w0 := hS.1
  have hsrt : Srt Ent.lt M := hS.2.2.2.2.2.2.2
  have he4 : e = 0 ∨ e = 1 ∨ e = 2 ∨ e = 3 := by omega
  rcases he4 with rfl | rfl | rfl | rfl
  · have hS1 := hS.kept (H' := H.room 10) w0.room .room
    obtain ⟨N, hN⟩ : ∃ N : Nat, (N : Int) = min (max n 0) M.length := ⟨(min (max n 0) (M.length : Int)).toNat, by omega⟩
    simp (disch := omega) [-getElem?_pos, if_pos, if_neg, decide_eq_true, decide_eq_false, ir_law07_DeheapAlike_b4, e5, e7, e12, e82, c12]
    have hn1 : (H.room 10).next = H.next + 10 := rfl
    generalize H.room 10 = H1 at *
    refine callM_write [r] good_deheap_Heap_Evict rfl (by unfold mind; simp) ((DEvict_spec hS1.2.2.2.2.1 n N hN).mono fun u H2 hq w2 hle => ?_)
    obtain ⟨hDa, k2, T1, hO1, hT1⟩ := hq
    refine ⟨fun b hb => by simp at hb; subst hb; exact k2.blk _ (by omega) hrS, ?_⟩
    simp (disch := omega) [-getElem?_pos, if_pos, if_neg, decide_eq_true, decide_eq_false, e5, e7]
    refine callM_write [] good_deheap_Heap_Evict rfl (by unfold mind; simp) ((DEvict_spec (hS1.second k2) n N hN).mono fun u2 H3 hq w3 hle3 => ⟨by simp, ?_⟩)
    obtain ⟨hDb, k3, T2, hO2, hT2⟩ := hq
    simp (disch := omega) [-getElem?_pos, if_pos, if_neg, decide_eq_true, decide_eq_false, e5, e7]
    have hO3 : DatAt H3 u (M.reverse.take N) T1 := ⟨hO1.1.kept w2 k3 fun b hb hs => by have := hT1 b hb; have := hS1.2.2.2.2.2.1.lt hS1.1 b hs; omega, hO1.2⟩
    exact ⟨rfl, _, S, T, _, u, u2, by simp, by simp, hO3.ents, hO2.ents, hS1.both w2 k2 (fun b hb => .inl hb) hDa w3 k3 (fun b hb => .inl hb) hDb (hsrt.sublist (List.take_sublist _ M))⟩
  · have hS1 := hS.kept (H' := H.room 12) w0.room .room
    simp (disch := omega) [-getElem?_pos, if_pos, if_neg, decide_eq_true, decide_eq_false, ir_law07_DeheapAlike_b4, e5, e7, e12, e82, c12]
    have hn1 : (H.room 12).next = H.next + 12 := rfl
    generalize H.room 12 = H1 at *
    refine callM_write [r] good_deheap_Heap_Drop rfl (by unfold mind; simp) ((DDrop_spec hS1.2.2.2.2.1 x.b).mono fun u H2 hq w2 hle => ?_)
    obtain ⟨j, hj, hDa, k2, ⟨T1, hO1, hT1⟩, hall, hjj⟩ := hq
    refine ⟨fun b hb => by simp at hb; subst hb; exact k2.blk _ (by omega) hrS, ?_⟩
    simp (disch := omega) [-getElem?_pos, if_pos, if_neg, decide_eq_true, decide_eq_false, e5, e7]
    refine callM_write [] good_deheap_Heap_Drop rfl (by unfold mind; simp) ((DDrop_spec (hS1.second k2) x.b).mono fun u2 H3 hq w3 hle3 => ⟨by simp, ?_⟩)
    obtain ⟨j', hj', hDb, k3, ⟨T2, hO2, hT2⟩, hall', hjj'⟩ := hq
    obtain rfl := drop_uniq hj hj' hall hjj hall' hjj'
    simp (disch := omega) [-getElem?_pos, if_pos, if_neg, decide_eq_true, decide_eq_false, e5, e7]
    have hO3 : DatAt H3 u (M.drop j) T1 := ⟨hO1.1.kept w2 k3 fun b hb hs => by have := hT1 b hb; have := hS1.2.2.2.2.2.1.lt hS1.1 b hs; omega, hO1.2⟩
    exact ⟨rfl, _, S, T, _, u, u2, by simp, by simp, hO3.ents, hO2.ents, hS1.both w2 k2 (fun b hb => .inl hb) hDa w3 k3 (fun b hb => .inl hb) hDb (hsrt.sublist (List.take_sublist _ M))⟩
  · have hS1 := hS.kept (H' := H.room 11) w0.room .room
    simp (disch := omega) [-getElem?_pos, if_pos, if_neg, decide_eq_true, decide_eq_false, ir_law07_DeheapAlike_b4, e5, e7, e12, e82, c12, hcx]
    have hn1 : (H.room 11).next = H.next + 11 := rfl
    generalize H.room 11 = H1 at *
    refine callM_use (of7_calm x) ?_
    simp (disch := omega) [-getElem?_pos, if_pos, if_neg, decide_eq_true, decide_eq_false, e5, e7]
    refine callM_write [r] good_deheap_Heap_Push rfl (by unfold mind; simp) ((DPush_spec hS1.2.2.2.2.1 ⟨by omega, by omega⟩ x).mono fun u H2 hq w2 hle => ?_)
    rcases hq with ⟨hf, rfl, S', hDa, k2, hS'⟩ | ⟨hf, rfl, S', hDa, k2, hS'⟩
    · refine ⟨fun b hb => by simp at hb; subst hb; exact k2.blk _ (by omega) hrS, ?_⟩
      simp (disch := omega) [-getElem?_pos, if_pos, if_neg, decide_eq_true, decide_eq_false, e5, e7]
      refine callM_use (of7_calm x) ?_
      simp (disch := omega) [-getElem?_pos, if_pos, if_neg, decide_eq_true, decide_eq_false, e5, e7]
      refine callM_write [] good_deheap_Heap_Push rfl (by unfold mind; simp) ((DPush_spec (hS1.second k2) ⟨by omega, by omega⟩ x).mono fun u H3 hq w3 hle3 => ⟨by simp, ?_⟩)
      rcases hq with ⟨hf3, rfl, T', hDb, k3, hT'⟩ | ⟨hf3, rfl, T', hDb, k3, hT'⟩
      · simp (disch := omega) [-getElem?_pos, if_pos, if_neg, decide_eq_true, decide_eq_false, e5, e7]
        exact ⟨rfl, M, S', T', [], .slice none 0 0, .slice none 0 0, by simp [e13], by simp [e14], .nil, .nil, hS1.both w2 k2 hS' hDa w3 k3 hT' hDb hsrt⟩
      · exact absurd hf hf3
    · refine ⟨fun b hb => by simp at hb; subst hb; exact k2.blk _ (by omega) hrS, ?_⟩
      simp (disch := omega) [-getElem?_pos, if_pos, if_neg, decide_eq_true, decide_eq_false, e5, e7]
      refine callM_use (of7_calm x) ?_
      simp (disch := omega) [-getElem?_pos, if_pos, if_neg, decide_eq_true, decide_eq_false, e5, e7]
      refine callM_write [] good_deheap_Heap_Push rfl (by unfold mind; simp) ((DPush_spec (hS1.second k2) ⟨by omega, by omega⟩ x).mono fun u H3 hq w3 hle3 => ⟨by simp, ?_⟩)
      rcases hq with ⟨hf3, rfl, T', hDb, k3, hT'⟩ | ⟨hf3, rfl, T', hDb, k3, hT'⟩
      · exact absurd hf3 hf
      · simp (disch := omega) [-getElem?_pos, if_pos, if_neg, decide_eq_true, decide_eq_false, e5, e7]
        exact ⟨rfl, insL Ent.lt M x, S', T', [], .slice none 0 0, .slice none 0 0, by simp [e13], by simp [e14], .nil, .nil, hS1.both w2 k2 hS' hDa w3 k3 hT' hDb (insL_srt isOrd hsrt x)⟩
  · obtain ⟨y, hyv⟩ := tell_of M false
    simp (disch := omega) [-getElem?_pos, if_pos, if_neg, decide_eq_true, decide_eq_false, ir_law07_DeheapAlike_b4, e5, e7, e12, e82]
    refine (DPopMin_spec hS.2.2.2.2.1).mono' fun u H2 w2 ⟨hu, hDa, k2⟩ => ?_
    subst hu
    rw [hyv]
    have hb2 := blk0 H2 T_key_Entry
    simp (disch := omega) [-getElem?_pos, if_pos, if_neg, decide_eq_true, decide_eq_false, e5, e7, writeA_row hb2, over]
    have k23 : Keep [] H2 (H2.alloc (.row [.int .i64 y.b, .int .i64 y.d, .int .i64 y.s, .int .i64 y.i] T_key_Entry true)) := .alloc
    have w3 : WF (H2.alloc (.row [.int .i64 y.b, .int .i64 y.d, .int .i64 y.s, .int .i64 y.i] T_key_Entry true)) := w2.alloc
    have c3 : (H2.alloc (.row [.int .i64 y.b, .int .i64 y.d, .int .i64 y.s, .int .i64 y.i] T_key_Entry true)).cells H2.next = some [.int .i64 y.b, .int .i64 y.d, .int .i64 y.s, .int .i64 y.i] := AH.cells_alloc_new
    have n3 : (H2.alloc (.row [.int .i64 y.b, .int .i64 y.d, .int .i64 y.s, .int .i64 y.i] T_key_Entry true)).next = H2.next + 1 := rfl
    generalize H2.alloc (.row [.int .i64 y.b, .int .i64 y.d, .int .i64 y.s, .int .i64 y.i] T_key_Entry true) = H3 at *
    have k03 : Keep S H H3 := k2.trans' (k23.mono fun b hb => by simp at hb)
    refine (DPopMin_spec (hS.second k03)).mono' fun u H4 w4 ⟨hu, hDb, k4⟩ => ?_
    subst hu
    rw [hyv]
    have hlt := hS.2.2.2.2.2.1.lt w0
    have c4 : H4.cells H2.next = some [.int .i64 y.b, .int .i64 y.d, .int .i64 y.s, .int .i64 y.i] := by
      unfold AH.cells at c3 ⊢
      rw [k4.blk _ (by omega) fun h => by have := hlt _ h; have := k2.next; omega]; exact c3
    have hS4 := hS.both w3 k03 (fun b hb => .inl hb) (hDa.kept w2 k23) w4 k4 (fun b hb => .inl hb) hDb (restE_srt hsrt false)
    have hb4 := blk0 H4 T_key_Entry
    have hn24 : H2.next < H4.next := by have := k4.next; omega
    have hne : H2.next ≠ H4.next := by omega
    simp (disch := omega) [-getElem?_pos, if_pos, if_neg, decide_eq_true, decide_eq_false, e5, e7, writeA_row hb4, over, c4, cutE, hne]
    generalize hH5 : AH.set (AH.set _ _ _) _ _ = H5
    have k45 : Keep [] H4 H5 := by rw [← hH5]; exact .new_set (by omega) (.new_set (by omega) (.trans' .alloc .room))
    have w5 : WF H5 := by
      rw [← hH5]
      refine WF.set (WF.set (WF.room (WF.alloc w4)) ?_) ?_ <;> simp
    have c1 : H5.cells (H4.next + 1 + 1) = some y.cells := by
      rw [← hH5, AH.cells_set_ne (show H4.next + 1 + 1 ≠ H4.next + 1 + 3 by omega)]; exact AH.cells_set_same
    have c2 : H5.cells (H4.next + 1 + 3) = some y.cells := by
      rw [← hH5]; exact AH.cells_set_same
    exact ⟨rfl, restE M false, S, T, [y], .slice (some ⟨H4.next + 1 + 1, 0, none⟩) 1 1, .slice (some ⟨H4.next + 1 + 3, 0, none⟩) 1 1, by simp, by simp, ent_one c1 trivial, ent_one c2 trivial, hS4.kept w5 k45⟩
end Go.Proofs.Ytgecnmjohhmfjaa
