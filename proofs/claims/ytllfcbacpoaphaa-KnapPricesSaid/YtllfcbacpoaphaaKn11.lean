/-
  package knap: the items but for one.
-/
import Derived.Test.YtllfcbacpoaphaaKn10
import Derived.Test.YtllfcbacpoaphaaLs
set_option maxRecDepth 100000
set_option linter.unusedSimpArgs false
set_option linter.unusedVariables false
namespace Go.Proofs.Ytllfcbacpoaphaa
open Go Go.Abs
theorem CloneP_spec {p : Nat → Prop} {H : AH} {v : Value} {L : List (Int × Int)} (h : SlV p H v L) (hl : L.length ≤ 100000) : AFn Try.prog F_slices_Clone_Linst_Item_inst_Item [v] H fun u H' => ∃ S, OwnL (fun _ => False) H' T_inst_Item u L S ∧ Keep [] H H' ∧ ∀ b ∈ S, H.next ≤ b := by
  refine AFn.enter mixed ir_slices_Clone_Linst_Item_inst_Item_eq (by simp [ir_slices_Clone_Linst_Item_inst_Item]) fun hw => ?_
  by_cases hv : ∃ c, v = .slice none L.length c
  · obtain ⟨c, rfl⟩ := hv
    have h0 : L = [] := by
      apply Classical.byContradiction
      intro hne
      obtain ⟨b, off, sp, cap, cs, hcv, _⟩ := pairs_rd h (List.length_pos_iff.2 hne)
      cases hcv
    subst h0
    have hc : c = 0 := by
      obtain ⟨_, cells, ⟨_, h2⟩, _⟩ := h
      rcases h2 with ⟨_, a, c2, e, hac⟩ | ⟨b, off, sp, cap, cs, e, _⟩
      · cases e; exact hac rfl
      · cases e
    subst hc
    simp (disch := omega) [-getElem?_pos, if_pos, if_neg, decide_eq_true, decide_eq_false, ir_slices_Clone_Linst_Item_inst_Item]
    exact ⟨[], .nil, .refl, by simp⟩
  · obtain ⟨a, c, rfl⟩ := h.slice
    cases a with
    | none => exact absurd ⟨c, rfl⟩ hv
    | some a =>
      have h1 := h.kept hw (.alloc (B := .row [] T_inst_Item true))
      have ho : OwnL (fun _ => False) (H.alloc (.row [] T_inst_Item true)) T_inst_Item (.slice (some ⟨H.next, 0, none⟩) 0 0) ([] : List (Int × Int)) [H.next] := ⟨[], .inr ⟨H.next, 0, none, 0, [], rfl, rfl, by simp, by simp, by simp, by simp, .inl rfl⟩, fun i hi => by simp at hi, by simp⟩
      obtain ⟨cells, hc, hv2⟩ : ∃ cells, Vw (fun _ => True) (H.alloc (.row [] T_inst_Item true)) 2 (.slice (some a) L.length c) L.length cells ∧ ∀ i (hi : i < L.length), Ren.R (fun _ => False) (H.alloc (.row [] T_inst_Item true)) (chunk 2 i cells) L[i] := by
        obtain ⟨_, cells, q1, q2⟩ := h1
        exact ⟨cells, q1.sub (fun _ _ => trivial) .refl, q2⟩
      obtain ⟨cc, o1, o2, o3⟩ := ho
      obtain ⟨v', H', S', q1, q2, q3, q4, q5, q6⟩ := o1.append hw.alloc (bytes := 16) (m := L.length) (news := cells) (by rw [hc.1]; rfl) (by simp; omega) (by simp; omega)
      obtain ⟨a', c', rfl⟩ := q2.slice
      have he := hc.elems
      have hcc : cc = [] := by have := o1.len; simpa using this
      subst hcc
      have hsz : Ren.sz (Int × Int) = 2 := rfl
      simp only [List.length_nil, Nat.zero_add, List.nil_append, hsz] at q1 q2
      simp (disch := omega) [-getElem?_pos, if_pos, if_neg, decide_eq_true, decide_eq_false, ir_slices_Clone_Linst_Item_inst_Item, he, q1]
      refine ⟨S', ⟨cells, q2, hv2, by simp⟩, ⟨by have := q4.next; simp at this; omega, fun b hb _ => by rw [q4.blk b (by simp; omega) (by simp; omega), AH.alloc_blk_ne (by omega)]⟩, fun b hb => ?_⟩
      rcases q6 b hb with h | h
      · simp at h; omega
      · simp at h; omega
theorem chunk_cut {n i k : Nat} {cells : List Value} (hc : cells.length = n * 2) (hk : k < n) (hi : i + 1 < n) : chunk 2 i (cells.take (k * 2) ++ cells.drop ((k + 1) * 2)) = if i < k then chunk 2 i cells else chunk 2 (i + 1) cells := by
  unfold chunk
  apply List.ext_getElem?
  intro j
  by_cases hj : j < 2
  · rw [List.getElem?_take_of_lt hj, List.getElem?_drop]
    by_cases hik : i < k
    · rw [if_pos hik, List.getElem?_append_left (by simp; omega), List.getElem?_take_of_lt (by omega), List.getElem?_take_of_lt hj, List.getElem?_drop]
    · rw [if_neg hik, List.getElem?_append_right (by simp; omega), List.getElem?_drop, List.getElem?_take_of_lt hj, List.getElem?_drop]
      congr 1
      simp
      omega
  · have : (if i < k then List.take 2 (List.drop (i * 2) cells) else List.take 2 (List.drop ((i + 1) * 2) cells)).length ≤ 2 := by split <;> simp <;> omega
    rw [List.getElem?_eq_none (by simp; omega), List.getElem?_eq_none (by omega)]
theorem DeleteP_spec {H : AH} {v : Value} {L : List (Int × Int)} {S : List Nat} {k : Nat} (hA : OwnL (fun _ => False) H T_inst_Item v L S) (hk : k < L.length) (hl : L.length ≤ 1000) : AFn Try.prog F_slices_Delete_Linst_Item_inst_Item [v, .int .i64 k, .int .i64 ((k : Int) + 1)] H fun u H' => OwnL (fun _ => False) H' T_inst_Item u (L.eraseIdx k) S ∧ Keep S H H' := by
  refine AFn.enter mixed ir_slices_Delete_Linst_Item_inst_Item_eq (by simp [ir_slices_Delete_Linst_Item_inst_Item]) fun hw => ?_
  obtain ⟨cells, hO, hR, hp⟩ := hA
  obtain ⟨m, hm⟩ : ∃ m, L.length = k + 1 + m := ⟨L.length - (k + 1), by omega⟩
  have hsz : Ren.sz (Int × Int) = 2 := rfl
  have hcl := hO.len
  rw [hsz] at hO hcl
  have hR' : ∀ i (h : i < L.length) (H' : AH), Ren.R (fun _ => False) H' (chunk 2 i cells) L[i] := fun i h H' => hR i h
  rcases hO with ⟨rfl, h0, _, _⟩ | ⟨b, off, sp, cap, cs, rfl, rfl, hb, hlen, hcap, hcs, hsp⟩
  · omega
  rw [hm] at hcap hcs hcl
  have hbc := AH.cells_of hb
  obtain ⟨D, hD⟩ : ∃ D, D = cells.drop ((k + 1) * 2) := ⟨_, rfl⟩
  have hDl : D.length = m * 2 := by rw [hD]; simp; omega
  have hkm : ¬ (k : Int) = k + 1 := by omega
  have ht1 : ((k : Int) + (m : Int)).toNat = k + m := by omega
  have ht2 : ((k : Int) + 1 + (m : Int)).toNat = k + 1 + m := by omega
  have hkm1 : k + 1 + m - (k + m) = 1 := by omega
  have hz1 : zeros [Value.int .i64 0, .int .i64 0] 1 = [.int .i64 0, .int .i64 0] := rfl
  have hcut : ∀ cs1 : List Value, cs1.length = cs.length → (cs1.drop off).take ((k + m) * 2) = cells.take (k * 2) ++ D → ∀ H1 : AH, H1.blk b = some (.row cs1 T_inst_Item true) → Keep [b] H H1 →
      ∃ H2, writeA H1 b (off + (k + m) * 2) [.int .i64 0, .int .i64 0] = some H2 ∧ OwnL (fun _ => False) H2 T_inst_Item (.slice (some ⟨b, off, sp⟩) (k + m) cap) (L.eraseIdx k) [b] ∧ Keep [b] H H2 := by
    intro cs1 h2 h3 H1 h1 h5
    have w := writeA_of (off := off + (k + m) * 2) (news := [Value.int .i64 0, .int .i64 0]) h1 (by simp; omega)
    refine ⟨_, w, ?_, h5.trans' ⟨Nat.le_refl _, fun a _ ha => AH.set_blk_ne (by simpa using ha)⟩⟩
    have hel : (L.eraseIdx k).length = k + m := by rw [List.length_eraseIdx_of_lt hk]; omega
    refine ⟨cells.take (k * 2) ++ D, .inr ⟨b, off, sp, cap, _, by rw [hel], rfl, AH.set_blk_same, by rw [over_length (by simp; omega), hsz]; omega, by omega, ?_, by rw [hsz]; exact hsp⟩, fun i hi => ?_, by simp⟩
    · rw [hel, hsz, ← h3]
      apply List.ext_getElem?
      intro i
      by_cases hi : i < (k + m) * 2
      · rw [List.getElem?_take_of_lt hi, List.getElem?_take_of_lt hi, List.getElem?_drop, List.getElem?_drop, over_get' (by simp; omega), if_neg (by simp; omega)]
      · rw [List.getElem?_eq_none (by simp; omega), List.getElem?_eq_none (by simp; omega)]
    · rw [hsz, hD, chunk_cut (n := L.length) (by rw [hm]; exact hcl) hk (by omega)]
      rw [List.getElem_eraseIdx]
      split
      · exact hR' i (by omega) _
      · exact hR' (i + 1) (by omega) _
  rw [hm]
  by_cases hm0 : m = 0
  · subst hm0
    obtain ⟨H2, w2, r1, r2⟩ := hcut cs rfl (by
      have : D = [] := List.length_eq_zero_iff.1 (by omega)
      rw [this, List.append_nil, hcs, List.take_take]
      congr 1; omega) H hb .refl
    simp only [Nat.add_zero] at w2 r1
    rcases hsp with rfl | rfl
    · by_cases hck : cap = k + 1
      · subst hck
        simp (disch := omega) [-getElem?_pos, if_pos, if_neg, decide_eq_true, decide_eq_false, ir_slices_Delete_Linst_Item_inst_Item, hkm, elemsA, appendA, hz1, w2, IntWalk.i64_in]
        exact ⟨r1, r2⟩
      · simp (disch := omega) [-getElem?_pos, if_pos, if_neg, decide_eq_true, decide_eq_false, ir_slices_Delete_Linst_Item_inst_Item, hck, hkm, elemsA, appendA, hz1, w2, IntWalk.i64_in]
        exact ⟨r1, r2⟩
    · simp (disch := omega) [-getElem?_pos, if_pos, if_neg, decide_eq_true, decide_eq_false, ir_slices_Delete_Linst_Item_inst_Item, hkm, elemsA, appendA, hz1, w2, IntWalk.i64_in]
      exact ⟨r1, r2⟩
  · have hE : ∀ sp' c', elemsA H 2 (.slice (some ⟨b, off + (k + 1) * 2, sp'⟩) m c') = some D := fun sp' c' => by
      simp only [elemsA, hm0, if_false, hbc, Option.bind_some]
      rw [cut_eq (by omega)]
      congr 1
      rw [hD, hcs, List.drop_take, List.drop_drop]
      congr 1; omega
    have hP : appendA H T_inst_Item 2 16 (.slice (some ⟨b, off, sp⟩) k cap) m D = some (.slice (some ⟨b, off, sp⟩) (k + m) cap, H.set b (.row (over cs (off + k * 2) D) T_inst_Item true)) := by
      simp only [appendA, hm0, if_false]
      rw [if_pos (by omega), writeA_of hb (by omega)]; rfl
    have hck : ¬ cap = k + 1 := by omega
    obtain ⟨H2, w2, r1, r2⟩ := hcut (over cs (off + k * 2) D) (over_length (by omega)) (by
      apply List.ext_getElem?
      intro i
      by_cases hi : i < (k + m) * 2
      · rw [List.getElem?_take_of_lt hi, List.getElem?_drop, over_get' (by omega)]
        by_cases hik : i < k * 2
        · rw [if_neg (by omega), List.getElem?_append_left (by simp; omega), List.getElem?_take_of_lt hik, hcs, List.getElem?_take_of_lt (by omega), List.getElem?_drop]
        · rw [if_pos (by omega), List.getElem?_append_right (by simp; omega)]
          congr 1; simp; omega
      · rw [List.getElem?_eq_none (by simp; omega), List.getElem?_eq_none (by simp; omega)]) (H.set b (.row (over cs (off + k * 2) D) T_inst_Item true)) AH.set_blk_same ⟨Nat.le_refl _, fun a _ ha => AH.set_blk_ne (by simpa using ha)⟩
    rcases hsp with rfl | rfl
    · simp (disch := omega) [-getElem?_pos, if_pos, if_neg, decide_eq_true, decide_eq_false, ir_slices_Delete_Linst_Item_inst_Item, hck, hkm, hE, hP, ht1, ht2, hkm1, hz1, w2, IntWalk.i64_in]
      exact ⟨r1, r2⟩
    · simp (disch := omega) [-getElem?_pos, if_pos, if_neg, decide_eq_true, decide_eq_false, ir_slices_Delete_Linst_Item_inst_Item, hkm, hE, hP, ht1, ht2, hkm1, hz1, w2, IntWalk.i64_in]
      exact ⟨r1, r2⟩
theorem others_spec {p : Nat → Prop} {H : AH} {v : Value} {L : List (Int × Int)} {k : Nat} (h : SlV p H v L) (hk : k < L.length) (hl : L.length ≤ 1000) : AFn Try.prog F_knap_others [v, .int .i64 k] H fun u H' => SlV (fun b => H.next ≤ b ∧ b < H'.next) H' u (L.eraseIdx k) ∧ Keep [] H H' := by
  refine AFn.enter mixed ir_knap_others_eq (by simp [ir_knap_others]) fun hw => ?_
  obtain ⟨va, vc, rfl⟩ := h.slice
  simp (disch := omega) [-getElem?_pos, if_pos, if_neg, decide_eq_true, decide_eq_false, ir_knap_others]
  refine (CloneP_spec h (by omega)).mono' fun u H2 w2 ⟨S, hO, k2, hS⟩ => ?_
  obtain ⟨oa, oc, rfl⟩ := hO.slice
  simp (disch := omega) [-getElem?_pos, if_pos, if_neg, decide_eq_true, decide_eq_false, IntWalk.i64_in]
  refine (DeleteP_spec hO hk hl).mono' fun u H3 w3 ⟨hO3, k3⟩ => ?_
  have n3 := k3.next
  have hlt := hO.lt w2
  have hcell := hO3.cell
  simp (disch := omega) [-getElem?_pos, if_pos, if_neg, decide_eq_true, decide_eq_false, hcell]
  have hel := List.length_eraseIdx_le L k
  refine ⟨hO3.slv (fun _ h => h.elim) (fun b hb => ⟨hS b hb, by have := hlt b hb; omega⟩) (by omega), ⟨by have := k2.next; omega, fun b hb _ => by rw [k3.blk b (by have := k2.next; omega) (fun h => by have := hS b h; omega), k2.blk b hb (by simp)]⟩⟩
end Go.Proofs.Ytllfcbacpoaphaa
