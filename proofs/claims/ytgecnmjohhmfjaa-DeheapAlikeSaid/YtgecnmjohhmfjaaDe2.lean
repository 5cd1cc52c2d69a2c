/-
  Contracts of package deheap (2): Len, Room, Push, Min, Max, PopMin, PopMax, Kind, Sorted.
-/
import Derived.Test.YtgecnmjohhmfjaaDe
set_option maxRecDepth 100000
set_option linter.unusedSimpArgs false
set_option linter.unusedVariables false
namespace Go.Proofs.Ytgecnmjohhmfjaa
open Go Go.Abs
@[simp] theorem guardK_un2 {P : Program} {dr : Bool} {K : Env → AH → Prop} {rest : List AOper} {env : Env} {H : AH} {d : Option Nat} {op : IOp} {b : Bool} : guardK P dr K rest env H d op b (some undef) = wpO P dr K rest (put env d undef) H := by simp [guardK, undef]
abbrev pV (d : Nat) : Value := .pointer (some ⟨d, 0, none⟩)
section
variable {H : AH} {d : Nat} {k : Bool} {most : Int} {M : List Ent} {S : List Nat}
theorem DLen_spec (h : DeH H d k most M S) : AFn Try.prog F_deheap_Heap_Len [pV d] H fun u H' => u = .int .i64 M.length ∧ H' = H := by
  obtain ⟨q, T, rfl, h1, h2, h3, h4⟩ := h
  refine AFn.enter mixed ir_deheap_Heap_Len_eq (by simp [ir_deheap_Heap_Len]) fun hw => ?_
  have hc := AH.cells_of h1
  simp (disch := omega) [-getElem?_pos, if_pos, if_neg, decide_eq_true, decide_eq_false, ir_deheap_Heap_Len, hc]
  refine (inLen_spec h2).mono fun u H' ⟨hu, hH⟩ => ?_
  subst hu hH
  simp (disch := omega) [-getElem?_pos, if_pos, if_neg, decide_eq_true, decide_eq_false, ]
theorem DRoom_spec (h : DeH H d k most M S) (hm : 0 ≤ most ∧ most ≤ 1048576) : AFn Try.prog F_deheap_Heap_Room [pV d] H fun u H' => u = .int .i64 (most - M.length) ∧ H' = H := by
  have hl := h.len
  obtain ⟨q, T, rfl, h1, h2, h3, h4⟩ := h
  refine AFn.enter mixed ir_deheap_Heap_Room_eq (by simp [ir_deheap_Heap_Room]) fun hw => ?_
  have hc := AH.cells_of h1
  simp (disch := omega) [-getElem?_pos, if_pos, if_neg, decide_eq_true, decide_eq_false, ir_deheap_Heap_Room, hc]
  refine (inLen_spec h2).mono fun u H' ⟨hu, hH⟩ => ?_
  subst hu hH
  refine ⟨.refl, ?_⟩
  simp (disch := omega) [-getElem?_pos, if_pos, if_neg, decide_eq_true, decide_eq_false, IntWalk.i64_in]
theorem DKind_spec (h : DeH H d k most M S) : AFn Try.prog F_deheap_Heap_Kind [pV d] H fun u H' => u = .int .i64 (kI k) ∧ H' = H := by
  obtain ⟨q, T, rfl, h1, h2, h3, h4⟩ := h
  refine AFn.enter mixed ir_deheap_Heap_Kind_eq (by simp [ir_deheap_Heap_Kind]) fun hw => ?_
  have hc := AH.cells_of h1
  cases k with
  | true => simp (disch := omega) [-getElem?_pos, if_pos, if_neg, decide_eq_true, decide_eq_false, ir_deheap_Heap_Kind, hc, pT, kI]
  | false => simp (disch := omega) [-getElem?_pos, if_pos, if_neg, decide_eq_true, decide_eq_false, ir_deheap_Heap_Kind, hc, pT, kI, T_p_iheap_Heap, T_p_mmheap_Heap]
def DeN (H : AH) (d : Nat) (k : Bool) (most : Int) (M : List Ent) (S : List Nat) (H' : AH) : Prop := ∃ S', DeH H' d k most M S' ∧ Keep S H H' ∧ ∀ b ∈ S', b ∈ S ∨ H.next ≤ b
theorem DPush_spec (h : DeH H d k most M S) (hm : 0 ≤ most ∧ most ≤ 1000) (x : Ent) : AFn Try.prog F_deheap_Heap_Push [pV d, x.val] H fun u H' =>
    (M.length = most ∧ u = .int .i64 10 ∧ DeN H d k most M S H') ∨ ((M.length : Int) ≠ most ∧ u = .int .i64 0 ∧ DeN H d k most (insL Ent.lt M x) S H') := by
  have hl := h.len
  refine AFn.enter mixed ir_deheap_Heap_Push_eq (by simp [ir_deheap_Heap_Push]) fun hw => ?_
  have hk1 : Keep [] H (H.alloc (.row x.cells T_key_Entry true)) := .alloc
  have h' := h.kept hw hk1
  have hlt := h.lt hw
  have hx : (H.alloc (.row x.cells T_key_Entry true)).cells H.next = some x.cells := AH.cells_alloc_new
  have w1 := WF.alloc hw (B := .row x.cells T_key_Entry true)
  have hn1 : (H.alloc (.row x.cells T_key_Entry true)).next = H.next + 1 := rfl
  simp only [Ent.cells] at hx hk1 w1 h' hn1
  simp (disch := omega) [-getElem?_pos, if_pos, if_neg, decide_eq_true, decide_eq_false, ir_deheap_Heap_Push]
  generalize H.alloc (.row [.int .i64 x.b, .int .i64 x.d, .int .i64 x.s, .int .i64 x.i] T_key_Entry true) = H1 at *
  refine AFn.pure (DRoom_spec h' (by omega)) ?_
  by_cases hf : (M.length : Int) = most
  · simp (disch := omega) [-getElem?_pos, if_pos, if_neg, decide_eq_true, decide_eq_false, hf]
    exact ⟨S, h', ⟨hk1.next, fun b hb _ => hk1.blk b hb (by simp)⟩, fun b hb => .inl hb⟩
  · have hle := h.le
    obtain ⟨q, T, rfl, h1, h2, h3, h4⟩ := h'
    have hc := AH.cells_of h1
    have hcx : cut [Value.int .i64 x.b, .int .i64 x.d, .int .i64 x.s, .int .i64 x.i] 0 4 = some [Value.int .i64 x.b, .int .i64 x.d, .int .i64 x.s, .int .i64 x.i] := rfl
    have hsub : ¬ most - (M.length : Int) = 0 := by omega
    simp (disch := omega) [-getElem?_pos, if_pos, if_neg, decide_eq_true, decide_eq_false, hsub, hc, hx, hcx]
    refine (inPush_spec h2 x (by omega)).mono fun u H2 ⟨T', a1, a2, a3⟩ => ?_
    have hd : d < H1.next := by have := hlt d (by simp); omega
    simp (disch := omega) [-getElem?_pos, if_pos, if_neg, decide_eq_true, decide_eq_false, hf]
    refine ⟨d :: q :: T', ⟨q, T', rfl, by rw [a2.blk d hd h3, h1], a1, ?_, by rw [insL_length]; omega⟩, ?_, ?_⟩
    · intro hm
      rcases List.mem_cons.1 hm with rfl | hm
      · exact h3 (by simp)
      · rcases a3 d hm with h | h
        · exact h3 (by simp [h])
        · omega
    · exact (hk1.mono fun b hb => by simp at hb).trans' (a2.mono fun b hb _ => List.mem_cons_of_mem _ hb)
    · intro b hb
      rcases List.mem_cons.1 hb with rfl | hb
      · exact .inl (by simp)
      · rcases List.mem_cons.1 hb with rfl | hb
        · exact .inl (by simp)
        · rcases a3 b hb with h | h
          · exact .inl (by simp [h])
          · exact .inr (by omega)
theorem tellV_eq (o : Option Ent) : tellV o = .tuple #[(o.getD zeroE).val, .bool o.isSome] := by cases o <;> rfl
theorem told_spec (h : DeH H d k most M S) {name : String} {o : Option Ent} {M' : List Ent} (hM : M'.length ≤ M.length) (hi : ∀ q T H1, WF H1 → InH H1 k q M T → AInv Try.prog (ifc k q) (methodsOf Try.prog name) [] H1 fun u H' => u = tellV o ∧ InH H' k q M' T ∧ Keep (q :: T) H1 H') :
    AFn Try.prog F_deheap_Heap_told [pV d, .func (.methodOf T_deheap_ends name) #[] #[]] H fun u H' => u = tellV o ∧ DeH H' d k most M' S ∧ Keep S H H' := by
  obtain ⟨q, T, rfl, h1, h2, h3, h4⟩ := h
  have hiface : isIfaceB Try.prog T_deheap_ends = true := by kernel_rfl
  refine AFn.enter mixed ir_deheap_Heap_told_eq (by simp [ir_deheap_Heap_told]) fun hw => ?_
  have hlt := h2.lt hw
  have hdn := hw.lt h1
  have hk1 : Keep [] H (H.alloc (.row [.int .i64 0, .int .i64 0, .int .i64 0, .int .i64 0] T_key_Entry true)) := .alloc
  have hd1 : (H.alloc (.row [.int .i64 0, .int .i64 0, .int .i64 0, .int .i64 0] T_key_Entry true)).blk d = _ := (hk1.blk d hdn (by simp)).trans h1
  have hn1 : (H.alloc (.row [.int .i64 0, .int .i64 0, .int .i64 0, .int .i64 0] T_key_Entry true)).blk H.next = some (.row [.int .i64 0, .int .i64 0, .int .i64 0, .int .i64 0] T_key_Entry true) := AH.alloc_blk_new
  have h2' := h2.keep (H' := H.alloc (.row [.int .i64 0, .int .i64 0, .int .i64 0, .int .i64 0] T_key_Entry true)) fun b hb => hk1.blk b (hlt b hb) (by simp)
  have w1 := WF.alloc hw (B := .row [.int .i64 0, .int .i64 0, .int .i64 0, .int .i64 0] T_key_Entry true)
  have hnx : (H.alloc (.row [.int .i64 0, .int .i64 0, .int .i64 0, .int .i64 0] T_key_Entry true)).next = H.next + 1 := rfl
  have hm : ∀ (H1 : AH) (Q : Value → AH → Prop), ACall Try.prog (.func (.methodOf T_deheap_ends name) #[] #[]) [ifc k q] H1 Q = AInv Try.prog (ifc k q) (methodsOf Try.prog name) [] H1 Q := fun H1 Q => ACall_meth hiface
  have hc1 := AH.cells_of hd1
  simp (disch := omega) [-getElem?_pos, if_pos, if_neg, decide_eq_true, decide_eq_false, ir_deheap_Heap_told]
  generalize H.alloc (.row [.int .i64 0, .int .i64 0, .int .i64 0, .int .i64 0] T_key_Entry true) = H1 at *
  have hc0 := AH.cells_of h1
  simp (disch := omega) [-getElem?_pos, if_pos, if_neg, decide_eq_true, decide_eq_false, hc0, hm]
  refine (hi q T H1 w1 h2').mono_wf fun u H2 w2 ⟨hu, hI, hK⟩ => ?_
  subst hu
  have hn2 : H2.blk H.next = some (.row [.int .i64 0, .int .i64 0, .int .i64 0, .int .i64 0] T_key_Entry true) := by
    rw [hK.blk _ (by omega) (fun hb => by have := hlt _ hb; omega)]; exact hn1
  have hd2 : H2.blk d = some (.row [.int .i64 (kI k), .int .i64 most, ifc k q] T_deheap_Heap true) := by rw [hK.blk _ (by omega) h3]; exact hd1
  have hcx : ∀ x : Ent, cut [Value.int .i64 x.b, .int .i64 x.d, .int .i64 x.s, .int .i64 x.i] 0 4 = some [Value.int .i64 x.b, .int .i64 x.d, .int .i64 x.s, .int .i64 x.i] := fun _ => rfl
  rw [tellV_eq]
  generalize o.getD zeroE = x
  simp (disch := omega) [-getElem?_pos, if_pos, if_neg, decide_eq_true, decide_eq_false, writeA_row hn2, over, hcx]
  have hdne : d ≠ H.next := by omega
  refine ⟨⟨q, T, rfl, by rw [AH.set_blk_ne hdne]; exact hd2, hI.keep fun b hb => AH.set_blk_ne (by have := hlt b hb; omega), h3, by omega⟩, ?_⟩
  refine ⟨by simp; have := hK.next; omega, fun b hb hn => ?_⟩
  rw [AH.set_blk_ne (by omega), hK.blk b (by omega) (fun hc => hn (List.mem_cons_of_mem _ hc)), hk1.blk b hb (by simp)]
theorem restE_le (M : List Ent) (last : Bool) : (restE M last).length ≤ M.length := by
  unfold restE; split <;> simp
theorem DMin_spec (h : DeH H d k most M S) : AFn Try.prog F_deheap_Heap_Min [pV d] H fun u H' => u = tellV (endE M false) ∧ DeH H' d k most M S ∧ Keep S H H' := by
  refine AFn.enter mixed ir_deheap_Heap_Min_eq (by simp [ir_deheap_Heap_Min]) fun hw => ?_
  have hlt := h.lt hw
  have hk1 : Keep [] H (H.alloc (.row [.int .i64 0, .int .i64 0, .int .i64 0, .int .i64 0] T_key_Entry true)) := .alloc
  have hn1 : (H.alloc (.row [.int .i64 0, .int .i64 0, .int .i64 0, .int .i64 0] T_key_Entry true)).blk H.next = some (.row [.int .i64 0, .int .i64 0, .int .i64 0, .int .i64 0] T_key_Entry true) := AH.alloc_blk_new
  have hnx : (H.alloc (.row [.int .i64 0, .int .i64 0, .int .i64 0, .int .i64 0] T_key_Entry true)).next = H.next + 1 := rfl
  simp (disch := omega) [-getElem?_pos, if_pos, if_neg, decide_eq_true, decide_eq_false, ir_deheap_Heap_Min]
  refine (told_spec (M' := M) (o := endE M false) (h.kept hw hk1) (Nat.le_refl _) (fun q T H1 w1 hI => ?_)).mono' fun u H2 w2 ⟨hu, hD, hK⟩ => ?_
  · exact (inMin_spec hI).mono fun u H' ⟨a, b⟩ => ⟨a, hI.keep fun c hc => b.blk c (hI.lt w1 c hc) (by simp), b.mono fun c hc => by simp at hc⟩
  · subst hu
    have hn2 : H2.blk H.next = some (.row [.int .i64 0, .int .i64 0, .int .i64 0, .int .i64 0] T_key_Entry true) := by
      rw [hK.blk _ (by omega) (fun hb => by have := hlt _ hb; omega)]; exact hn1
    have hcx : ∀ x : Ent, cut [Value.int .i64 x.b, .int .i64 x.d, .int .i64 x.s, .int .i64 x.i] 0 4 = some [Value.int .i64 x.b, .int .i64 x.d, .int .i64 x.s, .int .i64 x.i] := fun _ => rfl
    rw [tellV_eq]
    generalize (endE M false).getD zeroE = x
    simp (disch := omega) [-getElem?_pos, if_pos, if_neg, decide_eq_true, decide_eq_false, writeA_row hn2, over, hcx]
    refine ⟨hD.keep fun b hb => AH.set_blk_ne (by have := hlt b hb; omega), ?_⟩
    refine ⟨by simp; have := hK.next; omega, fun b hb hn => ?_⟩
    rw [AH.set_blk_ne (by omega), hK.blk b (by omega) hn, hk1.blk b hb (by simp)]
theorem DMax_spec (h : DeH H d k most M S) : AFn Try.prog F_deheap_Heap_Max [pV d] H fun u H' => u = tellV (endE M true) ∧ DeH H' d k most M S ∧ Keep S H H' := by
  refine AFn.enter mixed ir_deheap_Heap_Max_eq (by simp [ir_deheap_Heap_Max]) fun hw => ?_
  have hlt := h.lt hw
  have hk1 : Keep [] H (H.alloc (.row [.int .i64 0, .int .i64 0, .int .i64 0, .int .i64 0] T_key_Entry true)) := .alloc
  have hn1 : (H.alloc (.row [.int .i64 0, .int .i64 0, .int .i64 0, .int .i64 0] T_key_Entry true)).blk H.next = some (.row [.int .i64 0, .int .i64 0, .int .i64 0, .int .i64 0] T_key_Entry true) := AH.alloc_blk_new
  have hnx : (H.alloc (.row [.int .i64 0, .int .i64 0, .int .i64 0, .int .i64 0] T_key_Entry true)).next = H.next + 1 := rfl
  simp (disch := omega) [-getElem?_pos, if_pos, if_neg, decide_eq_true, decide_eq_false, ir_deheap_Heap_Max]
  refine (told_spec (M' := M) (o := endE M true) (h.kept hw hk1) (Nat.le_refl _) (fun q T H1 w1 hI => ?_)).mono' fun u H2 w2 ⟨hu, hD, hK⟩ => ?_
  · exact (inMax_spec hI).mono fun u H' ⟨a, b⟩ => ⟨a, hI.keep fun c hc => b.blk c (hI.lt w1 c hc) (by simp), b.mono fun c hc => by simp at hc⟩
  · subst hu
    have hn2 : H2.blk H.next = some (.row [.int .i64 0, .int .i64 0, .int .i64 0, .int .i64 0] T_key_Entry true) := by
      rw [hK.blk _ (by omega) (fun hb => by have := hlt _ hb; omega)]; exact hn1
    have hcx : ∀ x : Ent, cut [Value.int .i64 x.b, .int .i64 x.d, .int .i64 x.s, .int .i64 x.i] 0 4 = some [Value.int .i64 x.b, .int .i64 x.d, .int .i64 x.s, .int .i64 x.i] := fun _ => rfl
    rw [tellV_eq]
    generalize (endE M true).getD zeroE = x
    simp (disch := omega) [-getElem?_pos, if_pos, if_neg, decide_eq_true, decide_eq_false, writeA_row hn2, over, hcx]
    refine ⟨hD.keep fun b hb => AH.set_blk_ne (by have := hlt b hb; omega), ?_⟩
    refine ⟨by simp; have := hK.next; omega, fun b hb hn => ?_⟩
    rw [AH.set_blk_ne (by omega), hK.blk b (by omega) hn, hk1.blk b hb (by simp)]
theorem DPopMin_spec (h : DeH H d k most M S) : AFn Try.prog F_deheap_Heap_PopMin [pV d] H fun u H' => u = tellV (endE M false) ∧ DeH H' d k most (restE M false) S ∧ Keep S H H' := by
  refine AFn.enter mixed ir_deheap_Heap_PopMin_eq (by simp [ir_deheap_Heap_PopMin]) fun hw => ?_
  have hlt := h.lt hw
  have hk1 : Keep [] H (H.alloc (.row [.int .i64 0, .int .i64 0, .int .i64 0, .int .i64 0] T_key_Entry true)) := .alloc
  have hn1 : (H.alloc (.row [.int .i64 0, .int .i64 0, .int .i64 0, .int .i64 0] T_key_Entry true)).blk H.next = some (.row [.int .i64 0, .int .i64 0, .int .i64 0, .int .i64 0] T_key_Entry true) := AH.alloc_blk_new
  have hnx : (H.alloc (.row [.int .i64 0, .int .i64 0, .int .i64 0, .int .i64 0] T_key_Entry true)).next = H.next + 1 := rfl
  simp (disch := omega) [-getElem?_pos, if_pos, if_neg, decide_eq_true, decide_eq_false, ir_deheap_Heap_PopMin]
  refine (told_spec (M' := restE M false) (o := endE M false) (h.kept hw hk1) (restE_le M false) (fun q T H1 w1 hI => ?_)).mono' fun u H2 w2 ⟨hu, hD, hK⟩ => ?_
  · exact inPopMin_spec hI
  · subst hu
    have hn2 : H2.blk H.next = some (.row [.int .i64 0, .int .i64 0, .int .i64 0, .int .i64 0] T_key_Entry true) := by
      rw [hK.blk _ (by omega) (fun hb => by have := hlt _ hb; omega)]; exact hn1
    have hcx : ∀ x : Ent, cut [Value.int .i64 x.b, .int .i64 x.d, .int .i64 x.s, .int .i64 x.i] 0 4 = some [Value.int .i64 x.b, .int .i64 x.d, .int .i64 x.s, .int .i64 x.i] := fun _ => rfl
    rw [tellV_eq]
    generalize (endE M false).getD zeroE = x
    simp (disch := omega) [-getElem?_pos, if_pos, if_neg, decide_eq_true, decide_eq_false, writeA_row hn2, over, hcx]
    refine ⟨hD.keep fun b hb => AH.set_blk_ne (by have := hlt b hb; omega), ?_⟩
    refine ⟨by simp; have := hK.next; omega, fun b hb hn => ?_⟩
    rw [AH.set_blk_ne (by omega), hK.blk b (by omega) hn, hk1.blk b hb (by simp)]
theorem DPopMax_spec (h : DeH H d k most M S) : AFn Try.prog F_deheap_Heap_PopMax [pV d] H fun u H' => u = tellV (endE M true) ∧ DeH H' d k most (restE M true) S ∧ Keep S H H' := by
  refine AFn.enter mixed ir_deheap_Heap_PopMax_eq (by simp [ir_deheap_Heap_PopMax]) fun hw => ?_
  have hlt := h.lt hw
  have hk1 : Keep [] H (H.alloc (.row [.int .i64 0, .int .i64 0, .int .i64 0, .int .i64 0] T_key_Entry true)) := .alloc
  have hn1 : (H.alloc (.row [.int .i64 0, .int .i64 0, .int .i64 0, .int .i64 0] T_key_Entry true)).blk H.next = some (.row [.int .i64 0, .int .i64 0, .int .i64 0, .int .i64 0] T_key_Entry true) := AH.alloc_blk_new
  have hnx : (H.alloc (.row [.int .i64 0, .int .i64 0, .int .i64 0, .int .i64 0] T_key_Entry true)).next = H.next + 1 := rfl
  simp (disch := omega) [-getElem?_pos, if_pos, if_neg, decide_eq_true, decide_eq_false, ir_deheap_Heap_PopMax]
  refine (told_spec (M' := restE M true) (o := endE M true) (h.kept hw hk1) (restE_le M true) (fun q T H1 w1 hI => ?_)).mono' fun u H2 w2 ⟨hu, hD, hK⟩ => ?_
  · exact inPopMax_spec hI
  · subst hu
    have hn2 : H2.blk H.next = some (.row [.int .i64 0, .int .i64 0, .int .i64 0, .int .i64 0] T_key_Entry true) := by
      rw [hK.blk _ (by omega) (fun hb => by have := hlt _ hb; omega)]; exact hn1
    have hcx : ∀ x : Ent, cut [Value.int .i64 x.b, .int .i64 x.d, .int .i64 x.s, .int .i64 x.i] 0 4 = some [Value.int .i64 x.b, .int .i64 x.d, .int .i64 x.s, .int .i64 x.i] := fun _ => rfl
    rw [tellV_eq]
    generalize (endE M true).getD zeroE = x
    simp (disch := omega) [-getElem?_pos, if_pos, if_neg, decide_eq_true, decide_eq_false, writeA_row hn2, over, hcx]
    refine ⟨hD.keep fun b hb => AH.set_blk_ne (by have := hlt b hb; omega), ?_⟩
    refine ⟨by simp; have := hK.next; omega, fun b hb hn => ?_⟩
    rw [AH.set_blk_ne (by omega), hK.blk b (by omega) hn, hk1.blk b hb (by simp)]
end
end Go.Proofs.Ytgecnmjohhmfjaa
