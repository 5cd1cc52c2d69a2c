/-
  Contracts of package deheap (1): a heap of either kind, by its list in order; what it tells and does.
-/
import Derived.Test.YtgecnmjohhmfjaaDlaw
import Derived.Test.YtgecnmjohhmfjaaWakes
set_option maxRecDepth 100000
set_option linter.unusedSimpArgs false
set_option linter.unusedVariables false
namespace Go.Proofs.Ytgecnmjohhmfjaa
open Go Go.Abs
theorem inv_of {P : Program} {t : TypeId} {p : Addr} {tbl : List (TypeId × FuncId)} {f : FuncId} {args : List Value} {H : AH} {Q : Value → AH → Prop} (hl : lookT tbl t = some f) (hg : goodFunc P f = true) (h : AFn P f (.pointer (some p) :: args) H Q) : AInv P (.iface t (.pointer (some p))) tbl args H Q := by
  unfold AInv
  simp only [hl]
  exact ⟨hg, h⟩
def pT (k : Bool) : Nat := if k then T_p_iheap_Heap else T_p_mmheap_Heap
def hT (k : Bool) : Nat := if k then T_iheap_Heap else T_mmheap_Heap
def stT (k : Bool) (L : List Ent) : Prop := if k then StL L else StMl L
def kI (k : Bool) : Int := if k then 1 else 0
abbrev ifc (k : Bool) (q : Nat) : Value := .iface (pT k) (.pointer (some ⟨q, 0, none⟩))
def InH (H : AH) (k : Bool) (q : Nat) (M : List Ent) (S : List Nat) : Prop :=
  ∃ L, HeapT (hT k) H q L S ∧ stT k L ∧ sortL Ent.lt L = M ∧ L.length ≤ 1000
theorem InH.len {H : AH} {k : Bool} {q : Nat} {M : List Ent} {S : List Nat} (h : InH H k q M S) : M.length ≤ 1000 := by
  obtain ⟨L, _, _, rfl, h⟩ := h; rw [sort_length]; exact h
theorem InH.lt {H : AH} {k : Bool} {q : Nat} {M : List Ent} {S : List Nat} (h : InH H k q M S) (hw : WF H) : ∀ b ∈ q :: S, b < H.next := by
  obtain ⟨L, h, _⟩ := h; exact h.lt hw
theorem InH.keep {H H' : AH} {k : Bool} {q : Nat} {M : List Ent} {S : List Nat} (h : InH H k q M S) (hk : ∀ b ∈ q :: S, H'.blk b = H.blk b) : InH H' k q M S := by
  obtain ⟨L, h, h2⟩ := h; exact ⟨L, h.keep hk, h2⟩
section
variable {H : AH} {k : Bool} {q : Nat} {M : List Ent} {S : List Nat}
theorem inLen_spec (h : InH H k q M S) : AInv Try.prog (ifc k q) [(17, 93), (31, 12), (74, 98), (82, 111)] [] H fun u H' => u = .int .i64 M.length ∧ H' = H := by
  obtain ⟨L, h1, h2, rfl, h4⟩ := h
  rw [sort_length]
  cases k with
  | true => exact inv_of rfl good_iheap_Heap_Len (Len_spec (heapT_i.1 h1).read)
  | false => exact inv_of rfl good_mmheap_Heap_Len (Len_specM (heapT_m.1 h1).read)
theorem inList_spec (h : InH H k q M S) : AInv Try.prog (ifc k q) [(74, 99), (82, 112)] [] H fun u H' => ∃ L, sortL Ent.lt L = M ∧ EntsN H L u H' := by
  obtain ⟨L, h1, h2, rfl, h4⟩ := h
  cases k with
  | true => exact inv_of rfl good_iheap_Heap_List ((List_spec (heapT_i.1 h1).read).mono fun u H' ⟨T, o, k, hT⟩ => ⟨L, rfl, own_ents o k hT (by omega)⟩)
  | false => exact inv_of rfl good_mmheap_Heap_List ((List_specM (heapT_m.1 h1).read).mono fun u H' ⟨T, o, k, hT⟩ => ⟨L, rfl, own_ents o k hT (by omega)⟩)
theorem inPush_spec (h : InH H k q M S) (x : Ent) (hM : M.length < 1000) : AInv Try.prog (ifc k q) [(31, 19), (74, 43), (82, 117)] [x.val] H fun u H' => ∃ S', InH H' k q (insL Ent.lt M x) S' ∧ Keep (q :: S) H H' ∧ ∀ b ∈ S', b ∈ S ∨ H.next ≤ b := by
  obtain ⟨L, h1, h2, rfl, h4⟩ := h
  rw [sort_length] at hM
  cases k with
  | true =>
    refine inv_of rfl good_iheap_Heap_Push ((Push_spec (heapT_i.1 h1) x (by omega)).mono fun u H' ⟨S', a1, a2, a3⟩ => ⟨S', ⟨pushL L x, heapT_i.2 a1, pushL_st h2 x, (push_sort x).symm, ?_⟩, a2, a3⟩)
    rw [riseL_len2]; omega
  | false =>
    refine inv_of rfl good_mmheap_Heap_Push ((Push_specM (heapT_m.1 h1) x (by omega)).mono fun u H' ⟨S', a1, a2, a3⟩ => ⟨S', ⟨pushM L x, heapT_m.2 a1, pushM_st h2 x, (push_sortM x).symm, ?_⟩, a2, a3⟩)
    rw [pushM_length]; omega
theorem meth_min : methodsOf Try.prog "Min" = [(31, 17), (74, 101), (82, 114)] := by kernel_rfl
theorem meth_max : methodsOf Try.prog "Max" = [(31, 26), (74, 100), (82, 113)] := by kernel_rfl
theorem meth_popmin : methodsOf Try.prog "PopMin" = [(31, 20), (74, 103), (82, 116)] := by kernel_rfl
theorem meth_popmax : methodsOf Try.prog "PopMax" = [(31, 18), (74, 102), (82, 115)] := by kernel_rfl
theorem inMin_spec (h : InH H k q M S) : AInv Try.prog (ifc k q) (methodsOf Try.prog "Min") [] H fun u H' => u = tellV (endE M false) ∧ Keep [] H H' := by
  obtain ⟨L, h1, h2, rfl, h4⟩ := h
  rw [meth_min]
  cases k with
  | true => rw [end_min h2]; exact inv_of rfl good_iheap_Heap_Min (Min_spec (heapT_i.1 h1).read)
  | false => rw [endM_min h2]; exact inv_of rfl good_mmheap_Heap_Min (Min_specM (heapT_m.1 h1).read)
theorem inMax_spec (h : InH H k q M S) : AInv Try.prog (ifc k q) (methodsOf Try.prog "Max") [] H fun u H' => u = tellV (endE M true) ∧ Keep [] H H' := by
  obtain ⟨L, h1, h2, rfl, h4⟩ := h
  rw [meth_max]
  cases k with
  | true => rw [end_max h2]; exact inv_of rfl good_iheap_Heap_Max (Max_spec (heapT_i.1 h1).read)
  | false => rw [endM_max h2]; exact inv_of rfl good_mmheap_Heap_Max (Max_specM (heapT_m.1 h1).read)
theorem inPopMin_spec (h : InH H k q M S) : AInv Try.prog (ifc k q) (methodsOf Try.prog "PopMin") [] H fun u H' => u = tellV (endE M false) ∧ InH H' k q (restE M false) S ∧ Keep (q :: S) H H' := by
  obtain ⟨L, h1, h2, rfl, h4⟩ := h
  rw [meth_popmin]
  cases k with
  | true => 
    rw [end_min h2, rest_min h2]
    exact inv_of rfl good_iheap_Heap_PopMin ((PopMin_spec (heapT_i.1 h1)).mono fun u H' ⟨a, b, c⟩ => ⟨a, ⟨_, heapT_i.2 b, pop_st0 h2, rfl, by have := pop_le L 0; omega⟩, c⟩)
  | false =>
    rw [endM_min h2, restM_min h2]
    exact inv_of rfl good_mmheap_Heap_PopMin ((PopMin_specM (heapT_m.1 h1)).mono fun u H' ⟨a, b, c⟩ => ⟨a, ⟨_, heapT_m.2 b, popM_st h2 0, rfl, by have := popM_le L 0; omega⟩, c⟩)
theorem inPopMax_spec (h : InH H k q M S) : AInv Try.prog (ifc k q) (methodsOf Try.prog "PopMax") [] H fun u H' => u = tellV (endE M true) ∧ InH H' k q (restE M true) S ∧ Keep (q :: S) H H' := by
  obtain ⟨L, h1, h2, rfl, h4⟩ := h
  rw [meth_popmax]
  cases k with
  | true => 
    rw [end_max h2, rest_max h2]
    exact inv_of rfl good_iheap_Heap_PopMax ((PopMax_spec (heapT_i.1 h1)).mono fun u H' ⟨a, b, c⟩ => ⟨a, ⟨_, heapT_i.2 b, pop_st1 h2, rfl, by have := pop_le L 1; omega⟩, c⟩)
  | false =>
    rw [endM_max h2, restM_max h2]
    exact inv_of rfl good_mmheap_Heap_PopMax ((PopMax_specM (heapT_m.1 h1)).mono fun u H' ⟨a, b, c⟩ => ⟨a, ⟨_, heapT_m.2 b, popM_st h2 1, rfl, by have := popM_le L 1; omega⟩, c⟩)
end
def DeH (H : AH) (d : Nat) (k : Bool) (most : Int) (M : List Ent) (S : List Nat) : Prop :=
  ∃ q T, S = d :: q :: T ∧ H.blk d = some (.row [.int .i64 (kI k), .int .i64 most, ifc k q] T_deheap_Heap true) ∧ InH H k q M T ∧ d ∉ q :: T ∧ (M.length : Int) ≤ most
theorem DeH.lt {H : AH} {d : Nat} {k : Bool} {most : Int} {M : List Ent} {S : List Nat} (h : DeH H d k most M S) (hw : WF H) : ∀ b ∈ S, b < H.next := by
  obtain ⟨q, T, rfl, h1, h2, _⟩ := h
  intro b hb
  rcases List.mem_cons.1 hb with rfl | hb
  · exact hw.lt h1
  · exact h2.lt hw b hb
theorem DeH.keep {H H' : AH} {d : Nat} {k : Bool} {most : Int} {M : List Ent} {S : List Nat} (h : DeH H d k most M S) (hk : ∀ b ∈ S, H'.blk b = H.blk b) : DeH H' d k most M S := by
  obtain ⟨q, T, rfl, h1, h2, h3⟩ := h
  exact ⟨q, T, rfl, by rw [hk d (by simp), h1], h2.keep fun b hb => hk b (List.mem_cons_of_mem _ hb), h3⟩
theorem DeH.kept {H H' : AH} {d : Nat} {k : Bool} {most : Int} {M : List Ent} {S : List Nat} (h : DeH H d k most M S) (hw : WF H) (hk : Keep [] H H') : DeH H' d k most M S :=
  h.keep fun b hb => hk.blk b (h.lt hw b hb) (by simp)
theorem DeH.len {H : AH} {d : Nat} {k : Bool} {most : Int} {M : List Ent} {S : List Nat} (h : DeH H d k most M S) : M.length ≤ 1000 := by
  obtain ⟨q, T, rfl, h1, h2, h3⟩ := h; exact h2.len
theorem DeH.le {H : AH} {d : Nat} {k : Bool} {most : Int} {M : List Ent} {S : List Nat} (h : DeH H d k most M S) : (M.length : Int) ≤ most := by
  obtain ⟨q, T, rfl, h1, h2, h3, h4⟩ := h; exact h4
end Go.Proofs.Ytgecnmjohhmfjaa
