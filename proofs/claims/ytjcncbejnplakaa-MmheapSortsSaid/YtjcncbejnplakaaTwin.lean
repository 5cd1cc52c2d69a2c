/-
  Two heaps, a list beside them, and rows that are none of theirs.
-/
import Derived.Test.YtjcncbejnplakaaPsB
import Derived.Test.YtjcncbejnplakaaLaw05e
import Derived.Test.YtjcncbejnplakaaLaw06h
set_option maxRecDepth 100000
set_option linter.unusedSimpArgs false
set_option linter.unusedVariables false
namespace Go.Proofs.Ytjcncbejnplakaa
open Go Go.Abs

/-- A heap of one's own, of either type. -/
def HeapT (T : Nat) (H : AH) (q : Nat) (L : List Ent) (S : List Nat) : Prop :=
  ∃ v, H.blk q = some (.row [v] T true) ∧ Own H T_key_Entry 4 v L.length (cellsE L) S ∧ q ∉ S ∧ L.length ≤ 1000000
theorem heapT_i {H : AH} {q : Nat} {L : List Ent} {S : List Nat} : HeapT T_iheap_Heap H q L S ↔ HeapAt H q L S := Iff.rfl
theorem heapT_m {H : AH} {q : Nat} {L : List Ent} {S : List Nat} : HeapT T_mmheap_Heap H q L S ↔ HeapM H q L S := Iff.rfl
theorem HeapT.lt {T : Nat} {H : AH} {q : Nat} {L : List Ent} {S : List Nat} (h : HeapT T H q L S) (hw : WF H) : ∀ b ∈ q :: S, b < H.next := by
  obtain ⟨v, h1, h2, _⟩ := h
  intro b hb
  rcases List.mem_cons.1 hb with rfl | hb
  · exact hw.lt h1
  · exact h2.lt hw b hb
theorem HeapT.keep {T : Nat} {H H' : AH} {q : Nat} {L : List Ent} {S : List Nat} (h : HeapT T H q L S) (hk : ∀ b ∈ q :: S, H'.blk b = H.blk b) : HeapT T H' q L S := by
  obtain ⟨v, h1, h2, h3, h4⟩ := h
  exact ⟨v, by rw [hk q (by simp), h1], h2.keep fun b hb => hk b (by simp [hb]), h3, h4⟩
theorem HeapT.read {T : Nat} {H : AH} {q : Nat} {L : List Ent} {S : List Nat} (h : HeapT T H q L S) : HeapR H q L := by
  obtain ⟨v, h1, h2, h3, h4⟩ := h
  exact ⟨v, AH.cells_of h1, h2.vw fun _ _ => trivial, h4⟩

def TwX (T : Nat) (H0 : AH) (R : Nat → Prop) (H : AH) (q1 : Nat) (L1 : List Ent) (q2 : Nat) (L2 : List Ent) (mv : Value) (M : List Ent) (S1 S2 : List Nat) (P : Nat → Prop) : Prop :=
  WF H ∧ Keep [] H0 H ∧ HeapT T H q1 L1 S1 ∧ HeapT T H q2 L2 S2 ∧ EntsV P H mv M ∧
  (∀ b ∈ q1 :: S1, H0.next ≤ b ∧ b ∉ q2 :: S2 ∧ ¬ P b ∧ ¬ R b) ∧ (∀ b ∈ q2 :: S2, H0.next ≤ b ∧ ¬ P b ∧ ¬ R b) ∧ (∀ b, P b → b < H.next ∧ ¬ R b) ∧ ∀ b, R b → H0.next ≤ b ∧ b < H.next
def Tw (T : Nat) (H0 : AH) (R : Nat → Prop) (H : AH) (q1 : Nat) (L1 : List Ent) (q2 : Nat) (L2 : List Ent) (mv : Value) (M : List Ent) : Prop := ∃ S1 S2 P, TwX T H0 R H q1 L1 q2 L2 mv M S1 S2 P
def SameR (R : Nat → Prop) (H H' : AH) : Prop := ∀ b, R b → H'.blk b = H.blk b

section
variable {T : Nat} {H0 H H' : AH} {R : Nat → Prop} {q1 q2 : Nat} {L1 L2 L1' M M' : List Ent} {mv mv' : Value} {S1 S2 S1' : List Nat} {P : Nat → Prop}

theorem SameR.cells (h : SameR R H H') {b : Nat} (hb : R b) : H'.cells b = H.cells b := by unfold AH.cells; rw [h b hb]
theorem Tw.swap (h : Tw T H0 R H q1 L1 q2 L2 mv M) : Tw T H0 R H q2 L2 q1 L1 mv M := by
  obtain ⟨S1, S2, P, w, k, a1, a2, v, d1, d2, d3, d4⟩ := h
  exact ⟨S2, S1, P, w, k, a2, a1, v, fun b hb => ⟨(d2 b hb).1, fun hc => (d1 b hc).2.1 hb, (d2 b hb).2⟩, fun b hb => ⟨(d1 b hb).1, (d1 b hb).2.2⟩, d3, d4⟩
theorem TwX.heap (h : TwX T H0 R H q1 L1 q2 L2 mv M S1 S2 P) (hw : WF H') (a : HeapT T H' q1 L1' S1') (hk : Keep (q1 :: S1) H H') (hS : ∀ b ∈ S1', b ∈ S1 ∨ H.next ≤ b) : Tw T H0 R H' q1 L1' q2 L2 mv M ∧ SameR R H H' := by
  obtain ⟨w, k, a1, a2, v, d1, d2, d3, d4⟩ := h
  have hn := hk.next
  have hn0 := k.next
  have l2 := a2.lt w
  refine ⟨⟨S1', S2, P, hw, ⟨by omega, fun b hb _ => ?_⟩, a, a2.keep fun b hb => ?_, ⟨v.1.over fun b hb => ?_, v.2⟩, fun b hb => ?_, d2, fun b hb => ⟨by have := d3 b hb; omega, (d3 b hb).2⟩, fun b hb => ⟨(d4 b hb).1, by have := d4 b hb; omega⟩⟩, fun b hb => ?_⟩
  · rw [hk.blk b (by omega) (fun hc => by have := d1 b hc; omega), k.blk b hb (by simp)]
  · exact hk.blk b (l2 b hb) fun hc => (d1 b hc).2.1 hb
  · unfold AH.cells
    rw [hk.blk b (d3 b hb).1 fun hc => (d1 b hc).2.2.1 hb]
  · rcases List.mem_cons.1 hb with rfl | hb
    · exact d1 b (by simp)
    · rcases hS b hb with h | h
      · exact d1 b (by simp [h])
      · exact ⟨by omega, fun hc => by have := l2 b hc; omega, fun hc => by have := d3 b hc; omega, fun hc => by have := d4 b hc; omega⟩
  · exact hk.blk b (d4 b hb).2 fun hc => (d1 b hc).2.2.2 hb
theorem Tw.kept (h : Tw T H0 R H q1 L1 q2 L2 mv M) (hw : WF H') (hk : Keep [] H H') : Tw T H0 R H' q1 L1 q2 L2 mv M ∧ SameR R H H' := by
  obtain ⟨S1, S2, P, h⟩ := h
  exact h.heap hw (h.2.2.1.keep fun b hb => hk.blk b (h.2.2.1.lt h.1 b hb) (by simp)) ⟨hk.next, fun b hb _ => hk.blk b hb (by simp)⟩ fun b hb => .inl hb
theorem Tw.list (h : Tw T H0 R H q1 L1 q2 L2 mv M) (hw : WF H') (hk : EntsN H M' mv' H') : Tw T H0 R H' q1 L1 q2 L2 mv' M' ∧ SameR R H H' := by
  obtain ⟨S1, S2, P, w, k, a1, a2, v, d1, d2, d3, d4⟩ := h
  obtain ⟨e1, e2⟩ := hk
  have hn := e2.next
  have l1 := a1.lt w
  have l2 := a2.lt w
  refine ⟨⟨S1, S2, fun b => H.next ≤ b ∧ b < H'.next, hw, k.trans' e2, a1.keep fun b hb => e2.blk b (l1 b hb) (by simp), a2.keep fun b hb => e2.blk b (l2 b hb) (by simp), ⟨Vw.below e1.1 hw, e1.2⟩, fun b hb => ⟨(d1 b hb).1, (d1 b hb).2.1, fun hc => by have := l1 b hb; omega, (d1 b hb).2.2.2⟩, fun b hb => ⟨(d2 b hb).1, fun hc => by have := l2 b hb; omega, (d2 b hb).2.2⟩,
    fun b hb => ⟨hb.2, fun hc => by have := d4 b hc; omega⟩, fun b hb => ⟨(d4 b hb).1, by have := d4 b hb; omega⟩⟩, fun b hb => e2.blk b (d4 b hb).2 (by simp)⟩
theorem Tw.write {x : Nat} {cs : List Value} {t : TypeId} (h : Tw T H0 R H q1 L1 q2 L2 mv M) (hx : R x) : Tw T H0 R (H.set x (.row cs t true)) q1 L1 q2 L2 mv M := by
  obtain ⟨S1, S2, P, w, k, a1, a2, v, d1, d2, d3, d4⟩ := h
  have hx4 := d4 x hx
  exact ⟨S1, S2, P, w.set hx4.2, .new_set hx4.1 k, a1.keep fun b hb => AH.set_blk_ne fun hc => (d1 b hb).2.2.2 (hc ▸ hx), a2.keep fun b hb => AH.set_blk_ne fun hc => (d2 b hb).2.2 (hc ▸ hx), v.over fun b hb => AH.cells_set_ne fun hc => (d3 b hb).2 (hc ▸ hx), d1, d2, d3, d4⟩
theorem Tw.free (h : Tw T H0 R H q1 L1 q2 L2 mv M) : Tw T H0 (fun _ => False) H q1 L1 q2 L2 mv M := by
  obtain ⟨S1, S2, P, w, k, a1, a2, v, d1, d2, d3, d4⟩ := h
  exact ⟨S1, S2, P, w, k, a1, a2, v, fun b hb => ⟨(d1 b hb).1, (d1 b hb).2.1, (d1 b hb).2.2.1, id⟩, fun b hb => ⟨(d2 b hb).1, (d2 b hb).2.1, id⟩, fun b hb => ⟨(d3 b hb).1, id⟩, fun b hb => hb.elim⟩
theorem Tw.rows (h : Tw T H0 (fun _ => False) H q1 L1 q2 L2 mv M) (B1 B2 B3 : Blk) : Tw T H0 (fun b => H.next ≤ b ∧ b < H.next + 3) (((H.alloc B1).alloc B2).alloc B3) q1 L1 q2 L2 mv M := by
  have hk : Keep [] H (((H.alloc B1).alloc B2).alloc B3) := .new_alloc (.new_alloc .alloc)
  obtain ⟨S1, S2, P, w, k, a1, a2, v, d1, d2, d3, d4⟩ := h
  have l1 := a1.lt w
  have l2 := a2.lt w
  have hn := k.next
  exact ⟨S1, S2, P, w.alloc.alloc.alloc, k.trans' hk, a1.keep fun b hb => hk.blk b (l1 b hb) (by simp), a2.keep fun b hb => hk.blk b (l2 b hb) (by simp), v.kept w hk, fun b hb => ⟨(d1 b hb).1, (d1 b hb).2.1, (d1 b hb).2.2.1, fun hc => by have := l1 b hb; omega⟩, fun b hb => ⟨(d2 b hb).1, (d2 b hb).2.1, fun hc => by have := l2 b hb; omega⟩,
    fun b hb => ⟨by have := d3 b hb; simp; omega, fun hc => by have := d3 b hb; omega⟩, fun b hb => ⟨by omega, by simp; omega⟩⟩
theorem Tw.part (h : Tw T H0 R H q1 L1 q2 L2 mv M) (hp : ∀ P, EntsV P H mv M → EntsV P H mv' M') : Tw T H0 R H q1 L1 q2 L2 mv' M' := by
  obtain ⟨S1, S2, P, w, k, a1, a2, v, d⟩ := h
  exact ⟨S1, S2, P, w, k, a1, a2, hp P v, d⟩
theorem Tw.wf (h : Tw T H0 R H q1 L1 q2 L2 mv M) : WF H := by obtain ⟨S1, S2, P, w, _⟩ := h; exact w
theorem Tw.keeps (h : Tw T H0 R H q1 L1 q2 L2 mv M) : Keep [] H0 H := by obtain ⟨S1, S2, P, w, k, _⟩ := h; exact k
theorem Tw.read1 (h : Tw T H0 R H q1 L1 q2 L2 mv M) : HeapR H q1 L1 := by obtain ⟨S1, S2, P, w, k, a, _⟩ := h; exact a.read
/-- What is read: where it stands is none of the rows. -/
theorem Tw.list_at (h : Tw T H0 R H q1 L1 q2 L2 mv M) (h0 : 0 < M.length) : ∃ b off sp cap cs, mv = .slice (some ⟨b, off, sp⟩) M.length cap ∧ H.cells b = some cs ∧ (sp = none ∨ sp = some 4) ∧ M.length ≤ cap ∧ ¬ R b ∧ b < H.next ∧ ∀ k, k < M.length → cut cs (off + k * 4) 4 = some (getE M k).cells := by
  obtain ⟨S1, S2, P, w, k, a1, a2, v, d1, d2, d3, d4⟩ := h
  obtain ⟨b, off, sp, cap, cs, rfl, q1, q2⟩ := ents_at v.1 h0
  rcases v.1.2 with ⟨h1, _⟩ | ⟨b', off', sp', cap', cs', e1, e2, e3, e4, e5, e6⟩
  · omega
  · cases e1
    exact ⟨b, off, sp, cap, cs, rfl, q1, e3, e2, (d3 b e6).2, (d3 b e6).1, q2⟩
end

section
variable {H0 H : AH} {R : Nat → Prop} {q1 q2 : Nat} {L1 L2 M : List Ent} {mv : Value}
theorem Tw.popMin (h : Tw T_iheap_Heap H0 R H q1 L1 q2 L2 mv M) : AFn Try.prog F_iheap_Heap_PopMin [.pointer (some ⟨q1, 0, none⟩)] H fun u H' => u = tellV (tipO L1 0) ∧ Tw T_iheap_Heap H0 R H' q1 (popL 0 L1) q2 L2 mv M ∧ SameR R H H' := by
  obtain ⟨S1, S2, P, h⟩ := h
  exact (PopMin_spec h.2.2.1).mono' fun u H' w' ⟨a0, a1, a2⟩ => ⟨a0, h.heap w' a1 a2 fun b hb => .inl hb⟩
theorem Tw.popMax (h : Tw T_iheap_Heap H0 R H q1 L1 q2 L2 mv M) : AFn Try.prog F_iheap_Heap_PopMax [.pointer (some ⟨q1, 0, none⟩)] H fun u H' => u = tellV (tipO L1 1) ∧ Tw T_iheap_Heap H0 R H' q1 (popL 1 L1) q2 L2 mv M ∧ SameR R H H' := by
  obtain ⟨S1, S2, P, h⟩ := h
  exact (PopMax_spec h.2.2.1).mono' fun u H' w' ⟨a0, a1, a2⟩ => ⟨a0, h.heap w' a1 a2 fun b hb => .inl hb⟩
theorem Tw.push (h : Tw T_iheap_Heap H0 R H q1 L1 q2 L2 mv M) (x : Ent) (hl : L1.length < 100000) : AFn Try.prog F_iheap_Heap_Push [.pointer (some ⟨q1, 0, none⟩), x.val] H fun u H' => Tw T_iheap_Heap H0 R H' q1 (pushL L1 x) q2 L2 mv M ∧ SameR R H H' := by
  obtain ⟨S1, S2, P, h⟩ := h
  exact (Push_spec h.2.2.1 x hl).mono' fun u H' w' ⟨S', a1, a2, a3⟩ => h.heap w' a1 a2 a3
theorem Tw.popMinM (h : Tw T_mmheap_Heap H0 R H q1 L1 q2 L2 mv M) : AFn Try.prog F_mmheap_Heap_PopMin [.pointer (some ⟨q1, 0, none⟩)] H fun u H' => u = tellV (tipM L1 0) ∧ Tw T_mmheap_Heap H0 R H' q1 (popM 0 L1) q2 L2 mv M ∧ SameR R H H' := by
  obtain ⟨S1, S2, P, h⟩ := h
  exact (PopMin_specM h.2.2.1).mono' fun u H' w' ⟨a0, a1, a2⟩ => ⟨a0, h.heap w' a1 a2 fun b hb => .inl hb⟩
theorem Tw.popMaxM (h : Tw T_mmheap_Heap H0 R H q1 L1 q2 L2 mv M) : AFn Try.prog F_mmheap_Heap_PopMax [.pointer (some ⟨q1, 0, none⟩)] H fun u H' => u = tellV (tipM L1 1) ∧ Tw T_mmheap_Heap H0 R H' q1 (popM 1 L1) q2 L2 mv M ∧ SameR R H H' := by
  obtain ⟨S1, S2, P, h⟩ := h
  exact (PopMax_specM h.2.2.1).mono' fun u H' w' ⟨a0, a1, a2⟩ => ⟨a0, h.heap w' a1 a2 fun b hb => .inl hb⟩
theorem Tw.pushM (h : Tw T_mmheap_Heap H0 R H q1 L1 q2 L2 mv M) (x : Ent) (hl : L1.length < 100000) : AFn Try.prog F_mmheap_Heap_Push [.pointer (some ⟨q1, 0, none⟩), x.val] H fun u H' => Tw T_mmheap_Heap H0 R H' q1 (pushM L1 x) q2 L2 mv M ∧ SameR R H H' := by
  obtain ⟨S1, S2, P, h⟩ := h
  exact (Push_specM h.2.2.1 x hl).mono' fun u H' w' ⟨S', a1, a2, a3⟩ => h.heap w' a1 a2 a3
end
end Go.Proofs.Ytjcncbejnplakaa
