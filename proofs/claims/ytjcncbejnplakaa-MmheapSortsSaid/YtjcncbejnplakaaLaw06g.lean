/-
  IheapPlays (1): a heap and a list in order beside it.
-/
import Derived.Test.YtjcncbejnplakaaLaw06f
set_option maxRecDepth 100000
set_option linter.unusedSimpArgs false
set_option linter.unusedVariables false
namespace Go.Proofs.Ytjcncbejnplakaa
open Go Go.Abs

/-- A heap, a list beside it, and three rows (from n0 on) that are none of theirs. -/
def StRx (H0 : AH) (n0 : Nat) (H : AH) (q : Nat) (L : List Ent) (mv : Value) (M : List Ent) (S : List Nat) (P : Nat → Prop) : Prop :=
  WF H ∧ Keep [] H0 H ∧ H0.next ≤ q ∧ (∀ b ∈ S, H0.next ≤ b) ∧ HeapAt H q L S ∧ EntsV P H mv M ∧ (∀ b, P b → b ≠ q ∧ b ∉ S ∧ b < H.next) ∧
    H0.next ≤ n0 ∧ n0 + 3 ≤ H.next ∧ (∀ b, n0 ≤ b → b < n0 + 3 → b ≠ q ∧ b ∉ S ∧ ¬ P b)
def StR (H0 : AH) (n0 : Nat) (H : AH) (q : Nat) (L : List Ent) (mv : Value) (M : List Ent) : Prop := ∃ S P, StRx H0 n0 H q L mv M S P
def Three (n0 : Nat) (H H' : AH) : Prop := ∀ b, n0 ≤ b → b < n0 + 3 → H'.blk b = H.blk b
/-- .. without such rows. -/
def StH (H0 : AH) (H : AH) (q : Nat) (L : List Ent) (mv : Value) (M : List Ent) : Prop :=
  ∃ S, ∃ P : Nat → Prop, WF H ∧ Keep [] H0 H ∧ H0.next ≤ q ∧ (∀ b ∈ S, H0.next ≤ b) ∧ HeapAt H q L S ∧ EntsV P H mv M ∧ (∀ b, P b → b ≠ q ∧ b ∉ S ∧ b < H.next)

theorem StR.plain {H0 H : AH} {n0 q : Nat} {L M : List Ent} {mv : Value} (h : StR H0 n0 H q L mv M) : StH H0 H q L mv M := by
  obtain ⟨S, P, h1, h2, h3, h4, h5, h6, h7, _⟩ := h
  exact ⟨S, P, h1, h2, h3, h4, h5, h6, h7⟩
theorem HeapAt.lt {H : AH} {q : Nat} {L : List Ent} {S : List Nat} (h : HeapAt H q L S) (hw : WF H) : q < H.next ∧ ∀ b ∈ S, b < H.next := by
  obtain ⟨v, h1, h2, _⟩ := h
  exact ⟨hw.lt h1, h2.lt hw⟩
theorem StH.three {H0 H : AH} {q : Nat} {L M : List Ent} {mv : Value} (h : StH H0 H q L mv M) (B1 B2 B3 : Blk) : StR H0 H.next (((H.alloc B1).alloc B2).alloc B3) q L mv M := by
  obtain ⟨S, P, h1, h2, h3, h4, h5, h6, h7⟩ := h
  have hk : Keep [] H (((H.alloc B1).alloc B2).alloc B3) := .new_alloc (.new_alloc .alloc)
  obtain ⟨hq, hS⟩ := h5.lt h1
  have hn := h2.next
  refine ⟨S, P, h1.alloc.alloc.alloc, h2.trans' hk, h3, h4, h5.kept h1 hk, h6.kept h1 hk, fun b hb => ?_, hn, by simp, fun b hb hb2 => ⟨by omega, fun hc => by have := hS b hc; omega, fun hc => by have := h7 b hc; omega⟩⟩
  obtain ⟨a1, a2, a3⟩ := h7 b hb
  exact ⟨a1, a2, by simp; omega⟩
theorem StR.kept {H0 H H' : AH} {n0 q : Nat} {L M : List Ent} {mv : Value} (h : StR H0 n0 H q L mv M) (hw : WF H') (hk : Keep [] H H') : StR H0 n0 H' q L mv M ∧ Three n0 H H' := by
  obtain ⟨S, P, h1, h2, h3, h4, h5, h6, h7, h8, h9, h10⟩ := h
  have hn := hk.next
  exact ⟨⟨S, P, hw, h2.trans' hk, h3, h4, h5.kept h1 hk, h6.kept h1 hk, fun b hb => by obtain ⟨a1, a2, a3⟩ := h7 b hb; exact ⟨a1, a2, by omega⟩, h8, by omega, h10⟩, fun b hb hb2 => hk.blk b (by omega) (by simp)⟩
/-- Another list beside it. -/
theorem StR.list {H0 H H' : AH} {n0 q : Nat} {L M M' : List Ent} {mv mv' : Value} (h : StR H0 n0 H q L mv M) (hw : WF H') (hk : EntsN H M' mv' H') : StR H0 n0 H' q L mv' M' ∧ Three n0 H H' := by
  obtain ⟨S, P, h1, h2, h3, h4, h5, h6, h7, h8, h9, h10⟩ := h
  obtain ⟨e1, e2⟩ := hk
  have hn := e2.next
  obtain ⟨hq, hS⟩ := h5.lt h1
  refine ⟨⟨S, fun b => H.next ≤ b ∧ b < H'.next, hw, h2.trans' e2, h3, h4, h5.kept h1 e2, ⟨Vw.below e1.1 hw, e1.2⟩, fun b ⟨hb, hb2⟩ => ⟨by omega, fun hc => by have := hS b hc; omega, hb2⟩, h8, by omega, fun b hb hb2 => ⟨(h10 b hb hb2).1, (h10 b hb hb2).2.1, fun hc => by omega⟩⟩, fun b hb hb2 => e2.blk b (by omega) (by simp)⟩
/-- One of the three rows is written. -/
theorem StR.write {H0 H : AH} {n0 q x : Nat} {L M : List Ent} {mv : Value} {cs : List Value} {t : TypeId} (h : StR H0 n0 H q L mv M) (hx : n0 ≤ x) (hx2 : x < n0 + 3) : StR H0 n0 (H.set x (.row cs t true)) q L mv M := by
  obtain ⟨S, P, h1, h2, h3, h4, h5, h6, h7, h8, h9, h10⟩ := h
  obtain ⟨x1, x2, x3⟩ := h10 x hx hx2
  obtain ⟨v, a1, a2, a3, a4⟩ := h5
  refine ⟨S, P, h1.set (by omega), .new_set (by omega) h2, h3, h4, ⟨v, by rw [AH.set_blk_ne (Ne.symm x1), a1], a2.keep fun b hb => AH.set_blk_ne fun hc => x2 (hc ▸ hb), a3, a4⟩, h6.over fun b hb => AH.cells_set_ne fun hc => x3 (hc ▸ hb), h7, h8, h9, h10⟩
/-- The heap does something. -/
theorem StRx.heap {H0 H H' : AH} {n0 q : Nat} {L L' M : List Ent} {S S' : List Nat} {P : Nat → Prop} {mv : Value} (h : StRx H0 n0 H q L mv M S P) (hw : WF H') (a1 : HeapAt H' q L' S') (a2 : Keep (q :: S) H H') (a3 : ∀ b ∈ S', b ∈ S ∨ H.next ≤ b) : StR H0 n0 H' q L' mv M ∧ Three n0 H H' := by
  obtain ⟨h1, h2, h3, h4, h5, h6, h7, h8, h9, h10⟩ := h
  have hn := a2.next
  have hn0 := h2.next
  refine ⟨⟨S', P, hw, ⟨by omega, fun b hb _ => ?_⟩, h3, fun b hb => ?_, a1, ⟨h6.1.over fun b hb => ?_, h6.2⟩, fun b hb => ?_, h8, by omega, fun b hb hb2 => ?_⟩, fun b hb hb2 => ?_⟩
  · rw [a2.blk b (by omega) (fun hc => by rcases List.mem_cons.1 hc with h | h; omega; have := h4 b h; omega), h2.blk b hb (by simp)]
  · rcases a3 b hb with h | h
    · exact h4 b h
    · omega
  · obtain ⟨b1, b2, b3⟩ := h7 b hb
    unfold AH.cells
    rw [a2.blk b b3 (fun hc => by rcases List.mem_cons.1 hc with h | h; exact b1 h; exact b2 h)]
  · obtain ⟨b1, b2, b3⟩ := h7 b hb
    exact ⟨b1, fun hc => by rcases a3 b hc with h | h; exact b2 h; omega, by omega⟩
  · obtain ⟨b1, b2, b3⟩ := h10 b hb hb2
    exact ⟨b1, fun hc => by rcases a3 b hc with h | h; exact b2 h; omega, b3⟩
  · obtain ⟨b1, b2, b3⟩ := h10 b hb hb2
    exact a2.blk b (by omega) (fun hc => by rcases List.mem_cons.1 hc with h | h; exact b1 h; exact b2 h)

theorem StR.push {H0 H : AH} {n0 q : Nat} {L M : List Ent} {mv : Value} (h : StR H0 n0 H q L mv M) (x : Ent) (hl : L.length < 100000) : AFn Try.prog F_iheap_Heap_Push [.pointer (some ⟨q, 0, none⟩), x.val] H fun u H' => StR H0 n0 H' q (pushL L x) mv M ∧ Three n0 H H' := by
  obtain ⟨S, P, h⟩ := h
  refine (Push_spec h.2.2.2.2.1 x hl).mono' fun u H' w' ⟨S', a1, a2, a3⟩ => h.heap w' a1 a2 a3
theorem StR.popMin {H0 H : AH} {n0 q : Nat} {L M : List Ent} {mv : Value} (h : StR H0 n0 H q L mv M) : AFn Try.prog F_iheap_Heap_PopMin [.pointer (some ⟨q, 0, none⟩)] H fun u H' => u = tellV (tipO L 0) ∧ StR H0 n0 H' q (popL 0 L) mv M ∧ Three n0 H H' := by
  obtain ⟨S, P, h⟩ := h
  refine (PopMin_spec h.2.2.2.2.1).mono' fun u H' w' ⟨a0, a1, a2⟩ => ⟨a0, h.heap w' a1 a2 fun b hb => .inl hb⟩
theorem StR.popMax {H0 H : AH} {n0 q : Nat} {L M : List Ent} {mv : Value} (h : StR H0 n0 H q L mv M) : AFn Try.prog F_iheap_Heap_PopMax [.pointer (some ⟨q, 0, none⟩)] H fun u H' => u = tellV (tipO L 1) ∧ StR H0 n0 H' q (popL 1 L) mv M ∧ Three n0 H H' := by
  obtain ⟨S, P, h⟩ := h
  refine (PopMax_spec h.2.2.2.2.1).mono' fun u H' w' ⟨a0, a1, a2⟩ => ⟨a0, h.heap w' a1 a2 fun b hb => .inl hb⟩
theorem StR.read {H0 H : AH} {n0 q : Nat} {L M : List Ent} {mv : Value} (h : StR H0 n0 H q L mv M) : HeapR H q L ∧ ∃ P, EntsV P H mv M := by
  obtain ⟨S, P, h1, h2, h3, h4, h5, h6, _⟩ := h
  exact ⟨h5.read, P, h6⟩
theorem StR.min {H0 H : AH} {n0 q : Nat} {L M : List Ent} {mv : Value} (h : StR H0 n0 H q L mv M) : AFn Try.prog F_iheap_Heap_Min [.pointer (some ⟨q, 0, none⟩)] H fun u H' => u = tellV (tipO L 0) ∧ StR H0 n0 H' q L mv M ∧ Three n0 H H' :=
  (Min_spec h.read.1).mono' fun u H' w' ⟨a0, a1⟩ => ⟨a0, h.kept w' a1⟩
theorem StR.max {H0 H : AH} {n0 q : Nat} {L M : List Ent} {mv : Value} (h : StR H0 n0 H q L mv M) : AFn Try.prog F_iheap_Heap_Max [.pointer (some ⟨q, 0, none⟩)] H fun u H' => u = tellV (tipO L 1) ∧ StR H0 n0 H' q L mv M ∧ Three n0 H H' :=
  (Max_spec h.read.1).mono' fun u H' w' ⟨a0, a1⟩ => ⟨a0, h.kept w' a1⟩
theorem StR.refPush {H0 H : AH} {n0 q : Nat} {L M : List Ent} {mv : Value} (h : StR H0 n0 H q L mv M) (x : Ent) (hl : M.length < 1000000) : AFn Try.prog F_ref05_Push [mv, x.val] H fun u H' => StR H0 n0 H' q L u (insL Ent.lt M x) ∧ Three n0 H H' := by
  obtain ⟨P, hP⟩ := h.read.2
  exact (Push5_spec hP x hl).mono' fun u H' w' a1 => h.list w' a1
theorem StR.refPop {H0 H : AH} {n0 q : Nat} {L M : List Ent} {mv : Value} (h : StR H0 n0 H q L mv M) (last : Bool) : AFn Try.prog F_ref05_Pop [mv, .bool last] H fun u H' => ∃ w, u = .tuple #[((endE M last).getD zeroE).val, w] ∧ StR H0 n0 H' q L w (restE M last) ∧ Three n0 H H' := by
  obtain ⟨S, P, h1, h2, h3, h4, h5, h6, h7, h8, h9, h10⟩ := h
  refine (Pop5_spec h6 last).mono' fun u H' w' ⟨hk, w, a1, a2⟩ => ⟨w, a1, ?_⟩
  have hn := hk.next
  exact ⟨⟨S, P, w', h2.trans' hk, h3, h4, h5.kept h1 hk, a2, fun b hb => by obtain ⟨a1, a2, a3⟩ := h7 b hb; exact ⟨a1, a2, by omega⟩, h8, by omega, h10⟩, fun b hb hb2 => hk.blk b (by omega) (by simp)⟩
theorem StR.wf {H0 H : AH} {n0 q : Nat} {L M : List Ent} {mv : Value} (h : StR H0 n0 H q L mv M) : WF H := by
  obtain ⟨S, P, h1, _⟩ := h
  exact h1
end Go.Proofs.Ytjcncbejnplakaa
