/-
  Law 6 (2): lists of entries; all.
-/
import Derived.Test.YtgecnmjohhmfjaaLaw06
import Derived.Test.YtgecnmjohhmfjaaIlawA
set_option maxRecDepth 100000
set_option linter.unusedSimpArgs false
set_option linter.unusedVariables false
namespace Go.Proofs.Ytgecnmjohhmfjaa
open Go Go.Abs
def EntsV (p : Nat → Prop) (H : AH) (v : Value) (L : List Ent) : Prop := Vw p H 4 v L.length (cellsE L) ∧ L.length ≤ 1000000
def EntsN (H : AH) (L : List Ent) (u : Value) (H' : AH) : Prop := EntsV (fun b => H.next ≤ b) H' u L ∧ Keep [] H H'
theorem EntsV.kept {p : Nat → Prop} {H H' : AH} {v : Value} {L : List Ent} (h : EntsV p H v L) (hw : WF H) (hk : Keep [] H H') : EntsV p H' v L := ⟨h.1.kept hw hk, h.2⟩
theorem EntsV.same {p : Nat → Prop} {H H0 : AH} {v : Value} {L : List Ent} (h : EntsV p H v L) (hs : SameC H H0) : EntsV p H0 v L := ⟨h.1.same hs, h.2⟩
theorem EntsV.mono {p q : Nat → Prop} {H : AH} {v : Value} {L : List Ent} (h : EntsV p H v L) (hpq : ∀ b, p b → q b) : EntsV q H v L := ⟨h.1.mono hpq, h.2⟩
theorem EntsV.over {p : Nat → Prop} {H H' : AH} {v : Value} {L : List Ent} (h : EntsV p H v L) (hk : ∀ b, p b → H'.cells b = H.cells b) : EntsV p H' v L := ⟨h.1.over hk, h.2⟩
theorem EntsV.nil {p : Nat → Prop} {H : AH} : EntsV p H (.slice none 0 0) [] := ⟨.nil, by simp⟩
theorem acc_ents {ty : Nat} {H H' : AH} {L : List Ent} {out : Value} (h : Acc H ty 4 (cellsE L) L.length out H') (hl : L.length ≤ 1000000) : EntsN H L out H' := by
  obtain ⟨S, o, k, hS⟩ := h.done (cellsE_length L)
  exact ⟨⟨o.vw hS, hl⟩, k⟩
theorem own_ents {ty : Nat} {H H' : AH} {L : List Ent} {u : Value} {S : List Nat} (o : Own H' ty 4 u L.length (cellsE L) S) (hk : Keep [] H H') (hS : ∀ b ∈ S, H.next ≤ b) (hl : L.length ≤ 1000000) : EntsN H L u H' := ⟨⟨o.vw hS, hl⟩, hk⟩
theorem drop_ent {L : List Ent} {k : Nat} (h : k < L.length) : ((cellsE L).drop (k * 4)).take 4 = (getE L k).cells := by
  rw [cellsE_get L k h]; unfold getE; rw [List.getElem?_eq_getElem h]; rfl
theorem ents_at {p : Nat → Prop} {H : AH} {v : Value} {L : List Ent} (h : Vw p H 4 v L.length (cellsE L)) (h0 : 0 < L.length) : ∃ b off sp cap cs, v = .slice (some ⟨b, off, sp⟩) L.length cap ∧ H.cells b = some cs ∧ ∀ k, k < L.length → cut cs (off + k * 4) 4 = some (getE L k).cells := by
  obtain ⟨b, off, sp, cap, cs, h1, h2, h3⟩ := entries_at h h0
  refine ⟨b, off, sp, cap, cs, h1, h2, fun k hk => ?_⟩
  rw [h3 k hk]; unfold getE; rw [List.getElem?_eq_getElem hk]; rfl
end Go.Proofs.Ytgecnmjohhmfjaa
