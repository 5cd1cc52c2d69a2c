/-
  Lists of one's own that grow in regions whose operations are done in any order.
-/
import Derived.Test.YtejifalflkbekaaDoorRen
import Derived.Test.YtejifalflkbekaaDoorAppAt
set_option linter.unusedSimpArgs false
set_option linter.unusedVariables false
namespace Go.Abs
open Go
open Ren (R)
@[simp] theorem offs_right : ∀ {l : List Nat}, offs l [] = True
  | [] => by simp
  | a :: l => by simp [offs_cons, offs_right (l := l)]
theorem WF.at {H H' : AH} {id : Nat} {S : List Nat} (hw : WF H) (hn : H'.next = H.next) (hid : id < H.next) (hS : ∀ b ∈ S, b < H.next) (hf : ∀ b, b ≠ id → b ∉ S → H'.blk b = H.blk b) : WF H' := by
  intro b B hb
  by_cases h1 : b = id
  · omega
  · by_cases h2 : b ∈ S
    · have := hS b h2; omega
    · rw [hf b h1 h2] at hb
      have := hw b B hb; omega
section
variable {α : Type} [Ren α] {p q : Nat → Prop} {H : AH} {ty : Nat} {v : Value} {l : List α} {S : List Nat}
theorem OwnL.blkOf (h : OwnL p H ty v l S) : blkOf (some v) = S := by
  obtain ⟨cells, h1, _⟩ := h
  rcases h1 with ⟨rfl, _, _, rfl⟩ | ⟨b, off, sp, cap, cs, rfl, rfl, _⟩ <;> rfl
theorem OwnL.nil_or (h : OwnL p H ty v l S) : S = [] ∨ ∃ b, S = [b] := by
  obtain ⟨cells, h1, _⟩ := h
  rcases h1 with ⟨_, _, _, rfl⟩ | ⟨b, off, sp, cap, cs, _, rfl, _⟩
  · exact .inl rfl
  · exact .inr ⟨b, rfl⟩
theorem OwnL.pushAt (h : OwnL p H ty v l S) {id : Nat} (hid : id < H.next) {cs : List Value} {a : α} (ha : R q H cs a) (bytes : Nat) (hpq : ∀ b, p b → q b) (hq : ∀ b, q b → b ≠ id ∧ b ∉ S) (hroom : (l.length + 1) * bytes ≤ 140737488355328) (hmax : l.length + 1 ≤ 9223372036854775807) :
    ∃ b' off' sp' c' H', appendAt id H ty (Ren.sz α) bytes v 1 cs = some (.slice (some ⟨b', off', sp'⟩) (l.length + 1) c', H') ∧ OwnL q H' ty (.slice (some ⟨b', off', sp'⟩) (l.length + 1) c') (l ++ [a]) [b'] ∧ H'.next = H.next ∧ (∀ b, b ≠ id → b ∉ S → H'.blk b = H.blk b) ∧ (S = [b'] ∨ b' = id) := by
  obtain ⟨cells, h1, h2, h3⟩ := h
  have hl := Ren.len ha
  have hcl := h1.len
  obtain ⟨b', off', sp', c', H', q1, q2, q3, q4, q5⟩ := h1.pushAt hid (bytes := bytes) (m := 1) (news := cs) (by rw [hl, Nat.one_mul]) (by omega) hroom hmax
  have hsub : Sub q H H' := fun b hb cs hc => by
    unfold AH.cells at hc ⊢
    rw [q4 b (hq b hb).1 (hq b hb).2]; exact hc
  refine ⟨b', off', sp', c', H', q1, ⟨cells ++ cs, by rw [List.length_append]; exact q2, fun i hi => ?_, fun b hb hqb => ?_⟩, q3, q4, q5⟩
  · by_cases hil : i < l.length
    · rw [chunk_append hcl hil, List.getElem_append_left hil]
      exact Ren.up hpq (hsub.less hpq) (h2 i hil)
    · simp at hi
      obtain rfl : i = l.length := by omega
      rw [chunk_new hcl hl]
      simp only [List.getElem_concat_length]
      exact Ren.up (fun _ h => h) hsub ha
  · simp at hb
    subst hb
    rcases q5 with h | h
    · exact (hq b hqb).2 (by rw [h]; simp)
    · exact (hq b hqb).1 h
theorem OwnL.over {H' : AH} (h : OwnL p H ty v l S) (hp : ∀ b, p b → H'.blk b = H.blk b) (hS : ∀ b ∈ S, H'.blk b = H.blk b) : OwnL p H' ty v l S :=
  h.up (fun _ h => h) (fun b hb cs hc => by unfold AH.cells at hc ⊢; rw [hp b hb]; exact hc) hS (let ⟨_, _, _, h3⟩ := h; h3)
end
theorem copyAt {p : Nat → Prop} {H : AH} {v : Value} {l : List Int} (h : SlV p H v l) {id : Nat} (hid : id < H.next) {ty : Nat} (hl : l.length ≤ 1000) : ∃ a c w Hx, v = .slice a l.length c ∧ elemsA H 1 v = some (l.map (.int .i64)) ∧ appendAt id H ty 1 8 (.slice none 0 0) l.length (l.map (.int .i64)) = some (w, Hx) ∧
    SlV (fun b => b = id) Hx w l ∧ Hx.next = H.next ∧ (∀ b, b ≠ id → Hx.blk b = H.blk b) ∧ (one w = true ∧ cellsOf w = some [w]) := by
  obtain ⟨a, c, rfl⟩ := h.slice
  obtain ⟨⟨_, h0⟩, cells, h1, h2⟩ := h
  have hcells : cells = l.map (.int .i64) := by
    have hlen := h1.len
    simp only [sz_int, Nat.mul_one] at hlen
    apply List.ext_getElem (by simpa using hlen)
    intro i q1 q2
    obtain ⟨e, _⟩ := h2 i (by omega)
    have : (chunk 1 i cells)[0]? = some (.int .i64 l[i]) := by
      have e' : chunk 1 i cells = [.int .i64 l[i]] := e
      rw [e']; rfl
    unfold chunk at this
    rw [List.getElem?_take_of_lt (by omega), List.getElem?_drop, Nat.mul_one, Nat.add_zero, List.getElem?_eq_getElem q1] at this
    simpa using this
  have he := h1.elems
  rw [hcells] at he
  by_cases hn : l.length = 0
  · have hl0 : l = [] := List.eq_nil_of_length_eq_zero hn
    subst hl0
    exact ⟨a, c, .slice none 0 0, H, rfl, he, rfl, .nil, rfl, fun _ _ => rfl, rfl, rfl⟩
  · refine ⟨a, c, .slice (some ⟨id, 0, some 1⟩) l.length l.length, H.set id (.row (l.map (.int .i64)) ty true), rfl, he, ?_, ?_, rfl, fun b hb => AH.set_blk_ne hb, rfl, rfl⟩
    · simp only [appendAt, hn, if_false]
      rw [if_pos ⟨by omega, by omega⟩]
      simp only [AH.allocAt_if, if_pos hid]
    · refine ⟨⟨by omega, .of (.inr rfl)⟩, l.map (.int .i64), ⟨by simp, .inr ⟨id, 0, some 1, l.length, _, rfl, Nat.le_refl _, .inr rfl, AH.cells_set_same, ?_, rfl⟩⟩, fun i hi => ?_⟩
      · rw [cut_eq (by simp), List.drop_zero, List.take_of_length_le (by simp)]
      · obtain ⟨e, e2⟩ := h2 i hi
        rw [hcells] at e
        exact ⟨e, e2⟩
end Go.Abs
