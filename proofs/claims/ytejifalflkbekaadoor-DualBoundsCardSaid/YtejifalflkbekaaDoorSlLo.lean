/-
  v[m:].
-/
import Derived.Test.YtejifalflkbekaaDoorRen
set_option linter.unusedSimpArgs false
set_option linter.unusedVariables false
namespace Go.Abs
open Go
def slB (H : AH) (sz : Nat) (v lo : Option Value) : Option (Value × AH) :=
  match v, lo with
  | some (.slice none 0 0), some (.int _ i) => if 0 ≤ i ∧ i ≤ 0 then some (.slice none 0 0, H) else none
  | some (.slice (some ⟨b, off, none⟩) n cap), some (.int _ i) => if 0 ≤ i ∧ i ≤ (n : Int) then some (.slice (some ⟨b, if cap = i.toNat then off else off + i.toNat * sz, none⟩) (n - i.toNat) (cap - i.toNat), H) else none
  | some (.slice (some ⟨b, off, some t⟩) n cap), some (.int _ i) => if 0 ≤ i ∧ i ≤ (n : Int) then (if t = sz then some (.slice (some ⟨b, off + i.toNat * sz, some t⟩) (n - i.toNat) (cap - i.toNat), H) else none) else none
  | _, _ => none
theorem ieval_sllo {env : Env} {H : AH} {sz : Nat} {x lo : Operand} : ieval (.sl sz x (some lo) none none) env H = slB H sz (aval env x) (aval env lo) := by
  simp only [ieval, boundsA, boundA]
  generalize aval env x = v
  generalize aval env lo = h
  cases v with
  | none => rfl
  | some v =>
    cases v <;> try rfl
    rename_i a n c
    cases a with
    | none =>
      cases n <;> cases c <;> try rfl
      cases h with
      | none => rfl
      | some h =>
        cases h <;> try rfl
        rename_i k i
        by_cases hi : 0 ≤ i ∧ i ≤ 0 <;> simp [slB, hi]
    | some a =>
      obtain ⟨b, off, sp⟩ := a
      cases h with
      | none => cases sp <;> rfl
      | some h =>
        cases h <;> try (cases sp <;> rfl)
        rename_i k i
        cases sp with
        | none => by_cases hi : 0 ≤ i ∧ i ≤ (n : Int) <;> simp [slB, hi]
        | some t => by_cases hi : 0 ≤ i ∧ i ≤ (n : Int) <;> simp [slB, hi]
theorem Vw.dr {p : Nat → Prop} {H : AH} {sz n : Nat} {v : Value} {cells : List Value} (h : Vw p H sz v n cells) (h0 : SpOk sz v) {m : Nat} (hm : m ≤ n) : ∃ w, slB H sz (some v) (some (.int .i64 m)) = some (w, H) ∧ Vw p H sz w (n - m) (cells.drop (m * sz)) ∧ SpOk sz w := by
  obtain ⟨hlen, ⟨hn, a, c, rfl, hac⟩ | ⟨b, off, sp, cap, cs, rfl, h1, h2, h3, h4, h5⟩⟩ := id h
  · subst hn
    obtain rfl : m = 0 := by omega
    have hw : ∀ a c, (a = none → c = 0) → Vw p H sz (.slice a 0 c) 0 (cells.drop (0 * sz)) := fun a c hac => ⟨by simp at hlen; simp [hlen], .inl ⟨rfl, a, c, rfl, hac⟩⟩
    cases a with
    | none =>
      obtain rfl := hac rfl
      exact ⟨.slice none 0 0, by simp [slB], hw _ _ fun _ => rfl, .nil⟩
    | some a =>
      obtain ⟨b, off, sp⟩ := a
      rcases h0 _ _ _ _ _ rfl with rfl | rfl
      · exact ⟨.slice (some ⟨b, off, none⟩) 0 c, by simp [slB], hw _ _ (fun h => by cases h), .of (.inl rfl)⟩
      · exact ⟨.slice (some ⟨b, off, some sz⟩) 0 c, by simp [slB], hw _ _ (fun h => by cases h), .of (.inr rfl)⟩
  · have hlen2 : (cells.drop (m * sz)).length = (n - m) * sz := by rw [List.length_drop, hlen, Nat.sub_mul]
    have hcut : cut cs (off + m * sz) ((n - m) * sz) = some (cells.drop (m * sz)) := by
      obtain ⟨q1, q2, q3, q4⟩ := cut_spec h4
      have := Nat.mul_le_mul_right sz hm
      rw [cut_eq (by rw [Nat.sub_mul]; omega), q2, Nat.sub_mul, List.drop_take, List.drop_drop]
    rcases h2 with rfl | rfl
    · refine ⟨.slice (some ⟨b, if cap = m then off else off + m * sz, none⟩) (n - m) (cap - m), ?_, ⟨hlen2, ?_⟩, .of (.inl rfl)⟩
      · simp only [slB]
        rw [if_pos (by omega)]; simp
      · by_cases hnm : n - m = 0
        · exact .inl ⟨hnm, _, _, by rw [hnm], fun h => by cases h⟩
        · rw [if_neg (by omega)]
          exact .inr ⟨b, _, none, _, cs, rfl, by omega, .inl rfl, h3, hcut, h5⟩
    · refine ⟨.slice (some ⟨b, off + m * sz, some sz⟩) (n - m) (cap - m), ?_, ⟨hlen2, .inr ⟨b, _, _, _, cs, rfl, by omega, .inr rfl, h3, hcut, h5⟩⟩, .of (.inr rfl)⟩
      simp only [slB]
      rw [if_pos (by omega)]; simp
theorem SlV.dr {α : Type} [Ren α] {p : Nat → Prop} {H : AH} {v : Value} {l : List α} (h : SlV p H v l) {m : Nat} (hm : m ≤ l.length) : ∃ w, slB H (Ren.sz α) (some v) (some (.int .i64 m)) = some (w, H) ∧ SlV p H w (l.drop m) := by
  obtain ⟨⟨h1, h0⟩, cells, h2, h3⟩ := h
  obtain ⟨w, q1, q2, q3⟩ := h2.dr h0 hm
  have hkl : (l.drop m).length = l.length - m := by rw [List.length_drop]
  refine ⟨w, q1, ⟨by omega, q3⟩, cells.drop (m * Ren.sz α), by rw [hkl]; exact q2, fun i hi => ?_⟩
  rw [hkl] at hi
  rw [chunk_drop, List.getElem_drop]
  exact h3 (m + i) (by omega)
end Go.Abs
