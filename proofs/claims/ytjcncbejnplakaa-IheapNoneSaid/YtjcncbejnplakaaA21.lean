/-
  THE ABSTRACT LAYER (21): what a step leaves alone; slices of one's own, and slices that are only read.
-/
import Derived.Test.YtjcncbejnplakaaA20
set_option linter.unusedSimpArgs false
set_option linter.unusedVariables false
namespace Go.Abs
open Go

/-- All but these blocks is as it was. -/
structure Keep (S : List Nat) (H H' : AH) : Prop where
  next : H.next ≤ H'.next
  blk : ∀ b, b < H.next → b ∉ S → H'.blk b = H.blk b

theorem Keep.refl {S : List Nat} {H : AH} : Keep S H H := ⟨Nat.le_refl _, fun _ _ _ => rfl⟩
theorem Keep.trans {S S' : List Nat} {H H' H'' : AH} (h : Keep S H H') (k : Keep S' H' H'') (hs : ∀ b ∈ S', b < H.next → b ∈ S) : Keep S H H'' :=
  ⟨Nat.le_trans h.next k.next, fun b hb hn => by rw [k.blk b (Nat.lt_of_lt_of_le hb h.next) (fun hc => hn (hs b hc hb)), h.blk b hb hn]⟩
theorem Keep.trans' {S : List Nat} {H H' H'' : AH} (h : Keep S H H') (k : Keep S H' H'') : Keep S H H'' := h.trans k fun _ h _ => h
theorem Keep.mono {S S' : List Nat} {H H' : AH} (h : Keep S H H') (hs : ∀ b ∈ S, b < H.next → b ∈ S') : Keep S' H H' := ⟨h.next, fun b hb hn => h.blk b hb fun hc => hn (hs b hc hb)⟩
theorem Keep.set {S : List Nat} {H : AH} {b : Nat} {B : Blk} (hb : b ∈ S ∨ H.next ≤ b) : Keep S H (H.set b B) := by
  refine ⟨Nat.le_refl _, fun a ha hn => AH.set_blk_ne ?_⟩
  rintro rfl
  rcases hb with h | h
  · exact hn h
  · omega
theorem Keep.kill {S : List Nat} {H : AH} {b : Nat} (hb : b ∈ S ∨ H.next ≤ b) : Keep S H (H.kill b) := by
  refine ⟨Nat.le_refl _, fun a ha hn => AH.kill_blk_ne ?_⟩
  rintro rfl
  rcases hb with h | h
  · exact hn h
  · omega
theorem Keep.alloc {S : List Nat} {H : AH} {B : Blk} : Keep S H (H.alloc B) := ⟨by simp, fun b hb _ => AH.alloc_blk_ne (Nat.ne_of_lt hb)⟩

theorem WF.lt {H : AH} (h : WF H) {b : Nat} {B : Blk} (hb : H.blk b = some B) : b < H.next := h b B hb
theorem WF.ne {H : AH} (h : WF H) {b : Nat} {B : Blk} (hb : H.blk b = some B) : b ≠ H.next := Nat.ne_of_lt (h b B hb)

theorem cut_eq {cs : List Value} {off n : Nat} (h : off + n ≤ cs.length) : cut cs off n = some ((cs.drop off).take n) := by simp [cut, h]
theorem cut_spec {cs r : List Value} {off n : Nat} (h : cut cs off n = some r) : off + n ≤ cs.length ∧ r = (cs.drop off).take n ∧ r.length = n ∧ ∀ k, k < n → cs[off + k]? = r[k]? := by
  unfold cut at h
  split at h
  · rename_i hl
    cases h
    refine ⟨hl, rfl, by simp; omega, fun k hk => ?_⟩
    rw [List.getElem?_take_of_lt hk, List.getElem?_drop]
  · cases h

theorem over_get' {cs news : List Value} {off : Nat} (h : off + news.length ≤ cs.length) (k : Nat) : (over cs off news)[k]? = if off ≤ k ∧ k < off + news.length then news[k - off]? else cs[k]? := by
  unfold over
  rw [List.append_assoc]
  by_cases h1 : k < off
  · rw [if_neg (by omega), List.getElem?_append_left (by simp; omega), List.getElem?_take_of_lt h1]
  · have hl : (cs.take off).length = off := by simp; omega
    rw [List.getElem?_append_right (by omega), hl]
    by_cases h2 : k < off + news.length
    · rw [if_pos (by omega), List.getElem?_append_left (by omega)]
    · rw [if_neg (by omega), List.getElem?_append_right (by omega), List.getElem?_drop]
      congr 1; omega

theorem over_cut {cs news : List Value} {off k n : Nat} (hk : k + news.length ≤ n) (h : off + n ≤ cs.length) :
    ((over cs (off + k) news).drop off).take n = over ((cs.drop off).take n) k news := by
  apply List.ext_getElem?
  intro i
  have hl1 : ((cs.drop off).take n).length = n := by simp; omega
  by_cases hi : i < n
  · rw [List.getElem?_take_of_lt hi, List.getElem?_drop, over_get' (by omega), over_get' (by omega), List.getElem?_take_of_lt hi, List.getElem?_drop]
    by_cases hc : k ≤ i ∧ i < k + news.length
    · rw [if_pos (by omega), if_pos (by omega)]; congr 1; omega
    · rw [if_neg (by omega), if_neg (by omega)]
  · rw [List.getElem?_eq_none (by simp; omega), List.getElem?_eq_none (by rw [over_length (by omega)]; omega)]

/-- A slice of one's own: nil, or in a row that nothing else uses. -/
def Own (H : AH) (elem sz : Nat) (v : Value) (n : Nat) (cells : List Value) (S : List Nat) : Prop :=
  (v = .slice none 0 0 ∧ n = 0 ∧ cells = [] ∧ S = []) ∨
  ∃ b off sp cap cs, v = .slice (some ⟨b, off, sp⟩) n cap ∧ S = [b] ∧ H.blk b = some (.row cs elem true) ∧ off + cap * sz ≤ cs.length ∧ n ≤ cap ∧ cells = (cs.drop off).take (n * sz) ∧ (sp = none ∨ sp = some sz)

theorem Own.nil {H : AH} {elem sz : Nat} : Own H elem sz (.slice none 0 0) 0 [] [] := .inl ⟨rfl, rfl, rfl, rfl⟩

theorem Own.slice {H : AH} {elem sz n : Nat} {v : Value} {cells : List Value} {S : List Nat} (h : Own H elem sz v n cells S) : ∃ a c, v = .slice a n c := by
  rcases h with ⟨rfl, rfl, _⟩ | ⟨b, off, sp, cap, cs, rfl, _⟩
  · exact ⟨_, _, rfl⟩
  · exact ⟨_, _, rfl⟩

theorem Own.len {H : AH} {elem sz n : Nat} {v : Value} {cells : List Value} {S : List Nat} (h : Own H elem sz v n cells S) : cells.length = n * sz := by
  rcases h with ⟨rfl, rfl, rfl, _⟩ | ⟨b, off, sp, cap, cs, rfl, _, _, h1, h2, rfl, _⟩
  · simp
  · have := Nat.mul_le_mul_right sz h2; simp; omega

theorem Own.keep {H H' : AH} {elem sz n : Nat} {v : Value} {cells : List Value} {S : List Nat} (h : Own H elem sz v n cells S) (hk : ∀ b ∈ S, H'.blk b = H.blk b) : Own H' elem sz v n cells S := by
  rcases h with h | ⟨b, off, sp, cap, cs, h0, h1, h2, h3⟩
  · exact .inl h
  · exact .inr ⟨b, off, sp, cap, cs, h0, h1, by rw [hk b (by simp [h1]), h2], h3⟩

theorem Own.lt {H : AH} {elem sz n : Nat} {v : Value} {cells : List Value} {S : List Nat} (h : Own H elem sz v n cells S) (hw : WF H) : ∀ b ∈ S, b < H.next := by
  intro b hb
  rcases h with ⟨_, _, _, rfl⟩ | ⟨b', off, sp, cap, cs, h0, rfl, h2, h3⟩
  · simp at hb
  · simp at hb; subst hb; exact hw _ _ h2

/-- A slice that isn't empty, taken apart. -/
theorem Own.at {H : AH} {elem sz n : Nat} {v : Value} {cells : List Value} {S : List Nat} (h : Own H elem sz v n cells S) (hn : 0 < n) :
    ∃ b off sp cap cs, v = .slice (some ⟨b, off, sp⟩) n cap ∧ S = [b] ∧ H.blk b = some (.row cs elem true) ∧ H.cells b = some cs ∧ off + cap * sz ≤ cs.length ∧ n ≤ cap ∧ (sp = none ∨ sp = some sz) ∧ (∀ k, k < n * sz → cs[off + k]? = cells[k]?) ∧ cut cs off (n * sz) = some cells := by
  rcases h with ⟨_, h, _⟩ | ⟨b, off, sp, cap, cs, h0, h1, h2, h3, h4, h5, h6⟩
  · omega
  · have hl := Nat.mul_le_mul_right sz h4
    refine ⟨b, off, sp, cap, cs, h0, h1, h2, AH.cells_of h2, h3, h4, h6, fun k hk => ?_, by rw [cut_eq (by omega), h5]⟩
    rw [h5, List.getElem?_take_of_lt hk, List.getElem?_drop]

theorem Own.elems {H : AH} {elem sz n : Nat} {v : Value} {cells : List Value} {S : List Nat} (h : Own H elem sz v n cells S) : elemsA H sz v = some cells := by
  rcases h with ⟨rfl, rfl, rfl, _⟩ | ⟨b, off, sp, cap, cs, rfl, h1, h2, h3, h4, rfl, h6⟩
  · rfl
  · have hl := Nat.mul_le_mul_right sz h4
    by_cases hn : n = 0
    · subst hn; simp [elemsA]
    · simp [elemsA, hn, AH.cells_of h2, cut_eq (show off + n * sz ≤ cs.length by omega)]

/-- Cells of one's own slice are written. -/
theorem Own.write {H : AH} {elem sz n b off cap : Nat} {sp : Option Nat} {cells cs : List Value} {S : List Nat} (h : Own H elem sz (.slice (some ⟨b, off, sp⟩) n cap) n cells S) (hb : H.blk b = some (.row cs elem true)) {k : Nat} {news : List Value}
    (hk : k + news.length ≤ n * sz) :
    writeA H b (off + k) news = some (H.set b (.row (over cs (off + k) news) elem true)) ∧ Own (H.set b (.row (over cs (off + k) news) elem true)) elem sz (.slice (some ⟨b, off, sp⟩) n cap) n (over cells k news) S ∧ S = [b] := by
  rcases h with ⟨h, _⟩ | ⟨b', off', sp', cap', cs', h0, h1, h2, h3, h4, h5, h6⟩
  · cases h
  · cases h0
    rw [hb] at h2
    cases h2
    have hl := Nat.mul_le_mul_right sz h4
    refine ⟨writeA_of hb (by omega), .inr ⟨b, off, sp, cap, _, rfl, h1, AH.set_blk_same, ?_, h4, ?_, h6⟩, h1⟩
    · rw [over_length (by omega)]; exact h3
    · rw [over_cut hk (by omega), h5]

/-- The first ones of a slice of one's own. -/
theorem Own.first {H : AH} {elem sz n b off cap : Nat} {sp : Option Nat} {cells : List Value} {S : List Nat} (h : Own H elem sz (.slice (some ⟨b, off, sp⟩) n cap) n cells S) {k : Nat} (hk : k ≤ n) :
    Own H elem sz (.slice (some ⟨b, off, sp⟩) k cap) k (cells.take (k * sz)) S := by
  rcases h with ⟨h, _⟩ | ⟨b', off', sp', cap', cs', h0, h1, h2, h3, h4, h5, h6⟩
  · cases h
  · cases h0
    refine .inr ⟨b, off, sp, cap, cs', rfl, h1, h2, h3, by omega, ?_, h6⟩
    rw [h5, List.take_take, Nat.min_eq_left (Nat.mul_le_mul_right sz hk)]

/-- append to a slice of one's own. -/
theorem Own.append {H : AH} {elem sz n bytes m : Nat} {v : Value} {cells news : List Value} {S : List Nat} (h : Own H elem sz v n cells S) (hw : WF H) (hm : news.length = m * sz) (hroom : (n + m) * bytes ≤ 140737488355328) (hmax : n + m ≤ 9223372036854775807) :
    ∃ v' H' S', appendA H elem sz bytes v m news = some (v', H') ∧ Own H' elem sz v' (n + m) (cells ++ news) S' ∧ (S' = S ∨ S' = [H.next]) ∧ Keep S H H' ∧ WF H' ∧ ∀ b ∈ S', b ∈ S ∨ b = H.next := by
  by_cases hm0 : m = 0
  · subst hm0
    have : news = [] := by simpa using hm
    subst this
    refine ⟨v, H, S, ?_, by simpa using h, .inl rfl, .refl, hw, fun b hb => .inl hb⟩
    rcases h with ⟨rfl, _⟩ | ⟨b, off, sp, cap, cs, rfl, _⟩ <;> simp [appendA]
  have helems := h.elems
  have hlen := h.len
  have hnew : ∀ H0 : AH, H0.next = H.next → Own (H0.alloc (.row (cells ++ news) elem true)) elem sz (.slice (some ⟨H.next, 0, some sz⟩) (n + m) (n + m)) (n + m) (cells ++ news) [H.next] := by
    intro H0 h0
    refine .inr ⟨H.next, 0, some sz, n + m, cells ++ news, rfl, rfl, by rw [← h0]; simp, ?_, Nat.le_refl _, ?_, .inr rfl⟩
    · simp [hlen, hm, Nat.add_mul]
    · rw [List.drop_zero, List.take_of_length_le]; simp [hlen, hm, Nat.add_mul]
  rcases h with ⟨rfl, rfl, rfl, rfl⟩ | ⟨b, off, sp, cap, cs, rfl, rfl, h2, h3, h4, h5, h6⟩
  · refine ⟨_, _, [H.next], ?_, hnew H rfl, .inr rfl, .alloc, hw.alloc, fun b hb => .inr (by simpa using hb)⟩
    simp only [appendA, hm0, if_false]
    rw [if_pos ⟨by simpa using hroom, by omega⟩]
    simp
  · by_cases hc : n + m ≤ cap
    · have hl := Nat.mul_le_mul_right sz hc
      rw [Nat.add_mul] at hl
      refine ⟨.slice (some ⟨b, off, sp⟩) (n + m) cap, H.set b (.row (over cs (off + n * sz) news) elem true), [b], ?_, .inr ⟨b, off, sp, cap, _, rfl, rfl, AH.set_blk_same, by rw [over_length (by omega)]; exact h3, hc, ?_, h6⟩, .inl rfl, .set (by simp), hw.set (hw _ _ h2), fun b hb => .inl hb⟩
      · simp only [appendA, hm0, if_false, hc, if_true, writeA_of h2 (show off + n * sz + news.length ≤ cs.length by omega)]; rfl
      · rw [Nat.add_mul, h5]
        apply List.ext_getElem?
        intro i
        have hcl : ((cs.drop off).take (n * sz)).length = n * sz := by simp; omega
        by_cases hi : i < n * sz + m * sz
        · rw [List.getElem?_take_of_lt hi, List.getElem?_drop, over_get' (by omega)]
          by_cases hi2 : i < n * sz
          · rw [if_neg (by omega), List.getElem?_append_left (by omega), List.getElem?_take_of_lt hi2, List.getElem?_drop]
          · rw [if_pos (by omega), List.getElem?_append_right (by omega), hcl]; congr 1; omega
        · rw [List.getElem?_eq_none (by simp; omega), List.getElem?_eq_none (by simp [over]; omega)]
    · rcases h6 with rfl | rfl
      · refine ⟨_, _, [H.next], ?_, hnew H rfl, .inr rfl, .alloc, hw.alloc, fun b hb => .inr (by simpa using hb)⟩
        simp only [appendA, hm0, if_false, hc]
        rw [if_pos ⟨hroom, hmax⟩, helems]
      · refine ⟨_, _, [H.next], ?_, hnew (H.kill b) rfl, .inr rfl, (Keep.kill (S := [b]) (by simp)).trans' .alloc, hw.kill.alloc, fun b hb => .inr (by simpa using hb)⟩
        simp only [appendA, hm0, if_false, hc]
        rw [if_pos ⟨hroom, hmax⟩, helems]
        simp [h2]

theorem Own.alloc {H : AH} {elem sz n : Nat} {v : Value} {cells : List Value} {S : List Nat} (h : Own H elem sz v n cells S) (hw : WF H) {B : Blk} : Own (H.alloc B) elem sz v n cells S :=
  h.keep fun b hb => AH.alloc_blk_ne (Nat.ne_of_lt (h.lt hw b hb))

theorem Own.kept {H H' : AH} {elem sz n : Nat} {v : Value} {cells : List Value} {S T : List Nat} (h : Own H elem sz v n cells S) (hw : WF H) (hk : Keep T H H') (hd : ∀ b ∈ S, b ∉ T) : Own H' elem sz v n cells S :=
  h.keep fun b hb => hk.blk b (h.lt hw b hb) (hd b hb)

/-- append of values that are told one by one. -/
theorem Own.push {H : AH} {elem sz n : Nat} {v : Value} {cells : List Value} {S : List Nat} (h : Own H elem sz v n cells S) (hw : WF H) (e2 : TypeId) (bytes : Nat) (m : Nat) (news : List Value) (hm : news.length = m * sz) (hroom : (n + m) * bytes ≤ 140737488355328) (hmax : n + m ≤ 9223372036854775807) :
    ∃ a' c' H' S', appendA (H.alloc (.row news e2 true)) elem sz bytes v m news = some (.slice a' (n + m) c', H') ∧ Own H' elem sz (.slice a' (n + m) c') (n + m) (cells ++ news) S' ∧ Keep S H H' ∧ WF H' ∧ ∀ b ∈ S', b ∈ S ∨ H.next ≤ b := by
  obtain ⟨v', H', S', q1, q2, q3, q4, q5, q6⟩ := (h.alloc hw (B := .row news e2 true)).append hw.alloc (bytes := bytes) hm hroom hmax
  obtain ⟨a', c', rfl⟩ := q2.slice
  refine ⟨a', c', H', S', q1, q2, Keep.alloc.trans' q4, q5, fun b hb => ?_⟩
  rcases q6 b hb with h | h
  · exact .inl h
  · simp at h; right; omega

end Go.Abs
