/-
  Plain law: lists in order; the list in order of given things is one alone.
-/
import Derived.Test.YtejifalflkbekaaDoorA5
namespace Go.Abs
structure IsOrd {α : Type} (lt : α → α → Bool) : Prop where
  irr : ∀ a, lt a a = false
  trans : ∀ a b c, lt a b = true → lt b c = true → lt a c = true
  tri : ∀ a b, lt a b = false → lt b a = false → a = b
variable {α : Type} {lt : α → α → Bool}
theorem IsOrd.asymm (h : IsOrd lt) {a b : α} (hab : lt a b = true) : lt b a = false := by
  cases hb : lt b a with
  | false => rfl
  | true => have := h.trans _ _ _ hab hb; rw [h.irr] at this; exact this.symm
theorem IsOrd.le_trans (h : IsOrd lt) {a b c : α} (h1 : lt b a = false) (h2 : lt c b = false) : lt c a = false := by
  cases hc : lt c a with
  | false => rfl
  | true =>
    cases hb : lt a b with
    | true => have := h.trans _ _ _ hc hb; rw [h2] at this; exact this.symm
    | false =>
      have := h.tri _ _ hb h1
      subst this
      rw [h2] at hc
      exact hc.symm
def insL (lt : α → α → Bool) : List α → α → List α
  | [], x => [x]
  | y :: l, x => if lt x y then x :: y :: l else y :: insL lt l x
def Srt (lt : α → α → Bool) (l : List α) : Prop := l.Pairwise fun a b => lt b a = false
theorem insL_perm (l : List α) (x : α) : (insL lt l x).Perm (x :: l) := by
  induction l with
  | nil => exact .refl _
  | cons y l ih =>
    unfold insL
    split
    · exact .refl _
    · exact (List.Perm.cons y ih).trans (.swap x y l)
theorem insL_length (l : List α) (x : α) : (insL lt l x).length = l.length + 1 := by simpa using (insL_perm (lt := lt) l x).length_eq
theorem insL_srt (ho : IsOrd lt) {l : List α} (hl : Srt lt l) (x : α) : Srt lt (insL lt l x) := by
  induction l with
  | nil => exact List.pairwise_cons.2 ⟨by simp, .nil⟩
  | cons y l ih =>
    obtain ⟨h1, h2⟩ := List.pairwise_cons.1 hl
    unfold insL
    split
    · rename_i hx
      refine List.pairwise_cons.2 ⟨fun z hz => ?_, hl⟩
      rcases List.mem_cons.1 hz with rfl | hz
      · exact ho.asymm hx
      · exact ho.le_trans (ho.asymm hx) (h1 z hz)
    · rename_i hx
      refine List.pairwise_cons.2 ⟨fun z hz => ?_, ih h2⟩
      rcases List.mem_cons.1 ((insL_perm l x).mem_iff.1 hz) with rfl | hz
      · simpa using hx
      · exact h1 z hz
theorem srt_unique (ho : IsOrd lt) : ∀ {l m : List α}, Srt lt l → Srt lt m → l.Perm m → l = m
  | [], m, _, _, hp => by simpa using hp.symm.eq_nil.symm
  | a :: l, [], _, _, hp => by simpa using hp.eq_nil
  | a :: l, b :: m, hl, hm, hp => by
    obtain ⟨h1, h2⟩ := List.pairwise_cons.1 hl
    obtain ⟨h3, h4⟩ := List.pairwise_cons.1 hm
    have hab : a = b := by
      have ha : a ∈ b :: m := hp.mem_iff.1 (by simp)
      have hb : b ∈ a :: l := hp.mem_iff.2 (by simp)
      rcases List.mem_cons.1 ha with h | ha
      · exact h
      · rcases List.mem_cons.1 hb with h | hb
        · exact h.symm
        · exact ho.tri _ _ (h3 a ha) (h1 b hb)
    subst hab
    rw [srt_unique ho h2 h4 hp.cons_inv]
def sortL (lt : α → α → Bool) (l : List α) : List α := l.foldl (insL lt) []
theorem foldl_ins (ho : IsOrd lt) : ∀ (l acc : List α), Srt lt acc → Srt lt (l.foldl (insL lt) acc) ∧ (l.foldl (insL lt) acc).Perm (l ++ acc)
  | [], acc, h => ⟨h, .refl _⟩
  | x :: l, acc, h => by
    obtain ⟨h1, h2⟩ := foldl_ins ho l (insL lt acc x) (insL_srt ho h x)
    refine ⟨h1, h2.trans ?_⟩
    exact ((insL_perm acc x).append_left l).trans List.perm_middle
theorem sortL_srt (ho : IsOrd lt) (l : List α) : Srt lt (sortL lt l) := (foldl_ins ho l [] .nil).1
theorem sortL_perm (ho : IsOrd lt) (l : List α) : (sortL lt l).Perm l := by have h := (foldl_ins ho l [] .nil).2; rw [List.append_nil] at h; exact h
theorem sortL_eq (ho : IsOrd lt) {l m : List α} (h : l.Perm m) : sortL lt l = sortL lt m :=
  srt_unique ho (sortL_srt ho l) (sortL_srt ho m) (((sortL_perm ho l).trans h).trans (sortL_perm ho m).symm)
theorem insL_sortL (ho : IsOrd lt) (l : List α) (x : α) : insL lt (sortL lt l) x = sortL lt (x :: l) :=
  srt_unique ho (insL_srt ho (sortL_srt ho l) x) (sortL_srt ho _) ((insL_perm _ x).trans (((sortL_perm ho l).cons x).trans (sortL_perm ho _).symm))
end Go.Abs
