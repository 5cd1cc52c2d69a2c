/-
  Plain law: a heap with two ends, level by level: what stands below what; when something goes down, or up.
-/
import Derived.Test.YtgecnmjohhmfjaaIordA
set_option linter.unusedVariables false
namespace Go.Abs
variable {α : Type} {lt : α → α → Bool}
def parB (i : Nat) : Bool := if h : i = 0 then true else !parB ((i - 1) / 2)
termination_by i
decreasing_by omega
theorem parB_zero : parB 0 = true := by rw [parB]; rfl
theorem parB_pos {i : Nat} (h : 0 < i) : parB i = !parB ((i - 1) / 2) := by rw [parB, dif_neg (by omega)]
inductive Under (i : Nat) : Nat → Prop
  | child (d : Nat) (h : 0 < d) (hp : (d - 1) / 2 = i) : Under i d
  | more (d : Nat) (h : 0 < d) (hu : Under i ((d - 1) / 2)) : Under i d
theorem Under.ge {i d : Nat} (h : Under i d) : 2 * i + 1 ≤ d := by
  induction h with
  | child d h hp => omega
  | more d h hu ih => omega
theorem Under.inv {i d : Nat} (h : Under i d) : 0 < d ∧ ((d - 1) / 2 = i ∨ Under i ((d - 1) / 2)) := by
  cases h with
  | child _ h hp => exact ⟨h, .inl hp⟩
  | more _ h hu => exact ⟨h, .inr hu⟩
theorem Under.trans {i j d : Nat} (h1 : Under i j) (h2 : Under j d) : Under i d := by
  induction h2 with
  | child d h hp => exact .more d h (by rw [hp]; exact h1)
  | more d h hu ih => exact .more d h ih
theorem under_parent {d : Nat} (h : 0 < d) : Under ((d - 1) / 2) d := .child d h rfl
theorem under_zero : ∀ (d : Nat), 0 < d → Under 0 d := by
  intro d
  induction d using Nat.strongRecOn with
  | ind d ih =>
    intro h
    by_cases hp : (d - 1) / 2 = 0
    · exact .child d h hp
    · exact .more d h (ih _ (by omega) (by omega))
theorem under_line {i j : Nat} : ∀ {d : Nat}, Under i d → Under j d → i = j ∨ Under i j ∨ Under j i := by
  intro d
  induction d using Nat.strongRecOn with
  | ind d ih =>
    intro h1 h2
    obtain ⟨h0, a⟩ := h1.inv
    obtain ⟨_, b⟩ := h2.inv
    rcases a with a | a <;> rcases b with b | b
    · left; omega
    · right; right; rw [← a]; exact b
    · right; left; rw [← b]; exact a
    · exact ih _ (by omega) a b
def Grand (i g : Nat) : Prop := 0 < g ∧ 0 < (g - 1) / 2 ∧ ((g - 1) / 2 - 1) / 2 = i
def Desc2 (i k : Nat) : Prop := (0 < k ∧ (k - 1) / 2 = i) ∨ Grand i k
theorem Grand.under {i g : Nat} (h : Grand i g) : Under i g := .more g h.1 (.child _ h.2.1 h.2.2)
theorem Desc2.under {i k : Nat} (h : Desc2 i k) : Under i k := by
  rcases h with h | h
  · exact .child k h.1 h.2
  · exact h.under
theorem Grand.par {i g : Nat} (h : Grand i g) : parB g = parB i := by
  rw [parB_pos h.1, parB_pos h.2.1, h.2.2, Bool.not_not]
theorem under_two {i d : Nat} (h : Under i d) : (0 < d ∧ (d - 1) / 2 = i) ∨ ∃ g, Grand i g ∧ (d = g ∨ Under g d) := by
  induction h with
  | child d h hp => exact .inl ⟨h, hp⟩
  | more d h hu ih =>
    rcases ih with ⟨h1, h2⟩ | ⟨g, hg, h3⟩
    · exact .inr ⟨d, ⟨h, h1, h2⟩, .inl rfl⟩
    · refine .inr ⟨g, hg, .inr ?_⟩
      rcases h3 with h3 | h3
      · exact .child d h h3
      · exact .more d h h3
theorem under_mid {i j k : Nat} (hk : Grand i k) (h1 : Under i j) (h2 : Under j k) : j = (k - 1) / 2 := by
  obtain ⟨_, a⟩ := h2.inv
  rcases a with a | a
  · exact a.symm
  · exfalso
    obtain ⟨_, b⟩ := a.inv
    have := h1.ge
    rcases b with b | b
    · rw [hk.2.2] at b; omega
    · rw [hk.2.2] at b; have := b.ge; omega
theorem under_none {i j k : Nat} (hk : (k - 1) / 2 = i) (h1 : Under i j) (h2 : Under j k) : False := by
  obtain ⟨_, a⟩ := h2.inv
  have := h1.ge
  rcases a with a | a
  · omega
  · have := a.ge; omega
def RB (lt : α → α → Bool) (s : Bool) (a b : α) : Bool := if s then lt a b else lt b a
theorem RB_not {s : Bool} {a b : α} : RB lt (!s) a b = RB lt s b a := by cases s <;> rfl
theorem RB_ord (ho : IsOrd lt) (s : Bool) : IsOrd (RB lt s) := by
  cases s with
  | true => exact ⟨ho.irr, ho.trans, ho.tri⟩
  | false => exact ⟨ho.irr, fun a b c h1 h2 => ho.trans _ _ _ h2 h1, fun a b h1 h2 => ho.tri _ _ h2 h1⟩
def CondAt (lt : α → α → Bool) (f : Nat → α) (n j : Nat) : Prop := ∀ d, d < n → Under j d → RB lt (parB j) (f d) (f j) = false
def StM (lt : α → α → Bool) (f : Nat → α) (n : Nat) : Prop := ∀ j, CondAt lt f n j
def DownI (lt : α → α → Bool) (f : Nat → α) (n m i : Nat) : Prop := m ≤ i ∧ i < n ∧ ∀ j, m ≤ j → j < n → j ≠ i → CondAt lt f n j
def FromI (lt : α → α → Bool) (f : Nat → α) (n m : Nat) : Prop := ∀ j, m ≤ j → j < n → CondAt lt f n j
theorem DownI.done (ho : IsOrd lt) {f : Nat → α} {n m i : Nat} (h : DownI lt f n m i) (hb : ∀ k, k < n → Desc2 i k → RB lt (parB i) (f k) (f i) = false) : FromI lt f n m := by
  obtain ⟨h1, h2, h3⟩ := h
  intro j hj hjn
  by_cases hji : j = i
  · subst hji
    intro d hd hu
    rcases under_two hu with hc | ⟨g, hg, hdg⟩
    · exact hb d hd (.inl hc)
    · rcases hdg with rfl | hdg
      · exact hb d hd (.inr hg)
      · have hgj := hg.under.ge
        have hgd := hdg.ge
        have c := h3 g (by omega) (by omega) (by omega) d hd hdg
        rw [hg.par] at c
        exact (RB_ord ho _).le_trans (hb g (by omega) (.inr hg)) c
  · exact h3 j hj hjn hji
theorem sw_l {f : Nat → α} {i k : Nat} : sw f i k i = f k := by simp [sw]
theorem sw_r {f : Nat → α} {i k : Nat} : sw f i k k = f i := by unfold sw; split; (rename_i h; rw [h]); rw [if_pos rfl]
theorem sw_o {f : Nat → α} {i k m : Nat} (h1 : m ≠ i) (h2 : m ≠ k) : sw f i k m = f m := by simp [sw, h1, h2]
theorem DownI.child (ho : IsOrd lt) {f : Nat → α} {n m i k : Nat} (h : DownI lt f n m i) (hk : k < n) (hc : 0 < k ∧ (k - 1) / 2 = i)
    (hb : ∀ c, c < n → Desc2 i c → RB lt (parB i) (f c) (f k) = false) (hl : RB lt (parB i) (f k) (f i) = true) : FromI lt (sw f k i) n m := by
  obtain ⟨h1, h2, h3⟩ := h
  have hR := RB_ord ho (parB i)
  have hik : i < k := by omega
  have hu : Under i k := .child k hc.1 hc.2
  have hpk : parB k = !parB i := by rw [parB_pos hc.1, hc.2]
  intro j hj hjn d hd hjd
  have hjd2 := hjd.ge
  by_cases hji : j = i
  · subst hji
    rw [sw_r]
    by_cases hdk : d = k
    · subst hdk; rw [sw_l]; exact hR.asymm hl
    · rw [sw_o hdk (by omega)]
      rcases under_two hjd with hcd | ⟨g, hg, hdg⟩
      · exact hb d hd (.inl hcd)
      · rcases hdg with rfl | hdg
        · exact hb d hd (.inr hg)
        · have hgj := hg.under.ge
          have hgd := hdg.ge
          have c := h3 g (by omega) (by omega) (by omega) d hd hdg
          rw [hg.par] at c
          exact hR.le_trans (hb g (by omega) (.inr hg)) c
  · by_cases hjk : j = k
    · subst hjk
      rw [sw_l, sw_o (by omega) (by omega)]
      have c := h3 j hj hjn hji d hd hjd
      rw [hpk, RB_not] at c ⊢
      cases hx : RB lt (parB i) (f i) (f d) with
      | false => rfl
      | true => have := hR.trans _ _ _ hl hx; rw [c] at this; exact this.symm
    · rw [sw_o hjk hji]
      have c := h3 j hj hjn hji
      by_cases hdi : d = i
      · subst hdi; rw [sw_r]; exact c k hk (hjd.trans hu)
      · by_cases hdk : d = k
        · subst hdk
          rw [sw_l]
          rcases under_line hjd hu with q | q | q
          · exact absurd q hji
          · exact c i h2 q
          · exact (under_none hc.2 q hjd).elim
        · rw [sw_o hdk hdi]; exact c d hd hjd
theorem DownI.grand (ho : IsOrd lt) {f : Nat → α} {n m i k p : Nat} (h : DownI lt f n m i) (hk : k < n) (hc : Grand i k) (hp : p = (k - 1) / 2)
    (hb : ∀ c, c < n → Desc2 i c → RB lt (parB i) (f c) (f k) = false) (hl : RB lt (parB i) (f k) (f i) = true) :
    (RB lt (parB i) (f p) (f i) = false → DownI lt (sw f k i) n m k) ∧ (RB lt (parB i) (f p) (f i) = true → DownI lt (sw (sw f k i) p k) n m k) := by
  obtain ⟨h1, h2, h3⟩ := h
  have hR := RB_ord ho (parB i)
  have hu : Under i k := hc.under
  have huk := hu.ge
  have hpi : 0 < p ∧ (p - 1) / 2 = i := by rw [hp]; exact hc.2
  have hup : Under i p := .child p hpi.1 hpi.2
  have hupk : Under p k := by rw [hp]; exact under_parent hc.1
  have h4 := hup.ge
  have h5 := hupk.ge
  have hpp : parB p = !parB i := by rw [parB_pos hpi.1, hpi.2]
  have hpar := hc.par
  -- what stands at a place below i, neither k nor p
  have low : ∀ d, d < n → Under i d → RB lt (parB i) (f d) (f k) = false := by
    intro d hd hjd
    rcases under_two hjd with hcd | ⟨g, hg, hdg⟩
    · exact hb d hd (.inl hcd)
    · rcases hdg with rfl | hdg
      · exact hb d hd (.inr hg)
      · have hgj := hg.under.ge
        have hgd := hdg.ge
        have c := h3 g (by omega) (by omega) (by omega) d hd hdg
        rw [hg.par] at c
        exact hR.le_trans (hb g (by omega) (.inr hg)) c
  have cp := h3 p (by omega) (by omega) (by omega)
  constructor
  · intro hx
    refine ⟨by omega, hk, fun j hj hjn hjk d hd hjd => ?_⟩
    have hjd2 := hjd.ge
    by_cases hji : j = i
    · subst hji
      rw [sw_r]
      by_cases hdk : d = k
      · subst hdk; rw [sw_l]; exact hR.asymm hl
      · rw [sw_o hdk (by omega)]; exact low d hd hjd
    · rw [sw_o hjk hji]
      have c := h3 j hj hjn hji
      by_cases hjp : j = p
      · subst hjp
        by_cases hdk : d = k
        · subst hdk; rw [sw_l, hpp, RB_not]; exact hx
        · rw [sw_o hdk (by omega)]; exact c d hd hjd
      · by_cases hdi : d = i
        · subst hdi; rw [sw_r]; exact c k hk (hjd.trans hu)
        · by_cases hdk : d = k
          · subst hdk
            rw [sw_l]
            rcases under_line hjd hu with q | q | q
            · exact absurd q hji
            · exact c i h2 q
            · exact absurd ((under_mid hc q hjd).trans hp.symm) hjp
          · rw [sw_o hdk hdi]; exact c d hd hjd
  · intro hx
    have g1 : sw (sw f k i) p k k = f p := by rw [sw_r, sw_o (by omega) (by omega)]
    have g2 : sw (sw f k i) p k p = f i := by rw [sw_l, sw_l]
    have g3 : sw (sw f k i) p k i = f k := by rw [sw_o (by omega) (by omega), sw_r]
    have g4 : ∀ x, x ≠ k → x ≠ i → x ≠ p → sw (sw f k i) p k x = f x := fun x a b c => by rw [sw_o c a, sw_o a b]
    refine ⟨by omega, hk, fun j hj hjn hjk d hd hjd => ?_⟩
    have hjd2 := hjd.ge
    by_cases hji : j = i
    · subst hji
      rw [g3]
      by_cases hdk : d = k
      · subst hdk; rw [g1]; exact low p (by omega) hup
      · by_cases hdp : d = p
        · subst hdp; rw [g2]; exact hR.asymm hl
        · rw [g4 d hdk (by omega) hdp]; exact low d hd hjd
    · by_cases hjp : j = p
      · subst hjp
        rw [g2, hpp, RB_not]
        by_cases hdk : d = k
        · subst hdk; rw [g1]; exact hR.asymm hx
        · rw [g4 d hdk (by omega) (by omega)]
          have c := cp d hd hjd
          rw [hpp, RB_not] at c
          cases hy : RB lt (parB i) (f i) (f d) with
          | false => rfl
          | true => have := hR.trans _ _ _ hx hy; rw [c] at this; exact this.symm
      · rw [g4 j hjk hji hjp]
        have c := h3 j hj hjn hji
        have up : ∀ q, q < n → Under i q → d = q → (∀ r, Under i r → r = q → ∃ w, w < n ∧ (w = i ∨ Under i w) ∧ sw (sw f k i) p k q = f w) → Under j i → RB lt (parB j) (sw (sw f k i) p k d) (f j) = false := by
          intro q hq hiq e he hji2
          obtain ⟨w, hw, hw2, hw3⟩ := he q hiq rfl
          rw [e, hw3]
          rcases hw2 with rfl | hw2
          · exact c w hw hji2
          · exact c w hw (hji2.trans hw2)
        by_cases hdi : d = i
        · subst hdi; rw [g3]; exact c k hk (hjd.trans hu)
        · by_cases hdk : d = k
          · subst hdk
            rcases under_line hjd hu with q | q | q
            · exact absurd q hji
            · rw [g1]; exact c p (by omega) (q.trans hup)
            · exact absurd ((under_mid hc q hjd).trans hp.symm) hjp
          · by_cases hdp : d = p
            · subst hdp
              rcases under_line hjd hup with q | q | q
              · exact absurd q hji
              · rw [g2]; exact c i h2 q
              · exact (under_none hpi.2 q hjd).elim
            · rw [g4 d hdk hdi hdp]; exact c d hd hjd
def UpI (lt : α → α → Bool) (f : Nat → α) (n i : Nat) : Prop := i < n ∧ ∀ j d, d < n → Under j d → (d ≠ i ∨ parB j ≠ parB i) → RB lt (parB j) (f d) (f j) = false
theorem UpI.done0 {f : Nat → α} {n i : Nat} (h : UpI lt f n i) (hi : i ≤ 2) : StM lt f n := by
  intro j d hd hu
  refine h.2 j d hd hu ?_
  by_cases hdi : d = i
  · subst hdi
    right
    have := hu.ge
    have hj : j = 0 := by omega
    subst hj
    have hp : parB d = !parB 0 := by rw [parB_pos (by omega), show (d - 1) / 2 = 0 by omega]
    rw [hp]
    cases parB 0 <;> simp
  · exact .inl hdi
theorem up_line {j i : Nat} (h : Under j i) (hi : 2 < i) (hp : parB j = parB i) : j = ((i - 1) / 2 - 1) / 2 ∨ Under j (((i - 1) / 2 - 1) / 2) := by
  obtain ⟨h0, a⟩ := h.inv
  rcases a with a | a
  · exfalso
    rw [parB_pos h0, a] at hp
    cases hx : parB j <;> rw [hx] at hp <;> simp at hp
  · obtain ⟨_, b⟩ := a.inv
    rcases b with b | b
    · exact .inl b.symm
    · exact .inr b
theorem UpI.done (ho : IsOrd lt) {f : Nat → α} {n i u : Nat} (h : UpI lt f n i) (hi : 2 < i) (hu : u = ((i - 1) / 2 - 1) / 2) (hl : RB lt (parB i) (f i) (f u) = false) : StM lt f n := by
  obtain ⟨h1, h2⟩ := h
  intro j d hd hjd
  by_cases hdi : d = i
  · subst hdi
    by_cases hp : parB j = parB d
    · have hR := RB_ord ho (parB d)
      rw [hp]
      rcases up_line hjd hi hp with q | q
      · rw [q, ← hu]; exact hl
      · rw [← hu] at q
        have := h2 j u (by omega) q (.inl (by omega))
        rw [hp] at this
        exact hR.le_trans this hl
    · exact h2 j d hd hjd (.inr hp)
  · exact h2 j d hd hjd (.inl hdi)
theorem UpI.step (ho : IsOrd lt) {f : Nat → α} {n i u : Nat} (h : UpI lt f n i) (hi : 2 < i) (hu : u = ((i - 1) / 2 - 1) / 2) (hl : RB lt (parB i) (f i) (f u) = true) : UpI lt (sw f i u) n u := by
  obtain ⟨h1, h2⟩ := h
  have hg : Grand u i := ⟨by omega, by omega, hu.symm⟩
  have hui := hg.under
  have hui2 := hui.ge
  have hpar : parB i = parB u := hg.par
  have hR := RB_ord ho (parB i)
  refine ⟨by omega, fun j d hd hjd hc => ?_⟩
  have hjd2 := hjd.ge
  by_cases hdi : d = i
  · subst hdi
    rw [sw_l]
    by_cases hju : j = u
    · subst hju; rw [sw_r, ← hpar]; exact hR.asymm hl
    · rw [sw_o (by omega) hju]
      rcases under_line hjd hui with q | q | q
      · exact absurd q hju
      · exact h2 j u (by omega) q (.inl (by omega))
      · -- the one between
        have hj := under_mid hg q hjd
        have hpj : parB j = !parB d := by rw [hpar, parB_pos (by omega), hj, hg.2.2]
        have c := h2 u j (by omega) q (.inl (by omega))
        rw [← hpar] at c
        rw [hpj, RB_not]
        exact c
  · by_cases hdu : d = u
    · subst hdu
      rw [sw_r, sw_o (by omega) (by omega)]
      have hc2 : parB j ≠ parB i := by rw [hpar]; rcases hc with hc | hc; exact absurd rfl hc; exact hc
      exact h2 j i h1 (hjd.trans hui) (.inr hc2)
    · rw [sw_o hdi hdu]
      by_cases hji : j = i
      · subst hji
        rw [sw_l]
        have c := h2 u d hd (hui.trans hjd) (.inl hdi)
        rw [hpar]; exact c
      · by_cases hju : j = u
        · subst hju
          rw [sw_r]
          have c := h2 j d hd hjd (.inl hdi)
          rw [← hpar] at c ⊢
          cases hx : RB lt (parB i) (f d) (f i) with
          | false => rfl
          | true => have := hR.trans _ _ _ hx hl; rw [c] at this; exact this.symm
        · rw [sw_o hji hju]; exact h2 j d hd hjd (.inl hdi)
theorem mpush_stay (ho : IsOrd lt) {f : Nat → α} {n : Nat} (h : StM lt f n) (h0 : 0 < n) (hl : RB lt (parB n) (f ((n - 1) / 2)) (f n) = false) : UpI lt f (n + 1) n := by
  refine ⟨by omega, fun j d hd hjd hc => ?_⟩
  by_cases hdn : d = n
  · subst hdn
    have hpj : parB j = !parB d := by
      rcases hc with hc | hc
      · exact absurd rfl hc
      · cases ha : parB j <;> cases hb : parB d <;> rw [ha, hb] at hc <;> simp at hc ⊢
    have hpp : parB ((d - 1) / 2) = !parB d := by rw [parB_pos h0, Bool.not_not]
    obtain ⟨_, a⟩ := hjd.inv
    rw [hpj]
    rcases a with a | a
    · rw [RB_not, ← a]; exact hl
    · have c := h j ((d - 1) / 2) (by omega) a
      rw [hpj] at c
      exact (RB_ord ho _).le_trans c (by rw [RB_not]; exact hl)
  · exact h j d (by omega) hjd
theorem mpush_turn (ho : IsOrd lt) {f : Nat → α} {n p : Nat} (h : StM lt f n) (h0 : 0 < n) (hp : p = (n - 1) / 2) (hl : RB lt (parB n) (f p) (f n) = true) : UpI lt (sw f n p) (n + 1) p := by
  have hpp : parB p = !parB n := by rw [hp, parB_pos h0, Bool.not_not]
  have hR := RB_ord ho (parB n)
  refine ⟨by omega, fun j d hd hjd hc => ?_⟩
  have hjd2 := hjd.ge
  by_cases hdn : d = n
  · subst hdn
    rw [sw_l]
    obtain ⟨_, a⟩ := hjd.inv
    rw [← hp] at a
    rcases a with a | a
    · subst a; rw [sw_r, hpp, RB_not]; exact hR.asymm hl
    · have := a.ge
      rw [sw_o (by omega) (by omega)]; exact h j p (by omega) a
  · by_cases hdp : d = p
    · subst hdp
      rw [sw_r, sw_o (by omega) (by omega)]
      have hpj : parB j = parB n := by
        rcases hc with hc | hc
        · exact absurd rfl hc
        · rw [hpp] at hc; cases ha : parB j <;> cases hb : parB n <;> rw [ha, hb] at hc <;> simp at hc ⊢
      have c := h j d (by omega) hjd
      rw [hpj] at c ⊢
      cases hx : RB lt (parB n) (f n) (f j) with
      | false => rfl
      | true => have := hR.trans _ _ _ hl hx; rw [c] at this; exact this.symm
    · rw [sw_o hdn hdp]
      by_cases hjp : j = p
      · subst hjp
        rw [sw_r]
        have c := h j d (by omega) hjd
        rw [hpp, RB_not] at c ⊢
        cases hx : RB lt (parB n) (f n) (f d) with
        | false => rfl
        | true => have := hR.trans _ _ _ hl hx; rw [c] at this; exact this.symm
      · rw [sw_o (by omega) hjp]; exact h j d (by omega) hjd
end Go.Abs
