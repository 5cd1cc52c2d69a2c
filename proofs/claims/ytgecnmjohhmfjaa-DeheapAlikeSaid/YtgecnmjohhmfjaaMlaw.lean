/-
  Plain law: the heap of levels as a list.
-/
import Derived.Test.YtgecnmjohhmfjaaIlawA
import Derived.Test.YtgecnmjohhmfjaaMord
set_option maxRecDepth 100000
set_option linter.unusedSimpArgs false
set_option linter.unusedVariables false
namespace Go.Proofs.Ytgecnmjohhmfjaa
open Go Go.Abs
def aheadL (L : List Ent) (i k : Nat) (s : Bool) : Bool := if s then ltAt L i k else ltAt L k i
theorem aheadL_eq {L : List Ent} {i k : Nat} {s : Bool} (hi : i < L.length) (hk : k < L.length) : aheadL L i k s = RB Ent.lt s (getE L i) (getE L k) := by
  unfold aheadL RB
  rw [ltAt_get hi hk, ltAt_get hk hi]
def riseM (s : Bool) (i : Nat) (L : List Ent) : List Ent :=
  if h : 2 < i then
    if aheadL L i (((i - 1) / 2 - 1) / 2) s then riseM s (((i - 1) / 2 - 1) / 2) (swapL L i (((i - 1) / 2 - 1) / 2)) else L
  else L
termination_by i
decreasing_by omega
def upM (i : Nat) (L : List Ent) : List Ent :=
  if i = 0 then L
  else if aheadL L ((i - 1) / 2) i (parB i) then riseM (!parB i) ((i - 1) / 2) (swapL L i ((i - 1) / 2))
  else riseM (parB i) i L
def descN (i j : Nat) : Nat := if j < 2 then 2 * i + 1 + j else 4 * i + 1 + j
def bestM (L : List Ent) (i : Nat) (s : Bool) : Nat → Nat
  | 0 => 0
  | j + 1 => if descN i j < L.length ∧ (bestM L i s j = 0 ∨ aheadL L (descN i j) (bestM L i s j) s = true) then descN i j else bestM L i s j
theorem bestM_lt {L : List Ent} {i : Nat} {s : Bool} : ∀ {j : Nat}, bestM L i s j ≠ 0 → bestM L i s j < L.length ∧ i < bestM L i s j
  | 0, h => absurd rfl h
  | j + 1, h => by
    unfold bestM at h ⊢
    split
    · rename_i hc; exact ⟨hc.1, by unfold descN; split <;> omega⟩
    · rename_i hc; rw [if_neg hc] at h; exact bestM_lt h
def downM (s : Bool) (i : Nat) (L : List Ent) : List Ent :=
  if h : bestM L i s 6 ≠ 0 ∧ aheadL L (bestM L i s 6) i s = true then
    if bestM L i s 6 ≤ 2 * i + 2 then swapL L (bestM L i s 6) i
    else if aheadL (swapL L (bestM L i s 6) i) ((bestM L i s 6 - 1) / 2) (bestM L i s 6) s = true then
      downM s (bestM L i s 6) (swapL (swapL L (bestM L i s 6) i) ((bestM L i s 6 - 1) / 2) (bestM L i s 6))
    else downM s (bestM L i s 6) (swapL L (bestM L i s 6) i)
  else L
termination_by L.length - i
decreasing_by
  all_goals
    have := bestM_lt h.1
    simp only [swapL_length]
    omega
def lastM (L : List Ent) : Nat := if 2 < L.length ∧ aheadL L 2 1 false = true then 2 else min 1 (L.length - 1)
def takeM (i : Nat) (L : List Ent) : List Ent :=
  if i < L.length - 1 then downM (parB i) i ((swapL L i (L.length - 1)).take (L.length - 1)) else (swapL L i (L.length - 1)).take (L.length - 1)
def pushM (L : List Ent) (x : Ent) : List Ent := upM L.length (L ++ [x])
def buildFrom : Nat → List Ent → List Ent
  | 0, L => L
  | i + 1, L => buildFrom i (downM (parB i) i L)
def buildM (l : List Ent) : List Ent := buildFrom (l.length / 2) l
def StMl (L : List Ent) : Prop := StM Ent.lt (getE L) L.length
theorem riseM_perm (s : Bool) : ∀ (i : Nat) (L : List Ent), (riseM s i L).Perm L := by
  intro i
  induction i using Nat.strongRecOn with
  | ind i ih =>
    intro L
    rw [riseM]
    split
    · split
      · exact (ih _ (by omega) _).trans (swapL_perm _ _ _)
      · exact .refl _
    · exact .refl _
theorem riseM_length (s : Bool) (i : Nat) (L : List Ent) : (riseM s i L).length = L.length := (riseM_perm s i L).length_eq
theorem upM_perm (i : Nat) (L : List Ent) : (upM i L).Perm L := by
  unfold upM
  split
  · exact .refl _
  · split
    · exact (riseM_perm _ _ _).trans (swapL_perm _ _ _)
    · exact riseM_perm _ _ _
theorem downM_perm (s : Bool) : ∀ (d i : Nat) (L : List Ent), L.length - i = d → (downM s i L).Perm L := by
  intro d
  induction d using Nat.strongRecOn with
  | ind d ih =>
    intro i L hd
    rw [downM]
    split
    · rename_i h
      have hb := bestM_lt h.1
      split
      · exact swapL_perm _ _ _
      · split
        · exact (ih (L.length - bestM L i s 6) (by omega) _ _ (by simp only [swapL_length])).trans ((swapL_perm _ _ _).trans (swapL_perm _ _ _))
        · exact (ih (L.length - bestM L i s 6) (by omega) _ _ (by simp only [swapL_length])).trans (swapL_perm _ _ _)
    · exact .refl _
theorem downM_length (s : Bool) (i : Nat) (L : List Ent) : (downM s i L).length = L.length := (downM_perm s _ i L rfl).length_eq
theorem buildFrom_perm : ∀ (i : Nat) (L : List Ent), (buildFrom i L).Perm L
  | 0, L => .refl _
  | i + 1, L => (buildFrom_perm i _).trans (downM_perm _ _ _ _ rfl)
theorem rise_stM : ∀ (i : Nat) (L : List Ent), UpI Ent.lt (getE L) L.length i → StMl (riseM (parB i) i L) := by
  intro i
  induction i using Nat.strongRecOn with
  | ind i ih =>
    intro L h
    have hi := h.1
    rw [riseM]
    split
    · rename_i h2
      have hul : ((i - 1) / 2 - 1) / 2 < L.length := by omega
      have hg : Grand (((i - 1) / 2 - 1) / 2) i := ⟨by omega, by omega, rfl⟩
      rw [aheadL_eq hi hul]
      split
      · rename_i hx
        rw [hg.par]
        refine ih _ (by omega) _ ?_
        rw [getE_swap hi hul, swapL_length]
        exact h.step isOrd h2 rfl hx
      · rename_i hx
        exact h.done isOrd h2 rfl (by simpa using hx)
    · exact h.done0 (by omega)
theorem pushM_perm (L : List Ent) (x : Ent) : (pushM L x).Perm (x :: L) := (upM_perm _ _).trans List.perm_append_comm
theorem pushM_length (L : List Ent) (x : Ent) : (pushM L x).length = L.length + 1 := by have := (pushM_perm L x).length_eq; simpa using this
theorem pushM_st {L : List Ent} (h : StMl L) (x : Ent) : StMl (pushM L x) := by
  have hf : StM Ent.lt (getE (L ++ [x])) L.length := fun j d hd hu => by
    have := hu.ge
    rw [getE_append hd, getE_append (by omega)]
    exact h j d hd hu
  have hlen : (L ++ [x]).length = L.length + 1 := by simp
  unfold pushM upM
  generalize L ++ [x] = M at *
  generalize L.length = n at *
  split
  · rename_i h0
    intro j d hd hu
    have := hu.ge
    omega
  · rename_i h0
    rw [aheadL_eq (by omega) (by omega)]
    split
    · rename_i hx
      have hpp : (!parB n) = parB ((n - 1) / 2) := by rw [parB_pos (by omega), Bool.not_not]
      rw [hpp]
      refine rise_stM _ _ ?_
      rw [getE_swap (by omega) (by omega), swapL_length, hlen]
      exact mpush_turn isOrd hf (by omega) rfl hx
    · rename_i hx
      refine rise_stM _ _ ?_
      rw [hlen]
      exact mpush_stay isOrd hf (by omega) (by simpa using hx)
theorem desc2_iff {i k : Nat} : Desc2 i k ↔ ∃ j, j < 6 ∧ k = descN i j := by
  unfold Desc2 Grand descN
  constructor
  · intro h
    by_cases h1 : 0 < k ∧ (k - 1) / 2 = i
    · exact ⟨k - 2 * i - 1, by omega, by rw [if_pos (by omega)]; omega⟩
    · have h2 : 0 < k ∧ 0 < (k - 1) / 2 ∧ ((k - 1) / 2 - 1) / 2 = i := by rcases h with h | h; exact absurd h h1; exact h
      exact ⟨k - 4 * i - 1, by omega, by rw [if_neg (by omega)]; omega⟩
  · rintro ⟨j, hj, rfl⟩
    split
    · left; omega
    · right; omega
theorem best_ofM {L : List Ent} {i : Nat} {s : Bool} : ∀ j, (bestM L i s j = 0 → ∀ k, k < j → ¬ descN i k < L.length) ∧ (bestM L i s j ≠ 0 → (∃ k, k < j ∧ bestM L i s j = descN i k) ∧ ∀ k, k < j → descN i k < L.length → RB Ent.lt s (getE L (descN i k)) (getE L (bestM L i s j)) = false) := by
  intro j
  have hR := RB_ord isOrd s
  induction j with
  | zero => exact ⟨fun _ k hk => by omega, fun h => absurd rfl h⟩
  | succ j ih =>
    obtain ⟨i1, i2⟩ := ih
    have hcs : ∀ k, k < j + 1 → k = j ∨ k < j := fun k _ => by omega
    have hd0 : descN i j ≠ 0 := by unfold descN; split <;> omega
    by_cases hb : bestM L i s j = 0
    · have hP : bestM L i s (j + 1) = if descN i j < L.length then descN i j else 0 := by rw [bestM, hb]; simp
      rw [hP]
      by_cases hc : descN i j < L.length
      · rw [if_pos hc]
        refine ⟨fun h => absurd h hd0, fun _ => ⟨⟨j, by omega, rfl⟩, fun k hk hkl => ?_⟩⟩
        rcases hcs k hk with rfl | hk
        · exact hR.irr _
        · exact absurd hkl (i1 hb k hk)
      · rw [if_neg hc]
        refine ⟨fun _ k hk => ?_, fun h => absurd rfl h⟩
        rcases hcs k hk with rfl | hk
        · exact hc
        · exact i1 hb k hk
    · obtain ⟨hbl, _⟩ := bestM_lt hb
      obtain ⟨⟨kb, hkb, hkbe⟩, hall⟩ := i2 hb
      by_cases hc : descN i j < L.length ∧ aheadL L (descN i j) (bestM L i s j) s = true
      · have hP : bestM L i s (j + 1) = descN i j := by rw [bestM, if_pos ⟨hc.1, .inr hc.2⟩]
        rw [hP]
        have hc2 := hc.2
        rw [aheadL_eq hc.1 hbl] at hc2
        refine ⟨fun h => absurd h hd0, fun _ => ⟨⟨j, by omega, rfl⟩, fun k hk hkl => ?_⟩⟩
        rcases hcs k hk with rfl | hk
        · exact hR.irr _
        · have h1 := hall k hk hkl
          cases hx : RB Ent.lt s (getE L (descN i k)) (getE L (descN i j)) with
          | false => rfl
          | true => have := hR.trans _ _ _ hx hc2; rw [h1] at this; exact this.symm
      · have hP : bestM L i s (j + 1) = bestM L i s j := by
          rw [bestM, if_neg]
          rintro ⟨h1, h2 | h2⟩
          · exact hb h2
          · exact hc ⟨h1, h2⟩
        rw [hP]
        refine ⟨fun h => absurd h hb, fun _ => ⟨⟨kb, by omega, hkbe⟩, fun k hk hkl => ?_⟩⟩
        rcases hcs k hk with rfl | hk
        · cases hx : RB Ent.lt s (getE L (descN i k)) (getE L (bestM L i s k)) with
          | false => rfl
          | true => exact absurd ⟨hkl, by rw [aheadL_eq hkl hbl]; exact hx⟩ hc
        · exact hall k hk hkl
theorem down_stM {m : Nat} : ∀ (d i : Nat) (L : List Ent), L.length - i = d → DownI Ent.lt (getE L) L.length m i → FromI Ent.lt (getE (downM (parB i) i L)) L.length m := by
  intro d
  induction d using Nat.strongRecOn with
  | ind d ih =>
    intro i L hd h
    have hmi := h.1
    have hi := h.2.1
    obtain ⟨b1, b2⟩ := best_ofM (L := L) (i := i) (s := parB i) 6
    have hall : bestM L i (parB i) 6 ≠ 0 → ∀ c, c < L.length → Desc2 i c → RB Ent.lt (parB i) (getE L c) (getE L (bestM L i (parB i) 6)) = false := fun hb c hc hd2 => by
      obtain ⟨j, hj, rfl⟩ := desc2_iff.1 hd2
      exact (b2 hb).2 j hj hc
    rw [downM]
    split
    · rename_i hc
      obtain ⟨hb, ha⟩ := hc
      obtain ⟨hbl, hbi⟩ := bestM_lt hb
      obtain ⟨⟨kj, hkj, hke⟩, _⟩ := b2 hb
      have hd2 : Desc2 i (bestM L i (parB i) 6) := desc2_iff.2 ⟨kj, hkj, hke⟩
      rw [aheadL_eq hbl hi] at ha
      have hbest := hall hb
      generalize hk : bestM L i (parB i) 6 = k at *
      split
      · rename_i hle
        rw [getE_swap hbl hi]
        refine h.child isOrd hbl ?_ hbest ha
        rcases hd2 with q | q
        · exact q
        · have := q.under.ge; unfold Grand at q; omega
      · rename_i hle
        have hg : Grand i k := by
          rcases hd2 with q | q
          · omega
          · exact q
        have hgk := hg.under.ge
        have hp := h.grand isOrd hbl hg rfl hbest ha
        have hpl : (k - 1) / 2 < L.length := by omega
        have hsw : getE (swapL L k i) = sw (getE L) k i := getE_swap hbl hi
        have hsl : (swapL L k i).length = L.length := swapL_length _ _ _
        have hpk : (k - 1) / 2 ≠ k ∧ (k - 1) / 2 ≠ i := by unfold Grand at hg; omega
        have hah : aheadL (swapL L k i) ((k - 1) / 2) k (parB i) = RB Ent.lt (parB i) (getE L ((k - 1) / 2)) (getE L i) := by
          rw [aheadL_eq (by omega) (by omega), hsw, sw_l, sw_o hpk.1 hpk.2]
        rw [hah, ← hg.par]
        split
        · rename_i hx
          rw [hg.par] at hx
          have := ih (L.length - k) (by omega) k (swapL (swapL L k i) ((k - 1) / 2) k) (by simp only [swapL_length]) (by
            rw [getE_swap (by omega) (by omega), hsw, swapL_length, hsl]
            exact hp.2 hx)
          rw [swapL_length, hsl] at this
          exact this
        · rename_i hx
          rw [hg.par] at hx
          have := ih (L.length - k) (by omega) k (swapL L k i) (by simp only [swapL_length]) (by
            rw [hsw, hsl]
            exact hp.1 (by simpa using hx))
          rw [hsl] at this
          exact this
    · rename_i hc
      refine h.done isOrd fun c hcl hd2 => ?_
      obtain ⟨j, hj, hcj⟩ := desc2_iff.1 hd2
      by_cases hb : bestM L i (parB i) 6 = 0
      · exact absurd (hcj ▸ hcl) (b1 hb j hj)
      · obtain ⟨hbl, hbi⟩ := bestM_lt hb
        have h1 := hall hb c hcl hd2
        have h2 : RB Ent.lt (parB i) (getE L (bestM L i (parB i) 6)) (getE L i) = false := by
          cases hx : RB Ent.lt (parB i) (getE L (bestM L i (parB i) 6)) (getE L i) with
          | false => rfl
          | true => exact absurd ⟨hb, by rw [aheadL_eq hbl hi]; exact hx⟩ hc
        exact (RB_ord isOrd _).le_trans h2 h1
theorem from_zero {f : Nat → Ent} {n : Nat} (h : FromI Ent.lt f n 0) : StM Ent.lt f n := fun j d hd hu => h j (Nat.zero_le _) (by have := hu.ge; omega) d hd hu
theorem buildFrom_st : ∀ (i : Nat) (L : List Ent), FromI Ent.lt (getE L) L.length i → StMl (buildFrom i L)
  | 0, L, h => from_zero h
  | i + 1, L, h => by
    refine buildFrom_st i _ ?_
    rw [downM_length]
    by_cases hi : i < L.length
    · exact down_stM _ i L rfl ⟨Nat.le_refl _, hi, fun j hj hjl hji => h j (by omega) hjl⟩
    · intro j hj hjl; omega
theorem buildM_st (l : List Ent) : StMl (buildM l) := by
  refine buildFrom_st _ _ fun j hj hjl d hd hu => ?_
  have := hu.ge
  omega
theorem buildM_perm (l : List Ent) : (buildM l).Perm l := buildFrom_perm _ _
theorem take_perm {L : List Ent} {a : Nat} (ha : a < L.length) : (getE L a :: takeM a L).Perm L := by
  have h1 : swapL L a (L.length - 1) = (swapL L a (L.length - 1)).take (L.length - 1) ++ [getE L a] := by
    have := take_last (l := swapL L a (L.length - 1)) (m := L.length - 1) (by rw [swapL_length]; omega)
    rw [getE_swap ha (by omega), sw_r] at this
    exact this
  have h3 : (takeM a L).Perm ((swapL L a (L.length - 1)).take (L.length - 1)) := by
    unfold takeM
    split
    · exact downM_perm _ _ _ _ rfl
    · exact .refl _
  refine (h3.cons _).trans (.trans ?_ (swapL_perm L a (L.length - 1)))
  rw [h1, List.take_left' (by simp [swapL_length])]
  exact (List.perm_append_singleton _ _).symm
theorem takeM_length {L : List Ent} {a : Nat} (ha : a < L.length) : (takeM a L).length = L.length - 1 := by
  have := (take_perm ha).length_eq
  simp at this
  omega
theorem takeM_st {L : List Ent} (h : StMl L) {a : Nat} (ha : a < L.length) (h2 : a ≤ 2) : StMl (takeM a L) := by
  obtain ⟨M, hM⟩ : ∃ M, M = (swapL L a (L.length - 1)).take (L.length - 1) := ⟨_, rfl⟩
  have hl : M.length = L.length - 1 := by rw [hM]; simp [swapL_length]
  have hg : ∀ i, i < L.length - 1 → i ≠ a → getE M i = getE L i := fun i hi h1 => by
    rw [hM, getE_take hi, getE_swap ha (by omega), sw_o h1 (by omega)]
  have hga : a < L.length - 1 → getE M a = getE L (L.length - 1) := fun hi => by
    rw [hM, getE_take hi, getE_swap ha (by omega), sw_l]
  unfold takeM
  rw [← hM]
  split
  · rename_i hc
    have := down_stM (m := 0) _ a M rfl ⟨Nat.zero_le _, by omega, fun j _ hj hja d hd hu => by
      have hu2 := hu.ge
      rw [hg j (by omega) hja]
      by_cases hda : d = a
      · subst hda
        rw [hga hc]
        have hj0 : j = 0 := by omega
        subst hj0
        exact h 0 _ (by omega) (under_zero _ (by omega))
      · rw [hg d (by omega) hda]
        exact h j d (by omega) hu⟩
    intro j
    rw [downM_length]
    exact from_zero this j
  · rename_i hc
    intro j d hd hu
    have := hu.ge
    rw [hl] at hd
    rw [hg d hd (by omega), hg j (by omega) (by omega)]
    exact h j d (by omega) hu
theorem st_minM {L : List Ent} (h : StMl L) : ∀ i, i < L.length → (getE L i).lt (getE L 0) = false := by
  intro i hi
  by_cases h0 : i = 0
  · subst h0; exact isOrd.irr _
  · have := h 0 i hi (under_zero i (by omega))
    rw [parB_zero] at this
    exact this
theorem under_12 : ∀ (d : Nat), 0 < d → d = 1 ∨ d = 2 ∨ Under 1 d ∨ Under 2 d := by
  intro d
  induction d using Nat.strongRecOn with
  | ind d ih =>
    intro h
    by_cases h1 : d ≤ 2
    · omega
    · rcases ih ((d - 1) / 2) (by omega) (by omega) with q | q | q | q
      · exact .inr (.inr (.inl (.child d h q)))
      · exact .inr (.inr (.inr (.child d h q)))
      · exact .inr (.inr (.inl (.more d h q)))
      · exact .inr (.inr (.inr (.more d h q)))
theorem lastM_lt {L : List Ent} (h0 : 0 < L.length) : lastM L < L.length ∧ lastM L ≤ 2 := by unfold lastM; split <;> omega
theorem st_maxM {L : List Ent} (h : StMl L) : ∀ i, i < L.length → (getE L (lastM L)).lt (getE L i) = false := by
  intro i hi
  obtain ⟨hl, h2⟩ := lastM_lt (L := L) (by omega)
  have p1 : parB 1 = false := by rw [parB_pos (by omega), show (1 - 1) / 2 = 0 by rfl, parB_zero]; rfl
  have p2 : parB 2 = false := by rw [parB_pos (by omega), show (2 - 1) / 2 = 0 by rfl, parB_zero]; rfl
  have u1 : ∀ d, d < L.length → Under 1 d → (getE L 1).lt (getE L d) = false := fun d hd hu => by have := h 1 d hd hu; rw [p1] at this; exact this
  have u2 : ∀ d, d < L.length → Under 2 d → (getE L 2).lt (getE L d) = false := fun d hd hu => by have := h 2 d hd hu; rw [p2] at this; exact this
  by_cases hn : L.length = 1
  · have hl0 : lastM L = 0 := by omega
    have hi0 : i = 0 := by omega
    rw [hl0, hi0]; exact isOrd.irr _
  · by_cases h3 : 2 < L.length
    · have hah := aheadL_eq (L := L) (i := 2) (k := 1) (s := false) h3 (by omega)
      have hb : ∀ d, d < L.length → 0 < d → (getE L (lastM L)).lt (getE L d) = false := by
        intro d hd hd0
        unfold lastM
        cases hx : (getE L 1).lt (getE L 2) with
        | true =>
          have hx' : aheadL L 2 1 false = true := by rw [hah]; exact hx
          rw [if_pos ⟨h3, hx'⟩]
          have h12 : (getE L 2).lt (getE L 1) = false := isOrd.asymm hx
          rcases under_12 d hd0 with q | q | q | q
          · rw [q]; exact h12
          · rw [q]; exact isOrd.irr _
          · exact isOrd.le_trans (u1 d hd q) h12
          · exact u2 d hd q
        | false =>
          have hx' : ¬ aheadL L 2 1 false = true := by rw [hah]; unfold RB; simp [hx]
          rw [if_neg (fun hc => hx' hc.2), show min 1 (L.length - 1) = 1 by omega]
          rcases under_12 d hd0 with q | q | q | q
          · rw [q]; exact isOrd.irr _
          · rw [q]; exact hx
          · exact u1 d hd q
          · exact isOrd.le_trans (u2 d hd q) hx
      by_cases hi0 : i = 0
      · rw [hi0]
        exact isOrd.le_trans (st_minM h 1 (by omega)) (hb 1 (by omega) (by omega))
      · exact hb i hi (by omega)
    · have hl1 : lastM L = 1 := by unfold lastM; rw [if_neg (by omega)]; omega
      rw [hl1]
      have hi2 : i = 0 ∨ i = 1 := by omega
      rcases hi2 with rfl | rfl
      · exact st_minM h 1 (by omega)
      · exact isOrd.irr _
theorem srt_minM {L : List Ent} (h : StMl L) (h0 : 0 < L.length) : sortL Ent.lt L = getE L 0 :: sortL Ent.lt (takeM 0 L) := by
  have hp := take_perm h0
  refine srt_unique isOrd (sortL_srt isOrd L) (List.pairwise_cons.2 ⟨fun z hz => ?_, sortL_srt isOrd _⟩) (((sortL_perm isOrd L).trans hp.symm).trans ((sortL_perm isOrd _).symm.cons _))
  obtain ⟨i, hi, rfl⟩ := mem_get (hp.mem_iff.1 (List.mem_cons_of_mem _ ((sortL_perm isOrd _).mem_iff.1 hz)))
  exact st_minM h i hi
theorem srt_maxM {L : List Ent} (h : StMl L) (h0 : 0 < L.length) : sortL Ent.lt L = sortL Ent.lt (takeM (lastM L) L) ++ [getE L (lastM L)] := by
  have hp := take_perm (lastM_lt h0).1
  refine srt_unique isOrd (sortL_srt isOrd L) (List.pairwise_append.2 ⟨sortL_srt isOrd _, List.pairwise_singleton _ _, fun z hz w hw => ?_⟩) (((sortL_perm isOrd L).trans hp.symm).trans ?_)
  · obtain rfl := List.mem_singleton.1 hw
    obtain ⟨i, hi, rfl⟩ := mem_get (hp.mem_iff.1 (List.mem_cons_of_mem _ ((sortL_perm isOrd _).mem_iff.1 hz)))
    exact st_maxM h i hi
  · exact (((sortL_perm isOrd _).symm.cons _).trans (List.perm_append_singleton _ _).symm)
end Go.Proofs.Ytgecnmjohhmfjaa
