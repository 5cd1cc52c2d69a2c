/-
  THE ABSTRACT LAYER (16): whatever order is drawn.
-/
import Derived.Test.YtjcncbejnplakaaA15
set_option linter.unusedSimpArgs false
set_option linter.unusedVariables false
namespace Go.Abs
open Go Go.RowKit

theorem compOpers_get {P : Program} {n : Nat} {ops : Array Oper} : ∀ {l : List Oper} {al : List AOper}, compOpers P n ops l = some al → al.length = l.length ∧ ∀ (i : Nat) (o : Oper), l[i]? = some o → ∃ ao, al[i]? = some ao ∧ compOper P n ops o = some ao
  | [], al, h => by simp [compOpers] at h; subst h; simp
  | o :: l, al, h => by
    simp only [compOpers] at h
    split at h
    · rename_i a r h1 h2
      cases h
      obtain ⟨k1, k2⟩ := compOpers_get h2
      refine ⟨by simp [k1], fun i o' hi => ?_⟩
      cases i with
      | zero => simp at hi; subst hi; exact ⟨a, rfl, h1⟩
      | succ i => simpa using k2 i o' (by simpa using hi)
    · cases h

theorem ancs_length (ops : Array Oper) : ∀ m, (ancs ops m).length = m
  | 0 => rfl
  | m + 1 => by simp [ancs, ancs_length ops m]

theorem ancs_get (ops : Array Oper) : ∀ (m i : Nat), i < m → (ancs ops m).getD i [] = esOf ops i ++ (esOf ops i).flatMap fun j => (ancs ops i).getD j []
  | 0, i, h => by omega
  | m + 1, i, h => by
    have hl := ancs_length ops m
    by_cases him : i = m
    · subst him
      have : (ancs ops (i + 1)) = ancs ops i ++ [esOf ops i ++ (esOf ops i).flatMap fun j => (ancs ops i).getD j []] := rfl
      rw [this]
      simp [List.getD, List.getElem?_append_right, hl]
    · have : (ancs ops (m + 1)).getD i [] = (ancs ops m).getD i [] := by
        simp only [ancs, List.getD]
        rw [List.getElem?_append_left (by omega)]
      rw [this]
      exact ancs_get ops m i (by omega)

theorem anc_listed {ops : Array Oper} {lst : Nat → Prop} (hlt : ∀ i, ∀ j ∈ esOf ops i, j < i) (hcl : ∀ i, lst i → ∀ j ∈ esOf ops i, lst j) : ∀ (i m : Nat), i < m → (∀ j ∈ esOf ops i, lst j) → ∀ a ∈ (ancs ops m).getD i [], lst a := by
  intro i
  induction i using Nat.strongRecOn with
  | _ i ih =>
    intro m him hd a ha
    rw [ancs_get ops m i him] at ha
    rcases List.mem_append.1 ha with ha | ha
    · exact hd a ha
    · obtain ⟨j, hj, ha⟩ := List.mem_flatMap.1 ha
      have hji := hlt i j hj
      exact ih j hji i hji (hcl j (hd j hj)) a ha

section
variable {P : Program} {B0 n lo : Nat} {ρ0 : Rho} {w0 : World} {ops : Array Oper} {al : List AOper} {r : Option Nat}

def left (ord : List Nat) (listed : Array Bool) : List Nat := ord.filter fun i => !listed.getD i true

theorem mem_left {ord : List Nat} {listed : Array Bool} {i : Nat} : i ∈ left ord listed ↔ i ∈ ord ∧ listed.getD i true = false := by simp [left]

theorem left_set {ord : List Nat} {listed : Array Bool} {i : Nat} (hi : i < listed.size) : left ord (listed.setIfInBounds i true) = (left ord listed).filter fun j => j != i := by
  unfold left
  rw [List.filter_filter]
  apply List.filter_congr
  intro j hj
  by_cases hij : j = i
  · subst hij; simp [hi]
  · simp [Array.getElem?_setIfInBounds_ne (Ne.symm hij), hij]

/-- What the check says of each two places. -/
theorem pairOk_spec {ops : Array Oper} {al : List AOper} {an : List (List Nat)} : ∀ {ord : List Nat}, pairOk ops al an ord = true → ord.Nodup ∧ ord.Pairwise fun a i => (a ∈ an.getD i [] ∨ ∃ x y, al[a]? = some x ∧ al[i]? = some y ∧ indep x y = true) ∧ i ∉ esOf ops a
  | [], _ => ⟨.nil, .nil⟩
  | a :: rest, h => by
    simp only [pairOk, Bool.and_eq_true, List.all_eq_true, Bool.or_eq_true, Bool.not_eq_true', List.contains_iff_mem] at h
    obtain ⟨⟨⟨h1, h2⟩, h3⟩, h4⟩ := h
    obtain ⟨k1, k2⟩ := pairOk_spec h4
    refine ⟨List.nodup_cons.2 ⟨by simpa using h3, k1⟩, List.pairwise_cons.2 ⟨fun i hi => ⟨?_, ?_⟩, k2⟩⟩
    · rcases h1 i hi with h | h
      · exact .inl h
      · split at h
        · rename_i x y hx hy; exact .inr ⟨x, y, hx, hy, h⟩
        · cases h
    · have := h2 i hi
      simpa using this

theorem any_sound {ord : List Nat} (hdraw : drawOk ops al ord = true) (hc : compOpers P n ops ops.toList = some al) {K : Env → AH → Prop} {Q' : Exit → Act → World → Prop}
    (hK : ∀ ρ' env' H' a' w', Both P B0 n lo ρ0 w0 ρ' env' H' a' w' → K env' H' → Q' .normal a' w') :
    ∀ (fuel : Nat) (listed : Array Bool), listed.size = ops.size → (left ord listed).length ≤ fuel → (∀ i, listed.getD i false = true → ∀ j ∈ esOf ops i, listed.getD j false = true) →
      ∀ {ρ env H a w}, wpI P K al (left ord listed) env H → Both P B0 n lo ρ0 w0 ρ env H a w → wpAnyIn (Fr r) 0 P .any ops Q' fuel listed a w := by
  unfold drawOk at hdraw
  simp only [List.all_eq_true, List.mem_range, Bool.and_eq_true, List.contains_iff_mem, decide_eq_true_eq] at hdraw
  obtain ⟨⟨⟨htext, hcover⟩, hlt⟩, hpair⟩ := hdraw
  obtain ⟨hnodup, hpw⟩ := pairOk_spec hpair
  have hmem : ∀ i, i ∈ ord ↔ i < ops.size := fun i => ⟨hlt i, hcover i⟩
  have hes : ∀ i, ∀ j ∈ esOf ops i, j < i := by
    intro i j hj
    unfold esOf at hj
    cases ho : ops[i]? with
    | none => simp [ho] at hj
    | some o =>
      have hi : i < ops.size := (Array.getElem?_eq_some_iff.1 ho).1
      have h1 := htext i hi
      rw [ho] at h1
      simp only [ho, List.mem_map, List.mem_filter, Array.mem_toList_iff] at hj
      obtain ⟨e, ⟨he, hb⟩, rfl⟩ := hj
      have := (List.all_eq_true.1 h1) e (by simpa using he)
      simpa [hb] using this
  have hget := (compOpers_get hc).2
  -- what is ready
  have hready : ∀ (listed : Array Bool) i, i ∈ Region.ready .any ops listed ↔ i ∈ left ord listed ∧ ∀ j ∈ esOf ops i, listed.getD j false = true := by
    intro listed i
    rw [mem_ready, mem_left, hmem]
    constructor
    · rintro ⟨h0, o, ho, hall⟩
      refine ⟨⟨(Array.getElem?_eq_some_iff.1 ho).1, h0⟩, fun j hj => ?_⟩
      simp only [esOf, ho, List.mem_map, List.mem_filter, Array.mem_toList_iff] at hj
      obtain ⟨e, ⟨he, hb⟩, rfl⟩ := hj
      exact hall e he hb
    · rintro ⟨⟨hlt, h0⟩, hall⟩
      refine ⟨h0, ops[i], by simp [hlt], fun e he hb => hall e.on ?_⟩
      have : ops[i]? = some ops[i] := by simp [hlt]
      simp only [esOf, this, List.mem_map, List.mem_filter, Array.mem_toList_iff]
      exact ⟨e, ⟨he, hb⟩, rfl⟩
  -- a least one that is left is ready
  have hleast : ∀ (listed : Array Bool), listed.size = ops.size → ∀ i R, left ord listed = i :: R → i ∈ Region.ready .any ops listed := by
    intro listed hs i R hR
    rw [hready]
    have him : i ∈ left ord listed := by rw [hR]; simp
    refine ⟨him, fun j hj => ?_⟩
    have hji := hes i j hj
    have hi := (hmem i).1 (mem_left.1 him).1
    cases hlj : listed.getD j true with
    | true =>
      have : j < listed.size := by omega
      simpa [this] using hlj
    | false =>
      exfalso
      have hjm : j ∈ left ord listed := mem_left.2 ⟨(hmem j).2 (by omega), hlj⟩
      rw [hR] at hjm
      have hsrt : (left ord listed).Pairwise _ := hpw.filter _
      rw [hR] at hsrt
      rcases List.mem_cons.1 hjm with h | h
      · omega
      · exact ((List.pairwise_cons.1 hsrt).1 j h).2 hj
  intro fuel
  induction fuel with
  | zero =>
    intro listed hs hl hcl ρ env H a w h hb
    have hnil : left ord listed = [] := List.eq_nil_of_length_eq_zero (by omega)
    rw [hnil] at h
    refine ⟨?_, hK ρ env H a w hb h⟩
    cases hr : Region.ready .any ops listed with
    | nil => rfl
    | cons x xs =>
      have : x ∈ Region.ready .any ops listed := by rw [hr]; simp
      rw [hready, hnil] at this
      simp at this
  | succ fuel ih =>
    intro listed hs hl hcl ρ env H a w h hb
    refine ⟨fun hr => ?_, fun i hi => ?_⟩
    · have hnil : left ord listed = [] := by
        cases hR : left ord listed with
        | nil => rfl
        | cons i R => have := hleast listed hs i R hR; rw [hr] at this; cases this
      rw [hnil] at h
      exact hK ρ env H a w hb h
    · rw [hready] at hi
      obtain ⟨him, hdeps⟩ := hi
      have hisz := (hmem i).1 (mem_left.1 him).1
      obtain ⟨A, B, hAB⟩ := List.append_of_mem him
      have hsrt : (left ord listed).Pairwise _ := hpw.filter _
      have hnd : (left ord listed).Nodup := hnodup.filter _
      rw [hAB] at hsrt hnd h
      have hA : ∀ b ∈ A, _ := fun b hb' => (List.pairwise_append.1 hsrt).2.2 b hb' i (by simp)
      have hAi : ∀ b ∈ A, b ≠ i := fun b hb' e => (List.nodup_append.1 hnd).2.2 b hb' i (by simp) e
      have hBi : ∀ b ∈ B, b ≠ i := fun b hb' e => (List.nodup_cons.1 (List.nodup_append.1 hnd).2.1).1 (e ▸ hb')
      have hoi : ops.toList[i]? = some ops[i] := by simp [hisz]
      obtain ⟨ao, hao, hcomp⟩ := hget i ops[i] hoi
      have hfront := wpI_front hao A B (fun b hb' => by
        rcases (hA b hb').1 with hanc | ⟨x, y, hx, hy, hind⟩
        · exfalso
          have := anc_listed (lst := fun j => listed.getD j false = true) hes hcl i ops.size hisz hdeps b hanc
          have hbm : b ∈ left ord listed := by rw [hAB]; simp [hb']
          have hbl := (mem_left.1 hbm).2
          have hbs : b < listed.size := by have := (hmem b).1 (mem_left.1 hbm).1; omega
          simp [hbs] at this hbl
          rw [this] at hbl
          cases hbl
        · rw [hao] at hy
          cases hy
          exact ⟨x, hx, hind⟩) hb.stp.sim.wf h
      simp only [wpI, hao] at hfront
      refine step_sound (by simp [hisz]) hcomp hfront hb ?_
      intro ρ' env' H' a' w' hb' hk
      have hleft : left ord (listed.setIfInBounds i true) = A ++ B := by
        rw [left_set (by omega), hAB, List.filter_append, List.filter_cons]
        simp only [bne_self_eq_false, Bool.false_eq_true, if_false]
        rw [List.filter_eq_self.2 (fun b hb' => by have := hAi b hb'; simp [this]), List.filter_eq_self.2 (fun b hb' => by have := hBi b hb'; simp [this])]
      refine ih _ (by simp [hs]) ?_ ?_ (by rw [hleft]; exact hk) hb'
      · rw [hleft]
        rw [hAB] at hl
        simp at hl ⊢
        omega
      · intro k hk' j hj
        by_cases hki : k = i
        · subst hki
          have := hdeps j hj
          exact getD_set_true this
        · have hk2 : listed.getD k false = true := by simpa [Array.getElem?_setIfInBounds_ne (Ne.symm hki)] using hk'
          exact getD_set_true (hcl k hk2 j hj)

theorem drawn_sound (hm : P.follows .mixedOrders = true) {id : Nat} {ord : List Nat} (hdraw : drawOk ops al ord = true) (hc : compOpers P n ops ops.toList = some al) {K : Env → AH → Prop} {Q' : Exit → Act → World → Prop}
    (hK : ∀ ρ' env' H' a' w', Both P B0 n lo ρ0 w0 ρ' env' H' a' w' → K env' H' → Q' .normal a' w') {ρ : Rho} {env : Env} {H : AH} {a : Act} {w : World}
    (h : wpO P true K (ord.filterMap fun i => al[i]?) env H) (hb : Both P B0 n lo ρ0 w0 ρ env H a w) : (Code.region id ops true).wpIn (Fr r) 0 P Q' a w := by
  refine wpIn_region_any hm ?_
  have hlen := (compOpers_get hc).1
  have hd2 := hdraw
  unfold drawOk at hd2
  simp only [List.all_eq_true, List.mem_range, Bool.and_eq_true, List.contains_iff_mem, decide_eq_true_eq] at hd2
  obtain ⟨⟨⟨_, hcover⟩, hlt⟩, hpair⟩ := hd2
  obtain ⟨hnodup, _⟩ := pairOk_spec hpair
  have hleft : left ord (Array.replicate ops.size false) = ord := by
    unfold left
    rw [List.filter_eq_self.2 (fun i hi => by
      have : i < ops.size := hlt i hi
      simp [this])]
  have hsz : ord.length ≤ ops.size := by
    have : ord.length ≤ (List.range ops.size).length := List.Nodup.length_le_of_subset hnodup (fun i hi => List.mem_range.2 (hlt i hi))
    simpa using this
  refine any_sound (ρ := ρ) hdraw hc hK ops.size _ (by simp) (by rw [hleft]; exact hsz) ?_ (by rw [hleft]; exact wpO_wpI ord (fun i hi => by have := hlt i hi; rw [hlen]; simpa using this) h) ?_
  · intro i hi
    exfalso
    by_cases h' : i < ops.size
    · simp [h'] at hi
    · simp [h'] at hi
  · exact ⟨⟨hb.stp.sim.same rfl, hb.stp.le, hb.stp.ext.trans ⟨⟨rfl, rfl, rfl, Nat.le_refl _, fun _ _ => rfl⟩, fun _ _ _ h => h, fun _ r h => ⟨r, h⟩⟩⟩, hb.env, hb.marks⟩

end
end Go.Abs
