/-
  PLAIN LAW of package dual: sets that have all that is missing cost no less than the prices together; there are prices just if there are such sets, and just if some are taken greedily.
-/
import Derived.Test.YtejifalflkbekaaDoorDp2
set_option maxRecDepth 100000
set_option linter.unusedSimpArgs false
set_option linter.unusedVariables false
namespace Go.Abs
open Go Go.Proofs.YtejifalflkbekaaDoor.Bs
def Cov (L : List SetD) (T : List Bool) : Prop:=∀ e : Nat,T.getD e false = true → ∃ s ∈ L,hasE s e = true
theorem pr_cov {L : List SetD} {n : Nat} : ∀ (l : List Nat) (P : List Int),prL L n l = some P → ∀ e ∈ l,∃ s ∈ L,hasE s e = true:=fun l => by
 refine rev_ind (Q:=fun l => ∀ P,prL L n l = some P → ∀ e ∈ l,∃ s ∈ L,hasE s e = true) (fun P _ e he => by simp at he) (fun l x ih P h e he => ?_) l
 rw [prL_snoc] at h
 cases hP : prL L n l with
 | none => rw [hP] at h; cases h
 | some P0 =>
  rw [hP] at h
  rcases List.mem_append.1 he with he | he
  ·exact ih P0 hP e he
  ·simp at he; subst he
   simp only [prStep,Option.bind_some,Option.map_eq_some_iff] at h
   obtain ⟨m,hm,_⟩:=h
   obtain ⟨h1,_⟩:=minL_some.1 hm
   obtain ⟨s,hs,_⟩:=List.mem_map.1 h1
   exact ⟨s,(List.mem_filter.1 hs).1,(List.mem_filter.1 hs).2⟩
theorem pr_uncov {L : List SetD} {n : Nat} : ∀ (l : List Nat),prL L n l = none → ∃ e ∈ l,∀ s ∈ L,hasE s e = false:=fun l => by
 refine rev_ind (Q:=fun l => prL L n l = none → ∃ e ∈ l,∀ s ∈ L,hasE s e = false) (fun h => by simp [prL] at h) (fun l x ih h => ?_) l
 rw [prL_snoc] at h
 cases hP : prL L n l with
 | none =>
  obtain ⟨e,h1,h2⟩:=ih hP
  exact ⟨e,by simp [h1],h2⟩
 | some P0 =>
  rw [hP] at h
  simp only [prStep,Option.bind_some,Option.map_eq_none_iff] at h
  have hl:=minL_none.1 h
  refine ⟨x,by simp,fun s hs => ?_⟩
  cases hb : hasE s x with
  | false => rfl
  | true =>
   have : s.cost - spentP P0 s.elems ∈ leftP L P0 x:=List.mem_map.2 ⟨s,List.mem_filter.2 ⟨hs,hb⟩,rfl⟩
   rw [hl] at this; simp at this
theorem idxs_all {T : List Bool} {e : Nat} : e ∈ idxs T ↔ T.getD e false = true:=by
 unfold idxs
 rw [idxs_mem]
 constructor
 ·exact fun h => h.2
 ·intro h
  refine ⟨?_,h⟩
  rcases Nat.lt_or_ge e T.length with hh | hh
  ·exact hh
  ·rw [List.getD_eq_getElem?_getD,List.getElem?_eq_none hh] at h; simp at h
theorem pr_iff {L : List SetD} {n : Nat} {T : List Bool} : (prL L n (idxs T)).isSome = true ↔ Cov L T:=by
 cases hp : prL L n (idxs T) with
 | none =>
  obtain ⟨e,he,hn⟩:=pr_uncov _ hp
  simp
  intro hc
  obtain ⟨s,hs,hb⟩:=hc e (idxs_all.1 he)
  rw [hn s hs] at hb; cases hb
 | some P =>
  simp
  exact fun e he => pr_cov _ P hp e (idxs_all.2 he)
theorem gr_none {L : List SetD} : ∀ (f : Nat) (B : List Bool) (A : List Int),(∀ s ∈ L,∀ e ∈ s.elems,0 ≤ e) → grD L f B A = none → ∃ e : Nat,B.getD e false = true ∧ ∀ s ∈ L,hasE s e = false
 | 0,B,A,_,h => by simp [grD] at h
 | f + 1,B,A,h0,h => by
  unfold grD at h
  split at h
  ·cases h
  ·rename_i hz
   split at h
   ·rename_i hc
    have hno:=chS_none L.length (Nat.le_refl _) hc
    have hex : ∃ e,B.getD e false = true:=by
     by_cases hh : ∃ e,B.getD e false = true
     ·exact hh
     ·exact absurd (cnt_zero.2 fun j => by cases hb : B.getD j false; rfl; exact absurd ⟨j,hb⟩ hh) hz
    obtain ⟨e,he⟩:=hex
    refine ⟨e,he,fun s hs => ?_⟩
    obtain ⟨j,hj,rfl⟩:=List.getElem_of_mem hs
    cases hb : hasE L[j] e with
    | false => rfl
    | true =>
     have h1:=hno j hj hj
     have : 0 < frE B L[j].elems:=frE_pos.2 ⟨e,of_decide_eq_true hb,by rw [Int.toNat_natCast]; exact he⟩
     omega
   ·rename_i hc
    rcases chS_some (L:=L) (B:=B) L.length (Nat.le_refl _) with h1 | ⟨b,hb,h1,_⟩
    ·omega
    ·rw [h1,Int.toNat_natCast,List.getElem?_eq_getElem hb] at h
     obtain ⟨e,he,hn⟩:=gr_none f _ _ h0 h
     refine ⟨e,?_,hn⟩
     have:=wipe_get (B:=B) (j:=e) (E:=L[b].elems) (h0 _ (List.getElem_mem hb))
     rw [show ((some L[b]).elim [] fun x => x.elems) = L[b].elems from rfl,this] at he
     simp at he; simpa using he.1
theorem gr_some {L : List SetD} : ∀ (f : Nat) (B : List Bool) (A A' : List Int),(∀ s ∈ L,∀ e ∈ s.elems,0 ≤ e) → B.count true ≤ f → grD L f B A = some A' → (∀ a ∈ A,a ∈ A') ∧ ∀ e : Nat,B.getD e false = true → ∃ k,∃ h : k < L.length,(k : Int) ∈ A' ∧ hasE L[k] e = true
 | 0,B,A,A',_,hf,h => by
  simp [grD] at h
  subst h
  refine ⟨fun a ha => ha,fun e he => ?_⟩
  have:=cnt_zero.1 (show B.count true = 0 by omega) e
  rw [this] at he; cases he
 | f + 1,B,A,A',h0,hf,h => by
  unfold grD at h
  split at h
  ·rename_i hz
   cases h
   refine ⟨fun a ha => ha,fun e he => ?_⟩
   have:=cnt_zero.1 hz e
   rw [this] at he; cases he
  ·rename_i hz
   split at h
   ·cases h
   ·rename_i hc
    rcases chS_some (L:=L) (B:=B) L.length (Nat.le_refl _) with h1 | ⟨b,hb,h1,_,_,hp⟩
    ·omega
    ·rw [h1,Int.toNat_natCast,List.getElem?_eq_getElem hb] at h
     have hE:=h0 _ (List.getElem_mem hb)
     have hlt:=wipe_cnt hE hp
     obtain ⟨i1,i2⟩:=gr_some f _ _ A' h0 (by show (wipe B L[b].elems).count true ≤ f; omega) h
     refine ⟨fun a ha => i1 a (by simp [ha]),fun e he => ?_⟩
     by_cases hbe : (e : Int) ∈ L[b].elems
     ·exact ⟨b,hb,i1 _ (by simp),decide_eq_true hbe⟩
     ·refine i2 e ?_
      show (wipe B L[b].elems).getD e false = true
      rw [wipe_get hE,he,decide_eq_false hbe]; rfl
theorem gr_iff {L : List SetD} {T : List Bool} (h0 : ∀ s ∈ L,∀ e ∈ s.elems,0 ≤ e) : (grD L T.length T []).isSome = true ↔ Cov L T:=by
 cases hp : grD L T.length T [] with
 | none =>
  obtain ⟨e,he,hn⟩:=gr_none _ _ _ h0 hp
  simp
  intro hc
  obtain ⟨s,hs,hb⟩:=hc e he
  rw [hn s hs] at hb; cases hb
 | some A =>
  simp
  intro e he
  obtain ⟨k,hk,_,hb⟩:=(gr_some _ _ _ A h0 List.count_le_length hp).2 e he
  exact ⟨L[k],List.getElem_mem hk,hb⟩
/-! ### masks -/
def msk (mask k : Nat) : Bool:=decide (mask / 2 ^ k % 2 = 1)
def wipeM (L : List SetD) (T : List Bool) (b : Nat → Bool) : Nat → List Bool
 | 0 => T
 | k + 1 => if b k then wipe (wipeM L T b k) ((L[k]?).elim [] (·.elems)) else wipeM L T b k
def costM (L : List SetD) (b : Nat → Bool) : Nat → Int
 | 0 => 0
 | k + 1 => if b k then costM L b k + ((L[k]?).elim 0 (·.cost)) else costM L b k
theorem costM_bound {L : List SetD} {n : Nat} {b : Nat → Bool} (hD : DOk n L) : ∀ k,0 ≤ costM L b k ∧ costM L b k ≤ (k : Int) * 2147483648
 | 0 => by simp [costM]
 | k + 1 => by
  have ih:=costM_bound (b:=b) hD k
  unfold costM
  split
  ·cases h : L[k]? with
   | none => simp; omega
   | some s =>
    have:=hD.cost s (List.mem_of_getElem? h)
    simp; omega
  ·omega
theorem wipeM_get {L : List SetD} {n : Nat} {T : List Bool} {b : Nat → Bool} (hD : DOk n L) {j : Nat} : ∀ k,k ≤ L.length → ((wipeM L T b k).getD j false = true ↔ T.getD j false = true ∧ ∀ i (h : i < L.length),i < k → b i = true → hasE L[i] j = false)
 | 0,_ => by simp [wipeM]
 | k + 1,hk => by
  have ih:=wipeM_get (T:=T) (b:=b) hD (j:=j) k (by omega)
  unfold wipeM
  rw [List.getElem?_eq_getElem (show k < L.length by omega)]
  have hE : ∀ e ∈ L[k].elems,0 ≤ e:=fun e he => by have:=(rises_mem (hD.rise _ (List.getElem_mem _)) e he).1; omega
  split
  ·rename_i hb
   show (wipe (wipeM L T b k) L[k].elems).getD j false = true ↔ _
   rw [wipe_get hE,Bool.and_eq_true,ih]
   constructor
   ·rintro ⟨⟨h1,h2⟩,h3⟩
    refine ⟨h1,fun i hi hik hbi => ?_⟩
    rcases Nat.lt_or_ge i k with hh | hh
    ·exact h2 i hi hh hbi
    ·obtain rfl : i = k:=by omega
     unfold hasE; simpa using h3
   ·rintro ⟨h1,h2⟩
    refine ⟨⟨h1,fun i hi hik => h2 i hi (by omega)⟩,?_⟩
    have:=h2 k (by omega) (by omega) hb
    unfold hasE at this
    simpa using this
  ·rename_i hb
   rw [ih]
   constructor
   ·rintro ⟨h1,h2⟩
    refine ⟨h1,fun i hi hik hbi => ?_⟩
    rcases Nat.lt_or_ge i k with hh | hh
    ·exact h2 i hi hh hbi
    ·obtain rfl : i = k:=by omega
     exact absurd hbi hb
   ·rintro ⟨h1,h2⟩
    exact ⟨h1,fun i hi hik => h2 i hi (by omega)⟩
theorem wipeM_zero {L : List SetD} {n : Nat} {T : List Bool} {b : Nat → Bool} (hD : DOk n L) : (wipeM L T b L.length).count true = 0 ↔ ∀ e : Nat,T.getD e false = true → ∃ i,∃ h : i < L.length,b i = true ∧ hasE L[i] e = true:=by
 rw [cnt_zero]
 constructor
 ·intro h e he
  by_cases hc : ∃ i,∃ h : i < L.length,b i = true ∧ hasE L[i] e = true
  ·exact hc
  ·have : (wipeM L T b L.length).getD e false = true:=(wipeM_get hD L.length (Nat.le_refl _)).2 ⟨he,fun i hi _ hb => by
    cases hh : hasE L[i] e with
    | false => rfl
    | true => exact absurd ⟨i,hi,hb,hh⟩ hc⟩
   rw [h e] at this; cases this
 ·intro h j
  cases hb : (wipeM L T b L.length).getD j false with
  | false => rfl
  | true =>
   obtain ⟨h1,h2⟩:=(wipeM_get hD L.length (Nat.le_refl _)).1 hb
   obtain ⟨i,hi,hbi,hh⟩:=h j h1
   rw [h2 i hi hi hbi] at hh; cases hh
/-! ### what the prices tell -/
def restS (P : List Int) (B : List Bool) : Int:=((List.range P.length).map fun i => if B.getD i false then P.getD i 0 else 0).sum
theorem sum_one {f g : Nat → Int} {j : Nat} {c : Int} (h1 : ∀ i,i ≠ j → f i ≤ g i) (h2 : f j ≤ g j + c) (hc : 0 ≤ c) : ∀ n,((List.range n).map f).sum ≤ ((List.range n).map g).sum + if j < n then c else 0
 | 0 => by simp
 | n + 1 => by
  have ih:=sum_one h1 h2 hc n
  rw [List.range_succ,List.map_append,List.map_append,List.sum_append,List.sum_append,List.map_singleton,List.map_singleton,List.sum_singleton,List.sum_singleton]
  by_cases hj : n = j
  ·subst hj
   rw [if_neg (by omega)] at ih
   rw [if_pos (by omega)]; omega
  ·have:=h1 n hj
   split at ih <;> split <;> omega
theorem rest_one {P : List Int} {B : List Bool} {e : Int} (h0 : 0 ≤ e) (hP : ∀ i,0 ≤ P.getD i 0) : restS P B ≤ restS P (setB B e false) + P.getD e.toNat 0:=by
 have:=sum_one (f:=fun i => if B.getD i false then P.getD i 0 else 0) (g:=fun i => if (setB B e false).getD i false then P.getD i 0 else 0) (j:=e.toNat) (c:=P.getD e.toNat 0) (fun i hi => by
  rw [setB_getF h0,decide_eq_false (by omega)]; simp) (by
  have:=hP e.toNat
  split <;> split <;> omega) (hP _) P.length
 unfold restS
 have hp:=hP e.toNat
 split at this <;> omega
theorem rest_wipe {P : List Int} {B : List Bool} (hP : ∀ i,0 ≤ P.getD i 0) (E : List Int) : (∀ e ∈ E,0 ≤ e) → restS P B ≤ restS P (wipe B E) + spentP P E:=by
 refine rev_ind (Q:=fun E => (∀ e ∈ E,0 ≤ e) → restS P B ≤ restS P (wipe B E) + spentP P E) (fun _ => by simp [wipe,spentP]) (fun E e ih h => ?_) E
 have h1:=ih fun x hx => h x (by simp [hx])
 have h2:=rest_one (P:=P) (B:=wipe B E) (h e (by simp)) hP
 have h3 : spentP P (E ++ [e]) = spentP P E + P.getD e.toNat 0:=by unfold spentP; rw [List.map_append,List.sum_append,List.map_singleton,List.sum_singleton]
 rw [wipe_snoc,h3]; omega
theorem rest_zero {P : List Int} {B : List Bool} (h : B.count true = 0) : restS P B = 0:=by
 unfold restS
 have hz:=cnt_zero.1 h
 have : (List.range P.length).map (fun i => if B.getD i false then P.getD i 0 else 0) = (List.range P.length).map fun _ => 0:=List.map_congr_left fun i _ => by rw [hz i]; simp
 rw [this]
 generalize P.length = n
 induction n with
 | zero => rfl
 | succ n ih => rw [List.range_succ,List.map_append,List.sum_append,ih]; simp
theorem sum_getD : ∀ P : List Int,((List.range P.length).map fun i => P.getD i 0).sum = P.sum:=fun P => by
 have : (List.range P.length).map (fun i => P.getD i 0) = P:=by
  apply List.ext_getElem
  ·simp
  ·intro i h1 h2
   simp at h1
   simp [List.getD_eq_getElem?_getD,List.getElem?_eq_getElem h1]
 rw [this]
theorem rest_all {P : List Int} {T : List Bool} (h : ∀ i,P.getD i 0 ≠ 0 → T.getD i false = true) : restS P T = P.sum:=by
 rw [← sum_getD P]
 unfold restS
 congr 1
 refine List.map_congr_left fun i _ => ?_
 by_cases h0 : P.getD i 0 = 0
 ·rw [h0]; simp
 ·rw [h i h0]; simp
theorem dual_least {L : List SetD} {n : Nat} {T : List Bool} {P : List Int} {b : Nat → Bool} (hD : DOk n L) (hP : prL L n (idxs T) = some P) (hn : n = T.length) (hz : (wipeM L T b L.length).count true = 0) : P.sum ≤ costM L b L.length:=by
 obtain ⟨hok,hzero⟩:=prL_ok hD (idxs T) (idxs_nodup T _) (fun e he => by rw [hn]; exact (idxs_mem.1 he).1) P hP
 have hpos : ∀ i,0 ≤ P.getD i 0:=fun i => (hok.pos i).1
 have key : ∀ k,k ≤ L.length → P.sum ≤ restS P (wipeM L T b k) + costM L b k:=by
  intro k
  induction k with
  | zero =>
   intro _
   rw [show wipeM L T b 0 = T from rfl,show costM L b 0 = 0 from rfl,rest_all fun i hi => by
    by_cases hc : i ∈ idxs T
    ·exact idxs_all.1 hc
    ·exact absurd (hzero i hc) hi]
   omega
  | succ k ih =>
   intro hk
   have ih:=ih (by omega)
   unfold wipeM costM
   rw [List.getElem?_eq_getElem (show k < L.length by omega)]
   split
   ·have h1:=rest_wipe (B:=wipeM L T b k) hpos L[k].elems fun e he => by have:=(rises_mem (hD.rise _ (List.getElem_mem _)) e he).1; omega
    have h2:=hok.left L[k] (List.getElem_mem _)
    show P.sum ≤ restS P (wipe (wipeM L T b k) L[k].elems) + (costM L b k + L[k].cost)
    omega
   ·exact ih
 have:=key L.length (Nat.le_refl _)
 rw [rest_zero hz] at this
 omega
theorem msk_full {n k : Nat} (h : k < n) : msk (2 ^ n - 1) k = true:=by
 unfold msk
 have h1 : (2 ^ n - 1) / 2 ^ k % 2 = 1:=by
  have : (2 ^ n - 1).testBit k = true:=by rw [Nat.testBit_two_pow_sub_one]; exact decide_eq_true h
  rw [Nat.testBit_eq_decide_div_mod_eq] at this
  exact of_decide_eq_true this
 exact decide_eq_true h1
theorem cov_iff {L : List SetD} {n : Nat} {T : List Bool} (hD : DOk n L) : Cov L T ↔ ∃ mask,mask < 2 ^ L.length ∧ (wipeM L T (msk mask) L.length).count true = 0:=by
 constructor
 ·intro hc
  refine ⟨2 ^ L.length - 1,by have:=Nat.two_pow_pos L.length; omega,(wipeM_zero hD).2 fun e he => ?_⟩
  obtain ⟨s,hs,hb⟩:=hc e he
  obtain ⟨i,hi,rfl⟩:=List.getElem_of_mem hs
  exact ⟨i,hi,msk_full hi,hb⟩
 ·rintro ⟨mask,_,hz⟩ e he
  obtain ⟨i,hi,_,hb⟩:=(wipeM_zero hD).1 hz e he
  exact ⟨L[i],List.getElem_mem hi,hb⟩
/-! ### what is taken -/
def wipeL (L : List SetD) (T : List Bool) (X : List Int) : List Bool:=X.foldl (fun B a => wipe B ((L[a.toNat]?).elim [] (·.elems))) T
theorem wipeL_snoc {L : List SetD} {T : List Bool} {X : List Int} {a : Int} : wipeL L T (X ++ [a]) = wipe (wipeL L T X) ((L[a.toNat]?).elim [] (·.elems)):=by simp [wipeL]
theorem wipeL_get {L : List SetD} {n : Nat} {T : List Bool} (hD : DOk n L) {j : Nat} (X : List Int) : (∀ a ∈ X,∃ k : Nat,a = k ∧ k < L.length) → ((wipeL L T X).getD j false = true ↔ T.getD j false = true ∧ ∀ k (h : k < L.length),(k : Int) ∈ X → hasE L[k] j = false):=by
 refine rev_ind (Q:=fun (X : List Int) => (∀ a ∈ X,∃ k : Nat,a = k ∧ k < L.length) → ((wipeL L T X).getD j false = true ↔ T.getD j false = true ∧ ∀ k (h : k < L.length),(k : Int) ∈ X → hasE L[k] j = false)) (fun _ => by simp [wipeL]) (fun X a ih h => ?_) X
 have ih:=ih fun x hx => h x (by simp [hx])
 obtain ⟨k,rfl,hk⟩:=h a (by simp)
 have hE : ∀ e ∈ L[k].elems,0 ≤ e:=fun e he => by have:=(rises_mem (hD.rise _ (List.getElem_mem _)) e he).1; omega
 rw [wipeL_snoc,Int.toNat_natCast,List.getElem?_eq_getElem hk]
 show (wipe (wipeL L T X) L[k].elems).getD j false = true ↔ _
 rw [wipe_get hE,Bool.and_eq_true,ih]
 constructor
 ·rintro ⟨⟨h1,h2⟩,h3⟩
  refine ⟨h1,fun i hi hm => ?_⟩
  rcases List.mem_append.1 hm with hm | hm
  ·exact h2 i hi hm
  ·simp at hm
   obtain rfl : i = k:=by omega
   unfold hasE; simpa using h3
 ·rintro ⟨h1,h2⟩
  refine ⟨⟨h1,fun i hi hm => h2 i hi (by simp [hm])⟩,?_⟩
  have:=h2 k hk (by simp)
  unfold hasE at this
  simpa using this
theorem taken_all {L : List SetD} {n : Nat} {T : List Bool} {A : List Int} (hD : DOk n L) (hg : grD L T.length T [] = some A) : (wipeL L T (selK (inL A) L.length)).count true = 0:=by
 have h0 : ∀ s ∈ L,∀ e ∈ s.elems,0 ≤ e:=fun s hs e he => by have:=(rises_mem (hD.rise s hs) e he).1; omega
 have hc:=(gr_some _ _ _ A h0 List.count_le_length hg).2
 rw [cnt_zero]
 intro j
 cases hb : (wipeL L T (selK (inL A) L.length)).getD j false with
 | false => rfl
 | true =>
  obtain ⟨h1,h2⟩:=(wipeL_get hD _ fun a ha => by obtain ⟨i,h,hi,_⟩:=selK_mem.1 ha; exact ⟨i,h,hi⟩).1 hb
  obtain ⟨k,hk,hkA,hh⟩:=hc j h1
  rw [h2 k hk (selK_mem.2 ⟨k,rfl,hk,decide_eq_true hkA⟩)] at hh; cases hh
end Go.Abs
