/-
  PLAIN LAW of package dual: which sets may be; prices.
-/
import Derived.Test.YtejifalflkbekaaDoorInst0
import Derived.Test.YtejifalflkbekaaDoorBs
import Derived.Test.YtejifalflkbekaaDoorSelK
set_option maxRecDepth 100000
set_option linter.unusedSimpArgs false
set_option linter.unusedVariables false
namespace Go.Abs
open Go Go.Proofs.YtejifalflkbekaaDoor.Bs
def dInst (n : Int) (M : List SetD) : InstD:=⟨3,0,[],[],n,M⟩
noncomputable def mayD (n : Int) (M : List SetD) : Bool:=decide ((dInst n M).check = 0)
structure DOk (n : Nat) (M : List SetD) : Prop where
 rise : ∀ s ∈ M,Rises (-1) n s.elems
 cost : ∀ s ∈ M,0 ≤ s.cost ∧ s.cost ≤ 2147483648
 len : M.length ≤ 4096
theorem mayD_ok {n : Nat} {M : List SetD} (h : mayD n M = true) : DOk n M:=by
 have h:=InstD.check_ok.1 (of_decide_eq_true h)
 refine ⟨fun s hs => ?_,fun s hs => ?_,h.few.sets⟩
 ·obtain ⟨i,hi,rfl⟩:=List.getElem_of_mem hs
  exact h.shaped.sets i hi
 ·obtain ⟨i,hi,rfl⟩:=List.getElem_of_mem hs
  exact h.small.sets i hi
theorem mayD_of {n : Nat} {M : List SetD} (hn : n ≤ 4096) (h : DOk n M) : mayD n M = true:=by
 refine decide_eq_true (InstD.check_ok.2 ⟨by show (0:Int) ≤ 3; omega,by show (3:Int) < 4; omega,⟨.inr ⟨rfl,rfl⟩,.inr (.inr rfl),.inl rfl⟩,⟨fun h => by rcases h with h | h <;> exact absurd h (by show ¬ (3:Int) = _; omega),by show 0 ≤ 4096; omega,h.len,by show 0 ≤ (n:Int); omega,by show (n:Int) ≤ 4096; omega⟩,⟨fun k hk => by simp [dInst] at hk,fun k hk => h.rise _ (List.getElem_mem hk)⟩,⟨by show Mag 0 0; unfold Mag; omega,fun k hk => by simp [dInst] at hk,fun k hk => by simp [dInst] at hk,fun k hk => h.cost _ (List.getElem_mem hk)⟩,fun h => absurd h (by show ¬ (3:Int) = 2; omega)⟩)
theorem rises_mem {n : Int} : ∀ {E : List Int} {l : Int},Rises l n E → ∀ e ∈ E,l < e ∧ e < n
 | [],_,_,e,h => by simp at h
 | x :: E,l,⟨h1,h2,h3⟩,e,h => by
  rcases List.mem_cons.1 h with rfl | h
  ·exact ⟨h1,h2⟩
  ·have:=rises_mem h3 e h; omega
theorem rises_pair {n : Int} : ∀ {E : List Int} {l : Int},Rises l n E → E.Pairwise (· < ·)
 | [],_,_ => .nil
 | x :: E,l,⟨h1,h2,h3⟩ => .cons (fun e he => (rises_mem h3 e he).1) (rises_pair h3)
def hasE (s : SetD) (e : Nat) : Bool:=decide ((e : Int) ∈ s.elems)
def spentP (P : List Int) (E : List Int) : Int:=(E.map fun e => P.getD e.toNat 0).sum
theorem spentP_cons {P : List Int} {a : Int} {E : List Int} : spentP P (a :: E) = P.getD a.toNat 0 + spentP P E:=by simp [spentP]
theorem getI_set {P : List Int} {k i : Nat} {m : Int} (hk : k < P.length) : (P.set k m).getD i 0 = if i = k then m else P.getD i 0:=by
 rw [List.getD_eq_getElem?_getD,List.getElem?_set]
 by_cases h : k = i
 ·subst h; rw [if_pos rfl,if_pos rfl,if_pos hk]; rfl
 ·rw [if_neg h,if_neg (Ne.symm h),List.getD_eq_getElem?_getD]
theorem spent_set {P : List Int} {k : Nat} {m : Int} (hk : k < P.length) (hz : P.getD k 0 = 0) : ∀ {E : List Int},E.Pairwise (· < ·) → (∀ e ∈ E,0 ≤ e) → spentP (P.set k m) E = spentP P E + if (k : Int) ∈ E then m else 0
 | [],_,_ => by simp [spentP]
 | a :: E,hp,h0 => by
  obtain ⟨p1,p2⟩:=List.pairwise_cons.1 hp
  rw [spentP_cons,spentP_cons,spent_set hk hz p2 fun e he => h0 e (by simp [he]),getI_set hk]
  have ha:=h0 a (by simp)
  by_cases hka : (k : Int) = a
  ·have hn : (k : Int) ∉ E:=fun h => by have:=p1 _ h; omega
   rw [if_pos (by omega),if_neg hn,if_pos (by simp [hka]),show a.toNat = k by omega,hz]
   omega
  ·rw [if_neg (by omega)]
   by_cases hkE : (k : Int) ∈ E
   ·rw [if_pos hkE,if_pos (by simp [hkE])]; omega
   ·rw [if_neg hkE,if_neg (by simp [hka,hkE])]; omega
theorem spent_pos {P : List Int} (h : ∀ i,0 ≤ P.getD i 0) : ∀ E : List Int,0 ≤ spentP P E
 | [] => by simp [spentP]
 | a :: E => by have:=spent_pos h E; have:=h a.toNat; rw [spentP_cons]; omega
/-! ### the least -/
def minStep (o : Option Int) (x : Int) : Option Int:=match o with
 | none => some x
 | some m => some (if x < m then x else m)
def minL (l : List Int) : Option Int:=l.foldl minStep none
theorem minL_snoc {l : List Int} {x : Int} : minL (l ++ [x]) = minStep (minL l) x:=by simp [minL]
theorem minL_nil : minL [] = none:=rfl
theorem rev_ind {α : Type} {Q : List α → Prop} (h0 : Q []) (h1 : ∀ l x,Q l → Q (l ++ [x])) (l : List α) : Q l:=by
 have key : ∀ n (l : List α),l.length = n → Q l:=by
  intro n
  induction n with
  | zero => intro l hl; rw [List.eq_nil_of_length_eq_zero hl]; exact h0
  | succ n ih =>
   intro l hl
   have hne : l ≠ []:=fun h => by rw [h] at hl; simp at hl
   rw [← List.dropLast_concat_getLast hne]
   exact h1 _ _ (ih _ (by simp [hl]))
 exact key _ l rfl
theorem minL_none {l : List Int} : minL l = none ↔ l = []:=by
 refine rev_ind (Q:=fun l => minL l = none ↔ l = []) (by simp [minL_nil]) (fun l x _ => ?_) l
 rw [minL_snoc]
 cases minL l <;> simp [minStep]
theorem minL_some {l : List Int} {m : Int} : minL l = some m ↔ m ∈ l ∧ ∀ x ∈ l,m ≤ x:=by
 refine rev_ind (Q:=fun l => ∀ m,minL l = some m ↔ m ∈ l ∧ ∀ x ∈ l,m ≤ x) (by simp [minL_nil]) (fun l x ih => ?_) l m
 intro m
 rw [minL_snoc]
 cases h : minL l with
 | none =>
  have hl:=minL_none.1 h
  subst hl
  simp [minStep]
  constructor
  ·rintro rfl; exact ⟨rfl,Int.le_refl _⟩
  ·rintro ⟨h1,_⟩; exact h1.symm
 | some y =>
  obtain ⟨h1,h2⟩:=(ih y).1 h
  simp only [minStep,Option.some.injEq,List.mem_append,List.mem_singleton]
  constructor
  ·intro he
   by_cases hxy : x < y
   ·rw [if_pos hxy] at he
    subst he
    exact ⟨.inr rfl,fun z hz => by rcases hz with hz | hz; have:=h2 z hz; omega; omega⟩
   ·rw [if_neg hxy] at he
    subst he
    exact ⟨.inl h1,fun z hz => by rcases hz with hz | hz; exact h2 z hz; omega⟩
  ·rintro ⟨h3,h4⟩
   have q1:=h4 x (.inr rfl)
   have q2:=h4 y (.inl h1)
   rcases h3 with h3 | rfl
   ·have:=h2 m h3
    split <;> omega
   ·split <;> omega
/-! ### prices -/
def leftP (L : List SetD) (P : List Int) (e : Nat) : List Int:=(L.filter (hasE · e)).map fun s => s.cost - spentP P s.elems
def prStep (L : List SetD) (o : Option (List Int)) (e : Nat) : Option (List Int):=o.bind fun P => (minL (leftP L P e)).map fun m => P.set e m
def prL (L : List SetD) (n : Nat) (l : List Nat) : Option (List Int):=l.foldl (prStep L) (some (List.replicate n 0))
theorem prL_snoc {L : List SetD} {n e : Nat} {l : List Nat} : prL L n (l ++ [e]) = prStep L (prL L n l) e:=by simp [prL]
theorem prL_none {L : List SetD} {n : Nat} {l m : List Nat} (h : prL L n l = none) : prL L n (l ++ m) = none:=by
 refine rev_ind (Q:=fun m => prL L n (l ++ m) = none) (by simpa using h) (fun m x ih => ?_) m
 rw [← List.append_assoc,prL_snoc,ih]; rfl
noncomputable def prA (L : List SetD) (T : List Bool) : Option (List Int):=if mayD T.length L then prL L T.length (idxs T) else none
structure PrOk (L : List SetD) (n : Nat) (P : List Int) : Prop where
 len : P.length = n
 pos : ∀ i,0 ≤ P.getD i 0 ∧ P.getD i 0 ≤ 2147483648
 left : ∀ s ∈ L,0 ≤ s.cost - spentP P s.elems
theorem getD_zeros {n i : Nat} : (List.replicate n (0 : Int)).getD i 0 = 0:=by
 rw [List.getD_eq_getElem?_getD,List.getElem?_replicate]; split <;> rfl
theorem spent_zeros {n : Nat} : ∀ E : List Int,spentP (List.replicate n 0) E = 0
 | [] => rfl
 | a :: E => by rw [spentP_cons,spent_zeros E,getD_zeros]; rfl
theorem pr_zero {L : List SetD} {n : Nat} (hD : DOk n L) : PrOk L n (List.replicate n 0) :=
 ⟨by simp,fun i => by rw [getD_zeros]; omega,fun s hs => by rw [spent_zeros]; have:=(hD.cost s hs).1; omega⟩
theorem pr_min {L : List SetD} {n e : Nat} {P : List Int} {m : Int} (hD : DOk n L) (h : PrOk L n P) (hm : minL (leftP L P e) = some m) : 0 ≤ m ∧ m ≤ 2147483648 ∧ ∀ s ∈ L,hasE s e = true → m ≤ s.cost - spentP P s.elems:=by
 obtain ⟨h1,h2⟩:=minL_some.1 hm
 obtain ⟨s,hs,rfl⟩:=List.mem_map.1 h1
 obtain ⟨hsL,_⟩:=List.mem_filter.1 hs
 have:=h.left s hsL
 have:=hD.cost s hsL
 have:=spent_pos (fun i => (h.pos i).1) s.elems
 exact ⟨by omega,by omega,fun t ht he => h2 _ (List.mem_map.2 ⟨t,List.mem_filter.2 ⟨ht,he⟩,rfl⟩)⟩
theorem pr_left {L : List SetD} {n e : Nat} {P : List Int} {m : Int} (hD : DOk n L) (h : PrOk L n P) (he : e < n) (hz : P.getD e 0 = 0) {s : SetD} (hs : s ∈ L) : s.cost - spentP (P.set e m) s.elems = s.cost - spentP P s.elems - if hasE s e then m else 0:=by
 have hr:=hD.rise s hs
 rw [spent_set (by rw [h.len]; exact he) hz (rises_pair hr) fun x hx => by have:=rises_mem hr x hx; omega]
 unfold hasE
 by_cases hc : (e : Int) ∈ s.elems
 ·rw [if_pos hc,if_pos (decide_eq_true hc)]; omega
 ·rw [if_neg hc,if_neg (by simp [hc])]; omega
theorem pr_step {L : List SetD} {n e : Nat} {P : List Int} {m : Int} (hD : DOk n L) (h : PrOk L n P) (he : e < n) (hz : P.getD e 0 = 0) (hm : minL (leftP L P e) = some m) : PrOk L n (P.set e m):=by
 obtain ⟨h1,h2,h3⟩:=pr_min hD h hm
 refine ⟨by rw [List.length_set]; exact h.len,fun i => ?_,fun s hs => ?_⟩
 ·rw [getI_set (by rw [h.len]; exact he)]
  split
  ·exact ⟨h1,h2⟩
  ·exact h.pos i
 ·rw [pr_left hD h he hz hs]
  have:=h.left s hs
  split
  ·rename_i hb; have:=h3 s hs hb; omega
  ·omega
theorem prL_ok {L : List SetD} {n : Nat} (hD : DOk n L) (l : List Nat) (hl : l.Nodup) (hn : ∀ e ∈ l,e < n) : ∀ P,prL L n l = some P → PrOk L n P ∧ ∀ i,i ∉ l → P.getD i 0 = 0:=by
 refine rev_ind (Q:=fun l => l.Nodup → (∀ e ∈ l,e < n) → ∀ P,prL L n l = some P → PrOk L n P ∧ ∀ i,i ∉ l → P.getD i 0 = 0) (fun _ _ P h => ?_) (fun l e ih hl hn P h => ?_) l hl hn
 ·cases h
  exact ⟨pr_zero hD,fun i _ => getD_zeros⟩
 ·rw [prL_snoc] at h
  cases hP : prL L n l with
  | none => rw [hP] at h; cases h
  | some P0 =>
   rw [hP] at h
   obtain ⟨n1,_,n2⟩:=List.nodup_append.1 hl
   obtain ⟨h1,h2⟩:=ih n1 (fun x hx => hn x (by simp [hx])) P0 hP
   simp only [prStep,Option.bind_some,Option.map_eq_some_iff] at h
   obtain ⟨m,hm,rfl⟩:=h
   have he:=hn e (by simp)
   have hne : e ∉ l:=fun hc => n2 e hc e (by simp) rfl
   refine ⟨pr_step hD h1 he (h2 e hne) hm,fun i hi => ?_⟩
   rw [getI_set (by rw [h1.len]; exact he),if_neg (fun hc => hi (by simp [hc]))]
   exact h2 i fun hc => hi (by simp [hc])
theorem idxs_nodup (T : List Bool) (k : Nat) : (idxTo T k).Nodup:=List.nodup_range.sublist List.filter_sublist
theorem idxs_mem {T : List Bool} {k e : Nat} : e ∈ idxTo T k ↔ e < k ∧ T.getD e false = true:=by simp [idxTo]
end Go.Abs
