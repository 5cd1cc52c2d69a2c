/-
  PLAIN LAW of package dual: greedily.
-/
import Derived.Test.YtejifalflkbekaaDoorDp1
set_option maxRecDepth 100000
set_option linter.unusedSimpArgs false
set_option linter.unusedVariables false
namespace Go.Abs
open Go Go.Proofs.YtejifalflkbekaaDoor.Bs
def frE (B : List Bool) (E : List Int) : Nat:=(E.filter fun e => B.getD e.toNat false).length
theorem frE_le (B : List Bool) (E : List Int) : frE B E ≤ E.length:=List.length_filter_le _ _
theorem frE_take {B : List Bool} {E : List Int} {k : Nat} (h : k < E.length) : frE B (E.take (k + 1)) = frE B (E.take k) + if B.getD E[k].toNat false then 1 else 0:=by
 unfold frE
 rw [List.take_succ_eq_append_getElem h,List.filter_append,List.length_append]
 congr 1
 cases hb : B.getD E[k].toNat false
 ·rw [List.filter_cons_of_neg (by rw [hb]; simp)]; rfl
 ·rw [List.filter_cons_of_pos (by rw [hb])]; rfl
theorem frE_pos {B : List Bool} {E : List Int} : 0 < frE B E ↔ ∃ e ∈ E,B.getD e.toNat false = true:=by
 unfold frE
 rw [List.length_pos_iff_exists_mem]
 constructor
 ·rintro ⟨e,he⟩; exact ⟨e,(List.mem_filter.1 he).1,(List.mem_filter.1 he).2⟩
 ·rintro ⟨e,h1,h2⟩; exact ⟨e,List.mem_filter.2 ⟨h1,h2⟩⟩
def chS (L : List SetD) (B : List Bool) : Nat → Int × Int
 | 0 => (-1,0)
 | k + 1 => match L[k]? with
  | none => chS L B k
  | some s => if 0 < frE B s.elems ∧ ((chS L B k).1 < 0 ∨ s.cost * (chS L B k).2 < ((L[(chS L B k).1.toNat]?).elim 0 (·.cost)) * frE B s.elems) then ((k : Int),(frE B s.elems : Int)) else chS L B k
theorem chS_some {L : List SetD} {B : List Bool} : ∀ k,k ≤ L.length → (chS L B k).1 = -1 ∧ (chS L B k).2 = 0 ∨ ∃ b : Nat,∃ h : b < L.length,(chS L B k).1 = b ∧ b < k ∧ (chS L B k).2 = frE B L[b].elems ∧ 0 < frE B L[b].elems
 | 0,_ => .inl ⟨rfl,rfl⟩
 | k + 1,hk => by
  have ih:=chS_some (L:=L) (B:=B) k (by omega)
  unfold chS
  rw [List.getElem?_eq_getElem (show k < L.length by omega)]
  simp only
  split
  ·rename_i h
   exact .inr ⟨k,by omega,rfl,by omega,rfl,h.1⟩
  ·rcases ih with h | ⟨b,h1,h2,h3,h4⟩
   ·exact .inl h
   ·exact .inr ⟨b,h1,h2,by omega,h4⟩
theorem chS_none {L : List SetD} {B : List Bool} : ∀ k,k ≤ L.length → (chS L B k).1 < 0 → ∀ j (h : j < L.length),j < k → frE B L[j].elems = 0
 | 0,_,_,j,h,hj => by omega
 | k + 1,hk,hneg,j,h,hj => by
  unfold chS at hneg
  rw [List.getElem?_eq_getElem (show k < L.length by omega)] at hneg
  simp only at hneg
  split at hneg
  ·simp at hneg; omega
  ·rename_i hc
   rcases Nat.lt_or_ge j k with hh | hh
   ·exact chS_none k (by omega) hneg j h hh
   ·obtain rfl : j = k:=by omega
    rcases Nat.eq_zero_or_pos (frE B L[j].elems) with h0 | h0
    ·exact h0
    ·exact absurd ⟨h0,.inl hneg⟩ hc
theorem chS_step {L : List SetD} {B : List Bool} {k : Nat} (h : k < L.length) : chS L B (k + 1) = if 0 < frE B L[k].elems ∧ ((chS L B k).1 < 0 ∨ L[k].cost * (chS L B k).2 < ((L[(chS L B k).1.toNat]?).elim 0 (·.cost)) * frE B L[k].elems) then ((k : Int),(frE B L[k].elems : Int)) else chS L B k:=by
 rw [chS,List.getElem?_eq_getElem h]
def wipe (B : List Bool) (E : List Int) : List Bool:=E.foldl (fun B e => setB B e false) B
theorem wipe_snoc {B : List Bool} {E : List Int} {e : Int} : wipe B (E ++ [e]) = setB (wipe B E) e false:=by simp [wipe]
theorem setB_lenF (T : List Bool) (i : Int) (b : Bool) : (setB T i b).length = T.length:=by unfold setB; split <;> simp
theorem setB_getF {B : List Bool} {i : Int} {j : Nat} (h0 : 0 ≤ i) : (setB B i false).getD j false = (B.getD j false && !decide ((j : Int) = i)):=by
 unfold setB
 split
 ·rename_i h
  rw [List.getD_eq_getElem?_getD,List.getElem?_set]
  by_cases hj : i.toNat = j
  ·rw [if_pos hj,decide_eq_true (by omega)]
   split <;> simp
  ·rw [if_neg hj,← List.getD_eq_getElem?_getD,decide_eq_false (by omega)]; simp
 ·rename_i h
  by_cases hj : (j : Int) = i
  ·rw [decide_eq_true hj,List.getD_eq_getElem?_getD,List.getElem?_eq_none (by omega)]; simp
  ·rw [decide_eq_false hj]; simp
theorem wipe_len (B : List Bool) (E : List Int) : (wipe B E).length = B.length:=by
 refine rev_ind (Q:=fun E => (wipe B E).length = B.length) rfl (fun E e ih => ?_) E
 rw [wipe_snoc,setB_lenF,ih]
theorem wipe_get {B : List Bool} {E : List Int} {j : Nat} (h0 : ∀ e ∈ E,0 ≤ e) : (wipe B E).getD j false = (B.getD j false && !decide ((j : Int) ∈ E)):=by
 refine rev_ind (Q:=fun E => (∀ e ∈ E,0 ≤ e) → (wipe B E).getD j false = (B.getD j false && !decide ((j : Int) ∈ E))) (by simp [wipe]) (fun E e ih h => ?_) E h0
 rw [wipe_snoc,setB_getF (h e (by simp)),ih fun x hx => h x (by simp [hx])]
 by_cases h1 : (j : Int) ∈ E <;> by_cases h2 : (j : Int) = e <;> simp [h1,h2]
theorem cnt_lt : ∀ (B B' : List Bool),B'.length = B.length → (∀ j,B'.getD j false = true → B.getD j false = true) → B'.count true ≤ B.count true ∧ ((∃ j,B.getD j false = true ∧ B'.getD j false = false) → B'.count true < B.count true)
 | [],B',h,_ => by
  have:=List.eq_nil_of_length_eq_zero (by simpa using h : B'.length = 0)
  subst this; simp
 | b :: B,[],h,_ => by simp at h
 | b :: B,b' :: B',h,hi => by
  obtain ⟨h1,h2⟩:=cnt_lt B B' (by simpa using h) fun j hj => by have:=hi (j + 1); simpa using this (by simpa using hj)
  have h0:=hi 0
  simp at h0
  rw [List.count_cons,List.count_cons]
  refine ⟨by cases b <;> cases b' <;> simp_all <;> omega,?_⟩
  rintro ⟨j,hj1,hj2⟩
  cases j with
  | zero =>
   simp at hj1 hj2
   subst hj1 hj2
   simp; omega
  | succ j =>
   have:=h2 ⟨j,by simpa using hj1,by simpa using hj2⟩
   cases b <;> cases b' <;> simp_all <;> omega
theorem wipe_cnt {B : List Bool} {E : List Int} (h0 : ∀ e ∈ E,0 ≤ e) (hp : 0 < frE B E) : (wipe B E).count true < B.count true:=by
 refine (cnt_lt B (wipe B E) (wipe_len B E) fun j hj => ?_).2 ?_
 ·rw [wipe_get h0] at hj; simp at hj; simpa using hj.1
 ·obtain ⟨e,he,hb⟩:=frE_pos.1 hp
  have:=h0 e he
  exact ⟨e.toNat,hb,by rw [wipe_get h0,decide_eq_true (by rw [Int.toNat_of_nonneg this]; exact he)]; simp⟩
theorem cnt_zero {B : List Bool} : B.count true = 0 ↔ ∀ j,B.getD j false = false:=by
 rw [List.count_eq_zero]
 constructor
 ·intro h j
  cases hb : B.getD j false with
  | false => rfl
  | true =>
   exfalso
   rw [List.getD_eq_getElem?_getD] at hb
   cases hg : B[j]? with
   | none => rw [hg] at hb; simp at hb
   | some x =>
    rw [hg] at hb
    simp at hb
    subst hb
    exact h (List.mem_of_getElem? hg)
 ·intro h hm
  obtain ⟨j,hj,he⟩:=List.getElem_of_mem hm
  have:=h j
  rw [List.getD_eq_getElem?_getD,List.getElem?_eq_getElem hj,he] at this
  simp at this
def grD (L : List SetD) : Nat → List Bool → List Int → Option (List Int)
 | 0,_,A => some A
 | f + 1,B,A => if B.count true = 0 then some A else if (chS L B L.length).1 < 0 then none else grD L f (wipe B ((L[(chS L B L.length).1.toNat]?).elim [] (·.elems))) (A ++ [(chS L B L.length).1])
noncomputable def gdA (L : List SetD) (T : List Bool) : Option (List Int):=if mayD T.length L then (grD L T.length T []).map fun A => selK (inL A) L.length else none
structure GrSt (L : List SetD) (n : Nat) (T : List Bool) (B : List Bool) (A : List Int) : Prop where
 len : B.length = n
 nodup : A.Nodup
 mem : ∀ a ∈ A,∃ k : Nat,∃ h : k < L.length,a = (k : Int) ∧ frE B L[k].elems = 0
 go : ∃ f,B.count true ≤ f ∧ grD L f B A = grD L T.length T []
theorem gr_start {L : List SetD} {T : List Bool} : GrSt L T.length T T []:=⟨rfl,.nil,by simp,T.length,List.count_le_length,rfl⟩
theorem gr_done {L : List SetD} {n : Nat} {T B : List Bool} {A : List Int} (h : GrSt L n T B A) (hz : B.count true = 0) : grD L T.length T [] = some A:=by
 obtain ⟨f,h1,h2⟩:=h.go
 rw [← h2]
 cases f with
 | zero => rfl
 | succ f => rw [grD,if_pos hz]
theorem gr_fail {L : List SetD} {n : Nat} {T B : List Bool} {A : List Int} (h : GrSt L n T B A) (hz : B.count true ≠ 0) (hc : (chS L B L.length).1 < 0) : grD L T.length T [] = none:=by
 obtain ⟨f,h1,h2⟩:=h.go
 rw [← h2]
 cases f with
 | zero => omega
 | succ f => rw [grD,if_neg hz,if_pos hc]
theorem gr_next {L : List SetD} {n b : Nat} {T B : List Bool} {A : List Int} (hD : DOk n L) (h : GrSt L n T B A) (hz : B.count true ≠ 0) (hb : b < L.length) (hc : (chS L B L.length).1 = b) (hp : 0 < frE B L[b].elems) : GrSt L n T (wipe B L[b].elems) (A ++ [(b : Int)]) ∧ (wipe B L[b].elems).count true < B.count true:=by
 have hE : ∀ e ∈ L[b].elems,0 ≤ e:=fun e he => by have:=(rises_mem (hD.rise _ (List.getElem_mem hb)) e he).1; omega
 have hlt:=wipe_cnt hE hp
 refine ⟨⟨by rw [wipe_len,h.len],?_,fun a ha => ?_,?_⟩,hlt⟩
 ·rw [List.nodup_append]
  refine ⟨h.nodup,by simp,fun x hx y hy => ?_⟩
  simp at hy; subst hy
  intro e; subst e
  obtain ⟨k,hk,h1,h2⟩:=h.mem _ hx
  obtain rfl : b = k:=by omega
  omega
 ·have hzero : ∀ E : List Int,frE B E = 0 → frE (wipe B L[b].elems) E = 0:=fun E hz => by
   rcases Nat.eq_zero_or_pos (frE (wipe B L[b].elems) E) with h0 | h0
   ·exact h0
   ·obtain ⟨e,he,hb2⟩:=frE_pos.1 h0
    rw [wipe_get hE] at hb2
    have : 0 < frE B E:=frE_pos.2 ⟨e,he,by simp at hb2; simpa using hb2.1⟩
    omega
  rcases List.mem_append.1 ha with ha | ha
  ·obtain ⟨k,hk,h1,h2⟩:=h.mem a ha
   exact ⟨k,hk,h1,hzero _ h2⟩
  ·simp at ha
   refine ⟨b,hb,ha,?_⟩
   rcases Nat.eq_zero_or_pos (frE (wipe B L[b].elems) L[b].elems) with h0 | h0
   ·exact h0
   ·obtain ⟨e,he,hb2⟩:=frE_pos.1 h0
    rw [wipe_get hE,Int.toNat_of_nonneg (hE e he),decide_eq_true he] at hb2
    simp at hb2
 ·obtain ⟨f,h1,h2⟩:=h.go
  cases f with
  | zero => omega
  | succ f =>
   refine ⟨f,by omega,?_⟩
   rw [← h2,grD,if_neg hz,hc,if_neg (by omega),Int.toNat_natCast,List.getElem?_eq_getElem hb]
   rfl
theorem nodup_perm {A : List Int} {n : Nat} (hn : A.Nodup) (hr : ∀ a ∈ A,0 ≤ a ∧ a < n) : A.Perm (selK (inL A) n):=by
 refine perm_of_nodup hn ((selK_rise _ _).imp fun h => by omega) fun a => ?_
 rw [selK_mem]
 constructor
 ·intro ha
  have:=hr a ha
  exact ⟨a.toNat,by omega,by omega,decide_eq_true (by rw [show ((a.toNat : Nat) : Int) = a by omega]; exact ha)⟩
 ·rintro ⟨i,rfl,_,h⟩
  exact of_decide_eq_true h
theorem gr_len {L : List SetD} {n : Nat} {T B : List Bool} {A : List Int} (h : GrSt L n T B A) : A.length ≤ L.length:=by
 have:=(nodup_perm (n:=L.length) h.nodup fun a ha => by obtain ⟨k,hk,h1,_⟩:=h.mem a ha; omega).length_eq
 have:=selK_len (inL A) L.length
 omega
theorem gr_sel {L : List SetD} {n : Nat} {T B : List Bool} {A M : List Int} (h : GrSt L n T B A) (hM : M.Perm A) (hs : M.Pairwise (· ≤ ·)) : M = selK (inL A) L.length :=
 sort_sel hM hs h.nodup fun a ha => by obtain ⟨k,hk,h1,_⟩:=h.mem a ha; omega
end Go.Abs
