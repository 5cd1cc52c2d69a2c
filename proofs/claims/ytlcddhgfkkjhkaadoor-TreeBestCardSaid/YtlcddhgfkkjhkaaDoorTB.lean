/-
  PLAIN LAW: a state that is done is an answer that may be, with its cost.
-/
import Derived.Test.YtlcddhgfkkjhkaaDoorAO
import Derived.Test.YtlcddhgfkkjhkaaDoorEv
import Derived.Test.YtlcddhgfkkjhkaaDoorTP

set_option linter.unusedSimpArgs false
set_option linter.unusedVariables false
namespace Go.Abs
open Go Go.Proofs.YtlcddhgfkkjhkaaDoor
def S (f : Nat → Int) (k : Nat) : Int:=((List.range k).map f).sum
theorem S_succ {f : Nat → Int} {k : Nat} : S f (k + 1) = S f k + f k:=by unfold S; rw [List.range_succ,List.map_append,List.sum_append]; simp
theorem S_congr {f g : Nat → Int} : ∀ {k : Nat},(∀ i,i < k → f i = g i) → S f k = S g k
 | 0,_ => rfl
 | k + 1,h => by rw [S_succ,S_succ,S_congr fun i hi => h i (by omega),h k (by omega)]
theorem map_getD {f : Int → Int} {X : List Int} : (List.range X.length).map (fun i => f (X.getD i 0)) = X.map f:=by
 apply List.ext_getElem (by simp)
 intro i h1 h2
 simp at h1
 simp [List.getD_eq_getElem?_getD,List.getElem?_eq_getElem h1]
theorem rises_snoc {n a : Int} : ∀ {l : List Int} {last : Int},Rises last n l → (∀ y ∈ l,y < a) → last < a → a < n → Rises last n (l ++ [a])
 | [],last,_,_,h1,h2 => ⟨h1,h2,trivial⟩
 | b :: l,last,⟨q1,q2,q3⟩,hl,h1,h2 => ⟨q1,q2,rises_snoc q3 (fun y hy => hl y (by simp [hy])) (hl b (by simp)) h2⟩
theorem onesL_mem {P : List Int} : ∀ {k : Nat},∀ y ∈ onesL P k,0 ≤ y ∧ y < k
 | 0,y,hy => by simp [onesL] at hy
 | k + 1,y,hy => by
  rw [onesL_succ] at hy
  split at hy
  ·rcases List.mem_append.1 hy with h | h
   ·have:=onesL_mem (P:=P) (k:=k) y h; omega
   ·simp at h; omega
  ·have:=onesL_mem (P:=P) (k:=k) y hy; omega
theorem onesL_rises {P : List Int} {n : Nat} : ∀ {k : Nat},k ≤ n → Rises (-1) n (onesL P k)
 | 0,_ => by simp [onesL,Rises]
 | k + 1,h => by
  rw [onesL_succ]
  split
  ·exact rises_snoc (onesL_rises (by omega)) (fun y hy => by have:=onesL_mem y hy; omega) (by omega) (by omega)
  ·exact onesL_rises (by omega)
theorem onesL_app {P : List Int} {d : Int} : ∀ {k : Nat},k ≤ P.length → onesL (P ++ [d]) k = onesL P k
 | 0,_ => rfl
 | k + 1,h => by
  rw [onesL_succ,onesL_succ,onesL_app (by omega)]
  have : (P ++ [d]).getD k 0 = P.getD k 0:=by
   rw [List.getD_eq_getElem?_getD,List.getD_eq_getElem?_getD,List.getElem?_append_left (by omega)]
  rw [this]
def onesP (P : List Int) : List Int:=onesL P P.length
theorem onesP_snoc {P : List Int} {d : Int} : onesP (P ++ [d]) = if d = 1 then onesP P ++ [(P.length : Int)] else onesP P:=by
 unfold onesP
 rw [List.length_append,List.length_singleton,onesL_succ,onesL_app (Nat.le_refl _)]
 have : (P ++ [d]).getD P.length 0 = d:=by
  rw [List.getD_eq_getElem?_getD,List.getElem?_append_right (Nat.le_refl _)]; simp
 rw [this]
theorem getD_snoc {P : List Int} {d : Int} {i : Nat} (h : i < P.length) : (P ++ [d]).getD i 0 = P.getD i 0:=by
 rw [List.getD_eq_getElem?_getD,List.getD_eq_getElem?_getD,List.getElem?_append_left h]
theorem getD_last {P : List Int} {d : Int} : (P ++ [d]).getD P.length 0 = d:=by
 rw [List.getD_eq_getElem?_getD,List.getElem?_append_right (Nat.le_refl _)]; simp
theorem valN_eq {x : InstD} {k : Nat} : x.valN k = x.val (k : Int):=by simp [InstD.valN,InstD.val]
theorem wtN_eq {x : InstD} {k : Nat} : x.wtN k = x.wt (k : Int):=by simp [InstD.wtN,InstD.wt]
theorem setN_eq {x : InstD} {k : Nat} : x.setN k = x.setE (k : Int):=by simp [InstD.setN,InstD.setE]
theorem costN_eq {x : InstD} {i : Nat} {d : Int} : x.costN i d.toNat = x.costE (i : Int) d:=by simp [InstD.costN,InstD.costE]
theorem fold_get : ∀ {E : List Int} {B : List Bool} {j : Nat},j < B.length → (∀ e ∈ E,0 ≤ e) → ((E.foldl setT B).getD j false = true ↔ (B.getD j false = true ∨ (j : Int) ∈ E))
 | [],B,j,_,_ => by simp
 | a :: E,B,j,hj,hE => by
  rw [List.foldl_cons,fold_get (by rw [setT_len]; exact hj) (fun e he => hE e (by simp [he])),setT_get hj (hE a (by simp)),List.mem_cons,or_assoc]
theorem Seen.full {P : List Int} {B : List Bool} {n : Nat} (h : Seen P B) (hn : B.length = n) (hp : P.length = n) : orderB P n = true:=by
 rw [orderB_iff]
 refine ⟨hp,fun k hk => ?_⟩
 have hall:=all_count.1 (by rw [h.count,hp,hn] : B.count true = B.length) k (by omega)
 have hm:=(h.has k (by omega)).1 hall
 have h1:=List.nodup_iff_count.1 h.nodup (k : Int)
 have h2:=count_mem.1 hm
 omega
structure AnsI (x : InstD) (s : StD) : Prop where
 left : x.kind = 0 → s.left = x.cap - ((onesP s.path).map x.wt).sum
 worth : x.kind = 0 → s.cost = -((onesP s.path).map x.val).sum
 sets : x.kind = 3 → s.cost = ((onesP s.path).map fun k => (x.setE k).cost).sum
 cov : x.kind = 3 → ∀ j,j < s.used.length → (s.used.getD j false = true ↔ ∃ i ∈ onesP s.path,(j : Int) ∈ (x.setE i).elems)
 row : x.kind = 1 → s.cost = S (fun i => x.costE (i : Int) (s.path.getD i 0)) s.path.length
 rowsU : x.kind = 1 → Seen s.path s.used
 tour : x.kind = 2 → s.cost = S (fun i => x.costE ((0 :: s.path).getD i 0) (s.path.getD i 0)) s.path.length + (if s.path.length + 1 = x.cost.length then x.costE s.pos 0 else 0)
 place : x.kind = 2 → s.pos = (0 :: s.path).getD s.path.length 0
 tourU : x.kind = 2 → Seen (0 :: s.path) s.used
theorem ans_start {x : InstD} (hok : x.Ok) : AnsI x x.start:=by
 have hp : x.start.path = []:=rfl
 have hc : x.start.cost = 0:=rfl
 have h0 : onesP [] = []:=rfl
 refine ⟨fun h => ?_,fun h => ?_,fun h => ?_,fun h j hj => ?_,fun h => ?_,fun h => ?_,fun h => ?_,fun h => ?_,fun h => ?_⟩
 ·rw [hp,h0]; simp [InstD.start]
 ·rw [hp,h0,hc]; simp
 ·rw [hp,h0,hc]; simp
 ·rw [hp,h0]
  unfold InstD.start
  simp only [if_neg (show ¬ x.kind = 2 by omega)]
  rw [List.getD_eq_getElem?_getD,List.getElem?_replicate]
  split <;> simp
 ·rw [hp,hc]; rfl
 ·rw [hp]
  unfold InstD.start
  simp only [if_neg (show ¬ x.kind = 2 by omega)]
  exact seen_nil
 ·rw [hp,hc]
  have hb:=hok.bare h 0
  have : S (fun i => x.costE ((0 :: ([] : List Int)).getD i 0) (([] : List Int).getD i 0)) ([] : List Int).length = 0:=rfl
  rw [this]
  split
  ·rename_i h1
   have h1' : 0 < x.cost.length:=by simp at h1; omega
   have hb':=hb h1'
   have hp0 : x.start.pos = 0:=rfl
   rw [hp0]
   unfold InstD.costE
   have : (0 : Int).toNat = 0:=rfl
   rw [this,List.getD_eq_getElem?_getD (l:=x.cost),List.getElem?_eq_getElem h1']
   simp only [Option.getD_some]
   omega
  ·rfl
 ·rfl
 ·rw [hp]
  have hl:=hok.few.sq (.inr h)
  unfold InstD.start
  simp only [if_pos h]
  exact seen_nil.step (by omega) (by rw [List.length_replicate]; omega) (by rw [List.getD_eq_getElem?_getD,List.getElem?_replicate]; split <;> rfl)
theorem sum_snoc {l : List Int} {a : Int} : (l ++ [a]).sum = l.sum + a:=by rw [List.sum_append]; simp
theorem S_path {f g : Nat → Int} {k : Nat} {a : Int} (h : ∀ i,i < k → f i = g i) (ha : f k = a) : S f (k + 1) = S g k + a:=by rw [S_succ,S_congr h,ha]
theorem ans_apply {x : InstD} {s : StD} {d : Int} (hok : x.Ok) (hs : StOk x s) (ha : AnsI x s) (hd : d ∈ x.moves s) : AnsI x (x.applyS s d):=by
 have hk0:=hok.kind0
 have hk4:=hok.kind4
 by_cases k1 : x.kind = 1
 ·obtain ⟨g1,g2,g3,g4⟩:=moves_tour (.inl k1) hd
  have he : x.applyS s d = ⟨s.path ++ [d],s.cost + x.costN s.path.length d.toNat,s.left,s.pos,setT s.used d⟩:=by unfold InstD.applyS; rw [if_pos k1]
  rw [he]
  refine ⟨by omega,by omega,by omega,by omega,fun _ => ?_,fun _ => (ha.rowsU k1).step g2 g3 g4,by omega,by omega,by omega⟩
  simp only [List.length_append,List.length_singleton]
  rw [costN_eq,ha.row k1]
  refine (S_path (fun i hi => ?_) ?_).symm
  ·rw [getD_snoc hi]
  ·rw [getD_last]
 ·by_cases k2 : x.kind = 2
  ·obtain ⟨g1,g2,g3,g4⟩:=moves_tour (.inr k2) hd
   have hul:=used_len hok hs (.inr k2)
   obtain ⟨t1,t2,t3⟩:=hs.tour k2
   have hct : (setT s.used d).count true = s.path.length + 2:=by
    unfold setT
    rw [if_pos ⟨g2,g3⟩,count_set (by omega) g4,t3]
   have hnd : ¬ s.path.length + 1 = x.cost.length:=by
    unfold InstD.done at g1
    rw [if_neg (show ¬ x.kind = 0 by omega),if_neg k1] at g1
    have : ¬ s.used.count true = s.used.length:=by simpa using g1
    omega
   have hsu : Seen (0 :: (s.path ++ [d])) (setT s.used d):=(ha.tourU k2).step g2 g3 g4
   have hd0 : ((0 : Int) :: (s.path ++ [d])).getD (s.path.length + 1) 0 = d:=by
    rw [List.getD_cons_succ,getD_last]
   have hcost : s.cost + x.costN s.pos.toNat d.toNat = S (fun i => x.costE ((0 :: (s.path ++ [d])).getD i 0) ((s.path ++ [d]).getD i 0)) (s.path.length + 1):=by
    have hpos:=ha.place k2
    have hto:=ha.tour k2
    rw [if_neg hnd,Int.add_zero] at hto
    rw [hto]
    refine (S_path (fun i hi => ?_) ?_).symm
    ·rw [getD_snoc hi]
     congr 1
     cases i with
     | zero => rfl
     | succ i => rw [List.getD_cons_succ,List.getD_cons_succ,getD_snoc (by omega)]
    ·rw [getD_last]
     have : ((0 : Int) :: (s.path ++ [d])).getD s.path.length 0 = s.pos:=by
      rw [hpos]
      cases hl : s.path.length with
      | zero => rfl
      | succ i => rw [List.getD_cons_succ,List.getD_cons_succ,getD_snoc (by omega)]
     rw [this]
     rfl
   have he : x.applyS s d = x.wentS ⟨s.path ++ [d],s.cost,s.left,s.pos,s.used⟩ d:=by unfold InstD.applyS; rw [if_neg k1,if_pos k2]
   have hdn : x.done ⟨s.path ++ [d],s.cost + x.costN s.pos.toNat d.toNat,s.left,d,setT s.used d⟩ = decide (s.path.length + 2 = x.cost.length):=by
    unfold InstD.done
    rw [if_neg (by omega),if_neg k1]
    simp only [hct,setT_len,hul]
   rw [he]
   unfold InstD.wentS
   simp only
   rw [hdn]
   by_cases hf : s.path.length + 2 = x.cost.length
   ·rw [if_pos (by simpa using hf)]
    refine ⟨by omega,by omega,by omega,by omega,by omega,by omega,fun _ => ?_,fun _ => ?_,fun _ => hsu⟩
    ·simp only [List.length_append,List.length_singleton]
     rw [if_pos (by omega),hcost]
     rfl
    ·simp only [List.length_append,List.length_singleton]
     exact hd0.symm
   ·rw [if_neg (by simpa using hf)]
    refine ⟨by omega,by omega,by omega,by omega,by omega,by omega,fun _ => ?_,fun _ => ?_,fun _ => hsu⟩
    ·simp only [List.length_append,List.length_singleton]
     rw [if_neg (by omega),hcost,Int.add_zero]
    ·simp only [List.length_append,List.length_singleton]
     exact hd0.symm
  ·by_cases hd1 : d = 1
   ·by_cases k0 : x.kind = 0
    ·have he : x.applyS s d = ⟨s.path ++ [d],s.cost - x.valN s.path.length,s.left - x.wtN s.path.length,s.pos,s.used⟩:=by
      unfold InstD.applyS InstD.choseS; rw [if_neg k1,if_neg k2,if_pos hd1,if_pos k0]
     rw [he]
     refine ⟨fun _ => ?_,fun _ => ?_,by omega,by omega,by omega,by omega,by omega,by omega,by omega⟩
     ·simp only
      rw [onesP_snoc,if_pos hd1,List.map_append,List.map_singleton,sum_snoc,ha.left k0,wtN_eq]
      omega
     ·simp only
      rw [onesP_snoc,if_pos hd1,List.map_append,List.map_singleton,sum_snoc,ha.worth k0,valN_eq]
      omega
    ·have k3 : x.kind = 3:=by omega
     have he : x.applyS s d = ⟨s.path ++ [d],s.cost + (x.setN s.path.length).cost,s.left,s.pos,(x.setN s.path.length).elems.foldl setT s.used⟩:=by
      unfold InstD.applyS InstD.choseS; rw [if_neg k1,if_neg k2,if_pos hd1,if_neg k0]
     rw [he]
     refine ⟨by omega,by omega,fun _ => ?_,fun _ j hj => ?_,by omega,by omega,by omega,by omega,by omega⟩
     ·simp only
      rw [onesP_snoc,if_pos hd1,List.map_append,List.map_singleton,sum_snoc,ha.sets k3,setN_eq]
     ·simp only at hj ⊢
      rw [fold_len] at hj
      have hE : ∀ e ∈ (x.setN s.path.length).elems,0 ≤ e:=by
       intro e hme
       unfold InstD.setN at hme
       rw [List.getD_eq_getElem?_getD] at hme
       cases hg : x.sets[s.path.length]? with
       | none => rw [hg] at hme; simp at hme
       | some S0 =>
        rw [hg] at hme
        obtain ⟨hlt,hge⟩:=List.getElem?_eq_some_iff.1 hg
        have hr:=hok.shaped.sets _ hlt
        rw [hge] at hr
        have:=rises_range hr e hme
        omega
      rw [fold_get hj hE,ha.cov k3 j hj,onesP_snoc,if_pos hd1,setN_eq]
      constructor
      ·rintro (⟨i,h1,h2⟩ | h)
       ·exact ⟨i,List.mem_append_left _ h1,h2⟩
       ·exact ⟨_,List.mem_append_right _ (by simp),h⟩
      ·rintro ⟨i,h1,h2⟩
       rcases List.mem_append.1 h1 with h1 | h1
       ·exact .inl ⟨i,h1,h2⟩
       ·simp at h1
        subst h1
        exact .inr h2
   ·have he : x.applyS s d = ⟨s.path ++ [d],s.cost,s.left,s.pos,s.used⟩:=by
     unfold InstD.applyS; rw [if_neg k1,if_neg k2,if_neg hd1]
    have ho : onesP (s.path ++ [d]) = onesP s.path:=by rw [onesP_snoc,if_neg hd1]
    rw [he]
    refine ⟨fun h => ?_,fun h => ?_,fun h => ?_,fun h => ?_,by omega,by omega,by omega,by omega,by omega⟩
    ·simp only; rw [ho]; exact ha.left h
    ·simp only; rw [ho]; exact ha.worth h
    ·simp only; rw [ho]; exact ha.sets h
    ·simp only; rw [ho]; exact ha.cov h
theorem parts_map {f : Int → Int} {x : InstD} {X : List Int} (h : ∀ i,x.part X i = f (X.getD i 0)) : x.parts X = X.map f:=by
 unfold InstD.parts
 rw [← map_getD]
 exact List.map_congr_left fun i _ => h i
theorem done_answer {x : InstD} {s : StD} (hok : x.Ok) (hs : StOk x s) (ha : AnsI x s) (hd : x.done s = true) : x.may (x.answer s) = true ∧ x.costOf (x.answer s) = s.cost:=by
 have hk0:=hok.kind0
 have hk4:=hok.kind4
 have hc:=InstD.check_ok.2 hok
 have key : ∀ X,x.answer s = X → x.may X = true → (if x.kind = 0 then -(x.parts X).sum else (x.parts X).sum) = s.cost → x.may (x.answer s) = true ∧ x.costOf (x.answer s) = s.cost:=by
  intro X h1 h2 h3
  rw [h1]
  refine ⟨h2,?_⟩
  unfold InstD.costOf InstD.value
  rw [if_pos hc,if_pos h2]
  exact h3
 unfold InstD.done at hd
 by_cases k0 : x.kind = 0
 ·rw [if_pos k0] at hd
  have hl : s.path.length = x.items.length:=by simpa using hd
  have hX : x.answer s = onesP s.path:=by
   unfold InstD.answer InstD.done
   rw [if_pos k0,if_pos hd,if_neg (by omega),if_neg (by omega)]
   rfl
  refine key _ hX ?_ ?_
  ·unfold InstD.may
   rw [if_pos k0]
   have h1 : Rises (-1) x.items.length (onesP s.path):=onesL_rises (by omega)
   rw [tr_true h1]
   have:=ha.left k0
   have:=(hs.items k0).2.1
   simp only [Bool.true_and,decide_eq_true_eq]
   omega
  ·rw [if_pos k0,ha.worth k0,parts_map (f:=x.val)]
   intro i
   unfold InstD.part
   rw [if_pos k0]
 ·rw [if_neg k0] at hd
  by_cases k1 : x.kind = 1
  ·rw [if_pos k1] at hd
   have hl : s.path.length = x.cost.length:=by simpa using hd
   have hul:=used_len hok hs (.inl k1)
   have hX : x.answer s = s.path:=by
    unfold InstD.answer InstD.done
    rw [if_neg k0,if_pos k1,if_pos hd,if_pos k1]
   refine key _ hX ?_ ?_
   ·unfold InstD.may
    rw [if_neg k0,if_pos k1]
    exact (ha.rowsU k1).full hul hl
   ·rw [if_neg k0,ha.row k1]
    show (List.map _ _).sum = (List.map _ _).sum
    congr 1
    refine List.map_congr_left fun i _ => ?_
    unfold InstD.part
    rw [if_neg k0,if_pos k1]
  ·rw [if_neg k1] at hd
   have hd' : s.used.count true = s.used.length:=by simpa using hd
   by_cases k2 : x.kind = 2
   ·have hul:=used_len hok hs (.inr k2)
    have hct:=(hs.tour k2).2.2
    have hX : x.answer s = 0 :: s.path:=by
     unfold InstD.answer InstD.done
     rw [if_neg k0,if_neg k1,if_pos hd,if_neg k1,if_pos k2]
    refine key _ hX ?_ ?_
    ·unfold InstD.may
     rw [if_neg k0,if_neg k1,if_pos k2,(ha.tourU k2).full hul (by simp; omega)]
     rfl
    ·rw [if_neg k0,ha.tour k2,if_pos (by omega)]
     unfold InstD.parts
     rw [List.length_cons,show (List.map (x.part (0 :: s.path)) (List.range (s.path.length + 1))).sum = S (x.part (0 :: s.path)) (s.path.length + 1) from rfl]
     refine S_path (fun i hi => ?_) ?_
     ·unfold InstD.part
      rw [if_neg k0,if_neg k1,if_pos k2,List.length_cons,Nat.mod_eq_of_lt (by omega),List.getD_cons_succ]
     ·unfold InstD.part
      rw [if_neg k0,if_neg k1,if_pos k2,List.length_cons,Nat.mod_self,← ha.place k2]
      rfl
   ·have k3 : x.kind = 3:=by omega
    have hX : x.answer s = onesP s.path:=by
     unfold InstD.answer InstD.done
     rw [if_neg k0,if_neg k1,if_pos hd,if_neg k1,if_neg k2]
     rfl
    have hu:=hs.used
    have hcl : x.cost.length = 0:=by rcases hok.lean.sq with h | h | h <;> omega
    refine key _ hX ?_ ?_
    ·unfold InstD.may
     have h1 : Rises (-1) x.sets.length (onesP s.path):=onesL_rises (by have:=hs.sets k3; omega)
     rw [if_neg k0,if_neg k1,if_neg k2,tr_true h1,Bool.true_and]
     unfold InstD.cov
     rw [List.all_eq_true]
     intro e he
     have he':=List.mem_range.1 he
     obtain ⟨i,h2,h3⟩:=(ha.cov k3 e (by omega)).1 (all_count.1 hd' e (by omega))
     rw [List.any_eq_true]
     exact ⟨i,h2,by simpa using h3⟩
    ·rw [if_neg k0,ha.sets k3,parts_map (f:=fun k => (x.setE k).cost)]
     intro i
     unfold InstD.part
     rw [if_neg k0,if_neg k1,if_neg k2]
end Go.Abs

set_option maxRecDepth 100000
namespace Go.Proofs.YtlcddhgfkkjhkaaDoor
open Go Go.Abs
theorem ans_all {x : InstD} (hok : x.Ok) {s : StD} (h : s ∈ allS x) : AnsI x s :=
 (tree_ind hok (P:=AnsI x) (fun s d hs ha hd => ans_apply hok hs ha hd) _ _ (start_ok hok) (ans_start hok) s h).2
def lowL (X : List Int) (k : Nat) : List Int:=X.filter fun y => decide (y < k)
theorem low_all {X : List Int} {k : Nat} (h : ∀ y ∈ X,y < (k : Int)) : lowL X k = X:=by
 unfold lowL; rw [List.filter_eq_self]; intro y hy; simpa using h y hy
theorem rises_lt {n : Int} : ∀ {X : List Int} {last : Int},Rises last n X → ∀ y ∈ X,last < y ∧ y < n
 | [],_,_,y,hy => by simp at hy
 | a :: X,last,⟨h1,h2,h3⟩,y,hy => by
  rcases List.mem_cons.1 hy with rfl | hy
  ·exact ⟨h1,h2⟩
  ·have:=rises_lt h3 y hy; omega
theorem low_none {X : List Int} {k : Nat} (h : ∀ y ∈ X,(k : Int) ≤ y) : lowL X k = []:=by
 unfold lowL; rw [List.filter_eq_nil_iff]; intro y hy; have:=h y hy; simp; omega
theorem low_succ {n : Int} : ∀ {X : List Int} {last : Int} {k : Nat},Rises last n X → lowL X (k + 1) = if (k : Int) ∈ X then lowL X k ++ [(k : Int)] else lowL X k
 | [],_,k,_ => by simp [lowL]
 | a :: X,last,k,⟨h1,h2,h3⟩ => by
  have ih:=low_succ (k:=k) h3
  have hX:=rises_lt h3
  by_cases hak : a < (k : Int)
  ·have e1 : lowL (a :: X) (k + 1) = a :: lowL X (k + 1):=by unfold lowL; rw [List.filter_cons_of_pos (by simp; omega)]
   have e2 : lowL (a :: X) k = a :: lowL X k:=by unfold lowL; rw [List.filter_cons_of_pos (by simpa using hak)]
   rw [e1,e2,ih]
   by_cases hm : (k : Int) ∈ X
   ·rw [if_pos hm,if_pos (List.mem_cons_of_mem _ hm)]; rfl
   ·rw [if_neg hm,if_neg (fun h => by rcases List.mem_cons.1 h with h | h; omega; exact hm h)]
  ·have e2 : lowL (a :: X) k = []:=low_none fun y hy => by
    rcases List.mem_cons.1 hy with rfl | hy
    ·omega
    ·have:=hX y hy; omega
   by_cases hae : a = (k : Int)
   ·have e1 : lowL (a :: X) (k + 1) = [a]:=by
     unfold lowL
     rw [List.filter_cons_of_pos (by simp; omega),List.filter_eq_nil_iff.2 (fun y hy => by have:=hX y hy; simp; omega)]
    rw [e1,e2,if_pos (by simp [hae]),hae]; rfl
   ·have e1 : lowL (a :: X) (k + 1) = []:=low_none fun y hy => by
     rcases List.mem_cons.1 hy with rfl | hy
     ·omega
     ·have:=hX y hy; omega
    rw [e1,e2,if_neg (fun h => by rcases List.mem_cons.1 h with h | h; exact hae h.symm; have:=hX _ h; omega)]
theorem low_sum {f : Int → Int} (X : List Int) (k : Nat) (h : ∀ y ∈ X,0 ≤ f y) : ((lowL X k).map f).sum ≤ (X.map f).sum:=by
 induction X with
 | nil => simp [lowL]
 | cons a X ih =>
  have ih:=ih fun y hy => h y (List.mem_cons_of_mem _ hy)
  have ha:=h a (by simp)
  unfold lowL at ih ⊢
  by_cases hak : a < (k : Int)
  ·rw [List.filter_cons_of_pos (by simpa using hak)]; simp only [List.map_cons,List.sum_cons]; omega
  ·rw [List.filter_cons_of_neg (by simpa using hak)]; simp only [List.map_cons,List.sum_cons]; omega
end Go.Proofs.YtlcddhgfkkjhkaaDoor

set_option maxRecDepth 100000
namespace Go.Proofs.YtlcddhgfkkjhkaaDoor
open Go Go.Abs
def ConL (X : List Int) (s : StD) : Prop:=onesP s.path = lowL X s.path.length
theorem con_apply {x : InstD} {X : List Int} {n : Int} {s : StD} (hX : Rises (-1) n X) (hc : ConL X s) : ConL X (x.applyS s (if (s.path.length : Int) ∈ X then 1 else 0)):=by
 unfold ConL at hc ⊢
 rw [apply_path,onesP_snoc,List.length_append,List.length_singleton,low_succ hX]
 split
 ·rw [if_pos rfl,hc]
 ·rw [if_neg (by decide),hc]
theorem con_start {x : InstD} {X : List Int} {n : Int} (hX : Rises (-1) n X) : ConL X x.start:=by
 unfold ConL
 have : x.start.path = []:=rfl
 rw [this]
 exact (low_none (k:=0) fun y hy => by have:=rises_lt hX y hy; omega).symm
theorem sum_low_le {X : List Int} {f : Int → Int} {k : Nat} {n : Int} (hX : Rises (-1) n X) (hk : (k : Int) ∈ X) (h : ∀ y ∈ X,0 ≤ f y) : ((lowL X k).map f).sum + f k ≤ (X.map f).sum:=by
 have h1:=low_sum (f:=f) X (k + 1) h
 rw [low_succ hX,if_pos hk,List.map_append,List.sum_append] at h1
 simpa using h1
theorem wt_pos {x : InstD} (hok : x.Ok) (y : Int) : 0 ≤ x.wt y:=by
 unfold InstD.wt
 rw [List.getD_eq_getElem?_getD]
 by_cases h : y.toNat < x.items.length
 ·rw [List.getElem?_eq_getElem h]; exact (hok.small.items _ h).2.1
 ·rw [List.getElem?_eq_none (by omega)]; exact Int.le_refl _
theorem setc_pos {x : InstD} (hok : x.Ok) (y : Int) : 0 ≤ (x.setE y).cost:=by
 unfold InstD.setE
 rw [List.getD_eq_getElem?_getD]
 by_cases h : y.toNat < x.sets.length
 ·rw [List.getElem?_eq_getElem h]; exact (hok.small.sets _ h).1
 ·rw [List.getElem?_eq_none (by omega)]; exact Int.le_refl _
theorem leaf_knap {x : InstD} (hok : x.Ok) (k0 : x.kind = 0) {X : List Int} (hm : x.may X = true) : ∃ t ∈ allS x,x.done t = true ∧ x.answer t = X:=by
 unfold InstD.may at hm
 rw [if_pos k0,Bool.and_eq_true,tr_iff,decide_eq_true_iff] at hm
 obtain ⟨hX,hw⟩:=hm
 refine leaf_down hok (Con:=ConL X) (P:=fun t => x.answer t = X) (fun s hs hso hc hd => ?_) (fun s hs hso hc hd => ?_) _ x.start (Nat.le_refl _) (start_all hok) (con_start hX)
 ·refine ⟨_,?_,con_apply hX hc⟩
  have ha:=ans_all hok hs
  have hl:=ha.left k0
  rw [hc] at hl
  unfold InstD.moves
  rw [hd,if_neg (by simp),if_pos k0]
  have hw0 : ∀ y ∈ X,0 ≤ x.wt y:=fun y _ => wt_pos hok y
  by_cases hk : (s.path.length : Int) ∈ X
  ·have h1:=sum_low_le (f:=x.wt) hX hk hw0
   rw [if_pos hk,if_neg (by rw [wtN_eq]; omega)]
   simp
  ·rw [if_neg hk]; split <;> simp
 ·have hl : s.path.length = x.items.length:=by
   unfold InstD.done at hd; rw [if_pos k0] at hd; simpa using hd
  unfold InstD.answer
  rw [if_pos hd,if_neg (by omega),if_neg (by omega)]
  show onesP s.path = X
  rw [hc]
  exact low_all fun y hy => by have:=rises_lt hX y hy; omega
theorem leaf_cover {x : InstD} (hok : x.Ok) (k3 : x.kind = 3) {X : List Int} (hm : x.may X = true) : ∃ t ∈ allS x,x.done t = true ∧ t.cost ≤ x.costOf X:=by
 have hm0:=hm
 have hck:=InstD.check_ok.2 hok
 unfold InstD.may at hm
 rw [if_neg (by omega),if_neg (by omega),if_neg (by omega),Bool.and_eq_true,tr_iff] at hm
 obtain ⟨hX,hcov⟩:=hm
 have hcl : x.cost.length = 0:=by rcases hok.lean.sq with h | h | h <;> omega
 have hcost : x.costOf X = (X.map fun k => (x.setE k).cost).sum:=by
  unfold InstD.costOf InstD.value
  rw [if_neg (by omega),if_pos hck,if_pos hm0,parts_map (f:=fun k => (x.setE k).cost)]
  intro i
  unfold InstD.part
  rw [if_neg (by omega),if_neg (by omega),if_neg (by omega)]
 refine leaf_down hok (Con:=ConL X) (P:=fun t => t.cost ≤ x.costOf X) (fun s hs hso hc hd => ?_) (fun s hs hso hc hd => ?_) _ x.start (Nat.le_refl _) (start_all hok) (con_start hX)
 ·refine ⟨_,?_,con_apply hX hc⟩
  have ha:=ans_all hok hs
  have hlt : ¬ s.path.length ≥ x.sets.length:=fun hge => by
   have hall : s.used.count true = s.used.length:=all_count.2 fun j hj => by
    have hu:=hso.used
    rw [(ha.cov k3 j hj),show onesP s.path = X from (by rw [hc]; exact low_all fun y hy => by have:=rises_lt hX y hy; omega)]
    unfold InstD.cov at hcov
    rw [List.all_eq_true] at hcov
    have:=hcov j (List.mem_range.2 (by omega))
    rw [List.any_eq_true] at this
    obtain ⟨i,h1,h2⟩:=this
    exact ⟨i,h1,by simpa using h2⟩
   unfold InstD.done at hd
   rw [if_neg (by omega),if_neg (by omega)] at hd
   simp [hall] at hd
  unfold InstD.moves
  rw [hd,if_neg (by simp),if_neg (by omega),if_pos k3,if_neg hlt]
  split <;> simp
 ·have ha:=ans_all hok hs
  rw [ha.sets k3,hc,hcost]
  exact low_sum X _ fun y _ => setc_pos hok y
end Go.Proofs.YtlcddhgfkkjhkaaDoor

set_option maxRecDepth 100000
namespace Go.Proofs.YtlcddhgfkkjhkaaDoor
open Go Go.Abs
theorem free_in {B : List Bool} {d : Int} (h0 : 0 ≤ d) (h1 : d < B.length) (h2 : B.getD d.toNat false = false) : d ∈ freeL B:=by
 unfold freeL
 refine List.mem_map.2 ⟨d.toNat,List.mem_filter.2 ⟨List.mem_range.2 (by omega),by rw [h2]; rfl⟩,by omega⟩
theorem order_nodup {X : List Int} {n : Nat} (h : orderB X n = true) : X.Nodup:=by
 obtain ⟨h1,h2⟩:=orderB_iff.1 h
 rw [List.nodup_iff_count]
 intro y
 by_cases hy : y ∈ X
 ·have:=order_range n h1 h2 y hy
  have h3:=h2 y.toNat (by omega)
  rw [show ((y.toNat : Nat) : Int) = y by omega] at h3
  omega
 ·rw [List.count_eq_zero.2 hy]; omega
theorem order_next {X P : List Int} {n : Nat} {B : List Bool} (h : orderB X n = true) (hP : P = X.take P.length) (hS : Seen P B) (hB : B.length = n) (hl : P.length < n) : X.getD P.length 0 ∈ freeL B ∧ P ++ [X.getD P.length 0] = X.take (P.length + 1):=by
 obtain ⟨h1,h2⟩:=orderB_iff.1 h
 have hlX : P.length < X.length:=by omega
 have hd : X.getD P.length 0 = X[P.length]:=by rw [List.getD_eq_getElem?_getD,List.getElem?_eq_getElem hlX]; rfl
 have hr:=order_range n h1 h2 X[P.length] (List.getElem_mem hlX)
 have hnm : X[P.length] ∉ P:=fun hm => by
  have hm2 : X[P.length] ∈ X.take P.length:=by rw [← hP]; exact hm
  obtain ⟨i,hi,he⟩:=List.mem_iff_getElem.1 hm2
  rw [List.length_take] at hi
  rw [List.getElem_take] at he
  have:=(List.getElem_inj (order_nodup h)).1 he
  omega
 rw [hd]
 refine ⟨free_in hr.1 (by omega) ?_,?_⟩
 ·have:=hS.has X[P.length].toNat (by omega)
  rw [show ((X[P.length].toNat : Nat) : Int) = X[P.length] by omega] at this
  cases hb : B.getD X[P.length].toNat false with
  | false => rfl
  | true => exact absurd (this.1 hb) hnm
 ·rw [List.take_succ_eq_append_getElem hlX,← hP]
theorem leaf_rows {x : InstD} (hok : x.Ok) (k1 : x.kind = 1) {X : List Int} (hm : x.may X = true) : ∃ t ∈ allS x,x.done t = true ∧ x.answer t = X:=by
 unfold InstD.may at hm
 rw [if_neg (by omega),if_pos k1] at hm
 obtain ⟨hl,_⟩:=orderB_iff.1 hm
 have hdone : ∀ s,x.done s = decide (s.path.length = x.cost.length):=fun s => by unfold InstD.done; rw [if_neg (by omega),if_pos k1]
 refine leaf_down hok (Con:=fun s => s.path = X.take s.path.length) (P:=fun t => x.answer t = X) (fun s hs hso hc hd => ?_) (fun s hs hso hc hd => ?_) _ x.start (Nat.le_refl _) (start_all hok) rfl
 ·have hlt : s.path.length < x.cost.length:=by
   have h1:=hso.rows k1
   rw [hdone] at hd
   have:=of_decide_eq_false hd
   omega
  obtain ⟨g1,g2⟩:=order_next hm hc ((ans_all hok hs).rowsU k1) (used_len hok hso (.inl k1)) hlt
  refine ⟨X.getD s.path.length 0,?_,?_⟩
  ·unfold InstD.moves
   rw [hd,if_neg (by simp),if_neg (by omega),if_neg (by omega)]
   exact g1
  ·rw [apply_path,List.length_append,List.length_singleton]; exact g2
 ·rw [hdone] at hd
  have:=of_decide_eq_true hd
  unfold InstD.answer
  rw [hdone,if_pos hd,if_pos k1,hc,this,← hl,List.take_length]
theorem leaf_tour {x : InstD} (hok : x.Ok) (k2 : x.kind = 2) {X : List Int} (hm : x.may X = true) : ∃ t ∈ allS x,x.done t = true ∧ x.answer t = X:=by
 unfold InstD.may at hm
 rw [if_neg (by omega),if_neg (by omega),if_pos k2,Bool.and_eq_true,decide_eq_true_iff] at hm
 obtain ⟨hm,hz⟩:=hm
 obtain ⟨hl,_⟩:=orderB_iff.1 hm
 have hpos:=hok.few.sq (.inr k2)
 have hdone : ∀ s,x.done s = decide (s.used.count true = s.used.length):=fun s => by unfold InstD.done; rw [if_neg (by omega),if_neg (by omega)]
 have hst : 0 :: x.start.path = X.take (x.start.path.length + 1):=by
  have : x.start.path = []:=rfl
  rw [this]
  match X,hl,hz with
  | a :: X,_,hz => simp at hz; simp [hz]
  | [],hl,_ => simp at hl; omega
 refine leaf_down hok (Con:=fun s => 0 :: s.path = X.take (s.path.length + 1)) (P:=fun t => x.answer t = X) (fun s hs hso hc hd => ?_) (fun s hs hso hc hd => ?_) _ x.start (Nat.le_refl _) (start_all hok) hst
 ·have hS:=(ans_all hok hs).tourU k2
  have hu:=used_len hok hso (.inr k2)
  have hcn:=hS.count
  have hlt : (0 :: s.path).length < x.cost.length:=by
   rw [hdone] at hd
   have h1:=of_decide_eq_false hd
   have h2 : s.used.count true ≤ s.used.length:=List.count_le_length
   omega
  obtain ⟨g1,g2⟩:=order_next hm (P:=0 :: s.path) (by simpa using hc) hS hu hlt
  refine ⟨X.getD (0 :: s.path).length 0,?_,?_⟩
  ·unfold InstD.moves
   rw [hd,if_neg (by simp),if_neg (by omega),if_neg (by omega)]
   exact g1
  ·rw [apply_path,List.length_append,List.length_singleton]; simpa using g2
 ·rw [hdone] at hd
  have h1:=of_decide_eq_true hd
  have hS:=(ans_all hok hs).tourU k2
  have hu:=used_len hok hso (.inr k2)
  have hcn:=hS.count
  simp at hcn
  unfold InstD.answer
  rw [hdone,if_pos hd,if_neg (by omega),if_pos k2,hc,show s.path.length + 1 = X.length by omega,List.take_length]
theorem leaf_may {x : InstD} (hok : x.Ok) {X : List Int} (hm : x.may X = true) : ∃ t ∈ allS x,x.done t = true ∧ t.cost ≤ x.costOf X:=by
 have hk0:=hok.kind0
 have hk4:=hok.kind4
 have go : (∃ t ∈ allS x,x.done t = true ∧ x.answer t = X) → ∃ t ∈ allS x,x.done t = true ∧ t.cost ≤ x.costOf X:=fun ⟨t,h1,h2,h3⟩ => by
  have h4:=(done_answer hok (all_ok hok h1).1 (ans_all hok h1) h2).2
  rw [h3] at h4
  exact ⟨t,h1,h2,by omega⟩
 by_cases k0 : x.kind = 0
 ·exact go (leaf_knap hok k0 hm)
 ·by_cases k1 : x.kind = 1
  ·exact go (leaf_rows hok k1 hm)
  ·by_cases k2 : x.kind = 2
   ·exact go (leaf_tour hok k2 hm)
   ·exact leaf_cover hok (by omega) hm
theorem may_leaf {x : InstD} (hok : x.Ok) {t : StD} (ht : t ∈ allS x) (hd : x.done t = true) : x.may (x.answer t) = true ∧ x.costOf (x.answer t) = t.cost :=
 done_answer hok (all_ok hok ht).1 (ans_all hok ht) hd
end Go.Proofs.YtlcddhgfkkjhkaaDoor

set_option maxRecDepth 100000
namespace Go.Proofs.YtlcddhgfkkjhkaaDoor
open Go Go.Abs
theorem tr_lenF {x : InstD} (hok : x.Ok) {f : Nat → Nat} (hf : ∀ s,StOk x s → (x.moves s).length ≤ f s.path.length) : ∀ (d : Nat) (s : StD),StOk x s → (trL x d s).length ≤ gdF f s.path.length d
 | 0,s,_ => by simp [trL,gdF]
 | d + 1,s,hs => by
  rw [trL,List.length_cons,gdF]
  have h1:=flat_len (l:=kids x s) (f:=trL x d) (c:=gdF f (s.path.length + 1) d) fun t ht => by
   obtain ⟨m,hm,rfl⟩:=List.mem_map.1 ht
   have:=tr_lenF hok hf d _ (apply_ok hok hs hm)
   rw [show (x.applyS s m).path.length = s.path.length + 1 by rw [apply_path]; simp] at this
   exact this
  have h2:=hf s hs
  have h3 : (kids x s).length = (x.moves s).length:=by simp [kids]
  have h4:=Nat.mul_le_mul_right (gdF f (s.path.length + 1) d) h2
  rw [h3] at h1
  omega
theorem all_lenN {x : InstD} (hok : x.Ok) : (allS x).length ≤ szT x.kind x.n.toNat:=by
 have hc:=InstD.check_ok.2 hok
 have hk0:=hok.kind0
 have hk4:=hok.kind4
 by_cases k2 : x.kind = 2
 ·obtain ⟨N,hN⟩ : ∃ N,x.cost.length = N + 1:=⟨x.cost.length - 1,by have:=(hok.few.sq (.inr k2)).1; omega⟩
  have hn : x.n.toNat = N:=by unfold InstD.n; rw [if_pos hc,if_neg (by omega),if_neg (by omega),if_pos k2]; omega
  have hd : x.decs = N + 1:=by unfold InstD.decs; rw [if_neg (by omega),if_pos (.inr k2),hN]
  have h:=tr_lenF hok (f:=fun j => N - j) (fun s hs => by
   unfold InstD.moves
   split
   ·simp
   ·rw [if_neg (by omega),if_neg (by omega),free_len]
    have:=used_len hok hs (.inr k2)
    have:=hs.tour k2
    show _ ≤ N - s.path.length
    omega) (x.decs - x.start.path.length) _ (start_ok hok)
  have h0 : x.start.path.length = 0:=rfl
  rw [h0,Nat.sub_zero,gdF_all,hd] at h
  have h1 : smF (fun j => N - j) (N + 1) = smF (fun j => N - j) N:=by
   show smF (fun j => N - j) N + prd (fun j => N - j) N * (N - N) = _
   simp
  rw [h1] at h
  have h2 : szT x.kind N = smF (fun j => N - j) N:=by
   unfold szT szF; rw [if_neg (by omega)]
  rw [hn,h2]
  unfold allS treeOf
  rw [h0,hd]
  exact h
 ·have h:=all_len hok
  have hd : x.n.toNat = x.decs:=by
   unfold InstD.n InstD.decs
   rw [if_pos hc]
   by_cases k0 : x.kind = 0
   ·rw [if_pos k0,if_pos k0]; omega
   ·rw [if_neg k0,if_neg k0]
    by_cases k1 : x.kind = 1
    ·rw [if_pos k1,if_pos (.inl k1)]; omega
    ·rw [if_neg k1,if_neg k2,if_neg (by omega)]; omega
  rw [hd]; exact h
end Go.Proofs.YtlcddhgfkkjhkaaDoor
