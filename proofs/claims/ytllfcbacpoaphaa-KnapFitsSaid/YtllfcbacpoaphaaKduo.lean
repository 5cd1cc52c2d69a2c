/-
  PLAIN LAW of package knap: what items are worth at most, by a price of their weights.
-/
import Derived.Test.YtllfcbacpoaphaaKord
set_option maxRecDepth 100000
set_option linter.unusedSimpArgs false
set_option linter.unusedVariables false
namespace Go.Abs
structure ItOk (L : List (Int × Int)) (room : Int) : Prop where
 len : L.length ≤ 4096
 room : 0 ≤ room ∧ room ≤ 2147483648
 val : ∀ x ∈ L,(0 ≤ x.1 ∧ x.1 ≤ 2147483648) ∧ 0 ≤ x.2 ∧ x.2 ≤ 2147483648
theorem ItOk.wt {L : List (Int × Int)} {room : Int} (h : ItOk L room) : ∀ x ∈ L,0 ≤ x.2:=fun x hx => (h.val x hx).2.1
theorem ItOk.itm {L : List (Int × Int)} {room : Int} (h : ItOk L room) (a : Int) : (0 ≤ (itm L a).1 ∧ (itm L a).1 ≤ 2147483648) ∧ 0 ≤ (itm L a).2 ∧ (itm L a).2 ≤ 2147483648:=by
 unfold Go.Abs.itm
 rw [List.getD_eq_getElem?_getD]
 cases hh : L[a.toNat]? with
 | none => simp
 | some x => exact h.val x (List.mem_of_getElem? hh)
def sV (L : List (Int × Int)) (A : List Int) : Int:=(A.map fun a => (itm L a).1).sum
def sW (L : List (Int × Int)) (A : List Int) : Int:=(A.map fun a => (itm L a).2).sum
theorem sV_cons {L : List (Int × Int)} {a : Int} {A : List Int} : sV L (a :: A) = (itm L a).1 + sV L A:=by simp [sV]
theorem sW_cons {L : List (Int × Int)} {a : Int} {A : List Int} : sW L (a :: A) = (itm L a).2 + sW L A:=by simp [sW]
theorem sV_app {L : List (Int × Int)} {A B : List Int} : sV L (A ++ B) = sV L A + sV L B:=by simp [sV]
theorem sW_app {L : List (Int × Int)} {A B : List Int} : sW L (A ++ B) = sW L A + sW L B:=by simp [sW]
def relK (L : List (Int × Int)) : List Int → Int → Int → Int × Option (Int × Int)
 | [],sum,room => (sum,none)
 | k :: o,sum,room => if room < (itm L k).2 then (sum + (itm L k).1 * room / (itm L k).2,some (itm L k)) else relK L o (sum + (itm L k).1) (room - (itm L k).2)
def relL (L : List (Int × Int)) (room : Int) : Int × Option (Int × Int):=relK L (ordW L) 0 room
theorem relK_parts {L : List (Int × Int)} (o : List Int) (s r : Int) (h0 : 0 ≤ r) (hw : ∀ a,0 ≤ (itm L a).2) :
  ∃ A B,o = A ++ B ∧ 0 ≤ r - sW L A ∧ ((B = [] ∧ relK L o s r = (s + sV L A,none)) ∨ ∃ k B',B = k :: B' ∧ r - sW L A < (itm L k).2 ∧ relK L o s r = (s + sV L A + (itm L k).1 * (r - sW L A) / (itm L k).2,some (itm L k))):=by
 induction o generalizing s r with
 | nil => exact ⟨[],[],rfl,by simp [sW]; exact h0,.inl ⟨rfl,by simp [relK,sV]⟩⟩
 | cons k o ih =>
  unfold relK
  by_cases h : r < (itm L k).2
  ·rw [if_pos h]
   refine ⟨[],k :: o,rfl,by simp [sW]; exact h0,.inr ⟨k,o,rfl,by simp [sW]; exact h,?_⟩⟩
   simp [sV,sW]
  ·rw [if_neg h]
   obtain ⟨A,B,rfl,h1,h2⟩:=ih (s + (itm L k).1) (r - (itm L k).2) (by omega)
   refine ⟨k :: A,B,rfl,by rw [sW_cons]; omega,?_⟩
   have e1 : r - sW L (k :: A) = r - (itm L k).2 - sW L A:=by rw [sW_cons]; omega
   have e2 : s + sV L (k :: A) = s + (itm L k).1 + sV L A:=by rw [sV_cons]; omega
   rw [e1,e2]
   exact h2
/-! ### prices -/
def exc (p d : Int) (x : Int × Int) : Int:=if 0 < x.1 * d - x.2 * p then x.1 * d - x.2 * p else 0
theorem exc_ge (p d : Int) (x : Int × Int) : 0 ≤ exc p d x ∧ x.1 * d - x.2 * p ≤ exc p d x:=by unfold exc; split <;> omega
def totP (L : List (Int × Int)) (room p d : Int) : Int:=p * room + (L.map (exc p d)).sum
theorem iota_map {α : Type} (L : List (Int × Int)) (f : Int × Int → α) : (iota L.length).map (fun a => f (itm L a)) = L.map f:=by
 apply List.ext_getElem
 ·simp [iota]
 ·intro i h1 h2
  have hi : i < L.length:=by simpa using h2
  simp [iota,itm,List.getD_eq_getElem?_getD,List.getElem?_eq_getElem hi]
theorem perm_sum {l m : List Int} (h : l.Perm m) : l.sum = m.sum:=by
 induction h with
 | nil => rfl
 | cons x _ ih => simp [ih]
 | swap x y l => simp only [List.sum_cons]; omega
 | trans _ _ h1 h2 => rw [h1,h2]
theorem ord_sum {L : List (Int × Int)} (hL : ∀ x ∈ L,0 ≤ x.2) (f : Int × Int → Int) : (L.map f).sum = ((ordW L).map fun a => f (itm L a)).sum:=by
 rw [← iota_map,perm_sum ((ordW_perm hL).map _)]
theorem sum_ge {l : List Int} {f g : Int → Int} (h : ∀ a ∈ l,f a ≤ g a) : (l.map f).sum ≤ (l.map g).sum:=by
 induction l with
 | nil => exact Int.le_refl _
 | cons a l ih =>
  simp only [List.map_cons,List.sum_cons]
  have:=h a (by simp)
  have:=ih fun b hb => h b (by simp [hb])
  omega
theorem sum_zero {l : List Int} {f : Int → Int} (h : ∀ a ∈ l,f a = 0) : (l.map f).sum = 0:=by
 induction l with
 | nil => rfl
 | cons a l ih =>
  simp only [List.map_cons,List.sum_cons]
  rw [h a (by simp),ih fun b hb => h b (by simp [hb])]; rfl
theorem sum_lin (L : List (Int × Int)) (A : List Int) (p d : Int) : (A.map fun a => (itm L a).1 * d - (itm L a).2 * p).sum = sV L A * d - sW L A * p:=by
 induction A with
 | nil => simp [sV,sW]
 | cons a A ih =>
  rw [List.map_cons,List.sum_cons,ih,sV_cons,sW_cons,Int.add_mul,Int.add_mul]; omega
theorem sum_pos {l : List Int} {f : Int → Int} (h : ∀ a ∈ l,0 ≤ f a) : 0 ≤ (l.map f).sum:=by
 induction l with
 | nil => exact Int.le_refl _
 | cons a l ih =>
  simp only [List.map_cons,List.sum_cons]
  have:=h a (by simp)
  have:=ih fun b hb => h b (by simp [hb])
  omega
theorem relax_le {L : List (Int × Int)} {room p d : Int} (h : ItOk L room) (hp : 0 ≤ p) (hd : 0 < d) : (relL L room).1 * d ≤ totP L room p d:=by
 obtain ⟨A,B,hO,h0,hc⟩:=relK_parts (L:=L) (ordW L) 0 room h.room.1 fun a => (h.itm a).2.1
 unfold relL totP
 rw [ord_sum h.wt,hO,List.map_append,List.sum_append]
 have hA:=sum_ge (l:=A) (f:=fun a => (itm L a).1 * d - (itm L a).2 * p) (g:=fun a => exc p d (itm L a)) fun a _ => (exc_ge p d _).2
 rw [sum_lin] at hA
 have e0 : p * room = sW L A * p + (room - sW L A) * p:=by rw [← Int.add_mul,Int.mul_comm]; congr 1; omega
 rcases hc with ⟨rfl,hr⟩ | ⟨k,B',rfl,hlt,hr⟩
 ·rw [← hO,hr]
  simp only [List.map_nil,List.sum_nil]
  have:=Int.mul_nonneg h0 hp
  rw [show (0 : Int) + sV L A = sV L A by omega]
  omega
 ·rw [← hO,hr]
  simp only [List.map_cons,List.sum_cons]
  have hB:=sum_pos (l:=B') (f:=fun a => exc p d (itm L a)) fun a _ => (exc_ge p d _).1
  have hx:=h.itm k
  have hex:=exc_ge p d (itm L k)
  generalize itm L k = x at *
  generalize hr' : room - sW L A = r at *
  generalize (B'.map fun a => exc p d (itm L a)).sum = sb at *
  generalize (A.map fun a => exc p d (itm L a)).sum = sa at *
  generalize hEx : exc p d x = ex at *
  -- r * (x1 * d - x2 * p) ≤ ex * x2
  have hq : x.1 * r / x.2 * x.2 ≤ x.1 * r:=Int.ediv_mul_le _ (by omega)
  generalize x.1 * r / x.2 = qq at *
  have hrx : r * (x.1 * d - x.2 * p) ≤ ex * x.2:=by
   have a1:=Int.mul_le_mul_of_nonneg_left hex.2 h0
   have a2:=Int.mul_le_mul_of_nonneg_left (show r ≤ x.2 by omega) hex.1
   rw [Int.mul_comm ex r] at a2
   omega
  have hfin : (qq * d) * x.2 ≤ (r * p + ex) * x.2:=by
   have a3:=Int.mul_le_mul_of_nonneg_right hq (Int.le_of_lt hd)
   have e1 : qq * d * x.2 = qq * x.2 * d:=by rw [Int.mul_assoc,Int.mul_comm d,← Int.mul_assoc]
   have e2 : r * (x.1 * d - x.2 * p) = x.1 * r * d - r * p * x.2:=by rw [Int.mul_sub,← Int.mul_assoc,← Int.mul_assoc,Int.mul_comm r x.1,Int.mul_assoc r x.2 p,Int.mul_comm x.2 p,← Int.mul_assoc]
   rw [Int.add_mul]
   omega
  have hf2:=Int.le_of_mul_le_mul_right hfin (by omega)
  have e3 : (0 + sV L A + qq) * d = sV L A * d + qq * d:=by rw [Int.add_mul]; simp
  rw [e3]
  omega
theorem relax_own {L : List (Int × Int)} {room num den g : Int} (h : ItOk L room) (hx : ∀ x,(relL L room).2 = some x → 0 < g ∧ 0 < den ∧ 0 ≤ num ∧ x.1 = num * g ∧ x.2 = den * g) (hn : (relL L room).2 = none → num = 0 ∧ den = 1) : totP L room num den / den = (relL L room).1:=by
 obtain ⟨A,B,hO,h0,hc⟩:=relK_parts (L:=L) (ordW L) 0 room h.room.1 fun a => (h.itm a).2.1
 have hsrt:=ordW_srt h.wt
 unfold relL totP at *
 rw [ord_sum h.wt,hO,List.map_append,List.sum_append]
 rcases hc with ⟨rfl,hr⟩ | ⟨k,B',rfl,hlt,hr⟩
 ·rw [hr] at hn
  obtain ⟨rfl,rfl⟩:=hn rfl
  rw [← hO,hr]
  have he : (A.map fun a => exc 0 1 (itm L a)) = A.map fun a => (itm L a).1:=List.map_congr_left fun a _ => by
   have:=(h.itm a).1.1
   unfold exc; split <;> omega
  rw [he]
  simp [sV]
 ·rw [hr] at hx
  obtain ⟨hg,hd,hnn,hx1,hx2⟩:=hx _ rfl
  have hle : ∀ y,noLater y (itm L k) → 0 ≤ y.1 * den - y.2 * num ∨ y.2 = 0:=fun y hy => by
   rcases hy with hy | ⟨_,hy⟩
   ·exact .inr hy
   ·rw [hx1,hx2,Int.mul_comm num g,Int.mul_assoc,← Int.mul_assoc y.1,Int.mul_comm (y.1 * den) g] at hy
    have:=Int.le_of_mul_le_mul_left hy hg
    rw [Int.mul_comm num] at this
    exact .inl (by omega)
  have hA : (A.map fun a => exc num den (itm L a)) = A.map fun a => (itm L a).1 * den - (itm L a).2 * num:=List.map_congr_left fun a ha => by
   have hs : ahB L k a = false:=by
    rw [hO] at hsrt
    exact (List.pairwise_append.1 hsrt).2.2 a ha k (by simp)
   have hno : noLater (itm L a) (itm L k):=by
    rcases noLater.total (itm L a) (itm L k) with g | g
    ·exact g
    ·by_cases g2 : noLater (itm L a) (itm L k)
     ·exact g2
     ·have : ahB L k a = true:=ahB_iff.2 ⟨g,fun g3 => absurd g3 g2⟩
      rw [hs] at this; cases this
   have:=h.itm a
   have : 0 ≤ (itm L a).1 * den - (itm L a).2 * num:=by
    rcases hle _ hno with g | g
    ·exact g
    ·rw [g,Int.zero_mul]
     have:=Int.mul_nonneg (h.itm a).1.1 (Int.le_of_lt hd)
     omega
   unfold exc; split <;> omega
  have hB : ∀ a ∈ k :: B',exc num den (itm L a) = 0:=fun a ha => by
   have hno : noLater (itm L k) (itm L a):=by
    rcases List.mem_cons.1 ha with rfl | ha
    ·rcases noLater.total (itm L a) (itm L a) with g | g <;> exact g
    ·have hs : ahB L a k = false:=by
      rw [hO] at hsrt
      exact (List.pairwise_cons.1 (List.pairwise_append.1 hsrt).2.1).1 a ha
     rcases noLater.total (itm L k) (itm L a) with g | g
     ·exact g
     ·by_cases g2 : noLater (itm L k) (itm L a)
      ·exact g2
      ·have : ahB L a k = true:=ahB_iff.2 ⟨g,fun g3 => absurd g3 g2⟩
       rw [hs] at this; cases this
   have hk:=h.itm k
   have : (itm L a).1 * den - (itm L a).2 * num ≤ 0:=by
    rcases hno with hh | ⟨_,hh⟩
    ·omega
    ·rw [hx1,hx2,← Int.mul_assoc,Int.mul_comm num g,Int.mul_assoc g,Int.mul_comm _ g] at hh
     have:=Int.le_of_mul_le_mul_left hh hg
     rw [Int.mul_comm num] at this
     omega
   unfold exc; split <;> omega
  rw [hA,sum_lin,sum_zero hB,← hO,hr]
  generalize hr' : room - sW L A = r at *
  have e1 : num * room + (sV L A * den - sW L A * num + 0) = num * r + sV L A * den:=by
   rw [← hr',Int.mul_sub,Int.mul_comm num (sW L A)]; omega
  rw [e1,Int.add_mul_ediv_right _ _ (by omega),hx1,hx2]
  have e2 : num * g * r / (den * g) = num * r / den:=by
   rw [Int.mul_assoc,Int.mul_comm g r,← Int.mul_assoc,Int.mul_ediv_mul_of_pos_left _ _ hg]
  rw [e2]
  show _ = 0 + sV L A + num * r / den
  omega
end Go.Abs
