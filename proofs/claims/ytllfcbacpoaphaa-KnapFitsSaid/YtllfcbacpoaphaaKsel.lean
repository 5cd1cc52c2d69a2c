/-
  PLAIN LAW of package knap: some of the items; what is sure to be in, and what isn't.
-/
import Derived.Test.YtllfcbacpoaphaaKduo
set_option maxRecDepth 100000
set_option linter.unusedSimpArgs false
set_option linter.unusedVariables false
namespace Go.Abs
def selG (f : Int × Int → Int) : List (Int × Int) → (Nat → Bool) → Int
 | [],_ => 0
 | x :: l,b => (if b 0 then f x else 0) + selG f l fun i => b (i + 1)
theorem selG_lin (p d : Int) : ∀ (L : List (Int × Int)) (b : Nat → Bool),selG (fun x => x.1 * d - x.2 * p) L b = selG (·.1) L b * d - selG (·.2) L b * p
 | [],b => by simp [selG]
 | x :: l,b => by
  unfold selG
  rw [selG_lin p d l]
  split
  ·rw [Int.add_mul,Int.add_mul]; omega
  ·simp
theorem selG_le {f g : Int × Int → Int} (h : ∀ x,0 ≤ g x ∧ f x ≤ g x) : ∀ (L : List (Int × Int)) (b : Nat → Bool),selG f L b ≤ (L.map g).sum
 | [],b => by simp [selG]
 | x :: l,b => by
  have:=selG_le h l fun i => b (i + 1)
  have:=h x
  unfold selG
  simp only [List.map_cons,List.sum_cons]
  split <;> omega
theorem selG_take (f : Int × Int → Int) : ∀ (L : List (Int × Int)) (b : Nat → Bool) (k : Nat) (h : k < L.length),selG f (L.take (k + 1)) b = selG f (L.take k) b + (if b k then f L[k] else 0)
 | [],_,_,h => by simp at h
 | x :: l,b,0,_ => by simp [selG]
 | x :: l,b,k + 1,h => by
  rw [List.take_succ_cons,List.take_succ_cons]
  unfold selG
  rw [selG_take f l _ k (by simpa using h)]
  simp only [List.getElem_cons_succ]
  omega
theorem sel_price {L : List (Int × Int)} {room p d : Int} {b : Nat → Bool} (hp : 0 ≤ p) (hw : selG (·.2) L b ≤ room) : selG (·.1) L b * d ≤ totP L room p d:=by
 have h1:=selG_le (f:=fun x => x.1 * d - x.2 * p) (g:=exc p d) (fun x => exc_ge p d x) L b
 rw [selG_lin] at h1
 have h2:=Int.mul_le_mul_of_nonneg_right hw hp
 unfold totP
 rw [Int.mul_comm p room]
 omega
def rawP (L : List (Int × Int)) (room : Int) : Int × Int:=match (relL L room).2 with
 | none => (0,1)
 | some x => x
theorem relax_cut {L : List (Int × Int)} {room : Int} (h : ItOk L room) {x : Int × Int} (hx : (relL L room).2 = some x) : (0 ≤ x.1 ∧ x.1 ≤ 2147483648) ∧ 0 < x.2 ∧ x.2 ≤ 2147483648:=by
 obtain ⟨A,B,hO,h0,hc⟩:=relK_parts (L:=L) (ordW L) 0 room h.room.1 fun a => (h.itm a).2.1
 unfold relL at hx
 rcases hc with ⟨_,hr⟩ | ⟨k,B',_,hlt,hr⟩
 ·rw [hr] at hx; cases hx
 ·rw [hr] at hx
  cases hx
  exact ⟨(h.itm k).1,by omega,(h.itm k).2.2⟩
theorem relax_raw {L : List (Int × Int)} {room : Int} (h : ItOk L room) : 0 ≤ (rawP L room).1 ∧ 0 < (rawP L room).2 ∧ totP L room (rawP L room).1 (rawP L room).2 / (rawP L room).2 = (relL L room).1:=by
 unfold rawP
 cases hx : (relL L room).2 with
 | none => exact ⟨Int.le_refl _,by decide,relax_own (g:=1) h (fun x hh => by rw [hx] at hh; cases hh) fun _ => ⟨rfl,rfl⟩⟩
 | some x =>
  obtain ⟨h1,h2,_⟩:=relax_cut h hx
  exact ⟨h1.1,h2,relax_own (g:=1) h (fun y hh => by rw [hx] at hh; cases hh; exact ⟨by decide,h2,h1.1,(Int.mul_one _).symm,(Int.mul_one _).symm⟩) fun hh => by rw [hx] at hh; cases hh⟩
theorem sel_relax {L : List (Int × Int)} {room : Int} {b : Nat → Bool} (h : ItOk L room) (hw : selG (·.2) L b ≤ room) : selG (·.1) L b ≤ (relL L room).1:=by
 obtain ⟨h1,h2,h3⟩:=relax_raw h
 rw [← h3]
 exact (Int.le_ediv_iff_mul_le h2).2 (sel_price h1 hw)
theorem relax_pos {L : List (Int × Int)} {room : Int} (h : ItOk L room) : 0 ≤ (relL L room).1:=by
 have h2:=sel_relax (b:=fun _ => false) h
 have h3 : ∀ (f : Int × Int → Int) (l : List (Int × Int)),selG f l (fun _ => false) = 0:=fun f l => by
  induction l with
  | nil => rfl
  | cons x l ih => unfold selG; rw [ih]; rfl
 rw [h3,h3] at h2
 exact h2 h.room.1
theorem relax_max {L : List (Int × Int)} {room : Int} (h : ItOk L room) : (relL L room).1 ≤ (L.map (·.1)).sum:=by
 have:=relax_le (p:=0) (d:=1) h (Int.le_refl _) (by decide)
 have he : L.map (exc 0 1) = L.map (·.1):=List.map_congr_left fun x hx => by
  have:=(h.val x hx).1.1
  unfold exc; split <;> omega
 unfold totP at this
 rw [he] at this
 omega
/-! ### what is sure -/
theorem itm_get {L : List (Int × Int)} {k : Nat} (h : k < L.length) : itm L k = L[k]:=by
 unfold itm; rw [Int.toNat_natCast,List.getD_eq_getElem?_getD,List.getElem?_eq_getElem h]; rfl
/-! ### greedily -/
def grK (L : List (Int × Int)) : List Int → Int → List Int
 | [],_ => []
 | k :: o,room => if (itm L k).2 ≤ room then k :: grK L o (room - (itm L k).2) else grK L o room
theorem grK_sub (L : List (Int × Int)) : ∀ (o : List Int) (r : Int),(grK L o r).Sublist o
 | [],_ => .slnil
 | k :: o,r => by
  unfold grK
  split
  ·exact (grK_sub L o _).cons_cons k
  ·exact (grK_sub L o _).cons k
theorem grK_fits {L : List (Int × Int)} (hw : ∀ a,0 ≤ (itm L a).2) : ∀ (o : List Int) (r : Int),0 ≤ r → o.Nodup → sW L (grK L o r) ≤ r ∧ ∀ k ∈ o,k ∉ grK L o r → r < sW L (grK L o r) + (itm L k).2
 | [],r,h,_ => ⟨by simp [grK,sW]; exact h,fun k hk => by simp at hk⟩
 | a :: o,r,h,hn => by
  obtain ⟨n1,n2⟩:=List.nodup_cons.1 hn
  have ha:=hw a
  unfold grK
  by_cases hc : (itm L a).2 ≤ r
  ·rw [if_pos hc,sW_cons]
   obtain ⟨h1,h2⟩:=grK_fits hw o (r - (itm L a).2) (by omega) n2
   refine ⟨by omega,fun k hk hnk => ?_⟩
   have hka : k ≠ a:=fun hh => hnk (by simp [hh])
   have:=h2 k ((List.mem_cons.1 hk).resolve_left hka) fun hh => hnk (by simp [hh])
   omega
  ·rw [if_neg hc]
   obtain ⟨h1,h2⟩:=grK_fits hw o r h n2
   refine ⟨h1,fun k hk hnk => ?_⟩
   rcases List.mem_cons.1 hk with rfl | hk
   ·have : 0 ≤ sW L (grK L o r):=by unfold sW; exact sum_pos fun a _ => hw a
    omega
   ·exact h2 k hk hnk
end Go.Abs
