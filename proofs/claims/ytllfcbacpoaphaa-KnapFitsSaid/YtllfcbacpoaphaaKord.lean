/-
  PLAIN LAW of package knap: the order of worth.
-/
import Derived.Test.YtllfcbacpoaphaaSorted
set_option linter.unusedSimpArgs false
set_option linter.unusedVariables false
namespace Go.Abs
def itm (L : List (Int × Int)) (a : Int) : Int × Int:=L.getD a.toNat (0,0)
def sg (z : Int) : Int:=if z < 0 then -1 else if 0 < z then 1 else 0
theorem sg_neg (z : Int) : sg (-z) = - sg z:=by unfold sg; (repeat' split) <;> omega
theorem sg_lt {z : Int} : sg z < 0 ↔ z < 0:=by unfold sg; (repeat' split) <;> omega
theorem sg_gt {z : Int} : 0 < sg z ↔ 0 < z:=by unfold sg; (repeat' split) <;> omega
def worthI (x y : Int × Int) : Int:=if x.2 = 0 then (if y.2 = 0 then 0 else -1) else if y.2 = 0 then 1 else - sg (x.1 * y.2 - y.1 * x.2)
theorem worth_anti (x y : Int × Int) : worthI y x = - worthI x y:=by
 unfold worthI
 have h : y.1 * x.2 - x.1 * y.2 = -(x.1 * y.2 - y.1 * x.2):=by omega
 rw [h,sg_neg]
 (repeat' split) <;> omega
def noLater (x y : Int × Int) : Prop:=x.2 = 0 ∨ (y.2 ≠ 0 ∧ y.1 * x.2 ≤ x.1 * y.2)
theorem worth_le {x y : Int × Int} : worthI x y ≤ 0 ↔ noLater x y:=by
 have:=@sg_gt (x.1 * y.2 - y.1 * x.2)
 have:=@sg_lt (x.1 * y.2 - y.1 * x.2)
 unfold worthI noLater
 by_cases h : x.2 = 0
 ·rw [if_pos h]
  by_cases h2 : y.2 = 0
  ·rw [if_pos h2]; omega
  ·rw [if_neg h2]; omega
 ·rw [if_neg h]
  by_cases h2 : y.2 = 0
  ·rw [if_pos h2]; omega
  ·rw [if_neg h2]; omega
theorem worth_range (x y : Int × Int) : -1 ≤ worthI x y ∧ worthI x y ≤ 1:=by
 unfold worthI sg; (repeat' split) <;> omega
theorem noLater.trans {x y z : Int × Int} (hx : 0 ≤ x.2) (hy : 0 ≤ y.2) (hz : 0 ≤ z.2) (h1 : noLater x y) (h2 : noLater y z) : noLater x z:=by
 unfold noLater at *
 by_cases h0 : x.2 = 0
 ·exact .inl h0
 ·rcases h1 with h1 | ⟨h1,h3⟩
  ·exact absurd h1 h0
  ·rcases h2 with h2 | ⟨h2,h4⟩
   ·exact absurd h2 h1
   ·refine .inr ⟨h2,?_⟩
    have a:=Int.mul_le_mul_of_nonneg_right h3 hz
    have b:=Int.mul_le_mul_of_nonneg_right h4 hx
    have e1 : y.1 * x.2 * z.2 = y.1 * z.2 * x.2:=by rw [Int.mul_assoc,Int.mul_comm x.2,← Int.mul_assoc]
    have e2 : z.1 * y.2 * x.2 = z.1 * x.2 * y.2:=by rw [Int.mul_assoc,Int.mul_comm y.2,← Int.mul_assoc]
    have e3 : x.1 * y.2 * z.2 = x.1 * z.2 * y.2:=by rw [Int.mul_assoc,Int.mul_comm y.2,← Int.mul_assoc]
    exact Int.le_of_mul_le_mul_right (show z.1 * x.2 * y.2 ≤ x.1 * z.2 * y.2 by omega) (by omega)
theorem noLater.total (x y : Int × Int) : noLater x y ∨ noLater y x:=by
 rw [← worth_le,← worth_le,worth_anti x y]; omega
def ahB (L : List (Int × Int)) (a b : Int) : Bool:=decide (worthI (itm L a) (itm L b) < 0 ∨ worthI (itm L a) (itm L b) = 0 ∧ a < b)
theorem ahB_iff {L : List (Int × Int)} {a b : Int} : ahB L a b = true ↔ noLater (itm L a) (itm L b) ∧ (noLater (itm L b) (itm L a) → a < b):=by
 unfold ahB
 rw [decide_eq_true_iff,← worth_le,← worth_le,worth_anti (itm L a) (itm L b)]
 constructor
 ·rintro (h | ⟨h1,h2⟩)
  ·exact ⟨by omega,fun h => by omega⟩
  ·exact ⟨by omega,fun _ => h2⟩
 ·rintro ⟨h1,h2⟩
  by_cases h : worthI (itm L a) (itm L b) < 0
  ·exact .inl h
  ·exact .inr ⟨by omega,h2 (by omega)⟩
theorem ahB_ord {L : List (Int × Int)} (hL : ∀ x ∈ L,0 ≤ x.2) : IsOrd (ahB L):=by
 have hw : ∀ a,0 ≤ (itm L a).2:=fun a => by
  unfold itm
  rw [List.getD_eq_getElem?_getD]
  cases h : L[a.toNat]? with
  | none => exact Int.le_refl _
  | some x => exact hL x (List.mem_of_getElem? h)
 have tr : ∀ {a b c},noLater (itm L a) (itm L b) → noLater (itm L b) (itm L c) → noLater (itm L a) (itm L c):=fun {a b c} h1 h2 => h1.trans (hw a) (hw b) (hw c) h2
 refine ⟨fun a => ?_,fun a b c h1 h2 => ?_,fun a b h1 h2 => ?_⟩
 ·cases h : ahB L a a with
  | false => rfl
  | true =>
   obtain ⟨h1,h2⟩:=ahB_iff.1 h
   have:=h2 h1; omega
 ·obtain ⟨a1,a2⟩:=ahB_iff.1 h1
  obtain ⟨b1,b2⟩:=ahB_iff.1 h2
  refine ahB_iff.2 ⟨tr a1 b1,fun h => ?_⟩
  have:=a2 (tr b1 h)
  have:=b2 (tr h a1)
  omega
 ·have n1 : ¬ (ahB L a b = true):=by rw [h1]; simp
  have n2 : ¬ (ahB L b a = true):=by rw [h2]; simp
  rw [ahB_iff] at n1 n2
  rcases noLater.total (itm L a) (itm L b) with h | h
  ·by_cases g : noLater (itm L b) (itm L a)
   ·have h3 : ¬ a < b:=fun h3 => n1 ⟨h,fun _ => h3⟩
    have h4 : ¬ b < a:=fun h4 => n2 ⟨g,fun _ => h4⟩
    omega
   ·exact absurd ⟨h,fun h => absurd h g⟩ n1
  ·by_cases g : noLater (itm L a) (itm L b)
   ·have h3 : ¬ a < b:=fun h3 => n1 ⟨g,fun _ => h3⟩
    have h4 : ¬ b < a:=fun h4 => n2 ⟨h,fun _ => h4⟩
    omega
   ·exact absurd ⟨h,fun h => absurd h g⟩ n2
theorem ahB_later {L : List (Int × Int)} {a b : Int} (h : b < a) : (ahB L a b = true ↔ worthI (itm L a) (itm L b) < 0):=by
 unfold ahB
 rw [decide_eq_true_iff]
 constructor
 ·rintro (h1 | ⟨h1,h2⟩)
  ·exact h1
  ·omega
 ·exact .inl
def iota (n : Nat) : List Int:=(List.range n).map fun (i : Nat) => (i : Int)
theorem iota_len (n : Nat) : (iota n).length = n:=by simp [iota]
theorem iota_mem {n : Nat} {a : Int} : a ∈ iota n ↔ 0 ≤ a ∧ a < n:=by
 unfold iota
 rw [List.mem_map]
 constructor
 ·rintro ⟨i,hi,rfl⟩; have:=List.mem_range.1 hi; omega
 ·intro h; exact ⟨a.toNat,List.mem_range.2 (by omega),by omega⟩
theorem iota_nodup (n : Nat) : (iota n).Nodup:=by
 unfold iota
 refine List.Pairwise.map _ ?_ List.nodup_range
 intro a b h1 h2
 omega
def ordW (L : List (Int × Int)) : List Int:=sortL (ahB L) (iota L.length)
theorem sortL_is {α : Type} {lt : α → α → Bool} (ho : IsOrd lt) {l m : List α} (h1 : Srt lt m) (h2 : m.Perm l) : sortL lt l = m:=by
 obtain ⟨h3,h4⟩:=foldl_ins ho l [] .nil
 rw [List.append_nil] at h4
 exact srt_unique ho h3 h1 (h4.trans h2.symm)
theorem ordW_srt {L : List (Int × Int)} (hL : ∀ x ∈ L,0 ≤ x.2) : Srt (ahB L) (ordW L):=(foldl_ins (ahB_ord hL) _ [] .nil).1
theorem ordW_perm {L : List (Int × Int)} (hL : ∀ x ∈ L,0 ≤ x.2) : (ordW L).Perm (iota L.length):=by
 have:=(foldl_ins (ahB_ord hL) (iota L.length) [] .nil).2
 rwa [List.append_nil] at this
theorem ordW_len {L : List (Int × Int)} (hL : ∀ x ∈ L,0 ≤ x.2) : (ordW L).length = L.length:=by rw [(ordW_perm hL).length_eq,iota_len]
theorem ordW_mem {L : List (Int × Int)} (hL : ∀ x ∈ L,0 ≤ x.2) {a : Int} : a ∈ ordW L ↔ 0 ≤ a ∧ a < L.length:=by
 rw [(ordW_perm hL).mem_iff,iota_mem]
theorem ordW_nodup {L : List (Int × Int)} (hL : ∀ x ∈ L,0 ≤ x.2) : (ordW L).Nodup:=by
 rw [(ordW_perm hL).nodup_iff]; exact iota_nodup _
end Go.Abs
