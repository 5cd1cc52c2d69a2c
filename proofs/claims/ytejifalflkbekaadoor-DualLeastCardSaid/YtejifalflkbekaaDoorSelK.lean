/-
  PLAIN LAW: the places that are chosen; lists that rise.
-/
import Derived.Test.YtejifalflkbekaaDoorRen
set_option linter.unusedSimpArgs false
set_option linter.unusedVariables false
namespace Go.Abs
def selK (b : Nat → Bool) (k : Nat) : List Int:=((List.range k).filter b).map fun (i : Nat) => (i : Int)
theorem selK_succ (b : Nat → Bool) (k : Nat) : selK b (k + 1) = if b k then selK b k ++ [(k : Int)] else selK b k:=by
 unfold selK
 rw [List.range_succ,List.filter_append,List.map_append]
 split <;> rename_i h <;> simp [h]
theorem selK_len (b : Nat → Bool) (k : Nat) : (selK b k).length ≤ k:=by
 unfold selK
 rw [List.length_map]
 exact Nat.le_trans (List.length_filter_le _ _) (by simp)
theorem selK_mem {b : Nat → Bool} {k : Nat} {a : Int} : a ∈ selK b k ↔ ∃ i : Nat,a = (i : Int) ∧ i < k ∧ b i = true:=by
 unfold selK
 rw [List.mem_map]
 constructor
 ·rintro ⟨i,hi,rfl⟩
  obtain ⟨h1,h2⟩:=List.mem_filter.1 hi
  exact ⟨i,rfl,List.mem_range.1 h1,h2⟩
 ·rintro ⟨i,rfl,h1,h2⟩
  exact ⟨i,List.mem_filter.2 ⟨List.mem_range.2 h1,h2⟩,rfl⟩
theorem perm_of_nodup {l m : List Int} (h1 : l.Nodup) (h2 : m.Nodup) (h : ∀ a,a ∈ l ↔ a ∈ m) : l.Perm m:=by
 rw [List.perm_iff_count]
 intro a
 rw [h1.count,h2.count]
 simp only [h a]
theorem rise_unique : ∀ {l m : List Int},l.Pairwise (· ≤ ·) → m.Pairwise (· ≤ ·) → l.Perm m → l = m
 | [],m,_,_,h => (List.nil_perm.1 h).symm
 | a :: l,[],_,_,h => absurd h.symm (by simp)
 | a :: l,b :: m,h1,h2,h => by
  obtain ⟨h1a,h1b⟩:=List.pairwise_cons.1 h1
  obtain ⟨h2a,h2b⟩:=List.pairwise_cons.1 h2
  have hab : a = b:=by
   have ha : a ∈ b :: m:=h.mem_iff.1 (by simp)
   have hb : b ∈ a :: l:=h.mem_iff.2 (by simp)
   rcases List.mem_cons.1 ha with ha | ha
   ·exact ha
   ·rcases List.mem_cons.1 hb with hb | hb
    ·exact hb.symm
    ·have:=h1a b hb
     have:=h2a a ha
     omega
  subst hab
  rw [rise_unique h1b h2b (List.Perm.cons_inv h)]
theorem selK_rise (b : Nat → Bool) (k : Nat) : (selK b k).Pairwise (· < ·):=by
 unfold selK
 rw [List.pairwise_map]
 refine (List.pairwise_lt_range.sublist List.filter_sublist).imp ?_
 intro a c h; omega
theorem sort_sel {M g : List Int} {n : Nat} (hM : M.Perm g) (hs : M.Pairwise (· ≤ ·)) (hg : g.Nodup) (hr : ∀ a ∈ g,0 ≤ a ∧ a < n) : M = selK (fun i => decide ((i : Int) ∈ g)) n:=by
 have h1:=selK_rise (fun i => decide ((i : Int) ∈ g)) n
 refine rise_unique hs (h1.imp fun h => by omega) (hM.trans (perm_of_nodup hg (h1.imp fun h => by omega) fun a => ?_))
 rw [selK_mem]
 constructor
 ·intro ha
  have:=hr a ha
  exact ⟨a.toNat,by omega,by omega,decide_eq_true (by rw [show ((a.toNat : Nat) : Int) = a by omega]; exact ha)⟩
 ·rintro ⟨i,rfl,_,h⟩
  exact of_decide_eq_true h
def inL (A : List Int) (i : Nat) : Bool:=decide ((i : Int) ∈ A)
end Go.Abs
