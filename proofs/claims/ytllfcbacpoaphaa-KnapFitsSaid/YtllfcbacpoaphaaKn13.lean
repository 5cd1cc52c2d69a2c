/-
  package knap: Fix.
-/
import Derived.Test.YtllfcbacpoaphaaKn12
set_option maxRecDepth 100000
set_option linter.unusedSimpArgs false
set_option linter.unusedVariables false
namespace Go.Abs
def selK (b : Nat → Bool) (k : Nat) : List Int:=((List.range k).filter b).map fun (i : Nat) => (i : Int)
theorem selK_succ (b : Nat → Bool) (k : Nat) : selK b (k + 1) = if b k then selK b k ++ [(k : Int)] else selK b k:=by
 unfold selK
 rw [List.range_succ,List.filter_append,List.map_append]
 split <;> rename_i h <;> simp [h]
theorem selK_len (b : Nat → Bool) (k : Nat) : (selK b k).length ≤ k:=by
 unfold selK
 rw [List.length_map]
 exact Nat.le_trans (List.length_filter_le _ _) (by simp)
theorem selK_mem {b : Nat → Bool} {k : Nat} {a : Int} : a ∈ selK b k ↔ ∃ i : Nat,a = (i : Int) ∧ i < k ∧ b i = true:=by
 unfold selK
 rw [List.mem_map]
 constructor
 ·rintro ⟨i,hi,rfl⟩
  obtain ⟨h1,h2⟩:=List.mem_filter.1 hi
  exact ⟨i,rfl,List.mem_range.1 h1,h2⟩
 ·rintro ⟨i,rfl,h1,h2⟩
  exact ⟨i,List.mem_filter.2 ⟨List.mem_range.2 h1,h2⟩,rfl⟩
theorem rl_bound {L : List (Int × Int)} {room : Int} (h : ItOk L room) (hl : L.length ≤ 40) : 0 ≤ (relL L room).1 ∧ (relL L room).1 ≤ 40 * 2147483648:=by
 refine ⟨relax_pos h,Int.le_trans (relax_max h) ?_⟩
 have : ∀ (l : List (Int × Int)),(∀ x ∈ l,x.1 ≤ 2147483648) → (l.map (·.1)).sum ≤ (l.length : Int) * 2147483648:=fun l => by
  induction l with
  | nil => intro _; simp
  | cons a l ih =>
   intro h
   have:=h a (by simp)
   have:=ih fun y hy => h y (by simp [hy])
   simp only [List.map_cons,List.sum_cons,List.length_cons]
   omega
 have:=this L fun x hx => (h.val x hx).1.2
 omega
end Go.Abs
namespace Go.Proofs.Ytllfcbacpoaphaa
open Go Go.Abs
end Go.Proofs.Ytllfcbacpoaphaa
