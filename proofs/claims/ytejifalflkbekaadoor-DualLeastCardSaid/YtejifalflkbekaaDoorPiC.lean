/-
  slices.Sort of numbers in a slice of one's own.
-/
import Derived.Test.YtejifalflkbekaaDoorPiB0
import Derived.Test.YtejifalflkbekaaDoorRen
set_option maxRecDepth 100000
set_option linter.unusedSimpArgs false
set_option linter.unusedVariables false
namespace Go.Proofs.YtejifalflkbekaaDoor.Ps
open Go Go.Abs
theorem cellsE_cons (e : Ent) (l : List Ent) : cellsE (e :: l) = .int .i64 e.v :: cellsE l:=rfl
theorem cellsE_at : ∀ (M : List Ent) (i : Nat) (h : i < M.length),(cellsE M)[i]? = some (.int .i64 M[i].v)
 | [],i,h => by simp at h
 | e :: l,0,h => rfl
 | e :: l,i + 1,h => by
  rw [cellsE_cons,List.getElem?_cons_succ,cellsE_at l i (by simpa using h)]; rfl
theorem chunk_one {cells : List Value} {i : Nat} {x : Value} : chunk 1 i cells = [x] ↔ cells[i]? = some x:=by
 unfold chunk
 rw [Nat.mul_one]
 cases h : cells[i]? with
 | none =>
  have:=List.getElem?_eq_none_iff.1 h
  rw [List.drop_eq_nil_of_le this]; simp
 | some y =>
  obtain ⟨h1,h2⟩:=List.getElem?_eq_some_iff.1 h
  rw [List.drop_eq_getElem_cons h1,h2]; simp
theorem own_dat {H : AH} {v : Value} {l : List Int} {S : List Nat} (h : OwnL (fun _ => False) H T_int v l S) (hl : l.length ≤ 1000) : DatAt H v (l.map Ent.mk) S ∧ ∀ x ∈ l,I64 x:=by
 obtain ⟨cells,h1,h2,h3⟩:=h
 have hlen:=h1.len
 simp only [sz_int,Nat.mul_one] at hlen
 have hc : cells = cellsE (l.map Ent.mk):=by
  apply List.ext_getElem?
  intro i
  by_cases hi : i < l.length
  ·obtain ⟨e,_⟩:=h2 i hi
   rw [chunk_one.1 e,cellsE_at _ i (by simpa using hi)]
   simp
  ·rw [List.getElem?_eq_none (by omega),List.getElem?_eq_none (by rw [cellsE_length]; simp; omega)]
 refine ⟨⟨?_,by simp; omega⟩,fun x hx => ?_⟩
 ·rw [List.length_map,← hc]; exact h1
 ·obtain ⟨i,hi,rfl⟩:=List.getElem_of_mem hx
  exact (h2 i hi).2
theorem dat_own {H : AH} {v : Value} {M : List Ent} {S : List Nat} (h : DatAt H v M S) (hM : ∀ x ∈ M,I64 x.v) : OwnL (fun _ => False) H T_int v (M.map Ent.v) S:=by
 refine ⟨cellsE M,?_,fun i hi => ⟨?_,?_⟩,by simp⟩
 ·rw [List.length_map]; exact h.1
 ·have hi' : i < M.length:=by simpa using hi
  rw [sz_int,chunk_one,cellsE_at M i hi']
  simp
 ·have hi' : i < M.length:=by simpa using hi
  have:=hM M[i] (List.getElem_mem hi')
  simpa using this
def RiseL (M : List Int) : Prop:=M.Pairwise (· ≤ ·)
theorem SortI_spec {H : AH} {v : Value} {l : List Int} {S : List Nat} (h : OwnL (fun _ => False) H T_int v l S) (hl : l.length ≤ 1000) : AFn Tryd.prog F_slices_Sort_Lint_int [v] H fun u H' => ∃ M,M.Perm l ∧ RiseL M ∧ OwnL (fun _ => False) H' T_int v M S ∧ Keep S H H':=by
 refine AFn.enter mixed ir_slices_Sort_Lint_int_eq (by simp [ir_slices_Sort_Lint_int]) fun hw => ?_
 obtain ⟨hD,hI⟩:=own_dat h hl
 obtain ⟨a,c,rfl⟩:=h.slice
 have hlm : (l.map Ent.mk).length = l.length:=by simp
 have e2 : IntKind.u64.wrap ((l.length : Nat) : Int) = ((l.length : Nat) : Int):=by simp [IntKind.wrap,IntKind.bits,IntKind.signed]; omega
 have e3 : ∀ n : Nat,(Value.int .u64 (n : Int)) = uv n:=fun n => (uv_def n).symm
 have hb:=bl_small (x:=l.length) (by omega)
 have hs:=bits_Len_spec (H:=H) (x:=l.length) (by omega)
 have hp:=pdqsort_spec l.length (a:=0) (lim:=bl l.length) (by omega) hD (by omega) (by omega) (fun h => by omega) (by omega)
 rw [hlm] at hp
 simp (disch:=omega) [-getElem?_pos,if_pos,if_neg,decide_eq_true,decide_eq_false,ir_slices_Sort_Lint_int,e2,e3]
 refine AFn.pure hs ?_
 simp (disch:=omega) [-getElem?_pos,if_pos,if_neg,decide_eq_true,decide_eq_false,]
 refine hp.mono' fun u H2 w2 ⟨M,hS,hr,hD2,k2⟩ => ?_
 simp (disch:=omega) [-getElem?_pos,if_pos,if_neg,decide_eq_true,decide_eq_false,]
 have hpm:=hS.perm
 have hMl:=hS.length
 refine ⟨M.map Ent.v,?_,?_,dat_own hD2 fun x hx => ?_,k2⟩
 ·have:=hpm.map Ent.v
  simpa [List.map_map,Function.comp_def] using this
 ·unfold RiseL
  rw [List.pairwise_map,List.pairwise_iff_getElem]
  intro i j hi hj hij
  have:=hr i j (Nat.zero_le _) hij (by omega)
  rw [getE_eq hi,getE_eq hj] at this
  have:=of_decide_eq_false this
  omega
 ·have:=(hpm.mem_iff).1 hx
  obtain ⟨y,hy,rfl⟩:=List.mem_map.1 this
  exact hI y hy
end Go.Proofs.YtejifalflkbekaaDoor.Ps
