/-
  package dual, and the document: which sets may be; is an element in a set; prices together.
-/
import Derived.Test.YtejifalflkbekaaDoorDs2
import Derived.Test.YtejifalflkbekaaDoorPiO
import Derived.Test.YtejifalflkbekaaDoorDp1
import Derived.Test.YtejifalflkbekaaDoorBu31
set_option maxRecDepth 100000
set_option linter.unusedSimpArgs false
set_option linter.unusedVariables false
namespace Go.Proofs.YtejifalflkbekaaDoor
open Go Go.Abs Go.Proofs.YtejifalflkbekaaDoor.Bs
theorem dInstV {p : Nat → Prop} {H : AH} {v : Value} {M : List SetD} {n : Int} (hn : I64 n) (h : SlV p H v M) : InstV p H (.agg #[.int .i64 3,.int .i64 0,.slice none 0 0,.slice none 0 0,.int .i64 n,v]) (dInst n M) :=
 ⟨.slice none 0 0,.slice none 0 0,v,rfl,by show I64 3; unfold I64; omega,by show I64 0; unfold I64; omega,hn,SlV.nil,SlV.nil,h⟩
theorem may_spec {p : Nat → Prop} {H : AH} {v : Value} {M : List SetD} {n : Int} (hn : I64 n) (h : SlV p H v M) : AFn Tryd.prog F_dual_may [.int .i64 n,v] H fun u H' => u = .bool (mayD n M) ∧ H' = H:=by
 refine AFn.enter mixed ir_dual_may_eq (by simp [ir_dual_may]) fun hw => ?_
 have hc:=Check_spec (dInstV hn h)
 have hcell:=h.cell
 have hm : mayD n M = decide ((dInst n M).check = 0):=rfl
 rw [hm]
 generalize (dInst n M).check = c at *
 simp (disch:=omega) [-getElem?_pos,if_pos,if_neg,decide_eq_true,decide_eq_false,ir_dual_may,hcell.1,hcell.2]
 refine AFn.pure hc ?_
 simp (disch:=omega) [-getElem?_pos,if_pos,if_neg,decide_eq_true,decide_eq_false,]
/-! ### is it in? -/
def PosOf (E : List Int) (e : Int) (i : Nat) : Prop:=i ≤ E.length ∧ (∀ k (h : k < E.length),k < i → E[k] < e) ∧ ∀ k (h : k < E.length),i ≤ k → e ≤ E[k]
theorem pos_mem {E : List Int} {e : Int} {i : Nat} (hs : E.Pairwise (· < ·)) (h : PosOf E e i) : e ∈ E ↔ ∃ hi : i < E.length,E[i] = e:=by
 obtain ⟨h1,h2,h3⟩:=h
 constructor
 ·intro he
  obtain ⟨k,hk,rfl⟩:=List.getElem_of_mem he
  by_cases hki : k < i
  ·have:=h2 k hk hki; omega
  ·have hi : i < E.length:=by omega
   refine ⟨hi,?_⟩
   have h4:=h3 i hi (Nat.le_refl _)
   rcases Nat.lt_or_ge i k with hh | hh
   ·have:=(List.pairwise_iff_getElem.1 hs) i k hi hk hh; omega
   ·have : k = i:=by omega
    subst this; rfl
 ·rintro ⟨hi,rfl⟩; exact List.getElem_mem hi
def BiI (H : AH) (v : Value) (E : List Int) (e : Int) (m : Nat) (env : Env) (H' : AH) : Prop :=
 H' = H ∧ env 0 = some v ∧ env 1 = some (.int .i64 e) ∧ env 6 = some (.int .i64 E.length) ∧ ∃ i j,env 7 = some (.int .i64 (i : Nat)) ∧ env 8 = some (.int .i64 (j : Nat)) ∧ m = j - i ∧ i ≤ j ∧ j ≤ E.length ∧ (∀ k (h : k < E.length),k < i → E[k] < e) ∧ ∀ k (h : k < E.length),j ≤ k → e ≤ E[k]
def BiQ (H : AH) (v : Value) (E : List Int) (e : Int) (x : AExit) (env : Env) (H' : AH) : Prop :=
 x = .exit 0 ∧ H' = H ∧ env 0 = some v ∧ env 1 = some (.int .i64 e) ∧ env 6 = some (.int .i64 E.length) ∧ ∃ i,env 7 = some (.int .i64 (i : Nat)) ∧ PosOf E e i
theorem bin_l0 {p : Nat → Prop} {H : AH} {v : Value} {E : List Int} {e : Int} (hE : SlV p H v E) (hl : E.length ≤ 1000000) (hs : E.Pairwise (· < ·)) {env : Env} {m : Nat} (h : BiI H v E e m env H) :
  wpC Tryd.prog 54 (.loop ir_slices_BinarySearch_Lint_int_l0) (BiQ H v E e) env H:=by
 refine loop_rule (BiI H v E e) (Q:=BiQ H v E e) ?_ (j:=m) h
 clear h
 rintro m env H' ⟨rfl,e0,e1,e6,i,j,e7,e8,hm,hij,hj,hlo,hhi⟩
 by_cases hlt : i < j
 ·obtain ⟨b0,off,sp,cap,cs,rfl,q1,q2⟩:=ints_rd hE (by omega)
  obtain ⟨c,hc⟩ : ∃ c,c = (i + j) / 2:=⟨_,rfl⟩
  have hcl : c < E.length:=by omega
  have hcl' : (c : Int) < (E.length : Int):=by omega
  obtain ⟨q3,_⟩:=q2 c hcl
  have w1 : IntKind.i64.wrap ((i : Int) + j) = ((i + j : Nat) : Int):=by rw [IntWalk.i64_in _ (by omega)]; omega
  have w2 : IntKind.u64.wrap ((i + j : Nat) : Int) = ((i + j : Nat) : Int):=by simp [IntKind.wrap,IntKind.bits,IntKind.signed]; omega
  have e3 : ∀ n : Nat,(Value.int .u64 (n : Int)) = uv n:=fun n => (uv_def n).symm
  have s1 : abin .shr (uv (i + j)) (uv 1) = some (uv c):=by rw [hc]; exact uv_shr (n:=1) (by omega)
  have w3 : IntKind.i64.wrap (c : Int) = (c : Int):=IntWalk.i64_in _ (by omega)
  have hls:=fun (H : AH) => Ps.LessI_spec (H:=H) ⟨E[c]⟩ ⟨e⟩
  have hlt' : Ps.Ent.lt ⟨E[c]⟩ ⟨e⟩ = decide (E[c] < e):=rfl
  simp only [hlt'] at hls
  have hmono : ∀ k (h : k < E.length),∀ k' (h' : k' < E.length),k ≤ k' → E[k] ≤ E[k']:=fun k h k' h' hk => by
   rcases Nat.lt_or_ge k k' with hh | hh
   ·have:=(List.pairwise_iff_getElem.1 hs) k k' h h' hh; omega
   ·have : k = k':=by omega
    subst this; omega
  have hcm:=hmono c hcl
  have hcm2:=fun k h => hmono k h c hcl
  generalize hij2 : i + j = ij at *
  clear hmono
  simp (disch:=omega) [-getElem?_pos,if_pos,if_neg,decide_eq_true,decide_eq_false,ir_slices_BinarySearch_Lint_int_l0,e0,e1,e6,e7,e8,hlt,w1,w2,e3,↓s1]
  simp only [uv_def]
  simp (disch:=omega) [-getElem?_pos,if_pos,if_neg,decide_eq_true,decide_eq_false,e0,e1,e6,e7,e8,w3,q1,q3,hcl,hcl']
  refine AFn.pure (hls _) ?_
  by_cases hx : E[c] < e
  ·simp (disch:=omega) [-getElem?_pos,if_pos,if_neg,decide_eq_true,decide_eq_false,hx,e0,e1,e6,e7,e8,IntWalk.i64_in]
   refine ⟨j - (c + 1),by omega,rfl,by simp [e0],by simp [e1],by simp [e6],c + 1,j,by simp,by simp [e8],rfl,by omega,hj,fun k hk hkc => ?_,hhi⟩
   have:=hcm2 k hk (by omega); omega
  ·simp (disch:=omega) [-getElem?_pos,if_pos,if_neg,decide_eq_true,decide_eq_false,hx,e0,e1,e6,e7,e8,IntWalk.i64_in]
   refine ⟨c - i,by omega,rfl,by simp [e0],by simp [e1],by simp [e6],i,c,by simp [e7],by simp,rfl,by omega,by omega,hlo,fun k hk hkc => ?_⟩
   have:=hcm k hk hkc; omega
 ·obtain rfl : i = j:=by omega
  simp (disch:=omega) [-getElem?_pos,if_pos,if_neg,decide_eq_true,decide_eq_false,ir_slices_BinarySearch_Lint_int_l0,e7,e8]
  exact ⟨rfl,rfl,e0,e1,e6,i,e7,hj,hlo,hhi⟩
theorem isNaNS_spec {H : AH} (a : Int) : AFn Tryd.prog F_slices_isNaN_int [.int .i64 a] H fun u H' => u = .bool false ∧ H' = H:=by
 refine AFn.enter mixed ir_slices_isNaN_int_eq (by simp [ir_slices_isNaN_int]) fun hw => ?_
 simp (disch:=omega) [-getElem?_pos,if_pos,if_neg,decide_eq_true,decide_eq_false,ir_slices_isNaN_int]
theorem Bin_spec {p : Nat → Prop} {H : AH} {v : Value} {E : List Int} {e : Int} (hE : SlV p H v E) (hl : E.length ≤ 1000000) (hs : E.Pairwise (· < ·)) :
  AFn Tryd.prog F_slices_BinarySearch_Lint_int [v,.int .i64 e] H fun u H' => (∃ i : Nat,u = .tuple #[.int .i64 i,.bool (decide (e ∈ E))] ∧ PosOf E e i) ∧ H' = H:=by
 refine AFn.enter mixed ir_slices_BinarySearch_Lint_int_eq (by simp [ir_slices_BinarySearch_Lint_int]) fun hw => ?_
 obtain ⟨va,vc,rfl⟩:=hE.slice
 simp (disch:=omega) [-getElem?_pos,if_pos,if_neg,decide_eq_true,decide_eq_false,ir_slices_BinarySearch_Lint_int]
 refine wpC_use (bin_l0 (e:=e) (m:=E.length) hE hl hs ⟨rfl,by simp,by simp,by simp,0,E.length,by simp,by simp,by omega,by omega,by omega,fun k h h0 => by omega,fun k h h0 => by omega⟩) ?_
 rintro x env2 H2 ⟨rfl,rfl,f0,f1,f6,i,f7,hp⟩ _
 have hpm:=pos_mem hs hp
 by_cases hi : i < E.length
 ·obtain ⟨b0,off,sp,cap,cs,hv,q1,q2⟩:=ints_rd hE (by omega)
  cases hv
  obtain ⟨q3,_⟩:=q2 i hi
  have hi' : (i : Int) < (E.length : Int):=by omega
  by_cases hx : E[i] = e
  ·have hmem : e ∈ E:=hpm.2 ⟨hi,hx⟩
   simp (disch:=omega) [-getElem?_pos,if_pos,if_neg,decide_eq_true,decide_eq_false,f0,f1,f6,f7,hi,hi',q1,q3,hx,hmem]
   exact ⟨i,rfl,hp⟩
  ·have hmem : e ∉ E:=fun h => hx (hpm.1 h).2
   simp (disch:=omega) [-getElem?_pos,if_pos,if_neg,decide_eq_true,decide_eq_false,f0,f1,f6,f7,hi,hi',q1,q3,hx,hmem]
   refine AFn.pure (isNaNS_spec _) ?_
   simp (disch:=omega) [-getElem?_pos,if_pos,if_neg,decide_eq_true,decide_eq_false,]
   exact ⟨i,rfl,hp⟩
 ·have hmem : e ∉ E:=fun h => hi (hpm.1 h).1
  simp (disch:=omega) [-getElem?_pos,if_pos,if_neg,decide_eq_true,decide_eq_false,f0,f1,f6,f7,hi,hmem]
  exact ⟨i,rfl,hp⟩
theorem has_spec {p : Nat → Prop} {H : AH} {ev : Value} {c : Int} {E : List Int} {e : Int} (hE : SlV p H ev E) (hl : E.length ≤ 1000000) (hs : E.Pairwise (· < ·)) : AFn Tryd.prog F_dual_has [.agg #[.int .i64 c,ev],.int .i64 e] H fun u H' => u = .bool (decide (e ∈ E)) ∧ H' = H:=by
 refine AFn.calm (fun H0 hsm => ?_) rfl
 have hE0:=hE.same hsm
 refine AFn.enter mixed ir_dual_has_eq (by simp [ir_dual_has]) fun hw => ?_
 have k1 : Keep [] H0 (H0.alloc (.row [.int .i64 c,ev] T_inst_Set true)):=.alloc
 have hE1:=hE0.kept hw k1
 have hc1 : (H0.alloc (.row [.int .i64 c,ev] T_inst_Set true)).cells H0.next = some [.int .i64 c,ev]:=AH.cells_alloc_new
 obtain ⟨va,vc,rfl⟩:=hE.slice
 simp (disch:=omega) [-getElem?_pos,if_pos,if_neg,decide_eq_true,decide_eq_false,ir_dual_has]
 generalize H0.alloc (.row [.int .i64 c,.slice va E.length vc] T_inst_Set true) = H1 at *
 refine (Bin_spec hE1 hl hs).mono' fun u H2 w2 ⟨⟨i,hu,_⟩,_⟩ => ?_
 subst hu
 simp (disch:=omega) [-getElem?_pos,if_pos,if_neg,decide_eq_true,decide_eq_false,]
/-! ### prices together -/
theorem spentP_bound {P : List Int} (hP : ∀ i,-4611686018427387904 ≤ P.getD i 0 * 1000000 ∧ P.getD i 0 * 1000000 ≤ 4611686018427387904) : ∀ E : List Int,E.length ≤ 1000000 → -4611686018427387904 * (E.length : Int) ≤ spentP P E * 1000000 ∧ spentP P E * 1000000 ≤ 4611686018427387904 * (E.length : Int)
 | [],_ => by simp [spentP]
 | a :: E,h => by
  have:=spentP_bound hP E (by simp at h; omega)
  have:=hP a.toNat
  rw [spentP_cons,List.length_cons]
  omega
end Go.Proofs.YtejifalflkbekaaDoor
