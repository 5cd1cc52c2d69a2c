/-
  Layer 18: what is missing, and the sets, as the program's and the document's.
-/
import Derived.Test.YtejifalflkbekaaDoorSeq0
import Derived.Test.YtejifalflkbekaaDoorInst3
import Derived.Test.YtejifalflkbekaaDoorBs
import Derived.Test.YtejifalflkbekaaDoorOwnAll
import Derived.Test.YtejifalflkbekaaDoorBu18
import Derived.Test.YtejifalflkbekaaDoorIr18
set_option maxRecDepth 100000
set_option linter.unusedSimpArgs false
set_option linter.unusedVariables false
namespace Go.Abs
open Go Go.Proofs.YtejifalflkbekaaDoor.Bs
theorem rises_up {l n m : Int} (h : n ≤ m) : ∀ {E : List Int},Rises l n E → Rises l m E
 | [],_ => trivial
 | x :: E,⟨h1,h2,h3⟩ => ⟨h1,by omega,rises_up h h3⟩
theorem rises_snoc {n : Int} : ∀ {E : List Int} {l : Int},l < n → Rises l n E → Rises l (n + 1) (E ++ [n])
 | [],l,h,_ => ⟨h,by omega,trivial⟩
 | x :: E,l,_,⟨h1,h2,h3⟩ => ⟨h1,by omega,rises_snoc h2 h3⟩
def front (T : List Bool) (k : Nat) : List Bool:=mapB (fun i => decide (i < k) && T.getD i false) T.length
theorem front_len {T : List Bool} {k : Nat} : (front T k).length = T.length:=mapB_len
theorem front_zero {T : List Bool} : front T 0 = List.replicate T.length false:=by
 apply List.ext_getElem
 ·simp [front,mapB]
 ·intro i h1 h2; simp [front,mapB]
theorem front_all {T : List Bool} : front T T.length = T:=by
 apply List.ext_getElem
 ·simp [front,mapB]
 ·intro i h1 h2
  simp [front,mapB,h2]
theorem front_step {T : List Bool} {k : Nat} (h : k < T.length) : (if T[k] then setB (front T k) (k : Int) true else front T k) = front T (k + 1):=by
 have hg : T.getD k false = T[k]:=by rw [List.getD_eq_getElem?_getD,List.getElem?_eq_getElem h]; rfl
 cases hb : T[k] with
 | true =>
  rw [if_pos rfl]
  unfold setB
  rw [if_pos (by rw [front_len]; omega),Int.toNat_natCast]
  refine mapB_set fun j hj => ?_
  by_cases hjk : j = k
  ·subst hjk; rw [if_pos rfl,hg,hb]; simp
  ·rw [if_neg hjk]
   congr 1
   exact decide_eq_decide.2 (by omega)
 | false =>
  rw [if_neg (by simp)]
  unfold front mapB
  refine List.map_congr_left fun j hj => ?_
  by_cases hjk : j = k
  ·subst hjk; rw [hg,hb]; simp
  ·congr 1
   exact decide_eq_decide.2 (by omega)
end Go.Abs
namespace Go.Proofs.YtejifalflkbekaaDoor
open Go Go.Abs Go.Proofs.YtejifalflkbekaaDoor.Bs
theorem bools_rd {p : Nat → Prop} {H : AH} {v : Value} {l : List Bool} (h : SlV p H v l) (h0 : 0 < l.length) : ∃ b off sp cap cs,v = .slice (some ⟨b,off,sp⟩) l.length cap ∧ H.cells b = some cs ∧ ∀ k (hk : k < l.length),cs[off + k]? = some (.bool l[k]):=by
 obtain ⟨b,off,sp,cap,cs,h1,h2,h3,h4,h5,h6⟩:=h.at h0
 refine ⟨b,off,sp,cap,cs,h1,h4,fun k hk => ?_⟩
 obtain ⟨c,q1,q2⟩:=h6 k hk
 have q2' : c = [.bool l[k]]:=q2
 subst q2'
 obtain ⟨_,_,_,q4⟩:=cut_spec q1
 have a:=q4 0 (by simp)
 simpa using a
def LkI (H0 H1 : AH) (q : Nat) (w : Value) (T : List Bool) (k : Nat) (env : Env) (H' : AH) : Prop :=
 env 4 = some (.pointer (some ⟨q,0,none⟩)) ∧ env 19 = some w ∧ env 20 = some (.int .i64 T.length) ∧ env 21 = some (.int .i64 k) ∧ WF H' ∧ Keep [q] H1 H' ∧
  ∃ sl,H'.blk q = some (.row [.int .i64 T.length,sl] T_bitset_Set true) ∧ SetB (fun b => H0.next ≤ b ∧ b ≠ q) H' (.agg #[.int .i64 T.length,sl]) (front T k)
def LkQ (H0 H1 : AH) (q : Nat) (T : List Bool) (e : AExit) (env : Env) (H' : AH) : Prop:=e = .exit 0 ∧ WF H' ∧ Keep [q] H1 H' ∧
  ∃ sl,H'.blk q = some (.row [.int .i64 T.length,sl] T_bitset_Set true) ∧ SetB (fun b => H0.next ≤ b ∧ b ≠ q) H' (.agg #[.int .i64 T.length,sl]) T
theorem setV {p : Nat → Prop} {H : AH} {v : Value} {B : List Bool} (h : SetB p H v B) : ∃ sl,v = .agg #[.int .i64 B.length,sl]:=let ⟨sl,h1,_⟩:=h; ⟨sl,h1⟩
theorem Bs.SetB.one {p : Nat → Prop} {H : AH} {n : Value} {sl : Value} {B : List Bool} (h : SetB p H (.agg #[n,sl]) B) : one sl = true ∧ cellsOf sl = some [sl]:=by
 obtain ⟨sl',h1,h2,_⟩:=h
 simp at h1
 rw [h1.2]
 exact h2.agg
theorem Bs.SetB.up2 {p q : Nat → Prop} {H H' : AH} {v : Value} {B : List Bool} (h : SetB p H v B) (hpq : ∀ b,p b → q b) (hs : Sub p H H') : SetB q H' v B:=by
 obtain ⟨sl,h1,h2,h3⟩:=h
 exact ⟨sl,h1,h2.sub hpq hs,h3⟩
theorem Bs.SetB.kept' {p : Nat → Prop} {H H' : AH} {v : Value} {B : List Bool} (h : SetB p H v B) (hw : WF H) (hk : Keep [] H H') : SetB p H' v B:=h.up2 (fun _ h => h) (.kept hw hk)
theorem lacks_l0 {H0 H1 : AH} {q : Nat} {w : Value} {T : List Bool} (h0 : H0.next ≤ q) (hq : q < H1.next) (hw : WF H1) (hT : SlV (fun b => b < H0.next) H1 w T) (hl : T.length ≤ 12) {env : Env} (h : LkI H0 H1 q w T 0 env H1) :
  wpC Tryd.prog 33 (.loop ir_law18_lacks_l0) (LkQ H0 H1 q T) env H1:=by
 refine loop_upto T.length (LkI H0 H1 q w T) (Q:=LkQ H0 H1 q T) h ?_
 rintro k env H' hk ⟨e4,e19,e20,e21,w',k',sl,hb,hs⟩
 have hn':=k'.next
 by_cases hkn : k < T.length
 ·have hT' : SlV (fun b => b < H0.next) H' w T:=hT.sub (.keep hw k' fun b hb => by simp at hb; omega)
  obtain ⟨b0,off,sp,cap,cs,rfl,q1,q2⟩:=bools_rd hT' (by omega)
  have q3:=q2 k hkn
  have hst:=front_step hkn
  have hc:=AH.cells_of hb
  cases hx : T[k] with
  | true =>
   rw [hx] at q3
   rw [hx,if_pos rfl] at hst
   simp (disch:=omega) [-getElem?_pos,if_pos,if_neg,decide_eq_true,decide_eq_false,ir_law18_lacks_l0,e4,e19,e20,e21,q1,q3,hkn,hc,cut]
   refine (With_spec hs (k : Int)).mono' fun u H2 w2 ⟨hs2,k2⟩ => ?_
   rw [hst] at hs2
   obtain ⟨s2,rfl⟩:=setV hs2
   rw [front_len] at hs2 ⊢
   have b2:=(k2.blk q (by omega) (by simp)).trans hb
   have n2:=k2.next
   simp (disch:=omega) [-getElem?_pos,if_pos,if_neg,decide_eq_true,decide_eq_false,writeA_row b2,over,hs2.one.1,hs2.one.2,e4,e21,IntWalk.i64_in]
   refine ⟨hkn,by simp [e4],by simp [e19],by simp [e20],by simp,w2.set (by omega),k'.trans' ((k2.mono (by simp)).trans' (.set (by simp))),s2,AH.set_blk_same,?_⟩
   refine hs2.up2 (fun b hb => ?_) (fun b hb cs hcs => ?_)
   ·rcases hb with hb | hb
    ·exact hb
    ·omega
   ·have : b ≠ q:=by
     rcases hb with hb | hb
     ·exact hb.2
     ·omega
    rw [AH.cells_set_ne this]; exact hcs
  | false =>
   rw [hx] at q3
   rw [hx,if_neg (by simp)] at hst
   rw [hst] at hs
   simp (disch:=omega) [-getElem?_pos,if_pos,if_neg,decide_eq_true,decide_eq_false,ir_law18_lacks_l0,e4,e19,e20,e21,q1,q3,hkn,IntWalk.i64_in]
   refine ⟨by simp [e4],by simp [e19],by simp [e20],by simp,w',k',sl,hb,hs⟩
 ·obtain rfl : k = T.length:=by omega
  rw [front_all] at hs
  simp (disch:=omega) [-getElem?_pos,if_pos,if_neg,decide_eq_true,decide_eq_false,ir_law18_lacks_l0,e20,e21]
  exact ⟨rfl,w',k',sl,hb,hs⟩
def LkP (H : AH) (T : List Bool) (u : Value) (H' : AH) : Prop:=∃ sv w,u = .tuple #[sv,w] ∧ SetB (fun b => H.next ≤ b ∧ b < H'.next) H' sv T ∧ SlV (fun b => b < H.next) H' w T ∧ Keep [] H H'
theorem setB_old {p : Nat → Prop} {H : AH} {v : Value} {B : List Bool} (hw : WF H) (h : SetB p H v B) : SetB (fun b => p b ∧ b < H.next) H v B:=by
 obtain ⟨sl,h1,h2,h3⟩:=h
 refine ⟨sl,h1,?_,h3⟩
 obtain ⟨q1,q2⟩:=h2
 refine ⟨q1,?_⟩
 rcases q2 with q | ⟨b,off,sp,cap,cs,r1,r2,r3,r4,r5,r6⟩
 ·exact .inl q
 ·exact .inr ⟨b,off,sp,cap,cs,r1,r2,r3,r4,r5,r6,cells_lt hw r4⟩
theorem lacks_spec {H : AH} {v : Value} {T0 : List Bool} (hT : SlV (fun b => b < H.next) H v T0) : AFn Tryd.prog F_law18_lacks [v] H (LkP H (T0.take 12)):=by
 refine AFn.enter mixed ir_law18_lacks_eq (by simp [ir_law18_lacks]) fun hw => ?_
 obtain ⟨H1,hH1⟩ : ∃ H1,H1 = H.alloc (.row [.int .i64 0,.slice none 0 0] T_bitset_Set true):=⟨_,rfl⟩
 have k1 : Keep [] H H1:=by rw [hH1]; exact .alloc
 have w1 : WF H1:=by rw [hH1]; exact hw.alloc
 have n1 : H1.next = H.next + 1:=by rw [hH1]; rfl
 have b1 : H1.blk H.next = some (.row [.int .i64 0,.slice none 0 0] T_bitset_Set true):=by rw [hH1]; exact AH.alloc_blk_new
 have hT1:=hT.kept hw k1
 obtain ⟨m,hm⟩ : ∃ m : Nat,m = min T0.length 12:=⟨_,rfl⟩
 obtain ⟨wv,hsl,hW⟩:=hT1.sl (m:=m) (by omega)
 have hmm : (if (12 : Int) < (T0.length : Int) then (12 : Int) else (T0.length : Int)) = (m : Int):=by split <;> omega
 have htm : T0.take m = T0.take 12:=by
  by_cases hc : 12 ≤ T0.length
  ·rw [show m = 12 by omega]
  ·rw [List.take_of_length_le (by omega),List.take_of_length_le (by omega)]
 rw [htm] at hW
 have hlen : (T0.take 12).length = m:=by rw [List.length_take]; omega
 generalize T0.take 12 = T at *
 clear htm
 obtain ⟨wa,wc,rfl⟩:=hW.slice
 obtain ⟨va,vc,rfl⟩:=hT1.slice
 simp only [sz_bool] at hsl
 simp (disch:=omega) [-getElem?_pos,if_pos,if_neg,decide_eq_true,decide_eq_false,ir_law18_lacks,↓ieval_slhi,hmm]
 rw [← hH1]
 simp (disch:=omega) [-getElem?_pos,if_pos,if_neg,decide_eq_true,decide_eq_false,hsl]
 have hnew:=New_spec (H:=H1) (T.length : Int) (by omega)
 refine hnew.mono' fun u H2 w2 ⟨sl,S,hu,ho,k2,hS⟩ => ?_
 subst hu
 have hok : nOk (T.length : Int) = T.length:=by unfold nOk sizeOk; rw [if_pos (decide_eq_true (by omega))]; omega
 rw [hok] at ho ⊢
 have n2:=k2.next
 have hSlt:=ho.lt w2
 have hone:=Bs.Own.one ho
 obtain ⟨sa,sc,rfl⟩:=ho.slice
 simp (disch:=omega) [-getElem?_pos,if_pos,if_neg,decide_eq_true,decide_eq_false,writeA,over]
 obtain ⟨H3,hH3⟩ : ∃ H3,H3 = H2.alloc (.row [.int .i64 T.length,.slice sa (nw T.length) sc] T_bitset_Set true):=⟨_,rfl⟩
 have k3 : Keep [] H2 H3:=by rw [hH3]; exact .alloc
 have w3 : WF H3:=by rw [hH3]; exact w2.alloc
 have n3 : H3.next = H2.next + 1:=by rw [hH3]; rfl
 have b3 : H3.blk H2.next = some (.row [.int .i64 T.length,.slice sa (nw T.length) sc] T_bitset_Set true):=by rw [hH3]; exact AH.alloc_blk_new
 rw [← hH3]
 have hs3 : SetB (fun b => H1.next ≤ b ∧ b ≠ H2.next) H3 (.agg #[.int .i64 T.length,.slice sa (nw T.length) sc]) (front T 0):=by
  rw [front_zero]
  refine ⟨.slice sa (nw T.length) sc,by simp,?_,by simp; omega⟩
  rw [List.length_replicate]
  exact (ho.kept w2 k3 (by simp)).vw fun b hb => ⟨by have:=hS b hb; omega,by have:=hSlt b hb; omega⟩
 have hW3 : SlV (fun b => b < H.next) H3 (.slice wa T.length wc) T:=(hW.kept w1 k2).kept w2 k3
 refine wpC_use (lacks_l0 (H0:=H1) (H1:=H3) (q:=H2.next) (w:=.slice wa T.length wc) (T:=T) (by omega) (by omega) w3 (hW3.mono fun b hb => by omega) (by omega) ⟨by simp,by simp,by simp,by simp,w3,.refl,_,b3,hs3⟩) ?_
 rintro e env2 H4 ⟨rfl,w4,k4,sl,b4,hs4⟩ hu
 have u4:=hu 4 (by decide)
 have u0:=hu 0 (by decide)
 have u2:=hu 2 (by decide)
 simp at u4 u0 u2
 have c4:=AH.cells_of b4
 have n4:=k4.next
 have b14 : H4.blk H.next = some (.row [.int .i64 0,.slice none 0 0] T_bitset_Set true):=by
  rw [k4.blk _ (by omega) (by simp; omega),k3.blk _ (by omega) (by simp),k2.blk _ (by omega) (by simp)]; exact b1
 simp (disch:=omega) [-getElem?_pos,if_pos,if_neg,decide_eq_true,decide_eq_false,u4,u0,u2,c4,cut,writeA_row b14,over,hs4.one.1,hs4.one.2]
 refine ⟨_,_,rfl,?_,?_,⟨by show H.next ≤ H4.next; omega,fun b hb _ => ?_⟩⟩
 ·have h5:=setB_old w4 hs4
  refine h5.up2 (fun b hb => ⟨by have:=hb.1.1; omega,hb.2⟩) (fun b hb cs hcs => ?_)
  rw [AH.cells_set_ne (by have:=hb.1.1; omega)]; exact hcs
 ·refine (hW3.sub (.keep w3 k4 fun b hb => by simp at hb; omega)).sub fun b hb cs hcs => ?_
  rw [AH.cells_set_ne (by omega)]; exact hcs
 ·rw [AH.set_blk_ne (by omega),k4.blk b (by omega) (by simp; omega),k3.blk b (by omega) (by simp),k2.blk b (by omega) (by simp),k1.blk b hb (by simp)]
end Go.Proofs.YtejifalflkbekaaDoor
