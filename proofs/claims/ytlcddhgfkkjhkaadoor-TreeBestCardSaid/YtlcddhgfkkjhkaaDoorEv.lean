/-
  package eval (1): rises, fits, parts.
-/
import Derived.Test.YtlcddhgfkkjhkaaDoorNu
import Derived.Test.YtlcddhgfkkjhkaaDoorLs
import Derived.Test.YtlcddhgfkkjhkaaDoorIrE
import Derived.Test.YtlcddhgfkkjhkaaDoorInst
import Derived.Test.YtlcddhgfkkjhkaaDoorBs

set_option maxRecDepth 100000
set_option linter.unusedSimpArgs false
set_option linter.unusedVariables false
namespace Go.Abs
open Go
def InstD.wt (x : InstD) (k : Int) : Int:=(x.items.getD k.toNat (0,0)).2
def InstD.val (x : InstD) (k : Int) : Int:=(x.items.getD k.toNat (0,0)).1
def InstD.setE (x : InstD) (k : Int) : SetD:=x.sets.getD k.toNat ⟨0,[]⟩
def InstD.costE (x : InstD) (i k : Int) : Int:=(x.cost.getD i.toNat []).getD k.toNat 0
def orderB (X : List Int) (n : Nat) : Bool:=decide (X.length = n) && (List.range n).all fun k => X.count (k : Int) == 1
def InstD.cov (x : InstD) (X : List Int) : Bool:=(List.range x.size.toNat).all fun e => X.any fun i => (x.setE i).elems.contains (e : Int)
noncomputable def InstD.may (x : InstD) (X : List Int) : Bool :=
 if x.kind = 0 then tr (Rises (-1) x.items.length X) && decide ((X.map x.wt).sum ≤ x.cap)
 else if x.kind = 1 then orderB X x.cost.length
 else if x.kind = 2 then orderB X x.cost.length && decide (X.getD 0 0 = 0)
 else tr (Rises (-1) x.sets.length X) && x.cov X
def InstD.part (x : InstD) (X : List Int) (i : Nat) : Int :=
 if x.kind = 0 then x.val (X.getD i 0)
 else if x.kind = 1 then x.costE i (X.getD i 0)
 else if x.kind = 2 then x.costE (X.getD i 0) (X.getD ((i + 1) % X.length) 0)
 else (x.setE (X.getD i 0)).cost
def InstD.parts (x : InstD) (X : List Int) : List Int:=(List.range X.length).map (x.part X)
noncomputable def InstD.valueE (x : InstD) (X : List Int) : Int:=if x.check = 0 then (if x.may X then 0 else 12) else x.check
noncomputable def InstD.value (x : InstD) (X : List Int) : Int:=if x.check = 0 then (if x.may X then (x.parts X).sum else 0) else 0
noncomputable def InstD.costOf (x : InstD) (X : List Int) : Int:=if x.kind = 0 then -x.value X else x.value X
theorem rises_range {last n : Int} : ∀ {l : List Int},Rises last n l → ∀ y ∈ l,last < y ∧ y < n
 | [],_,y,hy => by simp at hy
 | a :: l,⟨h1,h2,h3⟩,y,hy => by
  rcases List.mem_cons.1 hy with rfl | hy
  ·exact ⟨h1,h2⟩
  ·have:=rises_range h3 y hy; omega
theorem rises_len {last n : Int} : ∀ {l : List Int},Rises last n l → last ≤ n → (l.length : Int) ≤ n - last - 1 ∨ l = []
 | [],_,_ => .inr rfl
 | a :: l,⟨h1,h2,h3⟩,h => by
  left
  rcases rises_len h3 (by omega) with h4 | rfl
  ·simp; omega
  ·simp; omega
end Go.Abs
namespace Go.Proofs.YtlcddhgfkkjhkaaDoor
open Go Go.Abs
theorem push_i64e {ty : Nat} {H H1 : AH} {v : Value} {L : List Int} {S : List Nat} (hw : WF H1) (hA : OwnL (fun _ => False) H1 ty v L S) (hk : Keep [] H H1) (hS : ∀ b ∈ S,H.next ≤ b) {a : Int} (ha : I64 a) (hl : L.length ≤ 100000) :
  ∃ va vc H2 S',appendA (H1.alloc (.row [.int .i64 a] ty true)) ty 1 8 v 1 [.int .i64 a] = some (.slice va (L.length + 1) vc,H2) ∧ WF H2 ∧ OwnL (fun _ => False) H2 ty (.slice va (L.length + 1) vc) (L ++ [a]) S' ∧ Keep [] H H2 ∧ (∀ b ∈ S',H.next ≤ b) ∧ Keep S H1 H2 ∧ ∀ b ∈ S',b ∈ S ∨ H1.next ≤ b:=by
 obtain ⟨va,vc,Hd,S',p1,hA',kd,wd,i1⟩:=hA.push (q:=fun _ => False) hw (cs:=[.int .i64 a]) (a:=a) ⟨rfl,ha⟩ ty 8 (fun _ h => h) (fun b hb => hb.elim) (by simp) (by omega) (by omega)
 have hn:=hk.next
 refine ⟨va,vc,Hd,S',p1,wd,hA',hk.trans kd (fun b hb hlt => by have:=hS b hb; omega),fun b hb => ?_,kd,i1⟩
 rcases i1 b hb with h | h
 ·exact hS b h
 ·omega
def RiI (H : AH) (v : Value) (X : List Int) (n : Int) (k : Nat) (env : Env) (H' : AH) : Prop :=
 H' = H ∧ env 1 = some (.int .i64 n) ∧ env 8 = some v ∧ env 9 = some (.int .i64 X.length) ∧ env 10 = some (.int .i64 k) ∧ env 5 = some (.int .i64 (if k = 0 then -1 else X.getD (k - 1) 0)) ∧
  ∀ j (h : j < X.length),j < k → (if j = 0 then -1 else X.getD (j - 1) 0) < X[j] ∧ X[j] < n
def RiQ (H : AH) (X : List Int) (n : Int) (e : AExit) (env : Env) (H' : AH) : Prop :=
 H' = H ∧ ((e = .exit 0 ∧ Rises (-1) n X) ∨ (e = .ret ∧ env 4 = some (.bool false) ∧ ¬ Rises (-1) n X))
theorem rises_spec {p : Nat → Prop} {H : AH} {v : Value} {X : List Int} {n : Int} (hX : SlV p H v X) : AFn Tryd.prog F_eval_rises [v,.int .i64 n] H fun u H' => u = .bool (tr (Rises (-1) n X)) ∧ H' = H:=by
 have hmax:=hX.max
 obtain ⟨va,vc,rfl⟩:=hX.slice
 refine AFn.enter mixed ir_eval_rises_eq (by simp [ir_eval_rises]) fun hw => ?_
 simp (disch:=omega) [-getElem?_pos,if_pos,if_neg,decide_eq_true,decide_eq_false,ir_eval_rises]
 refine wpC_use (loop_upto X.length (RiI H (.slice va X.length vc) X n) (Q:=RiQ H X n) ⟨rfl,by simp,by simp,by simp,by simp,by simp,by omega⟩ ?_) ?_
 ·rintro k env H' hk ⟨rfl,e1,e8,e9,e10,e5,hj⟩
  by_cases hkn : k < X.length
  ·obtain ⟨b0,off,sp,cap,cs,hcv,q1,q2⟩:=ints_rd hX (by omega)
   obtain ⟨q3,q4⟩:=q2 k hkn
   cases hcv
   have hg : X[k]?.getD 0 = X[k]:=by simp [hkn]
   have key : X[k] < n → ((if k = 0 then -1 else X.getD (k - 1) 0) < X[k]) → ∀ j (h : j < X.length),j < k + 1 → (if j = 0 then -1 else X.getD (j - 1) 0) < X[j] ∧ X[j] < n:=fun g1 g2 j hjn hjk => by
    by_cases hjk' : j = k
    ·subst hjk'; exact ⟨g2,g1⟩
    ·exact hj j hjn (by omega)
   have bad : ¬ ((if k = 0 then -1 else X.getD (k - 1) 0) < X[k] ∧ X[k] < n) → ¬ Rises (-1) n X:=fun hb hR => hb (rises_get.1 hR k hkn)
   generalize X[k] = z at *
   generalize (if k = 0 then (-1 : Int) else X.getD (k - 1) 0) = last at *
   by_cases h1 : z ≤ last
   ·simp (disch:=omega) [-getElem?_pos,if_pos,if_neg,decide_eq_true,decide_eq_false,ir_eval_rises_l0,e1,e5,e8,e9,e10,q1,q3,h1,IntWalk.i64_in]
    exact ⟨rfl,.inr ⟨rfl,by simp,bad (by omega)⟩⟩
   ·by_cases h2 : z ≥ n
    ·simp (disch:=omega) [-getElem?_pos,if_pos,if_neg,decide_eq_true,decide_eq_false,ir_eval_rises_l0,e1,e5,e8,e9,e10,q1,q3,h1,h2,IntWalk.i64_in]
     exact ⟨rfl,.inr ⟨rfl,by simp,bad (by omega)⟩⟩
    ·simp (disch:=omega) [-getElem?_pos,if_pos,if_neg,decide_eq_true,decide_eq_false,ir_eval_rises_l0,e1,e5,e8,e9,e10,q1,q3,h1,h2,IntWalk.i64_in]
     exact ⟨hkn,rfl,by simp [e1],by simp [e8],by simp [e9],by simp,by simp [hg],key (by omega) (by omega)⟩
  ·obtain rfl : k = X.length:=by omega
   simp (disch:=omega) [-getElem?_pos,if_pos,if_neg,decide_eq_true,decide_eq_false,ir_eval_rises_l0,e1,e9,e10]
   exact ⟨rfl,.inl ⟨rfl,rises_get.2 fun j h => hj j h h⟩⟩
 ·rintro e env2 H' ⟨rfl,⟨rfl,hR⟩ | ⟨rfl,e4,hR⟩⟩ hu
  ·rw [tr_true hR]
   simp (disch:=omega) [-getElem?_pos,if_pos,if_neg,decide_eq_true,decide_eq_false,]
  ·rw [tr_false hR]
   simp (disch:=omega) [-getElem?_pos,if_pos,if_neg,decide_eq_true,decide_eq_false,e4]
def FiI (H1 : AH) (q : Nat) (v : Value) (X : List Int) (L : List Int) (k : Nat) (env : Env) (H' : AH) : Prop :=
 env 2 = some (.pointer (some ⟨q,0,none⟩)) ∧ env 10 = some v ∧ env 11 = some (.int .i64 X.length) ∧ env 12 = some (.int .i64 k) ∧ WF H' ∧ Keep [] H1 H' ∧
  ∃ ov S,env 5 = some ov ∧ OwnL (fun _ => False) H' T_int64 ov (L.take k) S ∧ ∀ b ∈ S,H1.next ≤ b
def FiQ (H1 : AH) (q : Nat) (L : List Int) (e : AExit) (env : Env) (H' : AH) : Prop :=
 e = .exit 0 ∧ env 2 = some (.pointer (some ⟨q,0,none⟩)) ∧ WF H' ∧ Keep [] H1 H' ∧ ∃ ov,env 5 = some ov ∧ SlV (fun _ => True) H' ov L
theorem fits_l0 {H1 : AH} {q : Nat} {x : InstD} {iv cv sv v : Value} {X : List Int} (hw1 : WF H1) (hq : H1.cells q = some (instC x iv cv sv)) (hi : SlV (fun _ => True) H1 iv x.items) (hX : SlV (fun _ => True) H1 v X) (hR : Rises (-1) x.items.length X) (hl : x.items.length ≤ 4096) {env : Env} (h : FiI H1 q v X (X.map x.wt) 0 env H1) :
  wpC Tryd.prog 38 (.loop ir_eval_fits_l0) (FiQ H1 q (X.map x.wt)) env H1:=by
 refine loop_upto X.length (FiI H1 q v X (X.map x.wt)) (Q:=FiQ H1 q (X.map x.wt)) h ?_
 have hXl : X.length ≤ 4096:=by
  rcases rises_len hR (by omega) with h | h
  ·omega
  ·rw [h]; simp
 rintro k env H' hk ⟨e2,e10,e11,e12,w',k',ov,S,e5,hA,hS⟩
 by_cases hkn : k < X.length
 ·obtain ⟨b0,off,sp,cap,cs,hcv,q1,q2⟩:=ints_rd (hX.kept hw1 k') (by omega)
  obtain ⟨q3,q4⟩:=q2 k hkn
  subst hcv
  have hr:=rises_range hR X[k] (List.getElem_mem _)
  obtain ⟨N,hN⟩ : ∃ N : Nat,X[k] = N:=⟨X[k].toNat,by omega⟩
  have hNl : N < x.items.length:=by omega
  obtain ⟨b1,off1,sp1,cap1,cs1,hcv1,r1,r2⟩:=pairs_rd (hi.kept hw1 k') (by omega)
  obtain ⟨r3,r4,r5,r6,r7⟩:=r2 N hNl
  subst hcv1
  have hwt : x.wt X[k] = x.items[N].2:=by rw [hN]; unfold InstD.wt; simp [hNl]
  have ht : (X.map x.wt).take (k + 1) = (X.map x.wt).take k ++ [x.items[N].2]:=by rw [List.take_succ_eq_append_getElem (by simpa using hkn),List.getElem_map,hwt]
  have hlk : ((X.map x.wt).take k).length = k:=by simp; omega
  rw [hN] at q3
  have cq:=cells_kept hw1 k' hq
  obtain ⟨oa,oc,rfl⟩:=hA.slice
  obtain ⟨va,vc,H2,S',p1,w2,hA',k2,hS',_⟩:=push_i64e w' hA k' hS r7 (by rw [hlk]; omega)
  rw [← ht] at hA'
  rw [hlk] at p1 hA' e5
  generalize x.items[N].2 = w at *
  have pE : elemsA (H'.alloc (.row [.int .i64 w] T_int64 true)) 1 (.slice (some ⟨H'.next,0,none⟩) 1 1) = some [.int .i64 w]:=elems_one rfl
  simp (disch:=omega) [-getElem?_pos,if_pos,if_neg,decide_eq_true,decide_eq_false,ir_eval_fits_l0,e2,e5,e10,e11,e12,q1,q3,cq,instC,r1,r5,hNl,hkn,pE,p1,IntWalk.i64_in]
  exact ⟨by simp [e2],by simp [e10],by simp [e11],by simp,w2,k2,_,S',by simp,hA',hS'⟩
 ·obtain rfl : k = X.length:=by omega
  simp (disch:=omega) [-getElem?_pos,if_pos,if_neg,decide_eq_true,decide_eq_false,ir_eval_fits_l0,e11,e12]
  rw [List.take_of_length_le (by simp)] at hA
  exact ⟨rfl,e2,w',k',ov,e5,hA.slv (fun _ h => h.elim) (fun _ _ => trivial) (by simp; omega)⟩
theorem sum_leE {L : List Int} {c : Int} (h : ∀ y ∈ L,0 ≤ y ∧ y ≤ c) : 0 ≤ L.sum ∧ L.sum ≤ L.length * c:=by
 induction L with
 | nil => simp
 | cons a l ih =>
  have h1:=h a (by simp)
  have h2:=ih fun y hy => h y (by simp [hy])
  rw [List.sum_cons,List.length_cons]
  have : ((l.length + 1 : Nat) : Int) * c = l.length * c + c:=by rw [Int.natCast_add,Int.add_mul]; simp
  rw [this]; omega
theorem sum_absE {L : List Int} (h : ∀ y ∈ L,-2147483648 ≤ y ∧ y ≤ 2147483648) : -(L.length * 2147483648 : Int) ≤ L.sum ∧ L.sum ≤ L.length * 2147483648:=by
 induction L with
 | nil => simp
 | cons a l ih =>
  have h1:=h a (by simp)
  have h2:=ih fun y hy => h y (by simp [hy])
  rw [List.sum_cons,List.length_cons]
  omega
theorem fits_spec {H : AH} {v w : Value} {x : InstD} {X : List Int} (hx : InstV (fun _ => True) H v x) (hX : SlV (fun _ => True) H w X) (hok : x.Ok) (hR : Rises (-1) x.items.length X) : AFn Tryd.prog F_eval_fits [v,w] H fun u H' => u = .bool (decide ((X.map x.wt).sum ≤ x.cap)) ∧ H' = H:=by
 refine AFn.calm (fun H0 hs => ?_) rfl
 have hx0:=hx.same hs
 have hX0:=hX.same hs
 obtain ⟨iv,cv,sv,rfl,i1,i2,i3,h1,h2,h3⟩:=id hx0
 obtain ⟨wa,wc,rfl⟩:=hX.slice
 have hm:=hX.max
 have hfi:=hok.few.items
 have hsm:=hok.small.items
 refine AFn.enter mixed ir_eval_fits_eq (by simp [ir_eval_fits]) fun hw => ?_
 have bc : (H0.alloc (.row (instC x iv cv sv) T_inst_Inst true)).cells H0.next = some (instC x iv cv sv):=AH.cells_alloc_new
 have k1 : Keep [] H0 (H0.alloc (.row (instC x iv cv sv) T_inst_Inst true)):=.alloc
 have w1:=WF.alloc hw (B:=.row (instC x iv cv sv) T_inst_Inst true)
 have hX1:=hX0.kept hw k1
 have hi1:=h1.kept hw k1
 generalize hq : H0.next = q at *
 simp (disch:=omega) [-getElem?_pos,if_pos,if_neg,decide_eq_true,decide_eq_false,ir_eval_fits,hq,inst_cut]
 generalize H0.alloc (.row (instC x iv cv sv) T_inst_Inst true) = H1 at *
 refine wpC_use (fits_l0 w1 bc hi1 hX1 hR hfi ⟨by simp,by simp,by simp,by simp,w1,.refl,.slice none 0 0,[],by simp,by simpa using OwnL.nil,by simp⟩) ?_
 rintro e env2 H2 ⟨rfl,e2,w2,k2,ov,e5,hS⟩ hu
 have hXl : X.length ≤ 4096:=by
  rcases rises_len hR (by omega) with h | h
  ·omega
  ·rw [h]; simp
 have hb:=sum_leE (L:=X.map x.wt) (c:=2147483648) fun y hy => by
  obtain ⟨z,hz,rfl⟩:=List.mem_map.1 hy
  have hr:=rises_range hR z hz
  have hl : z.toNat < x.items.length:=by omega
  have:=(hsm z.toNat hl).2
  unfold InstD.wt
  rw [List.getD_eq_getElem?_getD,List.getElem?_eq_getElem hl]
  exact this
 have hfit : fitsI (X.map x.wt).sum = true:=by unfold fitsI; simp at hb ⊢; omega
 have hsh : shortI (X.map x.wt).sum = (X.map x.wt).sum:=by unfold shortI; rw [if_pos hfit]
 have cq:=cells_kept w1 k2 bc
 have hs:=Sum_spec (H:=H2) hS (by simp; omega)
 rw [hfit,hsh] at hs
 generalize (X.map x.wt).sum = s at *
 clear hb hfit hsh
 simp (disch:=omega) [-getElem?_pos,if_pos,if_neg,decide_eq_true,decide_eq_false,e2,e5]
 refine AFn.pure hs ?_
 simp (disch:=omega) [-getElem?_pos,if_pos,if_neg,decide_eq_true,decide_eq_false,e2,cq,instC]
end Go.Proofs.YtlcddhgfkkjhkaaDoor

set_option maxRecDepth 100000
namespace Go.Abs
open Go
theorem all_count {B : List Bool} : B.count true = B.length ↔ ∀ j,j < B.length → B.getD j false = true:=by
 rw [List.count_eq_length]
 constructor
 ·intro h j hj
  rw [List.getD_eq_getElem?_getD,List.getElem?_eq_getElem hj]
  exact (h _ (List.getElem_mem hj)).symm
 ·intro h b hb
  obtain ⟨j,hj,rfl⟩:=List.getElem_of_mem hb
  have:=h j hj
  rw [List.getD_eq_getElem?_getD,List.getElem?_eq_getElem hj] at this
  exact this.symm
theorem orderB_iff {X : List Int} {n : Nat} : orderB X n = true ↔ X.length = n ∧ ∀ k,k < n → X.count (k : Int) = 1:=by
 simp [orderB]
theorem count_mem {X : List Int} {j : Int} : j ∈ X ↔ 0 < X.count j:=List.count_pos_iff.symm
theorem order_range : ∀ (n : Nat) {X : List Int},X.length = n → (∀ k,k < n → X.count (k : Int) = 1) → ∀ y ∈ X,0 ≤ y ∧ y < n
 | 0,X,hl,_,y,hy => by rw [List.eq_nil_of_length_eq_zero hl] at hy; simp at hy
 | n + 1,X,hl,h,y,hy => by
  have hm : ((n : Nat) : Int) ∈ X:=count_mem.2 (by rw [h n (by omega)]; omega)
  have h1:=order_range n (X:=X.erase n) (by rw [List.length_erase_of_mem hm,hl]; rfl) fun k hk => by
   rw [List.count_erase_of_ne (by simp; omega)]
   exact h k (by omega)
  by_cases hyn : y = n
  ·subst hyn; omega
  ·have:=h1 y ((List.mem_erase_of_ne hyn).2 hy)
   omega
end Go.Abs
namespace Go.Proofs.YtlcddhgfkkjhkaaDoor
open Go Go.Abs
def OdS (H1 : AH) (q n : Nat) (P : Nat → Prop) (H' : AH) : Prop :=
 WF H' ∧ Keep [] H1 H' ∧ q < H'.next ∧ ∃ sl B,H'.blk q = some (.row [.int .i64 n,sl] T_bitset_Set true) ∧ Bs.SetB (fun b => b ≠ q) H' (.agg #[.int .i64 n,sl]) B ∧ B.length = n ∧ ∀ j,j < n → (B.getD j false = true ↔ P j)
theorem OdS.congr {H1 H' : AH} {q n : Nat} {P Q : Nat → Prop} (h : OdS H1 q n P H') (hPQ : ∀ j,j < n → (P j ↔ Q j)) : OdS H1 q n Q H':=by
 obtain ⟨a1,a2,a3,sl3,B3,a4,a5,a6,a7⟩:=h
 exact ⟨a1,a2,a3,sl3,B3,a4,a5,a6,fun j hj => (a7 j hj).trans (hPQ j hj)⟩
theorem set_with {H1 H' : AH} {q n : Nat} {P : Nat → Prop} (hq : H1.next ≤ q) (h : OdS H1 q n P H') {sl u : Value} {B : List Bool} {H2 : AH} {z : Int} (hb : H'.blk q = some (.row [.int .i64 n,sl] T_bitset_Set true)) (hB : B.length = n) (hP : ∀ j,j < n → (B.getD j false = true ↔ P j)) (w2 : WF H2) (hu : Bs.SetB (up (fun b => b ≠ q) H'.next) H2 u (Bs.setB B z true)) (k2 : Keep [] H' H2) :
  ∃ sl2,u = .agg #[.int .i64 n,sl2] ∧ writeA H2 q 0 [.int .i64 n,sl2] = some (H2.set q (.row [.int .i64 n,sl2] T_bitset_Set true)) ∧ OdS H1 q n (fun j => P j ∨ (j : Int) = z) (H2.set q (.row [.int .i64 n,sl2] T_bitset_Set true)):=by
 obtain ⟨w',k',hqn,_⟩:=h
 obtain ⟨sl2,rfl,v2,l2⟩:=id hu
 have hlen : (Bs.setB B z true).length = n:=by unfold Bs.setB; split <;> simp [hB]
 have hb2 : H2.blk q = some (.row [.int .i64 n,sl] T_bitset_Set true):=by rw [k2.blk q hqn (by simp)]; exact hb
 have n2:=k2.next
 refine ⟨sl2,by rw [hlen],?_,w2.set (by omega),.new_set hq (k'.trans' k2),by simp; omega,sl2,Bs.setB B z true,AH.set_blk_same,?_,hlen,fun j hj => ?_⟩
 ·rw [writeA_of (off:=0) (news:=[Value.int .i64 n,sl2]) hb2 (by simp)]; rfl
 ·have h3 : Bs.SetB (fun b => b ≠ q) H2 (.agg #[.int .i64 (Bs.setB B z true).length,sl2]) (Bs.setB B z true):=hu.mono fun b hb => by rcases hb with h | h; exact h; omega
  rw [hlen] at h3
  exact h3.over fun b hb => AH.cells_set_ne hb
 ·unfold Bs.setB
  by_cases hz : 0 ≤ z ∧ z < (B.length : Int)
  ·rw [if_pos hz,getD_set _ _ _ _ (by omega)]
   by_cases hjz : j = z.toNat
   ·rw [if_pos hjz]; simp; right; omega
   ·rw [if_neg hjz,hP j hj]
    constructor
    ·exact .inl
    ·rintro (h | h)
     ·exact h
     ·omega
  ·rw [if_neg hz,hP j hj]
   constructor
   ·exact .inl
   ·rintro (h | h)
    ·exact h
    ·omega
def EoI (H1 : AH) (q n : Nat) (v : Value) (X : List Int) (k : Nat) (env : Env) (H' : AH) : Prop :=
 env 0 = some v ∧ env 1 = some (.int .i64 n) ∧ env 5 = some (.pointer (some ⟨q,0,none⟩)) ∧ env 6 = some (.int .i64 0) ∧ env 14 = some v ∧ env 15 = some (.int .i64 X.length) ∧ env 16 = some (.int .i64 k) ∧ OdS H1 q n (fun j => (j : Int) ∈ X.take k) H' ∧ ∀ j,j < n → (X.take k).count (j : Int) ≤ 1
def EoQ (H1 : AH) (q n : Nat) (v : Value) (X : List Int) (e : AExit) (env : Env) (H' : AH) : Prop :=
 (e = .ret ∧ env 4 = some (.bool false) ∧ orderB X n = false) ∨
 (e = .exit 0 ∧ env 0 = some v ∧ env 1 = some (.int .i64 n) ∧ env 5 = some (.pointer (some ⟨q,0,none⟩)) ∧ env 6 = some (.int .i64 0) ∧ OdS H1 q n (fun j => (j : Int) ∈ X) H' ∧ ∀ j,j < n → X.count (j : Int) ≤ 1)
theorem order_l0 {H1 : AH} {q n : Nat} {v : Value} {X : List Int} (hw1 : WF H1) (hqn : H1.next ≤ q) (hX : SlV (fun _ => True) H1 v X) {env : Env} {H0 : AH} (h : EoI H1 q n v X 0 env H0) : wpC Tryd.prog 41 (.loop ir_eval_order_l0) (EoQ H1 q n v X) env H0:=by
 refine loop_upto X.length (EoI H1 q n v X) (Q:=EoQ H1 q n v X) h ?_
 have hmax:=hX.max
 rintro k env H' hk ⟨e0,e1,e5,e6,e14,e15,e16,hS,hc⟩
 by_cases hkn : k < X.length
 ·obtain ⟨w',k',hqn',sl,B,hb,hSB,hBl,hP⟩:=id hS
  obtain ⟨b0,off,sp,cap,cs,hcv,q1,q2⟩:=ints_rd (hX.kept hw1 k') (by omega)
  obtain ⟨q3,q4⟩:=q2 k hkn
  subst hcv
  have cb:=AH.cells_of hb
  have ht:=List.take_succ_eq_append_getElem hkn
  have hmem : X[k] ∈ X:=List.getElem_mem _
  have hcnt : ∀ j : Int,(X.take (k + 1)).count j = (X.take k).count j + (if X[k] = j then 1 else 0):=fun j => by
   rw [ht,List.count_append,List.count_singleton]
   simp
  have hle : ∀ j : Int,(X.take (k + 1)).count j ≤ X.count j:=fun j => List.Sublist.count_le j (List.take_sublist _ _)
  have hmt : ∀ j : Int,j ∈ X.take (k + 1) ↔ j ∈ X.take k ∨ j = X[k]:=fun j => by rw [ht,List.mem_append,List.mem_singleton]
  generalize X[k] = z at *
  have hHas:=Bs.Has_spec hSB z
  have hWith:=Bs.With_spec hSB z
  have hcut : cut [Value.int .i64 n,sl] 0 2 = some [.int .i64 n,sl]:=by simp [cut]
  simp (disch:=omega) [-getElem?_pos,if_pos,if_neg,decide_eq_true,decide_eq_false,ir_eval_order_l0,e0,e1,e5,e6,e14,e15,e16,q1,q3,cb,hcut]
  refine AFn.pure hHas ?_
  by_cases hh : Bs.hasB B z = true
  ·rw [hh]
   simp (disch:=omega) [-getElem?_pos,if_pos,if_neg,decide_eq_true,decide_eq_false,]
   unfold Bs.hasB at hh
   simp only [Bool.and_eq_true,decide_eq_true_eq] at hh
   have hzl:=Bs.getD_len hh.2
   have hin : ((z.toNat : Nat) : Int) ∈ X.take k:=(hP z.toNat (by omega)).1 hh.2
   rw [show ((z.toNat : Nat) : Int) = z by omega] at hin
   left
   refine ⟨rfl,by simp,?_⟩
   rw [Bool.eq_false_iff]
   intro ho
   have h1:=(orderB_iff.1 ho).2 z.toNat (by omega)
   rw [show ((z.toNat : Nat) : Int) = z by omega] at h1
   have h2:=hle z
   have h3:=hcnt z
   have h4:=count_mem.1 hin
   simp at h3
   omega
  ·have hh' : Bs.hasB B z = false:=by simpa using hh
   rw [hh']
   simp (disch:=omega) [-getElem?_pos,if_pos,if_neg,decide_eq_true,decide_eq_false,e5,cb,hcut]
   refine hWith.mono' fun u H2 w2 ⟨hu,k2⟩ => ?_
   obtain ⟨sl2,rfl,wr,hS2⟩:=set_with hqn hS hb hBl hP w2 hu k2
   simp (disch:=omega) [-getElem?_pos,if_pos,if_neg,decide_eq_true,decide_eq_false,e5,e16,wr,IntWalk.i64_in]
   refine ⟨hkn,by simp [e0],by simp [e1],by simp [e5],by simp [e6],by simp [e14],by simp [e15],by simp,?_,fun j hj => ?_⟩
   ·exact hS2.congr fun j hj => (hmt j).symm
   ·rw [hcnt]
    split
    ·rename_i hzj
     have : (X.take k).count (j : Int) = 0:=by
      apply Classical.byContradiction
      intro hne
      have hin:=count_mem.2 (Nat.pos_of_ne_zero hne)
      have h5:=(hP j hj).2 hin
      rw [hzj] at hh
      apply hh
      unfold Bs.hasB
      simp only [Bool.and_eq_true,decide_eq_true_eq]
      exact ⟨by omega,by simpa using h5⟩
     omega
    ·exact hc j hj
 ·obtain rfl : k = X.length:=by omega
  rw [List.take_length] at hS hc
  simp (disch:=omega) [-getElem?_pos,if_pos,if_neg,decide_eq_true,decide_eq_false,ir_eval_order_l0,e15,e16]
  exact .inr ⟨rfl,e0,e1,e5,e6,hS,hc⟩
theorem order_fin {X : List Int} {n : Nat} {B : List Bool} (hB : B.length = n) (hP : ∀ j,j < n → (B.getD j false = true ↔ (j : Int) ∈ X)) (hc : ∀ j,j < n → X.count (j : Int) ≤ 1) : orderB X n = (decide (X.length = n) && decide (B.count true = n)):=by
 by_cases hl : X.length = n
 ·have : orderB X n = true ↔ B.count true = n:=by
   rw [orderB_iff]
   conv => rhs; rhs; rw [← hB]
   rw [all_count,hB]
   constructor
   ·rintro ⟨_,h⟩ j hj
    exact (hP j hj).2 (count_mem.2 (by rw [h j hj]; omega))
   ·intro h
    refine ⟨hl,fun k hk => ?_⟩
    have h1:=count_mem.1 ((hP k hk).1 (h k hk))
    have h2:=hc k hk
    omega
  cases ho : orderB X n with
  | true => simp [hl,this.1 ho]
  | false =>
   have : ¬ B.count true = n:=fun h => by rw [this.2 h] at ho; cases ho
   simp [this]
 ·have : orderB X n = false:=by
   rw [Bool.eq_false_iff]; intro h; exact hl (orderB_iff.1 h).1
  rw [this]; simp [hl]
theorem order_spec' {p : Nat → Prop} {H : AH} {v : Value} {X : List Int} {n : Nat} (hX : SlV p H v X) (hn : n ≤ 4096) : AFn Tryd.prog F_eval_order [v,.int .i64 n] H fun u H' => u = .bool (orderB X n) ∧ H' = H:=by
 refine AFn.calm (fun H0 hs => ?_) rfl
 have hX0:=(hX.same hs).any
 obtain ⟨va,vc,rfl⟩:=hX.slice
 have hm:=hX.max
 refine AFn.enter mixed ir_eval_order_eq (by simp [ir_eval_order]) fun hw => ?_
 have hok : Bs.sizeOk n = true:=by unfold Bs.sizeOk; simp; omega
 have hno : Bs.nOk n = n:=by unfold Bs.nOk; rw [hok]; simp
 have heo : Bs.eOk n = 0:=by unfold Bs.eOk; rw [hok]; rfl
 simp (disch:=omega) [-getElem?_pos,if_pos,if_neg,decide_eq_true,decide_eq_false,ir_eval_order]
 refine (Bs.New_spec (n : Int) ⟨by omega,by omega⟩).mono' fun u H2 w2 ⟨sl,S,hu,ho,k2,hS⟩ => ?_
 rw [hno,heo] at hu
 rw [hno] at ho
 subst hu
 have n2:=k2.next
 have hone:=Bs.Own.one ho
 have hset : Bs.SetB (fun b => b < H2.next) H2 (.agg #[.int .i64 n,sl]) (List.replicate n false):=by
  have h0 : Bs.SetO H2 (.agg #[.int .i64 n,sl]) n (words (List.replicate n false)) S:=⟨sl,rfl,ho,hone⟩
  exact h0.setB (by simp) rfl (by omega) fun b hb => ho.lt w2 b hb
 have hsc : cellsOf sl = some [sl]:=by obtain ⟨a,c,rfl⟩:=ho.slice; simp
 simp (disch:=omega) [-getElem?_pos,if_pos,if_neg,decide_eq_true,decide_eq_false,hone,hsc,writeA,over]
 generalize hH3 : AH.alloc H2 _ = H3
 have k3 : Keep [] H2 H3:=by rw [← hH3]; exact .alloc
 have w3 : WF H3:=by rw [← hH3]; exact w2.alloc
 have n3 : H3.next = H2.next + 1:=by rw [← hH3]; simp
 have b3 : H3.blk H2.next = some (.row [.int .i64 n,sl] T_bitset_Set true):=by rw [← hH3]; simp
 clear hH3
 have hset3:=(hset.kept w2 k3).mono (q:=fun b => b ≠ H2.next) fun b hb => by omega
 refine wpC_use (order_l0 (H1:=H2) (q:=H2.next) (n:=n) (X:=X) w2 (Nat.le_refl _) (hX0.kept hw k2) ⟨by simp,by simp,by simp,by simp,by simp,by simp,by simp,⟨w3,k3,by omega,sl,List.replicate n false,b3,hset3,by simp,fun j hj => by simp [hj]⟩,by simp⟩) ?_
 rintro e env2 H4 (⟨rfl,e4,hf⟩ | ⟨rfl,e0,e1,e5,e6,⟨w4,k4,_,sl4,B,b4,hS4,hBl,hP⟩,hc⟩) hu
 ·rw [hf]
  simp (disch:=omega) [-getElem?_pos,if_pos,if_neg,decide_eq_true,decide_eq_false,e4]
 ·have hfin:=order_fin hBl hP hc
  have c4:=AH.cells_of b4
  have hcut : cut [Value.int .i64 n,sl4] 0 2 = some [.int .i64 n,sl4]:=by simp [cut]
  have hCnt:=Bs.Count_spec hS4
  rw [hfin]
  generalize B.count true = cB at *
  generalize X.length = lX at *
  by_cases hl : lX = n
  ·have hlT : ((lX : Int) = (n : Int)) = True:=eq_true (by omega)
   rw [decide_eq_true hl]
   simp (disch:=omega) [-getElem?_pos,if_pos,if_neg,decide_eq_true,decide_eq_false,e0,e1,e5,e6,c4,hcut,hlT]
   refine AFn.pure hCnt ?_
   simp (disch:=omega) [-getElem?_pos,if_pos,if_neg,decide_eq_true,decide_eq_false,e1]
   omega
  ·have hlF : ((lX : Int) = (n : Int)) = False:=eq_false (by omega)
   rw [decide_eq_false hl]
   simp (disch:=omega) [-getElem?_pos,if_pos,if_neg,decide_eq_true,decide_eq_false,e0,e1,e5,e6,c4,hcut,hlF]
def Cv0I (H1 : AH) (q qx n : Nat) (v ev : Value) (lX : Nat) (kk : Nat) (P : Nat → Prop) (E : List Int) (k : Nat) (env : Env) (H' : AH) : Prop :=
 env 2 = some (.pointer (some ⟨qx,0,none⟩)) ∧ env 5 = some (.pointer (some ⟨q,0,none⟩)) ∧ env 17 = some v ∧ env 18 = some (.int .i64 lX) ∧ env 19 = some (.int .i64 kk) ∧ env 28 = some ev ∧ env 29 = some (.int .i64 E.length) ∧ env 30 = some (.int .i64 k) ∧ OdS H1 q n (fun j => P j ∨ (j : Int) ∈ E.take k) H'
def Cv0Q (H1 : AH) (q qx n : Nat) (v : Value) (lX : Nat) (kk : Nat) (P : Nat → Prop) (E : List Int) (e : AExit) (env : Env) (H' : AH) : Prop :=
 e = .exit 2 ∧ env 2 = some (.pointer (some ⟨qx,0,none⟩)) ∧ env 5 = some (.pointer (some ⟨q,0,none⟩)) ∧ env 17 = some v ∧ env 18 = some (.int .i64 lX) ∧ env 19 = some (.int .i64 kk) ∧ OdS H1 q n (fun j => P j ∨ (j : Int) ∈ E) H'
theorem covers_l0 {H1 : AH} {q qx n : Nat} {v ev : Value} {lX kk : Nat} {P : Nat → Prop} {E : List Int} (hw1 : WF H1) (hqn : H1.next ≤ q) (hE : SlV (fun _ => True) H1 ev E) {env : Env} {H0 : AH} (h : Cv0I H1 q qx n v ev lX kk P E 0 env H0) : wpC Tryd.prog 44 (.loop ir_eval_covers_l0) (Cv0Q H1 q qx n v lX kk P E) env H0:=by
 refine loop_upto E.length (Cv0I H1 q qx n v ev lX kk P E) (Q:=Cv0Q H1 q qx n v lX kk P E) h ?_
 have hmax:=hE.max
 rintro k env H' hk ⟨e2,e5,e17,e18,e19,e28,e29,e30,hS⟩
 by_cases hkn : k < E.length
 ·obtain ⟨w',k',hqn',sl,B,hb,hSB,hBl,hP⟩:=id hS
  obtain ⟨b0,off,sp,cap,cs,hcv,q1,q2⟩:=ints_rd (hE.kept hw1 k') (by omega)
  obtain ⟨q3,q4⟩:=q2 k hkn
  subst hcv
  have cb:=AH.cells_of hb
  have ht:=List.take_succ_eq_append_getElem hkn
  have hmt : ∀ j : Int,j ∈ E.take (k + 1) ↔ j ∈ E.take k ∨ j = E[k]:=fun j => by rw [ht,List.mem_append,List.mem_singleton]
  generalize E[k] = z at *
  have hWith:=Bs.With_spec hSB z
  have hcut : cut [Value.int .i64 n,sl] 0 2 = some [.int .i64 n,sl]:=by simp [cut]
  simp (disch:=omega) [-getElem?_pos,if_pos,if_neg,decide_eq_true,decide_eq_false,ir_eval_covers_l0,e2,e5,e17,e18,e19,e28,e29,e30,q1,q3,cb,hcut]
  refine hWith.mono' fun u H2 w2 ⟨hu,k2⟩ => ?_
  obtain ⟨sl2,rfl,wr,hS2⟩:=set_with hqn hS hb hBl hP w2 hu k2
  simp (disch:=omega) [-getElem?_pos,if_pos,if_neg,decide_eq_true,decide_eq_false,e5,e30,wr,IntWalk.i64_in]
  exact ⟨hkn,by simp [e2],by simp [e5],by simp [e17],by simp [e18],by simp [e19],by simp [e28],by simp [e29],by simp,hS2.congr fun j hj => by rw [hmt,or_assoc]⟩
 ·obtain rfl : k = E.length:=by omega
  rw [List.take_length] at hS
  simp (disch:=omega) [-getElem?_pos,if_pos,if_neg,decide_eq_true,decide_eq_false,ir_eval_covers_l0,e29,e30]
  exact ⟨rfl,e2,e5,e17,e18,e19,hS⟩
def Cv1I (H1 : AH) (q qx n : Nat) (v : Value) (x : InstD) (X : List Int) (k : Nat) (env : Env) (H' : AH) : Prop :=
 env 2 = some (.pointer (some ⟨qx,0,none⟩)) ∧ env 5 = some (.pointer (some ⟨q,0,none⟩)) ∧ env 17 = some v ∧ env 18 = some (.int .i64 X.length) ∧ env 19 = some (.int .i64 k) ∧ OdS H1 q n (fun j => ∃ i ∈ X.take k,(j : Int) ∈ (x.setE i).elems) H'
def Cv1Q (H1 : AH) (q qx n : Nat) (x : InstD) (X : List Int) (e : AExit) (env : Env) (H' : AH) : Prop :=
 e = .exit 0 ∧ env 2 = some (.pointer (some ⟨qx,0,none⟩)) ∧ env 5 = some (.pointer (some ⟨q,0,none⟩)) ∧ OdS H1 q n (fun j => ∃ i ∈ X,(j : Int) ∈ (x.setE i).elems) H'
theorem covers_l1 {H1 : AH} {q qx n : Nat} {v : Value} {x : InstD} {iv cv sv : Value} {X : List Int} (hw1 : WF H1) (hqn : H1.next ≤ q) (hqx : H1.cells qx = some (instC x iv cv sv)) (hs : SlV (fun _ => True) H1 sv x.sets) (hX : SlV (fun _ => True) H1 v X) (hR : Rises (-1) x.sets.length X) {env : Env} {H0 : AH} (h : Cv1I H1 q qx n v x X 0 env H0) :
  wpC Tryd.prog 44 (.loop ir_eval_covers_l1) (Cv1Q H1 q qx n x X) env H0:=by
 refine loop_upto X.length (Cv1I H1 q qx n v x X) (Q:=Cv1Q H1 q qx n x X) h ?_
 have hmax:=hX.max
 have hmaxs:=hs.max
 rintro k env H' hk ⟨e2,e5,e17,e18,e19,hS⟩
 by_cases hkn : k < X.length
 ·obtain ⟨w',k',hqn',_⟩:=id hS
  obtain ⟨b0,off,sp,cap,cs,hcv,q1,q2⟩:=ints_rd (hX.kept hw1 k') (by omega)
  obtain ⟨q3,q4⟩:=q2 k hkn
  subst hcv
  have hr:=rises_range hR X[k] (List.getElem_mem _)
  obtain ⟨N,hN⟩ : ∃ N : Nat,X[k] = N:=⟨X[k].toNat,by omega⟩
  have hNl : N < x.sets.length:=by omega
  obtain ⟨b1,off1,sp1,cap1,cs1,hcv1,r1,r2⟩:=sets_rd (hs.kept hw1 k') (by omega)
  obtain ⟨w,r3,r4,r5,r6,r7⟩:=r2 N hNl
  obtain ⟨b1',off1',sp1',cap1',cs1',hcv1',r1',r2'⟩:=sets_rd hs (by omega)
  obtain ⟨w',_,_,r5',_,r7'⟩:=r2' N hNl
  rw [hcv1] at hcv1'
  cases hcv1'
  have hcs : cs1 = cs1':=by have:=cells_kept hw1 k' r1'; rw [r1] at this; exact Option.some.inj this
  subst hcs
  rw [r5'] at r5
  obtain rfl:=Option.some.inj r5
  subst hcv1
  have hse : x.setE X[k] = x.sets[N]:=by rw [hN]; unfold InstD.setE; simp [hNl]
  have ht:=List.take_succ_eq_append_getElem hkn
  have hmt : ∀ j : Nat,(∃ i ∈ X.take (k + 1),(j : Int) ∈ (x.setE i).elems) ↔ (∃ i ∈ X.take k,(j : Int) ∈ (x.setE i).elems) ∨ (j : Int) ∈ x.sets[N].elems:=fun j => by
   rw [ht,← hse]
   constructor
   ·rintro ⟨i,hi,hj⟩
    rcases List.mem_append.1 hi with h | h
    ·exact .inl ⟨i,h,hj⟩
    ·rw [List.mem_singleton.1 h] at hj; exact .inr hj
   ·rintro (⟨i,hi,hj⟩ | hj)
    ·exact ⟨i,List.mem_append_left _ hi,hj⟩
    ·exact ⟨_,List.mem_append_right _ (List.mem_singleton.2 rfl),hj⟩
  rw [hN] at q3
  have cq:=cells_kept hw1 k' hqx
  obtain ⟨ea,ec,rfl⟩:=r7'.slice
  have hEm:=r7'.max
  generalize x.sets[N].elems = E at *
  simp (disch:=omega) [-getElem?_pos,if_pos,if_neg,decide_eq_true,decide_eq_false,ir_eval_covers_l1,e2,e5,e17,e18,e19,q1,q3,cq,instC,r1,r5',hNl]
  refine wpC_use (covers_l0 (H1:=H1) (q:=q) (qx:=qx) (n:=n) (E:=E) (P:=fun j => ∃ i ∈ X.take k,(j : Int) ∈ (x.setE i).elems) (v:=.slice (some ⟨b0,off,sp⟩) X.length cap) (lX:=X.length) (kk:=k) hw1 hqn r7' ⟨by simp [e2],by simp [e5],by simp [e17],by simp [e18],by simp [e19],by simp,by simp,by simp,hS.congr fun j hj => by simp⟩) ?_
  rintro e env2 H2 ⟨rfl,f2,f5,f17,f18,f19,hS2⟩ hu
  simp (disch:=omega) [-getElem?_pos,if_pos,if_neg,decide_eq_true,decide_eq_false,f19,IntWalk.i64_in]
  exact ⟨hkn,by simp [f2],by simp [f5],by simp [f17],by simp [f18],by simp,hS2.congr fun j hj => (hmt j).symm⟩
 ·obtain rfl : k = X.length:=by omega
  rw [List.take_length] at hS
  simp (disch:=omega) [-getElem?_pos,if_pos,if_neg,decide_eq_true,decide_eq_false,ir_eval_covers_l1,e18,e19]
  exact ⟨rfl,e2,e5,hS⟩
theorem covers_spec {H : AH} {v w : Value} {x : InstD} {X : List Int} (hx : InstV (fun _ => True) H v x) (hX : SlV (fun _ => True) H w X) (hok : x.Ok) (hR : Rises (-1) x.sets.length X) : AFn Tryd.prog F_eval_covers [v,w] H fun u H' => u = .bool (x.cov X) ∧ H' = H:=by
 refine AFn.calm (fun H0 hs => ?_) rfl
 have hx0:=hx.same hs
 have hX0:=hX.same hs
 obtain ⟨iv,cv,sv,rfl,i1,i2,i3,h1,h2,h3⟩:=id hx0
 obtain ⟨wa,wc,rfl⟩:=hX.slice
 have hm:=hX.max
 obtain ⟨n,hn⟩ : ∃ n : Nat,x.size = n:=⟨x.size.toNat,by have:=hok.few.size0; omega⟩
 have hn4 : n ≤ 4096:=by have:=hok.few.size; omega
 refine AFn.enter mixed ir_eval_covers_eq (by simp [ir_eval_covers]) fun hw => ?_
 have bc : (H0.alloc (.row (instC x iv cv sv) T_inst_Inst true)).cells H0.next = some (instC x iv cv sv):=AH.cells_alloc_new
 have k1 : Keep [] H0 (H0.alloc (.row (instC x iv cv sv) T_inst_Inst true)):=.alloc
 have w1:=WF.alloc hw (B:=.row (instC x iv cv sv) T_inst_Inst true)
 have hX1:=hX0.kept hw k1
 have hs1:=h3.kept hw k1
 generalize hq : H0.next = q at *
 have hok : Bs.sizeOk n = true:=by unfold Bs.sizeOk; simp; omega
 have hno : Bs.nOk n = n:=by unfold Bs.nOk; rw [hok]; simp
 have heo : Bs.eOk n = 0:=by unfold Bs.eOk; rw [hok]; rfl
 simp (disch:=omega) [-getElem?_pos,if_pos,if_neg,decide_eq_true,decide_eq_false,ir_eval_covers,hq,inst_cut]
 generalize H0.alloc (.row (instC x iv cv sv) T_inst_Inst true) = H1 at *
 simp only [instC] at bc
 simp (disch:=omega) [-getElem?_pos,if_pos,if_neg,decide_eq_true,decide_eq_false,bc,hn]
 refine (Bs.New_spec (n : Int) ⟨by omega,by omega⟩).mono' fun u H2 w2 ⟨sl,S,hu,ho,k2,hS⟩ => ?_
 rw [hno,heo] at hu
 rw [hno] at ho
 subst hu
 have n2:=k2.next
 have hone:=Bs.Own.one ho
 have hset : Bs.SetB (fun b => b < H2.next) H2 (.agg #[.int .i64 n,sl]) (List.replicate n false):=by
  have h0 : Bs.SetO H2 (.agg #[.int .i64 n,sl]) n (words (List.replicate n false)) S:=⟨sl,rfl,ho,hone⟩
  exact h0.setB (by simp) rfl (by omega) fun b hb => ho.lt w2 b hb
 have hsc : cellsOf sl = some [sl]:=by obtain ⟨a,c,rfl⟩:=ho.slice; simp
 have bc2:=cells_kept w1 k2 bc
 have hqH:=cells_lt w1 bc
 simp (disch:=omega) [-getElem?_pos,if_pos,if_neg,decide_eq_true,decide_eq_false,hone,hsc,writeA,over]
 generalize hH3 : AH.alloc H2 _ = H3
 have k3 : Keep [] H2 H3:=by rw [← hH3]; exact .alloc
 have w3 : WF H3:=by rw [← hH3]; exact w2.alloc
 have n3 : H3.next = H2.next + 1:=by rw [← hH3]; simp
 have b3 : H3.blk H2.next = some (.row [.int .i64 n,sl] T_bitset_Set true):=by rw [← hH3]; simp
 clear hH3
 have hset3:=(hset.kept w2 k3).mono (q:=fun b => b ≠ H2.next) fun b hb => by omega
 refine wpC_use (covers_l1 (H1:=H2) (q:=H2.next) (qx:=q) (n:=n) (X:=X) (iv:=iv) (cv:=cv) (sv:=sv) w2 (Nat.le_refl _) bc2 (hs1.kept w1 k2) (hX1.kept w1 k2) hR ⟨by simp,by simp,by simp,by simp,by simp,⟨w3,k3,by omega,sl,List.replicate n false,b3,hset3,by simp,fun j hj => by simp [hj]⟩⟩) ?_
 rintro e env2 H4 ⟨rfl,e2,e5,⟨w4,k4,_,sl4,B,b4,hS4,hBl,hP⟩⟩ hu
 have hfin : x.cov X = decide (B.count true = n):=by
  unfold InstD.cov
  have hiff : ((List.range x.size.toNat).all fun e => X.any fun i => (x.setE i).elems.contains (e : Int)) = true ↔ B.count true = n:=by
   conv => rhs; rhs; rw [← hBl]
   rw [all_count,hBl,hn]
   simp only [Int.toNat_natCast,List.all_eq_true,List.mem_range,List.any_eq_true,List.contains_iff_mem]
   exact ⟨fun h j hj => (hP j hj).2 (h j hj),fun h j hj => (hP j hj).1 (h j hj)⟩
  by_cases h : B.count true = n
  ·rw [hiff.2 h]; simp [h]
  ·rw [Bool.eq_false_iff.2 (fun hc => h (hiff.1 hc))]; simp [h]
 have c4:=AH.cells_of b4
 have hcut : cut [Value.int .i64 n,sl4] 0 2 = some [.int .i64 n,sl4]:=by simp [cut]
 have hCnt:=Bs.Count_spec hS4
 have bc4:=cells_kept w2 k4 bc2
 rw [hfin]
 generalize B.count true = cB at *
 simp (disch:=omega) [-getElem?_pos,if_pos,if_neg,decide_eq_true,decide_eq_false,e2,e5,c4,hcut,bc4,hn]
 refine AFnD.of hCnt ?_
 simp (disch:=omega) [-getElem?_pos,if_pos,if_neg,decide_eq_true,decide_eq_false,hn]
 omega
end Go.Proofs.YtlcddhgfkkjhkaaDoor

set_option maxRecDepth 100000
namespace Go.Abs
open Go
structure PartOk (x : InstD) (X : List Int) : Prop where
 items : x.kind = 0 → ∀ y ∈ X,0 ≤ y ∧ y < x.items.length
 len : x.kind = 1 ∨ x.kind = 2 → X.length = x.cost.length
 cost : x.kind = 1 ∨ x.kind = 2 → ∀ y ∈ X,0 ≤ y ∧ y < x.cost.length
 sets : ¬ (x.kind = 0 ∨ x.kind = 1 ∨ x.kind = 2) → ∀ y ∈ X,0 ≤ y ∧ y < x.sets.length
 few : X.length ≤ 4096
theorem may_part {x : InstD} {X : List Int} (hok : x.Ok) (h : x.may X = true) : PartOk x X:=by
 unfold InstD.may at h
 have h1:=hok.few.items
 have h2:=hok.few.sets
 have h3:=hok.few.sq
 by_cases k0 : x.kind = 0
 ·rw [if_pos k0] at h
  simp only [Bool.and_eq_true] at h
  have hR:=tr_iff.1 h.1
  refine ⟨fun _ y hy => by have:=rises_range hR y hy; omega,by omega,by omega,by omega,?_⟩
  rcases rises_len hR (by omega) with h | h
  ·omega
  ·rw [h]; simp
 ·rw [if_neg k0] at h
  by_cases k1 : x.kind = 1
  ·rw [if_pos k1] at h
   have ho:=orderB_iff.1 h
   exact ⟨by omega,fun _ => ho.1,fun _ => order_range _ ho.1 ho.2,by omega,by have:=h3 (.inl k1); omega⟩
  ·rw [if_neg k1] at h
   by_cases k2 : x.kind = 2
   ·rw [if_pos k2] at h
    simp only [Bool.and_eq_true] at h
    have ho:=orderB_iff.1 h.1
    exact ⟨by omega,fun _ => ho.1,fun _ => order_range _ ho.1 ho.2,by omega,by have:=h3 (.inr k2); omega⟩
   ·rw [if_neg k2] at h
    simp only [Bool.and_eq_true] at h
    have hR:=tr_iff.1 h.1
    refine ⟨by omega,by omega,by omega,fun _ y hy => by have:=rises_range hR y hy; omega,?_⟩
    rcases rises_len hR (by omega) with h | h
    ·omega
    ·rw [h]; simp
theorem costE_mag {x : InstD} (hok : x.Ok) {i k : Int} (hi : 0 ≤ i ∧ i < x.cost.length) (hk : 0 ≤ k ∧ k < x.cost.length) : -2147483648 ≤ x.costE i k ∧ x.costE i k ≤ 2147483648:=by
 unfold InstD.costE
 have hil : i.toNat < x.cost.length:=by omega
 have hrow:=hok.shaped.rows i.toNat hil
 have hkl : k.toNat < x.cost[i.toNat].length:=by omega
 have hm:=hok.small.rows i.toNat hil k.toNat hkl
 rw [List.getD_eq_getElem?_getD,List.getD_eq_getElem?_getD,List.getElem?_eq_getElem hil]
 simp only [Option.getD_some]
 rw [List.getElem?_eq_getElem hkl]
 exact hm
theorem part_mag {x : InstD} {X : List Int} (hok : x.Ok) (h : PartOk x X) {k : Nat} (hk : k < X.length) : -2147483648 ≤ x.part X k ∧ x.part X k ≤ 2147483648:=by
 have hg : ∀ i,i < X.length → X.getD i 0 ∈ X:=fun i hi => by rw [List.getD_eq_getElem?_getD,List.getElem?_eq_getElem hi]; exact List.getElem_mem _
 have hm : (k + 1) % X.length < X.length:=Nat.mod_lt _ (by omega)
 unfold InstD.part
 split
 ·rename_i k0
  have:=h.items k0 _ (hg k hk)
  have hl : (X.getD k 0).toNat < x.items.length:=by omega
  have:=(hok.small.items _ hl).1
  unfold InstD.val
  rw [List.getD_eq_getElem?_getD (l:=x.items),List.getElem?_eq_getElem hl]
  unfold Mag at this
  simp only [Option.getD_some]
  omega
 ·split
  ·rename_i k1
   have h1:=h.cost (.inl k1) _ (hg k hk)
   have h2:=h.len (.inl k1)
   exact costE_mag hok (by omega) h1
  ·split
   ·rename_i k2
    exact costE_mag hok (h.cost (.inr k2) _ (hg k hk)) (h.cost (.inr k2) _ (hg _ hm))
   ·have:=h.sets (by omega) _ (hg k hk)
    have hl : (X.getD k 0).toNat < x.sets.length:=by omega
    have:=hok.small.sets _ hl
    unfold InstD.setE
    rw [List.getD_eq_getElem?_getD (l:=x.sets),List.getElem?_eq_getElem hl]
    unfold Mag at this
    simp only [Option.getD_some]
    omega
theorem parts_sum {x : InstD} {X : List Int} (hok : x.Ok) (h : PartOk x X) : -8796093022208 ≤ (x.parts X).sum ∧ (x.parts X).sum ≤ 8796093022208:=by
 have:=Go.Proofs.YtlcddhgfkkjhkaaDoor.sum_absE (L:=x.parts X) fun y hy => by
  unfold InstD.parts at hy
  obtain ⟨i,hi,rfl⟩:=List.mem_map.1 hy
  exact part_mag hok h (List.mem_range.1 hi)
 have hl : (x.parts X).length = X.length:=by simp [InstD.parts]
 have:=h.few
 omega
end Go.Abs
namespace Go.Proofs.YtlcddhgfkkjhkaaDoor
open Go Go.Abs
def PaI (H1 : AH) (q : Nat) (v : Value) (x : InstD) (X : List Int) (k : Nat) (env : Env) (H' : AH) : Prop :=
 env 1 = some v ∧ env 2 = some (.pointer (some ⟨q,0,none⟩)) ∧ env 8 = some v ∧ env 9 = some (.int .i64 X.length) ∧ env 10 = some (.int .i64 k) ∧ WF H' ∧ Keep [] H1 H' ∧
  ∃ ov S,env 5 = some ov ∧ OwnL (fun _ => False) H' T_int64 ov ((x.parts X).take k) S ∧ ∀ b ∈ S,H1.next ≤ b
def PaQ (H1 : AH) (x : InstD) (X : List Int) (e : AExit) (env : Env) (H' : AH) : Prop :=
 e = .exit 0 ∧ WF H' ∧ ∃ ov S,env 5 = some ov ∧ OwnL (fun _ => False) H' T_int64 ov (x.parts X) S ∧ Keep [] H1 H' ∧ ∀ b ∈ S,H1.next ≤ b
theorem parts_l0 {H1 : AH} {q : Nat} {x : InstD} {iv cv sv v : Value} {X : List Int} (hw1 : WF H1) (hq : H1.cells q = some (instC x iv cv sv)) (hi : SlV (fun _ => True) H1 iv x.items) (hc : SlV (fun _ => True) H1 cv x.cost) (hs : SlV (fun _ => True) H1 sv x.sets) (hX : SlV (fun _ => True) H1 v X) (hok : x.Ok) (hp : PartOk x X)
  {env : Env} (h : PaI H1 q v x X 0 env H1) : wpC Tryd.prog 72 (.loop ir_eval_parts_l0) (PaQ H1 x X) env H1:=by
 refine loop_upto X.length (PaI H1 q v x X) (Q:=PaQ H1 x X) h ?_
 have hfew:=hp.few
 have hpl : (x.parts X).length = X.length:=by simp [InstD.parts]
 have hmi:=hi.max
 have hmc:=hc.max
 have hms:=hs.max
 rintro k env H' hk ⟨e1,e2,e8,e9,e10,w',k',ov,S,e5,hA,hS⟩
 by_cases hkn : k < X.length
 ·have hXk:=hX.kept hw1 k'
  obtain ⟨b0,off,sp,cap,cs,hcv,q1,q2⟩:=ints_rd hXk (by omega)
  obtain ⟨q3,q4⟩:=q2 k hkn
  have hmag:=part_mag hok hp hkn
  have hI : I64 (x.part X k):=by unfold I64; omega
  have ht : (x.parts X).take (k + 1) = (x.parts X).take k ++ [x.part X k]:=by
   rw [List.take_succ_eq_append_getElem (by omega)]; simp [InstD.parts]
  have hlk : ((x.parts X).take k).length = k:=by simp [hpl]; omega
  have hmem : X[k] ∈ X:=List.getElem_mem _
  have hgk : X.getD k 0 = X[k]:=by rw [List.getD_eq_getElem?_getD,List.getElem?_eq_getElem hkn]; rfl
  have cq:=cells_kept hw1 k' hq
  obtain ⟨oa,oc,rfl⟩:=hA.slice
  obtain ⟨va,vc,H2,S',p1,w2,hA',k2,hS',_⟩:=push_i64e w' hA k' hS hI (by rw [hlk]; omega)
  rw [← ht] at hA'
  rw [hlk] at p1 hA' e5
  have pE : elemsA (H'.alloc (.row [.int .i64 (x.part X k)] T_int64 true)) 1 (.slice (some ⟨H'.next,0,none⟩) 1 1) = some [.int .i64 (x.part X k)]:=elems_one rfl
  have fin : ∀ env2 : Env,env2 1 = some v → env2 2 = some (.pointer (some ⟨q,0,none⟩)) → env2 8 = some v → env2 9 = some (.int .i64 X.length) → env2 10 = some (.int .i64 ((k : Int) + 1)) → env2 5 = some (.slice va (k + 1) vc) → PaI H1 q v x X (k + 1) env2 H2 :=
   fun env2 g1 g2 g8 g9 g10 g5 => ⟨g1,g2,g8,g9,by rw [g10]; simp,w2,k2,_,S',g5,hA',hS'⟩
  simp only [instC] at cq
  by_cases k0 : x.kind = 0
  ·have hr:=hp.items k0 X[k] hmem
   obtain ⟨N,hN⟩ : ∃ N : Nat,X[k] = N:=⟨X[k].toNat,by omega⟩
   have hNl : N < x.items.length:=by omega
   obtain ⟨b1,off1,sp1,cap1,cs1,hcv1,r1,r2⟩:=pairs_rd (hi.kept hw1 k') (by omega)
   obtain ⟨r3,r4,r5,r6,r7⟩:=r2 N hNl
   have hpv : x.part X k = x.items[N].1:=by unfold InstD.part; rw [if_pos k0,hgk,hN]; unfold InstD.val; simp [hNl]
   rw [← hpv] at r4
   rw [hN] at q3
   generalize x.part X k = w at *
   have k0T:=eq_true k0
   subst hcv hcv1
   simp (disch:=omega) [-getElem?_pos,if_pos,if_neg,decide_eq_true,decide_eq_false,ir_eval_parts_l0,e1,e2,e5,e8,e9,e10,q1,q3,cq,k0T,r1,r4,hNl,hkn,pE,p1,IntWalk.i64_in]
   exact fin _ (by simp [e1]) (by simp [e2]) (by simp [e8]) (by simp [e9]) (by simp) (by simp)
  ·by_cases k1 : x.kind = 1
   ·have hr:=hp.cost (.inl k1) X[k] hmem
    have hlen:=hp.len (.inl k1)
    obtain ⟨N,hN⟩ : ∃ N : Nat,X[k] = N:=⟨X[k].toNat,by omega⟩
    have hNl : N < x.cost.length:=by omega
    have hkc : k < x.cost.length:=by omega
    obtain ⟨b1,off1,sp1,cap1,cs1,hcv1,r1,r2⟩:=rows_rd (hc.kept hw1 k') (by omega)
    obtain ⟨w,r3,r4⟩:=r2 k hkc
    have hrow:=hok.shaped.rows k hkc
    obtain ⟨b2,off2,sp2,cap2,cs2,hcv2,t1,t2⟩:=ints_rd r4 (by omega)
    obtain ⟨t3,t4⟩:=t2 N (by omega)
    rw [hrow] at hcv2
    have hpv : x.part X k = x.cost[k][N]:=by unfold InstD.part; rw [if_neg k0,if_pos k1,hgk,hN]; unfold InstD.costE; simp [hkc,hNl,hrow]
    rw [← hpv] at t3
    rw [hN] at q3
    generalize x.part X k = w at *
    have k0F:=eq_false k0
    have k1T:=eq_true k1
    subst hcv hcv1 hcv2
    simp (disch:=omega) [-getElem?_pos,if_pos,if_neg,decide_eq_true,decide_eq_false,ir_eval_parts_l0,e1,e2,e5,e8,e9,e10,q1,q3,cq,k0F,k1T,r1,r3,t1,t3,hNl,hkc,hkn,pE,p1,IntWalk.i64_in]
    exact fin _ (by simp [e1]) (by simp [e2]) (by simp [e8]) (by simp [e9]) (by simp) (by simp)
   ·by_cases k2 : x.kind = 2
    ·have hr:=hp.cost (.inr k2) X[k] hmem
     have hlen:=hp.len (.inr k2)
     obtain ⟨N,hN⟩ : ∃ N : Nat,X[k] = N:=⟨X[k].toNat,by omega⟩
     have hNl : N < x.cost.length:=by omega
     obtain ⟨b1,off1,sp1,cap1,cs1,hcv1,r1,r2⟩:=rows_rd (hc.kept hw1 k') (by omega)
     obtain ⟨w,r3,r4⟩:=r2 N hNl
     have hrow:=hok.shaped.rows N hNl
     obtain ⟨b2,off2,sp2,cap2,cs2,hcv2,t1,t2⟩:=ints_rd r4 (by omega)
     rw [hrow] at hcv2
     have hml : (k + 1) % X.length < X.length:=Nat.mod_lt _ (by omega)
     obtain ⟨u3,u4⟩:=q2 ((k + 1) % X.length) hml
     have hgm : X.getD ((k + 1) % X.length) 0 = X[(k + 1) % X.length]:=by rw [List.getD_eq_getElem?_getD,List.getElem?_eq_getElem hml]; rfl
     have hr2:=hp.cost (.inr k2) X[(k + 1) % X.length] (List.getElem_mem _)
     obtain ⟨M,hM⟩ : ∃ M : Nat,X[(k + 1) % X.length] = M:=⟨X[(k + 1) % X.length].toNat,by omega⟩
     have hMl : M < x.cost.length:=by omega
     obtain ⟨t3,t4⟩:=t2 M (by omega)
     have hpv : x.part X k = x.cost[N][M]:=by unfold InstD.part; rw [if_neg k0,if_neg k1,if_pos k2,hgk,hgm,hN,hM]; unfold InstD.costE; simp [hNl,hrow,hMl]
     rw [← hpv] at t3
     rw [hN] at q3
     rw [hM] at u3
     have hrem : abin .rem (.int .i64 ((k : Int) + 1)) (.int .i64 X.length) = some (.int .i64 (((k + 1) % X.length : Nat) : Int)):=by
      have h0 : ¬ ((X.length : Int) = 0):=by omega
      simp only [abin]
      have hX0 : ¬ X.length = 0:=by omega
      have : ((k : Int) + 1).tmod (X.length : Int) = (((k + 1) % X.length : Nat) : Int):=by
       rw [Int.tmod_eq_emod_of_nonneg (by omega)]; push_cast; rfl
      simp [hX0,this]
     generalize x.part X k = w at *
     clear hpv t4 hM hr2 hgm u4
     generalize (k + 1) % X.length = m at *
     have k0F:=eq_false k0
     have k1F:=eq_false k1
     have k2T:=eq_true k2
     subst hcv hcv1 hcv2
     simp (disch:=omega) [-getElem?_pos,if_pos,if_neg,decide_eq_true,decide_eq_false,ir_eval_parts_l0,e1,e2,e5,e8,e9,e10,q1,q3,u3,cq,k0F,k1F,k2T,r1,r3,t1,t3,hNl,hMl,hml,hkn,↓hrem,pE,p1,IntWalk.i64_in]
     exact fin _ (by simp [e1]) (by simp [e2]) (by simp [e8]) (by simp [e9]) (by simp) (by simp)
    ·have hr:=hp.sets (by omega) X[k] hmem
     obtain ⟨N,hN⟩ : ∃ N : Nat,X[k] = N:=⟨X[k].toNat,by omega⟩
     have hNl : N < x.sets.length:=by omega
     obtain ⟨b1,off1,sp1,cap1,cs1,hcv1,r1,r2⟩:=sets_rd (hs.kept hw1 k') (by omega)
     obtain ⟨w,r3,r4,r5,r6,r7⟩:=r2 N hNl
     have hpv : x.part X k = x.sets[N].cost:=by unfold InstD.part; rw [if_neg k0,if_neg k1,if_neg k2,hgk,hN]; unfold InstD.setE; simp [hNl]
     rw [← hpv] at r4
     rw [hN] at q3
     generalize x.part X k = w at *
     have k0F:=eq_false k0
     have k1F:=eq_false k1
     have k2F:=eq_false k2
     subst hcv hcv1
     simp (disch:=omega) [-getElem?_pos,if_pos,if_neg,decide_eq_true,decide_eq_false,ir_eval_parts_l0,e1,e2,e5,e8,e9,e10,q1,q3,cq,k0F,k1F,k2F,r1,r4,hNl,hkn,pE,p1,IntWalk.i64_in]
     exact fin _ (by simp [e1]) (by simp [e2]) (by simp [e8]) (by simp [e9]) (by simp) (by simp)
 ·obtain rfl : k = X.length:=by omega
  simp (disch:=omega) [-getElem?_pos,if_pos,if_neg,decide_eq_true,decide_eq_false,ir_eval_parts_l0,e9,e10]
  rw [List.take_of_length_le (by omega)] at hA
  exact ⟨rfl,w',ov,S,e5,hA,k',hS⟩
theorem parts_spec {H : AH} {v w : Value} {x : InstD} {X : List Int} (hx : InstV (fun _ => True) H v x) (hX : SlV (fun _ => True) H w X) (hok : x.Ok) (hp : PartOk x X) : AFn Tryd.prog F_eval_parts [v,w] H fun u H' => ∃ S,OwnL (fun _ => False) H' T_int64 u (x.parts X) S ∧ Keep [] H H' ∧ ∀ b ∈ S,H.next ≤ b:=by
 obtain ⟨iv,cv,sv,rfl,i1,i2,i3,h1,h2,h3⟩:=id hx
 obtain ⟨wa,wc,rfl⟩:=hX.slice
 have hm:=hX.max
 refine AFn.enter mixed ir_eval_parts_eq (by simp [ir_eval_parts]) fun hw => ?_
 have bc : (H.alloc (.row (instC x iv cv sv) T_inst_Inst true)).cells H.next = some (instC x iv cv sv):=AH.cells_alloc_new
 have k1 : Keep [] H (H.alloc (.row (instC x iv cv sv) T_inst_Inst true)):=.alloc
 have w1:=WF.alloc hw (B:=.row (instC x iv cv sv) T_inst_Inst true)
 have hX1:=hX.kept hw k1
 have a1:=h1.kept hw k1
 have a2:=h2.kept hw k1
 have a3:=h3.kept hw k1
 generalize hq : H.next = q at *
 simp (disch:=omega) [-getElem?_pos,if_pos,if_neg,decide_eq_true,decide_eq_false,ir_eval_parts,hq,inst_cut]
 generalize H.alloc (.row (instC x iv cv sv) T_inst_Inst true) = H1 at *
 have n1:=k1.next
 refine wpC_use (parts_l0 w1 bc a1 a2 a3 hX1 hok hp ⟨by simp,by simp,by simp,by simp,by simp,w1,.refl,.slice none 0 0,[],by simp,by simpa using OwnL.nil,by simp⟩) ?_
 rintro e env2 H2 ⟨rfl,w2,ov,S,e5,hA,k2,hS⟩ hu
 have hc:=hA.cell
 simp (disch:=omega) [-getElem?_pos,if_pos,if_neg,decide_eq_true,decide_eq_false,e5,hc]
 exact ⟨S,hA,k1.trans' k2,fun b hb => by have:=hS b hb; omega⟩
theorem may_spec {H : AH} {v w : Value} {x : InstD} {X : List Int} (hx : InstV (fun _ => True) H v x) (hX : SlV (fun _ => True) H w X) (hok : x.Ok) : AFn Tryd.prog F_eval_may [v,w] H fun u H' => u = .bool (x.may X) ∧ H' = H:=by
 refine AFn.calm (fun H0 hs => ?_) rfl
 have hx0:=hx.same hs
 have hX0:=hX.same hs
 obtain ⟨iv,cv,sv,rfl,i1,i2,i3,h1,h2,h3⟩:=id hx0
 obtain ⟨wa,wc,rfl⟩:=hX.slice
 have hm:=hX.max
 obtain ⟨ia,ic,rfl⟩:=h1.slice
 obtain ⟨ca,cc,rfl⟩:=h2.slice
 obtain ⟨sa,sc,rfl⟩:=h3.slice
 have hmi:=h1.max
 have hmc:=h2.max
 have hms:=h3.max
 refine AFn.enter mixed ir_eval_may_eq (by simp [ir_eval_may]) fun hw => ?_
 generalize hI : instC x (.slice ia x.items.length ic) (.slice ca x.cost.length cc) (.slice sa x.sets.length sc) = I
 have hI' : I = [.int .i64 x.kind,.int .i64 x.cap,.slice ia x.items.length ic,.slice ca x.cost.length cc,.int .i64 x.size,.slice sa x.sets.length sc]:=hI.symm
 have bc : (H0.alloc (.row I T_inst_Inst true)).cells H0.next = some I:=AH.cells_alloc_new
 have k1 : Keep [] H0 (H0.alloc (.row I T_inst_Inst true)):=.alloc
 have w1:=WF.alloc hw (B:=.row I T_inst_Inst true)
 have hX1:=hX0.kept hw k1
 have hx1:=hx0.kept hw k1
 have hcut : cut I 0 6 = some I:=by rw [hI']; rfl
 have hIe : [.int .i64 x.kind,.int .i64 x.cap,.slice ia x.items.length ic,.slice ca x.cost.length cc,.int .i64 x.size,.slice sa x.sets.length sc] = I:=hI'.symm
 have g0 : I[0]? = some (.int .i64 x.kind):=by rw [hI']; rfl
 have g2 : I[2]? = some (.slice ia x.items.length ic):=by rw [hI']; rfl
 have g3 : I[3]? = some (.slice ca x.cost.length cc):=by rw [hI']; rfl
 have g5 : I[5]? = some (.slice sa x.sets.length sc):=by rw [hI']; rfl
 have ht : Value.agg I.toArray = .agg #[.int .i64 x.kind,.int .i64 x.cap,.slice ia x.items.length ic,.slice ca x.cost.length cc,.int .i64 x.size,.slice sa x.sets.length sc]:=by rw [hI']
 rw [← ht] at hx1 ⊢
 have hc6 : cellsOf (Value.agg I.toArray) = some I:=by rw [ht,hI']; rfl
 clear hI hI' hIe
 generalize hq : H0.next = q at *
 simp (disch:=omega) [-getElem?_pos,if_pos,if_neg,decide_eq_true,decide_eq_false,ir_eval_may,hq,hc6]
 generalize H0.alloc (.row I T_inst_Inst true) = H1 at *
 unfold InstD.may
 by_cases k0 : x.kind = 0
 ·have k0T:=eq_true k0
  simp (disch:=omega) [-getElem?_pos,if_pos,if_neg,decide_eq_true,decide_eq_false,bc,g0,g2,k0T]
  refine AFn.pure (rises_spec hX1) ?_
  by_cases hR : Rises (-1) x.items.length X
  ·rw [tr_true hR]
   simp (disch:=omega) [-getElem?_pos,if_pos,if_neg,decide_eq_true,decide_eq_false,bc,hcut]
   refine AFn.pure (fits_spec hx1 hX1 hok hR) ?_
   simp (disch:=omega) [-getElem?_pos,if_pos,if_neg,decide_eq_true,decide_eq_false,]
  ·rw [tr_false hR]
   simp (disch:=omega) [-getElem?_pos,if_pos,if_neg,decide_eq_true,decide_eq_false,]
 ·have k0F:=eq_false k0
  by_cases k1 : x.kind = 1
  ·have k1T:=eq_true k1
   simp (disch:=omega) [-getElem?_pos,if_pos,if_neg,decide_eq_true,decide_eq_false,bc,g0,g3,k0F,k1T]
   refine AFn.pure (order_spec' hX1 (by have:=hok.few.sq (.inl k1); omega)) ?_
   simp (disch:=omega) [-getElem?_pos,if_pos,if_neg,decide_eq_true,decide_eq_false,]
  ·have k1F:=eq_false k1
   by_cases k2 : x.kind = 2
   ·have k2T:=eq_true k2
    generalize hz0 : X.getD 0 0 = z0
    simp (disch:=omega) [-getElem?_pos,if_pos,if_neg,decide_eq_true,decide_eq_false,bc,g0,g3,k0F,k1F,k2T]
    refine AFn.pure (order_spec' hX1 (by have:=hok.few.sq (.inr k2); omega)) ?_
    cases ho : orderB X x.cost.length with
    | true =>
     have hl:=(orderB_iff.1 ho).1
     have hpos : 0 < X.length:=by have:=hok.few.sq (.inr k2); omega
     obtain ⟨b0,off,sp,cap,cs,hcv,q1,q2⟩:=ints_rd hX1 hpos
     obtain ⟨q3,q4⟩:=q2 0 hpos
     cases hcv
     have hg0 : X[0] = z0:=by rw [← hz0,List.getD_eq_getElem?_getD,List.getElem?_eq_getElem hpos]; rfl
     rw [Nat.add_zero,hg0] at q3
     simp (disch:=omega) [-getElem?_pos,if_pos,if_neg,decide_eq_true,decide_eq_false,q1,q3,hpos]
    | false => simp (disch:=omega) [-getElem?_pos,if_pos,if_neg,decide_eq_true,decide_eq_false,]
   ·have k2F:=eq_false k2
    simp (disch:=omega) [-getElem?_pos,if_pos,if_neg,decide_eq_true,decide_eq_false,bc,g0,g5,k0F,k1F,k2F]
    refine AFn.pure (rises_spec hX1) ?_
    by_cases hR : Rises (-1) x.sets.length X
    ·rw [tr_true hR]
     simp (disch:=omega) [-getElem?_pos,if_pos,if_neg,decide_eq_true,decide_eq_false,bc,hcut]
     refine AFn.pure (covers_spec hx1 hX1 hok hR) ?_
     simp (disch:=omega) [-getElem?_pos,if_pos,if_neg,decide_eq_true,decide_eq_false,]
    ·rw [tr_false hR]
     simp (disch:=omega) [-getElem?_pos,if_pos,if_neg,decide_eq_true,decide_eq_false,]
theorem Value_spec {H : AH} {v w : Value} {x : InstD} {X : List Int} (hx : InstV (fun _ => True) H v x) (hX : SlV (fun _ => True) H w X) : AFn Tryd.prog F_eval_Value [v,w] H fun u H' => u = .tuple #[.int .i64 (x.value X),.int .i64 (x.valueE X)] ∧ H' = H:=by
 refine AFn.calm (fun H0 hs => ?_) rfl
 have hx0:=hx.same hs
 have hX0:=hX.same hs
 obtain ⟨iv,cv,sv,rfl,i1,i2,i3,h1,h2,h3⟩:=id hx0
 obtain ⟨wa,wc,rfl⟩:=hX.slice
 refine AFn.enter mixed ir_eval_Value_eq (by simp [ir_eval_Value]) fun hw => ?_
 have bc : (H0.alloc (.row (instC x iv cv sv) T_inst_Inst true)).cells H0.next = some (instC x iv cv sv):=AH.cells_alloc_new
 have k1 : Keep [] H0 (H0.alloc (.row (instC x iv cv sv) T_inst_Inst true)):=.alloc
 have w1:=WF.alloc hw (B:=.row (instC x iv cv sv) T_inst_Inst true)
 have hX1:=hX0.kept hw k1
 have hx1:=hx0.kept hw k1
 generalize hq : H0.next = q at *
 simp (disch:=omega) [-getElem?_pos,if_pos,if_neg,decide_eq_true,decide_eq_false,ir_eval_Value,hq,inst_cut]
 generalize H0.alloc (.row (instC x iv cv sv) T_inst_Inst true) = H1 at *
 refine AFn.pure (Check_spec hx1) ?_
 unfold InstD.value InstD.valueE
 by_cases hc : x.check = 0
 ·have hok:=InstD.check_ok.1 hc
  simp (disch:=omega) [-getElem?_pos,if_pos,if_neg,decide_eq_true,decide_eq_false,hc,bc,inst_cut]
  refine AFn.pure (may_spec hx1 hX1 hok) ?_
  cases hmy : x.may X with
  | false => simp (disch:=omega) [-getElem?_pos,if_pos,if_neg,decide_eq_true,decide_eq_false,]
  | true =>
   have hp:=may_part hok hmy
   have hb:=parts_sum hok hp
   have hfit : fitsI (x.parts X).sum = true:=by unfold fitsI; simp; omega
   have hsh : shortI (x.parts X).sum = (x.parts X).sum:=by unfold shortI; rw [if_pos hfit]
   have hfew:=hp.few
   have hpl : (x.parts X).length = X.length:=by simp [InstD.parts]
   simp (disch:=omega) [-getElem?_pos,if_pos,if_neg,decide_eq_true,decide_eq_false,bc,inst_cut]
   refine (parts_spec hx1 hX1 hok hp).mono' fun u H2 w2 ⟨S,hA,k2,hS⟩ => ?_
   have hs:=Sum_spec (hA.slv (q:=fun _ => True) (fun _ h => h.elim) (fun _ _ => trivial) (by omega)) (by omega)
   rw [hfit,hsh] at hs
   obtain ⟨ua,uc,rfl⟩:=hA.slice
   generalize (x.parts X).sum = s at *
   simp (disch:=omega) [-getElem?_pos,if_pos,if_neg,decide_eq_true,decide_eq_false,]
   refine AFn.pure hs ?_
   simp (disch:=omega) [-getElem?_pos,if_pos,if_neg,decide_eq_true,decide_eq_false,]
 ·simp (disch:=omega) [-getElem?_pos,if_pos,if_neg,decide_eq_true,decide_eq_false,hc]
theorem Cost_spec {H : AH} {v w : Value} {x : InstD} {X : List Int} (hx : InstV (fun _ => True) H v x) (hX : SlV (fun _ => True) H w X) : AFn Tryd.prog F_eval_Cost [v,w] H fun u H' => u = .tuple #[.int .i64 (x.costOf X),.int .i64 (x.valueE X)] ∧ H' = H:=by
 refine AFn.calm (fun H0 hs => ?_) rfl
 have hx0:=hx.same hs
 have hX0:=hX.same hs
 obtain ⟨iv,cv,sv,rfl,i1,i2,i3,h1,h2,h3⟩:=id hx0
 obtain ⟨wa,wc,rfl⟩:=hX.slice
 refine AFn.enter mixed ir_eval_Cost_eq (by simp [ir_eval_Cost]) fun hw => ?_
 have bc : (H0.alloc (.row (instC x iv cv sv) T_inst_Inst true)).cells H0.next = some (instC x iv cv sv):=AH.cells_alloc_new
 have k1 : Keep [] H0 (H0.alloc (.row (instC x iv cv sv) T_inst_Inst true)):=.alloc
 have w1:=WF.alloc hw (B:=.row (instC x iv cv sv) T_inst_Inst true)
 have hX1:=hX0.kept hw k1
 have hx1:=hx0.kept hw k1
 generalize hq : H0.next = q at *
 simp (disch:=omega) [-getElem?_pos,if_pos,if_neg,decide_eq_true,decide_eq_false,ir_eval_Cost,hq,inst_cut]
 generalize H0.alloc (.row (instC x iv cv sv) T_inst_Inst true) = H1 at *
 refine AFn.pure (Value_spec hx1 hX1) ?_
 have hvb : -8796093022208 ≤ x.value X ∧ x.value X ≤ 8796093022208:=by
  unfold InstD.value
  split
  ·rename_i hc
   split
   ·rename_i hm
    exact parts_sum (InstD.check_ok.1 hc) (may_part (InstD.check_ok.1 hc) hm)
   ·omega
  ·omega
 simp only [instC] at bc
 unfold InstD.costOf
 by_cases k0 : x.kind = 0
 ·have k0T:=eq_true k0
  generalize x.value X = s at *
  have hwr : IntKind.i64.wrap (-s) = -s:=IntWalk.i64_in _ (by omega)
  simp (disch:=omega) [-getElem?_pos,if_pos,if_neg,decide_eq_true,decide_eq_false,bc,k0T,hwr]
 ·have k0F:=eq_false k0
  simp (disch:=omega) [-getElem?_pos,if_pos,if_neg,decide_eq_true,decide_eq_false,bc,k0F]
end Go.Proofs.YtlcddhgfkkjhkaaDoor
