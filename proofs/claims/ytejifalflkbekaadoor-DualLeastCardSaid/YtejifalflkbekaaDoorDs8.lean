/-
  package dual: Bound.
-/
import Derived.Test.YtejifalflkbekaaDoorDs7
import Derived.Test.YtejifalflkbekaaDoorNum2
set_option maxRecDepth 100000
set_option linter.unusedSimpArgs false
set_option linter.unusedVariables false
namespace Go.Abs
open Go Go.Proofs.YtejifalflkbekaaDoor.Bs
def okP (T : List Bool) (X : List Int) (i : Nat) : Bool:=decide (0 ≤ X.getD i 0) && decide (X.getD i 0 ≤ 2147483648) && (decide (X.getD i 0 = 0) || T.getD i false)
def allP (T : List Bool) (X : List Int) (k : Nat) : Bool:=(List.range k).all (okP T X)
theorem allP_succ {T : List Bool} {X : List Int} {k : Nat} : allP T X (k + 1) = (allP T X k && okP T X k):=by unfold allP; rw [List.range_succ,List.all_append]; simp
theorem allP_false {T : List Bool} {X : List Int} {k n : Nat} (h : okP T X k = false) (hk : k < n) : allP T X n = false:=by
 unfold allP
 rw [List.all_eq_false]
 exact ⟨k,List.mem_range.2 hk,by rw [h]; simp⟩
theorem allP_at {T : List Bool} {X : List Int} {n : Nat} (h : allP T X n = true) : ∀ i,i < n → okP T X i = true:=fun i hi => List.all_eq_true.1 h i (List.mem_range.2 hi)
def fairS (X : List Int) (s : SetD) : Bool:=decide (spentP X s.elems ≤ s.cost)
noncomputable def bdA (L : List SetD) (T : List Bool) (X : List Int) : Bool:=mayD T.length L && (decide (X.length = T.length) && (allP T X X.length && L.all (fairS X)))
noncomputable def bdV (L : List SetD) (T : List Bool) (X : List Int) : Value:=.tuple #[.int .i64 (if bdA L T X then X.sum else 0),.bool (bdA L T X)]
theorem okP_big {T : List Bool} {X : List Int} (h : allP T X X.length = true) : ∀ i,0 ≤ X.getD i 0 ∧ X.getD i 0 ≤ 2147483648:=fun i => by
 by_cases hi : i < X.length
 ·have:=allP_at h i hi
  unfold okP at this
  simp only [Bool.and_eq_true,decide_eq_true_eq] at this
  exact this.1
 ·rw [List.getD_eq_getElem?_getD,List.getElem?_eq_none (by omega)]; simp
theorem sumX_bound {X : List Int} (h : ∀ i,0 ≤ X.getD i 0 ∧ X.getD i 0 ≤ 2147483648) : 0 ≤ X.sum ∧ X.sum ≤ (X.length : Int) * 2147483648:=by
 induction X with
 | nil => simp
 | cons a X ih =>
  have h0:=h 0
  simp at h0
  have:=ih fun i => by have:=h (i + 1); simpa using this
  simp only [List.sum_cons,List.length_cons]; omega
theorem spent_list {P E : List Int} : (E.map fun e => P.getD e.toNat 0).sum = spentP P E:=rfl
end Go.Abs
namespace Go.Proofs.YtejifalflkbekaaDoor
open Go Go.Abs Go.Proofs.YtejifalflkbekaaDoor.Bs
theorem push_n {H H1 : AH} {ty : Nat} {v : Value} {L : List Int} {S : List Nat} (hw : WF H1) (hA : OwnL (fun _ => False) H1 ty v L S) (hk : Keep [] H H1) (hS : ∀ b ∈ S,H.next ≤ b) {a : Int} (ha : I64 a) (hl : L.length ≤ 1000) :
  ∃ va vc H2 S',appendA (H1.alloc (.row [.int .i64 a] ty true)) ty 1 8 v 1 [.int .i64 a] = some (.slice va (L.length + 1) vc,H2) ∧ WF H2 ∧ OwnL (fun _ => False) H2 ty (.slice va (L.length + 1) vc) (L ++ [a]) S' ∧ Keep [] H H2 ∧ (∀ b ∈ S',H.next ≤ b) ∧ Keep S H1 H2 ∧ ∀ b ∈ S',b ∈ S ∨ H1.next ≤ b:=by
 obtain ⟨va,vc,Hd,S',p1,hA',kd,wd,i1⟩:=hA.push (q:=fun _ => False) hw (cs:=[.int .i64 a]) (a:=a) ⟨rfl,ha⟩ ty 8 (fun _ h => h) (fun b hb => hb.elim) (by simp) (by omega) (by omega)
 have hn:=hk.next
 refine ⟨va,vc,Hd,S',p1,wd,hA',hk.trans kd (fun b hb hlt => by have:=hS b hb; omega),fun b hb => ?_,kd,i1⟩
 rcases i1 b hb with h | h
 ·exact hS b h
 ·omega
def FaI (H1 : AH) (q : Nat) (pv : Value) (P E : List Int) (ev : Value) (k : Nat) (env : Env) (H' : AH) : Prop :=
 env 1 = some pv ∧ env 2 = some (.pointer (some ⟨q,0,none⟩)) ∧ env 11 = some ev ∧ env 12 = some (.int .i64 E.length) ∧ env 13 = some (.int .i64 k) ∧ WF H' ∧ Keep [] H1 H' ∧ ∃ a S,env 5 = some a ∧ OwnL (fun _ => False) H' T_int64 a ((E.take k).map fun e => P.getD e.toNat 0) S ∧ ∀ c ∈ S,H1.next ≤ c
def FaQ (H1 : AH) (q : Nat) (P E : List Int) (x : AExit) (env : Env) (H' : AH) : Prop:=x = .exit 0 ∧ env 2 = some (.pointer (some ⟨q,0,none⟩)) ∧ WF H' ∧ Keep [] H1 H' ∧ ∃ a S,env 5 = some a ∧ OwnL (fun _ => False) H' T_int64 a (E.map fun e => P.getD e.toNat 0) S ∧ ∀ c ∈ S,H1.next ≤ c
theorem fair_l0 {p q' : Nat → Prop} {H1 : AH} {q : Nat} {ev pv : Value} {P E : List Int} (hw : WF H1) (hE : SlV p H1 ev E) (hP : SlV q' H1 pv P) (hl : E.length ≤ 1000) (hin : ∀ e ∈ E,0 ≤ e ∧ e < P.length) {env : Env} (h : FaI H1 q pv P E ev 0 env H1) :
  wpC Tryd.prog 37 (.loop ir_dual_fair_l0) (FaQ H1 q P E) env H1:=by
 refine loop_upto E.length (FaI H1 q pv P E ev) (Q:=FaQ H1 q P E) h ?_
 rintro k env H' hk ⟨e1,e2,e11,e12,e13,w',k',a,S,e5,hA,hS⟩
 by_cases hkn : k < E.length
 ·obtain ⟨b0,off,sp,cap,cs,hv,q1,q2⟩:=ints_rd (hE.kept hw k') (by omega)
  obtain ⟨q3,_⟩:=q2 k hkn
  subst hv
  have hk1:=hin E[k] (List.getElem_mem hkn)
  obtain ⟨m,hm⟩ : ∃ m : Nat,E[k] = (m : Int):=⟨E[k].toNat,by omega⟩
  have htk : (E.take (k + 1)).map (fun e => P.getD e.toNat 0) = (E.take k).map (fun e => P.getD e.toNat 0) ++ [P.getD m 0]:=by
   rw [List.take_succ_eq_append_getElem hkn,List.map_append,hm]; rfl
  rw [hm] at q3 hk1
  have hmP : m < P.length:=by omega
  have hmP' : (m : Int) < (P.length : Int):=by omega
  obtain ⟨b1,off1,sp1,cap1,cs1,hv1,p1,p2⟩:=ints_rd (hP.kept hw k') (by omega)
  obtain ⟨p3,i3⟩:=p2 m hmP
  subst hv1
  have hg : P.getD m 0 = P[m]:=by rw [List.getD_eq_getElem?_getD,List.getElem?_eq_getElem hmP]; rfl
  have htl : ((E.take k).map fun e => P.getD e.toNat 0).length = k:=by rw [List.length_map,List.length_take]; omega
  rw [hg] at htk
  obtain ⟨aa,ac,rfl⟩:=hA.slice
  obtain ⟨va,vc,H2,S',r1,w2,hA2,k2,hS2,_,_⟩:=push_n w' hA k' hS (a:=P[m]) i3 (by omega)
  have pE : elemsA (H'.alloc (.row [.int .i64 P[m]] T_int64 true)) 1 (.slice (some ⟨H'.next,0,none⟩) 1 1) = some [.int .i64 P[m]]:=elems_one rfl
  rw [← htk] at hA2
  rw [htl] at r1 hA2
  generalize P[m] = x at *
  simp (disch:=omega) [-getElem?_pos,if_pos,if_neg,decide_eq_true,decide_eq_false,ir_dual_fair_l0,e1,e2,e5,e11,e12,e13,hkn,q1,q3,p1,p3,hmP,hmP',pE,r1,IntWalk.i64_in]
  exact ⟨by simp [e1],by simp [e2],by simp [e11],by simp [e12],by simp,w2,k2,_,S',by simp,hA2,hS2⟩
 ·obtain rfl : k = E.length:=by omega
  rw [List.take_length] at hA
  simp (disch:=omega) [-getElem?_pos,if_pos,if_neg,decide_eq_true,decide_eq_false,ir_dual_fair_l0,e12,e13]
  exact ⟨rfl,e2,w',k',a,S,e5,hA,hS⟩
theorem fair_spec {p q' : Nat → Prop} {H : AH} {ev pv : Value} {c : Int} {P E : List Int} (hE : SlV p H ev E) (hP : SlV q' H pv P) (hl : E.length ≤ 1000) (hin : ∀ e ∈ E,0 ≤ e ∧ e < P.length) (hb : ∀ i,0 ≤ P.getD i 0 ∧ P.getD i 0 ≤ 2147483648) :
  AFn Tryd.prog F_dual_fair [.agg #[.int .i64 c,ev],pv] H fun u H' => u = .bool (decide (spentP P E ≤ c)) ∧ H' = H:=by
 refine AFn.calm (fun H0 hsm => ?_) rfl
 have hE0:=hE.same hsm
 have hP0:=hP.same hsm
 refine AFn.enter mixed ir_dual_fair_eq (by simp [ir_dual_fair]) fun hw => ?_
 have k1 : Keep [] H0 (H0.alloc (.row [.int .i64 c,ev] T_inst_Set true)):=.alloc
 have w1 : WF (H0.alloc (.row [.int .i64 c,ev] T_inst_Set true)):=hw.alloc
 have hE1:=hE0.kept hw k1
 have hP1:=hP0.kept hw k1
 have hc1 : (H0.alloc (.row [.int .i64 c,ev] T_inst_Set true)).cells H0.next = some [.int .i64 c,ev]:=AH.cells_alloc_new
 obtain ⟨va,vc,rfl⟩:=hE.slice
 simp (disch:=omega) [-getElem?_pos,if_pos,if_neg,decide_eq_true,decide_eq_false,ir_dual_fair]
 generalize H0.alloc (.row [.int .i64 c,.slice va E.length vc] T_inst_Set true) = H1 at *
 refine wpC_use (fair_l0 (q:=H0.next) w1 hE1 hP1 hl hin ⟨by simp,by simp,by simp,by simp,by simp,w1,.refl,.slice none 0 0,[],by simp,.nil,by simp⟩) ?_
 rintro x env2 H2 ⟨rfl,f2,w2,k2,a,S,f5,hA,hS⟩ _
 have c2:=cells_kept w1 k2 hc1
 have hAs:=hA.slv (q:=fun _ => True) (fun _ _ => trivial) (fun _ _ => trivial) (by rw [List.length_map]; omega)
 have hsum:=Sum_spec hAs (by rw [List.length_map]; omega)
 rw [spent_list] at hsum
 have hbd:=spentP_bound (P:=P) (fun i => by have:=hb i; omega) E (by omega)
 have hft : fitsI (spentP P E) = true:=decide_eq_true (by omega)
 have hsh : shortI (spentP P E) = spentP P E:=by unfold shortI; rw [hft]; rfl
 rw [hft,hsh] at hsum
 generalize spentP P E = s at *
 obtain ⟨aa,ac,rfl⟩:=hA.slice
 rw [List.length_map] at hsum
 simp (disch:=omega) [-getElem?_pos,if_pos,if_neg,decide_eq_true,decide_eq_false,f2,f5]
 refine AFn.pure hsum ?_
 simp (disch:=omega) [-getElem?_pos,if_pos,if_neg,decide_eq_true,decide_eq_false,f2,c2]
def B1I (H1 : AH) (q : Nat) (lv xv : Value) (L : List SetD) (T : List Bool) (X : List Int) (k : Nat) (env : Env) (H' : AH) : Prop :=
 H' = H1 ∧ env 1 = some lv ∧ env 2 = some xv ∧ env 3 = some (.pointer (some ⟨q,0,none⟩)) ∧ env 24 = some xv ∧ env 25 = some (.int .i64 X.length) ∧ env 26 = some (.int .i64 k) ∧ allP T X k = true
def B1Q (H1 : AH) (lv xv : Value) (T : List Bool) (X : List Int) (x : AExit) (env : Env) (H' : AH) : Prop :=
 (x = .exit 0 ∧ H' = H1 ∧ env 1 = some lv ∧ env 2 = some xv ∧ allP T X X.length = true) ∨ (x = .ret ∧ env 6 = some (.int .i64 0) ∧ env 7 = some (.bool false) ∧ allP T X X.length = false)
theorem okP_neg {T : List Bool} {X : List Int} {i : Nat} (h : X.getD i 0 < 0) : okP T X i = false:=by
 unfold okP; rw [decide_eq_false (by omega : ¬ 0 ≤ X.getD i 0)]; rfl
theorem okP_far {T : List Bool} {X : List Int} {i : Nat} (h : 2147483648 < X.getD i 0) : okP T X i = false:=by
 unfold okP; rw [decide_eq_false (by omega : ¬ X.getD i 0 ≤ 2147483648)]; simp
theorem okP_zero {T : List Bool} {X : List Int} {i : Nat} (h : X.getD i 0 = 0) : okP T X i = true:=by
 unfold okP; rw [h]; rfl
theorem okP_pos {T : List Bool} {X : List Int} {i : Nat} (h : 0 < X.getD i 0) (h2 : X.getD i 0 ≤ 2147483648) : okP T X i = T.getD i false:=by
 unfold okP; rw [decide_eq_true (by omega : 0 ≤ X.getD i 0),decide_eq_true h2,decide_eq_false (by omega)]; simp
theorem bound_l1 {p p' : Nat → Prop} {H1 : AH} {q : Nat} {lv xv sl : Value} {L : List SetD} {T : List Bool} {X : List Int} (hw : WF H1) (hX : SlV p H1 xv X) (hs : SetB p' H1 (.agg #[.int .i64 T.length,sl]) T) (hr : H1.cells q = some [.int .i64 T.length,sl]) (hl : X.length ≤ 1000) {env : Env} (h : B1I H1 q lv xv L T X 0 env H1) :
  wpC Tryd.prog 63 (.loop ir_dual_Bound_l1) (B1Q H1 lv xv T X) env H1:=by
 refine loop_upto X.length (B1I H1 q lv xv L T X) (Q:=B1Q H1 lv xv T X) h ?_
 rintro k env H' hk ⟨rfl,e1,e2,e3,e24,e25,e26,hall⟩
 by_cases hkn : k < X.length
 ·obtain ⟨b0,off,sp,cap,cs,hv,q1,q2⟩:=ints_rd hX (by omega)
  obtain ⟨q3,i3⟩:=q2 k hkn
  have hg : X.getD k 0 = X[k]:=by rw [List.getD_eq_getElem?_getD,List.getElem?_eq_getElem hkn]; rfl
  have hsu:=allP_succ (T:=T) (X:=X) (k:=k)
  have hfl:=fun h => allP_false (T:=T) (X:=X) (k:=k) (n:=X.length) h hkn
  have hp1:=okP_neg (T:=T) (X:=X) (i:=k)
  have hp2:=okP_far (T:=T) (X:=X) (i:=k)
  have hp3:=okP_zero (T:=T) (X:=X) (i:=k)
  have hp4:=okP_pos (T:=T) (X:=X) (i:=k)
  rw [hg] at hp1 hp2 hp3 hp4
  rw [hall,Bool.true_and] at hsu
  have hh:=Has_spec hs (k : Int)
  have hhb : hasB T (k : Int) = T.getD k false:=by unfold hasB; rw [decide_eq_true (by omega)]; simp
  rw [hhb] at hh
  subst hv
  generalize X[k] = x at *
  generalize T.getD k false = tk at *
  by_cases h1 : x < 0
  ·simp (disch:=omega) [-getElem?_pos,if_pos,if_neg,decide_eq_true,decide_eq_false,ir_dual_Bound_l1,e1,e2,e3,e24,e25,e26,hkn,q1,q3,h1]
   exact .inr ⟨rfl,by simp,by simp,hfl (hp1 h1)⟩
  ·by_cases h2 : 2147483648 < x
   ·simp (disch:=omega) [-getElem?_pos,if_pos,if_neg,decide_eq_true,decide_eq_false,ir_dual_Bound_l1,e1,e2,e3,e24,e25,e26,hkn,q1,q3,h1,h2]
    exact .inr ⟨rfl,by simp,by simp,hfl (hp2 h2)⟩
   ·by_cases h3 : 0 < x
    ·have hp:=hp4 h3 (by omega)
     simp (disch:=omega) [-getElem?_pos,if_pos,if_neg,decide_eq_true,decide_eq_false,ir_dual_Bound_l1,e1,e2,e3,e24,e25,e26,hkn,q1,q3,h1,h2,h3,hr,cut2v]
     refine AFn.pure hh ?_
     cases tk with
     | true =>
      simp (disch:=omega) [-getElem?_pos,if_pos,if_neg,decide_eq_true,decide_eq_false,e26,IntWalk.i64_in]
      exact ⟨hkn,rfl,by simp [e1],by simp [e2],by simp [e3],by simp [e24],by simp [e25],by simp,by rw [hsu,hp]⟩
     | false =>
      simp (disch:=omega) [-getElem?_pos,if_pos,if_neg,decide_eq_true,decide_eq_false,e26,IntWalk.i64_in]
      exact .inr ⟨rfl,by simp,by simp,hfl hp⟩
    ·have hx0 : x = 0:=by omega
     simp (disch:=omega) [-getElem?_pos,if_pos,if_neg,decide_eq_true,decide_eq_false,ir_dual_Bound_l1,e1,e2,e3,e24,e25,e26,hkn,q1,q3,h1,h2,h3,IntWalk.i64_in]
     exact ⟨rfl,by simp [e1],by simp [e2],by simp [e3],by simp [e24],by simp [e25],by simp,by rw [hsu,hp3 hx0]⟩
 ·obtain rfl : k = X.length:=by omega
  simp (disch:=omega) [-getElem?_pos,if_pos,if_neg,decide_eq_true,decide_eq_false,ir_dual_Bound_l1,e25,e26]
  exact .inl ⟨rfl,rfl,e1,e2,hall⟩
def B0I (H1 : AH) (lv xv : Value) (L : List SetD) (X : List Int) (k : Nat) (env : Env) (H' : AH) : Prop :=
 env 2 = some xv ∧ env 48 = some lv ∧ env 49 = some (.int .i64 L.length) ∧ env 50 = some (.int .i64 k) ∧ WF H' ∧ Keep [] H1 H' ∧ (L.take k).all (fairS X) = true
def B0Q (H1 : AH) (xv : Value) (L : List SetD) (X : List Int) (x : AExit) (env : Env) (H' : AH) : Prop :=
 (x = .exit 2 ∧ env 2 = some xv ∧ WF H' ∧ Keep [] H1 H' ∧ L.all (fairS X) = true) ∨ (x = .ret ∧ env 6 = some (.int .i64 0) ∧ env 7 = some (.bool false) ∧ L.all (fairS X) = false)
theorem all_take {L : List SetD} {X : List Int} {k : Nat} (h : k < L.length) : (L.take (k + 1)).all (fairS X) = ((L.take k).all (fairS X) && fairS X L[k]):=by
 rw [List.take_succ_eq_append_getElem h,List.all_append]; simp
theorem bound_l0 {p p' : Nat → Prop} {H1 : AH} {lv xv : Value} {L : List SetD} {X : List Int} {n : Nat} (hw : WF H1) (hX : SlV p H1 xv X) (hL : SlV p' H1 lv L) (hD : DOk n L) (hn : X.length = n) (hb : ∀ i,0 ≤ X.getD i 0 ∧ X.getD i 0 ≤ 2147483648) (hl : L.length ≤ 30) (hel : ∀ s ∈ L,s.elems.length ≤ 30) {env : Env} (h : B0I H1 lv xv L X 0 env H1) :
  wpC Tryd.prog 63 (.loop ir_dual_Bound_l0) (B0Q H1 xv L X) env H1:=by
 refine loop_upto L.length (B0I H1 lv xv L X) (Q:=B0Q H1 xv L X) h ?_
 rintro k env H' hk ⟨e2,e48,e49,e50,w',k',hall⟩
 by_cases hkn : k < L.length
 ·have hL':=hL.kept hw k'
  obtain ⟨b0,off,sp,cap,cs,rfl,q1,q2⟩:=sets_rd hL' (by omega)
  obtain ⟨ev,q3,q4,q5,q6,q7⟩:=q2 k hkn
  have hsl:=hel L[k] (List.getElem_mem hkn)
  have hin:=rises_mem (hD.rise L[k] (List.getElem_mem hkn))
  have hsu:=all_take (X:=X) hkn
  rw [hall,Bool.true_and] at hsu
  have hff : fairS X L[k] = false → L.all (fairS X) = false:=fun h => List.all_eq_false.2 ⟨L[k],List.getElem_mem hkn,by rw [h]; simp⟩
  obtain ⟨H3,hH3⟩ : ∃ H3,H3 = H'.alloc (.row [.int .i64 L[k].cost,ev] T_inst_Set true):=⟨_,rfl⟩
  have k3 : Keep [] H' H3:=by rw [hH3]; exact .alloc
  have w3 : WF H3:=by rw [hH3]; exact w'.alloc
  have hfr:=fair_spec (c:=L[k].cost) (q7.kept w' k3) ((hX.kept hw k').kept w' k3) (by omega) (fun e he => by have:=hin e he; rw [hn]; omega) hb
  have hfs : fairS X L[k] = decide (spentP X L[k].elems ≤ L[k].cost):=rfl
  rw [← hfs] at hfr
  generalize L[k].cost = c0 at *
  obtain ⟨xa,xc,rfl⟩:=hX.slice
  cases hb : fairS X L[k] with
  | true =>
   rw [hb] at hfr hsu
   simp (disch:=omega) [-getElem?_pos,if_pos,if_neg,decide_eq_true,decide_eq_false,ir_dual_Bound_l0,e2,e48,e49,e50,hkn,q1,q3,writeA,over,cut2v]
   rw [← hH3]
   refine AFn.pure hfr ?_
   simp (disch:=omega) [-getElem?_pos,if_pos,if_neg,decide_eq_true,decide_eq_false,e50,IntWalk.i64_in]
   exact ⟨hkn,by simp [e2],by simp [e48],by simp [e49],by simp,w3,k'.trans' k3,hsu⟩
  | false =>
   rw [hb] at hfr
   simp (disch:=omega) [-getElem?_pos,if_pos,if_neg,decide_eq_true,decide_eq_false,ir_dual_Bound_l0,e2,e48,e49,e50,hkn,q1,q3,writeA,over,cut2v]
   rw [← hH3]
   refine AFn.pure hfr ?_
   simp (disch:=omega) [-getElem?_pos,if_pos,if_neg,decide_eq_true,decide_eq_false,]
   exact .inr ⟨rfl,by simp,by simp,hff hb⟩
 ·obtain rfl : k = L.length:=by omega
  rw [List.take_length] at hall
  simp (disch:=omega) [-getElem?_pos,if_pos,if_neg,decide_eq_true,decide_eq_false,ir_dual_Bound_l0,e49,e50]
  exact .inl ⟨rfl,e2,w',k',hall⟩
theorem Bound_spec {p p' p'' : Nat → Prop} {H : AH} {sv lv xv : Value} {L : List SetD} {T : List Bool} {X : List Int} (hs : SetB p H sv T) (hL : SlV p' H lv L) (hX : SlV p'' H xv X) (hn : T.length ≤ 12) (hXl : X.length ≤ 1000) (hl : L.length ≤ 30) (hel : ∀ s ∈ L,s.elems.length ≤ 30) : AFn Tryd.prog F_dual_Bound [sv,lv,xv] H fun u H' => u = bdV L T X ∧ H' = H:=by
 refine AFn.calm (fun H0 hsm => ?_) rfl
 have hs0:=hs.same hsm
 have hL0:=hL.same hsm
 have hX0:=hX.same hsm
 clear hs hL hX
 obtain ⟨sl,rfl⟩:=setV hs0
 obtain ⟨la,lc,rfl⟩:=hL0.slice
 obtain ⟨xa,xc,rfl⟩:=hX0.slice
 refine AFn.enter mixed ir_dual_Bound_eq (by simp [ir_dual_Bound]) fun hw => ?_
 obtain ⟨H1,hH1⟩ : ∃ H1,H1 = H0.alloc (.row [.int .i64 T.length,sl] T_bitset_Set true):=⟨_,rfl⟩
 have k1 : Keep [] H0 H1:=by rw [hH1]; exact .alloc
 have w1 : WF H1:=by rw [hH1]; exact hw.alloc
 have c1 : H1.cells H0.next = some [.int .i64 T.length,sl]:=by rw [hH1]; exact AH.cells_alloc_new
 have hs1:=hs0.kept' hw k1
 have hL1:=hL0.kept hw k1
 have hX1:=hX0.kept hw k1
 obtain ⟨ap,hap⟩ : ∃ b,b = allP T X X.length:=⟨_,rfl⟩
 obtain ⟨lf,hlf⟩ : ∃ b,b = L.all (fairS X):=⟨_,rfl⟩
 have hbd : bdA L T X = (mayD T.length L && (decide (X.length = T.length) && (ap && lf))):=by rw [hap,hlf]; rfl
 unfold bdV
 rw [hbd]
 simp (disch:=omega) [-getElem?_pos,if_pos,if_neg,decide_eq_true,decide_eq_false,ir_dual_Bound,hs0.one.1,hs0.one.2,cut2v]
 rw [← hH1]
 refine AFn.pure (Size_spec hs1) ?_
 simp (disch:=omega) [-getElem?_pos,if_pos,if_neg,decide_eq_true,decide_eq_false,]
 refine AFn.pure (may_spec (n:=(T.length : Int)) (by unfold I64; omega) hL1) ?_
 cases hm : mayD T.length L with
 | false => simp (disch:=omega) [-getElem?_pos,if_pos,if_neg,decide_eq_true,decide_eq_false,]
 | true =>
  have hD:=mayD_ok hm
  simp (disch:=omega) [-getElem?_pos,if_pos,if_neg,decide_eq_true,decide_eq_false,c1,cut2v]
  refine AFn.pure (Size_spec hs1) ?_
  by_cases hxn : X.length = T.length
  ·have hxn' : (X.length : Int) = (T.length : Int):=by omega
   simp (disch:=omega) [-getElem?_pos,if_pos,if_neg,decide_eq_true,decide_eq_false,hxn']
   refine wpC_use (bound_l1 (H1:=H1) (q:=H0.next) (lv:=.slice la L.length lc) (xv:=.slice xa X.length xc) (L:=L) w1 hX1 hs1 c1 hXl ⟨rfl,by simp,by simp,by simp,by simp,by simp [hxn],by simp,rfl⟩) ?_
   rintro x env2 H2 (⟨rfl,rfl,f1,f2,hall⟩ | ⟨rfl,f6,f7,hall⟩) _
   ·have hbb:=okP_big hall
    have hsb:=sumX_bound hbb
    simp (disch:=omega) [-getElem?_pos,if_pos,if_neg,decide_eq_true,decide_eq_false,f1,f2]
    refine wpC_use (bound_l0 (H1:=H2) (lv:=.slice la L.length lc) (xv:=.slice xa X.length xc) (L:=L) w1 hX1 hL1 hD hxn hbb hl hel ⟨by simp [f2],by simp,by simp,by simp,w1,.refl,by simp⟩) ?_
    rintro x env3 H3 (⟨rfl,g2,w3,k3,hfa⟩ | ⟨rfl,g6,g7,hfa⟩) _
    ·have hsum:=Sum_spec (hX1.kept w1 k3) (by omega)
     have hft : fitsI X.sum = true:=decide_eq_true (by omega)
     have hsh : shortI X.sum = X.sum:=by unfold shortI; rw [hft]; rfl
     rw [hft,hsh] at hsum
     simp (disch:=omega) [-getElem?_pos,if_pos,if_neg,decide_eq_true,decide_eq_false,g2]
     refine AFn.pure hsum ?_
     simp (disch:=omega) [-getElem?_pos,if_pos,if_neg,decide_eq_true,decide_eq_false,hap.trans hall,hlf.trans hfa,hxn]
    ·simp (disch:=omega) [-getElem?_pos,if_pos,if_neg,decide_eq_true,decide_eq_false,g6,g7,hlf.trans hfa]
   ·simp (disch:=omega) [-getElem?_pos,if_pos,if_neg,decide_eq_true,decide_eq_false,f6,f7,hap.trans hall]
  ·have hxn' : ¬ (X.length : Int) = (T.length : Int):=by omega
   simp (disch:=omega) [-getElem?_pos,if_pos,if_neg,decide_eq_true,decide_eq_false,hxn,hxn']
end Go.Proofs.YtejifalflkbekaaDoor
