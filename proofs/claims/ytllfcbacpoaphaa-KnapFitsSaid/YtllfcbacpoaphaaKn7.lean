/-
  package knap: what may be; the order of worth.
-/
import Derived.Test.YtllfcbacpoaphaaKn6
import Derived.Test.YtllfcbacpoaphaaKsel
set_option maxRecDepth 100000
set_option linter.unusedSimpArgs false
set_option linter.unusedVariables false
namespace Go.Abs
def inM (n : Int) : Bool:=decide (0 ≤ n ∧ n ≤ 2147483648)
theorem inM_iff {n : Int} : inM n = true ↔ 0 ≤ n ∧ n ≤ 2147483648:=decide_eq_true_iff
def goodI (x : Int × Int) : Bool:=inM x.1 && inM x.2
def allG (L : List (Int × Int)) : Bool:=L.all goodI
theorem allG_iff {L : List (Int × Int)} : allG L = true ↔ ∀ x ∈ L,goodI x = true:=List.all_eq_true
def mayB (L : List (Int × Int)) (room : Int) : Bool:=decide (L.length ≤ 4096) && inM room && allG L
theorem mayB_iff {L : List (Int × Int)} {room : Int} : mayB L room = true ↔ ItOk L room:=by
 unfold mayB
 rw [Bool.and_eq_true,Bool.and_eq_true,decide_eq_true_iff,inM_iff,allG_iff]
 constructor
 ·rintro ⟨⟨h1,h2⟩,h3⟩
  refine ⟨h1,h2,fun x hx => ?_⟩
  have:=h3 x hx
  unfold goodI at this
  rw [Bool.and_eq_true,inM_iff,inM_iff] at this
  exact this
 ·rintro ⟨h1,h2,h3⟩
  refine ⟨⟨h1,h2⟩,fun x hx => ?_⟩
  unfold goodI
  rw [Bool.and_eq_true,inM_iff,inM_iff]
  exact h3 x hx
end Go.Abs
namespace Go.Proofs.Ytllfcbacpoaphaa
open Go Go.Abs
theorem within_spec {H : AH} (n : Int) : AFn Try.prog F_knap_within [.int .i64 n] H fun u H' => u = .bool (inM n) ∧ H' = H:=by
 refine AFn.enter mixed ir_knap_within_eq (by simp [ir_knap_within]) fun hw => ?_
 unfold inM
 by_cases h1 : 0 ≤ n
 ·by_cases h2 : n ≤ 2147483648
  ·simp (disch:=omega) [-getElem?_pos,if_pos,if_neg,decide_eq_true,decide_eq_false,ir_knap_within,h1,h2]
  ·simp (disch:=omega) [-getElem?_pos,if_pos,if_neg,decide_eq_true,decide_eq_false,ir_knap_within,h1,h2]
 ·simp (disch:=omega) [-getElem?_pos,if_pos,if_neg,decide_eq_true,decide_eq_false,ir_knap_within,h1]
theorem bad_spec {H : AH} {x : Int × Int} : AFn Try.prog F_knap_may_1 [itV x] H fun u H' => u = .bool (!goodI x) ∧ H' = H:=by
 refine AFn.calm (fun H0 hs => ?_) rfl
 refine AFn.enter mixed ir_knap_may_1_eq (by simp [ir_knap_may_1]) fun hw => ?_
 have w1:=fun H => @within_spec H x.1
 have w2:=fun H => @within_spec H x.2
 unfold goodI
 obtain ⟨a,b⟩:=x
 unfold itV
 simp only at w1 w2 ⊢
 simp (disch:=omega) [-getElem?_pos,if_pos,if_neg,decide_eq_true,decide_eq_false,ir_knap_may_1]
 refine AFn.pure (w1 _) ?_
 cases inM a with
 | true =>
  simp (disch:=omega) [-getElem?_pos,if_pos,if_neg,decide_eq_true,decide_eq_false,]
  refine AFn.pure (w2 _) ?_
  cases inM b <;> simp (disch:=omega) [-getElem?_pos,if_pos,if_neg,decide_eq_true,decide_eq_false,]
 | false => simp (disch:=omega) [-getElem?_pos,if_pos,if_neg,decide_eq_true,decide_eq_false,]
def IxP (L : List (Int × Int)) (u : Value) : Prop:=∃ z : Int,u = .int .i64 z ∧ (0 ≤ z ↔ allG L = false)
def IxfI (H : AH) (v : Value) (L : List (Int × Int)) (k : Nat) (env : Env) (H' : AH) : Prop :=
 H' = H ∧ env 0 = some v ∧ env 1 = some (.func (.func F_knap_may_1) #[] #[]) ∧ env 7 = some (.int .i64 L.length) ∧ env 8 = some (.int .i64 k) ∧ ∀ i (h : i < L.length),i < k → goodI L[i] = true
theorem anyBad_spec {p : Nat → Prop} {H : AH} {v : Value} {L : List (Int × Int)} (hL : SlV p H v L) : AFn Try.prog F_slices_ContainsFunc_Linst_Item_inst_Item [v,.func (.func F_knap_may_1) #[] #[]] H fun u H' => u = .bool (!allG L) ∧ H' = H:=by
 refine AFn.enter mixed ir_slices_ContainsFunc_Linst_Item_inst_Item_eq (by simp [ir_slices_ContainsFunc_Linst_Item_inst_Item]) fun hw => ?_
 have hix : AFn Try.prog F_slices_IndexFunc_Linst_Item_inst_Item [v,.func (.func F_knap_may_1) #[] #[]] H fun u H' => IxP L u ∧ H' = H:=by
  refine AFn.enter mixed ir_slices_IndexFunc_Linst_Item_inst_Item_eq (by simp [ir_slices_IndexFunc_Linst_Item_inst_Item]) fun hw => ?_
  obtain ⟨va,vc,rfl⟩:=hL.slice
  simp (disch:=omega) [-getElem?_pos,if_pos,if_neg,decide_eq_true,decide_eq_false,ir_slices_IndexFunc_Linst_Item_inst_Item]
  refine wpC_use (loop_upto L.length (IxfI H (.slice va L.length vc) L) (Q:=fun e env H' => H' = H ∧ ((e = .exit 0 ∧ allG L = true) ∨ (e = .ret ∧ ∃ z : Int,0 ≤ z ∧ env 4 = some (.int .i64 z) ∧ allG L = false))) ⟨rfl,by simp,by simp,by simp,by simp,fun i h h2 => by omega⟩ ?_) ?_
  ·rintro k env H' hk ⟨rfl,e0,e1,e7,e8,hg⟩
   by_cases hkn : k < L.length
   ·obtain ⟨b0,off,sp,cap,cs,hcv,q1,q2⟩:=pairs_rd hL (by omega)
    obtain ⟨g1,g2,g3,g4,g5⟩:=q2 k hkn
    cases hcv
    have hb:=@bad_spec H' L[k]
    have hmx:=hL.max
    unfold itV at hb
    have hgk : goodI L[k] = false → allG L = false:=fun h => by
     cases hh : allG L with
     | false => rfl
     | true =>
      rw [allG_iff] at hh
      rw [hh _ (List.getElem_mem hkn)] at h; cases h
    have hgn : goodI L[k] = true → ∀ i (h : i < L.length),i < k + 1 → goodI L[i] = true:=fun h i hi h2 => by
     by_cases hik : i = k
     ·subst hik; exact h
     ·exact hg i hi (by omega)
    generalize goodI L[k] = gk at *
    generalize L[k] = x at *
    simp (disch:=omega) [-getElem?_pos,if_pos,if_neg,decide_eq_true,decide_eq_false,ir_slices_IndexFunc_Linst_Item_inst_Item_l0,e0,e1,e7,e8,hkn,q1,g1]
    refine AFn.pure hb ?_
    cases gk with
    | true =>
     simp (disch:=omega) [-getElem?_pos,if_pos,if_neg,decide_eq_true,decide_eq_false,e8,IntWalk.i64_in]
     exact ⟨hkn,rfl,by simp [e0],by simp [e1],by simp [e7],by simp,hgn rfl⟩
    | false =>
     simp (disch:=omega) [-getElem?_pos,if_pos,if_neg,decide_eq_true,decide_eq_false,e8]
     exact ⟨k,by omega,rfl,hgk rfl⟩
   ·obtain rfl : k = L.length:=by omega
    simp (disch:=omega) [-getElem?_pos,if_pos,if_neg,decide_eq_true,decide_eq_false,ir_slices_IndexFunc_Linst_Item_inst_Item_l0,e7,e8]
    rw [allG_iff]
    intro x hx
    obtain ⟨i,hi,rfl⟩:=List.getElem_of_mem hx
    exact hg i hi hi
  ·rintro e env2 H2 ⟨rfl,⟨rfl,hq⟩ | ⟨rfl,z,hz,e4,hq⟩⟩ _
   ·simp (disch:=omega) [-getElem?_pos,if_pos,if_neg,decide_eq_true,decide_eq_false,]
    exact ⟨-1,rfl,fun h => by omega,fun h => by rw [hq] at h; cases h⟩
   ·simp (disch:=omega) [-getElem?_pos,if_pos,if_neg,decide_eq_true,decide_eq_false,e4]
    exact ⟨z,rfl,fun _ => hq,fun _ => hz⟩
 simp (disch:=omega) [-getElem?_pos,if_pos,if_neg,decide_eq_true,decide_eq_false,ir_slices_ContainsFunc_Linst_Item_inst_Item]
 refine hix.mono' fun u H2 w2 ⟨⟨z,hu,hz⟩,hH⟩ => ?_
 subst hu hH
 cases hg : allG L with
 | true =>
  have hz' : ¬ 0 ≤ z:=fun h => by rw [hz.1 h] at hg; cases hg
  simp (disch:=omega) [-getElem?_pos,if_pos,if_neg,decide_eq_true,decide_eq_false,hz']
 | false =>
  have hz' : 0 ≤ z:=hz.2 hg
  simp (disch:=omega) [-getElem?_pos,if_pos,if_neg,decide_eq_true,decide_eq_false,hz']
theorem may_spec {p : Nat → Prop} {H : AH} {v : Value} {L : List (Int × Int)} (hL : SlV p H v L) (room : Int) : AFn Try.prog F_knap_may [v,.int .i64 room] H fun u H' => u = .bool (mayB L room) ∧ H' = H:=by
 refine AFn.enter mixed ir_knap_may_eq (by simp [ir_knap_may]) fun hw => ?_
 have ha:=anyBad_spec hL
 have hi:=@within_spec H room
 obtain ⟨va,vc,rfl⟩:=hL.slice
 unfold mayB
 generalize inM room = ir at *
 generalize allG L = ag at *
 by_cases h : L.length ≤ 4096
 ·have h' : (L.length : Int) ≤ 4096:=by omega
  simp (disch:=omega) [-getElem?_pos,if_pos,if_neg,decide_eq_true,decide_eq_false,ir_knap_may,h']
  refine AFn.pure hi ?_
  cases ir with
  | true =>
   simp (disch:=omega) [-getElem?_pos,if_pos,if_neg,decide_eq_true,decide_eq_false,]
   refine AFn.pure ha ?_
   cases ag <;> simp (disch:=omega) [-getElem?_pos,if_pos,if_neg,decide_eq_true,decide_eq_false,h]
  | false => simp (disch:=omega) [-getElem?_pos,if_pos,if_neg,decide_eq_true,decide_eq_false,]
 ·have h' : ¬ (L.length : Int) ≤ 4096:=by omega
  have hF:=decide_eq_false h
  simp (disch:=omega) [-getElem?_pos,if_pos,if_neg,decide_eq_true,decide_eq_false,ir_knap_may,h',hF]
/-! ### the order of worth -/
def ordL (L : List (Int × Int)) : List Int:=if mayB L 0 then ordW L else []
def upto (n k : Nat) : List Int:=(List.range n).map fun (i : Nat) => if i < k then (i : Int) else 0
theorem upto_len {n k : Nat} : (upto n k).length = n:=by simp [upto]
theorem upto_zero (n : Nat) : rI (upto n 0) = zeros [Value.int .i64 0] n:=by
 have h : ∀ n,zeros [Value.int .i64 0] n = rI (List.replicate n 0):=fun n => by
  induction n with
  | zero => rfl
  | succ n ih => rw [List.replicate_succ,zeros,ih]; rfl
 rw [h]
 congr 1
 apply List.ext_getElem
 ·simp [upto]
 ·intro i h1 h2; simp [upto]
theorem upto_set {n k : Nat} (h : k < n) : (upto n k).set k (k : Int) = upto n (k + 1):=by
 apply List.ext_getElem
 ·simp [upto]
 ·intro i h1 h2
  rw [List.getElem_set]
  simp only [upto,List.getElem_map,List.getElem_range]
  by_cases hk : k = i
  ·subst hk; simp
  ·rw [if_neg hk]
   by_cases g : i < k
   ·rw [if_pos g,if_pos (by omega)]
   ·rw [if_neg g,if_neg (by omega)]
theorem upto_all (n : Nat) : upto n n = iota n:=by
 unfold upto iota
 apply List.map_congr_left
 intro i hi
 have:=List.mem_range.1 hi
 rw [if_pos this]
theorem gI_iota {n p : Nat} (h : p < n) : gI (iota n) p = p:=by
 rw [gI_eq (by rw [iota_len]; exact h)]
 simp [iota]
theorem slv_rI {H : AH} {q : Nat} {X : List Int} (h : H.cells q = some (rI X)) (hX : ∀ x ∈ X,I64 x) (hl : X.length ≤ 9223372036854775807) : SlV (fun b => b = q) H (.slice (some ⟨q,0,none⟩) X.length X.length) X:=by
 have hc : cut (rI X) 0 (X.length * 1) = some (rI X):=by rw [cut_eq (by rw [rI_len]; omega),List.drop_zero,List.take_of_length_le (by rw [rI_len]; omega)]
 refine ⟨⟨hl,.of (.inl rfl)⟩,rI X,⟨by rw [rI_len]; simp,.inr ⟨q,0,none,X.length,_,rfl,Nat.le_refl _,.inl rfl,h,hc,rfl⟩⟩,fun i hi => ⟨?_,hX _ (List.getElem_mem _)⟩⟩
 apply List.ext_getElem?
 intro j
 simp only [sz_int,chunk,Nat.mul_one]
 by_cases hj : j = 0
 ·subst hj
  rw [List.getElem?_take_of_lt (by omega),List.getElem?_drop,Nat.add_zero,rI_get hi,gI_eq hi]; rfl
 ·rw [List.getElem?_eq_none (by simp; omega),List.getElem?_eq_none (by simp; omega)]
def OrI (H1 : AH) (b n q : Nat) (k : Nat) (env : Env) (H' : AH) : Prop :=
 env 1 = some (.pointer (some ⟨q,0,none⟩)) ∧ env 3 = some (.slice (some ⟨b,0,none⟩) n n) ∧ env 12 = some (.int .i64 n) ∧ env 13 = some (.int .i64 k) ∧ H' = dH H1 b (upto n k)
theorem ord_l0 {H1 H : AH} {b n q : Nat} (hn : n ≤ 5000) {env : Env} (h : OrI H1 b n q 0 env H) : wpC Try.prog 25 (.loop ir_knap_Order_l0) (fun e env' H' => e = .exit 0 ∧ OrI H1 b n q n env' H') env H:=by
 refine loop_upto n (OrI H1 b n q) (Q:=fun e env' H' => e = .exit 0 ∧ OrI H1 b n q n env' H') h ?_
 rintro k env H' hk ⟨e1,e3,e12,e13,rfl⟩
 by_cases hkn : k < n
 ·have hw:=dH_write (H0:=H1) (b:=b) (i:=k) (X:=upto n k) (a:=(k : Int)) (by rw [upto_len]; exact hkn)
  rw [upto_set hkn] at hw
  have hce:=dH_cells (H0:=H1) (b:=b) (X:=upto n k)
  have hkn' : (k : Int) < (n : Int):=by omega
  simp (disch:=omega) [-getElem?_pos,if_pos,if_neg,decide_eq_true,decide_eq_false,ir_knap_Order_l0,e1,e3,e12,e13,hkn,hkn',hce,hw,IntWalk.i64_in]
  exact ⟨by simp [e1],by simp [e3],by simp [e12],by simp⟩
 ·obtain rfl : k = n:=by omega
  simp (disch:=omega) [-getElem?_pos,if_pos,if_neg,decide_eq_true,decide_eq_false,ir_knap_Order_l0,e12,e13]
  exact ⟨e1,e3,e12,e13,rfl⟩
theorem Order_spec {H : AH} {v : Value} {L : List (Int × Int)} (hL : SlV (fun b => b < H.next) H v L) (hl : L.length ≤ 40) : AFn Try.prog F_knap_Order [v] H fun u H' => SlV (fun b => H.next ≤ b ∧ b < H'.next) H' u (ordL L) ∧ Keep [] H H':=by
 refine AFn.enter mixed ir_knap_Order_eq (by simp [ir_knap_Order]) fun hw => ?_
 obtain ⟨va,vc,rfl⟩:=hL.slice
 simp (disch:=omega) [-getElem?_pos,if_pos,if_neg,decide_eq_true,decide_eq_false,ir_knap_Order]
 generalize hH1 : AH.alloc H _ = H1
 have k1 : Keep [] H H1:=by rw [← hH1]; exact .alloc
 have w1 : WF H1:=by rw [← hH1]; exact hw.alloc
 have n1 : H1.next = H.next + 1:=by rw [← hH1]; simp
 have c1 : H1.cells H.next = some [.slice va L.length vc]:=by rw [← hH1]; simp
 clear hH1
 have hL1:=hL.kept hw k1
 refine AFn.pure (may_spec hL1 0) ?_
 unfold ordL
 cases hm : mayB L 0 with
 | false =>
  simp (disch:=omega) [-getElem?_pos,if_pos,if_neg,decide_eq_true,decide_eq_false,]
  exact ⟨SlV.nil,k1⟩
 | true =>
  have hok:=mayB_iff.1 hm
  have hz:=upto_zero L.length
  simp (disch:=omega) [-getElem?_pos,if_pos,if_neg,decide_eq_true,decide_eq_false,c1,← hz]
  obtain ⟨n,hn⟩ : ∃ n,n = L.length:=⟨_,rfl⟩
  rw [← hn] at hl hz ⊢
  obtain ⟨b,hb⟩ : ∃ b,b = H1.next:=⟨_,rfl⟩
  obtain ⟨H2,hH2⟩ : ∃ H2,H2 = H1.alloc (.row (rI (upto n 0)) T_int true):=⟨_,rfl⟩
  have b2 : H2.blk b = some (.row (rI (upto n 0)) T_int true):=by rw [hH2,hb]; exact AH.alloc_blk_new
  have k2 : Keep [] H1 H2:=by rw [hH2]; exact .alloc
  have w2 : WF H2:=by rw [hH2]; exact w1.alloc
  have n2 : H2.next = H1.next + 1:=by rw [hH2]; simp
  rw [← hH2,← hb]
  have hself : H2 = dH H2 b (upto n 0):=(AH.set_selfK b2).symm
  clear hH2
  have c2:=cells_kept w1 k2 c1
  have hL2:=hL1.kept w1 k2
  refine wpC_use (ord_l0 (H1:=H2) (b:=b) (n:=n) (q:=H.next) (by omega) ⟨by simp,by simp,by simp,by simp,hself⟩) ?_
  rintro e env2 H3 ⟨rfl,e1,e3,e12,e13,rfl⟩ _
  rw [upto_all]
  have hC : MgC H2 H.next b n L (iota n):=by
   refine ⟨iota_len n,by omega,⟨⟨_,c2,hL2.mono fun c hc => by omega⟩,by omega,by omega⟩,fun x hx => ?_,hok.wt⟩
   have:=iota_mem.1 hx
   omega
  have hst:=stable_spec hC hl (fun p q h1 h2 => by rw [gI_iota (by omega),gI_iota h2]; omega)
  unfold ordC at hst
  simp (disch:=omega) [-getElem?_pos,if_pos,if_neg,decide_eq_true,decide_eq_false,e1,e3]
  refine hst.mono' fun u H4 w4 ⟨M,hH4,hS,hs⟩ => ?_
  subst hH4
  simp (disch:=omega) [-getElem?_pos,if_pos,if_neg,decide_eq_true,decide_eq_false,e3]
  have hMl:=hS.length
  rw [iota_len] at hMl
  have hM : ordW L = M:=by
   unfold ordW
   rw [← hn]
   exact sortL_is (ahB_ord hok.wt) (SrtR.all (by rw [hMl]; exact hs)) hS.perm
  rw [hM]
  have hcl:=slv_rI (H:=dH H2 b M) (q:=b) (X:=M) AH.cells_set_same (fun x hx => by
   have:=iota_mem.1 (hS.perm.mem_iff.1 hx)
   unfold I64; omega) (by omega)
  rw [hMl] at hcl
  refine ⟨hcl.mono fun c hc => ?_,⟨by simp; omega,fun c hc _ => ?_⟩⟩
  ·exact ⟨by omega,by show c < H2.next; omega⟩
  ·rw [AH.set_blk_ne (by omega),k2.blk c (by omega) (by simp),k1.blk c hc (by simp)]
end Go.Proofs.Ytllfcbacpoaphaa
