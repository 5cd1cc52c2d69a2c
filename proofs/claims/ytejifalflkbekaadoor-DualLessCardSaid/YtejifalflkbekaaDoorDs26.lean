/-
  DualLess: its loops.
-/
import Derived.Test.YtejifalflkbekaaDoorBu37
import Derived.Test.YtejifalflkbekaaDoorDs21
import Derived.Test.YtejifalflkbekaaDoorDp5
set_option maxRecDepth 100000
set_option linter.unusedSimpArgs false
set_option linter.unusedVariables false
namespace Go.Proofs.YtejifalflkbekaaDoor
open Go Go.Abs Go.Proofs.YtejifalflkbekaaDoor.Bs
theorem i64_nat_or {a b : Nat} (ha : a < 2 ^ 60) (hb : b < 2 ^ 60) : abin .or (.int .i64 a) (.int .i64 b) = some (.int .i64 ((a ||| b : Nat) : Int)):=by
 have hl : a ||| b < 2 ^ 60:=Nat.or_lt_two_pow ha hb
 have h : (BitVec.ofInt 64 (a : Int) ||| BitVec.ofInt 64 (b : Int)).toNat = a ||| b:=by
  rw [BitVec.toNat_or,BitVec.ofInt_natCast,BitVec.ofInt_natCast,BitVec.toNat_ofNat,BitVec.toNat_ofNat,Nat.mod_eq_of_lt (by omega),Nat.mod_eq_of_lt (by omega)]
 show some (Value.int .i64 (IntKind.i64.wrap ((BitVec.ofInt 64 (a : Int) ||| BitVec.ofInt 64 (b : Int)).toNat : Int))) = _
 rw [h,IntWalk.i64_in _ (by omega)]
def LxI (H1 : AH) (q : Nat) (ev : Value) (B : List Bool) (E : List Int) (k : Nat) (env : Env) (H' : AH) : Prop :=
 env 17 = some (.pointer (some ⟨q,0,none⟩)) ∧ env 90 = some ev ∧ env 91 = some (.int .i64 E.length) ∧ env 92 = some (.int .i64 k) ∧ WF H' ∧ Keep [q] H1 H' ∧ SetAt H' q [] (wipe B (E.take k))
def LxQ (H1 : AH) (q : Nat) (B : List Bool) (E : List Int) (x : AExit) (env : Env) (H' : AH) : Prop:=x = .exit 6 ∧ WF H' ∧ Keep [q] H1 H' ∧ SetAt H' q [] (wipe B E)
theorem Lx_loop {H1 : AH} {q : Nat} {ev : Value} {B : List Bool} {E : List Int} (hq : q < H1.next) (hw : WF H1) (hE : SlV (fun b => b ≠ q) H1 ev E) (hl : E.length ≤ 1000) {env : Env} (h : LxI H1 q ev B E 0 env H1) :
  wpC Tryd.prog 155 (.loop ir_law18_DualLess_l1) (LxQ H1 q B E) env H1:=by
 refine loop_upto E.length (LxI H1 q ev B E) (Q:=LxQ H1 q B E) h ?_
 rintro k env H' hk ⟨e2,e31,e32,e33,w',k',sl,hb,hs⟩
 have hn':=k'.next
 by_cases hkn : k < E.length
 ·have hE' : SlV (fun b => b ≠ q) H' ev E:=hE.sub (.keep hw k' fun b hb hc => by simp at hb; exact hc hb)
  obtain ⟨b0,off,sp,cap,cs,rfl,q1,q2⟩:=ints_rd hE' (by omega)
  obtain ⟨q3,_⟩:=q2 k hkn
  have hst : wipe B (E.take (k + 1)) = setB (wipe B (E.take k)) E[k] false:=by rw [List.take_succ_eq_append_getElem hkn,wipe_snoc]
  have hc:=AH.cells_of hb
  generalize E[k] = e at *
  generalize wipe B (E.take k) = W at *
  simp (disch:=omega) [-getElem?_pos,if_pos,if_neg,decide_eq_true,decide_eq_false,ir_law18_DualLess_l1,e2,e31,e32,e33,q1,q3,hkn,hc,cut2v]
  refine (Without_spec hs e).mono' fun u H2 w2 ⟨hs2,k2⟩ => ?_
  rw [← hst] at hs2
  have hlen : (wipe B (E.take (k + 1))).length = W.length:=by rw [hst,setB_lenF]
  obtain ⟨s2,rfl⟩:=setV hs2
  have b2:=(k2.blk q (by omega) (by simp)).trans hb
  have n2:=k2.next
  simp (disch:=omega) [-getElem?_pos,if_pos,if_neg,decide_eq_true,decide_eq_false,writeA_row b2,over,hs2.one.1,hs2.one.2,e2,e33,IntWalk.i64_in]
  refine ⟨hkn,by simp [e2],by simp [e31],by simp [e32],by simp,w2.set (by omega),k'.trans' ((k2.mono (by simp)).trans' (.set (by simp))),s2,AH.set_blk_same,?_⟩
  refine hs2.up2 (fun b hb => ?_) (fun b hb cs hcs => ?_)
  ·rcases hb with hb | hb
   ·exact hb
   ·exact ⟨by omega,by simp⟩
  ·have : b ≠ q:=by
    rcases hb with hb | hb
    ·exact hb.1
    ·omega
   rw [AH.cells_set_ne this]; exact hcs
 ·obtain rfl : k = E.length:=by omega
  rw [List.take_length] at hs hb
  simp (disch:=omega) [-getElem?_pos,if_pos,if_neg,decide_eq_true,decide_eq_false,ir_law18_DualLess_l1,e32,e33]
  exact ⟨rfl,w',k',sl,hb,hs⟩
def LxcI (H1 : AH) (q : Nat) (av : Value) (L : List SetD) (T : List Bool) (mask : Nat) (k : Nat) (env : Env) (H' : AH) : Prop :=
 env 16 = some (.int .i64 mask) ∧ env 17 = some (.pointer (some ⟨q,0,none⟩)) ∧ env 73 = some av ∧ env 74 = some (.int .i64 L.length) ∧ env 75 = some (.int .i64 k) ∧ env 18 = some (.int .i64 (costM L (msk mask) k)) ∧ WF H' ∧ Keep [q] H1 H' ∧ SetAt H' q [] (wipeM L T (msk mask) k)
def LxcQ (H1 : AH) (q : Nat) (L : List SetD) (T : List Bool) (mask : Nat) (x : AExit) (env : Env) (H' : AH) : Prop :=
 x = .exit 4 ∧ env 17 = some (.pointer (some ⟨q,0,none⟩)) ∧ env 18 = some (.int .i64 (costM L (msk mask) L.length)) ∧ WF H' ∧ Keep [q] H1 H' ∧ SetAt H' q [] (wipeM L T (msk mask) L.length)
theorem less_l2 {H1 : AH} {q n : Nat} {av : Value} {L : List SetD} {T : List Bool} {mask : Nat} (hq : q < H1.next) (hw : WF H1) (hL : SlV (fun b => b ≠ q) H1 av L) (hD : DOk n L) (hl : L.length ≤ 8) (hel : ∀ s ∈ L,s.elems.length ≤ 30) (hm : mask < 4611686018427387904) {env : Env} (h : LxcI H1 q av L T mask 0 env H1) :
  wpC Tryd.prog 155 (.loop ir_law18_DualLess_l2) (LxcQ H1 q L T mask) env H1:=by
 refine loop_upto L.length (LxcI H1 q av L T mask) (Q:=LxcQ H1 q L T mask) h ?_
 rintro k env H' hk ⟨e16,e17,e73,e74,e75,e18,w',k',hset⟩
 have hn':=k'.next
 by_cases hkn : k < L.length
 ·have hL' : SlV (fun b => b ≠ q) H' av L:=hL.sub (.keep hw k' fun b hb hc => by simp at hb; exact hc hb)
  obtain ⟨b0,off,sp,cap,cs,rfl,q1,q2⟩:=sets_rd hL' (by omega)
  obtain ⟨ev,q3,q4,q5,q6,q7⟩:=q2 k hkn
  have hbe:=hel L[k] (List.getElem_mem hkn)
  have hcs:=hD.cost L[k] (List.getElem_mem hkn)
  have hws:=wipeM_succ (T:=T) (b:=msk mask) hkn
  have hcm:=costM_succ (b:=msk mask) hkn
  have hcb:=costM_bound (b:=msk mask) hD k
  have hsh:=msk_shr (mask:=mask) (k:=k) (by omega)
  have hlt : mask / 2 ^ k < 4611686018427387904:=Nat.lt_of_le_of_lt (Nat.div_le_self _ _) hm
  have han:=i64_and1 hlt
  have hmb : msk mask k = decide (mask / 2 ^ k % 2 = 1):=rfl
  rw [hmb] at hws hcm
  generalize mask / 2 ^ k = mq at *
  have hmq : mq % 2 = 0 ∨ mq % 2 = 1:=by omega
  generalize mq % 2 = r at *
  obtain ⟨H2,hH2⟩ : ∃ H2,H2 = H'.alloc (.row [.int .i64 L[k].cost,ev] T_inst_Set true):=⟨_,rfl⟩
  have k2 : Keep [] H' H2:=by rw [hH2]; exact .alloc
  have w2 : WF H2:=by rw [hH2]; exact w'.alloc
  have n2 : H2.next = H'.next + 1:=by rw [hH2]; rfl
  have hset2:=hset.grow (S':=[]) w' k2 (by simp) (by simp)
  have k12 : Keep [q] H1 H2:=k'.trans' (k2.mono (by simp))
  have q7':=q7.kept w' k2
  have hcE:=q7.cell
  obtain ⟨ea,ec,rfl⟩:=q7.slice
  have hkb : (k : Int) ≤ 8:=by omega
  generalize costM L (msk mask) k = c0 at *
  generalize wipeM L T (msk mask) k = B at *
  have hwc : IntKind.i64.wrap (c0 + L[k].cost) = c0 + L[k].cost:=IntWalk.i64_in _ (by omega)
  have c2 : H2.cells H'.next = some [.int .i64 L[k].cost,.slice ea L[k].elems.length ec]:=by rw [hH2]; exact AH.cells_alloc_new
  rcases hmq with rfl | rfl
  ·rw [if_neg (by simp)] at hws hcm
   generalize L[k].cost = s0 at *
   simp (disch:=omega) [-getElem?_pos,if_pos,if_neg,decide_eq_true,decide_eq_false,ir_law18_DualLess_l2,e16,e17,e18,e73,e74,e75,hkn,q1,q3,↓hsh,↓han,writeA,over,cut2v,IntWalk.i64_in]
   rw [← hH2]
   exact ⟨by simp [e16],by simp [e17],by simp [e73],by simp [e74],by simp,by simp [hcm,e18],w2,k12,by rw [hws]; exact hset2⟩
  ·rw [if_pos (by simp)] at hws hcm
   generalize L[k].cost = s0 at *
   generalize L[k].elems = E at *
   simp (disch:=omega) [-getElem?_pos,if_pos,if_neg,decide_eq_true,decide_eq_false,ir_law18_DualLess_l2,e16,e17,e18,e73,e74,e75,hkn,q1,q3,↓hsh,↓han,writeA,over,cut2v,hwc,IntWalk.i64_in]
   rw [← hH2]
   refine wpC_use (Lx_loop (H1:=H2) (q:=q) (ev:=.slice ea E.length ec) (B:=B) (E:=E) (by omega) w2 q7' (by omega) ?_) ?_
   ·exact ⟨by simp [e17],by simp,by simp,by simp,w2,.refl,hset2⟩
   rintro x env2 H3 ⟨rfl,w3,k3,hset3⟩ hu
   have u16:=hu 16 (by decide)
   have u17:=hu 17 (by decide)
   have u18:=hu 18 (by decide)
   have u73:=hu 73 (by decide)
   have u74:=hu 74 (by decide)
   have u75:=hu 75 (by decide)
   simp [e16,e17,e18,e73,e74,e75] at u16 u17 u18 u73 u74 u75
   clear hu
   simp (disch:=omega) [-getElem?_pos,if_pos,if_neg,decide_eq_true,decide_eq_false,u75,hkn,IntWalk.i64_in]
   exact ⟨by simp [u16],by simp [u17],by simp [u73],by simp [u74],by simp,by simp [u18,hcm],w3,k12.trans' k3,by rw [hws]; exact hset3⟩
 ·obtain rfl : k = L.length:=by omega
  simp (disch:=omega) [-getElem?_pos,if_pos,if_neg,decide_eq_true,decide_eq_false,ir_law18_DualLess_l2,e74,e75]
  exact ⟨rfl,e17,e18,w',k',hset⟩
def L4I (av xv : Value) (H1 : AH) (X : List Int) (k : Nat) (env : Env) (H' : AH) : Prop :=
 env 7 = some av ∧ env 47 = some xv ∧ env 48 = some (.int .i64 X.length) ∧ env 49 = some (.int .i64 k) ∧ env 11 = some (.int .i64 (dropN (X.take k))) ∧ H' = H1
def L4Q (H1 : AH) (X : List Int) (x : AExit) (env : Env) (H' : AH) : Prop:=x = .exit 0 ∧ env 11 = some (.int .i64 (dropN X)) ∧ H' = H1
theorem less_l4 {p p' : Nat → Prop} {H1 : AH} {av xv : Value} {M : List SetD} {X : List Int} (hM : SlV p H1 av M) (hX : SlV p' H1 xv X) (hXl : X.length ≤ 1000) (hl : M.length ≤ 8) (hin : ∀ a ∈ X,∃ k : Nat,a = k ∧ k < M.length) {env : Env} (h : L4I av xv H1 X 0 env H1) :
  wpC Tryd.prog 155 (.loop ir_law18_DualLess_l4) (L4Q H1 X) env H1:=by
 refine loop_upto X.length (L4I av xv H1 X) (Q:=L4Q H1 X) h ?_
 rintro k env H' hk ⟨e7,e47,e48,e49,e11,rfl⟩
 by_cases hkn : k < X.length
 ·obtain ⟨b1,off1,sp1,cap1,cs1,rfl,p1,p2⟩:=ints_rd hX (by omega)
  obtain ⟨p3,_⟩:=p2 k hkn
  obtain ⟨i,hi,hil⟩:=hin X[k] (List.getElem_mem hkn)
  have hst : dropN (X.take (k + 1)) = dropN (X.take k) ||| 2 ^ i:=by
   rw [List.take_succ_eq_append_getElem hkn,dropN_snoc,hi,Int.toNat_natCast]
  rw [hi] at p3
  have hil' : (i : Int) < (M.length : Int):=by omega
  have hi0 : ¬ (i : Int) < 0:=by omega
  have hi1 : ¬ (M.length : Int) ≤ (i : Int):=by omega
  have hshl:=i64_shl1 (k:=i) (by omega)
  have hd : dropN (X.take k) < 2 ^ 8:=dropN_lt _ fun x hx => by
   obtain ⟨j,rfl,hj⟩:=hin x (List.mem_of_mem_take hx)
   omega
  have hpw : 2 ^ i < 2 ^ 8:=Nat.pow_lt_pow_right (by omega) (by omega)
  have hor:=i64_nat_or (a:=dropN (X.take k)) (b:=2 ^ i) (by omega) (by omega)
  obtain ⟨va,vc,rfl⟩:=hM.slice
  generalize dropN (X.take k) = d at *
  generalize 2 ^ i = pw at *
  rw [← hst] at hor
  generalize hd2 : dropN (X.take (k + 1)) = d2 at *
  simp (disch:=omega) [-getElem?_pos,if_pos,if_neg,decide_eq_true,decide_eq_false,ir_law18_DualLess_l4,e7,e11,e47,e48,e49,hkn,p1,p3,hil,hil',hi0,hi1,↓hshl,↓hor,IntWalk.i64_in]
  exact ⟨by simp [e7],by simp [e47],by simp [e48],by simp,by simp [hd2],rfl⟩
 ·obtain rfl : k = X.length:=by omega
  rw [List.take_length] at e11
  simp (disch:=omega) [-getElem?_pos,if_pos,if_neg,decide_eq_true,decide_eq_false,ir_law18_DualLess_l4,e48,e49]
  exact ⟨rfl,e11,rfl⟩
def L0I (av yv : Value) (mask : Nat) (H1 : AH) (Y : List Int) (k : Nat) (env : Env) (H' : AH) : Prop :=
 env 7 = some av ∧ env 16 = some (.int .i64 mask) ∧ env 126 = some yv ∧ env 127 = some (.int .i64 Y.length) ∧ env 128 = some (.int .i64 k) ∧ H' = H1
def L0Q (H1 : AH) (x : AExit) (env : Env) (H' : AH) : Prop:=x = .exit 8 ∧ H' = H1
theorem less_l0 {p p' : Nat → Prop} {H1 : AH} {av yv : Value} {M : List SetD} {Y : List Int} {mask : Nat} (hM : SlV p H1 av M) (hY : SlV p' H1 yv Y) (hYl : Y.length ≤ 1000) (hl : M.length ≤ 8) (hm : mask < 4611686018427387904) (hin : ∀ a ∈ Y,∃ k : Nat,a = k ∧ k < M.length ∧ msk mask k = true) {env : Env} (h : L0I av yv mask H1 Y 0 env H1) :
  wpC Tryd.prog 155 (.loop ir_law18_DualLess_l0) (L0Q H1) env H1:=by
 refine loop_upto Y.length (L0I av yv mask H1 Y) (Q:=L0Q H1) h ?_
 rintro k env H' hk ⟨e7,e16,e126,e127,e128,rfl⟩
 by_cases hkn : k < Y.length
 ·obtain ⟨b1,off1,sp1,cap1,cs1,rfl,p1,p2⟩:=ints_rd hY (by omega)
  obtain ⟨p3,_⟩:=p2 k hkn
  obtain ⟨i,hi,hil,hmi⟩:=hin Y[k] (List.getElem_mem hkn)
  rw [hi] at p3
  have hil' : (i : Int) < (M.length : Int):=by omega
  have hi0 : ¬ (i : Int) < 0:=by omega
  have hi1 : ¬ (M.length : Int) ≤ (i : Int):=by omega
  have hsh:=msk_shr (mask:=mask) (k:=i) (by omega)
  have hlt : mask / 2 ^ i < 4611686018427387904:=Nat.lt_of_le_of_lt (Nat.div_le_self _ _) hm
  have han:=i64_and1 hlt
  have hmb : mask / 2 ^ i % 2 = 1:=of_decide_eq_true hmi
  rw [hmb] at han
  generalize mask / 2 ^ i = mq at *
  obtain ⟨va,vc,rfl⟩:=hM.slice
  simp (disch:=omega) [-getElem?_pos,if_pos,if_neg,decide_eq_true,decide_eq_false,ir_law18_DualLess_l0,e7,e16,e126,e127,e128,hkn,p1,p3,hil,hil',hi0,hi1,↓hsh,↓han,IntWalk.i64_in]
  exact ⟨by simp [e7],by simp [e16],by simp [e126],by simp [e127],by simp,rfl⟩
 ·obtain rfl : k = Y.length:=by omega
  simp (disch:=omega) [-getElem?_pos,if_pos,if_neg,decide_eq_true,decide_eq_false,ir_law18_DualLess_l0,e127,e128]
  exact ⟨rfl,rfl⟩
end Go.Proofs.YtejifalflkbekaaDoor
