/-
  DualLeast: its loops over elements.
-/
import Derived.Test.YtejifalflkbekaaDoorDs12
import Derived.Test.YtejifalflkbekaaDoorDp3
set_option maxRecDepth 100000
set_option linter.unusedSimpArgs false
set_option linter.unusedVariables false
namespace Go.Proofs.YtejifalflkbekaaDoor
open Go Go.Abs Go.Proofs.YtejifalflkbekaaDoor.Bs
theorem i64_nat_and {a b : Nat} (ha : a < 4611686018427387904) (hb : b < 4611686018427387904) : abin .and (.int .i64 a) (.int .i64 b) = some (.int .i64 ((a &&& b : Nat) : Int)):=by
 have h : (BitVec.ofInt 64 (a : Int) &&& BitVec.ofInt 64 (b : Int)).toNat = a &&& b:=by
  rw [BitVec.toNat_and,BitVec.ofInt_natCast,BitVec.ofInt_natCast,BitVec.toNat_ofNat,BitVec.toNat_ofNat,Nat.mod_eq_of_lt (by omega),Nat.mod_eq_of_lt (by omega)]
 have hl : a &&& b ≤ a:=Nat.and_le_left
 show some (Value.int .i64 (IntKind.i64.wrap ((BitVec.ofInt 64 (a : Int) &&& BitVec.ofInt 64 (b : Int)).toNat : Int))) = _
 rw [h,IntWalk.i64_in _ (by omega)]
theorem i64_and1 {a : Nat} (ha : a < 4611686018427387904) : abin .and (.int .i64 a) (.int .i64 1) = some (.int .i64 ((a % 2 : Nat) : Int)):=by
 have:=i64_nat_and (b:=1) ha (by omega)
 rw [Nat.and_one_is_mod] at this; exact this
theorem i64_shl1 {k : Nat} (h : k < 62) : abin .shl (.int .i64 1) (.int .i64 k) = some (.int .i64 ((2 ^ k : Nat) : Int)):=by
 have hlt : 2 ^ k < 4611686018427387904:=Nat.pow_lt_pow_right (a:=2) (n:=62) (by omega) h
 simp only [abin]
 rw [if_neg (show ¬ (k : Int) < 0 by omega),show min (Int.toNat (k : Int)) IntKind.i64.bits = k by (show min k 64 = k); omega]
 have hz : ∀ z : Nat,z < 4611686018427387904 → IntKind.i64.wrap (z : Int) = z:=fun z hz => IntWalk.i64_in _ (by omega)
 have:=hz _ hlt
 simpa using this
theorem msk_shr {mask k : Nat} (hk : k < 60) : abin .shr (.int .i64 (mask : Int)) (.int .i64 (k : Int)) = some (.int .i64 ((mask / 2 ^ k : Nat) : Int)):=by
 simp only [abin]
 rw [if_neg (show ¬ (k : Int) < 0 by omega),show min (Int.toNat (k : Int)) IntKind.i64.bits = k by (show min k 64 = k); omega]
 rw [Int.fdiv_eq_ediv_of_nonneg _ (Int.pow_nonneg (by omega))]
 norm_cast
def LaI (H1 : AH) (q : Nat) (ev : Value) (B : List Bool) (E : List Int) (k : Nat) (env : Env) (H' : AH) : Prop :=
 env 17 = some (.pointer (some ⟨q,0,none⟩)) ∧ env 101 = some ev ∧ env 102 = some (.int .i64 E.length) ∧ env 103 = some (.int .i64 k) ∧ WF H' ∧ Keep [q] H1 H' ∧ SetAt H' q [] (wipe B (E.take k))
def LaQ (H1 : AH) (q : Nat) (B : List Bool) (E : List Int) (x : AExit) (env : Env) (H' : AH) : Prop:=x = .exit 4 ∧ WF H' ∧ Keep [q] H1 H' ∧ SetAt H' q [] (wipe B E)
theorem La_loop {H1 : AH} {q : Nat} {ev : Value} {B : List Bool} {E : List Int} (hq : q < H1.next) (hw : WF H1) (hE : SlV (fun b => b ≠ q) H1 ev E) (hl : E.length ≤ 1000) {env : Env} (h : LaI H1 q ev B E 0 env H1) :
  wpC Tryd.prog 165 (.loop ir_law18_DualLeast_l2) (LaQ H1 q B E) env H1:=by
 refine loop_upto E.length (LaI H1 q ev B E) (Q:=LaQ H1 q B E) h ?_
 rintro k env H' hk ⟨e2,e31,e32,e33,w',k',sl,hb,hs⟩
 have hn':=k'.next
 by_cases hkn : k < E.length
 ·have hE' : SlV (fun b => b ≠ q) H' ev E:=hE.sub (.keep hw k' fun b hb hc => by simp at hb; exact hc hb)
  obtain ⟨b0,off,sp,cap,cs,rfl,q1,q2⟩:=ints_rd hE' (by omega)
  obtain ⟨q3,_⟩:=q2 k hkn
  have hst : wipe B (E.take (k + 1)) = setB (wipe B (E.take k)) E[k] false:=by rw [List.take_succ_eq_append_getElem hkn,wipe_snoc]
  have hc:=AH.cells_of hb
  generalize E[k] = e at *
  generalize wipe B (E.take k) = W at *
  simp (disch:=omega) [-getElem?_pos,if_pos,if_neg,decide_eq_true,decide_eq_false,ir_law18_DualLeast_l2,e2,e31,e32,e33,q1,q3,hkn,hc,cut2v]
  refine (Without_spec hs e).mono' fun u H2 w2 ⟨hs2,k2⟩ => ?_
  rw [← hst] at hs2
  have hlen : (wipe B (E.take (k + 1))).length = W.length:=by rw [hst,setB_lenF]
  obtain ⟨s2,rfl⟩:=setV hs2
  have b2:=(k2.blk q (by omega) (by simp)).trans hb
  have n2:=k2.next
  simp (disch:=omega) [-getElem?_pos,if_pos,if_neg,decide_eq_true,decide_eq_false,writeA_row b2,over,hs2.one.1,hs2.one.2,e2,e33,IntWalk.i64_in]
  refine ⟨hkn,by simp [e2],by simp [e31],by simp [e32],by simp,w2.set (by omega),k'.trans' ((k2.mono (by simp)).trans' (.set (by simp))),s2,AH.set_blk_same,?_⟩
  refine hs2.up2 (fun b hb => ?_) (fun b hb cs hcs => ?_)
  ·rcases hb with hb | hb
   ·exact hb
   ·exact ⟨by omega,by simp⟩
  ·have : b ≠ q:=by
    rcases hb with hb | hb
    ·exact hb.1
    ·omega
   rw [AH.cells_set_ne this]; exact hcs
 ·obtain rfl : k = E.length:=by omega
  rw [List.take_length] at hs hb
  simp (disch:=omega) [-getElem?_pos,if_pos,if_neg,decide_eq_true,decide_eq_false,ir_law18_DualLeast_l2,e32,e33]
  exact ⟨rfl,w',k',sl,hb,hs⟩
def LbI (H1 : AH) (q : Nat) (ev : Value) (B : List Bool) (E : List Int) (k : Nat) (env : Env) (H' : AH) : Prop :=
 env 23 = some (.pointer (some ⟨q,0,none⟩)) ∧ env 142 = some ev ∧ env 143 = some (.int .i64 E.length) ∧ env 144 = some (.int .i64 k) ∧ WF H' ∧ Keep [q] H1 H' ∧ SetAt H' q [] (wipe B (E.take k))
def LbQ (H1 : AH) (q : Nat) (B : List Bool) (E : List Int) (x : AExit) (env : Env) (H' : AH) : Prop:=x = .exit 8 ∧ WF H' ∧ Keep [q] H1 H' ∧ SetAt H' q [] (wipe B E)
theorem Lb_loop {H1 : AH} {q : Nat} {ev : Value} {B : List Bool} {E : List Int} (hq : q < H1.next) (hw : WF H1) (hE : SlV (fun b => b ≠ q) H1 ev E) (hl : E.length ≤ 1000) {env : Env} (h : LbI H1 q ev B E 0 env H1) :
  wpC Tryd.prog 165 (.loop ir_law18_DualLeast_l0) (LbQ H1 q B E) env H1:=by
 refine loop_upto E.length (LbI H1 q ev B E) (Q:=LbQ H1 q B E) h ?_
 rintro k env H' hk ⟨e2,e31,e32,e33,w',k',sl,hb,hs⟩
 have hn':=k'.next
 by_cases hkn : k < E.length
 ·have hE' : SlV (fun b => b ≠ q) H' ev E:=hE.sub (.keep hw k' fun b hb hc => by simp at hb; exact hc hb)
  obtain ⟨b0,off,sp,cap,cs,rfl,q1,q2⟩:=ints_rd hE' (by omega)
  obtain ⟨q3,_⟩:=q2 k hkn
  have hst : wipe B (E.take (k + 1)) = setB (wipe B (E.take k)) E[k] false:=by rw [List.take_succ_eq_append_getElem hkn,wipe_snoc]
  have hc:=AH.cells_of hb
  generalize E[k] = e at *
  generalize wipe B (E.take k) = W at *
  simp (disch:=omega) [-getElem?_pos,if_pos,if_neg,decide_eq_true,decide_eq_false,ir_law18_DualLeast_l0,e2,e31,e32,e33,q1,q3,hkn,hc,cut2v]
  refine (Without_spec hs e).mono' fun u H2 w2 ⟨hs2,k2⟩ => ?_
  rw [← hst] at hs2
  have hlen : (wipe B (E.take (k + 1))).length = W.length:=by rw [hst,setB_lenF]
  obtain ⟨s2,rfl⟩:=setV hs2
  have b2:=(k2.blk q (by omega) (by simp)).trans hb
  have n2:=k2.next
  simp (disch:=omega) [-getElem?_pos,if_pos,if_neg,decide_eq_true,decide_eq_false,writeA_row b2,over,hs2.one.1,hs2.one.2,e2,e33,IntWalk.i64_in]
  refine ⟨hkn,by simp [e2],by simp [e31],by simp [e32],by simp,w2.set (by omega),k'.trans' ((k2.mono (by simp)).trans' (.set (by simp))),s2,AH.set_blk_same,?_⟩
  refine hs2.up2 (fun b hb => ?_) (fun b hb cs hcs => ?_)
  ·rcases hb with hb | hb
   ·exact hb
   ·exact ⟨by omega,by simp⟩
  ·have : b ≠ q:=by
    rcases hb with hb | hb
    ·exact hb.1
    ·omega
   rw [AH.cells_set_ne this]; exact hcs
 ·obtain rfl : k = E.length:=by omega
  rw [List.take_length] at hs hb
  simp (disch:=omega) [-getElem?_pos,if_pos,if_neg,decide_eq_true,decide_eq_false,ir_law18_DualLeast_l0,e32,e33]
  exact ⟨rfl,w',k',sl,hb,hs⟩
end Go.Proofs.YtejifalflkbekaaDoor
