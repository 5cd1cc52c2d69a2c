/-
  package dual: the missing elements that each set has.
-/
import Derived.Test.YtejifalflkbekaaDoorBu28
import Derived.Test.YtejifalflkbekaaDoorDp4
import Derived.Test.YtejifalflkbekaaDoorBu29
set_option maxRecDepth 100000
set_option linter.unusedSimpArgs false
set_option linter.unusedVariables false
namespace Go.Abs
open Go Go.Proofs.YtejifalflkbekaaDoor Go.Proofs.YtejifalflkbekaaDoor.Bs
structure BsD where
 b : List Bool
end Go.Abs
namespace Go.Proofs.YtejifalflkbekaaDoor
open Go Go.Abs Go.Proofs.YtejifalflkbekaaDoor.Bs
open Go.Abs.Ren (R)
instance : Ren BsD where
 sz:=2
 R:=fun p H cs x => ∃ sl,cs = [.int .i64 x.b.length,sl] ∧ SetB p H (.agg #[.int .i64 x.b.length,sl]) x.b
 len:=fun h => by obtain ⟨sl,rfl,_⟩:=h; rfl
 up:=fun hpq hs h => by obtain ⟨sl,rfl,h⟩:=h; exact ⟨sl,rfl,h.up2 hpq hs⟩
@[simp] theorem sz_bs : Ren.sz BsD = 2:=rfl
theorem bss_rd {p : Nat → Prop} {H : AH} {v : Value} {l : List BsD} (h : SlV p H v l) (h0 : 0 < l.length) : ∃ b off sp cap cs,v = .slice (some ⟨b,off,sp⟩) l.length cap ∧ H.cells b = some cs ∧ ∀ k (hk : k < l.length),∃ sl,cut cs (off + k * 2) 2 = some [.int .i64 l[k].b.length,sl] ∧ SetB p H (.agg #[.int .i64 l[k].b.length,sl]) l[k].b:=by
 obtain ⟨b,off,sp,cap,cs,h1,h2,h3,h4,h5,h6⟩:=h.at h0
 refine ⟨b,off,sp,cap,cs,h1,h4,fun k hk => ?_⟩
 obtain ⟨c,q1,sl,rfl,q3⟩:=h6 k hk
 exact ⟨sl,q1,q3⟩
def SetIn (P : Nat → Prop) (H : AH) (q : Nat) (B : List Bool) : Prop:=∃ sl,H.blk q = some (.row [.int .i64 B.length,sl] T_bitset_Set true) ∧ SetB P H (.agg #[.int .i64 B.length,sl]) B
/-! ### one set's elements -/
def lkT (T : List Bool) (E : List Int) : List Bool:=mapB (fun e => T.getD e false && decide ((e : Int) ∈ E)) T.length
theorem lkT_nil {T : List Bool} : lkT T [] = mapB (fun _ => false) T.length:=mapB_congr fun e _ => by simp
theorem lkT_all {T : List Bool} {s : SetD} : lkT T s.elems = lkB T s:=rfl
theorem lkT_step {T : List Bool} {E : List Int} {e : Int} (h0 : 0 ≤ e) : (if T.getD e.toNat false then setB (lkT T E) e true else lkT T E) = lkT T (E ++ [e]):=by
 have hlt : T.getD e.toNat false = true → e.toNat < T.length:=fun h => by
  rcases Nat.lt_or_ge e.toNat T.length with hh | hh
  ·exact hh
  ·rw [List.getD_eq_getElem?_getD,List.getElem?_eq_none hh] at h; simp at h
 cases ht : T.getD e.toNat false with
 | true =>
  rw [if_pos rfl]
  unfold setB
  have hl : (lkT T E).length = T.length:=mapB_len
  have:=hlt ht
  rw [if_pos (by omega)]
  refine mapB_set fun j hj => ?_
  by_cases hje : j = e.toNat
  ·subst hje; rw [if_pos rfl,ht]; simp [Int.toNat_of_nonneg h0]
  ·rw [if_neg hje]
   have : ¬ (j : Int) = e:=by omega
   simp [this]
 | false =>
  rw [if_neg (by simp)]
  refine mapB_congr fun j hj => ?_
  by_cases hje : (j : Int) = e
  ·have : e.toNat = j:=by omega
   rw [this] at ht
   rw [ht]; rfl
  ·simp [hje]
def LkkI (H1 : AH) (n0 r q : Nat) (ev : Value) (T : List Bool) (E : List Int) (k : Nat) (env : Env) (H' : AH) : Prop :=
 env 2 = some (.pointer (some ⟨r,0,none⟩)) ∧ env 8 = some (.pointer (some ⟨q,0,none⟩)) ∧ env 21 = some ev ∧ env 22 = some (.int .i64 E.length) ∧ env 23 = some (.int .i64 k) ∧ WF H' ∧ Keep [q] H1 H' ∧ SetIn (fun b => n0 ≤ b ∧ b ≠ q) H' q (lkT T (E.take k))
def LkkQ (H1 : AH) (n0 q : Nat) (T : List Bool) (E : List Int) (x : AExit) (env : Env) (H' : AH) : Prop:=x = .exit 2 ∧ env 8 = some (.pointer (some ⟨q,0,none⟩)) ∧ WF H' ∧ Keep [q] H1 H' ∧ SetIn (fun b => n0 ≤ b ∧ b ≠ q) H' q (lkT T E)
theorem lacking_l0 {p : Nat → Prop} {H1 : AH} {n0 r q : Nat} {ev sl : Value} {T : List Bool} {E : List Int} (hq : q < H1.next) (hn0 : n0 ≤ H1.next) (hrq : r ≠ q) (hw : WF H1) (hr : H1.cells r = some [.int .i64 T.length,sl]) (hs : SetB (fun b => b ≠ q) H1 (.agg #[.int .i64 T.length,sl]) T) (hE : SlV (fun b => b ≠ q) H1 ev E) (hl : E.length ≤ 1000) (h0 : ∀ e ∈ E,0 ≤ e) {env : Env} (h : LkkI H1 n0 r q ev T E 0 env H1) :
  wpC Tryd.prog 40 (.loop ir_dual_lacking_l0) (LkkQ H1 n0 q T E) env H1:=by
 refine loop_upto E.length (LkkI H1 n0 r q ev T E) (Q:=LkkQ H1 n0 q T E) h ?_
 rintro k env H' hk ⟨e2,e8,e21,e22,e23,w',k',sk,hb,hsk⟩
 have hn':=k'.next
 by_cases hkn : k < E.length
 ·have hsub : Sub (fun b => b ≠ q) H1 H':=.keep hw k' fun b hb hc => by simp at hb; exact hc hb
  obtain ⟨b0,off,sp,cap,cs,rfl,q1,q2⟩:=ints_rd (hE.sub hsub) (by omega)
  obtain ⟨q3,_⟩:=q2 k hkn
  have he0:=h0 E[k] (List.getElem_mem hkn)
  have hst:=lkT_step (T:=T) (E:=E.take k) he0
  rw [← List.take_succ_eq_append_getElem hkn] at hst
  have hr':=cells_keep hw k' (by simpa using hrq) hr
  have hs':=hs.up2 (fun _ h => h) hsub
  have hh:=Has_spec hs' E[k]
  have hhb : hasB T E[k] = T.getD E[k].toNat false:=by unfold hasB; rw [decide_eq_true he0]; simp
  rw [hhb] at hh
  have hc:=AH.cells_of hb
  have hlen : (lkT T (E.take k)).length = T.length:=mapB_len
  have hlen2 : (lkT T (E.take (k + 1))).length = T.length:=mapB_len
  rw [hlen] at hc hb hsk
  generalize E[k] = e at *
  cases ht : T.getD e.toNat false with
  | true =>
   rw [ht] at hh hst
   rw [if_pos rfl] at hst
   simp (disch:=omega) [-getElem?_pos,if_pos,if_neg,decide_eq_true,decide_eq_false,ir_dual_lacking_l0,e2,e8,e21,e22,e23,q1,q3,hkn,hr',cut2v]
   refine AFn.pure hh ?_
   simp (disch:=omega) [-getElem?_pos,if_pos,if_neg,decide_eq_true,decide_eq_false,e8,hc,cut2v]
   refine (With_spec hsk e).mono' fun u H2 w2 ⟨hs2,k2⟩ => ?_
   rw [hst] at hs2
   obtain ⟨s2,rfl⟩:=setV hs2
   have b2:=(k2.blk q (by omega) (by simp)).trans hb
   have n2:=k2.next
   simp (disch:=omega) [-getElem?_pos,if_pos,if_neg,decide_eq_true,decide_eq_false,writeA_row b2,over,hs2.one.1,hs2.one.2,e8,e23,IntWalk.i64_in]
   refine ⟨hkn,by simp [e2],by simp [e8],by simp [e21],by simp [e22],by simp,w2.set (by omega),k'.trans' ((k2.mono (by simp)).trans' (.set (by simp))),s2,AH.set_blk_same,?_⟩
   refine hs2.up2 (fun b hb => ?_) (fun b hb cs hcs => ?_)
   ·rcases hb with hb | hb
    ·exact hb
    ·exact ⟨by omega,by omega⟩
   ·have : b ≠ q:=by
     rcases hb with hb | hb
     ·exact hb.2
     ·omega
    rw [AH.cells_set_ne this]; exact hcs
  | false =>
   rw [ht] at hh hst
   rw [if_neg (by simp)] at hst
   simp (disch:=omega) [-getElem?_pos,if_pos,if_neg,decide_eq_true,decide_eq_false,ir_dual_lacking_l0,e2,e8,e21,e22,e23,q1,q3,hkn,hr',cut2v]
   refine AFn.pure hh ?_
   simp (disch:=omega) [-getElem?_pos,if_pos,if_neg,decide_eq_true,decide_eq_false,e8,e23,IntWalk.i64_in]
   refine ⟨hkn,by simp [e2],by simp [e8],by simp [e21],by simp [e22],by simp,w',k',sk,by rw [hlen2]; exact hb,by rw [hlen2,← hst]; exact hsk⟩
 ·obtain rfl : k = E.length:=by omega
  rw [List.take_length] at hsk hb
  simp (disch:=omega) [-getElem?_pos,if_pos,if_neg,decide_eq_true,decide_eq_false,ir_dual_lacking_l0,e22,e23]
  exact ⟨rfl,e8,w',k',sk,hb,hsk⟩
end Go.Proofs.YtejifalflkbekaaDoor
