/-
  DualLeast.
-/
import Derived.Test.YtejifalflkbekaaDoorDs15
import Derived.Test.YtejifalflkbekaaDoorDs8
set_option maxRecDepth 100000
set_option linter.unusedSimpArgs false
set_option linter.unusedVariables false
namespace Go.Abs
open Go Go.Proofs.YtejifalflkbekaaDoor.Bs
theorem wipeM_succ {L : List SetD} {T : List Bool} {b : Nat → Bool} {k : Nat} (h : k < L.length) : wipeM L T b (k + 1) = if b k then wipe (wipeM L T b k) L[k].elems else wipeM L T b k:=by
 rw [wipeM,List.getElem?_eq_getElem h]; rfl
theorem costM_succ {L : List SetD} {b : Nat → Bool} {k : Nat} (h : k < L.length) : costM L b (k + 1) = if b k then costM L b k + L[k].cost else costM L b k:=by
 rw [costM,List.getElem?_eq_getElem h]; rfl
def fnd (L : List SetD) (T : List Bool) (m : Nat) : Bool:=(List.range m).any fun mk => decide ((wipeM L T (msk mk) L.length).count true = 0)
theorem fnd_succ {L : List SetD} {T : List Bool} {m : Nat} : fnd L T (m + 1) = (fnd L T m || decide ((wipeM L T (msk m) L.length).count true = 0)):=by unfold fnd; rw [List.range_succ,List.any_append]; simp
theorem fnd_iff {L : List SetD} {n : Nat} {T : List Bool} (hD : DOk n L) : fnd L T (2 ^ L.length) = true ↔ Cov L T:=by
 rw [cov_iff hD]
 unfold fnd
 rw [List.any_eq_true]
 constructor
 ·rintro ⟨m,hm,h⟩; exact ⟨m,List.mem_range.1 hm,of_decide_eq_true h⟩
 ·rintro ⟨m,hm,h⟩; exact ⟨m,List.mem_range.2 hm,decide_eq_true h⟩
end Go.Abs
namespace Go.Proofs.YtejifalflkbekaaDoor
open Go Go.Abs Go.Proofs.YtejifalflkbekaaDoor.Bs
def LcI (H1 : AH) (q : Nat) (av : Value) (L : List SetD) (T : List Bool) (mask : Nat) (k : Nat) (env : Env) (H' : AH) : Prop :=
 env 16 = some (.int .i64 mask) ∧ env 17 = some (.pointer (some ⟨q,0,none⟩)) ∧ env 84 = some av ∧ env 85 = some (.int .i64 L.length) ∧ env 86 = some (.int .i64 k) ∧ env 18 = some (.int .i64 (costM L (msk mask) k)) ∧ WF H' ∧ Keep [q] H1 H' ∧ SetAt H' q [] (wipeM L T (msk mask) k)
def LcQ (H1 : AH) (q : Nat) (L : List SetD) (T : List Bool) (mask : Nat) (x : AExit) (env : Env) (H' : AH) : Prop :=
 x = .exit 2 ∧ env 17 = some (.pointer (some ⟨q,0,none⟩)) ∧ env 18 = some (.int .i64 (costM L (msk mask) L.length)) ∧ WF H' ∧ Keep [q] H1 H' ∧ SetAt H' q [] (wipeM L T (msk mask) L.length)
theorem least_l3 {H1 : AH} {q n : Nat} {av : Value} {L : List SetD} {T : List Bool} {mask : Nat} (hq : q < H1.next) (hw : WF H1) (hL : SlV (fun b => b ≠ q) H1 av L) (hD : DOk n L) (hl : L.length ≤ 8) (hel : ∀ s ∈ L,s.elems.length ≤ 30) (hm : mask < 4611686018427387904) {env : Env} (h : LcI H1 q av L T mask 0 env H1) :
  wpC Tryd.prog 165 (.loop ir_law18_DualLeast_l3) (LcQ H1 q L T mask) env H1:=by
 refine loop_upto L.length (LcI H1 q av L T mask) (Q:=LcQ H1 q L T mask) h ?_
 rintro k env H' hk ⟨e16,e17,e84,e85,e86,e18,w',k',hset⟩
 have hn':=k'.next
 by_cases hkn : k < L.length
 ·have hL' : SlV (fun b => b ≠ q) H' av L:=hL.sub (.keep hw k' fun b hb hc => by simp at hb; exact hc hb)
  obtain ⟨b0,off,sp,cap,cs,rfl,q1,q2⟩:=sets_rd hL' (by omega)
  obtain ⟨ev,q3,q4,q5,q6,q7⟩:=q2 k hkn
  have hbe:=hel L[k] (List.getElem_mem hkn)
  have hcs:=hD.cost L[k] (List.getElem_mem hkn)
  have hws:=wipeM_succ (T:=T) (b:=msk mask) hkn
  have hcm:=costM_succ (b:=msk mask) hkn
  have hcb:=costM_bound (b:=msk mask) hD k
  have hsh:=msk_shr (mask:=mask) (k:=k) (by omega)
  have hlt : mask / 2 ^ k < 4611686018427387904:=Nat.lt_of_le_of_lt (Nat.div_le_self _ _) hm
  have han:=i64_and1 hlt
  have hmb : msk mask k = decide (mask / 2 ^ k % 2 = 1):=rfl
  rw [hmb] at hws hcm
  generalize mask / 2 ^ k = mq at *
  have hmq : mq % 2 = 0 ∨ mq % 2 = 1:=by omega
  generalize mq % 2 = r at *
  obtain ⟨H2,hH2⟩ : ∃ H2,H2 = H'.alloc (.row [.int .i64 L[k].cost,ev] T_inst_Set true):=⟨_,rfl⟩
  have k2 : Keep [] H' H2:=by rw [hH2]; exact .alloc
  have w2 : WF H2:=by rw [hH2]; exact w'.alloc
  have n2 : H2.next = H'.next + 1:=by rw [hH2]; rfl
  have hset2:=hset.grow (S':=[]) w' k2 (by simp) (by simp)
  have k12 : Keep [q] H1 H2:=k'.trans' (k2.mono (by simp))
  have q7':=q7.kept w' k2
  have hcE:=q7.cell
  obtain ⟨ea,ec,rfl⟩:=q7.slice
  have hkb : (k : Int) ≤ 8:=by omega
  generalize costM L (msk mask) k = c0 at *
  generalize wipeM L T (msk mask) k = B at *
  have hwc : IntKind.i64.wrap (c0 + L[k].cost) = c0 + L[k].cost:=IntWalk.i64_in _ (by omega)
  have c2 : H2.cells H'.next = some [.int .i64 L[k].cost,.slice ea L[k].elems.length ec]:=by rw [hH2]; exact AH.cells_alloc_new
  rcases hmq with rfl | rfl
  ·rw [if_neg (by simp)] at hws hcm
   generalize L[k].cost = s0 at *
   simp (disch:=omega) [-getElem?_pos,if_pos,if_neg,decide_eq_true,decide_eq_false,ir_law18_DualLeast_l3,e16,e17,e18,e84,e85,e86,hkn,q1,q3,↓hsh,↓han,writeA,over,cut2v,IntWalk.i64_in]
   rw [← hH2]
   exact ⟨by simp [e16],by simp [e17],by simp [e84],by simp [e85],by simp,by simp [hcm,e18],w2,k12,by rw [hws]; exact hset2⟩
  ·rw [if_pos (by simp)] at hws hcm
   generalize L[k].cost = s0 at *
   generalize L[k].elems = E at *
   simp (disch:=omega) [-getElem?_pos,if_pos,if_neg,decide_eq_true,decide_eq_false,ir_law18_DualLeast_l3,e16,e17,e18,e84,e85,e86,hkn,q1,q3,↓hsh,↓han,writeA,over,cut2v,hwc,IntWalk.i64_in]
   rw [← hH2]
   refine wpC_use (La_loop (H1:=H2) (q:=q) (ev:=.slice ea E.length ec) (B:=B) (E:=E) (by omega) w2 q7' (by omega) ?_) ?_
   ·exact ⟨by simp [e17],by simp,by simp,by simp,w2,.refl,hset2⟩
   rintro x env2 H3 ⟨rfl,w3,k3,hset3⟩ hu
   have u16:=hu 16 (by decide)
   have u17:=hu 17 (by decide)
   have u18:=hu 18 (by decide)
   have u84:=hu 84 (by decide)
   have u85:=hu 85 (by decide)
   have u86:=hu 86 (by decide)
   simp [e16,e17,e18,e84,e85,e86] at u16 u17 u18 u84 u85 u86
   clear hu
   simp (disch:=omega) [-getElem?_pos,if_pos,if_neg,decide_eq_true,decide_eq_false,u86,hkn,IntWalk.i64_in]
   exact ⟨by simp [u16],by simp [u17],by simp [u84],by simp [u85],by simp,by simp [u18,hcm],w3,k12.trans' k3,by rw [hws]; exact hset3⟩
 ·obtain rfl : k = L.length:=by omega
  simp (disch:=omega) [-getElem?_pos,if_pos,if_neg,decide_eq_true,decide_eq_false,ir_law18_DualLeast_l3,e85,e86]
  exact ⟨rfl,e17,e18,w',k',hset⟩
def LmI (H1 : AH) (r : Nat) (av gv : Value) (ok : Bool) (nn : Int) (L : List SetD) (T : List Bool) (m : Nat) (env : Env) (H' : AH) : Prop :=
 env 5 = some (.pointer (some ⟨r,0,none⟩)) ∧ env 7 = some av ∧ env 10 = some (.bool ok) ∧ env 11 = some (.int .i64 nn) ∧ env 13 = some gv ∧ env 15 = some (.bool (fnd L T m)) ∧ env 79 = some (.int .i64 ((2 ^ L.length : Nat) : Int)) ∧ env 80 = some (.int .i64 m) ∧ WF H' ∧ Keep [] H1 H'
def LmQ (H1 : AH) (r : Nat) (av gv : Value) (ok : Bool) (nn : Int) (L : List SetD) (T : List Bool) (x : AExit) (env : Env) (H' : AH) : Prop:=x = .exit 0 ∧ LmI H1 r av gv ok nn L T (2 ^ L.length) env H'
theorem least_l4 {H1 : AH} {r n : Nat} {av gv sl : Value} {ok : Bool} {nn : Int} {L : List SetD} {T : List Bool} (hw : WF H1) (hr : H1.cells r = some [.int .i64 T.length,sl]) (hs : SetB (fun b => b < H1.next) H1 (.agg #[.int .i64 T.length,sl]) T) (hL : SlV (fun b => b < H1.next) H1 av L) (hD : DOk n L) (hl : L.length ≤ 8) (hel : ∀ s ∈ L,s.elems.length ≤ 30)
  (hfact : ∀ mask,(wipeM L T (msk mask) L.length).count true = 0 → ok = true ∧ nn ≤ costM L (msk mask) L.length) {env : Env} (h : LmI H1 r av gv ok nn L T 0 env H1) :
  wpC Tryd.prog 165 (.loop ir_law18_DualLeast_l4) (LmQ H1 r av gv ok nn L T) env H1:=by
 refine loop_upto (2 ^ L.length) (LmI H1 r av gv ok nn L T) (Q:=LmQ H1 r av gv ok nn L T) h ?_
 rintro m env H' hk ⟨e5,e7,e10,e11,e13,e15,e79,e80,w',k'⟩
 have hn':=k'.next
 have hpow : 2 ^ L.length ≤ 2 ^ 8:=Nat.pow_le_pow_right (by omega) hl
 obtain ⟨N2,hN2⟩ : ∃ N2,N2 = 2 ^ L.length:=⟨_,rfl⟩
 by_cases hkn : m < 2 ^ L.length
 ·have hm : m < 4611686018427387904:=by omega
  have hr':=cells_kept hw k' hr
  obtain ⟨H2,hH2⟩ : ∃ H2,H2 = H'.alloc (.row [.int .i64 T.length,sl] T_bitset_Set true):=⟨_,rfl⟩
  have k2 : Keep [] H' H2:=by rw [hH2]; exact .alloc
  have w2 : WF H2:=by rw [hH2]; exact w'.alloc
  have n2 : H2.next = H'.next + 1:=by rw [hH2]; rfl
  have k12:=k'.trans' k2
  have b2 : H2.blk H'.next = some (.row [.int .i64 T.length,sl] T_bitset_Set true):=by rw [hH2]; exact AH.alloc_blk_new
  have hset : SetAt H2 H'.next [] T:=⟨sl,b2,(hs.kept' hw k12).up2 (fun b hb => ⟨by omega,by simp⟩) .refl⟩
  have hone:=hs.one
  obtain ⟨va,vc,rfl⟩:=hL.slice
  have hfs:=fnd_succ (L:=L) (T:=T) (m:=m)
  have hft:=hfact m
  rw [← hN2] at e79 hkn hpow
  have hkn' : (m : Int) < (N2 : Int):=by omega
  simp (disch:=omega) [-getElem?_pos,if_pos,if_neg,decide_eq_true,decide_eq_false,ir_law18_DualLeast_l4,e5,e7,e10,e11,e13,e15,e79,e80,hkn,hkn',hr',writeA,over,cut2v,hone.1,hone.2]
  rw [← hH2]
  refine wpC_use (least_l3 (H1:=H2) (q:=H'.next) (av:=.slice va L.length vc) (mask:=m) (T:=T) (by omega) w2 ((hL.kept hw k12).mono fun b hb => by omega) hD hl hel hm ?_) ?_
  ·exact ⟨by simp,by simp,by simp,by simp,by simp,by simp [costM],w2,.refl,hset⟩
  rintro x env2 H3 ⟨rfl,f17,f18,w3,k3,sl3,b3,hs3⟩ hu
  have u5:=hu 5 (by decide)
  have u7:=hu 7 (by decide)
  have u10:=hu 10 (by decide)
  have u11:=hu 11 (by decide)
  have u13:=hu 13 (by decide)
  have u15:=hu 15 (by decide)
  have u79:=hu 79 (by decide)
  have u80:=hu 80 (by decide)
  simp [e5,e7,e10,e11,e13,e15,e79,e80] at u5 u7 u10 u11 u13 u15 u79 u80
  clear hu
  have c3:=AH.cells_of b3
  have hcnt:=Count_spec hs3
  have k13 : Keep [] H1 H3:=k12.trans k3 fun b hb hlt => by simp at hb; omega
  have hN256 : (m : Int) ≤ 256:=by omega
  generalize hcb : (wipeM L T (msk m) L.length).count true = cb at *
  generalize costM L (msk m) L.length = cost at *
  by_cases hz : cb = 0
  ·obtain ⟨hok,hge⟩:=hft hz
   rw [decide_eq_true hz,Bool.or_true] at hfs
   have hlt : ¬ cost < nn:=by omega
   rw [hz] at hcnt
   subst hok
   simp (disch:=omega) [-getElem?_pos,if_pos,if_neg,decide_eq_true,decide_eq_false,f17,c3,cut2v]
   refine AFn.pure hcnt ?_
   simp (disch:=omega) [-getElem?_pos,if_pos,if_neg,decide_eq_true,decide_eq_false,u10,u11,f18,hlt,u80,IntWalk.i64_in]
   exact ⟨by omega,by simp [u5],by simp [u7],by simp [u10],by simp [u11],by simp [u13],by simp [hfs],by simp [u79,hN2],by simp,w3,k13⟩
  ·rw [decide_eq_false hz,Bool.or_false] at hfs
   have hz2 : (0 : Int) < (cb : Int):=by omega
   simp (disch:=omega) [-getElem?_pos,if_pos,if_neg,decide_eq_true,decide_eq_false,f17,c3,cut2v]
   refine AFn.pure hcnt ?_
   simp (disch:=omega) [-getElem?_pos,if_pos,if_neg,decide_eq_true,decide_eq_false,hz2,u80,IntWalk.i64_in]
   exact ⟨by omega,by simp [u5],by simp [u7],by simp [u10],by simp [u11],by simp [u13],by simp [u15,hfs],by simp [u79,hN2],by simp,w3,k13⟩
 ·obtain rfl : m = 2 ^ L.length:=by omega
  rw [← hN2] at e79 e80
  simp (disch:=omega) [-getElem?_pos,if_pos,if_neg,decide_eq_true,decide_eq_false,ir_law18_DualLeast_l4,e79,e80]
  rw [hN2] at e79 e80
  exact ⟨rfl,e5,e7,e10,e11,e13,e15,e79,e80,w',k'⟩
def LgI (H1 : AH) (q : Nat) (av gv : Value) (L : List SetD) (T : List Bool) (X : List Int) (k : Nat) (env : Env) (H' : AH) : Prop :=
 env 7 = some av ∧ env 23 = some (.pointer (some ⟨q,0,none⟩)) ∧ env 124 = some gv ∧ env 125 = some (.int .i64 X.length) ∧ env 126 = some (.int .i64 k) ∧ WF H' ∧ Keep [q] H1 H' ∧ SetAt H' q [] (wipeL L T (X.take k))
def LgQ (H1 : AH) (q : Nat) (L : List SetD) (T : List Bool) (X : List Int) (x : AExit) (env : Env) (H' : AH) : Prop:=x = .exit 6 ∧ env 23 = some (.pointer (some ⟨q,0,none⟩)) ∧ WF H' ∧ Keep [q] H1 H' ∧ SetAt H' q [] (wipeL L T X)
theorem least_l1 {H1 : AH} {q : Nat} {av gv : Value} {L : List SetD} {T : List Bool} {X : List Int} (hq : q < H1.next) (hw : WF H1) (hL : SlV (fun b => b ≠ q) H1 av L) (hX : SlV (fun b => b ≠ q) H1 gv X) (hXl : X.length ≤ 1000) (hl : L.length ≤ 8) (hel : ∀ s ∈ L,s.elems.length ≤ 30) (hin : ∀ a ∈ X,∃ k : Nat,a = k ∧ k < L.length) {env : Env} (h : LgI H1 q av gv L T X 0 env H1) :
  wpC Tryd.prog 165 (.loop ir_law18_DualLeast_l1) (LgQ H1 q L T X) env H1:=by
 refine loop_upto X.length (LgI H1 q av gv L T X) (Q:=LgQ H1 q L T X) h ?_
 rintro k env H' hk ⟨e7,e23,e124,e125,e126,w',k',hset⟩
 have hn':=k'.next
 by_cases hkn : k < X.length
 ·have hsub : Sub (fun b => b ≠ q) H1 H':=.keep hw k' fun b hb hc => by simp at hb; exact hc hb
  have hL' : SlV (fun b => b ≠ q) H' av L:=hL.sub hsub
  obtain ⟨b1,off1,sp1,cap1,cs1,rfl,p1,p2⟩:=ints_rd (hX.sub hsub) (by omega)
  obtain ⟨p3,_⟩:=p2 k hkn
  obtain ⟨i,hi,hil⟩:=hin X[k] (List.getElem_mem hkn)
  have hst : wipeL L T (X.take (k + 1)) = wipe (wipeL L T (X.take k)) L[i].elems:=by
   rw [List.take_succ_eq_append_getElem hkn,wipeL_snoc,hi,Int.toNat_natCast,List.getElem?_eq_getElem hil]; rfl
  rw [hi] at p3
  obtain ⟨b0,off,sp,cap,cs,rfl,q1,q2⟩:=sets_rd hL' (by omega)
  obtain ⟨ev,q3,q4,q5,q6,q7⟩:=q2 i hil
  have hbe:=hel L[i] (List.getElem_mem hil)
  have hil' : (i : Int) < (L.length : Int):=by omega
  have hi0 : ¬ (i : Int) < 0:=by omega
  have hcE:=q7.cell
  obtain ⟨ea,ec,rfl⟩:=q7.slice
  generalize L[i].elems = E at *
  generalize wipeL L T (X.take k) = B at *
  simp (disch:=omega) [-getElem?_pos,if_pos,if_neg,decide_eq_true,decide_eq_false,ir_law18_DualLeast_l1,e7,e23,e124,e125,e126,hkn,p1,p3,hil,hil',hi0,q1,q5]
  refine wpC_use (Lb_loop (H1:=H') (q:=q) (ev:=.slice ea E.length ec) (B:=B) (E:=E) (by omega) w' q7 (by omega) ?_) ?_
  ·exact ⟨by simp [e23],by simp,by simp,by simp,w',.refl,hset⟩
  rintro x env2 H3 ⟨rfl,w3,k3,hset3⟩ hu
  have u7:=hu 7 (by decide)
  have u23:=hu 23 (by decide)
  have u124:=hu 124 (by decide)
  have u125:=hu 125 (by decide)
  have u126:=hu 126 (by decide)
  simp [e7,e23,e124,e125,e126] at u7 u23 u124 u125 u126
  clear hu
  simp (disch:=omega) [-getElem?_pos,if_pos,if_neg,decide_eq_true,decide_eq_false,u126,hkn,IntWalk.i64_in]
  exact ⟨by simp [u7],by simp [u23],by simp [u124],by simp [u125],by simp,w3,k'.trans' k3,by rw [hst]; exact hset3⟩
 ·obtain rfl : k = X.length:=by omega
  rw [List.take_length] at hset
  simp (disch:=omega) [-getElem?_pos,if_pos,if_neg,decide_eq_true,decide_eq_false,ir_law18_DualLeast_l1,e125,e126]
  exact ⟨rfl,e23,w',k',hset⟩
end Go.Proofs.YtejifalflkbekaaDoor
