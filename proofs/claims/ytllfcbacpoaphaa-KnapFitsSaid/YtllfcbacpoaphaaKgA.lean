/-
  package knap: Greedy.
-/
import Derived.Test.YtllfcbacpoaphaaPiC
import Derived.Test.YtllfcbacpoaphaaKn13
import Derived.Test.YtllfcbacpoaphaaBuild2
set_option maxRecDepth 100000
set_option linter.unusedSimpArgs false
set_option linter.unusedVariables false
namespace Go.Abs
theorem perm_of_nodup {l m : List Int} (h1 : l.Nodup) (h2 : m.Nodup) (h : ∀ a,a ∈ l ↔ a ∈ m) : l.Perm m:=by
 rw [List.perm_iff_count]
 intro a
 rw [h1.count,h2.count]
 simp only [h a]
theorem rise_unique : ∀ {l m : List Int},l.Pairwise (· ≤ ·) → m.Pairwise (· ≤ ·) → l.Perm m → l = m
 | [],m,_,_,h => (List.nil_perm.1 h).symm
 | a :: l,[],_,_,h => absurd h.symm (by simp)
 | a :: l,b :: m,h1,h2,h => by
  obtain ⟨h1a,h1b⟩:=List.pairwise_cons.1 h1
  obtain ⟨h2a,h2b⟩:=List.pairwise_cons.1 h2
  have hab : a = b:=by
   have ha : a ∈ b :: m:=h.mem_iff.1 (by simp)
   have hb : b ∈ a :: l:=h.mem_iff.2 (by simp)
   rcases List.mem_cons.1 ha with ha | ha
   ·exact ha
   ·rcases List.mem_cons.1 hb with hb | hb
    ·exact hb.symm
    ·have:=h1a b hb
     have:=h2a a ha
     omega
  subst hab
  rw [rise_unique h1b h2b (List.Perm.cons_inv h)]
theorem selK_rise (b : Nat → Bool) (k : Nat) : (selK b k).Pairwise (· < ·):=by
 unfold selK
 rw [List.pairwise_map]
 refine (List.pairwise_lt_range.sublist List.filter_sublist).imp ?_
 intro a c h; omega
theorem sort_sel {M g : List Int} {n : Nat} (hM : M.Perm g) (hs : M.Pairwise (· ≤ ·)) (hg : g.Nodup) (hr : ∀ a ∈ g,0 ≤ a ∧ a < n) : M = selK (fun i => decide ((i : Int) ∈ g)) n:=by
 have h1:=selK_rise (fun i => decide ((i : Int) ∈ g)) n
 refine rise_unique hs (h1.imp fun h => by omega) (hM.trans (perm_of_nodup hg (h1.imp fun h => by omega) fun a => ?_))
 rw [selK_mem]
 constructor
 ·intro ha
  have:=hr a ha
  exact ⟨a.toNat,by omega,by omega,decide_eq_true (by rw [show ((a.toNat : Nat) : Int) = a by omega]; exact ha)⟩
 ·rintro ⟨i,rfl,_,h⟩
  exact of_decide_eq_true h
def inL (A : List Int) (i : Nat) : Bool:=decide ((i : Int) ∈ A)
def grB (L : List (Int × Int)) (room : Int) (i : Nat) : Bool:=decide ((i : Int) ∈ grK L (ordW L) room)
def grL (L : List (Int × Int)) (room : Int) : List Int:=if mayB L room then selK (grB L room) L.length else []
end Go.Abs
namespace Go.Proofs.Ytllfcbacpoaphaa
open Go Go.Abs
def GrI (H1 : AH) (L : List (Int × Int)) (room : Int) (v ov : Value) (k : Nat) (env : Env) (H' : AH) : Prop :=
 env 0 = some v ∧ env 13 = some ov ∧ env 14 = some (.int .i64 ((ordW L).length : Nat)) ∧ env 15 = some (.int .i64 k) ∧ WF H' ∧ Keep [] H1 H' ∧
  ∃ a S A r,env 5 = some a ∧ env 1 = some (.int .i64 r) ∧ 0 ≤ r ∧ r ≤ 2147483648 ∧ OwnL (fun _ => False) H' T_int a A S ∧ (∀ c ∈ S,H1.next ≤ c) ∧ A.length ≤ k ∧ A ++ grK L ((ordW L).drop k) r = grK L (ordW L) room
def GrQ (H1 : AH) (L : List (Int × Int)) (room : Int) (v ov : Value) (e : AExit) (env : Env) (H' : AH) : Prop:=e = .exit 0 ∧ GrI H1 L room v ov (ordW L).length env H'
theorem greedy_l0 {H1 : AH} {L : List (Int × Int)} {room : Int} {v ov : Value} (hw : WF H1) (hL : SlV (fun b => b < H1.next) H1 v L) (hO : SlV (fun b => b < H1.next) H1 ov (ordW L)) (hok : ItOk L room) (hl : L.length ≤ 40) {env : Env} (h : GrI H1 L room v ov 0 env H1) :
  wpC Try.prog 41 (.loop ir_knap_Greedy_l0) (GrQ H1 L room v ov) env H1:=by
 have hol:=ordW_len hok.wt
 refine loop_upto (ordW L).length (GrI H1 L room v ov) (Q:=GrQ H1 L room v ov) h ?_
 rintro k env H' hk ⟨e0,e13,e14,e15,w',k',a,S,A,r,e5,e1,hr0,hr1,hA,hS,hAl,hrel⟩
 have hn':=k'.next
 by_cases hkn : k < (ordW L).length
 ·have hO':=hO.kept hw k'
  have hL':=hL.kept hw k'
  obtain ⟨b0,off,sp,cap,cs,hcv,q1,q2⟩:=ints_rd hO' (by omega)
  obtain ⟨q3,_⟩:=q2 k hkn
  have hmem : (ordW L)[k] ∈ ordW L:=List.getElem_mem hkn
  obtain ⟨hm0,hm1⟩:=(ordW_mem hok.wt).1 hmem
  obtain ⟨m,hm⟩ : ∃ m : Nat,(ordW L)[k] = (m : Int):=⟨((ordW L)[k]).toNat,by omega⟩
  have hml : m < L.length:=by omega
  obtain ⟨b1,off1,sp1,cap1,cs1,hcv1,p1,p2⟩:=pairs_rd hL (by omega)
  have hb1n:=cells_lt hw p1
  replace p1:=cells_kept hw k' p1
  obtain ⟨_,_,p3,p4,p5⟩:=p2 m hml
  have hdr : (ordW L).drop k = (m : Int) :: (ordW L).drop (k + 1):=by rw [List.drop_eq_getElem_cons hkn,hm]
  have hit : itm L (m : Int) = L[m]:=itm_get hml
  have hval:=hok.val L[m] (List.getElem_mem hml)
  rw [hdr,grK,hit] at hrel
  rw [hm] at q3
  subst hcv hcv1
  obtain ⟨n,hn⟩ : ∃ n,n = (ordW L).length:=⟨_,rfl⟩
  have hkn' : k < n:=by omega
  have hml' : (m : Int) < (L.length : Int):=by omega
  have hx2:=hval.2
  have hk40 : (k : Int) ≤ 40:=by omega
  have hp13:=cells_lt w' p1
  have hq13:=cells_lt w' q1
  by_cases hlt : L[m].2 ≤ r
  ·rw [if_pos hlt] at hrel
   have hwr : IntKind.i64.wrap (r - L[m].2) = r - L[m].2:=IntWalk.i64_in _ (by omega)
   generalize L[m] = x at *
   obtain ⟨x0,x1⟩:=x
   simp only at *
   obtain ⟨aa,ac,rfl⟩:=hA.slice
   have hbS:=hA.blkOf
   have hSlt:=hA.lt w'
   have hn0 : H'.next = H'.next:=rfl
   obtain ⟨Hy,hHy⟩ : ∃ Hy,Hy = (H'.room 13).set (H'.next + 2) (.row [.int .i64 (m : Int)] T_int true):=⟨_,rfl⟩
   have wy : WF Hy:=by rw [hHy]; exact (WF.room w').set (by simp)
   have ny : Hy.next = H'.next + 13:=by rw [hHy]; simp
   have ky : Keep [] H' Hy:=by rw [hHy]; exact .new_set (by omega) .room
   have pE : elemsA Hy 1 (.slice (some ⟨H'.next + 2,0,none⟩) 1 1) = some [.int .i64 (m : Int)]:=by
    rw [hHy]
    simp [elemsA,AH.cells_set_same,cut]
   have hAy:=hA.kept w' ky
   obtain ⟨b',o',s',c',Hz,pB,hB,nz,fz,iz⟩:=hAy.pushAt (id:=H'.next + 3) (q:=fun _ => False) (by omega) (cs:=[.int .i64 (m : Int)]) (a:=(m : Int)) ⟨rfl,by unfold I64; omega⟩ 8 (fun _ h => h) (fun _ h => h.elim) (by omega) (by omega)
   simp only [sz_int] at pB
   have wz : WF Hz:=wy.at nz (by omega) (fun b hb => by have:=hSlt b hb; omega) fz
   have kz : Keep [] H1 Hz:=⟨by omega,fun b hb _ => by rw [fz b (by omega) (fun h => by have:=hS b h; omega),ky.blk b (by omega) (by simp),k'.blk b hb (by simp)]⟩
   have hb' : ∀ c ∈ [b'],H1.next ≤ c:=fun c hc => by
    simp at hc
    subst hc
    rcases iz with h | h
    ·exact hS _ (by rw [h]; simp)
    ·omega
   simp (disch:=omega) [-getElem?_pos,if_pos,if_neg,decide_eq_true,decide_eq_false,ir_knap_Greedy_l0,e0,e1,e5,e13,e14,e15,hkn,q1,q3,p1,p3,hml,hml',hlt,hwr]
   rw [← hHy]
   simp (disch:=omega) [-getElem?_pos,if_pos,if_neg,decide_eq_true,decide_eq_false,pE,pB,e15,IntWalk.i64_in]
   refine ⟨offs_iff.2 fun c hc hcm => ?_,?_⟩
   ·rw [hbS] at hc
    have:=hS c hc
    simp at hcm; omega
   exact ⟨hkn,by simp [e0],by simp [e13],by simp [e14],by simp,wz,kz,_,[b'],A ++ [(m : Int)],r - x1,by simp; rfl,by simp,by omega,by omega,by simpa using hB,hb',by simp; omega,by rw [List.append_assoc]; exact hrel⟩
  ·rw [if_neg hlt] at hrel
   generalize L[m] = x at *
   obtain ⟨x0,x1⟩:=x
   simp only at *
   simp (disch:=omega) [-getElem?_pos,if_pos,if_neg,decide_eq_true,decide_eq_false,ir_knap_Greedy_l0,e0,e1,e5,e13,e14,e15,hkn,q1,q3,p1,p3,hml,hml',hlt,IntWalk.i64_in]
   exact ⟨by simp [e0],by simp [e13],by simp [e14],by simp,w',k',a,S,A,r,by simp [e5],by simp [e1],hr0,hr1,hA,hS,by omega,hrel⟩
 ·obtain rfl : k = (ordW L).length:=by omega
  simp (disch:=omega) [-getElem?_pos,if_pos,if_neg,decide_eq_true,decide_eq_false,ir_knap_Greedy_l0,e14,e15]
  exact ⟨rfl,e0,e13,e14,e15,w',k',a,S,A,r,e5,e1,hr0,hr1,hA,hS,hAl,hrel⟩
theorem Greedy_spec {H : AH} {v : Value} {L : List (Int × Int)} {room : Int} (hL : SlV (fun b => b < H.next) H v L) (hl : L.length ≤ 40) : AFn Try.prog F_knap_Greedy [v,.int .i64 room] H fun u H' => SlV (fun b => H.next ≤ b ∧ b < H'.next) H' u (grL L room) ∧ Keep [] H H':=by
 refine AFn.enter mixed ir_knap_Greedy_eq (by simp [ir_knap_Greedy]) fun hw => ?_
 obtain ⟨va,vc,rfl⟩:=hL.slice
 simp (disch:=omega) [-getElem?_pos,if_pos,if_neg,decide_eq_true,decide_eq_false,ir_knap_Greedy]
 refine AFn.pure (may_spec hL room) ?_
 have hgr : grL L room = if mayB L room then selK (grB L room) L.length else []:=rfl
 rw [hgr]
 cases hm : mayB L room with
 | false =>
  simp (disch:=omega) [-getElem?_pos,if_pos,if_neg,decide_eq_true,decide_eq_false,]
  exact ⟨.nil,.refl⟩
 | true =>
  have hok:=mayB_iff.1 hm
  have ho : ordL L = ordW L:=by unfold ordL; rw [may_zero hm]; rfl
  simp (disch:=omega) [-getElem?_pos,if_pos,if_neg,decide_eq_true,decide_eq_false,]
  refine (Order_spec hL hl).mono' fun u H2 w2 ⟨hO,k2⟩ => ?_
  rw [ho] at hO
  have n2:=k2.next
  obtain ⟨oa,oc,rfl⟩:=hO.slice
  simp (disch:=omega) [-getElem?_pos,if_pos,if_neg,decide_eq_true,decide_eq_false,]
  refine wpC_use (greedy_l0 (H1:=H2) (L:=L) (room:=room) (v:=.slice va L.length vc) (ov:=.slice oa (ordW L).length oc) w2 ((hL.kept hw k2).mono fun b hb => by omega) (hO.mono fun b hb => hb.2) hok hl ⟨by simp,by simp,by simp,by simp,w2,.refl,.slice none 0 0,[],[],room,by simp,by simp,hok.room.1,hok.room.2,.nil,by simp,by simp,by simp⟩) ?_
  rintro e env3 H3 ⟨rfl,f0,f13,f14,f15,w3,k3,a,S,A,r,f5,f1,hr0,hr1,hA,hS,hAl,hrel⟩ _
  rw [List.drop_length,grK,List.append_nil] at hrel
  subst hrel
  have hol:=ordW_len hok.wt
  simp (disch:=omega) [-getElem?_pos,if_pos,if_neg,decide_eq_true,decide_eq_false,f5]
  refine (Ps.SortI_spec hA (by omega)).mono' fun u H4 w4 ⟨M,hM,hs,hA4,k4⟩ => ?_
  have hsub:=grK_sub L (ordW L) room
  have hM2:=sort_sel (n:=L.length) hM hs (hsub.nodup (ordW_nodup hok.wt)) fun a ha => (ordW_mem hok.wt).1 (hsub.subset ha)
  have hSlt:=hA4.lt w4
  simp (disch:=omega) [-getElem?_pos,if_pos,if_neg,decide_eq_true,decide_eq_false,f5]
  rw [hM2] at hA4
  refine ⟨hA4.slv (fun _ h => h.elim) (fun b hb => ⟨by have:=hS b hb; omega,hSlt b hb⟩) (by have:=selK_len (fun i => decide ((i : Int) ∈ grK L (ordW L) room)) L.length; omega),k2.trans' (k3.trans k4 fun b hb hlt => by have:=hS b hb; omega)⟩
end Go.Proofs.Ytllfcbacpoaphaa
