/-
  Layer 18: the sets.
-/
import Derived.Test.YtejifalflkbekaaDoorDs1
import Derived.Test.YtejifalflkbekaaDoorLs
set_option maxRecDepth 100000
set_option linter.unusedSimpArgs false
set_option linter.unusedVariables false
namespace Go.Proofs.YtejifalflkbekaaDoor
open Go Go.Abs Go.Proofs.YtejifalflkbekaaDoor.Bs
open Go.Abs.Ren (R)
def NewE (H1 H : AH) (ev : Value) (E : List Int) : Prop:=∃ S,OwnL (fun _ => False) H T_int ev E S ∧ WF H ∧ Keep [] H1 H ∧ ∀ c ∈ S,H1.next ≤ c
def SxI (H' : AH) (m e : Nat) (ev iv : Value) (N : Nat) (k : Nat) (env : Env) (H : AH) : Prop :=
 env 1 = some (.int .i64 m) ∧ env 12 = some (.int .i64 e) ∧ env 11 = some ev ∧ env 39 = some iv ∧ env 40 = some (.int .i64 N) ∧ env 41 = some (.int .i64 k) ∧ H = H'
def SxQ (H1 : AH) (E : List Int) (e : Nat) (x : AExit) (env : Env) (H : AH) : Prop :=
 x = .exit 4 ∧ ∃ ev,env 11 = some ev ∧ (NewE H1 H ev E ∨ NewE H1 H ev (E ++ [(e : Int)]))
theorem sets_l0 {p : Nat → Prop} {H1 H' : AH} {ev iv : Value} {E L : List Int} {m e : Nat} (hS : NewE H1 H' ev E) (hE : E.length ≤ 100) (he : e < m) (hm : m ≤ 12) (hL : SlV p H' iv L) {env : Env} (h : SxI H' m e ev iv L.length 0 env H') :
  wpC Tryd.prog 80 (.loop ir_law18_sets_l0) (SxQ H1 E e) env H':=by
 refine loop_upto L.length (SxI H' m e ev iv L.length) (Q:=SxQ H1 E e) h ?_
 rintro k env H hk ⟨e1,e12,e11,e39,e40,e41,rfl⟩
 have hLm:=hL.max
 by_cases hkn : k < L.length
 ·obtain ⟨b0,off,sp,cap,cs,rfl,q1,q2⟩:=ints_rd hL (by omega)
  obtain ⟨q3,q4⟩:=q2 k hkn
  obtain ⟨S,hA,wf,keep,hSn⟩:=hS
  have hz0:=eq_false (show ¬ (m : Int) = 0 by omega)
  generalize L[k] = z at *
  obtain ⟨ea,ec,rfl⟩:=hA.slice
  by_cases hz : (if 0 < z then z else 0).tmod m = e
  ·obtain ⟨va,vc,H2,S',p1,w2,hA2,k2,hS2,_,_⟩:=push_int wf hA keep hSn (a:=(e : Int)) (by unfold I64; omega) (by omega)
   have pE : elemsA (H.alloc (.row [.int .i64 (e : Int)] T_int true)) 1 (.slice (some ⟨H.next,0,none⟩) 1 1) = some [.int .i64 (e : Int)]:=elems_one rfl
   simp (disch:=omega) [-getElem?_pos,if_pos,if_neg,decide_eq_true,decide_eq_false,ir_law18_sets_l0,e1,e11,e12,e39,e40,e41,q1,q3,hz0,hz,hkn,pE,p1,IntWalk.i64_in]
   exact ⟨rfl,_,by simp; rfl,.inr ⟨S',by simpa using hA2,w2,k2,hS2⟩⟩
  ·simp (disch:=omega) [-getElem?_pos,if_pos,if_neg,decide_eq_true,decide_eq_false,ir_law18_sets_l0,e1,e11,e12,e39,e40,e41,q1,q3,hz0,hz,hkn,IntWalk.i64_in]
   exact ⟨by simp [e1],by simp [e12],by simp [e11],by simp [e39],by simp [e40],by simp,rfl⟩
 ·obtain rfl : k = L.length:=by omega
  simp (disch:=omega) [-getElem?_pos,if_pos,if_neg,decide_eq_true,decide_eq_false,ir_law18_sets_l0,e40,e41]
  exact ⟨rfl,ev,e11,.inl hS⟩
def SyI (H1 : AH) (m : Nat) (iv : Value) (k : Nat) (env : Env) (H : AH) : Prop :=
 env 1 = some (.int .i64 m) ∧ env 10 = some iv ∧ env 35 = some (.int .i64 m) ∧ env 36 = some (.int .i64 k) ∧ ∃ ev E,env 11 = some ev ∧ NewE H1 H ev E ∧ Rises (-1) k E ∧ E.length ≤ k
def SyQ (H1 : AH) (m : Nat) (x : AExit) (env : Env) (H : AH) : Prop:=x = .exit 2 ∧ ∃ ev E,env 11 = some ev ∧ NewE H1 H ev E ∧ Rises (-1) m E ∧ E.length ≤ m
theorem sets_l1 {p : Nat → Prop} {H1 : AH} {iv : Value} {L : List Int} {m : Nat} (hw : WF H1) (hm : m ≤ 12) (hL : SlV p H1 iv L) {env : Env} (h : SyI H1 m iv 0 env H1) :
  wpC Tryd.prog 80 (.loop ir_law18_sets_l1) (SyQ H1 m) env H1:=by
 refine loop_upto m (SyI H1 m iv) (Q:=SyQ H1 m) h ?_
 rintro k env H hk ⟨e1,e10,e35,e36,ev,E,e11,hN,hR,hl⟩
 by_cases hkn : k < m
 ·have hk' : Keep [] H1 H:=let ⟨_,_,_,h,_⟩:=hN; h
  have hL':=hL.kept hw hk'
  obtain ⟨ia,ic,hiv⟩:=hL'.slice
  rw [hiv] at e10
  simp (disch:=omega) [-getElem?_pos,if_pos,if_neg,decide_eq_true,decide_eq_false,ir_law18_sets_l1,e1,e10,e11,e35,e36,hkn]
  refine wpC_use (sets_l0 (e:=k) (m:=m) (ev:=ev) (iv:=iv) hN (by omega) hkn hm hL' ⟨by simp [e1],by simp,by simp [e11],by simp [hiv],by simp,by simp,rfl⟩) ?_
  rintro e env2 H2 ⟨rfl,ev2,f11,hN2⟩ hu
  have u1:=hu 1 (by decide)
  have u10:=hu 10 (by decide)
  have u35:=hu 35 (by decide)
  have u36:=hu 36 (by decide)
  simp [e1,e10,e35,e36] at u1 u10 u35 u36
  simp (disch:=omega) [-getElem?_pos,if_pos,if_neg,decide_eq_true,decide_eq_false,u36,hkn,IntWalk.i64_in]
  refine ⟨by simp [u1],by simp [u10,hiv],by simp [u35],by simp,ev2,?_⟩
  rcases hN2 with hN2 | hN2
  ·exact ⟨E,by simp [f11],hN2,rises_up (by omega) hR,by omega⟩
  ·exact ⟨E ++ [(k : Int)],by simp [f11],hN2,by have:=rises_snoc (n:=k) (by omega) hR; simpa using this,by simp; omega⟩
 ·obtain rfl : k = m:=by omega
  simp (disch:=omega) [-getElem?_pos,if_pos,if_neg,decide_eq_true,decide_eq_false,ir_law18_sets_l1,e35,e36]
  exact ⟨rfl,ev,E,e11,hN,hR,hl⟩
def SetsOk (sz : Int) (M : List SetD) : Prop:=∀ s ∈ M,s.elems.length ≤ 30 ∧ (0 ≤ sz → Mag 0 s.cost ∧ Rises (-1) sz s.elems)
def EB (m : Nat) (H' : AH) (S T : List Nat) : Nat → Prop:=fun b => m ≤ b ∧ b < H'.next ∧ b ∉ S ∧ b ∉ T
structure StH (H0 : AH) (sz : Int) (k : Nat) (a b : Value) (H' : AH) (M : List SetD) (S T : List Nat) : Prop where
 wf : WF H'
 keep : Keep [] H0 H'
 a : OwnL (EB H0.next H' S T) H' T_inst_Set a M S
 b : OwnL (EB H0.next H' S T) H' T_secateurref09_Set b M T
 len : M.length = k
 ok : SetsOk sz M
 s : ∀ c ∈ S,H0.next ≤ c
 t : ∀ c ∈ T,H0.next ≤ c
 st : ∀ c ∈ S,c ∉ T
theorem st_push {H0 H' H3 : AH} {sz c3 : Int} {k : Nat} {aa ba wa3 : Option Addr} {ac bc wc3 : Nat} {M : List SetD} {S T : List Nat} {z3 : List Int} (hs : StH H0 sz k (.slice aa M.length ac) (.slice ba M.length bc) H' M S T) (w3' : WF H3) (k3 : Keep [] H' H3) (hz3 : SlV (fun b => H'.next < b ∧ b < H3.next) H3 (.slice wa3 z3.length wc3) z3) (hc3 : I64 c3) (hl3 : z3.length ≤ 30) (hok3 : 0 ≤ sz → Mag 0 c3 ∧ Rises (-1) sz z3) (hkl : k ≤ 30) :
  ∃ Ha Hb Hc Hd b1' o1 s1 c1' b2' o2 s2 c2',Ha = (H3.room 16).set (H3.next + 5) (.row [.int .i64 c3,.slice wa3 z3.length wc3] T_inst_Set true) ∧ elemsA Ha 2 (.slice (some ⟨H3.next + 5,0,none⟩) 1 1) = some [.int .i64 c3,.slice wa3 z3.length wc3] ∧
   appendAt (H3.next + 6) Ha T_inst_Set 2 32 (.slice aa M.length ac) 1 [.int .i64 c3,.slice wa3 z3.length wc3] = some (.slice (some ⟨b1',o1,s1⟩) (M.length + 1) c1',Hb) ∧ Hb.next = H3.next + 16 ∧
   Hc = Hb.set (H3.next + 12) (.row [.int .i64 c3,.slice wa3 z3.length wc3] T_secateurref09_Set true) ∧ elemsA Hc 2 (.slice (some ⟨H3.next + 12,0,none⟩) 1 1) = some [.int .i64 c3,.slice wa3 z3.length wc3] ∧
   appendAt (H3.next + 13) Hc T_secateurref09_Set 2 32 (.slice ba M.length bc) 1 [.int .i64 c3,.slice wa3 z3.length wc3] = some (.slice (some ⟨b2',o2,s2⟩) (M.length + 1) c2',Hd) ∧
   StH H0 sz (k + 1) (.slice (some ⟨b1',o1,s1⟩) (M.length + 1) c1') (.slice (some ⟨b2',o2,s2⟩) (M.length + 1) c2') Hd (M ++ [⟨c3,z3⟩]) [b1'] [b2']:=by
 have n3:=k3.next
 have hn':=hs.keep.next
 have hSb:=hs.a.blkOf
 have hTb:=hs.b.blkOf
 have hSn:=hs.a.lt hs.wf
 have hTn:=hs.b.lt hs.wf
 have hEB : ∀ b,EB H0.next H' S T b → b < H'.next:=fun b h => h.2.1
 obtain ⟨Ha,hHa⟩ : ∃ Ha,Ha = (H3.room 16).set (H3.next + 5) (.row [.int .i64 c3,.slice wa3 z3.length wc3] T_inst_Set true):=⟨_,rfl⟩
 have wa' : WF Ha:=by rw [hHa]; exact (WF.room w3').set (by simp)
 have na : Ha.next = H3.next + 16:=by rw [hHa]; simp
 have ka : Keep [] H3 Ha:=by rw [hHa]; exact .new_set (by omega) .room
 have pE : elemsA Ha 2 (.slice (some ⟨H3.next + 5,0,none⟩) 1 1) = some [.int .i64 c3,.slice wa3 z3.length wc3]:=by
  rw [hHa]; simp [elemsA,AH.cells_set_same,cut]
 have k3a:=k3.trans' ka
 have hza:=hz3.kept w3' ka
 obtain ⟨b1',o1,s1,c1',Hb,pB,hB,nb,fb,ib⟩:=(hs.a.kept hs.wf k3a).pushAt (id:=H3.next + 6) (q:=fun b => EB H0.next H' S T b ∨ (H'.next < b ∧ b < H3.next)) (by omega) (cs:=[.int .i64 c3,.slice wa3 z3.length wc3]) (a:=⟨c3,z3⟩) ⟨_,rfl,hc3,hza.mono fun b hb => .inr hb⟩ 32 (fun b hb => .inl hb)
  (fun b hb => by rcases hb with hb | hb; exact ⟨by have:=hEB b hb; omega,hb.2.2.1⟩; exact ⟨by omega,fun h => by have:=hSn b h; omega⟩) (by have:=hs.len; omega) (by have:=hs.len; omega)
 simp only [sz_set] at pB
 have wb : WF Hb:=wa'.at nb (by omega) (fun b hb => by have:=hSn b hb; omega) fb
 obtain ⟨Hc,hHc⟩ : ∃ Hc,Hc = Hb.set (H3.next + 12) (.row [.int .i64 c3,.slice wa3 z3.length wc3] T_secateurref09_Set true):=⟨_,rfl⟩
 have wc : WF Hc:=by rw [hHc]; exact wb.set (by omega)
 have nc : Hc.next = H3.next + 16:=by rw [hHc]; show Hb.next = _; omega
 have pE2 : elemsA Hc 2 (.slice (some ⟨H3.next + 12,0,none⟩) 1 1) = some [.int .i64 c3,.slice wa3 z3.length wc3]:=by
  rw [hHc]; simp [elemsA,AH.cells_set_same,cut]
 have fc : ∀ b,b < H3.next → b ∉ S → Hc.blk b = H3.blk b:=fun b hb hbs => by rw [hHc,AH.set_blk_ne (by omega),fb b (by omega) hbs,ka.blk b hb (by simp)]
 have hTc : OwnL (EB H0.next H' S T) Hc T_secateurref09_Set (.slice ba M.length bc) M T:=(hs.b.kept hs.wf k3).over (fun b hb => fc b (by have:=hEB b hb; omega) hb.2.2.1) fun b hb => fc b (by have:=hTn b hb; omega) fun h => hs.st b h hb
 have hzc : SlV (fun b => H'.next < b ∧ b < H3.next) Hc (.slice wa3 z3.length wc3) z3:=hz3.sub fun b hb cs hcs => by
  unfold AH.cells at hcs ⊢
  rw [fc b hb.2 (fun h => by have:=hSn b h; omega)]; exact hcs
 obtain ⟨b2',o2,s2,c2',Hd,pD,hD,nd,fd,id⟩:=hTc.pushAt (id:=H3.next + 13) (q:=fun b => EB H0.next H' S T b ∨ (H'.next < b ∧ b < H3.next)) (by omega) (cs:=[.int .i64 c3,.slice wa3 z3.length wc3]) (a:=⟨c3,z3⟩) ⟨_,rfl,hc3,hzc.mono fun b hb => .inr hb⟩ 32 (fun b hb => .inl hb)
  (fun b hb => by rcases hb with hb | hb; exact ⟨by have:=hEB b hb; omega,hb.2.2.2⟩; exact ⟨by omega,fun h => by have:=hTn b h; omega⟩) (by have:=hs.len; omega) (by have:=hs.len; omega)
 simp only [sz_set] at pD
 have wd : WF Hd:=wc.at nd (by omega) (fun b hb => by have:=hTn b hb; omega) fd
 have fD : ∀ b,b < H3.next → b ∉ S → b ∉ T → Hd.blk b = H3.blk b:=fun b hb h1 h2 => by rw [fd b (by omega) h2,fc b hb h1]
 have hb1 : (b1' < H'.next ∧ b1' ∈ S) ∨ b1' = H3.next + 6:=by
  rcases ib with h | h
  ·exact .inl ⟨hSn b1' (by rw [h]; simp),by rw [h]; simp⟩
  ·exact .inr h
 have hb2 : (b2' < H'.next ∧ b2' ∈ T) ∨ b2' = H3.next + 13:=by
  rcases id with h | h
  ·exact .inl ⟨hTn b2' (by rw [h]; simp),by rw [h]; simp⟩
  ·exact .inr h
 have hb12 : b1' ≠ b2':=fun h => by
  rcases hb1 with ⟨h1,h1'⟩ | h1 <;> rcases hb2 with ⟨h2,h2'⟩ | h2
  ·exact hs.st _ h1' (h ▸ h2')
  ·omega
  ·omega
  ·omega
 have hpq : ∀ b,(EB H0.next H' S T b ∨ (H'.next < b ∧ b < H3.next)) → EB H0.next Hd [b1'] [b2'] b:=fun b hb => by
  rcases hb with hb | hb
  ·have hlt:=hb.2.1
   refine ⟨hb.1,by omega,?_,?_⟩
   ·simp; intro e; rcases hb1 with ⟨_,h⟩ | h
    ·exact hb.2.2.1 (e ▸ h)
    ·omega
   ·simp; intro e; rcases hb2 with ⟨_,h⟩ | h
    ·exact hb.2.2.2 (e ▸ h)
    ·omega
  ·refine ⟨by omega,by omega,?_,?_⟩
   ·simp; rcases hb1 with ⟨h,_⟩ | h <;> omega
   ·simp; rcases hb2 with ⟨h,_⟩ | h <;> omega
 have hfin : StH H0 sz (k + 1) (.slice (some ⟨b1',o1,s1⟩) (M.length + 1) c1') (.slice (some ⟨b2',o2,s2⟩) (M.length + 1) c2') Hd (M ++ [⟨c3,z3⟩]) [b1'] [b2']:=by
  refine ⟨wd,⟨by omega,fun b hb _ => ?_⟩,?_,?_,by simp [hs.len],fun x hx => ?_,fun c hc => ?_,fun c hc => ?_,fun c hc hc2 => ?_⟩
  ·rw [fD b (by omega) (fun h => by have:=hs.s b h; omega) (fun h => by have:=hs.t b h; omega),k3.blk b (by omega) (by simp),hs.keep.blk b hb (by simp)]
  ·refine hB.up hpq (fun b hb cs hcs => ?_) (fun b hb => ?_) (fun b hb h => h.2.2.1 hb)
   ·have hbl : b < H3.next ∧ b ∉ S ∧ b ∉ T:=by
     rcases hb with hb | hb
     ·exact ⟨by have:=hEB b hb; omega,hb.2.2.1,hb.2.2.2⟩
     ·exact ⟨hb.2,fun h => by have:=hSn b h; omega,fun h => by have:=hTn b h; omega⟩
    unfold AH.cells at hcs ⊢
    rw [fb b (by omega) hbl.2.1,ka.blk b hbl.1 (by simp)] at hcs
    rw [fD b hbl.1 hbl.2.1 hbl.2.2]; exact hcs
   ·simp at hb; subst hb
    have hbT : b ∉ T:=fun h => by
     rcases hb1 with ⟨_,h1⟩ | h1
     ·exact hs.st _ h1 h
     ·have:=hTn b h; omega
    rw [fd b (by rcases hb1 with ⟨h,_⟩ | h <;> omega) hbT,hHc,AH.set_blk_ne (by rcases hb1 with ⟨h,_⟩ | h <;> omega)]
  ·exact hD.up hpq .refl (fun b hb => rfl) (fun b hb h => h.2.2.2 hb)
  ·rcases List.mem_append.1 hx with hx | hx
   ·exact hs.ok x hx
   ·simp at hx; subst hx; exact ⟨hl3,hok3⟩
  ·simp at hc; subst hc
   rcases hb1 with ⟨_,h⟩ | h
   ·exact hs.s _ h
   ·omega
  ·simp at hc; subst hc
   rcases hb2 with ⟨_,h⟩ | h
   ·exact hs.t _ h
   ·omega
  ·simp at hc hc2; exact hb12 (hc ▸ hc2)
 exact ⟨Ha,Hb,Hc,Hd,b1',o1,s1,c1',b2',o2,s2,c2',hHa,pE,pB,by omega,hHc,pE2,pD,hfin⟩
def StI (H0 : AH) (sz : Int) (xs : Value) (L : List SetD) (k : Nat) (env : Env) (H' : AH) : Prop :=
 env 1 = some (.int .i64 sz) ∧ env 19 = some xs ∧ env 20 = some (.int .i64 L.length) ∧ env 21 = some (.int .i64 k) ∧ ∃ a b M S T,env 6 = some a ∧ env 7 = some b ∧ StH H0 sz k a b H' M S T
def StQ (H0 : AH) (sz : Int) (N : Nat) (e : AExit) (env : Env) (H' : AH) : Prop:=e = .exit 0 ∧ ∃ a b M S T,env 6 = some a ∧ env 7 = some b ∧ StH H0 sz N a b H' M S T
def StR (H' : AH) (q : Nat) (sz : Int) (e : AExit) (env : Env) (H3 : AH) : Prop :=
 e = .normal ∧ ∃ z w c xv,env 10 = some w ∧ SlV (fun b => H'.next < b ∧ b < H3.next) H3 w z ∧ H3.blk q = some (.row [.int .i64 c,xv] T_secateurlaw18_Set true) ∧ I64 c ∧ z.length ≤ 30 ∧ (0 ≤ sz → Mag 0 c ∧ Rises (-1) sz z) ∧ WF H3 ∧ Keep [] H' H3
theorem sets_l2 {H0 : AH} {sz : Int} {xs : Value} {L : List SetD} (hw : WF H0) (hsz : sz = -1 ∨ ∃ m : Nat,sz = m ∧ m ≤ 12) (hL : SlV (fun b => b < H0.next) H0 xs L) (hl : L.length ≤ 30) {env : Env} (h : StI H0 sz xs L 0 env H0) :
  wpC Tryd.prog 80 (.loop ir_law18_sets_l2) (StQ H0 sz L.length) env H0:=by
 refine loop_upto L.length (StI H0 sz xs L) (Q:=StQ H0 sz L.length) h ?_
 rintro k env H' hk ⟨e1,e19,e20,e21,a,b,M,S,T,e6,e7,hs⟩
 have hn':=hs.keep.next
 by_cases hkn : k < L.length
 ·have hL':=hL.kept hw hs.keep
  obtain ⟨b0,off,sp,cap,cs,rfl,q1,q2⟩:=sets_rd hL' (by omega)
  obtain ⟨xv,q3,q4,q5,q6,q7⟩:=q2 k hkn
  generalize L[k] = s at *
  obtain ⟨cost,y⟩:=s
  simp only at q3 q4 q5 q6 q7
  obtain ⟨xa,xc,rfl⟩:=q7.slice
  have hz : ∀ {H : AH},(H.alloc (.row [.int .i64 0,.slice none 0 0] T_secateurlaw18_Set true)).blk H.next = some (.row [.int .i64 0,.slice none 0 0] T_secateurlaw18_Set true):=fun {H} => AH.alloc_blk_new
  obtain ⟨H1,hH1⟩ : ∃ H1,H1 = H'.alloc (.row [.int .i64 cost,.slice xa y.length xc] T_secateurlaw18_Set true):=⟨_,rfl⟩
  have k1 : Keep [] H' H1:=by rw [hH1]; exact .alloc
  have w1 : WF H1:=by rw [hH1]; exact hs.wf.alloc
  have n1 : H1.next = H'.next + 1:=by rw [hH1]; rfl
  have b1 : H1.blk H'.next = some (.row [.int .i64 cost,.slice xa y.length xc] T_secateurlaw18_Set true):=by rw [hH1]; exact AH.alloc_blk_new
  have q7':=q7.kept hs.wf k1
  obtain ⟨m,hm⟩ : ∃ m : Nat,m = min y.length 30:=⟨_,rfl⟩
  obtain ⟨wv,hsl,hW⟩:=q7'.sl (m:=m) (by omega)
  have hmm : (if (30 : Int) < (y.length : Int) then (30 : Int) else (y.length : Int)) = (m : Int):=by split <;> omega
  have hyl : (y.take m).length = m:=by rw [List.length_take]; omega
  generalize y.take m = z at *
  obtain ⟨wa,wc,rfl⟩:=hW.slice
  simp only [sz_int] at hsl
  have c1:=AH.cells_of b1
  obtain ⟨cells,a',c',H2,S',pe,pa,hO,k2,w2,i2⟩:=OwnL.pushAll (p:=fun _ => False) (q:=fun b => b < H0.next) (ty:=T_int) (S:=[]) (l:=([] : List Int)) .nil w1 hW 8 (fun _ h => h.elim) (fun b hb => by omega) (by simp) (by simp; omega) (by simp; omega)
  simp only [sz_int,List.length_nil,Nat.zero_add,List.nil_append] at pe pa hO
  simp (disch:=omega) [-getElem?_pos,if_pos,if_neg,decide_eq_true,decide_eq_false,ir_law18_sets_l2,e1,e6,e7,e19,e20,e21,q1,q3,hkn,writeA_row hz,over,↓ieval_slhi,hmm]
  rw [← hH1]
  simp (disch:=omega) [-getElem?_pos,if_pos,if_neg,decide_eq_true,decide_eq_false,c1,↓ieval_slhi,hmm,hsl,pe,pa,e1]
  have n2:=k2.next
  have b2:=(k2.blk H'.next (by omega) (by simp)).trans b1
  have hS'n : ∀ c ∈ S',H'.next < c:=fun c hc => by rcases i2 c hc with h | h; simp at h; omega
  have hO2 : SlV (fun b => H'.next < b ∧ b < H2.next) H2 (.slice a' z.length c') z:=by
   obtain ⟨cells,o1,o2,o3⟩:=hO
   have:=o1.lt w2
   refine ⟨⟨by omega,?_⟩,cells,o1.vw (fun b hb => ⟨hS'n b hb,this b hb⟩),fun i hi => o2 i hi⟩
   rcases o1 with ⟨h,_⟩ | ⟨b,off,sp,cap,cs,h,_,_,_,_,_,hsp⟩
   ·simp at h; rw [h.1]; exact .nil
   ·simp at h; rw [h.1]; exact .of hsp
  refine condK_use (R:=StR H' H'.next sz) (fun hh => ?_) (fun hh => ?_) fun e env3 H3 ⟨he,z3,w3,c3,xv3,g10,hz3,b3,hc3,hl3,hok3,w3',k3⟩ hu => ?_
  ·obtain ⟨m',rfl,hm'⟩ : ∃ m : Nat,sz = m ∧ m ≤ 12:=by
    rcases hsz with h | h
    ·rw [h] at hh; simp at hh
    ·exact h
   simp (disch:=omega) [-getElem?_pos,if_pos,if_neg,decide_eq_true,decide_eq_false,e1]
   refine wpC_use (sets_l1 (H1:=H2) (m:=m') (iv:=.slice a' z.length c') (L:=z) w2 hm' hO2 ⟨by simp [e1],by simp,by simp,by simp,.slice none 0 0,[],by simp,⟨[],.nil,w2,.refl,by simp⟩,trivial,by simp⟩) ?_
   rintro e env3 H3 ⟨rfl,ev,E,f11,⟨SE,hE,w3,k3,hSE⟩,hR,hEl⟩ hu
   have u9:=hu 9 (by decide)
   simp at u9
   have n3:=k3.next
   have b3:=(k3.blk H'.next (by omega) (by simp)).trans b2
   have hEn:=hE.lt w3
   obtain ⟨ea,ec,rfl⟩:=hE.slice
   have hEs:=hE.slv (q:=fun b => H'.next < b ∧ b < H3.next) (fun _ h => h.elim) (fun b hb => ⟨by have:=hSE b hb; omega,hEn b hb⟩) (by omega)
   clear hE
   obtain ⟨c3,hc3⟩ : ∃ c3 : Int,c3 = if cost ≤ 0 then 0 else if cost ≤ 2147483648 then cost else 2147483648:=⟨_,rfl⟩
   have hmg : Mag 0 c3:=by rw [hc3]; unfold Mag; split <;> (try split) <;> omega
   have fin : ∀ H4,H4 = H3.set H'.next (.row [.int .i64 c3,.slice xa y.length xc] T_secateurlaw18_Set true) → SlV (fun b => H'.next < b ∧ b < H4.next) H4 (.slice ea E.length ec) E ∧ H4.blk H'.next = some (.row [.int .i64 c3,.slice xa y.length xc] T_secateurlaw18_Set true) ∧ WF H4 ∧ Keep [] H' H4:=by
    rintro H4 rfl
    refine ⟨?_,AH.set_blk_same,w3.set (by omega),?_⟩
    ·exact hEs.sub fun b hb cs hcs => (AH.cells_set_ne (show b ≠ H'.next by omega)).trans hcs
    ·exact (k1.trans' (k2.trans' k3)).trans (S:=[]) (S':=[H'.next]) (.set (by simp)) (fun b hb hlt => by simp at hb; omega)
   have c3':=AH.cells_of b3
   have w3b:=writeA_row b3 (off:=0) (news:=[.int .i64 c3])
   rw [if_pos (by simp)] at w3b
   simp only [over,List.take_zero,List.drop_succ_cons,List.drop_zero,List.length_cons,List.length_nil,List.nil_append,List.cons_append,Nat.zero_add] at w3b
   have hI3 : I64 c3:=by unfold Mag at hmg; unfold I64; omega
   by_cases hc1 : cost ≤ 0
   ·rw [if_pos hc1] at hc3
    subst hc3
    simp (disch:=omega) [-getElem?_pos,if_pos,if_neg,decide_eq_true,decide_eq_false,u9,f11,c3',w3b]
    exact ⟨rfl,E,.slice ea E.length ec,0,.slice xa y.length xc,by simp,(fin _ rfl).1,(fin _ rfl).2.1,hI3,by omega,fun _ => ⟨hmg,hR⟩,(fin _ rfl).2.2.1,(fin _ rfl).2.2.2⟩
   ·by_cases hc2 : cost ≤ 2147483648
    ·rw [if_neg hc1,if_pos hc2] at hc3
     subst hc3
     simp (disch:=omega) [-getElem?_pos,if_pos,if_neg,decide_eq_true,decide_eq_false,u9,f11,c3',w3b]
     exact ⟨rfl,E,.slice ea E.length ec,_,.slice xa y.length xc,by simp,(fin _ rfl).1,(fin _ rfl).2.1,hI3,by omega,fun _ => ⟨hmg,hR⟩,(fin _ rfl).2.2.1,(fin _ rfl).2.2.2⟩
    ·rw [if_neg hc1,if_neg hc2] at hc3
     subst hc3
     simp (disch:=omega) [-getElem?_pos,if_pos,if_neg,decide_eq_true,decide_eq_false,u9,f11,c3',w3b]
     exact ⟨rfl,E,.slice ea E.length ec,2147483648,.slice xa y.length xc,by simp,(fin _ rfl).1,(fin _ rfl).2.1,hI3,by omega,fun _ => ⟨hmg,hR⟩,(fin _ rfl).2.2.1,(fin _ rfl).2.2.2⟩
  ·have hsz1 : ¬ 0 ≤ sz:=of_decide_eq_false hh
   simp (disch:=omega) [-getElem?_pos,if_pos,if_neg,decide_eq_true,decide_eq_false,]
   exact ⟨rfl,z,_,cost,_,by simp,hO2,b2,q6,by omega,fun h => absurd h hsz1,w2,k1.trans' k2⟩
  ·subst he
   have u1:=hu 1 (by decide)
   have u6:=hu 6 (by decide)
   have u7:=hu 7 (by decide)
   have u9:=hu 9 (by decide)
   have u19:=hu 19 (by decide)
   have u20:=hu 20 (by decide)
   have u21:=hu 21 (by decide)
   simp [e1,e6,e7,e19,e20,e21] at u1 u6 u7 u9 u19 u20 u21
   clear hu
   have n3:=k3.next
   obtain ⟨aa,ac,rfl⟩:=hs.a.slice
   obtain ⟨ba,bc,rfl⟩:=hs.b.slice
   obtain ⟨wa3,wc3,rfl⟩:=hz3.slice
   have hSb:=hs.a.blkOf
   have hSn:=hs.a.lt hs.wf
   obtain ⟨Ha,Hb,Hc,Hd,b1',o1,s1,c1',b2',o2,s2,c2',hHa,pE,pB,nb,hHc,pE2,pD,hfin⟩:=st_push hs w3' k3 hz3 hc3 hl3 hok3 (by omega)
   simp (disch:=omega) [-getElem?_pos,if_pos,if_neg,decide_eq_true,decide_eq_false,u1,u6,u7,u9,u19,u20,u21,g10,AH.cells_of b3,cut]
   rw [← hHa]
   simp (disch:=omega) [-getElem?_pos,if_pos,if_neg,decide_eq_true,decide_eq_false,pE,pB]
   refine ⟨offs_iff.2 fun c hc hcm => ?_,off1_iff.2 fun hc => ?_,?_⟩
   ·rw [hSb] at hc
    have:=hSn c hc
    simp at hcm; omega
   ·rw [hSb] at hc
    have:=hSn _ hc
    omega
   rw [← hHc]
   simp (disch:=omega) [-getElem?_pos,if_pos,if_neg,decide_eq_true,decide_eq_false,pE2,pD,u21,hkn,IntWalk.i64_in]
   exact ⟨by simp [u1],by simp [u19],by simp [u20],by simp,_,_,_,[b1'],[b2'],by simp,by simp,hfin⟩
 ·obtain rfl : k = L.length:=by omega
  simp (disch:=omega) [-getElem?_pos,if_pos,if_neg,decide_eq_true,decide_eq_false,ir_law18_sets_l2,e20,e21]
  exact ⟨rfl,a,b,M,S,T,e6,e7,hs⟩
def StP (H : AH) (sz : Int) (n : Nat) (u : Value) (H' : AH) : Prop:=∃ a b M,u = .tuple #[a,b] ∧ SlV (fun b => H.next ≤ b ∧ b < H'.next) H' a M ∧ SlV (fun b => H.next ≤ b ∧ b < H'.next) H' b M ∧ M.length = n ∧ SetsOk sz M ∧ Keep [] H H'
theorem sets_spec {H : AH} {v : Value} {L : List SetD} {sz : Int} (hL : SlV (fun b => b < H.next) H v L) (hsz : sz = -1 ∨ ∃ m : Nat,sz = m ∧ m ≤ 12) : AFn Tryd.prog F_law18_sets [v,.int .i64 sz] H (StP H sz (min L.length 30)):=by
 refine AFn.enter mixed ir_law18_sets_eq (by simp [ir_law18_sets]) fun hw => ?_
 obtain ⟨m,hm⟩ : ∃ m : Nat,m = min L.length 30:=⟨_,rfl⟩
 obtain ⟨wv,hsl,hW⟩:=hL.sl (m:=m) (by omega)
 have hmm : (if (30 : Int) < (L.length : Int) then (30 : Int) else (L.length : Int)) = (m : Int):=by split <;> omega
 have hlen : (L.take m).length = m:=by rw [List.length_take]; omega
 rw [← hm]
 generalize L.take m = M at *
 obtain ⟨wa,wc,rfl⟩:=hW.slice
 obtain ⟨va,vc,rfl⟩:=hL.slice
 simp only [sz_set] at hsl
 simp (disch:=omega) [-getElem?_pos,if_pos,if_neg,decide_eq_true,decide_eq_false,ir_law18_sets,↓ieval_slhi,hmm,hsl]
 refine wpC_use (sets_l2 (H0:=H) (sz:=sz) (xs:=.slice wa M.length wc) (L:=M) hw hsz hW (by omega) ⟨by simp,by simp,by simp,by simp,.slice none 0 0,.slice none 0 0,[],[],[],by simp,by simp,⟨hw,.refl,.nil,.nil,rfl,by simp [SetsOk],by simp,by simp,by simp⟩⟩) ?_
 rintro e env2 H2 ⟨rfl,a,b,M2,S,T,f6,f7,hs⟩ _
 have hSn:=hs.a.lt hs.wf
 have hTn:=hs.b.lt hs.wf
 have hml:=hs.len
 obtain ⟨aa,ac,rfl⟩:=hs.a.slice
 obtain ⟨ba,bc,rfl⟩:=hs.b.slice
 simp (disch:=omega) [-getElem?_pos,if_pos,if_neg,decide_eq_true,decide_eq_false,f6,f7]
 have hn2:=hs.keep.next
 exact ⟨_,_,M2,rfl,hs.a.slv (fun b h => ⟨h.1,h.2.1⟩) (fun b hb => ⟨hs.s b hb,hSn b hb⟩) (by omega),hs.b.slv (fun b h => ⟨h.1,h.2.1⟩) (fun b hb => ⟨hs.t b hb,hTn b hb⟩) (by omega),by omega,hs.ok,hs.keep⟩
end Go.Proofs.YtejifalflkbekaaDoor
