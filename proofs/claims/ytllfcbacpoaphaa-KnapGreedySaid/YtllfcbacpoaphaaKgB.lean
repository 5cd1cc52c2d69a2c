/-
  The document's Greedy; KnapGreedy.
-/
import Derived.Test.YtllfcbacpoaphaaKgA
import Derived.Test.YtllfcbacpoaphaaBoolB
import Derived.Test.YtllfcbacpoaphaaKr6
set_option maxRecDepth 100000
set_option linter.unusedSimpArgs false
set_option linter.unusedVariables false
namespace Go.Proofs.Ytllfcbacpoaphaa
open Go Go.Abs
theorem inL_snoc {A : List Int} {m : Nat} {n : Nat} : (mapB (inL A) n).set m true = mapB (inL (A ++ [(m : Int)])) n:=by
 refine mapB_set fun j hj => ?_
 unfold inL
 by_cases h : j = m
 ·rw [if_pos h,h]; simp
 ·rw [if_neg h]
  have : ¬ (j : Int) = (m : Int):=by omega
  simp [this]
def GdI (H1 : AH) (b n : Nat) (L : List (Int × Int)) (room : Int) (v ov : Value) (k : Nat) (env : Env) (H' : AH) : Prop :=
 env 0 = some v ∧ env 6 = some ov ∧ env 7 = some (.slice (some ⟨b,0,none⟩) n n) ∧ env 8 = some (.int .i64 k) ∧
  ∃ A r,H' = dB H1 b (mapB (inL A) n) ∧ env 1 = some (.int .i64 r) ∧ 0 ≤ r ∧ r ≤ 2147483648 ∧ A ++ grK L ((ordW L).drop k) r = grK L (ordW L) room
def GdQ (H1 : AH) (b n : Nat) (L : List (Int × Int)) (room : Int) (v ov : Value) (e : AExit) (env : Env) (H' : AH) : Prop:=e = .exit 0 ∧ GdI H1 b n L room v ov (ordW L).length env H'
theorem greedyR_l1 {H1 : AH} {b n : Nat} {L : List (Int × Int)} {room : Int} {v ov : Value} (hL : SlV (fun c => c ≠ b) H1 v L) (hO : SlV (fun c => c ≠ b) H1 ov (ordW L)) (hok : ItOk L room) (hn : n = L.length) {H : AH} {env : Env} (h : GdI H1 b n L room v ov 0 env H) :
  wpC Try.prog 68 (.loop ir_ref16_Greedy_l1) (GdQ H1 b n L room v ov) env H:=by
 have hol:=ordW_len hok.wt
 have hlen:=hok.len
 refine loop_upto (ordW L).length (GdI H1 b n L room v ov) (Q:=GdQ H1 b n L room v ov) h ?_
 rintro k env H' hk ⟨e0,e6,e7,e8,A,r,rfl,e1,hr0,hr1,hrel⟩
 obtain ⟨va,vc,hve⟩:=hL.slice
 obtain ⟨oa,oc,hoe⟩:=hO.slice
 by_cases hkn : k < (ordW L).length
 ·have hb : ∀ c,c ≠ b → ∀ cs,H1.cells c = some cs → (dB H1 b (mapB (inL A) n)).cells c = some cs:=fun c hc cs hcs => by rw [AH.cells_set_ne hc]; exact hcs
  have hO' : SlV (fun c => c ≠ b) (dB H1 b (mapB (inL A) n)) ov (ordW L):=hO.sub hb
  have hL' : SlV (fun c => c ≠ b) (dB H1 b (mapB (inL A) n)) v L:=hL.sub hb
  have hce:=dB_cells (H0:=H1) (b:=b) (X:=mapB (inL A) n)
  obtain ⟨b0,off,sp,cap,cs,hcv,q1,q2⟩:=ints_rd hO' (by omega)
  obtain ⟨q3,_⟩:=q2 k hkn
  have hmem : (ordW L)[k] ∈ ordW L:=List.getElem_mem hkn
  obtain ⟨hm0,hm1⟩:=(ordW_mem hok.wt).1 hmem
  obtain ⟨m,hm⟩ : ∃ m : Nat,(ordW L)[k] = (m : Int):=⟨((ordW L)[k]).toNat,by omega⟩
  have hml : m < L.length:=by omega
  have hwr:=dB_write (H0:=H1) (b:=b) (i:=m) (X:=mapB (inL A) n) (a:=true) (by rw [mapB_len]; omega)
  rw [inL_snoc] at hwr
  obtain ⟨b1,off1,sp1,cap1,cs1,hcv1,p1,p2⟩:=pairs_rd hL' (by omega)
  obtain ⟨_,_,p3,p4,p5⟩:=p2 m hml
  have hdr : (ordW L).drop k = (m : Int) :: (ordW L).drop (k + 1):=by rw [List.drop_eq_getElem_cons hkn,hm]
  have hit : itm L (m : Int) = L[m]:=itm_get hml
  have hval:=hok.val L[m] (List.getElem_mem hml)
  rw [hdr,grK,hit] at hrel
  rw [hm] at q3
  have hme : b1 ≠ b:=fun hh => by
   subst hh
   obtain ⟨b2,_,_,_,_,h2,_,_,_,hh,_⟩:=hL.at (by omega)
   rw [hcv1] at h2
   cases h2
   exact hh rfl
  have hmo : b0 ≠ b:=fun hh => by
   subst hh
   obtain ⟨b2,_,_,_,_,h2,_,_,_,hh,_⟩:=hO.at (by omega)
   rw [hcv] at h2
   cases h2
   exact hh rfl
  have p1' : ∀ B,(dB H1 b B).cells b1 = some cs1:=fun B => by
   rw [AH.cells_set_ne hme] at p1 ⊢; exact p1
  have q1' : ∀ B,(dB H1 b B).cells b0 = some cs:=fun B => by
   rw [AH.cells_set_ne hmo] at q1 ⊢; exact q1
  clear p1 q1
  subst hcv hcv1
  have hkn' : k < (ordW L).length:=hkn
  have hml' : (m : Int) < (L.length : Int):=by omega
  have hmn : m < n:=by omega
  have hmn' : (m : Int) < (n : Int):=by omega
  have hx2:=hval.2
  have hk40 : (k : Int) ≤ 4096:=by omega
  by_cases hlt : L[m].2 ≤ r
  ·rw [if_pos hlt] at hrel
   have hwr' : IntKind.i64.wrap (r - L[m].2) = r - L[m].2:=IntWalk.i64_in _ (by omega)
   generalize L[m] = x at *
   obtain ⟨x0,x1⟩:=x
   simp only at *
   simp (disch:=omega) [-getElem?_pos,if_pos,if_neg,decide_eq_true,decide_eq_false,ir_ref16_Greedy_l1,e0,e1,e6,e7,e8,hkn,q1',q3,p1',p3,hml,hml',hlt,hwr,hwr',hmn,hmn',IntWalk.i64_in,dB]
   refine ⟨by simp [e0],by simp [e6],by simp [e7],by simp,A ++ [(m : Int)],r - x1,rfl,by simp,by omega,by omega,by rw [List.append_assoc]; exact hrel⟩
  ·rw [if_neg hlt] at hrel
   generalize L[m] = x at *
   obtain ⟨x0,x1⟩:=x
   simp only at *
   simp (disch:=omega) [-getElem?_pos,if_pos,if_neg,decide_eq_true,decide_eq_false,ir_ref16_Greedy_l1,e0,e1,e6,e7,e8,hkn,q1',q3,p1',p3,hml,hml',hlt,IntWalk.i64_in]
   exact ⟨by simp [e0],by simp [e6],by simp [e7],by simp,A,r,rfl,by simp [e1],hr0,hr1,hrel⟩
 ·obtain rfl : k = (ordW L).length:=by omega
  subst hoe
  simp (disch:=omega) [-getElem?_pos,if_pos,if_neg,decide_eq_true,decide_eq_false,ir_ref16_Greedy_l1,e6,e8]
  exact ⟨rfl,e0,e6,e7,e8,A,r,rfl,e1,hr0,hr1,hrel⟩
def GeI (H1 : AH) (b n : Nat) (A : List Int) (k : Nat) (env : Env) (H' : AH) : Prop :=
 env 7 = some (.slice (some ⟨b,0,none⟩) n n) ∧ env 10 = some (.int .i64 k) ∧ WF H' ∧ Keep [] H1 H' ∧
  ∃ a S,env 9 = some a ∧ OwnL (fun _ => False) H' T_int a (selK (inL A) k) S ∧ ∀ c ∈ S,H1.next ≤ c
def GeQ (H1 : AH) (n : Nat) (A : List Int) (e : AExit) (env : Env) (H' : AH) : Prop:=e = .exit 2 ∧ WF H' ∧ Keep [] H1 H' ∧
  ∃ a S,env 9 = some a ∧ OwnL (fun _ => False) H' T_int a (selK (inL A) n) S ∧ ∀ c ∈ S,H1.next ≤ c
theorem greedyR_l0 {H1 : AH} {b n : Nat} {A : List Int} (hw : WF H1) (hc : H1.cells b = some (bB (mapB (inL A) n))) (hn : n ≤ 1000) {env : Env} (h : GeI H1 b n A 0 env H1) :
  wpC Try.prog 68 (.loop ir_ref16_Greedy_l0) (GeQ H1 n A) env H1:=by
 refine loop_upto n (GeI H1 b n A) (Q:=GeQ H1 n A) h ?_
 rintro k env H' hk ⟨e7,e10,w',k',a,S,e9,hA,hS⟩
 by_cases hkn : k < n
 ·have hc':=cells_kept hw k' hc
  have hg:=bB_get (B:=mapB (inL A) n) (i:=k) (by rw [mapB_len]; exact hkn)
  rw [mapB_get hkn] at hg
  have hs1:=selK_succ (inL A) k
  have hl1:=selK_len (inL A) k
  obtain ⟨aa,ac,rfl⟩:=hA.slice
  have hk1 : (k : Int) ≤ 1000:=by omega
  cases hb : inL A k with
  | true =>
   rw [hb,if_pos rfl] at hs1
   rw [hb] at hg
   obtain ⟨va,vc,H2,S',p1,w2,hA2,k2,hS2,_,_⟩:=push_int w' hA k' hS (a:=(k : Int)) (by unfold I64; omega) (by omega)
   have pE : elemsA (H'.alloc (.row [.int .i64 (k : Int)] T_int true)) 1 (.slice (some ⟨H'.next,0,none⟩) 1 1) = some [.int .i64 (k : Int)]:=elems_one rfl
   simp (disch:=omega) [-getElem?_pos,if_pos,if_neg,decide_eq_true,decide_eq_false,ir_ref16_Greedy_l0,e7,e9,e10,hkn,hc',hg,pE,p1,IntWalk.i64_in]
   refine ⟨by simp [e7],by simp,w2,k2,_,S',by simp; rfl,?_,hS2⟩
   rw [hs1]
   simpa using hA2
  | false =>
   rw [hb,if_neg (by simp)] at hs1
   rw [hb] at hg
   simp (disch:=omega) [-getElem?_pos,if_pos,if_neg,decide_eq_true,decide_eq_false,ir_ref16_Greedy_l0,e7,e9,e10,hkn,hc',hg,IntWalk.i64_in]
   refine ⟨by simp [e7],by simp,w',k',_,S,by simp [e9]; rfl,?_,hS⟩
   rw [hs1]
   exact hA
 ·obtain rfl : k = n:=by omega
  simp (disch:=omega) [-getElem?_pos,if_pos,if_neg,decide_eq_true,decide_eq_false,ir_ref16_Greedy_l0,e7,e10]
  exact ⟨rfl,w',k',a,S,e9,hA,hS⟩
theorem GreedyR_spec {H : AH} {v : Value} {L : List (Int × Int)} {room : Int} (hL : SlV (fun b => b < H.next) H v L) (hl : L.length ≤ 1000) : AFn Try.prog F_ref16_Greedy [v,.int .i64 room] H fun u H' => SlV (fun b => H.next ≤ b ∧ b < H'.next) H' u (grL L room) ∧ Keep [] H H':=by
 refine AFn.enter mixed ir_ref16_Greedy_eq (by simp [ir_ref16_Greedy]) fun hw => ?_
 obtain ⟨va,vc,hve⟩:=hL.slice
 subst hve
 simp (disch:=omega) [-getElem?_pos,if_pos,if_neg,decide_eq_true,decide_eq_false,ir_ref16_Greedy]
 refine AFn.pure (mayR_spec hL room) ?_
 have hgr : grL L room = if mayB L room then selK (grB L room) L.length else []:=rfl
 rw [hgr]
 cases hm : mayB L room with
 | false =>
  simp (disch:=omega) [-getElem?_pos,if_pos,if_neg,decide_eq_true,decide_eq_false,]
  exact ⟨.nil,.refl⟩
 | true =>
  have hok:=mayB_iff.1 hm
  have ho : ordL L = ordW L:=by unfold ordL; rw [may_zero hm]; rfl
  have hol:=ordW_len hok.wt
  simp (disch:=omega) [-getElem?_pos,if_pos,if_neg,decide_eq_true,decide_eq_false,]
  refine (OrderR_spec hL).mono' fun u H2 w2 ⟨hO,k2⟩ => ?_
  rw [ho] at hO
  have n2:=k2.next
  obtain ⟨oa,oc,rfl⟩:=hO.slice
  have hz:=mapB_none L.length
  simp (disch:=omega) [-getElem?_pos,if_pos,if_neg,decide_eq_true,decide_eq_false,← hz]
  obtain ⟨b,hb⟩ : ∃ b,b = H2.next:=⟨_,rfl⟩
  obtain ⟨H3,hH3⟩ : ∃ H3,H3 = H2.alloc (.row (bB (mapB (fun _ => false) L.length)) T_bool true):=⟨_,rfl⟩
  have b3 : H3.blk b = some (.row (bB (mapB (fun _ => false) L.length)) T_bool true):=by rw [hH3,hb]; exact AH.alloc_blk_new
  have k3 : Keep [] H2 H3:=by rw [hH3]; exact .alloc
  have w3 : WF H3:=by rw [hH3]; exact w2.alloc
  have n3 : H3.next = H2.next + 1:=by rw [hH3]; simp
  rw [← hH3,← hb]
  have hself : H3 = dB H3 b (mapB (fun _ => false) L.length):=(AH.set_selfK b3).symm
  have hL3 : SlV (fun c => c ≠ b) H3 (.slice va L.length vc) L:=((hL.kept hw k2).kept w2 k3).mono fun c hc => by omega
  have hO3 : SlV (fun c => c ≠ b) H3 (.slice oa (ordW L).length oc) (ordW L):=(hO.kept w2 k3).mono fun c hc => by omega
  refine wpC_use (greedyR_l1 (H1:=H3) (b:=b) (n:=L.length) (room:=room) hL3 hO3 hok rfl ⟨by simp,by simp,by simp,by simp,[],room,?_,by simp,hok.room.1,hok.room.2,by simp⟩) ?_
  ·have : inL [] = fun _ => false:=by funext i; simp [inL]
   rw [this]; exact hself
  rintro e env2 H4 ⟨rfl,f0,f6,f7,f8,A,r,rfl,f1,hr0,hr1,hrel⟩ _
  rw [List.drop_length,grK,List.append_nil] at hrel
  subst hrel
  obtain ⟨H4,hH4⟩ : ∃ H4,H4 = dB H3 b (mapB (inL (grK L (ordW L) room)) L.length):=⟨_,rfl⟩
  have hc4 : H4.cells b = some (bB (mapB (inL (grK L (ordW L) room)) L.length)):=by rw [hH4]; exact dB_cells
  have w4 : WF H4:=by rw [hH4]; exact w3.set (by omega)
  have n4 : H4.next = H3.next:=by rw [hH4]; rfl
  have k4 : Keep [b] H3 H4:=by rw [hH4]; exact .set (by simp)
  simp (disch:=omega) [-getElem?_pos,if_pos,if_neg,decide_eq_true,decide_eq_false,f7]
  rw [← hH4]
  refine wpC_use (greedyR_l0 (H1:=H4) (b:=b) (n:=L.length) (A:=grK L (ordW L) room) w4 hc4 hl ⟨by simp [f7],by simp,w4,.refl,.slice none 0 0,[],by simp,.nil,by simp⟩) ?_
  rintro e env3 H5 ⟨rfl,w5,k5,a,S,g9,hA,hS⟩ _
  have hSlt:=hA.lt w5
  have hll:=selK_len (inL (grK L (ordW L) room)) L.length
  obtain ⟨aa,ac,rfl⟩:=hA.slice
  simp (disch:=omega) [-getElem?_pos,if_pos,if_neg,decide_eq_true,decide_eq_false,g9]
  have n5:=k5.next
  refine ⟨hA.slv (fun _ h => h.elim) (fun c hc => ⟨by have:=hS c hc; omega,hSlt c hc⟩) (by omega),by omega,fun c hc _ => ?_⟩
  rw [k5.blk c (by omega) (by simp),k4.blk c (by omega) (by simp; omega),k3.blk c (by omega) (by simp),k2.blk c hc (by simp)]
theorem KnapGreedy_abs {H : AH} {v : Value} {L : List (Int × Int)} {room : Int} (hL : SlV (fun b => b < H.next) H v L) (hl : L.length * 16 ≤ 140737488351232) : AFn Try.prog F_law16_KnapGreedy [v,.int .i64 room] H fun u H' => u = .bool true ∧ H' = H:=by
 refine AFn.calm (fun H0 hs => ?_) rfl
 have hn0 : H0.next = H.next:=hs.1
 have hL0:=(hL.same hs).mono (q:=fun b => b < H0.next) fun b hb => by omega
 clear hL
 refine AFn.enter mixed ir_law16_KnapGreedy_eq (by simp [ir_law16_KnapGreedy]) fun hw => ?_
 have hcL:=hL0.cell
 simp (disch:=omega) [-getElem?_pos,if_pos,if_neg,decide_eq_true,decide_eq_false,ir_law16_KnapGreedy,hcL]
 refine (tame_spec hL0 hl).mono' fun u H1 w1 ⟨w,hu,hT,k1⟩ => ?_
 subst hu
 have hcT:=hT.cell
 have n1:=k1.next
 have hL1:=(hL0.kept hw k1).mono (q:=fun b => b < H1.next) fun b hb => by omega
 simp (disch:=omega) [-getElem?_pos,if_pos,if_neg,decide_eq_true,decide_eq_false,hcT,hcL]
 refine (show AFn _ _ [_,.int .i64 ((30 : Nat) : Int)] _ _ from items_spec (m:=30) hL1 (by omega)).mono' fun u H2 w2 ⟨a,b,hu,hA,hB,k2⟩ => ?_
 subst hu
 have hcA:=hA.cell
 have hcB:=hB.cell
 have n2:=k2.next
 have hT2:=(hT.kept w1 k2).mono (q:=fun b => b < H2.next) fun b hb => by omega
 simp (disch:=omega) [-getElem?_pos,if_pos,if_neg,decide_eq_true,decide_eq_false,hcA,hcB,hcT]
 refine (show AFn _ _ [_,.int .i64 ((30 : Nat) : Int)] _ _ from items_spec (m:=30) hT2 (by omega)).mono' fun u H3 w3 ⟨c,d,hu,hC,hD,k3⟩ => ?_
 subst hu
 have hcC:=hC.cell
 have hcD:=hD.cell
 have n3:=k3.next
 have hA3:=(hA.kept w2 k3).mono (q:=fun b => b < H3.next) fun b hb => by omega
 have hB3:=(hB.kept w2 k3).mono (q:=fun b => b < H3.next) fun b hb => by omega
 have hC3:=hC.mono (q:=fun b => b < H3.next) fun b hb => hb.2
 have hD3:=hD.mono (q:=fun b => b < H3.next) fun b hb => by omega
 have hlM : (L.take 30).length ≤ 30:=by rw [List.length_take]; omega
 have hlN : ((tameI L).take 30).length ≤ 30:=by rw [List.length_take]; omega
 generalize (tameI L).take 30 = N at *
 generalize L.take 30 = M at *
 generalize magI room = r at *
 have up : ∀ {v : Value} {L : List (Int × Int)} {H1 H2 : AH},SlV (fun b => b < H1.next) H1 v L → WF H1 → Keep [] H1 H2 → SlV (fun b => b < H2.next) H2 v L:=fun h hw k => (h.kept hw k).mono fun b hb => by have:=k.next; omega
 simp (disch:=omega) [-getElem?_pos,if_pos,if_neg,decide_eq_true,decide_eq_false,hcC,hcD]
 refine AFn.pure wakes16_spec ?_
 simp (disch:=omega) [-getElem?_pos,if_pos,if_neg,decide_eq_true,decide_eq_false,hcA,hcB,hcC,hcD]
 refine (Greedy_spec (room:=room) hA3 (by omega)).mono' fun u H4 w4 ⟨hU,k4⟩ => ?_
 have hcU:=hU.cell
 simp (disch:=omega) [-getElem?_pos,if_pos,if_neg,decide_eq_true,decide_eq_false,hcA,hcB,hcC,hcD,hcU]
 refine (GreedyR_spec (room:=room) (up hB3 w3 k4) (by omega)).mono' fun x H5 w5 ⟨hX,k5⟩ => ?_
 have hcX:=hX.cell
 simp (disch:=omega) [-getElem?_pos,if_pos,if_neg,decide_eq_true,decide_eq_false,hcA,hcB,hcC,hcD,hcU,hcX]
 refine AFn.pure (equalK_spec (hU.kept w4 k5) hX) ?_
 have k35:=k4.trans' k5
 simp (disch:=omega) [-getElem?_pos,if_pos,if_neg,decide_eq_true,decide_eq_false,hcA,hcB,hcC,hcD,hcU,hcX]
 refine (Greedy_spec (room:=r) (up hC3 w3 k35) (by omega)).mono' fun y H6 w6 ⟨hY,k6⟩ => ?_
 have hcY:=hY.cell
 have k36:=k35.trans' k6
 simp (disch:=omega) [-getElem?_pos,if_pos,if_neg,decide_eq_true,decide_eq_false,hcA,hcB,hcC,hcD,hcU,hcX,hcY]
 refine (GreedyR_spec (room:=r) (up hD3 w3 k36) (by omega)).mono' fun z H7 w7 ⟨hZ,k7⟩ => ?_
 have hcZ:=hZ.cell
 simp (disch:=omega) [-getElem?_pos,if_pos,if_neg,decide_eq_true,decide_eq_false,hcA,hcB,hcC,hcD,hcU,hcX,hcY,hcZ]
 refine AFn.pure (equalK_spec (hY.kept w6 k7) hZ) ?_
 simp (disch:=omega) [-getElem?_pos,if_pos,if_neg,decide_eq_true,decide_eq_false,]
end Go.Proofs.Ytllfcbacpoaphaa
