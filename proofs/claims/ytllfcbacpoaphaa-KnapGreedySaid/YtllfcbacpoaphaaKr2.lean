/-
  Layer 16, the document's: the order of worth.
-/
import Derived.Test.YtllfcbacpoaphaaKr1
set_option maxRecDepth 100000
set_option linter.unusedSimpArgs false
set_option linter.unusedVariables false
namespace Go.Proofs.Ytllfcbacpoaphaa
open Go Go.Abs
def O0I (H : AH) (v : Value) (L : List (Int × Int)) (i : Nat) (k : Nat) (env : Env) (H' : AH) : Prop :=
 H' = H ∧ env 0 = some v ∧ env 5 = some (.int .i64 i) ∧ env 7 = some (.int .i64 k) ∧ env 6 = some (.int .i64 (cntA L i k : Nat))
theorem ordR_l0 {p : Nat → Prop} {H H1 : AH} {v : Value} {L : List (Int × Int)} {room : Int} {i : Nat} (hL : SlV p H v L) (hok : ItOk L room) (hi : i < L.length) {env : Env} (h : O0I H v L i 0 env H1) :
  wpC Try.prog 45 (.loop ir_ref16_Order_l0) (fun e env' H' => e = .exit 2 ∧ O0I H v L i L.length env' H') env H1:=by
 have ho:=ahB_ord hok.wt
 refine loop_upto L.length (O0I H v L i) (Q:=fun e env' H' => e = .exit 2 ∧ O0I H v L i L.length env' H') h ?_
 rintro k env H' hk ⟨rfl,e0,e5,e7,e6⟩
 have hlen:=hok.len
 have hcl:=cntA_le L i k
 by_cases hkn : k < L.length
 ·have hah:=ahead_spec (a:=k) (b:=i) hL hok hkn hi
  have hs:=cntA_succ L i k
  have hirr : k = i → ahB L k i = false:=fun h => by rw [h]; exact ho.irr _
  obtain ⟨va,vc,hve⟩:=hL.slice
  rw [hve] at e0 hah
  generalize cntA L i k = c at *
  by_cases hki : k = i
  ·have hf:=hirr hki
   rw [hf] at hah hs
   have hki' : ((k : Int) = (i : Int)):=by omega
   simp (disch:=omega) [-getElem?_pos,if_pos,if_neg,decide_eq_true,decide_eq_false,ir_ref16_Order_l0,e0,e5,e6,e7,hkn]
   refine AFn.pure hah ?_
   simp (disch:=omega) [-getElem?_pos,if_pos,if_neg,decide_eq_true,decide_eq_false,e0,e5,e6,e7,hki',IntWalk.i64_in]
   exact ⟨hkn,rfl,by simp [e0,hve],by simp [e5,hki'],by simp [hki'],by rw [hs]; simp [e6]⟩
  ·have hki':=eq_false (show ¬ (k : Int) = (i : Int) by omega)
   have hki2:=eq_false hki
   cases hb : ahB L k i with
   | false =>
    rw [hb] at hah hs
    simp (disch:=omega) [-getElem?_pos,if_pos,if_neg,decide_eq_true,decide_eq_false,ir_ref16_Order_l0,e0,e5,e6,e7,hkn]
    refine AFn.pure hah ?_
    simp (disch:=omega) [-getElem?_pos,if_pos,if_neg,decide_eq_true,decide_eq_false,e0,e5,e6,e7,hki',hki2,IntWalk.i64_in]
    exact ⟨hkn,rfl,by simp [e0,hve],by simp [e5],by simp,by rw [hs]; simp [e6]⟩
   | true =>
    rw [hb] at hah hs
    simp (disch:=omega) [-getElem?_pos,if_pos,if_neg,decide_eq_true,decide_eq_false,ir_ref16_Order_l0,e0,e5,e6,e7,hkn]
    refine AFn.pure hah ?_
    simp (disch:=omega) [-getElem?_pos,if_pos,if_neg,decide_eq_true,decide_eq_false,e0,e5,e6,e7,hki',hki2,IntWalk.i64_in]
    exact ⟨hkn,rfl,by simp [e0,hve],by simp [e5],by simp,by rw [hs]; simp⟩
 ·obtain rfl : k = L.length:=by omega
  obtain ⟨va,vc,hve⟩:=hL.slice
  rw [hve] at e0
  simp (disch:=omega) [-getElem?_pos,if_pos,if_neg,decide_eq_true,decide_eq_false,ir_ref16_Order_l0,e0,e7]
  exact ⟨rfl,by simp [e0,hve],by simp [e5],by simp [e7],by simp [e6]⟩
def O1I (H1 : AH) (b n : Nat) (v : Value) (L : List (Int × Int)) (i : Nat) (env : Env) (H' : AH) : Prop :=
 env 0 = some v ∧ env 4 = some (.slice (some ⟨b,0,none⟩) n n) ∧ env 5 = some (.int .i64 i) ∧ H' = dH H1 b (ordU (ordW L) i)
theorem ordR_l1 {H1 : AH} {b n : Nat} {v : Value} {L : List (Int × Int)} {room : Int} (hL : SlV (fun c => c ≠ b) H1 v L) (hok : ItOk L room) (hn : n = L.length) {H : AH} {env : Env} (h : O1I H1 b n v L 0 env H) :
  wpC Try.prog 45 (.loop ir_ref16_Order_l1) (fun e env' H' => e = .exit 0 ∧ O1I H1 b n v L L.length env' H') env H:=by
 have hnd:=ordW_nodup hok.wt
 have hol:=ordW_len hok.wt
 refine loop_upto L.length (O1I H1 b n v L) (Q:=fun e env' H' => e = .exit 0 ∧ O1I H1 b n v L L.length env' H') h ?_
 rintro i env H' hk ⟨e0,e4,e5,rfl⟩
 have hlen:=hok.len
 by_cases hin : i < L.length
 ·have hL2 : SlV (fun c => c ≠ b) (dH H1 b (ordU (ordW L) i)) v L:=hL.sub fun c hc cs hcs => by rw [AH.cells_set_ne hc]; exact hcs
  obtain ⟨hlt,hpl⟩:=cntA_place hok.wt hin
  have hwr:=dH_write (H0:=H1) (b:=b) (i:=cntA L i L.length) (X:=ordU (ordW L) i) (a:=(i : Int)) (by rw [ordU_len]; exact hlt)
  rw [ordU_set hnd hlt hpl] at hwr
  have hce:=dH_cells (H0:=H1) (b:=b) (X:=ordU (ordW L) i)
  obtain ⟨va,vc,hve⟩:=hL.slice
  rw [hve] at e0
  simp (disch:=omega) [-getElem?_pos,if_pos,if_neg,decide_eq_true,decide_eq_false,ir_ref16_Order_l1,e0,e5,hin]
  refine wpC_use (ordR_l0 (H:=dH H1 b (ordU (ordW L) i)) (v:=v) hL2 hok hin ⟨rfl,by simp [e0,hve],by simp [e5],by simp,by simp [cntA,iota]⟩) ?_
  rintro e env2 H2 ⟨rfl,rfl,f0,f5,f7,f6⟩ hu
  have u4:=hu 4 (by decide)
  have hci : ((cntA L i L.length : Nat) : Int) < (n : Int):=by omega
  have hcn : cntA L i L.length < n:=by omega
  generalize cntA L i L.length = c at *
  simp (disch:=omega) [-getElem?_pos,if_pos,if_neg,decide_eq_true,decide_eq_false,u4,e4,f5,f6,hci,hcn,hce,hwr,IntWalk.i64_in]
  exact ⟨hin,by simp [f0],by simp [u4,e4],by simp,rfl⟩
 ·obtain rfl : i = L.length:=by omega
  obtain ⟨va,vc,hve⟩:=hL.slice
  rw [hve] at e0
  simp (disch:=omega) [-getElem?_pos,if_pos,if_neg,decide_eq_true,decide_eq_false,ir_ref16_Order_l1,e0,e5]
  exact ⟨by simp [e0,hve],by simp [e4],by simp [e5],rfl⟩
theorem OrderR_spec {H : AH} {v : Value} {L : List (Int × Int)} (hL : SlV (fun b => b < H.next) H v L) : AFn Try.prog F_ref16_Order [v] H fun u H' => SlV (fun b => H.next ≤ b ∧ b < H'.next) H' u (ordL L) ∧ Keep [] H H':=by
 refine AFn.enter mixed ir_ref16_Order_eq (by simp [ir_ref16_Order]) fun hw => ?_
 have hmy:=mayR_spec hL 0
 obtain ⟨va,vc,hve⟩:=hL.slice
 unfold ordL
 rw [hve] at hmy ⊢
 simp (disch:=omega) [-getElem?_pos,if_pos,if_neg,decide_eq_true,decide_eq_false,ir_ref16_Order]
 refine AFn.pure hmy ?_
 cases hm : mayB L 0 with
 | false =>
  simp (disch:=omega) [-getElem?_pos,if_pos,if_neg,decide_eq_true,decide_eq_false,]
  exact ⟨SlV.nil,.refl⟩
 | true =>
  have hok:=mayB_iff.1 hm
  have hlen:=hok.len
  have hz:=upto_zero L.length
  simp (disch:=omega) [-getElem?_pos,if_pos,if_neg,decide_eq_true,decide_eq_false,← hz]
  obtain ⟨b,hb⟩ : ∃ b,b = H.next:=⟨_,rfl⟩
  obtain ⟨n,hn⟩ : ∃ n,n = L.length:=⟨_,rfl⟩
  have hol:=ordW_len hok.wt
  have hu0 : upto L.length 0 = ordU (ordW L) 0:=by
   have hpos : ∀ s ∈ ordW L,0 ≤ s:=fun s hs => ((ordW_mem hok.wt).1 hs).1
   apply List.ext_getElem
   ·rw [upto_len,ordU_len,hol]
   ·intro j h1 h2
    have:=hpos ((ordW L)[j]'(by rw [ordU_len] at h2; exact h2)) (List.getElem_mem _)
    simp only [upto,ordU,List.getElem_map,List.getElem_range]
    rw [if_neg (by omega),if_neg (by omega)]
  rw [hu0]
  obtain ⟨H2,hH2⟩ : ∃ H2,H2 = H.alloc (.row (rI (ordU (ordW L) 0)) T_int true):=⟨_,rfl⟩
  have b2 : H2.blk b = some (.row (rI (ordU (ordW L) 0)) T_int true):=by rw [hH2,hb]; exact AH.alloc_blk_new
  have k2 : Keep [] H H2:=by rw [hH2]; exact .alloc
  have w2 : WF H2:=by rw [hH2]; exact hw.alloc
  have n2 : H2.next = H.next + 1:=by rw [hH2]; simp
  rw [← hH2,← hb,← hn]
  have hself : H2 = dH H2 b (ordU (ordW L) 0):=(AH.set_selfK b2).symm
  have hL2 : SlV (fun c => c ≠ b) H2 v L:=(hL.kept hw k2).mono fun c hc => by omega
  refine wpC_use (ordR_l1 (H1:=H2) (b:=b) (n:=n) (v:=v) hL2 hok hn ⟨by simp [hve,hn],by simp,by simp,hself⟩) ?_
  rintro e env2 H3 ⟨rfl,f0,f4,f5,rfl⟩ _
  rw [ordU_all (n:=L.length) fun s hs => (ordW_mem hok.wt).1 hs]
  simp (disch:=omega) [-getElem?_pos,if_pos,if_neg,decide_eq_true,decide_eq_false,f4]
  have hcl:=slv_rI (H:=dH H2 b (ordW L)) (q:=b) (X:=ordW L) AH.cells_set_same (fun x hx => by
   have:=(ordW_mem hok.wt).1 hx
   unfold I64; omega) (by omega)
  rw [hol,← hn] at hcl
  refine ⟨hcl.mono fun c hc => ?_,⟨by simp; omega,fun c hc _ => ?_⟩⟩
  ·exact ⟨by omega,by show c < H2.next; omega⟩
  ·rw [AH.set_blk_ne (by omega),k2.blk c hc (by simp)]
end Go.Proofs.Ytllfcbacpoaphaa
