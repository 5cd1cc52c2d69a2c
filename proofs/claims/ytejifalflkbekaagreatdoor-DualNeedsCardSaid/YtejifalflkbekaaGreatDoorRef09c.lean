/-
  The document's instance: Check, N (2).
-/
import Derived.Test.YtejifalflkbekaaGreatDoorRef09b
set_option maxRecDepth 100000
set_option maxHeartbeats 4000000
set_option linter.unusedSimpArgs false
set_option linter.unusedVariables false
namespace Go.Proofs.YtejifalflkbekaaGreatDoor
open Go Go.Abs
def chk9 : ACode:=ir_ref09_Check.code
def chk9T : ACode:=tlC (tlC (tlC (tlC (tlC chk9))))
theorem chk9_eq : ir_ref09_Check = ⟨192,[.tmp 2],.seq (hdC chk9) (.seq (hdC (tlC chk9)) (.seq (hdC (tlC (tlC chk9))) (.seq (hdC (tlC (tlC (tlC chk9)))) (.seq (hdC (tlC (tlC (tlC (tlC chk9))))) chk9T))))⟩:=rfl
section
variable {H1 : AH} {q : Nat} {x : InstD} {iv cv sv : Value}
theorem check9_tail (b : Bx H1 q x iv cv sv) (hx1 : InstV Ty H1 (.agg #[.int .i64 x.kind,.int .i64 x.cap,iv,cv,.int .i64 x.size,sv]) x) (hk : 0 ≤ x.kind ∧ x.kind < 4) (hl : x.Lean) (hf : x.Few) {env : Env} (e1 : env 1 = some (.pointer (some ⟨q,0,none⟩))) :
  wpC Tryz.prog 192 chk9T (bodyK [ARes.tmp 2] fun u _ => u = .int .i64 x.check) env H1:=by
 have bc:=b.c
 unfold InstD.check
 rw [tr_true hk,tr_true hl,tr_true hf]
 simp (disch:=omega) [-getElem?_pos,if_pos,if_neg,decide_eq_true,decide_eq_false,chk9T,chk9,hdC,tlC,ir_ref09_Check]
 refine wpC_use (check9_l3 b ⟨rfl,by simp [e1],by simp,by omega⟩) ?_
 rintro e env2 H3 ⟨rfl,⟨rfl,hr⟩ | ⟨rfl,e2,hr⟩⟩ hu
 ·have u1:=hu 1 (by decide)
  simp (disch:=omega) [-getElem?_pos,if_pos,if_neg,decide_eq_true,decide_eq_false,u1,e1]
  refine wpC_use (check9_l2 b ⟨rfl,by simp [u1,e1],by simp,by omega⟩) ?_
  rintro e env3 H4 ⟨rfl,⟨rfl,hr2⟩ | ⟨rfl,e2,hr2⟩⟩ hu2
  ·have u2:=hu2 1 (by decide)
   have hsh : x.Shaped:=⟨hr,hr2⟩
   rw [tr_true hsh]
   simp (disch:=omega) [-getElem?_pos,if_pos,if_neg,decide_eq_true,decide_eq_false,u2,u1,e1,bc,inst_cut]
   refine AFn.pure (numbers_spec hx1) ?_
   by_cases hsm : x.Small
   ·rw [tr_true hsm]
    simp (disch:=omega) [-getElem?_pos,if_pos,if_neg,decide_eq_true,decide_eq_false,]
    refine wpC_use (check9_l0 b hsh ⟨rfl,by simp [u2,u1,e1],by simp,by omega⟩) ?_
    rintro e env4 H5 (⟨rfl,hb⟩ | ⟨rfl,e2,hb⟩) hu3
    ·rw [tr_true hb]
     simp (disch:=omega) [-getElem?_pos,if_pos,if_neg,decide_eq_true,decide_eq_false,]
    ·rw [tr_false hb]
     simp (disch:=omega) [-getElem?_pos,if_pos,if_neg,decide_eq_true,decide_eq_false,e2]
   ·rw [tr_false hsm]
    simp (disch:=omega) [-getElem?_pos,if_pos,if_neg,decide_eq_true,decide_eq_false,]
  ·rw [tr_false hr2]
   simp (disch:=omega) [-getElem?_pos,if_pos,if_neg,decide_eq_true,decide_eq_false,e2]
 ·rw [tr_false hr]
  simp (disch:=omega) [-getElem?_pos,if_pos,if_neg,decide_eq_true,decide_eq_false,e2]
end
theorem lean0 {x : InstD} (hk : x.kind = 0) : x.Lean ↔ x.cost.length = 0 ∧ x.size = 0 ∧ x.sets.length = 0 :=
 ⟨fun h => ⟨by rcases h.sq with h | h | h <;> omega,by rcases h.cov with h | h; omega; exact h.1,by rcases h.cov with h | h; omega; exact h.2⟩,fun ⟨h1,h2,h3⟩ => ⟨.inl hk,.inr (.inr h1),.inr ⟨h2,h3⟩⟩⟩
theorem lean12 {x : InstD} (hk : x.kind = 1 ∨ x.kind = 2) : x.Lean ↔ x.cap = 0 ∧ x.items.length = 0 ∧ x.size = 0 ∧ x.sets.length = 0 :=
 ⟨fun h => ⟨by rcases h.knap with h | h; omega; exact h.1,by rcases h.knap with h | h; omega; exact h.2,by rcases h.cov with h | h; omega; exact h.1,by rcases h.cov with h | h; omega; exact h.2⟩,fun ⟨h1,h2,h3,h4⟩ => ⟨.inr ⟨h1,h2⟩,by omega,.inr ⟨h3,h4⟩⟩⟩
theorem lean3 {x : InstD} (hk : x.kind = 3) : x.Lean ↔ x.cap = 0 ∧ x.items.length = 0 ∧ x.cost.length = 0 :=
 ⟨fun h => ⟨by rcases h.knap with h | h; omega; exact h.1,by rcases h.knap with h | h; omega; exact h.2,by rcases h.sq with h | h | h <;> omega⟩,fun ⟨h1,h2,h3⟩ => ⟨.inr ⟨h1,h2⟩,.inr (.inr h3),.inl hk⟩⟩
theorem Check9_spec {p : Nat → Prop} {H : AH} {v : Value} {x : InstD} (hx : InstV p H v x) : AFn Tryz.prog F_ref09_Check [v] H fun u H' => u = .int .i64 x.check ∧ H' = H:=by
 refine AFn.calm (fun H0 hs => ?_) rfl
 have hx0:=hx.same hs
 obtain ⟨iv,cv,sv,rfl,_,_,_,h1,h2,h3⟩:=id hx0
 refine AFn.enter mixed (ir_ref09_Check_eq.trans (congrArg some chk9_eq)) (by simp) fun hw => ?_
 have b:=Bx.make (t:=T_secateurref09_Inst) hw h1 h2 h3
 have hx1:=(hx0.kept hw (.alloc (B:=.row (instC x iv cv sv) T_secateurref09_Inst true))).any
 have bc:=b.c
 have m1:=h1.max
 have m2:=h2.max
 have m3:=h3.max
 obtain ⟨a1,c1,rfl⟩:=h1.slice
 obtain ⟨a2,c2,rfl⟩:=h2.slice
 obtain ⟨a3,c3,rfl⟩:=h3.slice
 have tail:=fun hk hl hf {env} e1 => check9_tail b hx1 hk hl hf (env:=env) e1
 have nl : 0 ≤ x.kind ∧ x.kind < 4 → ¬ x.Lean → x.check = 4:=fun hk hl => by unfold InstD.check; rw [tr_true hk,tr_false hl]; rfl
 have nf : 0 ≤ x.kind ∧ x.kind < 4 → x.Lean → ¬ x.Few → x.check = 22:=fun hk hl hf => by unfold InstD.check; rw [tr_true hk,tr_true hl,tr_false hf]; rfl
 generalize hq : H0.next = q at *
 by_cases hk1 : x.kind < 0
 ·have : x.check = 25:=by unfold InstD.check; rw [tr_false (by omega)]; rfl
  simp (disch:=omega) [-getElem?_pos,if_pos,if_neg,decide_eq_true,decide_eq_false,hdC,tlC,chk9,ir_ref09_Check,hq,hk1,this]
 ·by_cases hk2 : 3 < x.kind
  ·have : x.check = 25:=by unfold InstD.check; rw [tr_false (by omega)]; rfl
   simp (disch:=omega) [-getElem?_pos,if_pos,if_neg,decide_eq_true,decide_eq_false,hdC,tlC,chk9,ir_ref09_Check,hq,hk1,hk2,this]
  ·rcases (show x.kind = 0 ∨ x.kind = 1 ∨ x.kind = 2 ∨ x.kind = 3 by omega) with hk | hk | hk | hk
   ·have hkk : 0 ≤ x.kind ∧ x.kind < 4:=by omega
    have k0 : (x.kind = 0) = True:=eq_true hk
    have k1 : (x.kind = 1) = False:=eq_false (by omega)
    have k2 : (x.kind = 2) = False:=eq_false (by omega)
    have k3 : (x.kind = 3) = False:=eq_false (by omega)
    by_cases g1 : 0 < x.cost.length
    ·have:=nl hkk (fun h => by have:=((lean0 hk).1 h).1; omega)
     simp (disch:=omega) [-getElem?_pos,if_pos,if_neg,decide_eq_true,decide_eq_false,hdC,tlC,chk9,ir_ref09_Check,hq,k0,k1,k2,k3,hk1,hk2,g1,this]
    ·by_cases g2 : x.size = 0
     ·have g2T:=eq_true g2
      by_cases g3 : 0 < x.sets.length
      ·have:=nl hkk (fun h => by have:=((lean0 hk).1 h).2.2; omega)
       simp (disch:=omega) [-getElem?_pos,if_pos,if_neg,decide_eq_true,decide_eq_false,hdC,tlC,chk9,ir_ref09_Check,hq,k0,k1,k2,k3,hk1,hk2,g1,g2T,g3,this]
      ·have hl:=(lean0 hk).2 ⟨by omega,g2,by omega⟩
       have u1 : ¬ 4096 < x.sets.length:=by omega
       have u2 : ¬ 64 < x.cost.length:=by omega
       have u3 : ¬ x.size < 0:=by omega
       have u4 : ¬ 4096 < x.size:=by omega
       by_cases f1 : 4096 < x.items.length
       ·have:=nf hkk hl (fun h => by have:=h.items; omega)
        simp (disch:=omega) [-getElem?_pos,if_pos,if_neg,decide_eq_true,decide_eq_false,hdC,tlC,chk9,ir_ref09_Check,hq,k0,k1,k2,k3,hk1,hk2,g1,g2T,g3,f1,u1,u2,u3,u4,this]
       ·have hf : x.Few:=⟨by omega,by omega,by omega,by omega,by omega⟩
        simp (disch:=omega) [-getElem?_pos,if_pos,if_neg,decide_eq_true,decide_eq_false,hdC,tlC,chk9,ir_ref09_Check,hq,k0,k1,k2,k3,hk1,hk2,g1,g2T,g3,f1,u1,u2,u3,u4]
        exact tail hkk hl hf (by simp)
     ·have:=nl hkk (fun h => g2 ((lean0 hk).1 h).2.1)
      simp (disch:=omega) [-getElem?_pos,if_pos,if_neg,decide_eq_true,decide_eq_false,hdC,tlC,chk9,ir_ref09_Check,hq,k0,k1,k2,k3,hk1,hk2,g1,g2,this]
   ·have hkk : 0 ≤ x.kind ∧ x.kind < 4:=by omega
    have k0 : (x.kind = 0) = False:=eq_false (by omega)
    have k1 : (x.kind = 1) = True:=eq_true hk
    have k2 : (x.kind = 2) = False:=eq_false (by omega)
    have k3 : (x.kind = 3) = False:=eq_false (by omega)
    by_cases g1 : x.cap = 0
    ·have g1T:=eq_true g1
     by_cases g2 : 0 < x.items.length
     ·have:=nl hkk (fun h => by have:=((lean12 (.inl hk)).1 h).2.1; omega)
      simp (disch:=omega) [-getElem?_pos,if_pos,if_neg,decide_eq_true,decide_eq_false,hdC,tlC,chk9,ir_ref09_Check,hq,k0,k1,k2,k3,hk1,hk2,g1T,g2,this]
     ·by_cases g3 : x.size = 0
      ·have g3T:=eq_true g3
       by_cases g4 : 0 < x.sets.length
       ·have:=nl hkk (fun h => by have:=((lean12 (.inl hk)).1 h).2.2.2; omega)
        simp (disch:=omega) [-getElem?_pos,if_pos,if_neg,decide_eq_true,decide_eq_false,hdC,tlC,chk9,ir_ref09_Check,hq,k0,k1,k2,k3,hk1,hk2,g1T,g2,g3T,g4,this]
       ·have hl:=(lean12 (.inl hk)).2 ⟨g1,by omega,g3,by omega⟩
        have u0 : ¬ 4096 < x.items.length:=by omega
        have u1 : ¬ 4096 < x.sets.length:=by omega
        have u3 : ¬ x.size < 0:=by omega
        have u4 : ¬ 4096 < x.size:=by omega
        by_cases f1 : 64 < x.cost.length
        ·have:=nf hkk hl (fun h => by have:=h.sq (by omega); omega)
         simp (disch:=omega) [-getElem?_pos,if_pos,if_neg,decide_eq_true,decide_eq_false,hdC,tlC,chk9,ir_ref09_Check,hq,k0,k1,k2,k3,hk1,hk2,g1T,g2,g3T,g4,f1,u0,u1,u3,u4,this]
        ·by_cases f2 : x.cost.length = 0
         ·have:=nf hkk hl (fun h => by have:=h.sq (by omega); omega)
          have f2T : x.cost = []:=List.eq_nil_of_length_eq_zero f2
          have f3 : (x.cost = []) = True:=eq_true f2T
          simp (disch:=omega) [-getElem?_pos,if_pos,if_neg,decide_eq_true,decide_eq_false,hdC,tlC,chk9,ir_ref09_Check,hq,k0,k1,k2,k3,hk1,hk2,g1T,g2,g3T,g4,f1,f3,u0,u1,u3,u4,this]
         ·have hf : x.Few:=⟨by omega,by omega,by omega,by omega,by omega⟩
          have f3 : ¬ x.cost = []:=fun h => f2 (by rw [h]; rfl)
          simp (disch:=omega) [-getElem?_pos,if_pos,if_neg,decide_eq_true,decide_eq_false,hdC,tlC,chk9,ir_ref09_Check,hq,k0,k1,k2,k3,hk1,hk2,g1T,g2,g3T,g4,f1,f3,u0,u1,u3,u4]
          exact tail hkk hl hf (by simp)
      ·have:=nl hkk (fun h => g3 ((lean12 (.inl hk)).1 h).2.2.1)
       simp (disch:=omega) [-getElem?_pos,if_pos,if_neg,decide_eq_true,decide_eq_false,hdC,tlC,chk9,ir_ref09_Check,hq,k0,k1,k2,k3,hk1,hk2,g1T,g2,g3,this]
    ·have:=nl hkk (fun h => g1 ((lean12 (.inl hk)).1 h).1)
     simp (disch:=omega) [-getElem?_pos,if_pos,if_neg,decide_eq_true,decide_eq_false,hdC,tlC,chk9,ir_ref09_Check,hq,k0,k1,k2,k3,hk1,hk2,g1,this]
   ·have hkk : 0 ≤ x.kind ∧ x.kind < 4:=by omega
    have k0 : (x.kind = 0) = False:=eq_false (by omega)
    have k1 : (x.kind = 1) = False:=eq_false (by omega)
    have k2 : (x.kind = 2) = True:=eq_true hk
    have k3 : (x.kind = 3) = False:=eq_false (by omega)
    by_cases g1 : x.cap = 0
    ·have g1T:=eq_true g1
     by_cases g2 : 0 < x.items.length
     ·have:=nl hkk (fun h => by have:=((lean12 (.inr hk)).1 h).2.1; omega)
      simp (disch:=omega) [-getElem?_pos,if_pos,if_neg,decide_eq_true,decide_eq_false,hdC,tlC,chk9,ir_ref09_Check,hq,k0,k1,k2,k3,hk1,hk2,g1T,g2,this]
     ·by_cases g3 : x.size = 0
      ·have g3T:=eq_true g3
       by_cases g4 : 0 < x.sets.length
       ·have:=nl hkk (fun h => by have:=((lean12 (.inr hk)).1 h).2.2.2; omega)
        simp (disch:=omega) [-getElem?_pos,if_pos,if_neg,decide_eq_true,decide_eq_false,hdC,tlC,chk9,ir_ref09_Check,hq,k0,k1,k2,k3,hk1,hk2,g1T,g2,g3T,g4,this]
       ·have hl:=(lean12 (.inr hk)).2 ⟨g1,by omega,g3,by omega⟩
        have u0 : ¬ 4096 < x.items.length:=by omega
        have u1 : ¬ 4096 < x.sets.length:=by omega
        have u3 : ¬ x.size < 0:=by omega
        have u4 : ¬ 4096 < x.size:=by omega
        by_cases f1 : 64 < x.cost.length
        ·have:=nf hkk hl (fun h => by have:=h.sq (by omega); omega)
         simp (disch:=omega) [-getElem?_pos,if_pos,if_neg,decide_eq_true,decide_eq_false,hdC,tlC,chk9,ir_ref09_Check,hq,k0,k1,k2,k3,hk1,hk2,g1T,g2,g3T,g4,f1,u0,u1,u3,u4,this]
        ·by_cases f2 : x.cost.length = 0
         ·have:=nf hkk hl (fun h => by have:=h.sq (by omega); omega)
          have f2T : x.cost = []:=List.eq_nil_of_length_eq_zero f2
          have f3 : (x.cost = []) = True:=eq_true f2T
          simp (disch:=omega) [-getElem?_pos,if_pos,if_neg,decide_eq_true,decide_eq_false,hdC,tlC,chk9,ir_ref09_Check,hq,k0,k1,k2,k3,hk1,hk2,g1T,g2,g3T,g4,f1,f3,u0,u1,u3,u4,this]
         ·have hf : x.Few:=⟨by omega,by omega,by omega,by omega,by omega⟩
          have f3 : ¬ x.cost = []:=fun h => f2 (by rw [h]; rfl)
          simp (disch:=omega) [-getElem?_pos,if_pos,if_neg,decide_eq_true,decide_eq_false,hdC,tlC,chk9,ir_ref09_Check,hq,k0,k1,k2,k3,hk1,hk2,g1T,g2,g3T,g4,f1,f3,u0,u1,u3,u4]
          exact tail hkk hl hf (by simp)
      ·have:=nl hkk (fun h => g3 ((lean12 (.inr hk)).1 h).2.2.1)
       simp (disch:=omega) [-getElem?_pos,if_pos,if_neg,decide_eq_true,decide_eq_false,hdC,tlC,chk9,ir_ref09_Check,hq,k0,k1,k2,k3,hk1,hk2,g1T,g2,g3,this]
    ·have:=nl hkk (fun h => g1 ((lean12 (.inr hk)).1 h).1)
     simp (disch:=omega) [-getElem?_pos,if_pos,if_neg,decide_eq_true,decide_eq_false,hdC,tlC,chk9,ir_ref09_Check,hq,k0,k1,k2,k3,hk1,hk2,g1,this]
   ·have hkk : 0 ≤ x.kind ∧ x.kind < 4:=by omega
    have k0 : (x.kind = 0) = False:=eq_false (by omega)
    have k1 : (x.kind = 1) = False:=eq_false (by omega)
    have k2 : (x.kind = 2) = False:=eq_false (by omega)
    have k3 : (x.kind = 3) = True:=eq_true hk
    by_cases g1 : x.cap = 0
    ·have g1T:=eq_true g1
     by_cases g2 : 0 < x.items.length
     ·have:=nl hkk (fun h => by have:=((lean3 hk).1 h).2.1; omega)
      simp (disch:=omega) [-getElem?_pos,if_pos,if_neg,decide_eq_true,decide_eq_false,hdC,tlC,chk9,ir_ref09_Check,hq,k0,k1,k2,k3,hk1,hk2,g1T,g2,this]
     ·by_cases g3 : 0 < x.cost.length
      ·have:=nl hkk (fun h => by have:=((lean3 hk).1 h).2.2; omega)
       simp (disch:=omega) [-getElem?_pos,if_pos,if_neg,decide_eq_true,decide_eq_false,hdC,tlC,chk9,ir_ref09_Check,hq,k0,k1,k2,k3,hk1,hk2,g1T,g2,g3,this]
      ·have hl:=(lean3 hk).2 ⟨g1,by omega,by omega⟩
       have u0 : ¬ 4096 < x.items.length:=by omega
       have u2 : ¬ 64 < x.cost.length:=by omega
       by_cases f1 : 4096 < x.sets.length
       ·have:=nf hkk hl (fun h => by have:=h.sets; omega)
        simp (disch:=omega) [-getElem?_pos,if_pos,if_neg,decide_eq_true,decide_eq_false,hdC,tlC,chk9,ir_ref09_Check,hq,k0,k1,k2,k3,hk1,hk2,g1T,g2,g3,f1,u0,u2,this]
       ·by_cases f2 : x.size < 0
        ·have:=nf hkk hl (fun h => by have:=h.size0; omega)
         simp (disch:=omega) [-getElem?_pos,if_pos,if_neg,decide_eq_true,decide_eq_false,hdC,tlC,chk9,ir_ref09_Check,hq,k0,k1,k2,k3,hk1,hk2,g1T,g2,g3,f1,f2,u0,u2,this]
        ·by_cases f3 : 4096 < x.size
         ·have:=nf hkk hl (fun h => by have:=h.size; omega)
          simp (disch:=omega) [-getElem?_pos,if_pos,if_neg,decide_eq_true,decide_eq_false,hdC,tlC,chk9,ir_ref09_Check,hq,k0,k1,k2,k3,hk1,hk2,g1T,g2,g3,f1,f2,f3,u0,u2,this]
         ·have hf : x.Few:=⟨by omega,by omega,by omega,by omega,by omega⟩
          simp (disch:=omega) [-getElem?_pos,if_pos,if_neg,decide_eq_true,decide_eq_false,hdC,tlC,chk9,ir_ref09_Check,hq,k0,k1,k2,k3,hk1,hk2,g1T,g2,g3,f1,f2,f3,u0,u2]
          exact tail hkk hl hf (by simp)
    ·have:=nl hkk (fun h => g1 ((lean3 hk).1 h).1)
     simp (disch:=omega) [-getElem?_pos,if_pos,if_neg,decide_eq_true,decide_eq_false,hdC,tlC,chk9,ir_ref09_Check,hq,k0,k1,k2,k3,hk1,hk2,g1,this]
end Go.Proofs.YtejifalflkbekaaGreatDoor
