/-
  package dual: Greedy.
-/
import Derived.Test.YtejifalflkbekaaDoorDs7
import Derived.Test.YtejifalflkbekaaDoorDp2
import Derived.Test.YtejifalflkbekaaDoorPiC
set_option maxRecDepth 100000
set_option linter.unusedSimpArgs false
set_option linter.unusedVariables false
namespace Go.Proofs.YtejifalflkbekaaDoor
open Go Go.Abs Go.Proofs.YtejifalflkbekaaDoor.Bs
def FrI (H1 : AH) (q : Nat) (ev : Value) (B : List Bool) (E : List Int) (k : Nat) (env : Env) (H' : AH) : Prop :=
 H' = H1 ∧ env 3 = some (.pointer (some ⟨q,0,none⟩)) ∧ env 9 = some ev ∧ env 10 = some (.int .i64 E.length) ∧ env 11 = some (.int .i64 k) ∧ env 5 = some (.int .i64 (frE B (E.take k) : Nat))
def FrQ (B : List Bool) (E : List Int) (x : AExit) (env : Env) (H' : AH) : Prop:=x = .exit 0 ∧ env 5 = some (.int .i64 (frE B E : Nat))
theorem fresh_l0 {p p' : Nat → Prop} {H1 : AH} {q : Nat} {ev sl : Value} {B : List Bool} {E : List Int} (hE : SlV p H1 ev E) (hs : SetB p' H1 (.agg #[.int .i64 B.length,sl]) B) (hq : H1.cells q = some [.int .i64 B.length,sl]) (hl : E.length ≤ 1000) (h0 : ∀ e ∈ E,0 ≤ e) {env : Env} (h : FrI H1 q ev B E 0 env H1) :
  wpC Tryd.prog 22 (.loop ir_dual_fresh_l0) (FrQ B E) env H1:=by
 refine loop_upto E.length (FrI H1 q ev B E) (Q:=FrQ B E) h ?_
 rintro k env H' hk ⟨rfl,e3,e9,e10,e11,e5⟩
 by_cases hkn : k < E.length
 ·obtain ⟨b0,off,sp,cap,cs,hv,q1,q2⟩:=ints_rd hE (by omega)
  obtain ⟨q3,_⟩:=q2 k hkn
  subst hv
  have hst:=frE_take (B:=B) hkn
  have hk1:=h0 E[k] (List.getElem_mem hkn)
  have hh:=Has_spec hs E[k]
  have hhb : hasB B E[k] = B.getD E[k].toNat false:=by unfold hasB; rw [decide_eq_true hk1]; simp
  rw [hhb] at hh
  have hfl:=frE_le B (E.take k)
  have htl : (E.take k).length ≤ 1000:=by rw [List.length_take]; omega
  generalize E[k] = e at *
  generalize B.getD e.toNat false = bb at *
  generalize frE B (E.take k) = f at *
  simp (disch:=omega) [-getElem?_pos,if_pos,if_neg,decide_eq_true,decide_eq_false,ir_dual_fresh_l0,e3,e5,e9,e10,e11,hkn,q1,q3,hq,cut2v]
  refine AFn.pure hh ?_
  cases bb with
  | true =>
   simp (disch:=omega) [-getElem?_pos,if_pos,if_neg,decide_eq_true,decide_eq_false,e5,e11,IntWalk.i64_in]
   exact ⟨hkn,rfl,by simp [e3],by simp [e9],by simp [e10],by simp,by simp [hst]⟩
  | false =>
   simp (disch:=omega) [-getElem?_pos,if_pos,if_neg,decide_eq_true,decide_eq_false,e5,e11,IntWalk.i64_in]
   exact ⟨hkn,rfl,by simp [e3],by simp [e9],by simp [e10],by simp,by simp [hst,e5]⟩
 ·obtain rfl : k = E.length:=by omega
  rw [List.take_length] at e5
  simp (disch:=omega) [-getElem?_pos,if_pos,if_neg,decide_eq_true,decide_eq_false,ir_dual_fresh_l0,e10,e11]
  exact ⟨rfl,e5⟩
theorem fresh_spec {p p' : Nat → Prop} {H : AH} {c : Int} {ev sv : Value} {B : List Bool} {E : List Int} (hE : SlV p H ev E) (hs : SetB p' H sv B) (hl : E.length ≤ 1000) (h0 : ∀ e ∈ E,0 ≤ e) :
  AFn Tryd.prog F_dual_fresh [.agg #[.int .i64 c,ev],sv] H fun u H' => u = .int .i64 (frE B E : Nat) ∧ H' = H:=by
 refine AFn.calm (fun H0 hsm => ?_) rfl
 have hE0:=hE.same hsm
 have hs0:=hs.same hsm
 clear hE hs
 obtain ⟨sl,rfl⟩:=setV hs0
 refine AFn.enter mixed ir_dual_fresh_eq (by simp [ir_dual_fresh]) fun hw => ?_
 obtain ⟨va,vc,rfl⟩:=hE0.slice
 obtain ⟨H1,hH1⟩ : ∃ H1,H1 = H0.alloc (.row [.int .i64 c,.slice va E.length vc] T_inst_Set true):=⟨_,rfl⟩
 have k1 : Keep [] H0 H1:=by rw [hH1]; exact .alloc
 have w1 : WF H1:=by rw [hH1]; exact hw.alloc
 have n1 : H1.next = H0.next + 1:=by rw [hH1]; rfl
 have c1 : H1.cells H0.next = some [.int .i64 c,.slice va E.length vc]:=by rw [hH1]; exact AH.cells_alloc_new
 obtain ⟨H2,hH2⟩ : ∃ H2,H2 = H1.alloc (.row [.int .i64 B.length,sl] T_bitset_Set true):=⟨_,rfl⟩
 have k2 : Keep [] H1 H2:=by rw [hH2]; exact .alloc
 have c2 : H2.cells H1.next = some [.int .i64 B.length,sl]:=by rw [hH2]; exact AH.cells_alloc_new
 have c12:=cells_kept w1 k2 c1
 have k02:=k1.trans' k2
 have e1 : H0.next + 1 = H1.next:=n1.symm
 simp (disch:=omega) [-getElem?_pos,if_pos,if_neg,decide_eq_true,decide_eq_false,ir_dual_fresh,hs0.one.1,hs0.one.2]
 rw [← hH1,e1,← hH2]
 refine wpC_use (fresh_l0 (H1:=H2) (q:=H1.next) (ev:=.slice va E.length vc) (hE0.kept hw k02) (hs0.kept' hw k02) c2 hl h0 ⟨rfl,by simp,by simp,by simp,by simp,by simp [frE]⟩) ?_
 rintro x env2 H3 ⟨rfl,f5⟩ _
 simp (disch:=omega) [-getElem?_pos,if_pos,if_neg,decide_eq_true,decide_eq_false,f5]
def ChI (H1 : AH) (q : Nat) (lv : Value) (L : List SetD) (B : List Bool) (k : Nat) (env : Env) (H' : AH) : Prop :=
 env 1 = some lv ∧ env 2 = some (.pointer (some ⟨q,0,none⟩)) ∧ env 10 = some lv ∧ env 11 = some (.int .i64 L.length) ∧ env 12 = some (.int .i64 k) ∧ WF H' ∧ Keep [] H1 H' ∧ env 5 = some (.int .i64 (chS L B k).1) ∧ env 6 = some (.int .i64 (chS L B k).2)
def ChQ (L : List SetD) (B : List Bool) (x : AExit) (env : Env) (H' : AH) : Prop:=x = .exit 0 ∧ env 5 = some (.int .i64 (chS L B L.length).1)
theorem cheap_l0 {p p' : Nat → Prop} {H1 : AH} {q n : Nat} {lv sl : Value} {L : List SetD} {B : List Bool} (hw : WF H1) (hL : SlV p H1 lv L) (hs : SetB p' H1 (.agg #[.int .i64 B.length,sl]) B) (hq : H1.cells q = some [.int .i64 B.length,sl]) (hD : DOk n L) (hl : L.length ≤ 30) (hel : ∀ s ∈ L,s.elems.length ≤ 30) {env : Env} (h : ChI H1 q lv L B 0 env H1) :
  wpC Tryd.prog 43 (.loop ir_dual_cheapest_l0) (ChQ L B) env H1:=by
 refine loop_upto L.length (ChI H1 q lv L B) (Q:=ChQ L B) h ?_
 rintro k env H' hk ⟨e1,e2,e10,e11,e12,w',k',e5,e6⟩
 by_cases hkn : k < L.length
 ·have hL':=hL.kept hw k'
  obtain ⟨b0,off,sp,cap,cs,rfl,q1,q2⟩:=sets_rd hL' (by omega)
  obtain ⟨ev,q3,q4,q5,q6,q7⟩:=q2 k hkn
  have hsl:=hel L[k] (List.getElem_mem hkn)
  have hin:=rises_mem (hD.rise L[k] (List.getElem_mem hkn))
  have hcs:=hD.cost L[k] (List.getElem_mem hkn)
  have hst:=chS_step (B:=B) hkn
  have hso:=chS_some (L:=L) (B:=B) k (by omega)
  have hfl:=frE_le B L[k].elems
  obtain ⟨H3,hH3⟩ : ∃ H3,H3 = H'.alloc (.row [.int .i64 L[k].cost,ev] T_inst_Set true):=⟨_,rfl⟩
  have k3 : Keep [] H' H3:=by rw [hH3]; exact .alloc
  have w3 : WF H3:=by rw [hH3]; exact w'.alloc
  have c3 : H3.cells H'.next = some [.int .i64 L[k].cost,ev]:=by rw [hH3]; exact AH.cells_alloc_new
  have k13:=k'.trans' k3
  have cq3:=cells_kept hw k13 hq
  have cq':=cells_kept hw k' hq
  have cqn:=eq_false (Nat.ne_of_lt (cells_lt w' cq'))
  have hq1':=cells_kept w' k3 q1
  have hfr:=fresh_spec (c:=L[k].cost) (q7.kept w' k3) (hs.kept' hw k13) (by omega) (fun e he => by have:=(hin e he).1; omega)
  generalize hfn : frE B L[k].elems = f at *
  have hcell:=hs.one
  rcases hso with ⟨h1,h2⟩ | ⟨b,hbl,h1,hbk,h2,h3⟩
  ·rw [h1] at e5 hst
   rw [h2] at e6 hst
   generalize L[k].cost = c0 at *
   by_cases hf : 0 < f
   ·rw [if_pos ⟨hf,.inl (by omega)⟩] at hst
    have hf' : (0 : Int) < (f : Int):=by omega
    simp (disch:=omega) [-getElem?_pos,if_pos,if_neg,decide_eq_true,decide_eq_false,ir_dual_cheapest_l0,e1,e2,e5,e6,e10,e11,e12,hkn,q1,q3,writeA,over,cut2v,cqn,cq']
    rw [← hH3]
    refine AFn.pure hfr ?_
    simp (disch:=omega) [-getElem?_pos,if_pos,if_neg,decide_eq_true,decide_eq_false,e5,e12,hf',IntWalk.i64_in]
    exact ⟨hkn,by simp [e1],by simp [e2],by simp [e10],by simp [e11],by simp,w3,k13,by simp [hst],by simp [hst]⟩
   ·rw [if_neg fun h => hf h.1] at hst
    have hf' : ¬ (0 : Int) < (f : Int):=by omega
    simp (disch:=omega) [-getElem?_pos,if_pos,if_neg,decide_eq_true,decide_eq_false,ir_dual_cheapest_l0,e1,e2,e5,e6,e10,e11,e12,hkn,q1,q3,writeA,over,cut2v,cqn,cq']
    rw [← hH3]
    refine AFn.pure hfr ?_
    simp (disch:=omega) [-getElem?_pos,if_pos,if_neg,decide_eq_true,decide_eq_false,e5,e12,hf',IntWalk.i64_in]
    exact ⟨hkn,by simp [e1],by simp [e2],by simp [e10],by simp [e11],by simp,w3,k13,by simp [hst,e5,h1],by simp [hst,e6,h2]⟩
  ·obtain ⟨ev2,g3,g4,g5,g6,g7⟩:=q2 b hbl
   have hcb:=hD.cost L[b] (List.getElem_mem hbl)
   have hfb:=frE_le B L[b].elems
   have hbe:=hel L[b] (List.getElem_mem hbl)
   have helim : ((L[(chS L B k).1.toNat]?).elim 0 (·.cost)) = L[b].cost:=by rw [h1,Int.toNat_natCast,List.getElem?_eq_getElem hbl]; rfl
   rw [helim] at hst
   rw [h1] at e5 hst
   rw [h2] at e6 hst
   have hcr:=fun H => Cross_spec (H:=H) (a:=L[k].cost) (b:=(f : Int)) (c:=L[b].cost) (d:=(frE B L[b].elems : Int)) (by unfold I64; omega) (by unfold I64; omega) (by unfold I64; omega) (by unfold I64; omega)
   generalize frE B L[b].elems = fb at *
   generalize L[k].cost = c0 at *
   generalize L[b].cost = cb at *
   have hb1 : b < L.length:=hbl
   have hb2 : (b : Int) < (L.length : Int):=by omega
   by_cases hf : 0 < f
   ·have hf' : (0 : Int) < (f : Int):=by omega
    have hsl2:=@sg_lt (c0 * (fb : Int) - cb * (f : Int))
    by_cases hx : c0 * (fb : Int) < cb * (f : Int)
    ·rw [if_pos ⟨hf,.inr hx⟩] at hst
     have hsg:=hsl2.2 (by omega)
     generalize sg (c0 * (fb : Int) - cb * (f : Int)) = z at *
     simp (disch:=omega) [-getElem?_pos,if_pos,if_neg,decide_eq_true,decide_eq_false,ir_dual_cheapest_l0,e1,e2,e5,e6,e10,e11,e12,hkn,q1,q3,writeA,over,cut2v,cqn,cq']
     rw [← hH3]
     refine AFn.pure hfr ?_
     simp (disch:=omega) [-getElem?_pos,if_pos,if_neg,decide_eq_true,decide_eq_false,e1,e5,e6,e12,hf',c3,hq1',g4,hb1,hb2,IntWalk.i64_in]
     refine AFnD.of (hcr _) ?_
     simp (disch:=omega) [-getElem?_pos,if_pos,if_neg,decide_eq_true,decide_eq_false,e12,hsg,IntWalk.i64_in]
     exact ⟨hkn,by simp [e1],by simp [e2],by simp [e10],by simp [e11],by simp,w3,k13,by simp [hst],by simp [hst]⟩
    ·rw [if_neg fun h => by rcases h.2 with h | h; omega; exact hx h] at hst
     have hsg : ¬ sg (c0 * (fb : Int) - cb * (f : Int)) < 0:=fun h => by have:=hsl2.1 h; omega
     generalize sg (c0 * (fb : Int) - cb * (f : Int)) = z at *
     simp (disch:=omega) [-getElem?_pos,if_pos,if_neg,decide_eq_true,decide_eq_false,ir_dual_cheapest_l0,e1,e2,e5,e6,e10,e11,e12,hkn,q1,q3,writeA,over,cut2v,cqn,cq']
     rw [← hH3]
     refine AFn.pure hfr ?_
     simp (disch:=omega) [-getElem?_pos,if_pos,if_neg,decide_eq_true,decide_eq_false,e1,e5,e6,e12,hf',c3,hq1',g4,hb1,hb2,IntWalk.i64_in]
     refine AFnD.of (hcr _) ?_
     simp (disch:=omega) [-getElem?_pos,if_pos,if_neg,decide_eq_true,decide_eq_false,e12,hsg,IntWalk.i64_in]
     exact ⟨hkn,by simp [e1],by simp [e2],by simp [e10],by simp [e11],by simp,w3,k13,by simp [hst,e5,h1],by simp [hst,e6,h2]⟩
   ·rw [if_neg fun h => hf h.1] at hst
    have hf' : ¬ (0 : Int) < (f : Int):=by omega
    simp (disch:=omega) [-getElem?_pos,if_pos,if_neg,decide_eq_true,decide_eq_false,ir_dual_cheapest_l0,e1,e2,e5,e6,e10,e11,e12,hkn,q1,q3,writeA,over,cut2v,cqn,cq']
    rw [← hH3]
    refine AFn.pure hfr ?_
    simp (disch:=omega) [-getElem?_pos,if_pos,if_neg,decide_eq_true,decide_eq_false,e5,e12,hf',IntWalk.i64_in]
    exact ⟨hkn,by simp [e1],by simp [e2],by simp [e10],by simp [e11],by simp,w3,k13,by simp [hst,e5,h1],by simp [hst,e6,h2]⟩
 ·obtain rfl : k = L.length:=by omega
  simp (disch:=omega) [-getElem?_pos,if_pos,if_neg,decide_eq_true,decide_eq_false,ir_dual_cheapest_l0,e11,e12]
  exact ⟨rfl,e5⟩
theorem cheap_spec {p p' : Nat → Prop} {H : AH} {n : Nat} {sv lv : Value} {L : List SetD} {B : List Bool} (hL : SlV p H lv L) (hs : SetB p' H sv B) (hD : DOk n L) (hl : L.length ≤ 30) (hel : ∀ s ∈ L,s.elems.length ≤ 30) :
  AFn Tryd.prog F_dual_cheapest [sv,lv] H fun u H' => u = .int .i64 (chS L B L.length).1 ∧ H' = H:=by
 refine AFn.calm (fun H0 hsm => ?_) rfl
 have hL0:=hL.same hsm
 have hs0:=hs.same hsm
 clear hL hs
 obtain ⟨sl,rfl⟩:=setV hs0
 refine AFn.enter mixed ir_dual_cheapest_eq (by simp [ir_dual_cheapest]) fun hw => ?_
 obtain ⟨va,vc,rfl⟩:=hL0.slice
 obtain ⟨H1,hH1⟩ : ∃ H1,H1 = H0.alloc (.row [.int .i64 B.length,sl] T_bitset_Set true):=⟨_,rfl⟩
 have k1 : Keep [] H0 H1:=by rw [hH1]; exact .alloc
 have w1 : WF H1:=by rw [hH1]; exact hw.alloc
 have c1 : H1.cells H0.next = some [.int .i64 B.length,sl]:=by rw [hH1]; exact AH.cells_alloc_new
 simp (disch:=omega) [-getElem?_pos,if_pos,if_neg,decide_eq_true,decide_eq_false,ir_dual_cheapest,hs0.one.1,hs0.one.2]
 rw [← hH1]
 refine wpC_use (cheap_l0 (H1:=H1) (q:=H0.next) (lv:=.slice va L.length vc) (B:=B) w1 (hL0.kept hw k1) (hs0.kept' hw k1) c1 hD hl hel ⟨by simp,by simp,by simp,by simp,by simp,w1,.refl,by simp [chS],by simp [chS]⟩) ?_
 rintro x env2 H3 ⟨rfl,f5⟩ _
 simp (disch:=omega) [-getElem?_pos,if_pos,if_neg,decide_eq_true,decide_eq_false,f5]
end Go.Proofs.YtejifalflkbekaaDoor
