/-
  package tree (2): All, walked: an invariant of the one who looks at the states.
-/
import Derived.Test.YtlcddhgfkkjhkaaDoorTree1
set_option maxRecDepth 100000
set_option linter.unusedSimpArgs false
set_option linter.unusedVariables false
namespace Go.Proofs.YtlcddhgfkkjhkaaDoor
open Go Go.Abs
structure Yst (l n0 C q : Nat) (x : InstD) (iv cv sv : Value) (at' : Nat → StD) (Inv : (Nat → Prop) → Nat → AH → Prop) (Fin : AH → Prop) : Prop where
 keep : ∀ p p' k H H',Inv p k H → WF H → WF H' → (∀ b,p b → n0 ≤ b) → H.next ≤ H'.next → (∀ b,b < H.next → ¬ p b → H'.blk b = H.blk b) → (∀ b,p' b → p b ∨ H.next ≤ b) → Inv p' k H'
 base : ∀ p k H,Inv p k H → n0 ≤ H.next ∧ GroundA G H ∧ H.cells q = some (instC x iv cv sv) ∧ InstV (fun b => b < n0) H (.agg (instC x iv cv sv).toArray) x
 step : ∀ p k H v,k < C → Inv p k H → WF H → (∀ b,p b → n0 ≤ b ∧ b < H.next) → StV p H v (at' k) → AYield Tryd.prog l [v] H fun r H' => H.next ≤ H'.next ∧ (∀ b,p b → H'.blk b = H.blk b) ∧ ((r = .bool true ∧ Inv p (k + 1) H') ∨ (r = .bool false ∧ Fin H'))
def AlS (n0 r3 r5 : Nat) (p : Nat → Prop) (L : List StD) (H' : AH) : Prop :=
 (∀ b,p b → n0 ≤ b ∧ b < H'.next) ∧ p r3 ∧ p r5 ∧ r3 ≠ r5 ∧ (∃ cs3,H'.blk r3 = some (.row cs3 T_state_State true) ∧ cs3.length = 6) ∧
 ∃ ov S D,H'.blk r5 = some (.row [ov] T_Lstate_State true) ∧ OwnL D H' T_state_State ov L S ∧ (∀ b ∈ S,p b ∧ b ≠ r3 ∧ b ≠ r5) ∧ (∀ b,D b → p b ∧ b ≠ r3 ∧ b ≠ r5)
-- (.tmp 40) [41,42]
def treeAllAsg : ACode:=(.region [⟨some 7,.mv (.tmp 42),none⟩] false)
def treeAllBody : ACode:=(.block 3 (.seq (.region [⟨some 44,.loadN 6 (.tmp 3),none⟩,⟨some 45,.loadN 6 (.tmp 1),none⟩,⟨some 46,.mv (.tmp 7),none⟩,⟨some 47,.call (.func F_state_State_Apply) [(.tmp 44),(.tmp 45),(.tmp 46)],none⟩,⟨some 43,.mv (.tmp 47),none⟩,⟨some 48,.ext (.tmp 43) 0,none⟩,⟨some 49,.ext (.tmp 43) 1,none⟩,⟨some 8,.new T_state_State [(.slice none 0 0),(.int .i64 0),(.int .i64 0),(.int .i64 0),(.int .i64 0),(.slice none 0 0)],none⟩,⟨none,.storeN 6 (.tmp 8) (.tmp 48),none⟩,⟨some 9,.mv (.tmp 49),none⟩] false) (.region [⟨some 50,.load1 (.tmp 5),none⟩,⟨some 51,.loadN 6 (.tmp 8),none⟩,⟨some 52,.bslice T_state_State 1 [(.slice none 0 0),(.int .i64 0),(.int .i64 0),(.int .i64 0),(.int .i64 0),(.slice none 0 0)] [(0,(6,(.tmp 51)))],none⟩,⟨some 53,.app T_state_State 6 80 (.tmp 50) (.tmp 52),none⟩,⟨none,.store1 (.tmp 5) (.tmp 53),none⟩] false)))
def pushed (x : InstD) (s : StD) (X : List Int) (k : Nat) : List StD:=((X.drop (X.length - k)).map (x.applyS s)).reverse
theorem pushed_succ {x : InstD} {s : StD} {X : List Int} {k m : Nat} (h : k + m + 1 = X.length) : pushed x s X (k + 1) = pushed x s X k ++ [x.applyS s (X[m]'(by omega))]:=by
 unfold pushed
 rw [show X.length - (k + 1) = m by omega,show X.length - k = m + 1 by omega,← List.getElem_cons_drop (show m < X.length by omega),List.map_cons,List.reverse_cons]
def PuI (n0 r3 r5 l2 q2 : Nat) (p : Nat → Prop) (H2 : AH) (x : InstD) (s : StD) (cs3 : List Value) (L2 : LoopA) (mv : Value) (R : List StD) (X : List Int) (k : Nat) (H' : AH) : Prop :=
 H2.next ≤ H'.next ∧ (∀ b,b < H2.next → ¬ p b → H'.blk b = H2.blk b) ∧ H'.blk r3 = some (.row cs3 T_state_State true) ∧ H'.blk l2 = some (.loop L2) ∧ H'.cells q2 = some [mv] ∧
 ∃ ov S D,H'.blk r5 = some (.row [ov] T_Lstate_State true) ∧ OwnL D H' T_state_State ov (R ++ pushed x s X k) S ∧ SlV D H' mv X ∧ Ren.R D H' cs3 s ∧ (∀ b ∈ S,(p b ∨ H2.next ≤ b) ∧ b ≠ r3 ∧ b ≠ r5 ∧ b ≠ l2 ∧ b ≠ q2) ∧ (∀ b,D b → (p b ∨ H2.next ≤ b) ∧ b < H'.next ∧ b ≠ r3 ∧ b ≠ r5 ∧ b ≠ l2 ∧ b ≠ q2)
theorem push_yld {n0 r3 r5 l2 q2 l C q : Nat} {p : Nat → Prop} {H2 : AH} {x : InstD} {s : StD} {cs3 : List Value} {L2 : LoopA} {mv : Value} {R : List StD} {X : List Int} {iv cv sv : Value} {Inv : (Nat → Prop) → Nat → AH → Prop} {Fin : AH → Prop} {kk : Nat}
  (hY : Yst l n0 C q x iv cv sv (atN x) Inv Fin) (hInv : Inv p kk H2) (hw2 : WF H2) (hp : ∀ b,p b → n0 ≤ b ∧ b < H2.next) (p3 : p r3) (p5 : p r5) (h35 : r3 ≠ r5) (hl2 : H2.next ≤ l2) (hq2 : H2.next ≤ q2) (hlq : l2 ≠ q2) (hok : x.Ok) (hso : StOk x s) (hX : X = x.moves s)
  (hst : L2.state = .ready) (hpe : L2.pending = none) (hpa : L2.params = [41,42]) (hasg : L2.assign = treeAllAsg) (hbo : L2.body = treeAllBody) (hn : L2.n = 54) (e1 : L2.env 1 = some (.pointer (some ⟨q,0,none⟩))) (e3 : L2.env 3 = some (.pointer (some ⟨r3,0,none⟩))) (e5 : L2.env 5 = some (.pointer (some ⟨r5,0,none⟩)))
  (hRl : R.length ≤ 1000000000) (hXl : X.length ≤ 5000) (hpl : s.path.length ≤ 10000) :
  ∀ k m (hm : m < X.length) H',k + m + 1 = X.length → PuI n0 r3 r5 l2 q2 p H2 x s cs3 L2 mv R X k H' → WF H' → AYield Tryd.prog l2 [.int .i64 (m : Int),.int .i64 X[m]] H' fun r H'' => r = .bool true ∧ PuI n0 r3 r5 l2 q2 p H2 x s cs3 L2 mv R X (k + 1) H'':=by
 intro k m hm H' hkm ⟨hn',hfr,b3,bl,cq2,ov,S,D,b5,hO,hM,hR,hS,hD⟩ w'
 obtain ⟨hb0,hb1,hb2,hb3⟩:=hY.base p kk H2 hInv
 have hInv':=hY.keep p (fun b => p b ∨ H2.next ≤ b) kk H2 H' hInv hw2 w' (fun b hb => (hp b hb).1) hn' hfr (fun b hb => hb)
 obtain ⟨_,hg,hcq,hix⟩:=hY.base _ kk H' hInv'
 have h3n:=(hp r3 p3)
 have h5n:=(hp r5 p5)
 have hqn:=cells_lt hw2 hb2
 have hl2n:=w'.lt bl
 have hq2n:=cells_lt w' cq2
 have hdm : X[m] ∈ x.moves s:=by rw [← hX]; exact List.getElem_mem _
 have hdi:=moves_I64 (x:=x) (s:=s) (by have:=hso.used; have:=slots_le hok; omega) hdm
 have hps:=pushed_succ (x:=x) (s:=s) hkm
 have hpl' : (pushed x s X k).length ≤ 5000:=by unfold pushed; simp; omega
 generalize X[m] = d at *
 have hHb : ∀ b,b ≠ l2 → (H'.set l2 (.loop (busyL L2))).blk b = H'.blk b:=fun b hb => AH.set_blk_ne hb
 have wb : WF (H'.set l2 (.loop (busyL L2))):=w'.set hl2n
 have nb : (H'.set l2 (.loop (busyL L2))).next = H'.next:=rfl
 have blb : (H'.set l2 (.loop (busyL L2))).blk l2 = some (.loop (busyL L2)):=AH.set_blk_same
 have sub : ∀ (P : Nat → Prop),(¬ P l2) → Sub P H' (H'.set l2 (.loop (busyL L2))):=fun P hP => .set hP
 refine AYield.intro mixed bl (by rw [hpa]; rfl) ?_
 rw [hpa,show wpC Tryd.prog L2.n L2.assign = wpC Tryd.prog 54 treeAllAsg by rw [hasg,hn],show wpC Tryd.prog L2.n = wpC Tryd.prog 54 by rw [hn]]
 simp (disch:=omega) [-getElem?_pos,if_pos,if_neg,decide_eq_true,decide_eq_false,treeAllAsg,putAll]
 refine ⟨_,bl,hst,?_⟩
 rw [show wpC Tryd.prog 54 L2.body = wpC Tryd.prog 54 treeAllBody by rw [hbo]]
 show wpC _ _ _ _ _ (H'.set l2 (.loop (busyL L2)))
 have hix' : InstV (fun b => b < (H'.set l2 (.loop (busyL L2))).next) (H'.set l2 (.loop (busyL L2))) (.agg (instC x iv cv sv).toArray) x:=by
  refine hix.up (fun b hb => by rw [nb]; omega) (sub _ (by omega))
 have hcq' : (H'.set l2 (.loop (busyL L2))).cells q = some (instC x iv cv sv):=by rw [AH.cells_set_ne (by omega)]; exact hcq
 have hg' : GroundA G (H'.set l2 (.loop (busyL L2))):=fun z hz => by
  have h1:=hb1 z hz
  have:=cells_lt hw2 h1
  rw [AH.cells_set_ne (by omega)]
  exact hg z hz
 have b3' : (H'.set l2 (.loop (busyL L2))).blk r3 = some (.row cs3 T_state_State true):=by rw [hHb r3 (by omega)]; exact b3
 have b5' : (H'.set l2 (.loop (busyL L2))).blk r5 = some (.row [ov] T_Lstate_State true):=by rw [hHb r5 (by omega)]; exact b5
 have cq2' : (H'.set l2 (.loop (busyL L2))).cells q2 = some [mv]:=by rw [AH.cells_set_ne (Ne.symm hlq)]; exact cq2
 have hDl : ¬ D l2:=fun h => (hD l2 h).2.2.2.2.1 rfl
 have hO' : OwnL D (H'.set l2 (.loop (busyL L2))) T_state_State ov (R ++ pushed x s X k) S:=hO.up (fun _ h => h) (sub _ hDl) (fun b hb => hHb b (hS b hb).2.2.2.1) (let ⟨_,_,_,h⟩:=hO; h)
 have hM':=hM.sub (sub _ hDl)
 have hR' : Ren.R D (H'.set l2 (.loop (busyL L2))) cs3 s:=Ren.up (fun _ h => h) (sub _ hDl) hR
 have hSn:=hO'.lt wb
 generalize hHB : H'.set l2 (.loop (busyL L2)) = HB at *
 have hlen3 : cs3.length = 6:=Ren.len hR
 obtain ⟨hsv,hsc⟩:=R_std hR'
 have hcut3 : cut cs3 0 6 = some cs3:=by rw [cut_eq (by omega),List.drop_zero,List.take_of_length_le (by omega)]
 have c3:=AH.cells_of b3'
 have hap:=Apply_spec (d:=d) hg' (p:=fun b => D b) (fun b hb => by have:=(hD b hb).2.1; omega) hsv hix' hok hso hdi hpl
 simp (disch:=omega) [-getElem?_pos,if_pos,if_neg,decide_eq_true,decide_eq_false,treeAllBody,e1,e3,c3,hcut3,hcq',inst_cut]
 refine hap.mono' fun u Ha wa ⟨ka,hu⟩ => ?_
 rw [if_pos hdm] at hu
 obtain ⟨tt,rfl,ht⟩:=hu
 obtain ⟨pt,ut,rfl,t1,t2⟩:=id ht
 have htc:=t1.cell
 have htu:=SetB_cell t2
 generalize x.applyS s d = t at *
 have na:=ka.next
 have b5a:=(ka.blk r5 (by omega) (by simp)).trans b5'
 have c5a:=AH.cells_of b5a
 have hne5 : ¬ r5 = Ha.next:=by omega
 have cutT : cut (stC t pt ut) 0 6 = some (stC t pt ut):=st_cut t pt ut
 simp only [stC] at cutT
 obtain ⟨Hc,hHc⟩ : ∃ Hc,Hc = Ha.alloc (.row [pt,.int .i64 t.cost,.int .i64 t.left,.int .i64 t.pos,.int .i64 t.used.length,ut] T_state_State true):=⟨_,rfl⟩
 have kc : Keep [] Ha Hc:=by rw [hHc]; exact .alloc
 have wc : WF Hc:=by rw [hHc]; exact wa.alloc
 have nc : Hc.next = Ha.next + 1:=by rw [hHc]; simp
 have c8 : Hc.cells Ha.next = some [pt,.int .i64 t.cost,.int .i64 t.left,.int .i64 t.pos,.int .i64 t.used.length,ut]:=by rw [hHc]; simp
 have kac:=ka.trans' kc
 have c5c : Hc.cells r5 = some [ov]:=cells_kept wb kac (AH.cells_of b5')
 have b5c:=(kac.blk r5 (by omega) (by simp)).trans b5'
 have hOc:=hO'.kept wb kac
 have hSlt : ∀ b ∈ S,b < HB.next:=hSn
 obtain ⟨oa,oc,rfl⟩:=hOc.slice
 have hRt : Ren.R (fun b => (D b ∨ HB.next ≤ b) ∧ b < Hc.next) Hc (stC t pt ut) t:=by
  have:=ht.up (q:=fun b => (D b ∨ HB.next ≤ b) ∧ b < Hc.next) (fun b hb => ⟨hb.1,by omega⟩) (.kept wa kc)
  obtain ⟨pt',ut',he,g1,g2⟩:=this
  simp at he
  obtain ⟨rfl,rfl⟩:=he
  exact ⟨_,_,rfl,g1,g2⟩
 have hlen : (R ++ pushed x s X k).length ≤ 1000005000:=by rw [List.length_append]; omega
 obtain ⟨va,vc,Hd,S',p1,hOd,kd,wd,hS'⟩:=hOc.push (q:=fun b => (D b ∨ HB.next ≤ b) ∧ b < Hc.next) wc hRt T_state_State 80 (fun b hb => ⟨.inl hb,by have:=(hD b hb).2.1; omega⟩) (fun b hb => hb.2) (fun b hb h => by
  rcases h.1 with h1 | h1
  ·exact (let ⟨_,_,_,hh⟩:=hOc; hh b hb h1)
  ·have:=hSlt b hb; omega) (by omega) (by omega)
 simp only [sz_std,stC] at p1
 have pE : elemsA (Hc.alloc (.row [pt,.int .i64 t.cost,.int .i64 t.left,.int .i64 t.pos,.int .i64 t.used.length,ut] T_state_State true)) 6 (.slice (some ⟨Hc.next,0,none⟩) 1 1) = some [pt,.int .i64 t.cost,.int .i64 t.left,.int .i64 t.pos,.int .i64 t.used.length,ut]:=elems_one rfl
 have hSS : ∀ b ∈ S',b ∈ S ∨ Hc.next ≤ b:=hS'
 have b5d : Hd.blk r5 = some (.row [.slice oa (R ++ pushed x s X k).length oc] T_Lstate_State true):=(kd.blk r5 (by omega) (fun h => (hS _ h).2.2.1 rfl)).trans b5c
 have nd:=kd.next
 have blB:=(kac.blk l2 (by omega) (by simp)).trans blb
 have bld : Hd.blk l2 = some (.loop (busyL L2)):=(kd.blk l2 (by omega) (fun h => (hS _ h).2.2.2.1 rfl)).trans blB
 have hl25 : l2 ≠ r5:=by omega
 have wr5:=writeA_of (off:=0) (news:=[Value.slice va ((R ++ pushed x s X k).length + 1) vc]) b5d (by simp)
 simp only [over,List.take_zero,List.nil_append,List.length_cons,List.length_nil,Nat.zero_add,List.drop_succ_cons,List.drop_zero,List.append_nil] at wr5
 have hDr5 : ¬ D r5:=fun h => (hD r5 h).2.2.2.1 rfl
 have hcat : R ++ pushed x s X (k + 1) = (R ++ pushed x s X k) ++ [t]:=by rw [hps,List.append_assoc]
 have hll : (R ++ pushed x s X (k + 1)).length = (R ++ pushed x s X k).length + 1:=by rw [hcat,List.length_append,List.length_singleton]
 have fin : ∀ H'',H'' = (Hd.set r5 (.row [.slice va ((R ++ pushed x s X k).length + 1) vc] T_Lstate_State true)).set l2 (.loop L2) → PuI n0 r3 r5 l2 q2 p H2 x s cs3 L2 mv R X (k + 1) H'':=by
  intro H'' hH''
  have far : ∀ b,b ≠ r5 → b ≠ l2 → b ∉ S → b < HB.next → H''.blk b = HB.blk b:=fun b h1 h2 h3 h4 => by
   rw [hH'',AH.set_blk_ne h2,AH.set_blk_ne h1,kd.blk b (by omega) h3,kac.blk b h4 (by simp)]
  have far' : ∀ b,b < H'.next → b ≠ r5 → b ≠ l2 → b ∉ S → H''.blk b = H'.blk b:=fun b h0 h1 h2 h3 => by rw [far b h1 h2 h3 (by omega),hHb b h2]
  have subq : Sub (fun b => (D b ∨ HB.next ≤ b) ∧ b < Hc.next) Hd H'':=fun b hb cs hc => by
   have h1 : b ≠ r5:=fun h => by subst h; rcases hb.1 with h | h; exact hDr5 h; omega
   have h2 : b ≠ l2:=fun h => by subst h; rcases hb.1 with h | h; exact hDl h; omega
   unfold AH.cells at hc ⊢
   rw [hH'',AH.set_blk_ne h2,AH.set_blk_ne h1]; exact hc
  have subD : Sub D HB H'':=fun b hb cs hc => by
   have h3:=hD b hb
   have h4 : b ∉ S:=fun h => (let ⟨_,_,_,hh⟩:=hO'; hh b h hb)
   unfold AH.cells at hc ⊢
   rw [far b h3.2.2.2.1 h3.2.2.2.2.1 h4 (by omega)]; exact hc
  refine ⟨by rw [hH'']; simp; omega,fun b hb hnp => ?_,?_,?_,?_,.slice va ((R ++ pushed x s X k).length + 1) vc,S',fun b => (D b ∨ HB.next ≤ b) ∧ b < Hc.next,?_,?_,?_,?_,fun b hb => ?_,fun b hb => ?_⟩
  ·rw [far' b (by omega) (fun h => by subst h; exact hnp p5) (by omega) (fun h => by rcases (hS b h).1 with h | h; exact hnp h; omega),hfr b hb hnp]
  ·rw [far' r3 (by omega) h35 (by omega) (fun h => (hS _ h).2.1 rfl)]; exact b3
  ·rw [hH'',AH.set_blk_same]
  ·have:=far' q2 (by omega) (by omega) (Ne.symm hlq) (fun h => (hS _ h).2.2.2.2 rfl)
   unfold AH.cells at cq2 ⊢
   rw [this]; exact cq2
  ·rw [hH'',AH.set_blk_ne (Ne.symm hl25),AH.set_blk_same]
  ·rw [hcat]
   refine hOd.up (fun _ h => h) subq (fun b hb => ?_) (let ⟨_,_,_,hh⟩:=hOd; hh)
   rw [hH'',AH.set_blk_ne (fun h => by subst h; rcases hSS _ hb with h | h; exact (hS _ h).2.2.2.1 rfl; omega),AH.set_blk_ne (fun h => by subst h; rcases hSS _ hb with h | h; exact (hS _ h).2.2.1 rfl; omega)]
  ·exact hM'.up (fun b hb => ⟨.inl hb,by have:=(hD b hb).2.1; omega⟩) subD
  ·exact Ren.up (fun b hb => ⟨.inl hb,by have:=(hD b hb).2.1; omega⟩) subD hR'
  ·rcases hSS b hb with h | h
   ·exact hS b h
   ·exact ⟨.inr (by omega),by omega,by omega,by omega,by omega⟩
  ·have hbn : b < H''.next:=by rw [hH'']; show b < Hd.next; omega
   rcases hb.1 with h | h
   ·have:=hD b h
    exact ⟨this.1,hbn,this.2.2⟩
   ·exact ⟨.inr (by omega),hbn,by omega,by omega,by omega,by omega⟩
 generalize hLL : (R ++ pushed x s X k).length = LL at *
 simp (disch:=omega) [-getElem?_pos,if_pos,if_neg,decide_eq_true,decide_eq_false,htc.1,htc.2,htu.1,htu.2,writeA,over,cut6',← hHc]
 simp (disch:=omega) [-getElem?_pos,if_pos,if_neg,decide_eq_true,decide_eq_false,e5,c5c,c8,pE,p1,cut6',wr5]
 exact ⟨_,by rw [AH.set_blk_ne hl25]; exact bld,rfl,fin _ (by rw [busy_back hst hpe])⟩
/-! ### the loop over the stack -/
def TaI (l n0 q r3 r5 : Nat) (x : InstD) (Inv : (Nat → Prop) → Nat → AH → Prop) (k : Nat) (env : Env) (H' : AH) : Prop :=
 env 0 = some (.func (.yield l) #[] #[]) ∧ env 1 = some (.pointer (some ⟨q,0,none⟩)) ∧ env 3 = some (.pointer (some ⟨r3,0,none⟩)) ∧ env 5 = some (.pointer (some ⟨r5,0,none⟩)) ∧ WF H' ∧ ∃ p,AlS n0 r3 r5 p (stkN x k).reverse H' ∧ Inv p k H'
def TaQ (x : InstD) (C : Nat) (Inv : (Nat → Prop) → Nat → AH → Prop) (Fin : AH → Prop) (e : AExit) (env : Env) (H' : AH) : Prop :=
 (e = .exit 0 ∧ ∃ p k,k ≤ C ∧ stkN x k = [] ∧ Inv p k H') ∨ (e = .ret ∧ Fin H')
theorem tall_l0 {n0 r3 r5 l C q : Nat} {x : InstD} {iv cv sv : Value} {Inv : (Nat → Prop) → Nat → AH → Prop} {Fin : AH → Prop} (hok : x.Ok) (hC : C ≤ 100000) (hY : Yst l n0 C q x iv cv sv (atN x) Inv Fin) (hend : ∀ p H,Inv p C H → stkN x C = [])
  {env : Env} {H : AH} (h : TaI l n0 q r3 r5 x Inv 0 env H) : wpC Tryd.prog 54 (.loop ir_tree_All_1_l0) (TaQ x C Inv Fin) env H:=by
 refine loop_upto C (TaI l n0 q r3 r5 x Inv) (Q:=TaQ x C Inv Fin) h ?_
 rintro k env H' hk ⟨e0,e1,e3,e5,w',p,⟨hp,p3,p5,h35,⟨cs3,b3,l3⟩,ov,S,D,b5,hO,hS,hD⟩,hI⟩
 have c5:=AH.cells_of b5
 have hlen:=stk_len hok (fun s hs => moves_max hok hs) k
 cases hst : stkN x k with
 | nil =>
  rw [hst] at hO
  obtain ⟨oa,oc,rfl⟩:=hO.slice
  simp (disch:=omega) [-getElem?_pos,if_pos,if_neg,decide_eq_true,decide_eq_false,ir_tree_All_1_l0,e5,c5]
  exact .inl ⟨rfl,p,k,hk,hst,hI⟩
 | cons s rest =>
  have hkC : k < C:=by
   apply Classical.byContradiction
   intro hc
   obtain rfl : k = C:=by omega
   have:=hend p H' hI
   rw [hst] at this
   cases this
  have hat : atN x k = s:=by unfold atN; rw [hst]; rfl
  have hso:=stk_ok hok k s (by rw [hst]; simp)
  rw [hst] at hlen hO
  rw [List.reverse_cons] at hO
  obtain ⟨oa,oc,rfl⟩:=hO.slice
  obtain ⟨b,off,sp,cs,rfl,hSb,hn,hcb,hsp,hcap,⟨ce,hcut,hR⟩,hO1⟩:=OwnL.pop hO
  have h3n:=hp r3 p3
  have h5n:=hp r5 p5
  have hbS:=hS b (by rw [hSb]; simp)
  have hbn:=cells_lt w' hcb
  have hlr : rest.reverse.length ≤ 1000000000:=by simp at hlen ⊢; omega
  have hDS : ∀ z ∈ S,¬ D z:=(let ⟨_,_,_,h⟩:=hO; h)
  have hle : ce.length = 6:=Ren.len hR
  obtain ⟨hsv,hsc⟩:=R_std hR
  have hcute : cut ce 0 6 = some ce:=by rw [cut_eq (by omega),List.drop_zero,List.take_of_length_le (by omega)]
  have hrow : over cs3 0 ce = ce:=by
   simp only [over,List.take_zero,List.nil_append]
   rw [List.drop_of_length_le (by omega),List.append_nil]
  rw [hn] at c5 b5
  generalize hm : rest.reverse.length = m at *
  have hm1 : ((m + 1 : Nat) : Int) - 1 = (m : Int):=by omega
  have hm2 : ((m : Int) + 1) - 1 = (m : Int):=by omega
  have hmp : (0 : Int) < (m : Int) + 1:=by omega
  have hmc : m + 1 ≤ oc:=by omega
  have hmc' : (m : Int) ≤ (oc : Int):=by omega
  simp only [sz_std] at hcut hsp
  obtain ⟨sl,hsl⟩ : ∃ sl,sl = Value.slice (some ⟨b,off,sp⟩) m oc:=⟨_,rfl⟩
  have hslA : slA (H'.room 13) 6 (some (.slice (some ⟨b,off,sp⟩) (m + 1) oc)) (some (.int .i64 (m : Int))) = some (sl,H'.room 13):=by
   rw [hsl]
   rcases hsp with rfl | rfl
   ·simp only [slA]; rw [if_pos (by omega)]; simp
   ·simp only [slA]; rw [if_pos (by omega)]; simp
  have hslc : one sl = true ∧ cellsOf sl = some [sl]:=by rw [hsl]; exact ⟨rfl,rfl⟩
  rw [← hsl] at hO1
  have wr3:=writeA_of (H:=H'.room 13) (off:=0) (news:=ce) (by simpa using b3) (by omega)
  rw [hrow] at wr3
  have wr5:=writeA_of (H:=(H'.room 13).set r3 (.row ce T_state_State true)) (off:=0) (news:=[sl]) (by rw [AH.set_blk_ne (Ne.symm h35)]; simpa using b5) (by simp)
  simp only [over,List.take_zero,List.nil_append,List.length_cons,List.length_nil,Nat.zero_add,List.drop_succ_cons,List.drop_zero,List.append_nil] at wr5
  have hb3 : b ≠ r3:=hbS.2.1
  have hb5 : b ≠ r5:=hbS.2.2
  have h53 : r5 ≠ r3:=Ne.symm h35
  have h3b : r3 ≠ b:=Ne.symm hb3
  have h5b : r5 ≠ b:=Ne.symm hb5
  simp (disch:=omega) [-getElem?_pos,if_pos,if_neg,decide_eq_true,decide_eq_false,ir_tree_All_1_l0,e0,e1,e3,e5,c5,hm1,hm2,hmp,hmc,hcb,hcut,↓ieval_slhi,hslA,hsc,hle,wr3,wr5,hslc.1,hslc.2,h35,h53,hb3,hb5,h3b,h5b,IntWalk.i64_in]
  obtain ⟨H1,hH1⟩ : ∃ H1,H1 = ((H'.room 13).set r3 (.row ce T_state_State true)).set r5 (.row [sl] T_Lstate_State true):=⟨_,rfl⟩
  have w1 : WF H1:=by rw [hH1]; refine WF.set (WF.set w'.room ?_) ?_ <;> simp <;> omega
  have n1 : H1.next = H'.next + 13:=by rw [hH1]; simp
  have b31 : H1.blk r3 = some (.row ce T_state_State true):=by rw [hH1,AH.set_blk_ne h35,AH.set_blk_same]
  have b51 : H1.blk r5 = some (.row [sl] T_Lstate_State true):=by rw [hH1,AH.set_blk_same]
  have far1 : ∀ z,z ≠ r3 → z ≠ r5 → H1.blk z = H'.blk z:=fun z h1 h2 => by rw [hH1,AH.set_blk_ne h2,AH.set_blk_ne h1]; rfl
  rw [← hH1]
  clear hH1 wr3 wr5 hslA
  have sub1 : Sub D H' H1:=fun z hz cs hc => by
   have:=hD z hz
   unfold AH.cells at hc ⊢
   rw [far1 z this.2.1 this.2.2]; exact hc
  have hI1:=hY.keep p p k H' H1 hI w' w1 (fun z hz => (hp z hz).1) (by omega) (fun z hz hnp => far1 z (fun h => hnp (h ▸ p3)) (fun h => hnp (h ▸ p5))) (fun z hz => .inl hz)
  have hstep:=hY.step p k H1 _ hkC hI1 w1 (fun z hz => ⟨(hp z hz).1,by have:=(hp z hz).2; omega⟩) (hat.symm ▸ hsv.up (fun z hz => (hD z hz).1) sub1)
  have c31:=AH.cells_of b31
  have hO2 : OwnL D H1 T_state_State sl rest.reverse S:=hO1.up (fun _ h => h) sub1 (fun z hz => by have:=hS z hz; exact far1 z this.2.1 this.2.2) hDS
  have hR1 : Ren.R D H1 ce s:=Ren.up (fun _ h => h) sub1 hR
  simp (disch:=omega) [-getElem?_pos,if_pos,if_neg,decide_eq_true,decide_eq_false,e0,e3,c31,hcute]
  refine ACall_yield_of (hstep.mono_wf (Q':=fun r H2 => WF H2 ∧ _) fun r H2 w2 h => ⟨w2,h⟩) fun r H2 ⟨w2,n2,f2,hr⟩ => ?_
  rcases hr with ⟨rfl,hI2⟩ | ⟨rfl,hF⟩
  ·obtain ⟨g0,hg,hcq,hix⟩:=hY.base p (k + 1) H2 hI2
   have b32:=(f2 r3 p3).trans b31
   have b52:=(f2 r5 p5).trans b51
   have c32:=AH.cells_of b32
   have sub2 : Sub D H1 H2:=fun z hz cs hc => by
    have:=(hD z hz).1
    unfold AH.cells at hc ⊢
    rw [f2 z this]; exact hc
   have hO3 : OwnL D H2 T_state_State sl rest.reverse S:=hO2.up (fun _ h => h) sub2 (fun z hz => f2 z (hS z hz).1) hDS
   have hR2 : Ren.R D H2 ce s:=Ren.up (fun _ h => h) sub2 hR1
   have hmv:=Moves_spec hg (R_std hR2).1.any hix.any hok hso
   have hp2 : ∀ z,p z → n0 ≤ z ∧ z < H2.next:=fun z hz => by have:=hp z hz; omega
   simp (disch:=omega) [-getElem?_pos,if_pos,if_neg,decide_eq_true,decide_eq_false,e1,e3,c32,hcute,hcq,inst_cut]
   refine hmv.mono' fun u H3 w3 ⟨SM,hM,k3,hSM⟩ => ?_
   have n3:=k3.next
   have hMc:=hM.cell
   have hMl:=moves_max hok hso
   simp (disch:=omega) [-getElem?_pos,if_pos,if_neg,decide_eq_true,decide_eq_false,]
   refine (BackF_spec hMc.1 hMc.2).mono' fun u2 H4 w4 ⟨hu2,hH4⟩ => ?_
   subst hu2
   have k4 : Keep [] H3 H4:=by rw [hH4]; exact .alloc
   have n4 : H4.next = H3.next + 1:=by rw [hH4]; simp
   have c4 : H4.cells H3.next = some [u]:=by rw [hH4]; simp
   clear hH4
   simp (disch:=omega) [-getElem?_pos,if_pos,if_neg,decide_eq_true,decide_eq_false,]
   refine wpC_range (p:=#[]) (q:=#[.pointer (some ⟨H3.next,0,none⟩)]) (by simp) good_slices_Backward_Lint_int__1 ?_
   generalize hL : (LoopA.mk _ _ _ _ _ _ _ : LoopA) = L2
   have L1 : L2.state = .ready:=by rw [← hL]
   have L2' : L2.pending = none:=by rw [← hL]
   have L3 : L2.params = [41,42]:=by rw [← hL]
   have L4 : L2.assign = treeAllAsg:=by rw [← hL]; rfl
   have L5 : L2.body = treeAllBody:=by rw [← hL]; rfl
   have L6 : L2.n = 54:=by rw [← hL]
   have E1 : L2.env 1 = some (.pointer (some ⟨q,0,none⟩)):=by rw [← hL]; simp [e1]
   have E3 : L2.env 3 = some (.pointer (some ⟨r3,0,none⟩)):=by rw [← hL]; simp [e3]
   have E5 : L2.env 5 = some (.pointer (some ⟨r5,0,none⟩)):=by rw [← hL]; simp [e5]
   clear hL
   have k24:=k3.trans' k4
   have k25 : Keep [] H2 (H4.alloc (.loop L2)):=.new_alloc k24
   have w5 : WF (H4.alloc (.loop L2)):=w4.alloc
   have n5 : (H4.alloc (.loop L2)).next = H4.next + 1:=by simp
   have sub5 : ∀ P : Nat → Prop,Sub P H2 (H4.alloc (.loop L2)):=fun P => .kept w2 k25
   have hM5 : SlV (fun z => D z ∨ H2.next ≤ z ∧ z < H3.next) (H4.alloc (.loop L2)) u (x.moves s):=(hM.slv (q:=fun z => H2.next ≤ z ∧ z < H3.next) (fun _ h => h.elim) (fun z hz => ⟨hSM z hz,hM.lt w3 z hz⟩) (by omega)).up (fun z hz => .inr hz) (.kept w3 (.new_alloc k4))
   have start : PuI n0 r3 r5 H4.next H3.next p H2 x s ce L2 u rest.reverse (x.moves s) 0 (H4.alloc (.loop L2)):=by
    refine ⟨k25.next,fun z hz _ => k25.blk z hz (by simp),(k25.blk r3 (by omega) (by simp)).trans b32,AH.alloc_blk_new,by rw [AH.cells_alloc_ne (by omega)]; exact c4,sl,S,fun z => D z ∨ H2.next ≤ z ∧ z < H3.next,(k25.blk r5 (by omega) (by simp)).trans b52,?_,hM5,Ren.up (fun z hz => .inl hz) (sub5 _) hR2,fun z hz => ?_,fun z hz => ?_⟩
    ·have h0 : pushed x s (x.moves s) 0 = []:=by unfold pushed; simp
     rw [h0,List.append_nil]
     refine hO3.up (fun z hz => .inl hz) (sub5 _) (fun z hz => k25.blk z (by have:=(hp2 z (hS z hz).1).2; omega) (by simp)) (fun z hz h => ?_)
     rcases h with h | h
     ·exact hDS z hz h
     ·have:=(hp2 z (hS z hz).1).2; omega
    ·have h1:=hS z hz
     have:=(hp2 z h1.1).2
     exact ⟨.inl h1.1,h1.2.1,h1.2.2,by omega,by omega⟩
    ·rcases hz with hz | hz
     ·have h1:=hD z hz
      have:=(hp2 z h1.1).2
      exact ⟨.inl h1.1,by omega,h1.2.1,h1.2.2,by omega,by omega⟩
     ·exact ⟨.inr hz.1,by omega,by omega,by omega,by omega,by omega⟩
   have hpx:=path_max hok hso
   have hpy:=push_yld (l2:=H4.next) (q2:=H3.next) (cs3:=ce) (L2:=L2) (mv:=u) (R:=rest.reverse) (X:=x.moves s) hY hI2 w2 hp2 p3 p5 h35 (by omega) (by omega) (by omega) hok hso rfl L1 L2' L3 L4 L5 L6 E1 E3 E5 (by omega) hMl (by omega)
   refine (show AFn _ _ [.func (.yield H4.next) #[] #[],.pointer (some ⟨H3.next,0,none⟩)] _ _ from (back_spec (X:=x.moves s) (v:=u) (Inv:=PuI n0 r3 r5 H4.next H3.next p H2 x s ce L2 u rest.reverse (x.moves s)) (fun j Hj h => ⟨h.2.2.2.2.1,(let ⟨_,_,_,_,_,_,_,_,_,_,hm,_⟩:=h; hm.any)⟩) hpy start (by omega)).mono' fun _ H6 w6 h => ?_)
   obtain ⟨q1,q2,q3,q4,q5,ov6,S6,D6,q6,q7,q8,q9,q10,q11⟩:=h
   unfold rangeK
   rw [q4]
   simp only [L1,L2']
   refine ⟨by simp,?_⟩
   have hl2n:=w6.lt q4
   generalize hH7 : AH.set H6 _ _ = H7
   have w7 : WF H7:=by rw [← hH7]; exact w6.set hl2n
   have n7 : H7.next = H6.next:=by rw [← hH7]; rfl
   have far7 : ∀ z,z ≠ H4.next → H7.blk z = H6.blk z:=fun z hz => by rw [← hH7,AH.set_blk_ne hz]
   have hfin : ∃ p7,AlS n0 r3 r5 p7 (stkN x (k + 1)).reverse H7 ∧ Inv p7 (k + 1) H7:=by
    refine ⟨fun z => p z ∨ H2.next ≤ z ∧ z < H7.next,⟨fun z hz => ?_,.inl p3,.inl p5,h35,⟨ce,by rw [far7 r3 (by omega)]; exact q3,hle⟩,ov6,S6,D6,by rw [far7 r5 (by omega)]; exact q6,?_,fun z hz => ?_,fun z hz => ?_⟩,?_⟩
    ·rcases hz with hz | hz
     ·have:=hp2 z hz; omega
     ·omega
    ·have hs' : (stkN x (k + 1)).reverse = rest.reverse ++ pushed x s (x.moves s) (x.moves s).length:=by
      simp only [stkN,hst,List.reverse_append,pushed,Nat.sub_self,List.drop_zero]
     rw [hs']
     refine q7.up (fun _ h => h) (fun z hz cs hc => ?_) (fun z hz => far7 z (q10 z hz).2.2.2.1) (let ⟨_,_,_,h⟩:=q7; h)
     have:=q11 z hz
     unfold AH.cells at hc ⊢
     rw [far7 z this.2.2.2.2.1]; exact hc
    ·have h1:=q10 z hz
     have h2:=q7.lt w6 z hz
     exact ⟨h1.1.imp id fun h => ⟨h,by omega⟩,h1.2.1,h1.2.2.1⟩
    ·have h1:=q11 z hz
     exact ⟨h1.1.imp id fun h => ⟨h,by omega⟩,h1.2.2.1,h1.2.2.2.1⟩
    ·exact hY.keep p _ (k + 1) H2 H7 hI2 w2 w7 (fun z hz => (hp2 z hz).1) (by omega) (fun z hz hnp => by rw [far7 z (by omega)]; exact q2 z hz hnp) (fun z hz => hz.imp id fun h => h.1)
   clear hH7 far7
   simp (disch:=omega) [-getElem?_pos,if_pos,if_neg,decide_eq_true,decide_eq_false,]
   exact ⟨hkC,by simp [e0],by simp [e1],by simp [e3],by simp [e5],w7,hfin⟩
  ·simp (disch:=omega) [-getElem?_pos,if_pos,if_neg,decide_eq_true,decide_eq_false,]
   exact .inr ⟨rfl,hF⟩
theorem TAll1_spec {H : AH} {l n0 q C : Nat} {x : InstD} {iv cv sv : Value} {Inv : (Nat → Prop) → Nat → AH → Prop} {Fin : AH → Prop} (hok : x.Ok) (hC : C ≤ 100000) (hY : Yst l n0 C q x iv cv sv (atN x) Inv Fin) (hend : ∀ p H,Inv p C H → stkN x C = [])
  (hn0 : n0 = H.next) (h : Inv (fun _ => False) 0 H) :
  AFn Tryd.prog F_tree_All_1 [.func (.yield l) #[] #[],.pointer (some ⟨q,0,none⟩)] H fun _ H' => (∃ p k,k ≤ C ∧ stkN x k = [] ∧ Inv p k H') ∨ Fin H':=by
 refine AFn.enter mixed ir_tree_All_1_eq (by simp [ir_tree_All_1]) fun hw => ?_
 obtain ⟨g0,hg,hcq,hix⟩:=hY.base _ 0 H h
 have hc0:=InstD.check_ok.2 hok
 simp (disch:=omega) [-getElem?_pos,if_pos,if_neg,decide_eq_true,decide_eq_false,ir_tree_All_1,hcq,inst_cut]
 refine (Start_spec hix).mono' fun u H1 w1 ⟨tv,hu,ht,k1⟩ => ?_
 subst hu
 rw [if_pos hc0] at ht
 rw [hc0]
 obtain ⟨pt,ut,rfl,t1,t2⟩:=id ht
 have htc:=t1.cell
 have htu:=SetB_cell t2
 have n1:=k1.next
 generalize hst : x.start = t at *
 simp (disch:=omega) [-getElem?_pos,if_pos,if_neg,decide_eq_true,decide_eq_false,htc.1,htc.2,htu.1,htu.2,writeA,over,cut6']
 generalize hH2 : AH.set (AH.alloc (AH.alloc (AH.alloc H1 _) _) _) _ _ = H2
 have k2 : Keep [] H1 H2:=by rw [← hH2]; exact .new_set (by omega) (.new_alloc (.new_alloc .alloc))
 have w2 : WF H2:=by rw [← hH2]; exact WF.set w1.alloc.alloc.alloc (by simp)
 have n2 : H2.next = H1.next + 3:=by rw [← hH2]; simp
 have b3 : H2.blk H1.next = some (.row (stC t pt ut) T_state_State true):=by
  rw [← hH2,AH.set_blk_ne (by omega),AH.alloc_blk_ne (by simp; omega),AH.alloc_blk_ne (by simp),AH.alloc_blk_new]; rfl
 have b4 : H2.blk (H1.next + 1) = some (.row (stC t pt ut) T_state_State true):=by
  rw [← hH2,AH.set_blk_ne (by omega),AH.alloc_blk_ne (by simp)]
  exact AH.alloc_blk_new
 have b5 : H2.blk (H1.next + 2) = some (.row [.slice (some ⟨H1.next + 1,0,none⟩) 1 1] T_Lstate_State true):=by rw [← hH2]; exact AH.set_blk_same
 clear hH2
 have k02:=k1.trans' k2
 have hR : Ren.R (fun z => n0 ≤ z ∧ z < H1.next) H2 (stC t pt ut) t:=by
  have:=ht.up (q:=fun z => n0 ≤ z ∧ z < H1.next) (fun z hz => by omega) (.kept w1 k2)
  obtain ⟨pt',ut',he,g1,g2⟩:=this
  simp at he
  obtain ⟨rfl,rfl⟩:=he
  exact ⟨_,_,rfl,g1,g2⟩
 have hO : OwnL (fun z => n0 ≤ z ∧ z < H1.next) H2 T_state_State (.slice (some ⟨H1.next + 1,0,none⟩) 1 1) [t] [H1.next + 1] :=
  ⟨stC t pt ut,.inr ⟨H1.next + 1,0,none,1,stC t pt ut,rfl,rfl,b4,by simp [stC],Nat.le_refl _,by simp [stC],.inl rfl⟩,fun i hi => by
   obtain rfl : i = 0:=by simpa using hi
   exact hR,fun z hz => by simp at hz; subst hz; omega⟩
 refine wpC_use (tall_l0 (r3:=H1.next) (r5:=H1.next + 2) (q:=q) (l:=l) (n0:=n0) hok hC hY hend ⟨by simp,by simp,by simp,by simp,w2,fun z => n0 ≤ z ∧ z < H2.next,⟨fun z hz => hz,⟨by omega,by omega⟩,⟨by omega,by omega⟩,by omega,⟨_,b3,rfl⟩,_,[H1.next + 1],fun z => n0 ≤ z ∧ z < H1.next,b5,?_,fun z hz => ?_,fun z hz => ?_⟩,?_⟩) ?_
 ·simp only [stkN,hst,List.reverse_cons,List.reverse_nil,List.nil_append]
  exact hO
 ·simp at hz; subst hz; exact ⟨⟨by omega,by omega⟩,by omega,by omega⟩
 ·exact ⟨⟨hz.1,by omega⟩,by omega,by omega⟩
 ·exact hY.keep _ _ 0 H H2 h hw w2 (fun z hz => hz.elim) k02.next (fun z hz _ => k02.blk z hz (by simp)) (fun z hz => .inr (by omega))
 rintro e env2 H3 (⟨rfl,hr⟩ | ⟨rfl,hF⟩) hu
 ·simp (disch:=omega) [-getElem?_pos,if_pos,if_neg,decide_eq_true,decide_eq_false,]
  exact .inl hr
 ·simp (disch:=omega) [-getElem?_pos,if_pos,if_neg,decide_eq_true,decide_eq_false,]
  exact .inr hF
end Go.Proofs.YtlcddhgfkkjhkaaDoor
