/-
  Layer 15: TreeBest.
-/
import Derived.Test.YtlcddhgfkkjhkaaDoorTP
import Derived.Test.YtlcddhgfkkjhkaaDoorTB
import Derived.Test.YtlcddhgfkkjhkaaDoorTreeSz
import Derived.Test.YtlcddhgfkkjhkaaDoorT15
import Derived.Test.YtlcddhgfkkjhkaaDoorWak15
import Derived.Test.YtlcddhgfkkjhkaaDoorRef09
import Derived.Test.YtlcddhgfkkjhkaaDoorBru
set_option maxRecDepth 100000
set_option linter.unusedSimpArgs false
set_option linter.unusedVariables false
namespace Go.Proofs.YtlcddhgfkkjhkaaDoor
open Go Go.Abs
theorem cen_best {x : InstD} {C : Nat} (hok : x.Ok) (hE : x.countE = 0) (hC : x.count = (C : Int)) :
  (cenK x (allS x).length).found = (Br.bestK x C).isSome ∧ (cenK x (allS x).length).cost = Br.bC (Br.bestK x C):=by
 have hc0:=InstD.check_ok.2 hok
 rcases cen_all (x:=x) with ⟨h1,h2,h3⟩ | ⟨h1,⟨t,ht,htd,htc⟩,h3⟩
 ·cases hb : Br.bestK x C with
  | none => exact ⟨h1,h2⟩
  | some p =>
   obtain ⟨Y,c⟩:=p
   have hv:=(Br.best_is hb).1
   obtain ⟨s,hs,hsd,_⟩:=leaf_may hok (Br.value_may hv).2
   rw [h3 s hs] at hsd; cases hsd
 ·obtain ⟨hm,hmc⟩:=may_leaf hok ht htd
  have hv : x.valueE (x.answer t) = 0:=by unfold InstD.valueE; rw [if_pos hc0,if_pos hm]
  obtain ⟨g1,g2⟩:=Br.best_all hE hC hv
  refine ⟨by rw [h1,g1],?_⟩
  cases hb : Br.bestK x C with
  | none => rw [hb] at g1; cases g1
  | some p =>
   obtain ⟨Y,c⟩:=p
   obtain ⟨hvY,hcY⟩:=Br.best_is hb
   obtain ⟨s,hs,hsd,hsc⟩:=leaf_may hok (Br.value_may hvY).2
   have h4:=h3 s hs hsd
   rw [hb] at g2
   have h5 : Br.bC (some (Y,c)) = c:=rfl
   rw [h5] at g2 ⊢
   omega
theorem tame_count {m : Nat} {y : InstD} (hm : m ≤ 8) (h : LAW15.Tame m y) : y.countE = 0 ∧ ∃ C : Nat,y.count = C ∧ 1 ≤ C ∧ C ≤ 1048576:=by
 have hc:=InstD.check_ok.2 h.ok
 have hr:=InstD.n_range h.ok
 have hn : y.n.toNat ≤ 8:=by
  have h1:=h.items
  have h2:=h.cost
  have h3:=h.sets
  unfold InstD.n
  rw [if_pos hc]
  repeat' split
  all_goals omega
 have hp : ∀ N : Fin 9,Br.prodI (fun _ => 2) N.1 ≤ 1048576 ∧ Br.prodI (fun k => (k : Int) + 1) N.1 ≤ 1048576:=by decide
 have hm1 : y.many ≤ 1048576:=by
  unfold InstD.many
  by_cases hs : y.kind = 0 ∨ y.kind = 3
  ·simp only [hs,if_true]; exact (hp ⟨y.n.toNat,by omega⟩).1
  ·simp only [hs,if_false]; exact (hp ⟨y.n.toNat,by omega⟩).2
 have hm2 : 1 ≤ y.many:=Br.prodI_ge _ (fun k => by split <;> omega) _
 unfold InstD.countE InstD.count
 rw [if_pos hc,if_pos hc,if_neg (by omega),if_neg (by omega)]
 exact ⟨rfl,y.many.toNat,by omega,by omega,by omega⟩
theorem szT_fits {y : InstD} (h : LAW15.Tame 7 y) : szV y.kind y.n = .tuple #[.int .i64 (szT y.kind y.n.toNat),.bool true] ∧ szT y.kind y.n.toNat ≤ 20000 ∧ 0 ≤ y.n ∧ y.n ≤ 7:=by
 have hc:=InstD.check_ok.2 h.ok
 have hr:=InstD.n_range h.ok
 have hn : y.n ≤ 7:=by
  have h1:=h.items
  have h2:=h.cost
  have h3:=h.sets
  unfold InstD.n
  rw [if_pos hc]
  repeat' split
  all_goals omega
 have hs : szT y.kind y.n.toNat ≤ 20000:=by
  have hp : ∀ N : Fin 8,smF (fun _ => 2) N.1 ≤ 20000 ∧ smF (fun j => N.1 - j) N.1 ≤ 20000:=by decide
  unfold szT szF
  have:=hp ⟨y.n.toNat,by omega⟩
  split
  ·exact this.1
  ·exact this.2
 refine ⟨?_,hs,hr.1,hn⟩
 unfold szV
 rw [if_pos ⟨hr.1,h.ok.kind0,by have:=h.ok.kind4; omega⟩]
 obtain ⟨z1,z2⟩:=(szR (szT y.kind y.n.toNat)).1 (by omega)
 rw [z1,z2]
theorem TreeBest_abs {H : AH} {v : Value} {x : InstD} (hg : GroundA G H) (hx : InstV (fun b => b < H.next) H v x) : AFn Tryd.prog F_law15_TreeBest [v] H fun u H' => u = .bool true ∧ H' = H:=by
 refine AFn.calm (fun H0 hs => ?_) rfl
 have hn0 : H0.next = H.next:=hs.1
 have hg0:=hg.of (H':=H0) hs.2
 have hx0:=(hx.same hs).up (q:=fun b => b < H0.next) (fun b hb => by omega) .refl
 clear hx hg
 obtain ⟨iv,cv,sv,rfl,i1,i2,i3,h1,h2,h3⟩:=id hx0
 refine AFn.enter mixed ir_law15_TreeBest_eq (by simp [ir_law15_TreeBest]) fun hw => ?_
 simp (disch:=omega) [-getElem?_pos,if_pos,if_neg,decide_eq_true,decide_eq_false,ir_law15_TreeBest,cut6']
 generalize hH1 : AH.alloc H0 _ = H1
 have k1 : Keep [] H0 H1:=by rw [← hH1]; exact .alloc
 have w1 : WF H1:=by rw [← hH1]; exact hw.alloc
 have n1 : H1.next = H0.next + 1:=by rw [← hH1]; simp
 clear hH1
 have hx1:=(hx0.kept hw k1).up (q:=fun b => b < H1.next) (fun b hb => by omega) .refl
 refine (show AFn _ _ [_,.int .i64 ((7 : Nat) : Int)] _ _ from (LAW15.tame_spec (m:=7) (by omega) (by omega) hx1)).mono' fun u H7 w7 ⟨y,hy,ht,k7⟩ => ?_
 have n7:=k7.next
 have hy7 : InstV (fun b => b < H7.next) H7 u y:=hy.up (fun b hb => hb.2) .refl
 simp (disch:=omega) [-getElem?_pos,if_pos,if_neg,decide_eq_true,decide_eq_false,]
 refine (LAW15.insts_spec hy7).mono' fun u3 H8 w8 ⟨a,b,hu,ha',hb',k8⟩ => ?_
 rw [LAW15.clip_tame (by omega) ht] at ha' hb'
 subst hu
 have n8:=k8.next
 obtain ⟨ia',ca',sa',rfl,_⟩:=id ha'
 obtain ⟨ib',cb',sb',rfl,_⟩:=id hb'
 have hok:=ht.ok
 have hc0:=InstD.check_ok.2 hok
 obtain ⟨hTl,hdm⟩:=all_small hok (m:=7) (by omega) ht.items ht.cost ht.sets
 obtain ⟨hE,C,hC,_,_⟩:=tame_count (by omega) ht
 obtain ⟨hbf,hbc⟩:=cen_best hok hE hC
 obtain ⟨hsz,hs2,hn0',hn7⟩:=szT_fits ht
 have hlen:=all_lenN hok
 obtain ⟨hnod,hld⟩:=cenK_nodes (x:=y) (allS y).length (Nat.le_refl _)
 have hbst : y.best = Br.bestK y C:=by unfold InstD.best; rw [hC]; rfl
 simp (disch:=omega) [-getElem?_pos,if_pos,if_neg,decide_eq_true,decide_eq_false,writeA,over,cut6']
 generalize hH9 : AH.set (AH.set _ _ _) _ _ = H9
 have k9 : Keep [] H8 H9:=by rw [← hH9]; exact .new_set (by omega) (.new_set (by omega) (.new_alloc .alloc))
 have w9 : WF H9:=by rw [← hH9]; refine WF.set (WF.set (WF.alloc (WF.alloc w8)) ?_) ?_ <;> simp <;> omega
 have e3 : H9.cells H8.next = some [.int .i64 y.kind,.int .i64 y.cap,ia',ca',.int .i64 y.size,sa']:=by rw [← hH9]; simp
 have e4 : H9.cells (H8.next + 1) = some [.int .i64 y.kind,.int .i64 y.cap,ib',cb',.int .i64 y.size,sb']:=by rw [← hH9]; simp
 have n9 : H9.next = H8.next + 2:=by rw [← hH9]; simp
 clear hH9
 have k09:=k1.trans' (k7.trans' (k8.trans' k9))
 have ha9:=ha'.up (q:=fun b => b < H9.next) (fun b hb => by have:=hb.2; omega) (.kept w8 k9)
 have hb9:=hb'.up (q:=fun b => b < H9.next) (fun b hb => by have:=hb.2; omega) (.kept w8 k9)
 refine (Walk_spec (hg0.kept hw k09) ha9 hok ⟨by omega,by omega⟩).mono' fun u1 H10 w10 ⟨k10,hu1⟩ => ?_
 subst hu1
 have n10:=k10.next
 generalize cenK y (allS y).length = cc at *
 unfold cenC
 have e310:=cells_kept w9 k10 e3
 simp (disch:=omega) [-getElem?_pos,if_pos,if_neg,decide_eq_true,decide_eq_false,writeA,over,e310,cut6']
 generalize hH11 : AH.alloc H10 _ = H11
 have k11 : Keep [] H10 H11:=by rw [← hH11]; exact .alloc
 have w11 : WF H11:=by rw [← hH11]; exact w10.alloc
 have c5 : H11.cells H10.next = some [.int .i64 cc.nodes,.int .i64 cc.leaves,.int .i64 cc.dead,.int .i64 cc.cost,.bool cc.found]:=by rw [← hH11]; simp
 have n11 : H11.next = H10.next + 1:=by rw [← hH11]; simp
 clear hH11
 have k911:=k10.trans' k11
 have ha11:=(ha9.kept w9 k911).up (q:=fun b => b < H11.next) (fun b hb => by omega) .refl
 refine (Br.Best_spec ha11 hE hC).mono' fun u2 H12 w12 ⟨bw,hu2,hB,k12⟩ => ?_
 subst hu2
 rw [hbst,← hbc,← hbf]
 have k912:=k911.trans' k12
 have n12:=k12.next
 have hB':=hB.cell
 have e312:=cells_kept w9 k912 e3
 have e412:=cells_kept w9 k912 e4
 have c512:=cells_kept w11 k12 c5
 have ha12:=ha9.kept w9 k912
 have hb12:=hb9.kept w9 k912
 simp (disch:=omega) [-getElem?_pos,if_pos,if_neg,decide_eq_true,decide_eq_false,e312,cut6',hB']
 refine AFnD.of (N_spec ha12) ?_
 simp (disch:=omega) [-getElem?_pos,if_pos,if_neg,decide_eq_true,decide_eq_false,]
 refine AFnD.of (TSize_spec (by unfold I64; omega)) ?_
 rw [hsz]
 simp (disch:=omega) [-getElem?_pos,if_pos,if_neg,decide_eq_true,decide_eq_false,]
 refine AFnD.of (wakes15_spec (hg0.kept hw (k09.trans' k912))) ?_
 have hl1 : cc.nodes ≤ szT y.kind y.n.toNat:=by omega
 generalize szT y.kind y.n.toNat = sz at *
 have hwl : IntKind.i64.wrap ((cc.leaves : Int) + cc.dead) = (cc.leaves : Int) + cc.dead:=IntWalk.i64_in _ (by omega)
 simp (disch:=omega) [-getElem?_pos,if_pos,if_neg,decide_eq_true,decide_eq_false,c512,e312,e412,cut6',hwl]
 refine AFnD.of (N9_spec hb12) ?_
 simp (disch:=omega) [-getElem?_pos,if_pos,if_neg,decide_eq_true,decide_eq_false,]
 refine AFnD.of (N_spec ha12) ?_
 simp (disch:=omega) [-getElem?_pos,if_pos,if_neg,decide_eq_true,decide_eq_false,]
end Go.Proofs.YtlcddhgfkkjhkaaDoor
