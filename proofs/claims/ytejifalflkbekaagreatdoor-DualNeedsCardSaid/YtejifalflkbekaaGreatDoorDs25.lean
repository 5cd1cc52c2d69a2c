/-
  DualNeeds.
-/
import Derived.Test.YtejifalflkbekaaGreatDoorDs24
import Derived.Test.YtejifalflkbekaaGreatDoorWak18
set_option maxRecDepth 100000
set_option linter.unusedSimpArgs false
set_option linter.unusedVariables false
namespace Go.Proofs.YtejifalflkbekaaGreatDoor
open Go Go.Abs Go.Proofs.YtejifalflkbekaaGreatDoor.Bs
theorem take12 {p : Nat → Prop} {H : AH} {v : Value} {L : List SetD} (h : SlV p H v L) : ∃ m w,(if (12 : Int) < (L.length : Int) then (12 : Int) else (L.length : Int)) = ((m : Nat) : Int) ∧ m ≤ 12 ∧ m ≤ L.length ∧ slA H 2 (some v) (some (.int .i64 (m : Nat))) = some (w,H) ∧ SlV p H w (L.take m) ∧ (L.take m).length = m:=by
 obtain ⟨m,hm⟩ : ∃ m : Nat,m = min L.length 12:=⟨_,rfl⟩
 obtain ⟨w,hsl,hW⟩:=h.sl (m:=m) (by omega)
 exact ⟨m,w,by split <;> omega,by omega,by omega,hsl,hW,by rw [List.length_take]; omega⟩
def DnI (H1 : AH) (v w : Value) (n : Nat) (k : Nat) (env : Env) (H' : AH) : Prop :=
 env 12 = some v ∧ env 13 = some w ∧ env 61 = some (.int .i64 n) ∧ env 62 = some (.int .i64 k) ∧ H' = H1
def DnQ (H1 : AH) (e : AExit) (env : Env) (H' : AH) : Prop:=e = .exit 4 ∧ H' = H1
theorem dualNeeds_l0 {p q : Nat → Prop} {H1 : AH} {v w : Value} {A : List Int} (hA : SlV p H1 v A) (hB : SlV q H1 w A) {env : Env} (h : DnI H1 v w A.length 0 env H1) : wpC Tryz.prog 78 (.loop ir_law18_DualNeeds_l0) (DnQ H1) env H1:=by
 refine loop_upto A.length (DnI H1 v w A.length) (Q:=DnQ H1) h ?_
 rintro k env H' hk ⟨e0,e1,e12,e13,rfl⟩
 by_cases hkn : k < A.length
 ·obtain ⟨b0,off,sp,cap,cs,hcv,q1,q2⟩:=ints_rd hA (by omega)
  obtain ⟨q3,_⟩:=q2 k hkn
  obtain ⟨b1,off1,sp1,cap1,cs1,hcv1,p1,p2⟩:=ints_rd hB (by omega)
  obtain ⟨p3,_⟩:=p2 k hkn
  subst hcv hcv1
  generalize A[k] = x at *
  have hmx:=hA.max
  have hws : IntKind.i64.wrap ((k : Int) + 1) = (k : Int) + 1:=IntWalk.i64_in _ (by omega)
  simp (disch:=omega) [-getElem?_pos,if_pos,if_neg,decide_eq_true,decide_eq_false,ir_law18_DualNeeds_l0,e0,e1,e12,e13,hkn,q1,q3,p1,p3,hws]
  exact ⟨by simp [e0],by simp [e1],by simp [e12],by simp,rfl⟩
 ·obtain rfl : k = A.length:=by omega
  simp (disch:=omega) [-getElem?_pos,if_pos,if_neg,decide_eq_true,decide_eq_false,ir_law18_DualNeeds_l0,e12,e13]
  exact ⟨rfl,rfl⟩
def DtI (H1 : AH) (r : Nat) (av bv tv : Value) (k : Nat) (env : Env) (H' : AH) : Prop :=
 env 5 = some (.pointer (some ⟨r,0,none⟩)) ∧ env 6 = some tv ∧ env 9 = some av ∧ env 10 = some bv ∧ env 38 = some (.int .i64 k) ∧ WF H' ∧ Keep [] H1 H'
def DtQ (H1 : AH) (e : AExit) (env : Env) (H' : AH) : Prop:=e = .exit 2 ∧ WF H' ∧ Keep [] H1 H'
theorem dualNeeds_l1 {H1 : AH} {r : Nat} {sl av bv tv : Value} {L : List SetD} {T : List Bool} (hw : WF H1) (hr : H1.cells r = some [.int .i64 T.length,sl]) (hs : SetB (fun b => b < H1.next) H1 (.agg #[.int .i64 T.length,sl]) T) (hT : SlV (fun b => b < H1.next) H1 tv T) (hA : SlV (fun b => b < H1.next) H1 av L) (hB : SlV (fun b => b < H1.next) H1 bv L) (hn : T.length ≤ 12) (hl : L.length ≤ 30) (hel : ∀ s ∈ L,s.elems.length ≤ 30) {env : Env} (h : DtI H1 r av bv tv 0 env H1) :
  wpC Tryz.prog 78 (.loop ir_law18_DualNeeds_l1) (DtQ H1) env H1:=by
 refine loop_upto 2 (DtI H1 r av bv tv) (Q:=DtQ H1) h ?_
 rintro k env H' hk ⟨e5,e6,e9,e10,e38,w',k'⟩
 have n':=k'.next
 by_cases hkn : k < 2
 ·have up : ∀ {v : Value} {α : Type} [Ren α] {l : List α} {Ha Hb : AH},SlV (fun b => b < Ha.next) Ha v l → WF Ha → Keep [] Ha Hb → SlV (fun b => b < Hb.next) Hb v l:=fun h hw k => (h.kept hw k).mono fun b hb => by have:=k.next; omega
  have ups : ∀ {Ha Hb : AH} {v : Value},SetB (fun b => b < Ha.next) Ha v T → WF Ha → Keep [] Ha Hb → SetB (fun b => b < Hb.next) Hb v T:=fun h hw k => h.up2 (fun b hb => by have:=k.next; omega) (.kept hw k)
  have hr':=cells_kept hw k' hr
  have hk2 : (k : Int) < 2:=by omega
  have hcA:=hA.cell
  have hcB:=hB.cell
  have hcT:=hT.cell
  simp (disch:=omega) [-getElem?_pos,if_pos,if_neg,decide_eq_true,decide_eq_false,ir_law18_DualNeeds_l1,e5,e6,e9,e10,e38,hkn,hk2,hr',cut2v,hcA.1,hcA.2]
  refine (Essential_spec (ups hs hw k') (up hA hw k') hn hl hel).mono' fun p H2 w2 ⟨hP,k2⟩ => ?_
  have k12:=k'.trans' k2
  have hcP:=hP.cell
  simp (disch:=omega) [-getElem?_pos,if_pos,if_neg,decide_eq_true,decide_eq_false,e6,e10,hcP.1,hcP.2,hcB.1,hcB.2,hcT.1,hcT.2]
  refine (EssR_spec (hT.kept hw k12) (hB.kept hw k12) hn hl hel).mono' fun q H3 w3 ⟨hQ,k3⟩ => ?_
  have k13:=k12.trans' k3
  have hcQ:=hQ.cell
  have hP3:=hP.kept w2 k3
  have hcases : k = 0 ∨ k = 1:=by omega
  rcases hcases with rfl | rfl
  ·generalize esA L T = A at *
   obtain ⟨pa,pc,rfl⟩:=hP.slice
   obtain ⟨qa,qc,rfl⟩:=hQ.slice
   simp (disch:=omega) [-getElem?_pos,if_pos,if_neg,decide_eq_true,decide_eq_false,e38,hcP.1,hcP.2,hcQ.1,hcQ.2]
   refine wpC_use (dualNeeds_l0 hP3 hQ ?_) ?_
   ·exact ⟨by simp,by simp,by simp,by simp,rfl⟩
   rintro x env2 H5 ⟨rfl,rfl⟩ hu
   have u5:=hu 5 (by decide)
   have u6:=hu 6 (by decide)
   have u9:=hu 9 (by decide)
   have u10:=hu 10 (by decide)
   have u38:=hu 38 (by decide)
   simp [e5,e6,e9,e10,e38] at u5 u6 u9 u10 u38
   simp (disch:=omega) [-getElem?_pos,if_pos,if_neg,decide_eq_true,decide_eq_false,u38,hkn,IntWalk.i64_in]
   exact ⟨by simp [u5],by simp [u6],by simp [u9],by simp [u10],by simp,w3,k13⟩
  ·have hr3:=cells_kept hw k13 hr
   simp (disch:=omega) [-getElem?_pos,if_pos,if_neg,decide_eq_true,decide_eq_false,e5,e6,e9,e10,e38,hr3,cut2v,hcA.1,hcA.2,hcQ.1,hcQ.2]
   refine (Needless_spec (ups hs hw k13) (up hA hw k13) hn hl hel).mono' fun p2 H4 w4 ⟨hP2,k4⟩ => ?_
   have k14:=k13.trans' k4
   have hcP2:=hP2.cell
   simp (disch:=omega) [-getElem?_pos,if_pos,if_neg,decide_eq_true,decide_eq_false,e6,e10,hcP2.1,hcP2.2,hcB.1,hcB.2,hcT.1,hcT.2]
   refine (NeedR_spec (hT.kept hw k14) (hB.kept hw k14) hn hl hel).mono' fun q2 H5 w5 ⟨hQ2,k5⟩ => ?_
   have k15:=k14.trans' k5
   have hcQ2:=hQ2.cell
   have hP5:=hP2.kept w4 k5
   clear hP3 hP hQ hcP hcQ
   generalize ndA L T = A at *
   obtain ⟨pa,pc,rfl⟩:=hP2.slice
   obtain ⟨qa,qc,rfl⟩:=hQ2.slice
   simp (disch:=omega) [-getElem?_pos,if_pos,if_neg,decide_eq_true,decide_eq_false,e38,hcP2.1,hcP2.2,hcQ2.1,hcQ2.2]
   refine wpC_use (dualNeeds_l0 hP5 hQ2 ?_) ?_
   ·exact ⟨by simp,by simp,by simp,by simp,rfl⟩
   rintro x env2 H6 ⟨rfl,rfl⟩ hu
   have u5:=hu 5 (by decide)
   have u6:=hu 6 (by decide)
   have u9:=hu 9 (by decide)
   have u10:=hu 10 (by decide)
   have u38:=hu 38 (by decide)
   simp [e5,e6,e9,e10,e38] at u5 u6 u9 u10 u38
   simp (disch:=omega) [-getElem?_pos,if_pos,if_neg,decide_eq_true,decide_eq_false,u38,hkn,IntWalk.i64_in]
   exact ⟨by simp [u5],by simp [u6],by simp [u9],by simp [u10],by simp,w5,k15⟩
 ·obtain rfl : k = 2:=by omega
  simp (disch:=omega) [-getElem?_pos,if_pos,if_neg,decide_eq_true,decide_eq_false,ir_law18_DualNeeds_l1,e38]
  exact ⟨rfl,w',k'⟩
def DvI (H1 : AH) (r q : Nat) (lv tv : Value) (k : Nat) (env : Env) (H' : AH) : Prop :=
 env 1 = some lv ∧ env 5 = some (.pointer (some ⟨r,0,none⟩)) ∧ env 6 = some tv ∧ env 22 = some (.slice (some ⟨q,0,none⟩) 2 2) ∧ env 23 = some (.int .i64 2) ∧ env 24 = some (.int .i64 k) ∧ WF H' ∧ Keep [] H1 H'
def DvQ (H1 : AH) (e : AExit) (env : Env) (H' : AH) : Prop:=e = .exit 0 ∧ WF H' ∧ Keep [] H1 H'
theorem dualNeeds_l2 {H1 : AH} {r q : Nat} {lv sl tv : Value} {L : List SetD} {T : List Bool} (hw : WF H1) (hr : H1.cells r = some [.int .i64 T.length,sl]) (hq : H1.cells q = some [.int .i64 (-1),.int .i64 T.length]) (hs : SetB (fun b => b < H1.next) H1 (.agg #[.int .i64 T.length,sl]) T) (hT : SlV (fun b => b < H1.next) H1 tv T) (hL : SlV (fun b => b < H1.next) H1 lv L) (hn : T.length ≤ 12) {env : Env} (h : DvI H1 r q lv tv 0 env H1) :
  wpC Tryz.prog 78 (.loop ir_law18_DualNeeds_l2) (DvQ H1) env H1:=by
 refine loop_upto 2 (DvI H1 r q lv tv) (Q:=DvQ H1) h ?_
 rintro k env H' hk ⟨e1,e5,e6,e22,e23,e24,w',k'⟩
 have n':=k'.next
 by_cases hkn : k < 2
 ·have up : ∀ {v : Value} {α : Type} [Ren α] {l : List α} {Ha Hb : AH},SlV (fun b => b < Ha.next) Ha v l → WF Ha → Keep [] Ha Hb → SlV (fun b => b < Hb.next) Hb v l:=fun h hw k => (h.kept hw k).mono fun b hb => by have:=k.next; omega
  have ups : ∀ {Ha Hb : AH} {v : Value},SetB (fun b => b < Ha.next) Ha v T → WF Ha → Keep [] Ha Hb → SetB (fun b => b < Hb.next) Hb v T:=fun h hw k => h.up2 (fun b hb => by have:=k.next; omega) (.kept hw k)
  have hq':=cells_kept hw k' hq
  obtain ⟨sz,hsz,hsz2,hrd⟩ : ∃ sz : Int,(sz = -1 ∨ ∃ m : Nat,sz = m ∧ m ≤ 12) ∧ I64 sz ∧ [Value.int .i64 (-1),.int .i64 (T.length : Int)][k]? = some (.int .i64 sz):=by
   have : k = 0 ∨ k = 1:=by omega
   rcases this with rfl | rfl
   ·exact ⟨-1,.inl rfl,by unfold I64; omega,rfl⟩
   ·exact ⟨T.length,.inr ⟨_,rfl,hn⟩,by unfold I64; omega,rfl⟩
  have hk2 : (k : Int) < 2:=by omega
  obtain ⟨m,zv,hmm,hm12,hmL,hsl,hZ,hZl⟩:=take12 (up hL hw k')
  have hcZ:=hZ.cell
  obtain ⟨la,lc,hlv⟩:=hL.slice
  subst hlv
  simp (disch:=omega) [-getElem?_pos,if_pos,if_neg,decide_eq_true,decide_eq_false,ir_law18_DualNeeds_l2,e1,e5,e6,e22,e23,e24,hkn,hk2,hq',hrd,↓ieval_slhi,hmm,hsl]
  refine (sets_spec hZ hsz).mono' fun u H2 w2 ⟨a,b,M,hu,hA,hB,hMl,hMo,k2⟩ => ?_
  subst hu
  have hcA:=hA.cell
  have hcB:=hB.cell
  have k12:=k'.trans' k2
  have r2:=cells_kept hw k12 hr
  simp (disch:=omega) [-getElem?_pos,if_pos,if_neg,decide_eq_true,decide_eq_false,hcA.1,hcA.2,hcB.1,hcB.2]
  refine wpC_use (dualNeeds_l1 (H1:=H2) (r:=r) (av:=a) (bv:=b) (tv:=tv) (L:=M) (T:=T) w2 r2 (ups hs hw k12) (up hT hw k12) (hA.mono fun b hb => hb.2) (hB.mono fun b hb => hb.2) hn (by omega) (fun s hs => (hMo s hs).1) ?_) ?_
  ·exact ⟨by simp [e5],by simp [e6],by simp,by simp,by simp,w2,.refl⟩
  rintro x env2 H3 ⟨rfl,w3,k3⟩ hu
  have u1:=hu 1 (by decide)
  have u5:=hu 5 (by decide)
  have u6:=hu 6 (by decide)
  have u22:=hu 22 (by decide)
  have u23:=hu 23 (by decide)
  have u24:=hu 24 (by decide)
  simp [e1,e5,e6,e22,e23,e24] at u1 u5 u6 u22 u23 u24
  simp (disch:=omega) [-getElem?_pos,if_pos,if_neg,decide_eq_true,decide_eq_false,u24,hkn,IntWalk.i64_in]
  exact ⟨by simp [u1],by simp [u5],by simp [u6],by simp [u22],by simp [u23],by simp,w3,k12.trans' k3⟩
 ·obtain rfl : k = 2:=by omega
  simp (disch:=omega) [-getElem?_pos,if_pos,if_neg,decide_eq_true,decide_eq_false,ir_law18_DualNeeds_l2,e23,e24]
  exact ⟨rfl,w',k'⟩
theorem DualNeeds_abs {H : AH} {tv lv : Value} {L : List SetD} {T : List Bool} (hg : GroundA G H) (hT : SlV (fun b => b < H.next) H tv T) (hL : SlV (fun b => b < H.next) H lv L) : AFn Tryz.prog F_law18_DualNeeds [tv,lv] H fun u H' => u = .bool true ∧ H' = H:=by
 refine AFn.calm (fun H0 hs => ?_) rfl
 have hn0 : H0.next = H.next:=hs.1
 have hL0:=(hL.same hs).mono (q:=fun b => b < H0.next) fun b hb => by omega
 have hT0:=(hT.same hs).mono (q:=fun b => b < H0.next) fun b hb => by omega
 have hg0:=hg.same hs
 clear hL hT
 refine AFn.enter mixed ir_law18_DualNeeds_eq (by simp [ir_law18_DualNeeds]) fun hw => ?_
 have hcT:=hT0.cell
 have hcL:=hL0.cell
 simp (disch:=omega) [-getElem?_pos,if_pos,if_neg,decide_eq_true,decide_eq_false,ir_law18_DualNeeds,hcT.1,hcT.2,hcL.1,hcL.2]
 refine (lacks_spec hT0).mono' fun u H1 w1 ⟨sv,w,hu,hS,hW,k1⟩ => ?_
 subst hu
 have n1:=k1.next
 have hlen : (T.take 12).length ≤ 12:=by rw [List.length_take]; omega
 generalize T.take 12 = B at *
 obtain ⟨sl,rfl⟩:=setV hS
 obtain ⟨wa,wc,rfl⟩:=hW.slice
 simp (disch:=omega) [-getElem?_pos,if_pos,if_neg,decide_eq_true,decide_eq_false,writeA,over,hS.one.1,hS.one.2]
 generalize hH2 : AH.alloc (AH.alloc H1 _) _ = H2
 have k2 : Keep [] H1 H2:=by rw [← hH2]; exact .trans' .alloc .alloc
 have w2 : WF H2:=by rw [← hH2]; exact (w1.alloc).alloc
 have n2 : H2.next = H1.next + 2:=by rw [← hH2]; rfl
 have r2 : H2.cells H1.next = some [.int .i64 B.length,sl]:=by rw [← hH2,AH.cells_alloc_ne (by simp)]; exact AH.cells_alloc_new
 have q2 : H2.cells (H1.next + 1) = some [.int .i64 (-1),.int .i64 B.length]:=by rw [← hH2]; exact AH.cells_alloc_new
 have k12:=k1.trans' k2
 refine wpC_use (dualNeeds_l2 (H1:=H2) (r:=H1.next) (q:=H1.next + 1) (sl:=sl) (T:=B) (L:=L) w2 r2 q2 (hS.up2 (fun b hb => by have:=hb.2; omega) (.kept w1 k2)) ((hW.kept w1 k2).mono fun b hb => by omega) ((hL0.kept hw k12).mono fun b hb => by omega) hlen ⟨by simp,by simp,by simp,by simp,by simp,by simp,w2,.refl⟩) ?_
 rintro e env2 H3 ⟨rfl,w3,k3⟩ _
 simp (disch:=omega) [-getElem?_pos,if_pos,if_neg,decide_eq_true,decide_eq_false,]
 refine AFn.pure (wakes18_spec (hg0.kept hw (k12.trans' k3))) ?_
 simp (disch:=omega) [-getElem?_pos,if_pos,if_neg,decide_eq_true,decide_eq_false,]
end Go.Proofs.YtejifalflkbekaaGreatDoor
