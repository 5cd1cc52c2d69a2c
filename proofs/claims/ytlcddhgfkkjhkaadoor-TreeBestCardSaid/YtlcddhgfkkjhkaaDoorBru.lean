/-
  package brute: Count, All, Best (seat D.D).
-/
import Derived.Test.YtlcddhgfkkjhkaaDoorInst
import Derived.Test.YtlcddhgfkkjhkaaDoorIrE
import Derived.Test.YtlcddhgfkkjhkaaDoorAO
import Derived.Test.YtlcddhgfkkjhkaaDoorEv
set_option maxRecDepth 100000
set_option linter.unusedSimpArgs false
set_option linter.unusedVariables false
namespace Go.Abs
def fac : Nat → Nat
 | 0 => 1
 | n + 1 => (n + 1) * fac n
theorem fac_pos : ∀ n,0 < fac n
 | 0 => by decide
 | n + 1 => Nat.mul_pos (Nat.succ_pos n) (fac_pos n)
def orderL : Nat → List Int → Nat → List Int
 | 0,_,_ => []
 | f + 1,left,k => match left with
  | [] => []
  | a :: l => (a :: l).getD (k / fac l.length) 0 :: orderL f ((a :: l).eraseIdx (k / fac l.length)) (k % fac l.length)
def placeL : List Int → List Int → Option Nat
 | _,[] => some 0
 | left,y :: x => if y ∈ left then (placeL (left.eraseIdx (left.idxOf y)) x).map (left.idxOf y * fac (left.length - 1) + ·) else none
theorem order_len : ∀ (f : Nat) {left : List Int} {k : Nat},left.length = f → k < fac left.length → (orderL f left k).length = f
 | 0,left,k,hf,_ => rfl
 | f + 1,[],k,hf,_ => by simp at hf
 | f + 1,a :: l,k,hf,hk => by
  have hl : l.length = f:=by simpa using hf
  have hp:=fac_pos l.length
  have hq : k / fac l.length < (a :: l).length:=by
   rw [Nat.div_lt_iff_lt_mul hp]; exact hk
  have he : ((a :: l).eraseIdx (k / fac l.length)).length = l.length:=by rw [List.length_eraseIdx_of_lt hq]; simp
  show (orderL f _ _).length + 1 = _
  rw [order_len f (by omega) (by rw [he]; exact Nat.mod_lt _ hp)]
def chosenL : Nat → Nat → Nat → List Int
 | 0,_,_ => []
 | f + 1,k,m => if m = 0 then [] else (if m % 2 = 1 then [(k : Int)] else []) ++ chosenL f (k + 1) (m / 2)
def maskL (n : Int) : Int → List Int → Option Nat
 | _,[] => some 0
 | last,x :: l => if x ≤ last ∨ n ≤ x then none else (maskL n x l).map (2 ^ x.toNat + ·)
end Go.Abs
namespace Go.Abs
open Go
theorem wpC_rangeB {P : Program} {n : Nat} {f : Operand} {ps : List Nat} {a b : ACode} {Q : AExit → Env → AH → Prop} {env : Env} {H : AH} {g : FuncId} {p q : Array Value} (hf : aval env f = some (.func (.func g) p q)) (hgood : goodFunc P g = true)
  (h : AFn P g (p.toList ++ [.func (.yield H.next) #[] #[]] ++ q.toList) (H.alloc (.loop { state:=.ready,pending:=none,env,params:=ps,assign:=a,body:=b,n })) fun _ H' => rangeK H.next Q env H') : wpC P n (.rangeFunc f ps a b) Q env H:=by
 simp only [wpC,hf]
 rw [ACall_clo hgood]
 exact ⟨good_ext hgood,h⟩
theorem ACall_yield_ofB {P : Program} {l : Nat} {vs : List Value} {H : AH} {Q Q' : Value → AH → Prop} (h : AYield P l vs H Q) (hq : ∀ u H',Q u H' → Q' u H') : ACall P (.func (.yield l) #[] #[]) vs H Q' :=
 ⟨rfl,rfl,h.mono hq⟩
theorem loopA_eq {L : LoopA} (h1 : L.state = .ready) (h2 : L.pending = none) : ({ L with state:=.ready,pending:=none } : LoopA) = L:=by
 cases L; simp at h1 h2; subst h1; subst h2; rfl
theorem AH.set_self {H : AH} {b : Nat} {B : Blk} (h : H.blk b = some B) : H.set b B = H:=by
 cases H with
 | mk blk next =>
  simp only [AH.set,AH.mk.injEq,and_true]
  funext i
  by_cases hi : i = b
  ·subst hi; simpa using h.symm
  ·simp [hi]
theorem AH.set_comm {H : AH} {a b : Nat} {A B : Blk} (h : a ≠ b) : (H.set a A).set b B = (H.set b B).set a A:=by
 simp only [AH.set,AH.mk.injEq,and_true]
 funext i
 by_cases hi : i = a
 ·subst hi; simp [h]
 ·simp [hi]
end Go.Abs
namespace Go.Proofs.YtlcddhgfkkjhkaaDoor.Br
open Go Go.Abs
def prodI (f : Nat → Int) : Nat → Int
 | 0 => 1
 | k + 1 => if prodI f k * f k < 1048577 then prodI f k * f k else 1048577
theorem prodI_le (f : Nat → Int) : ∀ k,prodI f k ≤ 1048577
 | 0 => by simp [prodI]
 | k + 1 => by simp only [prodI]; split <;> omega
theorem prodI_ge (f : Nat → Int) (hf : ∀ k,1 ≤ f k) : ∀ k,1 ≤ prodI f k
 | 0 => by simp [prodI]
 | k + 1 => by
  have h1:=prodI_ge f hf k
  have h2:=hf k
  simp only [prodI]
  split
  ·have:=Int.mul_le_mul h1 h2 (by omega) (by omega); omega
  ·omega
def timesAssign : ACode:=.region [⟨some 4,.mv (.tmp 6),none⟩] false
def timesBody : ACode:=.block 1 (.region [⟨some 7,.load1 (.tmp 3),none⟩,⟨some 8,.mv (.tmp 4),none⟩,⟨some 9,.bin .mul (.tmp 7) (.tmp 8),none⟩,⟨some 10,.mn (.tmp 9) (.const (.int .i64 1048577)),none⟩,⟨none,.store1 (.tmp 3) (.tmp 10),none⟩] false)
structure TimesL (L0 : LoopA) (r : Nat) : Prop where
 st : L0.state = .ready
 pe : L0.pending = none
 pa : L0.params = [6]
 asg : L0.assign = timesAssign
 bo : L0.body = timesBody
 n : L0.n = 12
 e3 : L0.env 3 = some (.pointer (some ⟨r,0,none⟩))
theorem times_round {H : AH} {l r : Nat} {L0 : LoopA} (h : TimesL L0 r) (hl : H.blk l = some (.loop L0)) (hlr : l ≠ r) {a k : Int} (hr : H.blk r = some (.row [.int .i64 a] T_int true)) (hak : I64 (a * k)) :
  AYield Tryd.prog l [.int .i64 k] H fun u H' => u = .bool true ∧ H' = H.set r (.row [.int .i64 (if a * k < 1048577 then a * k else 1048577)] T_int true):=by
 have hI : IntKind.i64.wrap (a * k) = a * k:=IntWalk.i64_in _ hak
 refine AYield.intro mixed hl (by rw [h.pa]; rfl) ?_
 rw [h.pa,show wpC Tryd.prog L0.n L0.assign = wpC Tryd.prog 12 timesAssign by rw [h.asg,h.n],show wpC Tryd.prog L0.n = wpC Tryd.prog 12 by rw [h.n]]
 simp (disch:=omega) [-getElem?_pos,if_pos,if_neg,decide_eq_true,decide_eq_false,timesAssign,putAll]
 refine ⟨_,hl,h.st,?_⟩
 rw [show wpC Tryd.prog 12 L0.body = wpC Tryd.prog 12 timesBody by rw [h.bo]]
 have e3:=h.e3
 have hc:=AH.cells_of hr
 have hmn : (if 1048577 < a * k then (1048577 : Int) else a * k) = (if a * k < 1048577 then a * k else 1048577):=by split <;> split <;> omega
 simp (disch:=omega) [-getElem?_pos,if_pos,if_neg,decide_eq_true,decide_eq_false,timesBody,e3,hc,hI,hmn,writeA,hr,over,hlr.symm,AH.set_blk_ne,AH.cells_set_ne]
 refine ⟨_,by rw [AH.set_blk_ne hlr,AH.set_blk_same],?_⟩
 refine ⟨rfl,?_⟩
 rw [AH.set_comm hlr,AH.set_set,loopA_eq h.st h.pe,AH.set_comm hlr.symm,AH.set_self hl]
def TimesW (g : Nat) (q : Nat) (N : Nat) (f : Nat → Int) : Prop:=∀ {H : AH} {l r : Nat} {L0 : LoopA},TimesL L0 r → H.blk l = some (.loop L0) → l ≠ r → H.cells q = some [.int .i64 N] → q ≠ r → H.blk r = some (.row [.int .i64 1] T_int true) →
  AFn Tryd.prog g [.func (.yield l) #[] #[],.pointer (some ⟨q,0,none⟩)] H fun _ H' => H' = H.set r (.row [.int .i64 (prodI f N)] T_int true)
def UpI (H1 : AH) (l r : Nat) (f : Nat → Int) (N : Nat) (tN tk : Nat) (k : Nat) (env : Env) (H' : AH) : Prop :=
 env 0 = some (.func (.yield l) #[] #[]) ∧ env tN = some (.int .i64 N) ∧ env tk = some (.int .i64 k) ∧ H' = H1.set r (.row [.int .i64 (prodI f k)] T_int true)
theorem upTo_walk {q N : Nat} (hN : N ≤ 9223372036) : TimesW F_brute_upTo_1 q N (fun k => (k : Int) + 1):=by
 intro H l r L0 h hl hlr hq hqr hr
 refine AFn.enter mixed ir_brute_upTo_1_eq (by simp [ir_brute_upTo_1]) fun hw => ?_
 simp (disch:=omega) [-getElem?_pos,if_pos,if_neg,decide_eq_true,decide_eq_false,ir_brute_upTo_1,hq]
 refine wpC_use (loop_upto N (UpI H l r (fun k => (k : Int) + 1) N 4 5) (Q:=fun e _ H' => e = .exit 0 ∧ H' = H.set r (.row [.int .i64 (prodI (fun k => (k : Int) + 1) N)] T_int true)) ⟨by simp,by simp,by simp,by rw [show prodI (fun k => (k : Int) + 1) 0 = 1 from rfl,AH.set_self hr]⟩ ?_) ?_
 ·rintro k env H' hk ⟨e0,e4,e5,rfl⟩
  by_cases hkn : k < N
  ·have hp:=prodI_le (fun k => (k : Int) + 1) k
   have hp1:=prodI_ge (fun k => (k : Int) + 1) (fun k => by omega) k
   have hb : I64 (prodI (fun k => (k : Int) + 1) k * ((k : Int) + 1)):=by
    have h1 : prodI (fun k => (k : Int) + 1) k * ((k : Int) + 1) ≤ 1048577 * ((k : Int) + 1):=Int.mul_le_mul_of_nonneg_right hp (by omega)
    have h2 : 0 ≤ prodI (fun k => (k : Int) + 1) k * ((k : Int) + 1):=Int.mul_nonneg (by omega) (by omega)
    exact ⟨by omega,by have:=Int.mul_le_mul_of_nonneg_left (show (k : Int) + 1 ≤ 9223372036 by omega) (show (0 : Int) ≤ 1048577 by omega); omega⟩
   simp (disch:=omega) [-getElem?_pos,if_pos,if_neg,decide_eq_true,decide_eq_false,ir_brute_upTo_1_l0,e0,e4,e5,IntWalk.i64_in]
   refine ACall_yield_ofB (times_round (H:=H.set r (.row [.int .i64 (prodI (fun k => (k : Int) + 1) k)] T_int true)) h (by rw [AH.set_blk_ne hlr,hl]) hlr AH.set_blk_same hb) fun u H2 ⟨hu,hH⟩ => ?_
   subst hu hH
   simp (disch:=omega) [-getElem?_pos,if_pos,if_neg,decide_eq_true,decide_eq_false,e0,e4,e5,IntWalk.i64_in]
   refine ⟨hkn,by simp [e0],by simp [e4],by simp,?_⟩
   rfl
  ·obtain rfl : k = N:=by omega
   simp (disch:=omega) [-getElem?_pos,if_pos,if_neg,decide_eq_true,decide_eq_false,ir_brute_upTo_1_l0,e0,e4,e5]
 ·rintro e env2 H2 ⟨rfl,rfl⟩ _
  simp (disch:=omega) [-getElem?_pos,if_pos,if_neg,decide_eq_true,decide_eq_false,]
theorem twos_walk {q N : Nat} (hN : N ≤ 9223372036) : TimesW F_brute_twos_1 q N (fun _ => 2):=by
 intro H l r L0 h hl hlr hq hqr hr
 refine AFn.enter mixed ir_brute_twos_1_eq (by simp [ir_brute_twos_1]) fun hw => ?_
 simp (disch:=omega) [-getElem?_pos,if_pos,if_neg,decide_eq_true,decide_eq_false,ir_brute_twos_1,hq]
 refine wpC_use (loop_upto N (UpI H l r (fun _ => 2) N 3 4) (Q:=fun e _ H' => e = .exit 0 ∧ H' = H.set r (.row [.int .i64 (prodI (fun _ => 2) N)] T_int true)) ⟨by simp,by simp,by simp,by rw [show prodI (fun _ => 2) 0 = 1 from rfl,AH.set_self hr]⟩ ?_) ?_
 ·rintro k env H' hk ⟨e0,e4,e5,rfl⟩
  by_cases hkn : k < N
  ·have hp:=prodI_le (fun _ => 2) k
   have hp1:=prodI_ge (fun _ => 2) (fun k => by omega) k
   have hb : I64 (prodI (fun _ => 2) k * 2):=⟨by omega,by omega⟩
   simp (disch:=omega) [-getElem?_pos,if_pos,if_neg,decide_eq_true,decide_eq_false,ir_brute_twos_1_l0,e0,e4,e5,IntWalk.i64_in]
   refine ACall_yield_ofB (times_round (H:=H.set r (.row [.int .i64 (prodI (fun _ => 2) k)] T_int true)) h (by rw [AH.set_blk_ne hlr,hl]) hlr AH.set_blk_same hb) fun u H2 ⟨hu,hH⟩ => ?_
   subst hu hH
   simp (disch:=omega) [-getElem?_pos,if_pos,if_neg,decide_eq_true,decide_eq_false,e0,e4,e5,IntWalk.i64_in]
   refine ⟨hkn,by simp [e0],by simp [e4],by simp,?_⟩
   rfl
  ·obtain rfl : k = N:=by omega
   simp (disch:=omega) [-getElem?_pos,if_pos,if_neg,decide_eq_true,decide_eq_false,ir_brute_twos_1_l0,e0,e4,e5]
 ·rintro e env2 H2 ⟨rfl,rfl⟩ _
  simp (disch:=omega) [-getElem?_pos,if_pos,if_neg,decide_eq_true,decide_eq_false,]
theorem times_spec {H : AH} {g q N : Nat} {f : Nat → Int} (hgood : goodFunc Tryd.prog g = true) (hW : TimesW g q N f) (hq : H.cells q = some [.int .i64 N]) :
  AFn Tryd.prog F_brute_times [.func (.func g) #[] #[.pointer (some ⟨q,0,none⟩)]] H fun u H' => u = .int .i64 (prodI f N) ∧ Keep [] H H':=by
 refine AFn.enter mixed ir_brute_times_eq (by simp [ir_brute_times]) fun hw => ?_
 have hqn:=cells_lt hw hq
 simp (disch:=omega) [-getElem?_pos,if_pos,if_neg,decide_eq_true,decide_eq_false,ir_brute_times,writeA,over]
 refine wpC_rangeB (p:=#[]) (q:=#[.pointer (some ⟨q,0,none⟩)]) (by simp) hgood ?_
 generalize hL : (LoopA.mk _ _ _ _ _ _ _ : LoopA) = L0
 have hT : TimesL L0 H.next:=by
  rw [← hL]
  exact ⟨rfl,rfl,rfl,rfl,rfl,rfl,by simp⟩
 clear hL
 have hk1 : Keep [] H ((H.alloc (.row [.int .i64 1] T_int true)).alloc (.loop L0)):=.trans' .alloc .alloc
 have hr1 : ((H.alloc (.row [.int .i64 1] T_int true)).alloc (.loop L0)).blk H.next = some (.row [.int .i64 1] T_int true):=by simp
 have hl1 : ((H.alloc (.row [.int .i64 1] T_int true)).alloc (.loop L0)).blk (H.next + 1) = some (.loop L0):=by simp
 have hq1:=cells_kept hw hk1 hq
 have hn1 : ((H.alloc (.row [.int .i64 1] T_int true)).alloc (.loop L0)).next = H.next + 2:=by simp
 generalize (H.alloc (.row [.int .i64 1] T_int true)).alloc (.loop L0) = H1 at *
 refine (hW hT hl1 (by omega) hq1 (by omega) hr1).mono' fun u H2 w2 hH2 => ?_
 subst hH2
 unfold rangeK
 simp only [AH.alloc_next]
 rw [AH.set_blk_ne (by omega),hl1]
 simp only [hT.st,hT.pe]
 refine ⟨by simp,?_⟩
 simp (disch:=omega) [-getElem?_pos,if_pos,if_neg,decide_eq_true,decide_eq_false,AH.cells_set_ne]
 exact Keep.new_set (by omega) (Keep.new_set (by omega) hk1)
theorem upTo_spec {H : AH} (n : Int) : AFn Tryd.prog F_brute_upTo [.int .i64 n] H fun u H' => u = .func (.func F_brute_upTo_1) #[] #[.pointer (some ⟨H.next,0,none⟩)] ∧ H' = H.alloc (.row [.int .i64 n] T_int true):=by
 refine AFn.enter mixed ir_brute_upTo_eq (by simp [ir_brute_upTo]) fun hw => ?_
 simp (disch:=omega) [-getElem?_pos,if_pos,if_neg,decide_eq_true,decide_eq_false,ir_brute_upTo]
theorem twos_spec {H : AH} (n : Int) : AFn Tryd.prog F_brute_twos [.int .i64 n] H fun u H' => u = .func (.func F_brute_twos_1) #[] #[.pointer (some ⟨H.next,0,none⟩)] ∧ H' = H.alloc (.row [.int .i64 n] T_int true):=by
 refine AFn.enter mixed ir_brute_twos_eq (by simp [ir_brute_twos]) fun hw => ?_
 simp (disch:=omega) [-getElem?_pos,if_pos,if_neg,decide_eq_true,decide_eq_false,ir_brute_twos]
theorem subsets_spec {H : AH} (k : Int) : AFn Tryd.prog F_brute_subsets [.int .i64 k] H fun u H' => u = .bool (decide (k = 0 ∨ k = 3)) ∧ H' = H:=by
 refine AFn.enter mixed ir_brute_subsets_eq (by simp [ir_brute_subsets]) fun hw => ?_
 by_cases h : k = 0 <;> by_cases h2 : k = 3 <;> simp (disch:=omega) [-getElem?_pos,if_pos,if_neg,decide_eq_true,decide_eq_false,ir_brute_subsets,h,h2]
noncomputable def _root_.Go.Abs.InstD.many (x : InstD) : Int:=prodI (fun k => if x.kind = 0 ∨ x.kind = 3 then 2 else (k : Int) + 1) x.n.toNat
noncomputable def _root_.Go.Abs.InstD.count (x : InstD) : Int:=if x.check = 0 then (if x.many > 1048576 then 0 else x.many) else 0
noncomputable def _root_.Go.Abs.InstD.countE (x : InstD) : Int:=if x.check = 0 then (if x.many > 1048576 then 24 else 0) else x.check
theorem _root_.Go.Abs.InstD.n_range {x : InstD} (h : x.Ok) : 0 ≤ x.n ∧ x.n ≤ 4096:=by
 have hc:=InstD.check_ok.2 h
 have h1:=h.few.items
 have h2:=h.few.sets
 unfold InstD.n
 rw [if_pos hc]
 by_cases k1 : x.kind = 1
 ·have:=h.few.sq (.inl k1)
  simp [k1]; omega
 ·by_cases k2 : x.kind = 2
  ·have:=h.few.sq (.inr k2)
   simp [k2]; omega
  ·by_cases k0 : x.kind = 0
   ·simp [k0]; omega
   ·simp [k0,k1,k2]; omega
theorem Count_spec {p : Nat → Prop} {H : AH} {v : Value} {x : InstD} (hx : InstV p H v x) : AFn Tryd.prog F_brute_Count [v] H fun u H' => u = .tuple #[.int .i64 x.count,.int .i64 x.countE] ∧ H' = H:=by
 refine AFn.calm (fun H0 hs => ?_) rfl
 have hx0:=hx.same hs
 obtain ⟨iv,cv,sv,rfl,i1,i2,i3,h1,h2,h3⟩:=id hx0
 refine AFn.enter mixed ir_brute_Count_eq (by simp [ir_brute_Count]) fun hw => ?_
 have bc : (H0.alloc (.row (instC x iv cv sv) T_inst_Inst true)).cells H0.next = some (instC x iv cv sv):=AH.cells_alloc_new
 have hx1:=(hx0.kept hw (.alloc (B:=.row (instC x iv cv sv) T_inst_Inst true))).any
 have w1:=WF.alloc hw (B:=.row (instC x iv cv sv) T_inst_Inst true)
 generalize hq : H0.next = q at *
 simp (disch:=omega) [-getElem?_pos,if_pos,if_neg,decide_eq_true,decide_eq_false,ir_brute_Count,hq,inst_cut]
 generalize H0.alloc (.row (instC x iv cv sv) T_inst_Inst true) = H1 at *
 refine AFn.pure (Check_spec hx1) ?_
 unfold InstD.count InstD.countE
 by_cases hc : x.check = 0
 ·obtain ⟨n0,n1⟩:=InstD.n_range (InstD.check_ok.1 hc)
  obtain ⟨N,hN⟩ : ∃ N : Nat,x.n = (N : Int):=⟨x.n.toNat,by omega⟩
  have hNl : N ≤ 4096:=by omega
  simp (disch:=omega) [-getElem?_pos,if_pos,if_neg,decide_eq_true,decide_eq_false,hc,bc,inst_cut]
  refine AFn.pure (N_spec hx1) ?_
  simp (disch:=omega) [-getElem?_pos,if_pos,if_neg,decide_eq_true,decide_eq_false,]
  refine (upTo_spec x.n).mono' fun u H2 w2 ⟨hu,hH⟩ => ?_
  have k2 : Keep [] H1 H2:=by rw [hH]; exact .alloc
  have hc2 : H2.cells H1.next = some [.int .i64 (N : Int)]:=by rw [hH,← hN]; exact AH.cells_alloc_new
  subst hu
  clear hH
  have hx2:=hx1.kept w1 k2
  have bc2:=cells_kept w1 k2 bc
  simp (disch:=omega) [-getElem?_pos,if_pos,if_neg,decide_eq_true,decide_eq_false,bc2]
  refine AFn.pure (subsets_spec _) ?_
  by_cases hk : x.kind = 0 ∨ x.kind = 3
  ·have hm : x.many = prodI (fun _ => 2) N:=by unfold InstD.many; simp only [hk,if_true,hN,Int.toNat_natCast]
   simp (disch:=omega) [-getElem?_pos,if_pos,if_neg,decide_eq_true,decide_eq_false,hk,bc2,inst_cut]
   refine AFn.pure (N_spec hx2) ?_
   simp (disch:=omega) [-getElem?_pos,if_pos,if_neg,decide_eq_true,decide_eq_false,]
   refine (twos_spec x.n).mono' fun u H3 w3 ⟨hu,hH⟩ => ?_
   have hc3 : H3.cells H2.next = some [.int .i64 (N : Int)]:=by rw [hH,← hN]; exact AH.cells_alloc_new
   subst hu
   clear hH
   simp (disch:=omega) [-getElem?_pos,if_pos,if_neg,decide_eq_true,decide_eq_false,]
   refine (times_spec good_brute_twos_1 (twos_walk (by omega)) hc3).mono' fun u H4 w4 ⟨hu,_⟩ => ?_
   subst hu
   rw [hm]
   by_cases hmm : prodI (fun _ => 2) N > 1048576
   ·simp (disch:=omega) [-getElem?_pos,if_pos,if_neg,decide_eq_true,decide_eq_false,hmm]
   ·simp (disch:=omega) [-getElem?_pos,if_pos,if_neg,decide_eq_true,decide_eq_false,hmm]
  ·have hm : x.many = prodI (fun k => (k : Int) + 1) N:=by unfold InstD.many; simp only [hk,if_false,hN,Int.toNat_natCast]
   simp (disch:=omega) [-getElem?_pos,if_pos,if_neg,decide_eq_true,decide_eq_false,hk]
   refine (times_spec good_brute_upTo_1 (upTo_walk (by omega)) hc2).mono' fun u H4 w4 ⟨hu,_⟩ => ?_
   subst hu
   rw [hm]
   by_cases hmm : prodI (fun k => (k : Int) + 1) N > 1048576
   ·simp (disch:=omega) [-getElem?_pos,if_pos,if_neg,decide_eq_true,decide_eq_false,hmm]
   ·simp (disch:=omega) [-getElem?_pos,if_pos,if_neg,decide_eq_true,decide_eq_false,hmm]
 ·simp (disch:=omega) [-getElem?_pos,if_pos,if_neg,decide_eq_true,decide_eq_false,hc]
end Go.Proofs.YtlcddhgfkkjhkaaDoor.Br
namespace Go.Proofs.YtlcddhgfkkjhkaaDoor.Br
open Go Go.Abs
def NewL (H : AH) (u : Value) (L : List Int) (H' : AH) : Prop:=∃ S,OwnL (fun _ => False) H' T_int u L S ∧ Keep [] H H' ∧ ∀ b ∈ S,H.next ≤ b
theorem elems_one {H : AH} {cs : List Value} {t sz : Nat} (h : cs.length = sz) : elemsA (H.alloc (.row cs t true)) sz (.slice (some ⟨H.next,0,none⟩) 1 1) = some cs:=by
 have hc : (H.alloc (.row cs t true)).cells H.next = some cs:=AH.cells_of AH.alloc_blk_new
 simp [elemsA,hc,cut,h]
 rw [← h,List.take_length]
theorem push_int {H H1 : AH} {v : Value} {L : List Int} {S : List Nat} (hw : WF H1) (hA : OwnL (fun _ => False) H1 T_int v L S) (hk : Keep [] H H1) (hS : ∀ b ∈ S,H.next ≤ b) {a : Int} (ha : I64 a) (hl : L.length ≤ 1000) :
  ∃ va vc H2 S',appendA (H1.alloc (.row [.int .i64 a] T_int true)) T_int 1 8 v 1 [.int .i64 a] = some (.slice va (L.length + 1) vc,H2) ∧ WF H2 ∧ OwnL (fun _ => False) H2 T_int (.slice va (L.length + 1) vc) (L ++ [a]) S' ∧ Keep [] H H2 ∧ (∀ b ∈ S',H.next ≤ b) ∧ Keep S H1 H2 ∧ ∀ b ∈ S',b ∈ S ∨ H1.next ≤ b:=by
 obtain ⟨va,vc,Hd,S',p1,hA',kd,wd,i1⟩:=hA.push (q:=fun _ => False) hw (cs:=[.int .i64 a]) (a:=a) ⟨rfl,ha⟩ T_int 8 (fun _ h => h) (fun b hb => hb.elim) (by simp) (by omega) (by omega)
 have hn:=hk.next
 refine ⟨va,vc,Hd,S',p1,wd,hA',hk.trans kd (fun b hb hlt => by have:=hS b hb; omega),fun b hb => ?_,kd,i1⟩
 rcases i1 b hb with h | h
 ·exact hS b h
 ·omega
def restL (a n : Nat) : List Int:=(List.range (n - a)).map fun i => ((a + i : Nat) : Int)
theorem restL_len {a n : Nat} : (restL a n).length = n - a:=by simp [restL]
/-! ### the digits of a number -/
theorem i64_nat_and {a b : Nat} (ha : a < 4611686018427387904) (hb : b < 4611686018427387904) : abin .and (.int .i64 a) (.int .i64 b) = some (.int .i64 ((a &&& b : Nat) : Int)):=by
 have h : (BitVec.ofInt 64 (a : Int) &&& BitVec.ofInt 64 (b : Int)).toNat = a &&& b:=by
  rw [BitVec.toNat_and,BitVec.ofInt_natCast,BitVec.ofInt_natCast,BitVec.toNat_ofNat,BitVec.toNat_ofNat,Nat.mod_eq_of_lt (by omega),Nat.mod_eq_of_lt (by omega)]
 have hl : a &&& b ≤ a:=Nat.and_le_left
 show some (Value.int .i64 (IntKind.i64.wrap ((BitVec.ofInt 64 (a : Int) &&& BitVec.ofInt 64 (b : Int)).toNat : Int))) = _
 rw [h,IntWalk.i64_in _ (by omega)]
theorem i64_and1 {a : Nat} (ha : a < 4611686018427387904) : abin .and (.int .i64 a) (.int .i64 1) = some (.int .i64 ((a % 2 : Nat) : Int)):=by
 have:=i64_nat_and (b:=1) ha (by omega)
 rw [Nat.and_one_is_mod] at this; exact this
theorem i64_shr1 {a : Nat} : abin .shr (.int .i64 a) (uv 1) = some (.int .i64 ((a / 2 : Nat) : Int)):=by
 show some (Value.int .i64 ((a : Int).fdiv 2)) = _
 rw [Int.fdiv_eq_ediv_of_nonneg _ (by omega)]; norm_cast
def ChI (H : AH) (f m : Nat) (k : Nat) (env : Env) (H' : AH) : Prop :=
 env 0 = some (.int .i64 (m / 2 ^ k : Nat)) ∧ env 4 = some (.int .i64 k) ∧ ∃ v S L,env 3 = some v ∧ WF H' ∧ OwnL (fun _ => False) H' T_int v L S ∧ L.length ≤ k ∧ L ++ chosenL (f - k) k (m / 2 ^ k) = chosenL f 0 m ∧ Keep [] H H' ∧ ∀ b ∈ S,H.next ≤ b
theorem chosen_spec {H : AH} {f m : Nat} (hm : m < 2 ^ f) (hf : f ≤ 62) : AFn Tryd.prog F_brute_chosen [.int .i64 m] H fun u H' => NewL H u (chosenL f 0 m) H':=by
 have hb : (2:Nat) ^ f ≤ 2 ^ 62:=Nat.pow_le_pow_right (by omega) hf
 refine AFn.enter mixed ir_brute_chosen_eq (by simp [ir_brute_chosen]) fun hw => ?_
 simp (disch:=omega) [-getElem?_pos,if_pos,if_neg,decide_eq_true,decide_eq_false,ir_brute_chosen]
 refine wpC_use (loop_upto f (ChI H f m) (Q:=fun e env H' => e = .exit 0 ∧ ∃ v,env 3 = some v ∧ NewL H v (chosenL f 0 m) H') ⟨by simp,by simp,_,[],[],rfl,hw,.nil,by simp,by simp,.refl,by simp⟩ ?_) ?_
 ·rintro k env H' hk ⟨e0,e4,v,S,L,e3,hw',hA,hl,hL,hK,hS⟩
  have hle : m / 2 ^ k ≤ m:=Nat.div_le_self _ _
  have hd : m / 2 ^ k / 2 = m / 2 ^ (k + 1):=by rw [Nat.div_div_eq_div_mul,Nat.pow_succ]
  generalize hx : m / 2 ^ k = x at *
  by_cases h0 : x = 0
  ·subst h0
   simp (disch:=omega) [-getElem?_pos,if_pos,if_neg,decide_eq_true,decide_eq_false,ir_brute_chosen_l0,e0,e3,e4]
   have : chosenL (f - k) k 0 = []:=by cases f - k <;> rfl
   rw [this,List.append_nil] at hL
   rw [← hL]
   exact ⟨S,hA,hK,hS⟩
  ·have hkf : k < f:=by
    have : k ≠ f:=fun h => by subst h; rw [Nat.div_eq_of_lt hm] at hx; omega
    omega
   obtain ⟨g,hg⟩ : ∃ g,f - k = g + 1:=⟨f - k - 1,by omega⟩
   have hch : chosenL (f - k) k x = (if x % 2 = 1 then [(k : Int)] else []) ++ chosenL (f - (k + 1)) (k + 1) (x / 2):=by
    rw [hg,show f - (k + 1) = g by omega]
    show (if x = 0 then [] else _) = _
    rw [if_neg h0]
   have ha1:=i64_and1 (a:=x) (by omega)
   have ha2:=i64_shr1 (a:=x)
   by_cases h1 : x % 2 = 1
   ·obtain ⟨va,vc,H2,S',p1,w2,hA',k2,hS',_⟩:=push_int hw' hA hK hS (a:=(k : Int)) (by unfold I64; omega) (by omega)
    have pE : elemsA (H'.alloc (.row [.int .i64 (k : Int)] T_int true)) 1 (.slice (some ⟨H'.next,0,none⟩) 1 1) = some [.int .i64 (k : Int)]:=elems_one rfl
    simp (disch:=omega) [-getElem?_pos,if_pos,if_neg,decide_eq_true,decide_eq_false,ir_brute_chosen_l0,e0,e3,e4,↓ha1,↓ha2,pE,p1,h0,h1,IntWalk.i64_in]
    refine ⟨hkf,by simp [← hd],by simp,.slice va (L.length + 1) vc,S',L ++ [(k : Int)],by simp,w2,hA',by simp; omega,?_,k2,hS'⟩
    rw [← hL,hch,if_pos h1,← hd,List.append_assoc]
   ·simp (disch:=omega) [-getElem?_pos,if_pos,if_neg,decide_eq_true,decide_eq_false,ir_brute_chosen_l0,e0,e3,e4,↓ha1,↓ha2,h0,h1,IntWalk.i64_in]
    refine ⟨hkf,by simp [← hd],by simp,v,S,L,by simp [e3],hw',hA,by omega,?_,hK,hS⟩
    rw [← hL,hch,if_neg h1,← hd,List.nil_append]
 ·rintro e env2 H' ⟨rfl,v,e3,hN⟩ hu
  obtain ⟨S,hA,_⟩:=id hN
  simp (disch:=omega) [-getElem?_pos,if_pos,if_neg,decide_eq_true,decide_eq_false,e3,hA.cell]
  exact hN
end Go.Proofs.YtlcddhgfkkjhkaaDoor.Br
namespace Go.Proofs.YtlcddhgfkkjhkaaDoor.Br
open Go Go.Abs
theorem prod_fac : ∀ {N : Nat},N < 10 → prodI (fun k => (k : Int) + 1) N = (fac N : Int):=by
 have h : ∀ N : Fin 10,prodI (fun k => (k : Int) + 1) N.1 = (fac N.1 : Int):=by decide
 exact fun {N} hN => h ⟨N,hN⟩
end Go.Proofs.YtlcddhgfkkjhkaaDoor.Br
namespace Go.Proofs.YtlcddhgfkkjhkaaDoor.Br
open Go Go.Abs
def fix1 (k : Int) : Nat:=if k = 2 then 1 else 0
theorem prod_stay {f : Nat → Int} (hf : ∀ k,1 ≤ f k) {N : Nat} (h : prodI f N = 1048577) : ∀ {M : Nat},N ≤ M → prodI f M = 1048577
 | M,hNM => by
  induction M with
  | zero => obtain rfl : N = 0:=by omega
            exact h
  | succ M ih =>
   by_cases hM : N = M + 1
   ·rw [← hM]; exact h
   ·have:=ih (by omega)
    have h1:=hf M
    show (if prodI f M * f M < 1048577 then prodI f M * f M else 1048577) = 1048577
    rw [this,if_neg (by omega)]
theorem prod_fac_le {N : Nat} (h : prodI (fun k => (k : Int) + 1) N ≤ 1048576) : N < 10:=by
 have h10 : prodI (fun k => (k : Int) + 1) 10 = 1048577:=by decide
 by_cases hN : N < 10
 ·exact hN
 ·rw [prod_stay (fun k => by omega) h10 (by omega)] at h; omega
theorem prod_two_le {N : Nat} (h : prodI (fun _ => 2) N ≤ 1048576) : N < 21 ∧ prodI (fun _ => 2) N = ((2 ^ N : Nat) : Int):=by
 have h21 : prodI (fun _ => 2) 21 = 1048577:=by decide
 have h20 : ∀ N : Fin 21,prodI (fun _ => 2) N.1 = ((2 ^ N.1 : Nat) : Int):=by decide
 by_cases hN : N < 21
 ·exact ⟨hN,h20 ⟨N,hN⟩⟩
 ·rw [prod_stay (fun k => by omega) h21 (by omega)] at h; omega
theorem count_sub {x : InstD} (hc : x.countE = 0) (hk : x.kind = 0 ∨ x.kind = 3) : x.Ok ∧ ∃ N : Nat,N < 21 ∧ x.n = (N : Int) ∧ x.count = ((2 ^ N : Nat) : Int):=by
 unfold InstD.countE at hc
 split at hc
 ·rename_i h0
  have hok:=InstD.check_ok.1 h0
  split at hc
  ·omega
  ·rename_i hm
   have hr:=InstD.n_range hok
   have h1 : x.many = prodI (fun _ => 2) x.n.toNat:=by unfold InstD.many; simp only [hk,if_true]
   have h2:=prod_two_le (N:=x.n.toNat) (by rw [← h1]; omega)
   refine ⟨hok,x.n.toNat,h2.1,by omega,?_⟩
   unfold InstD.count
   rw [if_pos h0,if_neg hm,h1,h2.2]
 ·rename_i h0; exact absurd hc h0
theorem count_ord {x : InstD} (hc : x.countE = 0) (hk : ¬ (x.kind = 0 ∨ x.kind = 3)) : x.Ok ∧ fix1 x.kind ≤ x.cost.length ∧ x.cost.length - fix1 x.kind < 10 ∧ x.count = (fac (x.cost.length - fix1 x.kind) : Int) ∧ x.cost.length ≤ 64:=by
 unfold InstD.countE at hc
 split at hc
 ·rename_i h0
  have hok:=InstD.check_ok.1 h0
  split at hc
  ·omega
  ·rename_i hm
   have hr:=InstD.n_range hok
   have k0:=hok.kind0
   have k4:=hok.kind4
   have hsq:=hok.few.sq (by omega)
   have hn : x.n.toNat = x.cost.length - fix1 x.kind:=by
    unfold InstD.n fix1
    rw [if_pos h0]
    by_cases k1 : x.kind = 1
    ·simp [k1]
    ·have k2 : x.kind = 2:=by omega
     simp [k2]
   have h1 : x.many = prodI (fun k => (k : Int) + 1) x.n.toNat:=by unfold InstD.many; simp only [hk,if_false]
   have h2:=prod_fac_le (N:=x.n.toNat) (by rw [← h1]; omega)
   refine ⟨hok,?_,by omega,?_,hsq.2⟩
   ·unfold fix1; split <;> omega
   ·unfold InstD.count
    rw [if_pos h0,if_neg hm,h1,prod_fac h2,hn]
 ·rename_i h0; exact absurd hc h0
def _root_.Go.Abs.InstD.at (x : InstD) (k : Nat) : List Int :=
 if x.kind = 0 ∨ x.kind = 3 then chosenL 20 0 k else restL 0 (fix1 x.kind) ++ orderL (x.cost.length - fix1 x.kind) (restL (fix1 x.kind) x.cost.length) k
end Go.Proofs.YtlcddhgfkkjhkaaDoor.Br
namespace Go.Abs
open Go
def slB (H : AH) (sz : Nat) (v lo : Option Value) : Option (Value × AH) :=
 match v,lo with
 | some (.slice none 0 0),some (.int _ i) => if 0 ≤ i ∧ i ≤ 0 then some (.slice none 0 0,H) else none
 | some (.slice (some ⟨b,off,none⟩) n cap),some (.int _ i) => if 0 ≤ i ∧ i ≤ (n : Int) then some (.slice (some ⟨b,if cap = i.toNat then off else off + i.toNat * sz,none⟩) (n - i.toNat) (cap - i.toNat),H) else none
 | some (.slice (some ⟨b,off,some t⟩) n cap),some (.int _ i) => if 0 ≤ i ∧ i ≤ (n : Int) then (if t = sz then some (.slice (some ⟨b,off + i.toNat * sz,some t⟩) (n - i.toNat) (cap - i.toNat),H) else none) else none
 | _,_ => none
theorem ieval_sllo {env : Env} {H : AH} {sz : Nat} {x lo : Operand} : ieval (.sl sz x (some lo) none none) env H = slB H sz (aval env x) (aval env lo):=by
 simp only [ieval,boundsA,boundA]
 generalize aval env x = v
 generalize aval env lo = h
 cases v with
 | none => rfl
 | some v =>
  cases v <;> try rfl
  rename_i a n c
  cases a with
  | none =>
   cases n <;> cases c <;> try rfl
   cases h with
   | none => rfl
   | some h =>
    cases h <;> try rfl
    rename_i k i
    by_cases hi : 0 ≤ i ∧ i ≤ 0 <;> simp [slB,hi]
  | some a =>
   obtain ⟨b,off,sp⟩:=a
   cases h with
   | none => cases sp <;> rfl
   | some h =>
    cases h <;> try (cases sp <;> rfl)
    rename_i k i
    cases sp with
    | none => by_cases hi : 0 ≤ i ∧ i ≤ (n : Int) <;> simp [slB,hi]
    | some t => by_cases hi : 0 ≤ i ∧ i ≤ (n : Int) <;> simp [slB,hi]
end Go.Abs
namespace Go.Proofs.YtlcddhgfkkjhkaaDoor.Br
open Go Go.Abs
def placeO (n a : Nat) (X : List Int) : Option Nat:=if X.length = n ∧ X.take a = restL 0 a then placeL (restL a n) (X.drop a) else none
end Go.Proofs.YtlcddhgfkkjhkaaDoor.Br
namespace Go.Proofs.YtlcddhgfkkjhkaaDoor.Br
open Go Go.Abs
noncomputable def _root_.Go.Abs.InstD.rank (x : InstD) (Y : List Int) : Option Nat :=
 if x.kind = 0 ∨ x.kind = 3 then maskL x.n (-1) Y else placeO x.cost.length (fix1 x.kind) Y
theorem restL_nodup {a n : Nat} : (restL a n).Nodup:=by
 unfold restL
 rw [List.nodup_iff_pairwise_ne,List.pairwise_map]
 exact List.nodup_range.imp fun {x y} h e => h (by omega)
end Go.Proofs.YtlcddhgfkkjhkaaDoor.Br
namespace Go.Abs
theorem place_inj : ∀ {X left : List Int} {k : Nat},X.length = left.length → placeL left X = some k → k < fac left.length ∧ orderL left.length left k = X
 | [],left,k,h,hp => by
  obtain rfl : left = []:=List.eq_nil_of_length_eq_zero h.symm
  have : 0 = k:=by simpa [placeL] using hp
  subst this
  exact ⟨by decide,rfl⟩
 | y :: X,[],k,h,hp => by simp at h
 | y :: X,a :: l,k,h,hp => by
  have hX : X.length = l.length:=by simpa using h
  unfold placeL at hp
  by_cases hy : y ∈ a :: l
  ·rw [if_pos hy] at hp
   have hi:=List.idxOf_lt_length_of_mem hy
   have hgi : (a :: l)[(a :: l).idxOf y] = y:=List.getElem_idxOf hi
   generalize (a :: l).idxOf y = i at *
   obtain ⟨k',e1,e2⟩ : ∃ k',placeL ((a :: l).eraseIdx i) X = some k' ∧ i * fac l.length + k' = k:=by
    cases hq : placeL ((a :: l).eraseIdx i) X with
    | none => rw [hq] at hp; simp at hp
    | some k' => rw [hq] at hp; exact ⟨k',rfl,by simpa using hp⟩
   have hel : ((a :: l).eraseIdx i).length = l.length:=by rw [List.length_eraseIdx_of_lt hi]; simp
   obtain ⟨q1,q2⟩:=place_inj (left:=(a :: l).eraseIdx i) (by rw [hel,hX]) e1
   rw [hel] at q1 q2
   have hp':=fac_pos l.length
   have hd : k / fac l.length = i:=by rw [← e2,Nat.mul_comm,Nat.mul_add_div hp',Nat.div_eq_of_lt q1,Nat.add_zero]
   have hm : k % fac l.length = k':=by rw [← e2,Nat.mul_comm,Nat.mul_add_mod,Nat.mod_eq_of_lt q1]
   constructor
   ·show k < (l.length + 1) * fac l.length
    have h1 : i * fac l.length + k' < i * fac l.length + fac l.length:=by omega
    rw [← Nat.succ_mul] at h1
    have h2 : (i + 1) * fac l.length ≤ (l.length + 1) * fac l.length:=Nat.mul_le_mul_right _ (by have:=hi; simp at this; omega)
    have h3 : i.succ * fac l.length = (i + 1) * fac l.length:=rfl
    omega
   ·show (a :: l).getD (k / fac l.length) 0 :: orderL l.length ((a :: l).eraseIdx (k / fac l.length)) (k % fac l.length) = _
    rw [hd,hm,q2,List.getD_eq_getElem?_getD,List.getElem?_eq_getElem hi]
    simp [hgi]
  ·rw [if_neg hy] at hp; cases hp
theorem chosen_zero (f k : Nat) : chosenL f k 0 = []:=by cases f <;> rfl
theorem mask_inj {n : Nat} : ∀ (f : Nat) {k : Nat} {l : List Int} {r : Nat},n ≤ k + f → maskL n ((k : Int) - 1) l = some r → ∃ m,r = m * 2 ^ k ∧ m < 2 ^ f ∧ chosenL f k m = l
 | f,k,[],r,_,h => by
  have : 0 = r:=by simpa [maskL] using h
  subst this
  exact ⟨0,by simp,Nat.two_pow_pos f,chosen_zero f k⟩
 | 0,k,x :: l,r,hn,h => by
  unfold maskL at h
  rw [if_pos (by omega)] at h; cases h
 | f + 1,k,x :: l,r,hn,h => by
  have h0:=h
  unfold maskL at h
  by_cases hx : x ≤ (k : Int) - 1 ∨ (n : Int) ≤ x
  ·rw [if_pos hx] at h; cases h
  ·rw [if_neg hx] at h
   have hk1 : ((k + 1 : Nat) : Int) - 1 = k:=by omega
   by_cases hxk : x = k
   ·subst hxk
    obtain ⟨r',e1,e2⟩ : ∃ r',maskL n k l = some r' ∧ 2 ^ k + r' = r:=by
     cases hq : maskL n k l with
     | none => rw [hq] at h; simp at h
     | some r' => rw [hq] at h; exact ⟨r',rfl,by simpa using h⟩
    obtain ⟨m,q1,q2,q3⟩:=mask_inj (n:=n) f (k:=k + 1) (l:=l) (r:=r') (by omega) (by rw [hk1]; exact e1)
    refine ⟨2 * m + 1,?_,by rw [Nat.pow_succ]; omega,?_⟩
    ·rw [← e2,q1,Nat.pow_succ,Nat.add_mul,Nat.one_mul,Nat.mul_comm 2 m,Nat.mul_assoc,Nat.mul_comm 2]; omega
    ·show (if 2 * m + 1 = 0 then [] else (if (2 * m + 1) % 2 = 1 then [(k : Int)] else []) ++ chosenL f (k + 1) ((2 * m + 1) / 2)) = _
     rw [if_neg (by omega),if_pos (by omega),show (2 * m + 1) / 2 = m by omega,q3]; rfl
   ·have h1 : maskL n (((k + 1 : Nat) : Int) - 1) (x :: l) = some r:=by
     rw [hk1]; unfold maskL; rw [if_neg (by omega)]; exact h
    obtain ⟨m,q1,q2,q3⟩:=mask_inj (n:=n) f (k:=k + 1) (l:=x :: l) (r:=r) (by omega) h1
    have hm0 : m ≠ 0:=fun e => by subst e; rw [chosen_zero] at q3; cases q3
    refine ⟨2 * m,?_,by rw [Nat.pow_succ]; omega,?_⟩
    ·rw [q1,Nat.pow_succ,Nat.mul_comm 2 m,Nat.mul_assoc,Nat.mul_comm 2]
    ·show (if 2 * m = 0 then [] else (if (2 * m) % 2 = 1 then [(k : Int)] else []) ++ chosenL f (k + 1) ((2 * m) / 2)) = _
     rw [if_neg (by omega),if_neg (by omega),show (2 * m) / 2 = m by omega,q3]; rfl
end Go.Abs
namespace Go.Abs
def nextL : List Int → Option (List Int)
 | [] => none
 | a :: l => match nextL l with
  | some l' => some (a :: l')
  | none => match l.reverse.findIdx? (fun y => decide (a < y)) with
   | some j => some (l.reverse.getD j 0 :: l.reverse.set j a)
   | none => none
theorem order_first : ∀ (f : Nat) {left : List Int},left.length = f → orderL f left 0 = left
 | 0,left,h => by rw [List.eq_nil_of_length_eq_zero h]; rfl
 | f + 1,[],h => by simp at h
 | f + 1,a :: l,h => by
  have hl : l.length = f:=by simpa using h
  show (a :: l).getD (0 / fac l.length) 0 :: orderL f ((a :: l).eraseIdx (0 / fac l.length)) (0 % fac l.length) = _
  rw [Nat.zero_div,Nat.zero_mod]
  simp [order_first f hl]
theorem order_next : ∀ (f : Nat) {left : List Int} {k : Nat},left.length = f → left.Pairwise (· < ·) → k < fac f →
  (k + 1 < fac f → nextL (orderL f left k) = some (orderL f left (k + 1))) ∧ (k + 1 = fac f → orderL f left k = left.reverse ∧ nextL (orderL f left k) = none)
 | 0,left,k,h,hs,hk => by
  have : k = 0:=by simpa [fac] using hk
  subst this
  refine ⟨fun h => by simp [fac] at h,fun _ => ?_⟩
  rw [List.eq_nil_of_length_eq_zero h]
  exact ⟨rfl,rfl⟩
 | f + 1,[],k,h,hs,hk => by simp at h
 | f + 1,a :: l,k,h,hs,hk => by
  have hl : l.length = f:=by simpa using h
  have hp:=fac_pos f
  have hor : ∀ k,orderL (f + 1) (a :: l) k = (a :: l).getD (k / fac f) 0 :: orderL f ((a :: l).eraseIdx (k / fac f)) (k % fac f):=fun k => by rw [← hl]; rfl
  have hfs : fac (f + 1) = (f + 1) * fac f:=rfl
  rw [hfs] at hk ⊢
  generalize hL : a :: l = L at *
  have hLl : L.length = f + 1:=h
  obtain ⟨i,r,hi,hr,rfl⟩ : ∃ i r,i < f + 1 ∧ r < fac f ∧ k = i * fac f + r:=⟨k / fac f,k % fac f,by rw [Nat.div_lt_iff_lt_mul hp]; exact hk,Nat.mod_lt _ hp,by rw [Nat.mul_comm]; exact (Nat.div_add_mod _ _).symm⟩
  have hd : (i * fac f + r) / fac f = i:=by rw [Nat.mul_comm,Nat.mul_add_div hp,Nat.div_eq_of_lt hr,Nat.add_zero]
  have hm : (i * fac f + r) % fac f = r:=by rw [Nat.mul_comm,Nat.mul_add_mod,Nat.mod_eq_of_lt hr]
  have hiL : i < L.length:=by omega
  have hel : (L.eraseIdx i).length = f:=by rw [List.length_eraseIdx_of_lt hiL]; omega
  have hse : (L.eraseIdx i).Pairwise (· < ·):=List.Pairwise.sublist (List.eraseIdx_sublist _ _) hs
  obtain ⟨ih1,ih2⟩:=order_next f (left:=L.eraseIdx i) (k:=r) hel hse hr
  have hg : L.getD i 0 = L[i]:=by rw [List.getD_eq_getElem?_getD,List.getElem?_eq_getElem hiL]; rfl
  rw [hor,hd,hm,hg]
  by_cases hr1 : r + 1 < fac f
  ·have hd1 : (i * fac f + r + 1) / fac f = i:=by rw [Nat.add_assoc,Nat.mul_comm,Nat.mul_add_div hp,Nat.div_eq_of_lt hr1,Nat.add_zero]
   have hm1 : (i * fac f + r + 1) % fac f = r + 1:=by rw [Nat.add_assoc,Nat.mul_comm,Nat.mul_add_mod,Nat.mod_eq_of_lt hr1]
   refine ⟨fun _ => ?_,fun hc => ?_⟩
   ·rw [hor,hd1,hm1,hg]
    unfold nextL
    rw [ih1 hr1]
   ·have : (i + 1) * fac f ≤ (f + 1) * fac f:=Nat.mul_le_mul_right _ (by omega)
    rw [Nat.succ_mul i] at this
    omega
  ·obtain ⟨e1,e2⟩:=ih2 (by omega)
   have hk1 : i * fac f + r + 1 = (i + 1) * fac f:=by rw [Nat.succ_mul]; omega
   have hsplit : L = L.take i ++ L[i] :: L.drop (i + 1):=by rw [List.getElem_cons_drop,List.take_append_drop]
   have her : L.eraseIdx i = L.take i ++ L.drop (i + 1):=List.eraseIdx_eq_take_drop_succ _ _
   have hti : (L.take i).length = i:=by rw [List.length_take]; omega
   have hs':=hs
   rw [hsplit,List.pairwise_append,List.pairwise_cons] at hs'
   obtain ⟨s1,⟨s2,s3⟩,s4⟩:=hs'
   have hlow : ∀ y ∈ L.take i,¬ L[i] < y:=fun y hy => by have:=s4 y hy L[i] (.head _); omega
   refine ⟨fun hc => ?_,fun hc => ?_⟩
   ·rw [hk1] at hc ⊢
    have hi1 : i + 1 < f + 1:=Nat.lt_of_mul_lt_mul_right hc
    have hi1L : i + 1 < L.length:=by omega
    have hdr : L.drop (i + 1) = L[i + 1] :: L.drop (i + 2):=(List.getElem_cons_drop hi1L).symm
    rw [hor,Nat.mul_div_cancel _ hp,Nat.mul_mod_left,order_first f (by rw [List.length_eraseIdx_of_lt hi1L]; omega)]
    unfold nextL
    rw [e2,e1,List.reverse_reverse]
    have hlt : L[i] < L[i + 1]:=s2 _ (by rw [hdr]; exact .head _)
    have hfi : (L.eraseIdx i).findIdx? (fun y => decide (L[i] < y)) = some i:=by
     rw [her,hdr,List.findIdx?_append,List.findIdx?_eq_none_iff.2 (by simpa using hlow),List.findIdx?_cons]
     simp [hlt,hti]
    rw [hfi]
    show some _ = some _
    have h1 : (L.eraseIdx i).getD i 0 = L.getD (i + 1) 0:=by
     rw [List.getD_eq_getElem?_getD,List.getD_eq_getElem?_getD,List.getElem?_eraseIdx,if_neg (by omega)]
    have h2 : (L.eraseIdx i).set i L[i] = L.eraseIdx (i + 1):=by
     have e3 : L.eraseIdx (i + 1) = L.take (i + 1) ++ L.drop (i + 2):=List.eraseIdx_eq_take_drop_succ _ _
     rw [her,hdr,e3,List.take_succ_eq_append_getElem hiL,List.set_append_right _ _ (by omega),hti,Nat.sub_self,List.append_assoc]
     rfl
    rw [h1,h2]
   ·rw [hk1] at hc
    have hif : i = f:=by have:=Nat.eq_of_mul_eq_mul_right hp hc; omega
    subst hif
    have hdn : L.drop (i + 1) = []:=List.drop_eq_nil_of_le (by omega)
    rw [hdn,List.append_nil] at her
    refine ⟨?_,?_⟩
    ·rw [e1,her]
     conv => rhs; rw [hsplit,hdn,List.reverse_append]
     rfl
    ·unfold nextL
     rw [e2,e1,List.reverse_reverse,her,List.findIdx?_eq_none_iff.2 (by simpa using hlow)]
theorem next_cons {a : Int} {l : List Int} : nextL (a :: l) = match nextL l with
  | some l' => some (a :: l')
  | none => match l.reverse.findIdx? (fun y => decide (a < y)) with
   | some j => some (l.reverse.getD j 0 :: l.reverse.set j a)
   | none => none:=rfl
theorem next_none : ∀ {l : List Int},nextL l = none ↔ l.Pairwise fun x y => y ≤ x
 | [] => by simp [nextL]
 | a :: l => by
  have ih:=next_none (l:=l)
  rw [List.pairwise_cons,← ih,next_cons]
  cases hn : nextL l with
  | some l' => simp
  | none =>
   cases hf : l.reverse.findIdx? (fun y => decide (a < y)) with
   | some j =>
    have hex : ∃ y ∈ l,a < y:=by
     apply Classical.byContradiction
     intro hc
     have : l.reverse.findIdx? (fun y => decide (a < y)) = none:=List.findIdx?_eq_none_iff.2 fun y hy => by
      simp
      exact Int.not_lt.1 fun h => hc ⟨y,by simpa using hy,h⟩
     rw [this] at hf; cases hf
    obtain ⟨y,hy,hj⟩:=hex
    constructor
    ·intro h; cases h
    ·rintro ⟨h,_⟩
     have:=h y hy
     omega
   | none =>
    have:=List.findIdx?_eq_none_iff.1 hf
    refine ⟨fun _ => ⟨fun y hy => ?_,rfl⟩,fun _ => rfl⟩
    have:=this y (by simpa using hy)
    simp at this
    omega
theorem next_front : ∀ {P Z Z' : List Int},nextL Z = some Z' → nextL (P ++ Z) = some (P ++ Z')
 | [],Z,Z',h => h
 | a :: P,Z,Z',h => by
  show (match nextL (P ++ Z) with
   | some l' => some (a :: l')
   | none => _) = _
  rw [next_front h]; rfl
theorem falls : ∀ {l : List Int},(∀ i (h : i + 1 < l.length),l[i + 1] ≤ l[i]) → l.Pairwise fun x y => y ≤ x
 | [],_ => .nil
 | [a],_ => by simp
 | a :: b :: l,h => by
  have ih:=falls (l:=b :: l) fun i hi => h (i + 1) (by simpa using hi)
  have h0 : b ≤ a:=h 0 (by simp)
  rw [List.pairwise_cons]
  refine ⟨fun y hy => ?_,ih⟩
  rcases List.mem_cons.1 hy with rfl | hy
  ·exact h0
  ·have:=(List.pairwise_cons.1 ih).1 y hy
   omega
end Go.Abs
namespace Go.Abs
def At0 (cs : List Value) (o : Nat) (L : List Int) : Prop:=∀ i (h : i < L.length),cs[o + i]? = some (.int .i64 L[i])
def revK (L : List Int) (k : Nat) : List Int:=(List.range L.length).map fun i => if i < k ∨ L.length ≤ i + k then L.getD (L.length - 1 - i) 0 else L.getD i 0
theorem revK_len {L : List Int} {k : Nat} : (revK L k).length = L.length:=by simp [revK]
theorem revK_zero {L : List Int} : revK L 0 = L:=by
 apply List.ext_getElem (by simp [revK])
 intro i h1 h2
 simp [revK,h2,show ¬ L.length ≤ i by omega]
theorem revK_all {L : List Int} {k : Nat} (h : L.length ≤ 2 * k + 1) : revK L k = L.reverse:=by
 apply List.ext_getElem (by simp [revK])
 intro i h1 h2
 have hi : i < L.length:=by simpa [revK] using h1
 rw [List.getElem_reverse]
 simp only [revK,List.getElem_map,List.getElem_range]
 by_cases hc : i < k ∨ L.length ≤ i + k
 ·rw [if_pos hc,List.getD_eq_getElem?_getD,List.getElem?_eq_getElem (by omega)]; rfl
 ·rw [if_neg hc,List.getD_eq_getElem?_getD,List.getElem?_eq_getElem hi]
  have : L.length - 1 - i = i:=by omega
  simp [this]
end Go.Abs
namespace Go.Proofs.YtlcddhgfkkjhkaaDoor.Br
open Go Go.Abs
def RvI (H : AH) (b o : Nat) (v : Value) (cs : List Value) (L : List Int) (k : Nat) (env : Env) (H' : AH) : Prop :=
 env 0 = some v ∧ env 2 = some (.int .i64 k) ∧ env 3 = some (.int .i64 ((L.length : Int) - 1 - k)) ∧ 2 * k ≤ L.length ∧ WF H' ∧ Keep [b] H H' ∧
  ∃ cs',H'.blk b = some (.row cs' T_int true) ∧ cs'.length = cs.length ∧ At0 cs' o (revK L k) ∧ ∀ i,i < o ∨ o + L.length ≤ i → cs'[i]? = cs[i]?
theorem Reverse_spec {H : AH} {b o c : Nat} {sp : Option Nat} {cs : List Value} {L : List Int} (hb : H.blk b = some (.row cs T_int true)) (ho : o + L.length ≤ cs.length) (hL : At0 cs o L) (hl : L.length ≤ 1000) :
  AFn Tryd.prog F_slices_Reverse_Lint_int [.slice (some ⟨b,o,sp⟩) L.length c] H fun u H' => WF H' ∧ Keep [b] H H' ∧ ∃ cs',H'.blk b = some (.row cs' T_int true) ∧ cs'.length = cs.length ∧ At0 cs' o L.reverse ∧ ∀ i,i < o ∨ o + L.length ≤ i → cs'[i]? = cs[i]?:=by
 refine AFn.enter mixed ir_slices_Reverse_Lint_int_eq (by simp [ir_slices_Reverse_Lint_int]) fun hw => ?_
 simp (disch:=omega) [-getElem?_pos,if_pos,if_neg,decide_eq_true,decide_eq_false,ir_slices_Reverse_Lint_int,IntWalk.i64_in]
 refine wpC_use (loop_upto L.length (RvI H b o (.slice (some ⟨b,o,sp⟩) L.length c) cs L) (Q:=fun e env H' => e = .exit 0 ∧ WF H' ∧ Keep [b] H H' ∧ ∃ cs',H'.blk b = some (.row cs' T_int true) ∧ cs'.length = cs.length ∧ At0 cs' o L.reverse ∧ ∀ i,i < o ∨ o + L.length ≤ i → cs'[i]? = cs[i]?) ⟨by simp,by simp,by simp,by omega,hw,.refl,cs,hb,rfl,by rw [revK_zero]; exact hL,fun _ _ => rfl⟩ ?_) ?_
 ·rintro k env H' hk ⟨e0,e2,e3,h2k,w',k',cs',hb',hlen,hat,hout⟩
  have hbn:=w' b _ hb'
  by_cases hkn : (k : Int) < (L.length : Int) - 1 - k
  ·obtain ⟨j,hj⟩ : ∃ j : Nat,j = L.length - 1 - k:=⟨_,rfl⟩
   have hjj : (L.length : Int) - 1 - k = j:=by omega
   have hkj : k < j:=by omega
   have hrl:=revK_len (L:=L) (k:=k)
   have hge : ∀ i (h : i < L.length),(revK L k)[i]'(by omega) = if i < k ∨ L.length ≤ i + k then L.getD (L.length - 1 - i) 0 else L.getD i 0:=fun i h => by simp [revK]
   have hge1 : ∀ i (h : i < L.length),(revK L (k + 1))[i]'(by rw [revK_len]; exact h) = if i < k + 1 ∨ L.length ≤ i + (k + 1) then L.getD (L.length - 1 - i) 0 else L.getD i 0:=fun i h => by simp [revK]
   have x1:=hat k (by omega)
   have x2:=hat j (by omega)
   rw [hge k (by omega),if_neg (by omega)] at x1
   rw [hge j (by omega),if_neg (by omega)] at x2
   rw [hjj] at e3
   have hkl : k < L.length:=by omega
   have hjl : j < L.length:=by omega
   generalize hx : L.getD k 0 = x at *
   generalize hy : L.getD j 0 = y at *
   have cb:=AH.cells_of hb'
   have wr1:=writeA_of (off:=o + k) (news:=[Value.int .i64 y]) hb' (by simp; omega)
   have hl1 : (over cs' (o + k) [Value.int .i64 y]).length = cs'.length:=over_length (by simp; omega)
   have wr2:=writeA_of (H:=H'.set b (.row (over cs' (o + k) [Value.int .i64 y]) T_int true)) (off:=o + j) (news:=[Value.int .i64 x]) AH.set_blk_same (by simp [hl1]; omega)
   generalize hcc : over (over cs' (o + k) [Value.int .i64 y]) (o + j) [Value.int .i64 x] = cs2 at *
   have hl2 : cs2.length = cs.length:=by rw [← hcc,over_length (by simp [hl1]; omega),hl1,hlen]
   have hg2 : ∀ i,cs2[i]? = if i = o + j then some (.int .i64 x) else if i = o + k then some (.int .i64 y) else cs'[i]?:=fun i => by
    rw [← hcc,over_get' (by simp [hl1]; omega),over_get' (by simp; omega)]
    simp only [List.length_cons,List.length_nil]
    by_cases h1 : i = o + j
    ·subst h1; simp
    ·rw [if_neg (by omega),if_neg h1]
     by_cases h2 : i = o + k
     ·subst h2; simp
     ·rw [if_neg (by omega),if_neg h2]
   simp (disch:=omega) [-getElem?_pos,if_pos,if_neg,decide_eq_true,decide_eq_false,ir_slices_Reverse_Lint_int_l0,e0,e2,e3,hkj,hkl,hjl,cb,x1,x2,wr1,wr2,IntWalk.i64_in]
   refine ⟨by simp [e0],by simp,by simp; omega,by omega,w'.set hbn,k'.trans' ⟨Nat.le_refl _,fun a _ ha => AH.set_blk_ne (by simpa using ha)⟩,cs2,AH.set_blk_same,hl2,fun i hi => ?_,fun i hi => ?_⟩
   ·rw [revK_len] at hi
    rw [hge1 i hi,hg2]
    by_cases h1 : i = j
    ·subst h1
     rw [if_pos rfl,if_pos (by omega),show L.length - 1 - i = k by omega,hx]
    ·by_cases h2 : i = k
     ·subst h2
      rw [if_neg (by omega),if_pos rfl,if_pos (by omega),show L.length - 1 - i = j by omega,hy]
     ·rw [if_neg (by omega),if_neg (by omega),hat i (by omega),hge i hi]
      by_cases h3 : i < k ∨ L.length ≤ i + k
      ·rw [if_pos h3,if_pos (by omega)]
      ·rw [if_neg h3,if_neg (by omega)]
   ·rw [hg2,if_neg (by omega),if_neg (by omega)]; exact hout i hi
  ·simp (disch:=omega) [-getElem?_pos,if_pos,if_neg,decide_eq_true,decide_eq_false,ir_slices_Reverse_Lint_int_l0,e0,e2,e3,hkn]
   rw [revK_all (by omega)] at hat
   exact ⟨w',k',cs',hb',hlen,hat,hout⟩
 ·rintro e env2 H' ⟨rfl,w',k',cs',h1,h2,h3,h4⟩ hu
  simp (disch:=omega) [-getElem?_pos,if_pos,if_neg,decide_eq_true,decide_eq_false,]
  exact ⟨w',k',cs',h1,h2,h3,h4⟩
end Go.Proofs.YtlcddhgfkkjhkaaDoor.Br
namespace Go.Abs
open Go
def iC (X : List Int) : List Value:=X.map (.int .i64)
theorem iC_len {X : List Int} : (iC X).length = X.length:=by simp [iC]
theorem iC_get {X : List Int} {i : Nat} (h : i < X.length) : (iC X)[i]? = some (.int .i64 (X.getD i 0)):=by
 simp [iC,h]
theorem iC_of {cs : List Value} {X : List Int} (hl : cs.length = X.length) (h : ∀ i,i < X.length → cs[i]? = some (.int .i64 (X.getD i 0))) : cs = iC X:=by
 apply List.ext_getElem?
 intro i
 by_cases hi : i < X.length
 ·rw [h i hi,iC_get hi]
 ·rw [List.getElem?_eq_none (by omega),List.getElem?_eq_none (by rw [iC_len]; omega)]
theorem iC_set {X : List Int} {i : Nat} {a : Int} (h : i < X.length) : over (iC X) i [.int .i64 a] = iC (X.set i a):=by
 rw [over_one (by rw [iC_len]; exact h)]
 simp [iC,List.map_set]
def FallsFrom (X : List Int) (m : Nat) : Prop:=∀ j,m ≤ j → j + 1 < X.length → X.getD (j + 1) 0 ≤ X.getD j 0
theorem FallsFrom.none {X : List Int} {m : Nat} (h : FallsFrom X m) : nextL (X.drop m) = none:=by
 refine next_none.2 (falls fun i hi => ?_)
 have:=h (m + i) (by omega) (by simp at hi; omega)
 simp at hi
 rw [List.getElem_drop,List.getElem_drop]
 rw [List.getD_eq_getElem?_getD,List.getD_eq_getElem?_getD,List.getElem?_eq_getElem (by omega),List.getElem?_eq_getElem (by omega)] at this
 exact this
theorem next_step {X : List Int} {f m k : Nat} (hf : f ≤ m) (hk : k < X.length) (hmk : m < k) (hfall : FallsFrom X (m + 1)) (hgt : X.getD m 0 < X.getD k 0) (hle : ∀ j,k < j → j < X.length → X.getD j 0 ≤ X.getD m 0) :
  nextL (X.drop f) = some ((X.drop f).take (m - f) ++ X.getD k 0 :: ((X.drop (m + 1)).set (k - (m + 1)) (X.getD m 0)).reverse):=by
 have hm : m < X.length:=by omega
 have hsp : X.drop f = (X.drop f).take (m - f) ++ X.drop m:=by
  conv => lhs; rw [← List.take_append_drop (m - f) (X.drop f)]
  rw [List.drop_drop,show f + (m - f) = m by omega]
 have hdm : X.drop m = X.getD m 0 :: X.drop (m + 1):=by
  rw [List.getD_eq_getElem?_getD,List.getElem?_eq_getElem hm]
  exact (List.getElem_cons_drop hm).symm
 conv => lhs; rw [hsp]
 refine next_front ?_
 rw [hdm,next_cons,hfall.none]
 generalize hL : X.drop (m + 1) = L
 have hLl : L.length = X.length - (m + 1):=by rw [← hL,List.length_drop]
 have hLg : ∀ i,i < L.length → L.getD i 0 = X.getD (m + 1 + i) 0:=fun i hi => by
  rw [← hL,List.getD_eq_getElem?_getD,List.getD_eq_getElem?_getD,List.getElem?_drop]
 have hrev : ∀ i,i < L.length → L.reverse.getD i 0 = L.getD (L.length - 1 - i) 0:=fun i hi => by
  rw [List.getD_eq_getElem?_getD,List.getD_eq_getElem?_getD,List.getElem?_reverse hi]
 have hkl : k - (m + 1) < L.length:=by omega
 have hfi : L.reverse.findIdx? (fun y => decide (X.getD m 0 < y)) = some (L.length - 1 - (k - (m + 1))):=by
  rw [List.findIdx?_eq_some_iff_getElem]
  refine ⟨by rw [List.length_reverse]; omega,?_,fun j hj => ?_⟩
  ·rw [List.getElem_reverse]
   have h1 : L[L.length - 1 - (L.length - 1 - (k - (m + 1)))]'(by omega) = L.getD (k - (m + 1)) 0:=by
    rw [List.getD_eq_getElem?_getD,List.getElem?_eq_getElem hkl]
    have : L.length - 1 - (L.length - 1 - (k - (m + 1))) = k - (m + 1):=by omega
    simp [this]
   rw [h1,hLg _ hkl,show m + 1 + (k - (m + 1)) = k by omega]
   simpa using hgt
  ·rw [List.getElem_reverse]
   have h1 : L[L.length - 1 - j]'(by omega) = L.getD (L.length - 1 - j) 0:=by
    rw [List.getD_eq_getElem?_getD,List.getElem?_eq_getElem (by omega)]; rfl
   rw [h1,hLg _ (by omega)]
   have:=hle (m + 1 + (L.length - 1 - j)) (by omega) (by omega)
   simp only [decide_eq_true_eq]; omega
 rw [hfi]
 show some _ = some _
 congr 1
 rw [hrev _ (by omega),show L.length - 1 - (L.length - 1 - (k - (m + 1))) = k - (m + 1) by omega,hLg _ hkl,show m + 1 + (k - (m + 1)) = k by omega]
 congr 1
 apply List.ext_getElem (by simp)
 intro i h1 h2
 simp only [List.length_set,List.length_reverse] at h1 h2
 simp only [List.getElem_set,List.getElem_reverse,List.length_set]
 by_cases hi : L.length - 1 - (k - (m + 1)) = i
 ·rw [if_pos hi,if_pos (by omega)]
 ·rw [if_neg hi,if_neg (by omega)]
end Go.Abs
namespace Go.Proofs.YtlcddhgfkkjhkaaDoor.Br
open Go Go.Abs
def Nx1I (H : AH) (b : Nat) (X : List Int) (f : Nat) (k : Nat) (env : Env) (H' : AH) : Prop :=
 H' = H ∧ env 0 = some (.slice (some ⟨b,0,none⟩) X.length X.length) ∧ env 1 = some (.int .i64 f) ∧ env 5 = some (.int .i64 ((X.length : Int) - 2 - k)) ∧ FallsFrom X (X.length - 1 - k)
def Nx1Q (H : AH) (X : List Int) (f : Nat) (e : AExit) (env : Env) (H' : AH) : Prop :=
 H' = H ∧ e = .exit 0 ∧ ((∃ i : Int,env 5 = some (.int .i64 i) ∧ i < f ∧ FallsFrom X f) ∨ ∃ m : Nat,env 5 = some (.int .i64 m) ∧ f ≤ m ∧ m + 1 < X.length ∧ X.getD m 0 < X.getD (m + 1) 0 ∧ FallsFrom X (m + 1))
theorem next_l1 {H : AH} {b : Nat} {X : List Int} {f : Nat} (hb : H.cells b = some (iC X)) (hX : X.length ≤ 1000) (hf : f ≤ 1000) {env : Env} (h : Nx1I H b X f 0 env H) : wpC Tryd.prog 63 (.loop ir_brute_next_l1) (Nx1Q H X f) env H:=by
 refine loop_upto X.length (Nx1I H b X f) (Q:=Nx1Q H X f) h ?_
 rintro k env H' hk ⟨rfl,e0,e1,e5,hF⟩
 by_cases hi : (f : Int) ≤ (X.length : Int) - 2 - k
 ·obtain ⟨m,hm⟩ : ∃ m : Nat,(X.length : Int) - 2 - k = m:=⟨X.length - 2 - k,by omega⟩
  rw [hm] at e5
  have hml : m < X.length:=by omega
  have hml1 : m + 1 < X.length:=by omega
  have hfm : (f : Int) ≤ (m : Int):=by omega
  have g1:=iC_get hml
  have g2:=iC_get hml1
  have hF' : FallsFrom X (m + 1):=by rw [show m + 1 = X.length - 1 - k by omega]; exact hF
  generalize hx : X.getD m 0 = x at *
  generalize hy : X.getD (m + 1) 0 = y at *
  generalize hcs : iC X = cs at *
  by_cases hxy : y ≤ x
  ·simp (disch:=omega) [-getElem?_pos,if_pos,if_neg,decide_eq_true,decide_eq_false,ir_brute_next_l1,e0,e1,e5,hfm,hml,hml1,hb,g1,g2,hxy,IntWalk.i64_in]
   refine ⟨by omega,rfl,by simp [e0],by simp [e1],by simp; omega,fun j hj hj2 => ?_⟩
   by_cases hjm : j = m
   ·subst hjm; rw [hx,hy]; exact hxy
   ·exact hF' j (by omega) hj2
  ·simp (disch:=omega) [-getElem?_pos,if_pos,if_neg,decide_eq_true,decide_eq_false,ir_brute_next_l1,e0,e1,e5,hfm,hml,hml1,hb,g1,g2,hxy,IntWalk.i64_in]
   exact ⟨rfl,rfl,.inr ⟨m,by simp [e5],by omega,hml1,by rw [hx,hy]; omega,hF'⟩⟩
 ·have hi' : ((f : Int) ≤ (X.length : Int) - 2 - k) = False:=eq_false hi
  generalize hii : (X.length : Int) - 2 - k = i at *
  simp (disch:=omega) [-getElem?_pos,if_pos,if_neg,decide_eq_true,decide_eq_false,ir_brute_next_l1,e0,e1,e5,hi',IntWalk.i64_in]
  refine ⟨rfl,rfl,.inl ⟨i,by simp [e5],by omega,fun j hj hj2 => hF j (by omega) hj2⟩⟩
def Nx0I (H : AH) (b : Nat) (X : List Int) (m : Nat) (k : Nat) (env : Env) (H' : AH) : Prop :=
 H' = H ∧ env 0 = some (.slice (some ⟨b,0,none⟩) X.length X.length) ∧ env 5 = some (.int .i64 m) ∧ env 6 = some (.int .i64 ((X.length : Int) - 1 - k)) ∧ ∀ j,X.length - 1 - k < j → j < X.length → X.getD j 0 ≤ X.getD m 0
def Nx0Q (H : AH) (X : List Int) (m : Nat) (e : AExit) (env : Env) (H' : AH) : Prop :=
 H' = H ∧ e = .exit 2 ∧ ∃ k : Nat,env 6 = some (.int .i64 k) ∧ m < k ∧ k < X.length ∧ X.getD m 0 < X.getD k 0 ∧ ∀ j,k < j → j < X.length → X.getD j 0 ≤ X.getD m 0
theorem next_l0 {H : AH} {b : Nat} {X : List Int} {m : Nat} (hb : H.cells b = some (iC X)) (hX : X.length ≤ 1000) (hm : m + 1 < X.length) (hgt : X.getD m 0 < X.getD (m + 1) 0) {env : Env} (h : Nx0I H b X m 0 env H) : wpC Tryd.prog 63 (.loop ir_brute_next_l0) (Nx0Q H X m) env H:=by
 refine loop_upto (X.length - 1 - m) (Nx0I H b X m) (Q:=Nx0Q H X m) h ?_
 rintro k env H' hk ⟨rfl,e0,e5,e6,hF⟩
 obtain ⟨j,hj⟩ : ∃ j : Nat,(X.length : Int) - 1 - k = j:=⟨X.length - 1 - k,by omega⟩
 rw [hj] at e6
 have hjl : j < X.length:=by omega
 have hml : m < X.length:=by omega
 have g1:=iC_get hjl
 have g2:=iC_get hml
 have hjm : j = X.length - 1 - k:=by omega
 rw [← hjm] at hF
 have hne : X.getD j 0 ≤ X.getD m 0 → m + 1 < j ∨ j = m:=fun h => by
  by_cases h1 : j = m + 1
  ·subst h1; omega
  ·omega
 generalize hx : X.getD m 0 = x at *
 generalize hy : X.getD j 0 = y at *
 generalize hcs : iC X = cs at *
 by_cases hxy : y ≤ x
 ·by_cases hkk : k < X.length - 1 - m
  ·simp (disch:=omega) [-getElem?_pos,if_pos,if_neg,decide_eq_true,decide_eq_false,ir_brute_next_l0,e0,e5,e6,hjl,hml,hb,g1,g2,hxy,IntWalk.i64_in]
   refine ⟨hkk,rfl,by simp [e0],by simp [e5],by simp; omega,fun i hi hi2 => ?_⟩
   by_cases hij : i = j
   ·subst hij; rw [hx,hy]; exact hxy
   ·rw [hx]; exact hF i (by omega) hi2
  ·have : j = m:=by omega
   have h1:=hF (m + 1) (by omega) hm
   omega
 ·simp (disch:=omega) [-getElem?_pos,if_pos,if_neg,decide_eq_true,decide_eq_false,ir_brute_next_l0,e0,e5,e6,hjl,hml,hb,g1,g2,hxy,IntWalk.i64_in]
  refine ⟨rfl,rfl,j,by simp [e6],?_,hjl,by rw [hx,hy]; omega,fun i h1 h2 => by rw [hx]; exact hF i h1 h2⟩
  have : j ≠ m:=fun h => by subst h; omega
  omega
def NextP (H : AH) (b : Nat) (X : List Int) (f : Nat) (u : Value) (H' : AH) : Prop :=
 match nextL (X.drop f) with
 | some Z => u = .bool true ∧ WF H' ∧ Keep [b] H H' ∧ H'.blk b = some (.row (iC (X.take f ++ Z)) T_int true)
 | none => u = .bool false ∧ H' = H
theorem next_spec {H : AH} {b : Nat} {X : List Int} {f : Nat} (hb : H.blk b = some (.row (iC X) T_int true)) (hX : X.length ≤ 1000) (hf : f ≤ X.length) : AFn Tryd.prog F_brute_next [.slice (some ⟨b,0,none⟩) X.length X.length,.int .i64 f] H (NextP H b X f):=by
 refine AFn.enter mixed ir_brute_next_eq (by simp [ir_brute_next]) fun hw => ?_
 have cb:=AH.cells_of hb
 simp (disch:=omega) [-getElem?_pos,if_pos,if_neg,decide_eq_true,decide_eq_false,ir_brute_next,IntWalk.i64_in]
 refine wpC_use (next_l1 (b:=b) (X:=X) (f:=f) cb hX (by omega) ⟨rfl,by simp,by simp,by simp,fun j h1 h2 => by omega⟩) ?_
 rintro e env1 H' ⟨rfl,rfl,hq⟩ hu
 have u0:=hu 0 (by decide)
 have u1:=hu 1 (by decide)
 rcases hq with ⟨i,e5,hi,hF⟩ | ⟨m,e5,hfm,hm1,hgt,hF⟩
 ·have hn:=hF.none
  simp (disch:=omega) [-getElem?_pos,if_pos,if_neg,decide_eq_true,decide_eq_false,e5,u0,u1,hi]
  unfold NextP
  rw [hn]
  exact ⟨rfl,rfl⟩
 ·have hmf : ¬ (m : Int) < (f : Int):=by omega
  simp (disch:=omega) [-getElem?_pos,if_pos,if_neg,decide_eq_true,decide_eq_false,e5,u0,u1,hmf,IntWalk.i64_in]
  refine wpC_use (next_l0 (b:=b) (X:=X) (m:=m) cb hX hm1 hgt ⟨rfl,by simp [u0],by simp [e5],by simp,fun j h1 h2 => by omega⟩) ?_
  rintro e env2 H2 ⟨rfl,rfl,k,e6,hmk,hk,hgk,hle⟩ hu2
  have v0:=hu2 0 (by decide)
  have v5:=hu2 5 (by decide)
  simp only [upd_apply] at v0 v5
  have hml : m < X.length:=by omega
  have hst:=next_step hfm hk hmk hF hgk hle
  have g1:=iC_get hk
  have g2:=iC_get hml
  have w1:=writeA_of (off:=m) (news:=[Value.int .i64 (X.getD k 0)]) hb (by rw [iC_len]; simp; omega)
  rw [iC_set hml] at w1
  have hkl1 : k < (X.set m (X.getD k 0)).length:=by rw [List.length_set]; exact hk
  have w2:=writeA_of (H:=H2.set b (.row (iC (X.set m (X.getD k 0))) T_int true)) (off:=k) (news:=[Value.int .i64 (X.getD m 0)]) AH.set_blk_same (by rw [iC_len]; simp; omega)
  rw [iC_set hkl1,AH.set_set] at w2
  generalize hY : (X.set m (X.getD k 0)).set k (X.getD m 0) = Y at *
  have hYl : Y.length = X.length:=by rw [← hY]; simp
  have hYd : Y.drop (m + 1) = (X.drop (m + 1)).set (k - (m + 1)) (X.getD m 0):=by
   rw [← hY,List.drop_set,if_neg (by omega),List.drop_set,if_pos (by omega)]
  have hYt : Y.take m = X.take m:=by
   rw [← hY,List.take_set,List.take_set,List.set_eq_of_length_le (by rw [List.length_set,List.length_take]; omega),List.set_eq_of_length_le (by rw [List.length_take]; omega)]
  have hYm : Y.getD m 0 = X.getD k 0:=by
   rw [← hY,List.getD_eq_getElem?_getD,List.getElem?_set_ne (by omega),List.getElem?_set_self hml]; rfl
  have hRl : (Y.drop (m + 1)).length = X.length - (m + 1):=by rw [List.length_drop,hYl]
  have hAt : At0 (iC Y) (m + 1) (Y.drop (m + 1)):=fun i hi => by
   rw [hRl] at hi
   rw [iC_get (by omega),List.getElem_drop,List.getD_eq_getElem?_getD,List.getElem?_eq_getElem (by omega)]; rfl
  have hcm : ¬ X.length = m + 1:=by omega
  have hr:=Reverse_spec (H:=H2.set b (.row (iC Y) T_int true)) (b:=b) (o:=m + 1) (c:=X.length - (m + 1)) (sp:=none) (cs:=iC Y) (L:=Y.drop (m + 1)) AH.set_blk_same (by rw [hRl,iC_len,hYl]; omega) hAt (by rw [hRl]; omega)
  rw [hRl] at hr
  generalize hxx : X.getD k 0 = x at *
  generalize hyy : X.getD m 0 = y at *
  generalize hcs : iC X = cs at *
  simp (disch:=omega) [-getElem?_pos,if_pos,if_neg,decide_eq_true,decide_eq_false,e6,v0,v5,e5,hk,hml,cb,g1,g2,w1,w2,hcm,u0,↓ieval_sllo,slB,IntWalk.i64_in]
  refine hr.mono' fun u H3 w3 ⟨_,k3,cs3,b3,l3,a3,o3⟩ => ?_
  simp (disch:=omega) [-getElem?_pos,if_pos,if_neg,decide_eq_true,decide_eq_false,]
  unfold NextP
  rw [hst]
  refine ⟨rfl,w3,?_,?_⟩
  ·exact Keep.trans' (.set (by simp)) k3
  ·rw [b3]
   congr 2
   have hlen : (X.take f ++ ((X.drop f).take (m - f) ++ x :: ((X.drop (m + 1)).set (k - (m + 1)) y).reverse)).length = X.length:=by
    simp only [List.length_append,List.length_take,List.length_drop,List.length_cons,List.length_reverse,List.length_set]; omega
   have heq : X.take f ++ ((X.drop f).take (m - f) ++ x :: ((X.drop (m + 1)).set (k - (m + 1)) y).reverse) = Y.take (m + 1) ++ (Y.drop (m + 1)).reverse:=by
    rw [hYd,← List.append_assoc,← List.take_add,show f + (m - f) = m by omega,List.take_succ_eq_append_getElem (show m < Y.length by omega),hYt]
    have hYx : Y[m]'(by omega) = x:=by
     have h:=hYm
     rw [List.getD_eq_getElem?_getD,List.getElem?_eq_getElem (by omega)] at h
     exact h
    rw [hYx,List.append_assoc]; rfl
   rw [heq]
   refine iC_of (by rw [l3,iC_len,List.length_append,List.length_take,List.length_reverse,hRl]; omega) fun i hi => ?_
   rw [List.length_append,List.length_take,List.length_reverse,hRl] at hi
   by_cases him : i < m + 1
   ·rw [o3 i (.inl him),iC_get (by omega),List.getD_eq_getElem?_getD,List.getD_eq_getElem?_getD,List.getElem?_append_left (by rw [List.length_take]; omega),List.getElem?_take_of_lt him]
   ·have h1:=a3 (i - (m + 1)) (by rw [List.length_reverse,hRl]; omega)
    rw [show m + 1 + (i - (m + 1)) = i by omega] at h1
    rw [h1,List.getD_eq_getElem?_getD,List.getElem?_append_right (by rw [List.length_take]; omega),List.length_take,Nat.min_eq_left (by omega),List.getElem?_eq_getElem (by rw [List.length_reverse,hRl]; omega)]
    rfl
end Go.Proofs.YtlcddhgfkkjhkaaDoor.Br
namespace Go.Proofs.YtlcddhgfkkjhkaaDoor.Br
open Go Go.Abs
theorem rank_some {x : InstD} {Y : List Int} {i : Nat} (hc : x.countE = 0) (h : x.rank Y = some i) : (i : Int) < x.count ∧ x.at i = Y:=by
 by_cases hs : x.kind = 0 ∨ x.kind = 3
 ·obtain ⟨hok,N,hN,hn,hcn⟩:=count_sub hc hs
  unfold InstD.rank at h
  rw [if_pos hs,hn] at h
  have e0 : ((0 : Nat) : Int) - 1 = -1:=rfl
  obtain ⟨m,q1,q2,q3⟩:=mask_inj (n:=N) N (k:=0) (l:=Y) (r:=i) (by omega) (by rw [e0]; exact h)
  obtain ⟨m',r1,r2,r3⟩:=mask_inj (n:=N) 20 (k:=0) (l:=Y) (r:=i) (by omega) (by rw [e0]; exact h)
  simp only [Nat.pow_zero,Nat.mul_one] at q1 r1
  subst q1
  subst r1
  refine ⟨by rw [hcn]; omega,?_⟩
  unfold InstD.at
  rw [if_pos hs]; exact r3
 ·obtain ⟨hok,hf1,hf2,hcn,hcl⟩:=count_ord hc hs
  unfold InstD.rank placeO at h
  rw [if_neg hs] at h
  by_cases hl : Y.length = x.cost.length ∧ Y.take (fix1 x.kind) = restL 0 (fix1 x.kind)
  ·rw [if_pos hl] at h
   obtain ⟨q1,q2⟩:=place_inj (by rw [List.length_drop,restL_len,hl.1]) h
   rw [restL_len] at q1 q2
   refine ⟨by rw [hcn]; omega,?_⟩
   unfold InstD.at
   rw [if_neg hs,q2,← hl.2,List.take_append_drop]
  ·rw [if_neg hl] at h; cases h
theorem chosen_max3 : ∀ (f : Nat) {k m : Nat},(chosenL f k m).length ≤ f
 | 0,k,m => by simp [chosenL]
 | f + 1,k,m => by
  have ih:=chosen_max3 f (k:=k + 1) (m:=m / 2)
  unfold chosenL
  split
  ·simp
  ·rw [List.length_append]
   split <;> simp <;> omega
end Go.Proofs.YtlcddhgfkkjhkaaDoor.Br
namespace Go.Proofs.YtlcddhgfkkjhkaaDoor.Br
open Go Go.Abs
theorem CloneI_spec {p : Nat → Prop} {H : AH} {v : Value} {L : List Int} (h : SlV p H v L) (hl : L.length ≤ 100000) : AFn Tryd.prog F_slices_Clone_Lint_int [v] H fun u H' => NewL H u L H':=by
 refine AFn.enter mixed ir_slices_Clone_Lint_int_eq (by simp [ir_slices_Clone_Lint_int]) fun hw => ?_
 by_cases hv : ∃ c,v = .slice none L.length c
 ·obtain ⟨c,rfl⟩:=hv
  have h0 : L = []:=by
   apply Classical.byContradiction
   intro hne
   obtain ⟨b,off,sp,cap,cs,hcv,_⟩:=ints_rd h (List.length_pos_iff.2 hne)
   cases hcv
  subst h0
  have hc : c = 0:=by
   obtain ⟨_,cells,⟨_,h2⟩,_⟩:=h
   rcases h2 with ⟨_,a,c2,e,hac⟩ | ⟨b,off,sp,cap,cs,e,_⟩
   ·cases e; exact hac rfl
   ·cases e
  subst hc
  simp (disch:=omega) [-getElem?_pos,if_pos,if_neg,decide_eq_true,decide_eq_false,ir_slices_Clone_Lint_int]
  exact ⟨[],.nil,.refl,by simp⟩
 ·obtain ⟨a,c,rfl⟩:=h.slice
  cases a with
  | none => exact absurd ⟨c,rfl⟩ hv
  | some a =>
   have h1:=h.kept hw (.alloc (B:=.row [] T_int true))
   have ho : OwnL (fun _ => False) (H.alloc (.row [] T_int true)) T_int (.slice (some ⟨H.next,0,none⟩) 0 0) ([] : List Int) [H.next]:=⟨[],.inr ⟨H.next,0,none,0,[],rfl,rfl,by simp,by simp,by simp,by simp,.inl rfl⟩,fun i hi => by simp at hi,by simp⟩
   obtain ⟨cells,hc,hv2⟩ : ∃ cells,Vw (fun _ => True) (H.alloc (.row [] T_int true)) 1 (.slice (some a) L.length c) L.length cells ∧ ∀ i (hi : i < L.length),Ren.R (fun _ => False) (H.alloc (.row [] T_int true)) (chunk 1 i cells) L[i]:=by
    obtain ⟨_,cells,q1,q2⟩:=h1
    exact ⟨cells,q1.sub (fun _ _ => trivial) .refl,q2⟩
   obtain ⟨cc,o1,o2,o3⟩:=ho
   obtain ⟨v',H',S',q1,q2,q3,q4,q5,q6⟩:=o1.append hw.alloc (bytes:=8) (m:=L.length) (news:=cells) (by rw [hc.1]; rfl) (by simp; omega) (by simp; omega)
   obtain ⟨a',c',rfl⟩:=q2.slice
   have he:=hc.elems
   have hcc : cc = []:=by have:=o1.len; simpa using this
   subst hcc
   simp only [List.length_nil,Nat.zero_add,List.nil_append,sz_int] at q1 q2
   simp (disch:=omega) [-getElem?_pos,if_pos,if_neg,decide_eq_true,decide_eq_false,ir_slices_Clone_Lint_int,he,q1]
   refine ⟨S',⟨cells,q2,hv2,by simp⟩,⟨by have:=q4.next; simp at this; omega,fun b hb _ => by rw [q4.blk b (by simp; omega) (by simp; omega),AH.alloc_blk_ne (by omega)]⟩,fun b hb => ?_⟩
   rcases q6 b hb with h | h
   ·simp at h; omega
   ·simp at h; omega
structure Yld (l n0 C : Nat) (at' : Nat → List Int) (O : List Nat) (Inv : Nat → AH → Prop) (Fin : AH → Prop) : Prop where
 keep : ∀ k H H',Inv k H → WF H → n0 ≤ H.next → Keep O H H' → Inv k H'
 fin : ∀ H H',Fin H → WF H → n0 ≤ H.next → Keep O H H' → Fin H'
 step : ∀ k H v,k < C → Inv k H → WF H → n0 ≤ H.next → SlV (fun b => n0 ≤ b ∧ b < H.next ∧ b ∉ O) H v (at' k) →
  AYield Tryd.prog l [v] H fun r H' => H.next ≤ H'.next ∧ (∀ b ∈ O,H'.blk b = H.blk b) ∧ ((r = .bool true ∧ Inv (k + 1) H') ∨ (r = .bool false ∧ Fin H'))
def ordAt (n f : Nat) (k : Nat) : List Int:=restL 0 f ++ orderL (n - f) (restL f n) k
def Or1I (H : AH) (n : Nat) (k : Nat) (env : Env) (H' : AH) : Prop :=
 env 6 = some (.slice (some ⟨H.next,0,none⟩) n n) ∧ env 11 = some (.int .i64 n) ∧ env 12 = some (.int .i64 k) ∧ WF H' ∧ H'.next = H.next + 1 ∧ Keep [] H H' ∧ H'.blk H.next = some (.row (iC (restL 0 k ++ List.replicate (n - k) 0)) T_int true)
def Or1Q (H : AH) (n : Nat) (e : AExit) (env : Env) (H' : AH) : Prop :=
 e = .exit 0 ∧ WF H' ∧ H'.next = H.next + 1 ∧ Keep [] H H' ∧ H'.blk H.next = some (.row (iC (restL 0 n)) T_int true)
theorem restL_succ {k : Nat} : restL 0 (k + 1) = restL 0 k ++ [(k : Int)]:=by
 unfold restL
 simp [List.range_succ]
theorem orders_l1 {H H1 : AH} {n : Nat} (hn : n ≤ 1000) {env : Env} (h : Or1I H n 0 env H1) : wpC Tryd.prog 29 (.loop ir_brute_orders_l1) (Or1Q H n) env H1:=by
 refine loop_upto n (Or1I H n) (Q:=Or1Q H n) h ?_
 rintro k env H' hk ⟨e6,e11,e12,w',n',k',hb⟩
 by_cases hkn : k < n
 ·have hl : (restL 0 k ++ List.replicate (n - k) (0 : Int)).length = n:=by rw [List.length_append,restL_len,List.length_replicate]; omega
  have hst : (restL 0 k ++ List.replicate (n - k) (0 : Int)).set k (k : Int) = restL 0 (k + 1) ++ List.replicate (n - (k + 1)) 0:=by
   rw [List.set_append_right _ _ (by rw [restL_len]; omega),restL_len,restL_succ,List.append_assoc,show k - (k - 0) = 0 by omega,show n - k = (n - (k + 1)) + 1 by omega,List.replicate_succ]
   rfl
  generalize restL 0 k ++ List.replicate (n - k) (0 : Int) = X at *
  have w1:=writeA_of (off:=k) (news:=[Value.int .i64 k]) hb (by rw [iC_len]; simp; omega)
  rw [iC_set (by omega),hst] at w1
  simp (disch:=omega) [-getElem?_pos,if_pos,if_neg,decide_eq_true,decide_eq_false,ir_brute_orders_l1,e6,e11,e12,w1,IntWalk.i64_in]
  refine ⟨hkn,by simp [e6],by simp [e11],by simp,w'.set (by omega),by simp [n'],.new_set (by omega) k',AH.set_blk_same⟩
 ·obtain rfl : k = n:=by omega
  rw [Nat.sub_self,List.replicate_zero,List.append_nil] at hb
  simp (disch:=omega) [-getElem?_pos,if_pos,if_neg,decide_eq_true,decide_eq_false,ir_brute_orders_l1,e11,e12]
  exact ⟨rfl,w',n',k',hb⟩
theorem restL_get {a n i : Nat} (h : i < n - a) : (restL a n)[i]'(by rw [restL_len]; exact h) = ((a + i : Nat) : Int):=by simp [restL]
theorem ordAt_first {n f : Nat} (hf : f ≤ n) : ordAt n f 0 = restL 0 n:=by
 unfold ordAt
 rw [order_first (n - f) (by rw [restL_len])]
 apply List.ext_getElem (by simp [restL_len]; omega)
 intro i h1 h2
 rw [restL_len] at h2
 rw [restL_get h2,List.getElem_append]
 split
 ·rename_i h; rw [restL_len] at h; rw [restL_get h]
 ·rename_i h; rw [restL_len] at h
  simp only [restL_len]
  rw [restL_get (by omega)]; omega
theorem restL_sorted {a n : Nat} : (restL a n).Pairwise (· < ·):=by
 rw [List.pairwise_iff_getElem]
 intro i j hi hj hij
 rw [restL_len] at hi hj
 rw [restL_get hi,restL_get hj]; omega
theorem restL_mem {a n : Nat} {x : Int} (h : x ∈ restL a n) : 0 ≤ x ∧ x < n:=by
 obtain ⟨i,hi,rfl⟩:=List.getElem_of_mem h
 rw [restL_len] at hi
 rw [restL_get hi]; omega
theorem order_mem : ∀ (f : Nat) {left : List Int} {k : Nat},left.length = f → k < fac f → ∀ x ∈ orderL f left k,x ∈ left
 | 0,left,k,h,hk,x,hx => by simp [orderL] at hx
 | f + 1,[],k,h,hk,x,hx => by simp at h
 | f + 1,a :: l,k,h,hk,x,hx => by
  have hl : l.length = f:=by simpa using h
  have hp:=fac_pos f
  have hor : orderL (f + 1) (a :: l) k = (a :: l).getD (k / fac f) 0 :: orderL f ((a :: l).eraseIdx (k / fac f)) (k % fac f):=by rw [← hl]; rfl
  have hi : k / fac f < (a :: l).length:=by rw [h,Nat.div_lt_iff_lt_mul hp]; exact hk
  rw [hor] at hx
  rcases List.mem_cons.1 hx with rfl | hx
  ·rw [List.getD_eq_getElem?_getD,List.getElem?_eq_getElem hi]; exact List.getElem_mem _
  ·exact List.mem_of_mem_eraseIdx (order_mem f (by rw [List.length_eraseIdx_of_lt hi,h]; rfl) (Nat.mod_lt _ hp) x hx)
theorem ordAt_mem {n f k : Nat} (hf : f ≤ n) (hk : k < fac (n - f)) {x : Int} (h : x ∈ ordAt n f k) : 0 ≤ x ∧ x < n:=by
 unfold ordAt at h
 rcases List.mem_append.1 h with h | h
 ·have:=restL_mem h; omega
 ·exact restL_mem (order_mem (n - f) restL_len hk x h)
theorem SlV.cells {H : AH} {q : Nat} {X : List Int} (h : H.cells q = some (iC X)) (hX : ∀ x ∈ X,I64 x) (hl : X.length ≤ 9223372036854775807) : SlV (fun b => b = q) H (.slice (some ⟨q,0,none⟩) X.length X.length) X:=by
 have hc : cut (iC X) 0 (X.length * 1) = some (iC X):=by rw [cut_eq (by rw [iC_len]; omega),List.drop_zero,List.take_of_length_le (by rw [iC_len]; omega)]
 refine ⟨⟨hl,.of (.inl rfl)⟩,iC X,⟨by rw [iC_len]; simp,.inr ⟨q,0,none,X.length,_,rfl,Nat.le_refl _,.inl rfl,h,hc,rfl⟩⟩,fun i hi => ⟨?_,hX _ (List.getElem_mem _)⟩⟩
 apply List.ext_getElem?
 intro j
 simp only [sz_int,chunk,Nat.mul_one]
 by_cases hj : j = 0
 ·subst hj
  rw [List.getElem?_take_of_lt (by omega),List.getElem?_drop,Nat.add_zero,iC_get hi,List.getD_eq_getElem?_getD,List.getElem?_eq_getElem hi]; rfl
 ·rw [List.getElem?_eq_none (by simp; omega),List.getElem?_eq_none (by simp; omega)]
def Or0I (l n0 q n f : Nat) (Inv : Nat → AH → Prop) (k : Nat) (env : Env) (H' : AH) : Prop :=
 env 1 = some (.int .i64 f) ∧ env 2 = some (.func (.yield l) #[] #[]) ∧ env 6 = some (.slice (some ⟨q,0,none⟩) n n) ∧ WF H' ∧ q < H'.next ∧ H'.blk q = some (.row (iC (ordAt n f k)) T_int true) ∧ k < fac (n - f) ∧ Inv k H'
def Or0Q (C : Nat) (Inv : Nat → AH → Prop) (Fin : AH → Prop) (e : AExit) (env : Env) (H' : AH) : Prop:=e = .exit 2 ∧ (Inv C H' ∨ Fin H')
theorem ordAt_len {n f k : Nat} (hf : f ≤ n) (hk : k < fac (n - f)) : (ordAt n f k).length = n:=by
 unfold ordAt
 rw [List.length_append,restL_len,order_len (n - f) restL_len (by rw [restL_len]; exact hk)]; omega
theorem ordAt_next {n f k : Nat} (hf : f ≤ n) (hk : k < fac (n - f)) : nextL ((ordAt n f k).drop f) = if k + 1 < fac (n - f) then some ((ordAt n f (k + 1)).drop f) else none:=by
 have h0 : ∀ k,(ordAt n f k).drop f = orderL (n - f) (restL f n) k:=fun k => by
  unfold ordAt
  rw [List.drop_append,restL_len,List.drop_eq_nil_of_le (by rw [restL_len]; omega),show f - (f - 0) = 0 by omega]; rfl
 rw [h0,h0]
 obtain ⟨q1,q2⟩:=order_next (n - f) (left:=restL f n) (k:=k) restL_len restL_sorted hk
 by_cases h : k + 1 < fac (n - f)
 ·rw [if_pos h,q1 h]
 ·rw [if_neg h,(q2 (by omega)).2]
theorem ordAt_take {n f k : Nat} (hf : f ≤ n) : (ordAt n f k).take f = restL 0 f:=by
 unfold ordAt
 rw [List.take_append_of_le_length (by rw [restL_len]; omega),List.take_of_length_le (by rw [restL_len]; omega)]
theorem orders_l0 {l n0 q n f : Nat} {Inv : Nat → AH → Prop} {Fin : AH → Prop} (hf : f ≤ n) (hn : n ≤ 1000) (hq : n0 ≤ q) (hY : Yld l n0 (fac (n - f)) (ordAt n f) [q] Inv Fin) {env : Env} {H : AH} (h : Or0I l n0 q n f Inv 0 env H) :
  wpC Tryd.prog 29 (.loop ir_brute_orders_l0) (Or0Q (fac (n - f)) Inv Fin) env H:=by
 refine loop_upto (fac (n - f)) (Or0I l n0 q n f Inv) (Q:=Or0Q (fac (n - f)) Inv Fin) h ?_
 rintro k env H' _ ⟨e1,e2,e6,w',hqn,hb,hk,hI⟩
 have hXl:=ordAt_len hf hk
 have hXs : SlV (fun b => b < H'.next) H' (.slice (some ⟨q,0,none⟩) n n) (ordAt n f k):=by
  have h1:=SlV.cells (AH.cells_of hb) (fun x hx => by have:=ordAt_mem hf hk hx; unfold I64; omega) (by omega)
  rw [hXl] at h1
  exact h1.mono fun b hb => by subst hb; exact hqn
 simp (disch:=omega) [-getElem?_pos,if_pos,if_neg,decide_eq_true,decide_eq_false,ir_brute_orders_l0,e1,e2,e6]
 refine (CloneI_spec hXs (by omega)).mono' fun u H2 w2 ⟨S,hA,k2,hS⟩ => ?_
 have n2:=k2.next
 have hI2:=hY.keep k H' H2 hI w' (by omega) (k2.mono (by simp))
 have hv : SlV (fun b => n0 ≤ b ∧ b < H2.next ∧ b ∉ [q]) H2 u (ordAt n f k):=hA.slv (fun _ h => h.elim) (fun b hb => ⟨by have:=hS b hb; omega,hA.lt w2 b hb,by have:=hS b hb; simp; omega⟩) (by omega)
 have hb2 : H2.blk q = some (.row (iC (ordAt n f k)) T_int true):=by rw [k2.blk q hqn (by simp)]; exact hb
 obtain ⟨ua,uc,rfl⟩:=hA.slice
 simp (disch:=omega) [-getElem?_pos,if_pos,if_neg,decide_eq_true,decide_eq_false,]
 refine ACall_yield_ofB ((hY.step k H2 _ hk hI2 w2 (by omega) hv).mono_wf (Q':=fun r H' => WF H' ∧ _) fun r H3 w3 h => ⟨w3,h⟩) fun r H3 ⟨w3,n3,o3,hr⟩ => ?_
 rcases hr with ⟨rfl,hI3⟩ | ⟨rfl,hF⟩
 ·have hb3 : H3.blk q = some (.row (iC (ordAt n f k)) T_int true):=by rw [o3 q (by simp)]; exact hb2
  simp (disch:=omega) [-getElem?_pos,if_pos,if_neg,decide_eq_true,decide_eq_false,e1,e6]
  have hx:=next_spec (f:=f) hb3 (by omega) (by omega)
  rw [hXl] at hx
  refine hx.mono' fun u H4 w4 hP => ?_
  unfold NextP at hP
  rw [ordAt_next hf hk] at hP
  by_cases hk1 : k + 1 < fac (n - f)
  ·rw [if_pos hk1] at hP
   obtain ⟨rfl,_,k4,hb4⟩:=hP
   have n4:=k4.next
   simp (disch:=omega) [-getElem?_pos,if_pos,if_neg,decide_eq_true,decide_eq_false,e1,e2,e6]
   refine ⟨hk,by simp [e1],by simp [e2],by simp [e6],w4,by omega,?_,hk1,hY.keep _ _ _ hI3 w3 (by omega) k4⟩
   rw [hb4,ordAt_take hf,← ordAt_take (k:=k + 1) hf,List.take_append_drop]
  ·rw [if_neg hk1] at hP
   obtain ⟨rfl,rfl⟩:=hP
   simp (disch:=omega) [-getElem?_pos,if_pos,if_neg,decide_eq_true,decide_eq_false,]
   exact ⟨rfl,.inl (by rw [show fac (n - f) = k + 1 by omega]; exact hI3)⟩
 ·simp (disch:=omega) [-getElem?_pos,if_pos,if_neg,decide_eq_true,decide_eq_false,]
  exact ⟨rfl,.inr hF⟩
theorem orders_spec {H : AH} {l n0 n f : Nat} {Inv : Nat → AH → Prop} {Fin : AH → Prop} (hf : f ≤ n) (hn : n ≤ 1000) (hn0 : n0 ≤ H.next) (hY : Yld l n0 (fac (n - f)) (ordAt n f) [H.next] Inv Fin) (h : Inv 0 H) :
  AFn Tryd.prog F_brute_orders [.int .i64 n,.int .i64 f,.func (.yield l) #[] #[]] H fun _ H' => Inv (fac (n - f)) H' ∨ Fin H':=by
 refine AFn.enter mixed ir_brute_orders_eq (by simp [ir_brute_orders]) fun hw => ?_
 have hz : iC (restL 0 0 ++ List.replicate (n - 0) 0) = zeros [.int .i64 0] n:=by
  have h0 : restL 0 0 = []:=rfl
  rw [h0,List.nil_append,Nat.sub_zero]
  clear hY h hn hf
  induction n with
  | zero => rfl
  | succ n ih => rw [List.replicate_succ,zeros,← ih]; rfl
 simp (disch:=omega) [-getElem?_pos,if_pos,if_neg,decide_eq_true,decide_eq_false,ir_brute_orders,IntWalk.i64_in]
 refine wpC_use (orders_l1 (H:=H) (n:=n) hn ⟨by simp,by simp,by simp,hw.alloc,by simp,.alloc,by rw [hz]; simp⟩) ?_
 rintro e env1 H1 ⟨rfl,w1,n1,k1,b1⟩ hu
 have u1:=hu 1 (by decide)
 have u2:=hu 2 (by decide)
 have u6:=hu 6 (by decide)
 simp only [upd_apply] at u1 u2 u6
 simp (disch:=omega) [-getElem?_pos,if_pos,if_neg,decide_eq_true,decide_eq_false,]
 refine wpC_use (orders_l0 (l:=l) (n0:=n0) (q:=H.next) hf hn hn0 hY ⟨by simp [u1],by simp [u2],by simp [u6],w1,by omega,by rw [ordAt_first hf]; exact b1,fac_pos _,hY.keep 0 H H1 h hw hn0 (k1.mono (by simp))⟩) ?_
 rintro e env2 H2 ⟨rfl,hr⟩ _
 simp (disch:=omega) [-getElem?_pos,if_pos,if_neg,decide_eq_true,decide_eq_false,]
 exact hr
theorem All_spec {H : AH} {p : Nat → Prop} {v : Value} {x : InstD} (hx : InstV p H v x) : AFn Tryd.prog F_brute_All [v] H fun u H' => ∃ iv cv sv,v = .agg (instC x iv cv sv).toArray ∧ u = .func (.func F_brute_All_1) #[] #[.pointer (some ⟨H.next,0,none⟩)] ∧ H' = H.alloc (.row (instC x iv cv sv) T_inst_Inst true):=by
 obtain ⟨iv,cv,sv,rfl,i1,i2,i3,h1,h2,h3⟩:=id hx
 refine AFn.enter mixed ir_brute_All_eq (by simp [ir_brute_All]) fun hw => ?_
 simp (disch:=omega) [-getElem?_pos,if_pos,if_neg,decide_eq_true,decide_eq_false,ir_brute_All,inst_cut]
 exact ⟨iv,cv,sv,⟨rfl,rfl,rfl⟩,rfl⟩
def MkI (l n0 C : Nat) (Inv : Nat → AH → Prop) (k : Nat) (env : Env) (H' : AH) : Prop :=
 env 0 = some (.func (.yield l) #[] #[]) ∧ env 32 = some (.int .i64 C) ∧ env 33 = some (.int .i64 k) ∧ WF H' ∧ n0 ≤ H'.next ∧ Inv k H'
def MkQ (C : Nat) (Inv : Nat → AH → Prop) (Fin : AH → Prop) (e : AExit) (env : Env) (H' : AH) : Prop:=(e = .exit 1 ∧ Inv C H') ∨ (e = .ret ∧ Fin H')
theorem masks_l0 {l n0 C : Nat} {Inv : Nat → AH → Prop} {Fin : AH → Prop} (hC : C ≤ 1048576) (hY : Yld l n0 C (chosenL 20 0) [] Inv Fin) {env : Env} {H : AH} (h : MkI l n0 C Inv 0 env H) :
  wpC Tryd.prog 42 (.loop ir_brute_All_1_l0) (MkQ C Inv Fin) env H:=by
 refine loop_upto C (MkI l n0 C Inv) (Q:=MkQ C Inv Fin) h ?_
 rintro k env H' hk ⟨e0,e32,e33,w',n',hI⟩
 by_cases hkn : k < C
 ·simp (disch:=omega) [-getElem?_pos,if_pos,if_neg,decide_eq_true,decide_eq_false,ir_brute_All_1_l0,e0,e32,e33]
  refine (chosen_spec (f:=20) (m:=k) (by omega) (by omega)).mono' fun u H2 w2 ⟨S,hA,k2,hS⟩ => ?_
  have n2:=k2.next
  have hl:=chosen_max3 20 (k:=0) (m:=k)
  have hI2:=hY.keep k H' H2 hI w' n' k2
  have hv : SlV (fun b => n0 ≤ b ∧ b < H2.next ∧ b ∉ []) H2 u (chosenL 20 0 k):=hA.slv (fun _ h => h.elim) (fun b hb => ⟨by have:=hS b hb; omega,hA.lt w2 b hb,by simp⟩) (by omega)
  obtain ⟨ua,uc,rfl⟩:=hA.slice
  simp (disch:=omega) [-getElem?_pos,if_pos,if_neg,decide_eq_true,decide_eq_false,e0]
  refine ACall_yield_ofB ((hY.step k H2 _ hkn hI2 w2 (by omega) hv).mono_wf (Q':=fun r H' => WF H' ∧ _) fun r H3 w3 h => ⟨w3,h⟩) fun r H3 ⟨w3,n3,o3,hr⟩ => ?_
  rcases hr with ⟨rfl,hI3⟩ | ⟨rfl,hF⟩
  ·simp (disch:=omega) [-getElem?_pos,if_pos,if_neg,decide_eq_true,decide_eq_false,e0,e32,e33,IntWalk.i64_in]
   exact ⟨hkn,by simp [e0],by simp [e32],by simp,w3,by omega,hI3⟩
  ·simp (disch:=omega) [-getElem?_pos,if_pos,if_neg,decide_eq_true,decide_eq_false,]
   exact .inr ⟨rfl,hF⟩
 ·obtain rfl : k = C:=by omega
  simp (disch:=omega) [-getElem?_pos,if_pos,if_neg,decide_eq_true,decide_eq_false,ir_brute_All_1_l0,e32,e33]
  exact .inl ⟨rfl,hI⟩
theorem All1_spec {H : AH} {l n0 q C : Nat} {p : Nat → Prop} {x : InstD} {iv cv sv : Value} {Inv : List Nat → Nat → AH → Prop} {Fin : List Nat → AH → Prop} (hx : InstV p H (.agg (instC x iv cv sv).toArray) x) (hq : H.cells q = some (instC x iv cv sv)) (hE : x.countE = 0) (hC : x.count = (C : Int)) (hn0 : n0 ≤ H.next)
  (hY : ∀ O,(∀ b ∈ O,n0 ≤ b) → Yld l n0 C x.at O (Inv O) (Fin O)) (h : ∀ O,(∀ b ∈ O,n0 ≤ b) → Inv O 0 H) :
  AFn Tryd.prog F_brute_All_1 [.func (.yield l) #[] #[],.pointer (some ⟨q,0,none⟩)] H fun _ H' => ∃ O,(∀ b ∈ O,n0 ≤ b) ∧ (Inv O C H' ∨ Fin O H'):=by
 refine AFn.enter mixed ir_brute_All_1_eq (by simp [ir_brute_All_1]) fun hw => ?_
 have hm2 : x.cost.length ≤ 9223372036854775807 ∧ ∃ a c,cv = .slice a x.cost.length c:=by
  obtain ⟨iv',cv',sv',e,_,_,_,_,h2,_⟩:=hx
  simp [instC] at e
  obtain ⟨_,rfl,_⟩:=e
  exact ⟨h2.max,h2.slice⟩
 obtain ⟨hm2,ca,cc,rfl⟩:=hm2
 have hq0 : cut (instC x iv (.slice ca x.cost.length cc) sv) 0 6 = some (instC x iv (.slice ca x.cost.length cc) sv):=inst_cut x iv _ sv
 simp (disch:=omega) [-getElem?_pos,if_pos,if_neg,decide_eq_true,decide_eq_false,ir_brute_All_1,hq,inst_cut]
 refine AFn.pure (Count_spec hx) ?_
 by_cases hs : x.kind = 0 ∨ x.kind = 3
 ·obtain ⟨hok,N,hN,hn,hcn⟩:=count_sub hE hs
  have hCN : C = 2 ^ N:=by rw [hC] at hcn; omega
  have hpw : (2 : Nat) ^ N ≤ 2 ^ 20:=Nat.pow_le_pow_right (by omega) (by omega)
  have hk1 : (x.kind = 1) = False:=eq_false (by omega)
  have hk2 : (x.kind = 2) = False:=eq_false (by omega)
  have hat : x.at = chosenL 20 0:=by funext k; unfold InstD.at; rw [if_pos hs]
  have hY':=hY [] (by simp)
  rw [hat] at hY'
  simp (disch:=omega) [-getElem?_pos,if_pos,if_neg,decide_eq_true,decide_eq_false,hE,hC,hq,hk1,hk2]
  refine wpC_use (masks_l0 (C:=C) (by omega) hY' ⟨by simp,by simp,by simp,hw,hn0,h [] (by simp)⟩) ?_
  rintro e env1 H1 (⟨rfl,hI⟩ | ⟨rfl,hF⟩) hu
  ·simp (disch:=omega) [-getElem?_pos,if_pos,if_neg,decide_eq_true,decide_eq_false,]
   exact ⟨[],by simp,.inl hI⟩
  ·simp (disch:=omega) [-getElem?_pos,if_pos,if_neg,decide_eq_true,decide_eq_false,]
   exact ⟨[],by simp,.inr hF⟩
 ·obtain ⟨hok,hf1,hf2,hcn,hcl⟩:=count_ord hE hs
  have hCF : C = fac (x.cost.length - fix1 x.kind):=by rw [hC] at hcn; omega
  have hat : x.at = ordAt x.cost.length (fix1 x.kind):=by funext k; unfold InstD.at ordAt; rw [if_neg hs]
  have k0:=hok.kind0
  have k4:=hok.kind4
  have hY':=hY [H.next] (by simpa using hn0)
  have h':=h [H.next] (by simpa using hn0)
  rw [hat,hCF] at hY'
  by_cases hk1 : x.kind = 1
  ·have hk1T:=eq_true hk1
   have hfx : fix1 x.kind = 0:=by unfold fix1; rw [if_neg (by omega)]
   rw [hfx] at hY' hCF
   simp (disch:=omega) [-getElem?_pos,if_pos,if_neg,decide_eq_true,decide_eq_false,hE,hC,hq,hk1T]
   refine (orders_spec (l:=l) (n0:=n0) (f:=0) (by omega) (by omega) hn0 hY' h').mono' fun u H2 w2 hr => ?_
   simp (disch:=omega) [-getElem?_pos,if_pos,if_neg,decide_eq_true,decide_eq_false,]
   exact ⟨[H.next],by simpa using hn0,by rw [hCF]; exact hr⟩
  ·have hk2 : x.kind = 2:=by omega
   have hk2T:=eq_true hk2
   have hfx : fix1 x.kind = 1:=by unfold fix1; rw [if_pos hk2]
   rw [hfx] at hY' hCF hf1
   simp (disch:=omega) [-getElem?_pos,if_pos,if_neg,decide_eq_true,decide_eq_false,hE,hC,hq,hk1,hk2T]
   refine (orders_spec (l:=l) (n0:=n0) (f:=1) (by omega) (by omega) hn0 hY' h').mono' fun u H2 w2 hr => ?_
   simp (disch:=omega) [-getElem?_pos,if_pos,if_neg,decide_eq_true,decide_eq_false,]
   exact ⟨[H.next],by simpa using hn0,by rw [hCF]; exact hr⟩
end Go.Proofs.YtlcddhgfkkjhkaaDoor.Br
namespace Go.Abs
open Go
structure LoopF (L : LoopA) (n p d : Nat) (b : ACode) : Prop where
 st : L.state = .ready
 pe : L.pending = none
 pa : L.params = [p]
 asg : L.assign = .region [⟨some d,.mv (.tmp p),none⟩] false
 bo : L.body = b
 n : L.n = n
def busyLB (L : LoopA) : LoopA:={ L with state:=.busy }
theorem yield_round {P : Program} (hm : P.follows .mixedOrders = true) {l n p d : Nat} {L : LoopA} {b : ACode} {v : Value} {H : AH} {Q : Value → AH → Prop} (hL : LoopF L n p d b) (hl : H.blk l = some (.loop L))
  (h : wpC P n b (roundK l Q) (upd (upd L.env p v) d v) (H.set l (.loop (busyLB L)))) : AYield P l [v] H Q:=by
 refine AYield.intro hm hl (by rw [hL.pa]; rfl) ?_
 rw [hL.pa,hL.asg,hL.bo,hL.n]
 simp only [putAll,wpC_region,wpO_mv,ieval,aval,upd_same,Option.map_some,andThen_some,restK_app,wpO_nil,put_some]
 exact ⟨trivial,L,hl,hL.st,h⟩
theorem LoopF.back {L : LoopA} {n p d : Nat} {b : ACode} (h : LoopF L n p d b) : ({ busyLB L with state:=.ready,pending:=none } : LoopA) = L:=by
 have h1:=h.st
 have h2:=h.pe
 cases L
 simp at h1 h2
 subst h1 h2
 rfl
theorem roundK_normal {l : Nat} {L : LoopA} {n p d : Nat} {b : ACode} (hL : LoopF L n p d b) {Q : Value → AH → Prop} {env : Env} {H : AH} (hl : H.blk l = some (.loop (busyLB L))) (h : Q (.bool true) (H.set l (.loop L))) : roundK l Q .normal env H :=
 ⟨_,hl,by rw [hL.back]; exact h⟩
theorem rangeK_end {l : Nat} {L : LoopA} {n p d : Nat} {b : ACode} (hL : LoopF L n p d b) {Q : AExit → Env → AH → Prop} {env : Env} {H : AH} (hl : H.blk l = some (.loop L)) (h : ∀ B,Q .normal env (H.set l B)) : rangeK l Q env H:=by
 unfold rangeK
 rw [hl]
 simp only [hL.st,hL.pe]
 exact ⟨by simp,h _⟩
end Go.Abs
namespace Go.Proofs.YtlcddhgfkkjhkaaDoor.Br
open Go Go.Abs
-- (.tmp 23) [24]
def bestBody : ACode:=(.block 1 (.seq (.region [⟨(some 26),(.loadN 6 (.tmp 1)),none⟩,⟨(some 27),(.mv (.tmp 11)),none⟩,⟨(some 28),(.call (.func F_eval_Cost) [(.tmp 26),(.tmp 27)]),none⟩,⟨(some 25),(.mv (.tmp 28)),none⟩,⟨(some 29),(.ext (.tmp 25) 0),none⟩,⟨(some 30),(.ext (.tmp 25) 1),none⟩,⟨(some 12),(.mv (.tmp 29)),none⟩,⟨(some 13),(.mv (.tmp 30)),none⟩] false) (.seq (.region [⟨(some 31),(.mv (.tmp 13)),none⟩,⟨(some 32),(.bin .eql (.tmp 31) (.const (.int .i64 0))),none⟩,⟨(some 33),(.mv (.tmp 32)),none⟩,⟨(some 34),(.load1 (.tmp 10)),(some (33,true))⟩,⟨(some 35),(.un .not (.tmp 34)),(some (33,true))⟩,⟨(some 36),(.mv (.tmp 35)),(some (33,true))⟩,⟨(some 37),(.mv (.tmp 12)),(some (36,false))⟩,⟨(some 38),(.load1 (.tmp 9)),(some (36,false))⟩,⟨(some 39),(.bin .lss (.tmp 37) (.tmp 38)),(some (36,false))⟩,⟨(some 40),(.pick (.tmp 36) (.const (.bool true)) (.tmp 39)),(some (33,true))⟩,⟨(some 41),(.pick (.tmp 33) (.tmp 40) (.const (.bool false))),none⟩] false) (.cond (.tmp 41) (.region [⟨(some 42),(.mv (.tmp 11)),none⟩,⟨(some 43),(.mv (.tmp 12)),none⟩,⟨none,(.store1 (.tmp 8) (.tmp 42)),none⟩,⟨none,(.store1 (.tmp 9) (.tmp 43)),none⟩,⟨none,(.store1 (.tmp 10) (.const (.bool true))),none⟩] false) .skip))))
noncomputable def bestS (x : InstD) (acc : Option (List Int × Int)) (y : List Int) : Option (List Int × Int) :=
 if x.valueE y = 0 ∧ (acc.isNone = true ∨ x.costOf y < (acc.map (·.2)).getD 0) then some (y,x.costOf y) else acc
noncomputable def bestK (x : InstD) : Nat → Option (List Int × Int)
 | 0 => none
 | k + 1 => bestS x (bestK x k) (x.at k)
noncomputable def bL (a : Option (List Int × Int)) : List Int:=(a.map (·.1)).getD []
noncomputable def bC (a : Option (List Int × Int)) : Int:=(a.map (·.2)).getD 0
abbrev New (H H1 : AH) : Nat → Prop:=fun b => H.next ≤ b ∧ b < H1.next
def set3 (H : AH) (r8 r9 r10 : Nat) (v : Value) (c : Int) (f : Bool) : AH:=((H.set r8 (.row [v] T_Lint true)).set r9 (.row [.int .i64 c] T_int64 true)).set r10 (.row [.bool f] T_bool true)
def BsI (x : InstD) (H0 : AH) (n0 r8 r9 r10 : Nat) (O : List Nat) (k : Nat) (H' : AH) : Prop :=
 n0 ≤ H'.next ∧ ∃ v,(∀ b,b < n0 → H'.blk b = (set3 H0 r8 r9 r10 v (bC (bestK x k)) (bestK x k).isSome).blk b) ∧ SlV (fun b => n0 ≤ b ∧ b < H'.next ∧ b ∉ O) H' v (bL (bestK x k))
theorem best_yld {H0 : AH} {l n0 r8 r9 r10 q C : Nat} {x : InstD} {iv cv sv : Value} {L0 : LoopA} {O : List Nat} (hw0 : WF H0) (hL : LoopF L0 47 24 11 bestBody) (hl : H0.blk l = some (.loop L0)) (hn0 : H0.next = n0) (hl8 : l ≠ r8) (hl9 : l ≠ r9) (hl10 : l ≠ r10) (h89 : r8 ≠ r9) (h810 : r8 ≠ r10) (h910 : r9 ≠ r10)
  (b8 : ∃ v,H0.blk r8 = some (.row [v] T_Lint true)) (b9 : ∃ v,H0.blk r9 = some (.row [v] T_int64 true)) (b10 : ∃ v,H0.blk r10 = some (.row [v] T_bool true)) (hq8 : q ≠ r8) (hq9 : q ≠ r9) (hq10 : q ≠ r10) (hql : q ≠ l)
  (hq : H0.cells q = some (instC x iv cv sv)) (hx : InstV (fun b => b < n0 ∧ b ≠ r8 ∧ b ≠ r9 ∧ b ≠ r10 ∧ b ≠ l) H0 (.agg (instC x iv cv sv).toArray) x)
  (e1 : L0.env 1 = some (.pointer (some ⟨q,0,none⟩))) (e8 : L0.env 8 = some (.pointer (some ⟨r8,0,none⟩))) (e9 : L0.env 9 = some (.pointer (some ⟨r9,0,none⟩))) (e10 : L0.env 10 = some (.pointer (some ⟨r10,0,none⟩))) (hO : ∀ b ∈ O,n0 ≤ b) :
  Yld l n0 C x.at O (BsI x H0 n0 r8 r9 r10 O) (fun _ => False):=by
 have hl0:=hw0 l _ hl
 have hq0:=cells_lt hw0 hq
 obtain ⟨_,b8⟩:=b8
 obtain ⟨_,b9⟩:=b9
 obtain ⟨_,b10⟩:=b10
 have h80:=hw0 r8 _ b8
 have h90:=hw0 r9 _ b9
 have h100:=hw0 r10 _ b10
 refine ⟨fun k H H' h hw hn hk => ?_,fun _ _ h => h.elim,fun k H v hk hI hw hn hv => ?_⟩
 ·obtain ⟨hnx,v,hb,hs⟩:=h
  have:=hk.next
  refine ⟨by omega,v,fun b hbn => ?_,hs.up (fun b hb => ⟨hb.1,by omega,hb.2.2⟩) (.keep hw hk fun b hb h => h.2.2 hb)⟩
  rw [hk.blk b (by omega) (fun h => by have:=hO b h; omega)]; exact hb b hbn
 ·obtain ⟨_,bv,hb,hs⟩:=hI
  have gl : H.blk l = some (.loop L0):=by rw [hb l (by omega)]; unfold set3; rw [AH.set_blk_ne hl10,AH.set_blk_ne hl9,AH.set_blk_ne hl8]; exact hl
  have g8 : H.blk r8 = some (.row [bv] T_Lint true):=by rw [hb r8 (by omega)]; unfold set3; rw [AH.set_blk_ne h810,AH.set_blk_ne h89,AH.set_blk_same]
  have g9 : H.blk r9 = some (.row [.int .i64 (bC (bestK x k))] T_int64 true):=by rw [hb r9 (by omega)]; unfold set3; rw [AH.set_blk_ne h910,AH.set_blk_same]
  have g10 : H.blk r10 = some (.row [.bool (bestK x k).isSome] T_bool true):=by rw [hb r10 (by omega)]; unfold set3; rw [AH.set_blk_same]
  have gq : ∀ b,b < n0 → b ≠ r8 ∧ b ≠ r9 ∧ b ≠ r10 → H.blk b = H0.blk b:=fun b hbn ⟨h1,h2,h3⟩ => by rw [hb b hbn]; unfold set3; rw [AH.set_blk_ne h3,AH.set_blk_ne h2,AH.set_blk_ne h1]
  refine yield_round mixed hL gl ?_
  have cq : (H.set l (.loop (busyLB L0))).cells q = some (instC x iv cv sv):=by
   rw [AH.cells_set_ne hql]
   unfold AH.cells at hq ⊢; rw [gq q (by omega) ⟨hq8,hq9,hq10⟩]; exact hq
  have hx1 : InstV (fun _ => True) (H.set l (.loop (busyLB L0))) (.agg (instC x iv cv sv).toArray) x:=hx.up (fun _ _ => trivial) fun b hbp cs hc => by
   rw [AH.cells_set_ne hbp.2.2.2.2]
   unfold AH.cells at hc ⊢; rw [gq b hbp.1 ⟨hbp.2.1,hbp.2.2.1,hbp.2.2.2.1⟩]; exact hc
  have hv1 : SlV (fun b => n0 ≤ b ∧ b < H.next ∧ b ∉ O) (H.set l (.loop (busyLB L0))) v (x.at k):=hv.sub (.set (by simp; omega))
  have hs1 : SlV (fun b => n0 ≤ b ∧ b < H.next ∧ b ∉ O) (H.set l (.loop (busyLB L0))) bv (bL (bestK x k)):=hs.sub (.set (by simp; omega))
  have f8 : (H.set l (.loop (busyLB L0))).blk r8 = some (.row [bv] T_Lint true):=by rw [AH.set_blk_ne (Ne.symm hl8)]; exact g8
  have f9 : (H.set l (.loop (busyLB L0))).blk r9 = some (.row [.int .i64 (bC (bestK x k))] T_int64 true):=by rw [AH.set_blk_ne (Ne.symm hl9)]; exact g9
  have f10 : (H.set l (.loop (busyLB L0))).blk r10 = some (.row [.bool (bestK x k).isSome] T_bool true):=by rw [AH.set_blk_ne (Ne.symm hl10)]; exact g10
  have fl : (H.set l (.loop (busyLB L0))).blk l = some (.loop (busyLB L0)):=AH.set_blk_same
  have fo : ∀ b,b ≠ l → (H.set l (.loop (busyLB L0))).blk b = H.blk b:=fun b hb => AH.set_blk_ne hb
  have nx : (H.set l (.loop (busyLB L0))).next = H.next:=rfl
  generalize H.set l (.loop (busyLB L0)) = H1 at *
  obtain ⟨va,vc,rfl⟩:=hv.slice
  have c8:=AH.cells_of f8
  have c9:=AH.cells_of f9
  have c10:=AH.cells_of f10
  have hcost:=Cost_spec hx1 hv1.any
  have hst : bestK x (k + 1) = bestS x (bestK x k) (x.at k):=rfl
  have hcv:=hv.cell
  -- what is left when nothing changes
  have stay : bestK x (k + 1) = bestK x k → H1.next ≤ (H1.set l (.loop L0)).next ∧ (∀ b ∈ O,(H1.set l (.loop L0)).blk b = H.blk b) ∧ BsI x H0 n0 r8 r9 r10 O (k + 1) (H1.set l (.loop L0)):=fun he => by
   refine ⟨Nat.le_refl _,fun b hbO => ?_,by simp; omega,bv,fun b hbn => ?_,?_⟩
   ·have:=hO b hbO
    rw [AH.set_blk_ne (by omega),fo b (by omega)]
   ·rw [he,← hb b hbn]
    by_cases h1 : b = l
    ·subst h1; rw [AH.set_blk_same]; exact gl.symm
    ·rw [AH.set_blk_ne h1,fo b h1]
   ·rw [he]
    exact hs1.up (fun b hb => ⟨hb.1,by simp; omega,hb.2.2⟩) (.set (by simp; omega))
  have move : bestK x (k + 1) = some (x.at k,x.costOf (x.at k)) → ∀ H2,H2 = set3 H1 r8 r9 r10 (.slice va (x.at k).length vc) (x.costOf (x.at k)) true → H2.blk l = some (.loop (busyLB L0)) ∧ H1.next ≤ (H2.set l (.loop L0)).next ∧ (∀ b ∈ O,(H2.set l (.loop L0)).blk b = H.blk b) ∧ BsI x H0 n0 r8 r9 r10 O (k + 1) (H2.set l (.loop L0)):=fun he H2 h2 => by
   have n2 : H2.next = H1.next:=by rw [h2]; rfl
   refine ⟨?_,by simp; omega,fun b hbO => ?_,by simp; omega,.slice va (x.at k).length vc,fun b hbn => ?_,?_⟩
   ·rw [h2]; unfold set3; rw [AH.set_blk_ne hl10,AH.set_blk_ne hl9,AH.set_blk_ne hl8]; exact fl
   ·have:=hO b hbO
    rw [AH.set_blk_ne (by omega),h2]; unfold set3; rw [AH.set_blk_ne (by omega),AH.set_blk_ne (by omega),AH.set_blk_ne (by omega),fo b (by omega)]
   ·rw [he]
    show _ = (set3 H0 r8 r9 r10 (.slice va (x.at k).length vc) (x.costOf (x.at k)) true).blk b
    by_cases h1 : b = l
    ·subst h1; rw [AH.set_blk_same]; unfold set3; rw [AH.set_blk_ne hl10,AH.set_blk_ne hl9,AH.set_blk_ne hl8]; exact hl.symm
    ·rw [AH.set_blk_ne h1,h2]
     unfold set3
     by_cases h10 : b = r10
     ·subst h10; rw [AH.set_blk_same,AH.set_blk_same]
     ·rw [AH.set_blk_ne h10,AH.set_blk_ne h10]
      by_cases h9 : b = r9
      ·subst h9; rw [AH.set_blk_same,AH.set_blk_same]
      ·rw [AH.set_blk_ne h9,AH.set_blk_ne h9]
       by_cases h8 : b = r8
       ·subst h8; rw [AH.set_blk_same,AH.set_blk_same]
       ·rw [AH.set_blk_ne h8,AH.set_blk_ne h8,fo b h1,gq b hbn ⟨h8,h9,h10⟩]
   ·rw [he]
    refine hv1.up (fun b hb => ⟨hb.1,by simp; omega,hb.2.2⟩) fun b hbp cs hc => ?_
    have:=hbp.1
    rw [AH.cells_set_ne (by omega),h2]; unfold set3; rw [AH.cells_set_ne (by omega),AH.cells_set_ne (by omega),AH.cells_set_ne (by omega)]; exact hc
  have w8:=writeA_of (off:=0) (news:=[Value.slice va (x.at k).length vc]) f8 (by simp)
  have w9:=writeA_of (H:=H1.set r8 (.row [.slice va (x.at k).length vc] T_Lint true)) (off:=0) (news:=[Value.int .i64 (x.costOf (x.at k))]) (by rw [AH.set_blk_ne (Ne.symm h89)]; exact f9) (by simp)
  have w10:=writeA_of (H:=(H1.set r8 (.row [.slice va (x.at k).length vc] T_Lint true)).set r9 (.row [.int .i64 (x.costOf (x.at k))] T_int64 true)) (off:=0) (news:=[Value.bool true]) (by rw [AH.set_blk_ne (Ne.symm h910),AH.set_blk_ne (Ne.symm h810)]; exact f10) (by simp)
  simp only [over,List.take_zero,List.nil_append,List.length_cons,List.length_nil,Nat.zero_add,List.drop_succ_cons,List.drop_zero,List.append_nil] at w8 w9 w10
  have hsv:=hst
  unfold bestS at hsv
  have hlt : (bestK x k).isSome = true → x.costOf (x.at k) < bC (bestK x k) ∨ ¬ x.costOf (x.at k) < bC (bestK x k):=fun _ => by omega
  simp (disch:=omega) [-getElem?_pos,if_pos,if_neg,decide_eq_true,decide_eq_false,bestBody,e1,cq,inst_cut]
  refine AFn.pure hcost ?_
  by_cases hE : x.valueE (x.at k) = 0
  ·by_cases hN : (bestK x k).isSome = true
   ·have hNn : (bestK x k).isNone = false:=by cases h : bestK x k <;> simp_all
    rw [hN] at c10
    by_cases hlt : x.costOf (x.at k) < bC (bestK x k)
    ·rw [if_pos ⟨hE,.inr hlt⟩] at hsv
     obtain ⟨m1,m2,m3,m4⟩:=move hsv _ rfl
     unfold set3 at m1 m2 m3 m4
     generalize bC (bestK x k) = bc at *
     generalize x.costOf (x.at k) = cc at *
     simp (disch:=omega) [-getElem?_pos,if_pos,if_neg,decide_eq_true,decide_eq_false,hE,e8,e9,e10,c9,c10,hlt,w8,w9,w10]
     exact roundK_normal hL m1 ⟨by omega,m3,rfl,m4⟩
    ·rw [if_neg (fun h => by rcases h.2 with h | h; rw [hNn] at h; cases h; exact hlt h)] at hsv
     obtain ⟨m2,m3,m4⟩:=stay hsv
     generalize bC (bestK x k) = bc at *
     generalize x.costOf (x.at k) = cc at *
     simp (disch:=omega) [-getElem?_pos,if_pos,if_neg,decide_eq_true,decide_eq_false,hE,e8,e9,e10,c9,c10,hlt]
     exact roundK_normal hL fl ⟨by omega,m3,rfl,m4⟩
   ·have hN' : (bestK x k).isSome = false:=by simpa using hN
    have hNn : (bestK x k).isNone = true:=by cases h : bestK x k <;> simp_all
    rw [hN'] at c10
    rw [if_pos ⟨hE,.inl hNn⟩] at hsv
    obtain ⟨m1,m2,m3,m4⟩:=move hsv _ rfl
    unfold set3 at m1 m2 m3 m4
    generalize bC (bestK x k) = bc at *
    generalize x.costOf (x.at k) = cc at *
    simp (disch:=omega) [-getElem?_pos,if_pos,if_neg,decide_eq_true,decide_eq_false,hE,e8,e9,e10,c9,c10,w8,w9,w10]
    exact roundK_normal hL m1 ⟨by omega,m3,rfl,m4⟩
  ·rw [if_neg (fun h => hE h.1)] at hsv
   obtain ⟨m2,m3,m4⟩:=stay hsv
   have hEF:=eq_false hE
   generalize bC (bestK x k) = bc at *
   generalize x.costOf (x.at k) = cc at *
   simp (disch:=omega) [-getElem?_pos,if_pos,if_neg,decide_eq_true,decide_eq_false,hEF,e8,e9,e10,c9,c10]
   exact roundK_normal hL fl ⟨by omega,m3,rfl,m4⟩
noncomputable def _root_.Go.Abs.InstD.best (x : InstD) : Option (List Int × Int):=bestK x x.count.toNat
theorem Best_spec {H : AH} {v : Value} {x : InstD} {C : Nat} (hx : InstV (fun b => b < H.next) H v x) (hE : x.countE = 0) (hC : x.count = (C : Int)) :
  AFn Tryd.prog F_brute_Best [v] H fun u H' => ∃ w,u = .tuple #[w,.int .i64 (bC x.best),.bool x.best.isSome,.int .i64 0] ∧ SlV (New H H') H' w (bL x.best) ∧ Keep [] H H':=by
 have hb : x.best = bestK x C:=by unfold InstD.best; rw [hC]; rfl
 rw [hb]
 obtain ⟨iv,cv,sv,rfl,i1,i2,i3,h1,h2,h3⟩:=id hx
 refine AFn.enter mixed ir_brute_Best_eq (by simp [ir_brute_Best]) fun hw => ?_
 simp (disch:=omega) [-getElem?_pos,if_pos,if_neg,decide_eq_true,decide_eq_false,ir_brute_Best,inst_cut]
 generalize hH1 : AH.alloc H _ = H1
 have k1 : Keep [] H H1:=by rw [← hH1]; exact .alloc
 have w1 : WF H1:=by rw [← hH1]; exact hw.alloc
 have n1 : H1.next = H.next + 1:=by rw [← hH1]; simp
 have c1 : H1.cells H.next = some (instC x iv cv sv):=by rw [← hH1]; simp
 clear hH1
 have hx1:=hx.kept hw k1
 generalize hq1 : H.next = q1 at *
 refine AFn.pure (Count_spec hx1) ?_
 simp (disch:=omega) [-getElem?_pos,if_pos,if_neg,decide_eq_true,decide_eq_false,hE,c1,inst_cut,writeA,over]
 generalize hH2 : AH.set (AH.set _ _ _) _ _ = H2
 have k2 : Keep [] H1 H2:=by rw [← hH2]; exact .new_set (by omega) (.new_set (by omega) (.new_alloc (.new_alloc .alloc)))
 have w2 : WF H2:=by rw [← hH2]; refine WF.set (WF.set w1.alloc.alloc.alloc ?_) ?_ <;> simp <;> omega
 have n2 : H2.next = H1.next + 3:=by rw [← hH2]; simp
 have b8 : H2.blk H1.next = some (.row [.slice none 0 0] T_Lint true):=by rw [← hH2]; simp (disch:=omega) [if_neg,if_pos]
 have b9 : H2.blk (H1.next + 1) = some (.row [.int .i64 0] T_int64 true):=by rw [← hH2]; simp (disch:=omega) [if_neg,if_pos]
 have b10 : H2.blk (H1.next + 2) = some (.row [.bool false] T_bool true):=by rw [← hH2]; simp (disch:=omega) [if_neg,if_pos]
 clear hH2
 have c2:=cells_kept w1 k2 c1
 have hx2:=hx1.kept w1 k2
 refine (All_spec hx2).mono' fun u H3 w3 ⟨iv',cv',sv',e3,hu,hH3⟩ => ?_
 subst hu
 have k3 : Keep [] H2 H3:=by rw [hH3]; exact .alloc
 have n3 : H3.next = H2.next + 1:=by rw [hH3]; simp
 have c3 : H3.cells H2.next = some (instC x iv' cv' sv'):=by rw [hH3]; simp
 clear hH3
 have hx3:=hx2.kept w2 k3
 rw [show Value.agg #[Value.int IntKind.i64 x.kind,.int .i64 x.cap,iv,cv,.int .i64 x.size,sv] = .agg (instC x iv' cv' sv').toArray from e3] at hx3
 have c13:=cells_kept w2 k3 c2
 have b83:=(k3.blk H1.next (by omega) (by simp)).trans b8
 have b93:=(k3.blk (H1.next + 1) (by omega) (by simp)).trans b9
 have b103:=(k3.blk (H1.next + 2) (by omega) (by simp)).trans b10
 simp (disch:=omega) [-getElem?_pos,if_pos,if_neg,decide_eq_true,decide_eq_false,]
 refine wpC_rangeB (p:=#[]) (q:=#[.pointer (some ⟨H2.next,0,none⟩)]) (by simp) good_brute_All_1 ?_
 generalize hLd : (LoopA.mk _ _ _ _ _ _ _ : LoopA) = L0
 have hF : LoopF L0 47 24 11 bestBody:=by rw [← hLd]; exact ⟨rfl,rfl,rfl,rfl,rfl,rfl⟩
 have f1 : L0.env 1 = some (.pointer (some ⟨q1,0,none⟩)):=by rw [← hLd]; simp
 have f8 : L0.env 8 = some (.pointer (some ⟨H1.next,0,none⟩)):=by rw [← hLd]; simp
 have f9 : L0.env 9 = some (.pointer (some ⟨H1.next + 1,0,none⟩)):=by rw [← hLd]; simp
 have f10 : L0.env 10 = some (.pointer (some ⟨H1.next + 2,0,none⟩)):=by rw [← hLd]; simp
 clear hLd
 have k4 : Keep [] H3 (H3.alloc (.loop L0)):=.alloc
 have w4 : WF (H3.alloc (.loop L0)):=w3.alloc
 have n4 : (H3.alloc (.loop L0)).next = H3.next + 1:=by simp
 have bl4 : (H3.alloc (.loop L0)).blk H3.next = some (.loop L0):=AH.alloc_blk_new
 generalize H3.alloc (.loop L0) = H4 at *
 have b84:=(k4.blk H1.next (by omega) (by simp)).trans b83
 have b94:=(k4.blk (H1.next + 1) (by omega) (by simp)).trans b93
 have b104:=(k4.blk (H1.next + 2) (by omega) (by simp)).trans b103
 have c14:=cells_kept w3 k4 c13
 have hx4:=hx3.kept w3 k4
 have e3' : Value.agg (instC x iv cv sv).toArray = .agg (instC x iv' cv' sv').toArray:=e3
 refine (All1_spec (l:=H3.next) (n0:=H4.next) (C:=C) (Inv:=fun O => BsI x H4 H4.next H1.next (H1.next + 1) (H1.next + 2) O) (Fin:=fun _ _ => False) hx4 (cells_kept w3 k4 c3) hE hC (Nat.le_refl _) (fun O hO => ?_) (fun O hO => ?_)).mono' fun u H5 w5 ⟨O,hO,hr⟩ => ?_
 ·refine best_yld (q:=q1) w4 hF bl4 rfl (by omega) (by omega) (by omega) (by omega) (by omega) (by omega) ⟨_,b84⟩ ⟨_,b94⟩ ⟨_,b104⟩ (by omega) (by omega) (by omega) (by omega) c14 ?_ f1 f8 f9 f10 hO
  rw [e3']
  exact hx4.up (fun b hb => ⟨by omega,by omega,by omega,by omega,by omega⟩) .refl
 ·refine ⟨Nat.le_refl _,.slice none 0 0,fun b hb => ?_,SlV.nil⟩
  show _ = (set3 H4 H1.next (H1.next + 1) (H1.next + 2) (.slice none 0 0) 0 false).blk b
  unfold set3
  by_cases g10 : b = H1.next + 2
  ·subst g10; rw [AH.set_blk_same]; exact b104
  ·rw [AH.set_blk_ne g10]
   by_cases g9 : b = H1.next + 1
   ·subst g9; rw [AH.set_blk_same]; exact b94
   ·rw [AH.set_blk_ne g9]
    by_cases g8 : b = H1.next
    ·subst g8; rw [AH.set_blk_same]; exact b84
    ·rw [AH.set_blk_ne g8]
 ·rcases hr with ⟨hnx,bv,hbk,hs⟩ | hF'
  ·have bl5 : H5.blk H3.next = some (.loop L0):=by rw [hbk _ (by omega)]; unfold set3; rw [AH.set_blk_ne (by omega),AH.set_blk_ne (by omega),AH.set_blk_ne (by omega)]; exact bl4
   have c8 : H5.cells H1.next = some [bv]:=by
    refine AH.cells_of (e:=T_Lint) (wr:=true) ?_
    rw [hbk _ (by omega)]; unfold set3; rw [AH.set_blk_ne (by omega),AH.set_blk_ne (by omega),AH.set_blk_same]
   have c9 : H5.cells (H1.next + 1) = some [.int .i64 (bC (bestK x C))]:=by
    refine AH.cells_of (e:=T_int64) (wr:=true) ?_
    rw [hbk _ (by omega)]; unfold set3; rw [AH.set_blk_ne (by omega),AH.set_blk_same]
   have c10 : H5.cells (H1.next + 2) = some [.bool (bestK x C).isSome]:=by
    refine AH.cells_of (e:=T_bool) (wr:=true) ?_
    rw [hbk _ (by omega)]; unfold set3; rw [AH.set_blk_same]
   refine rangeK_end hF bl5 fun B => ?_
   have d8 : (H5.set H3.next B).cells H1.next = some [bv]:=by rw [AH.cells_set_ne (by omega)]; exact c8
   have d9 : (H5.set H3.next B).cells (H1.next + 1) = some [.int .i64 (bC (bestK x C))]:=by rw [AH.cells_set_ne (by omega)]; exact c9
   have d10 : (H5.set H3.next B).cells (H1.next + 2) = some [.bool (bestK x C).isSome]:=by rw [AH.cells_set_ne (by omega)]; exact c10
   have hs6 : SlV (New H (H5.set H3.next B)) (H5.set H3.next B) bv (bL (bestK x C)):=by
    unfold New
    exact hs.up (fun b hb => ⟨by omega,by simp; omega⟩) (.set (by simp; omega))
   have k6 : Keep [] H (H5.set H3.next B):=⟨by simp; omega,fun b hb _ => by
    rw [AH.set_blk_ne (by omega),hbk b (by omega)]; unfold set3
    rw [AH.set_blk_ne (by omega),AH.set_blk_ne (by omega),AH.set_blk_ne (by omega),k4.blk b (by omega) (by simp),k3.blk b (by omega) (by simp),k2.blk b (by omega) (by simp),k1.blk b (by omega) (by simp)]⟩
   generalize H5.set H3.next B = H6 at *
   generalize bestK x C = a at *
   have hc:=hs6.cell
   simp (disch:=omega) [-getElem?_pos,if_pos,if_neg,decide_eq_true,decide_eq_false,d8,d9,d10,hc]
   exact ⟨hs6,k6⟩
  ·exact hF'.elim
end Go.Proofs.YtlcddhgfkkjhkaaDoor.Br
namespace Go.Abs
open Go
theorem mask_some {n : Int} : ∀ {l : List Int} {last : Int},Rises last n l → ∃ r,maskL n last l = some r
 | [],last,_ => ⟨0,rfl⟩
 | a :: l,last,⟨h1,h2,h3⟩ => by
  obtain ⟨r,hr⟩:=mask_some h3
  unfold maskL
  rw [if_neg (by omega),hr]
  exact ⟨_,rfl⟩
theorem erase_idx {y : Int} {left : List Int} : left.eraseIdx (left.idxOf y) = left.erase y:=(List.erase_eq_eraseIdx_of_idxOf rfl).symm
theorem place_some : ∀ {X left : List Int},X.Perm left → ∃ k,placeL left X = some k
 | [],left,_ => ⟨0,rfl⟩
 | y :: X,left,h => by
  have hy : y ∈ left:=h.subset (.head _)
  have h2 : X.Perm (left.erase y):=by
   have:=h.erase y
   rwa [List.erase_cons_head] at this
  obtain ⟨k,hk⟩:=place_some h2
  unfold placeL
  rw [if_pos hy,erase_idx,hk]
  exact ⟨_,rfl⟩
end Go.Abs
namespace Go.Proofs.YtlcddhgfkkjhkaaDoor.Br
open Go Go.Abs
theorem restL_count {a n : Nat} {y : Int} : (restL a n).count y = if (a : Int) ≤ y ∧ y < n then 1 else 0:=by
 by_cases h : (a : Int) ≤ y ∧ y < n
 ·rw [if_pos h]
  have hm : y ∈ restL a n:=by
   unfold restL
   exact List.mem_map.2 ⟨(y - a).toNat,List.mem_range.2 (by omega),by omega⟩
  exact List.Nodup.count restL_nodup |>.trans (by rw [if_pos hm])
 ·rw [if_neg h]
  refine List.count_eq_zero.2 fun hm => h ?_
  unfold restL at hm
  obtain ⟨i,hi,rfl⟩:=List.mem_map.1 hm
  have:=List.mem_range.1 hi
  omega
theorem order_perm {X : List Int} {n : Nat} (h : orderB X n = true) : X.Perm (restL 0 n):=by
 obtain ⟨h1,h2⟩:=orderB_iff.1 h
 rw [List.perm_iff_count]
 intro y
 rw [restL_count]
 split
 ·rename_i hy
  have:=h2 y.toNat (by omega)
  rwa [show ((y.toNat : Nat) : Int) = y by omega] at this
 ·rename_i hy
  refine List.count_eq_zero.2 fun hm => hy ?_
  have:=order_range n h1 h2 y hm
  omega
theorem may_rank {x : InstD} {Y : List Int} (hE : x.countE = 0) (hm : x.may Y = true) : ∃ i,x.rank Y = some i:=by
 unfold InstD.rank
 by_cases hs : x.kind = 0 ∨ x.kind = 3
 ·obtain ⟨hok,N,hN,hn,hcn⟩:=count_sub hE hs
  rw [if_pos hs]
  refine mask_some ?_
  have hc:=InstD.check_ok.2 hok
  unfold InstD.n
  rw [if_pos hc]
  unfold InstD.may at hm
  rcases hs with k0 | k3
  ·rw [if_pos k0] at hm ⊢
   simp only [Bool.and_eq_true] at hm
   exact tr_iff.1 hm.1
  ·rw [if_neg (by omega),if_neg (by omega),if_neg (by omega)] at hm ⊢
   simp only [Bool.and_eq_true] at hm
   exact tr_iff.1 hm.1
 ·obtain ⟨hok,hf1,hf2,hcn,hcl⟩:=count_ord hE hs
  have k0:=hok.kind0
  have k4:=hok.kind4
  rw [if_neg hs]
  unfold InstD.may at hm
  rw [if_neg (by omega)] at hm
  unfold placeO
  by_cases k1 : x.kind = 1
  ·rw [if_pos k1] at hm
   have hfx : fix1 x.kind = 0:=by unfold fix1; rw [if_neg (by omega)]
   have hl:=(orderB_iff.1 hm).1
   rw [hfx,if_pos ⟨hl,by simp [restL]⟩]
   exact place_some (order_perm hm)
  ·rw [if_neg k1,if_pos (by omega)] at hm
   simp only [Bool.and_eq_true,decide_eq_true_eq] at hm
   have hfx : fix1 x.kind = 1:=by unfold fix1; rw [if_pos (by omega)]
   rw [hfx] at hf1 ⊢
   have hl:=(orderB_iff.1 hm.1).1
   have hp:=order_perm hm.1
   cases Y with
   | nil => simp at hl; omega
   | cons y l =>
    have hy : y = 0:=by simpa using hm.2
    subst hy
    have h0 : restL 0 x.cost.length = 0 :: restL 1 x.cost.length:=by
     unfold restL
     obtain ⟨m,hm⟩ : ∃ m,x.cost.length = m + 1:=⟨x.cost.length - 1,by omega⟩
     rw [hm,Nat.sub_zero,List.range_succ_eq_map]
     simp
     intro a _; omega
    rw [if_pos ⟨hl,by simp [restL]⟩]
    rw [h0] at hp
    exact place_some (List.Perm.cons_inv hp)
theorem best_is {x : InstD} : ∀ {k : Nat} {Y : List Int} {c : Int},bestK x k = some (Y,c) → x.valueE Y = 0 ∧ x.costOf Y = c
 | 0,Y,c,h => by cases h
 | k + 1,Y,c,h => by
  unfold bestK bestS at h
  split at h
  ·rename_i hc
   cases h
   exact ⟨hc.1,rfl⟩
  ·exact best_is h
theorem best_least {x : InstD} : ∀ {k j : Nat},j < k → x.valueE (x.at j) = 0 → (bestK x k).isSome = true ∧ bC (bestK x k) ≤ x.costOf (x.at j)
 | 0,j,h,_ => by omega
 | k + 1,j,h,hv => by
  have hst : bestK x (k + 1) = bestS x (bestK x k) (x.at k):=rfl
  rw [hst]
  unfold bestS
  by_cases hjk : j = k
  ·subst hjk
   split
   ·exact ⟨rfl,Int.le_refl _⟩
   ·rename_i hc
    have h2 : ¬ ((bestK x j).isNone = true ∨ x.costOf (x.at j) < ((bestK x j).map (·.2)).getD 0):=fun h => hc ⟨hv,h⟩
    have h3 : ¬ (bestK x j).isNone = true:=fun h => h2 (.inl h)
    have h4 : ¬ x.costOf (x.at j) < bC (bestK x j):=fun h => h2 (.inr h)
    refine ⟨?_,by omega⟩
    cases hb : bestK x j with
    | none => rw [hb] at h3; simp at h3
    | some _ => rfl
  ·obtain ⟨h1,h2⟩:=best_least (k:=k) (j:=j) (by omega) hv
   split
   ·rename_i hc
    refine ⟨rfl,?_⟩
    show x.costOf (x.at k) ≤ _
    rcases hc.2 with h3 | h3
    ·cases hb : bestK x k with
     | none => rw [hb] at h1; cases h1
     | some _ => rw [hb] at h3; cases h3
    ·have : x.costOf (x.at k) < bC (bestK x k):=h3
     omega
   ·exact ⟨h1,h2⟩
theorem value_may {x : InstD} {Y : List Int} (h : x.valueE Y = 0) : x.check = 0 ∧ x.may Y = true:=by
 unfold InstD.valueE at h
 split at h
 ·rename_i hc
  split at h
  ·rename_i hm; exact ⟨hc,hm⟩
  ·cases h
 ·rename_i hc; exact absurd h hc
theorem best_all {x : InstD} {C : Nat} {Y : List Int} (hE : x.countE = 0) (hC : x.count = (C : Int)) (h : x.valueE Y = 0) : (bestK x C).isSome = true ∧ bC (bestK x C) ≤ x.costOf Y:=by
 obtain ⟨i,hi⟩:=may_rank hE (value_may h).2
 obtain ⟨h1,h2⟩:=rank_some hE hi
 have:=best_least (x:=x) (k:=C) (j:=i) (by omega) (by rw [h2]; exact h)
 rw [h2] at this
 exact this
end Go.Proofs.YtlcddhgfkkjhkaaDoor.Br
