/-
  package tree (1): All: the states, one by one; what is below a state.
-/
import Derived.Test.YtlcddhgfkkjhkaaDoorS
import Derived.Test.YtlcddhgfkkjhkaaDoorIrT
set_option maxRecDepth 100000
set_option linter.unusedSimpArgs false
set_option linter.unusedVariables false
namespace Go.Abs
open Go
theorem ACall_yield_of {P : Program} {l : Nat} {vs : List Value} {H : AH} {Q Q' : Value → AH → Prop} (h : AYield P l vs H Q) (hq : ∀ u H',Q u H' → Q' u H') : ACall P (.func (.yield l) #[] #[]) vs H Q' :=
 ⟨rfl,rfl,h.mono hq⟩
theorem wpC_range {P : Program} {n : Nat} {f : Operand} {ps : List Nat} {a b : ACode} {Q : AExit → Env → AH → Prop} {env : Env} {H : AH} {g : FuncId} {p q : Array Value} (hf : aval env f = some (.func (.func g) p q)) (hgood : goodFunc P g = true)
  (h : AFn P g (p.toList ++ [.func (.yield H.next) #[] #[]] ++ q.toList) (H.alloc (.loop { state:=.ready,pending:=none,env,params:=ps,assign:=a,body:=b,n })) fun _ H' => rangeK H.next Q env H') : wpC P n (.rangeFunc f ps a b) Q env H:=by
 simp only [wpC,hf]
 rw [ACall_clo hgood]
 exact ⟨good_ext hgood,h⟩
def busyL (L : LoopA) : LoopA:={ L with state:=.busy }
theorem busy_back {L : LoopA} (h1 : L.state = .ready) (h2 : L.pending = none) : ({ busyL L with state:=.ready,pending:=none } : LoopA) = L:=by
 cases L
 simp at h1 h2
 subst h1 h2
 rfl
def stkN (x : InstD) : Nat → List StD
 | 0 => [x.start]
 | k + 1 => match stkN x k with
  | [] => []
  | s :: r => (x.moves s).map (x.applyS s) ++ r
def atN (x : InstD) (k : Nat) : StD:=(stkN x k).headD zeroSt
theorem stk_ok {x : InstD} (hok : x.Ok) : ∀ k,∀ s ∈ stkN x k,StOk x s
 | 0,s,hs => by simp [stkN] at hs; subst hs; exact start_ok hok
 | k + 1,s,hs => by
  simp only [stkN] at hs
  have ih:=stk_ok hok k
  split at hs
  ·simp at hs
  ·rename_i t r he
   rw [he] at ih
   rcases List.mem_append.1 hs with h | h
   ·obtain ⟨d,hd,rfl⟩:=List.mem_map.1 h
    exact apply_ok hok (ih t (by simp)) hd
   ·exact ih s (by simp [h])
theorem stk_len {x : InstD} (hok : x.Ok) (hm : ∀ s,StOk x s → (x.moves s).length ≤ 5000) : ∀ k,(stkN x k).length ≤ 1 + 5000 * k
 | 0 => by simp [stkN]
 | k + 1 => by
  have ih:=stk_len hok hm k
  have ho:=stk_ok hok k
  simp only [stkN]
  split
  ·simp
  ·rename_i t r he
   rw [he] at ih ho
   have:=hm t (ho t (by simp))
   simp at ih ⊢
   omega
end Go.Abs
namespace Go.Proofs.YtlcddhgfkkjhkaaDoor
open Go Go.Abs
instance : Ren StD where
 sz:=6
 R:=fun p H cs s => ∃ pv uv,cs = stC s pv uv ∧ SlV p H pv s.path ∧ Bs.SetB p H (.agg #[.int .i64 s.used.length,uv]) s.used
 len:=fun h => by obtain ⟨_,_,rfl,_⟩:=h; rfl
 up:=fun hpq hs h => by
  obtain ⟨pv,uv,rfl,h1,h2⟩:=h
  exact ⟨pv,uv,rfl,h1.up hpq hs,SetB_sub h2 hpq hs⟩
@[simp] theorem sz_std : Ren.sz StD = 6:=rfl
theorem R_std {p : Nat → Prop} {H : AH} {cs : List Value} {s : StD} (h : Ren.R p H cs s) : StV p H (.agg cs.toArray) s ∧ cellsOf (.agg cs.toArray) = some cs:=by
 obtain ⟨pv,uv,rfl,h1,h2⟩:=h
 exact ⟨⟨pv,uv,rfl,h1,h2⟩,rfl⟩
theorem OwnL.pop {α : Type} [Ren α] {p : Nat → Prop} {H : AH} {ty : Nat} {a : Option Addr} {n c : Nat} {L : List α} {s : α} {S : List Nat} (h : OwnL p H ty (.slice a n c) (L ++ [s]) S) :
  ∃ b off sp cs,a = some ⟨b,off,sp⟩ ∧ S = [b] ∧ n = L.length + 1 ∧ H.cells b = some cs ∧ (sp = none ∨ sp = some (Ren.sz α)) ∧ n ≤ c ∧ (∃ e,cut cs (off + L.length * Ren.sz α) (Ren.sz α) = some e ∧ Ren.R p H e s) ∧ OwnL p H ty (.slice a L.length c) L S:=by
 obtain ⟨b,off,sp,cap,cs,hv,h2,h3,h4,h5,h6,h7,h8⟩:=h.at (by simp)
 injection hv with i1 i2 i3
 obtain ⟨e,he,hR⟩:=h8 L.length (by simp)
 rw [List.getElem_concat_length rfl] at hR
 refine ⟨b,off,sp,cs,i1,h2,by rw [i2]; simp,h4,h6,by rw [i2,i3]; exact h5,⟨e,he,hR⟩,?_⟩
 obtain ⟨cells,q1,q2,q3⟩:=h
 subst i1
 have hl : (L ++ [s]).length = L.length + 1:=by simp
 rw [hl] at q1 i2
 subst i2
 have hk:=q1.first (k:=L.length) (by omega)
 refine ⟨_,hk,fun i hi => ?_,q3⟩
 have:=q2 i (by rw [hl]; omega)
 rw [List.getElem_append_left hi] at this
 rw [chunk_take hi]
 exact this
theorem moves_I64 {x : InstD} {s : StD} (hs : s.used.length ≤ 4096) {d : Int} (hd : d ∈ x.moves s) : I64 d:=by
 unfold I64
 unfold InstD.moves at hd
 repeat' split at hd
 all_goals first | (simp at hd; done) | (simp at hd; omega) | (obtain ⟨h1,h2,_⟩:=freeL_mem.1 hd; omega)
theorem moves_max {x : InstD} {s : StD} (hok : x.Ok) (hs : StOk x s) : (x.moves s).length ≤ 5000:=by
 have:=moves_len (x:=x) (s:=s)
 have:=hs.used
 have:=slots_le hok
 omega
theorem path_max {x : InstD} {s : StD} (hok : x.Ok) (hs : StOk x s) : s.path.length ≤ 4096:=by
 have hk0:=hok.kind0
 have hk4:=hok.kind4
 have h1:=hok.few.items
 have h2:=hok.few.sets
 by_cases k0 : x.kind = 0
 ·have:=(hs.items k0).1; omega
 ·by_cases k1 : x.kind = 1
  ·have:=hs.rows k1
   have:=hok.few.sq (.inl k1); omega
  ·by_cases k2 : x.kind = 2
   ·have:=hs.tour k2
    have:=hs.used
    have:=slots_le hok
    have:=List.count_le_length (a:=true) (l:=s.used)
    omega
   ·have:=hs.sets (by omega); omega
/-! ### a range over a list from its end -/
def BwI (l q : Nat) (N : Nat) (Inv : Nat → AH → Prop) (k : Nat) (env : Env) (H' : AH) : Prop :=
 env 0 = some (.func (.yield l) #[] #[]) ∧ env 1 = some (.pointer (some ⟨q,0,none⟩)) ∧ env 3 = some (.int .i64 ((N : Int) - 1 - k)) ∧ WF H' ∧ Inv k H'
theorem back_spec {H : AH} {l q : Nat} {X : List Int} {v : Value} {Inv : Nat → AH → Prop} (hI : ∀ k H',Inv k H' → H'.cells q = some [v] ∧ SlV (fun _ => True) H' v X)
  (hst : ∀ k m (hm : m < X.length) H',k + m + 1 = X.length → Inv k H' → WF H' → AYield Tryd.prog l [.int .i64 (m : Int),.int .i64 X[m]] H' fun r H'' => r = .bool true ∧ Inv (k + 1) H'')
  (h0 : Inv 0 H) (hX : X.length ≤ 1000000) : AFn Tryd.prog F_slices_Backward_Lint_int__1 [.func (.yield l) #[] #[],.pointer (some ⟨q,0,none⟩)] H fun _ H' => Inv X.length H':=by
 refine AFn.enter mixed ir_slices_Backward_Lint_int__1_eq (by simp [ir_slices_Backward_Lint_int__1]) fun hw => ?_
 obtain ⟨c0,hv0⟩:=hI 0 H h0
 obtain ⟨va,vc,rfl⟩:=hv0.slice
 have hwr : IntKind.i64.wrap ((X.length : Int) - 1) = (X.length : Int) - 1:=IntWalk.i64_in _ (by omega)
 simp (disch:=omega) [-getElem?_pos,if_pos,if_neg,decide_eq_true,decide_eq_false,ir_slices_Backward_Lint_int__1,c0,hwr]
 refine wpC_use (loop_upto X.length (BwI l q X.length Inv) (Q:=fun e env' H' => e = .exit 0 ∧ Inv X.length H') ⟨by simp,by simp,by simp,hw,h0⟩ ?_) ?_
 ·rintro k env H' hk ⟨e0,e1,e3,w',hI'⟩
  obtain ⟨c',hv'⟩:=hI k H' hI'
  by_cases hkn : k < X.length
  ·obtain ⟨m,hm1⟩ : ∃ m,k + m + 1 = X.length:=⟨X.length - 1 - k,by omega⟩
   rw [show (X.length : Int) - 1 - k = (m : Int) by omega] at e3
   obtain ⟨b0,off,sp,cap,cs,hcv,q1,q2⟩:=ints_rd hv' (by omega)
   cases hcv
   have hml : m < X.length:=by omega
   obtain ⟨q3,q4⟩:=q2 m hml
   have hm0 : (0 : Int) ≤ (m : Int):=by omega
   have hY:=hst k m hml H' hm1 hI' w'
   have hk3 : (m : Int) - 1 = (X.length : Int) - 1 - (k + 1 : Nat):=by omega
   generalize X[m] = z at *
   simp (disch:=omega) [-getElem?_pos,if_pos,if_neg,decide_eq_true,decide_eq_false,ir_slices_Backward_Lint_int__1_l0,e0,e1,e3,c',q1,q3,hm0,hml]
   refine ACall_yield_of (hY.mono_wf (Q':=fun r H'' => WF H'' ∧ r = .bool true ∧ Inv (k + 1) H'') fun r H3 w3 h => ⟨w3,h⟩) fun r H3 ⟨w3,hr,hI3⟩ => ?_
   subst hr
   simp (disch:=omega) [-getElem?_pos,if_pos,if_neg,decide_eq_true,decide_eq_false,e0,e1,e3,IntWalk.i64_in]
   exact ⟨hkn,by simp [e0],by simp [e1],by simp; omega,w3,hI3⟩
  ·obtain rfl : k = X.length:=by omega
   have hm0 : ¬ (0 : Int) ≤ (X.length : Int) - 1 - X.length:=by omega
   simp (disch:=omega) [-getElem?_pos,if_pos,if_neg,decide_eq_true,decide_eq_false,ir_slices_Backward_Lint_int__1_l0,e3,hm0]
   exact hI'
 ·rintro e env2 H2 ⟨rfl,hI2⟩ hu
  simp (disch:=omega) [-getElem?_pos,if_pos,if_neg,decide_eq_true,decide_eq_false,]
  exact hI2
theorem BackF_spec {H : AH} {sl : Value} (h : one sl = true) (hc : cellsOf sl = some [sl]) : AFn Tryd.prog F_slices_Backward_Lint_int [sl] H fun u H' => u = .func (.func F_slices_Backward_Lint_int__1) #[] #[.pointer (some ⟨H.next,0,none⟩)] ∧ H' = H.alloc (.row [sl] T_Lint true):=by
 refine AFn.enter mixed ir_slices_Backward_Lint_int_eq (by simp [ir_slices_Backward_Lint_int]) fun hw => ?_
 simp (disch:=omega) [-getElem?_pos,if_pos,if_neg,decide_eq_true,decide_eq_false,ir_slices_Backward_Lint_int,hc]
theorem TAll_spec {H : AH} {p : Nat → Prop} {v : Value} {x : InstD} (hx : InstV p H v x) : AFn Tryd.prog F_tree_All [v] H fun u H' => ∃ iv cv sv,v = .agg (instC x iv cv sv).toArray ∧ u = .func (.func F_tree_All_1) #[] #[.pointer (some ⟨H.next,0,none⟩)] ∧ H' = H.alloc (.row (instC x iv cv sv) T_inst_Inst true):=by
 obtain ⟨iv,cv,sv,rfl,i1,i2,i3,h1,h2,h3⟩:=id hx
 refine AFn.enter mixed ir_tree_All_eq (by simp [ir_tree_All]) fun hw => ?_
 simp (disch:=omega) [-getElem?_pos,if_pos,if_neg,decide_eq_true,decide_eq_false,ir_tree_All,inst_cut]
 exact ⟨iv,cv,sv,⟨rfl,rfl,rfl⟩,rfl⟩
end Go.Proofs.YtlcddhgfkkjhkaaDoor
