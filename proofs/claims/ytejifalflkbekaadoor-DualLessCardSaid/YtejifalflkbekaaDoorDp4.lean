/-
  PLAIN LAW of package dual: which sets are essential, and which are needless.
-/
import Derived.Test.YtejifalflkbekaaDoorDp2
import Derived.Test.YtejifalflkbekaaDoorBu18
set_option maxRecDepth 100000
set_option linter.unusedSimpArgs false
set_option linter.unusedVariables false
namespace Go.Abs
open Go Go.Proofs.YtejifalflkbekaaDoor.Bs
def lkB (T : List Bool) (s : SetD) : List Bool:=mapB (fun e => T.getD e false && hasE s e) T.length
theorem lkB_len {T : List Bool} {s : SetD} : (lkB T s).length = T.length:=mapB_len
theorem mapB_getA {f : Nat → Bool} {n i : Nat} : (mapB f n).getD i false = (decide (i < n) && f i):=by
 by_cases h : i < n
 ·rw [mapB_get h,decide_eq_true h]; rfl
 ·rw [List.getD_eq_getElem?_getD,List.getElem?_eq_none (by rw [mapB_len]; omega),decide_eq_false h]; rfl
theorem lkB_get {T : List Bool} {s : SetD} {e : Nat} : (lkB T s).getD e false = (T.getD e false && hasE s e):=by
 unfold lkB
 rw [mapB_getA]
 by_cases h : e < T.length
 ·rw [decide_eq_true h]; rfl
 ·rw [decide_eq_false h,List.getD_eq_getElem?_getD,List.getElem?_eq_none (by omega)]; rfl
theorem eachB_mapB {g : Bool → Bool → Bool} {f h : Nat → Bool} {n : Nat} : eachB g (mapB f n) (mapB h n) = mapB (fun i => g (f i) (h i)) n:=by
 unfold eachB
 rw [mapB_len]
 exact List.map_congr_left fun i hi => by rw [mapB_get (List.mem_range.1 hi),mapB_get (List.mem_range.1 hi)]
theorem mapB_congr {f g : Nat → Bool} {n : Nat} (h : ∀ i,i < n → f i = g i) : mapB f n = mapB g n:=List.map_congr_left fun i hi => h i (List.mem_range.1 hi)
theorem cnt_mapB {f : Nat → Bool} {n : Nat} : (mapB f n).count true = 0 ↔ ∀ e,e < n → f e = false:=by
 rw [cnt_zero]
 constructor
 ·intro h e he; have:=h e; rwa [mapB_get he] at this
 ·intro h j
  rw [mapB_getA]
  by_cases hj : j < n
  ·rw [h j hj]; simp
  ·rw [decide_eq_false hj]; rfl
def cntE (L : List SetD) (e : Nat) : Nat:=(L.filter (hasE · e)).length
theorem cntE_take {L : List SetD} {e k : Nat} (h : k < L.length) : cntE (L.take (k + 1)) e = cntE (L.take k) e + if hasE L[k] e then 1 else 0:=by
 unfold cntE
 rw [List.take_succ_eq_append_getElem h,List.filter_append,List.length_append]
 congr 1
 cases hb : hasE L[k] e
 ·rw [List.filter_cons_of_neg (by rw [hb]; simp)]; rfl
 ·rw [List.filter_cons_of_pos (by rw [hb])]; rfl
def onceB (L : List SetD) (T : List Bool) (k : Nat) : List Bool:=mapB (fun e => T.getD e false && decide (1 ≤ cntE (L.take k) e)) T.length
def moreB (L : List SetD) (T : List Bool) (k : Nat) : List Bool:=mapB (fun e => T.getD e false && decide (2 ≤ cntE (L.take k) e)) T.length
theorem once_step {L : List SetD} {T : List Bool} {k : Nat} (h : k < L.length) : onceB L T (k + 1) = eachB (fun a b => a || b) (onceB L T k) (lkB T L[k]):=by
 unfold onceB lkB
 rw [eachB_mapB]
 refine mapB_congr fun e _ => ?_
 rw [cntE_take h]
 cases T.getD e false <;> cases hasE L[k] e <;> simp
theorem more_step {L : List SetD} {T : List Bool} {k : Nat} (h : k < L.length) : moreB L T (k + 1) = eachB (fun a b => a || b) (moreB L T k) (eachB (fun a b => a && b) (onceB L T k) (lkB T L[k])):=by
 unfold moreB onceB lkB
 rw [eachB_mapB,eachB_mapB]
 refine mapB_congr fun e _ => ?_
 rw [cntE_take h]
 cases T.getD e false
 ·simp
 ·cases hasE L[k] e
  ·simp
  ·simp only [Bool.true_and,if_true,Bool.and_true]
   rw [Bool.eq_iff_iff,Bool.or_eq_true,decide_eq_true_eq,decide_eq_true_eq,decide_eq_true_eq]; omega
theorem once_zero {L : List SetD} {T : List Bool} : onceB L T 0 = mapB (fun _ => false) T.length ∧ moreB L T 0 = mapB (fun _ => false) T.length:=by
 unfold onceB moreB
 constructor <;> refine mapB_congr fun e _ => ?_ <;> simp [cntE]
theorem self_less {T : List Bool} : eachB (fun a b => a && !b) T T = mapB (fun _ => false) T.length:=by
 unfold eachB mapB
 exact List.map_congr_left fun i _ => by cases T.getD i false <;> rfl
def essB (L : List SetD) (T : List Bool) (k : Nat) : Bool:=match L[k]? with
 | none => false
 | some s => (List.range T.length).any fun e => T.getD e false && hasE s e && decide (cntE L e = 1)
theorem essB_eq {L : List SetD} {T : List Bool} {k : Nat} (h : k < L.length) : essB L T k = (List.range T.length).any fun e => T.getD e false && hasE L[k] e && decide (cntE L e = 1):=by unfold essB; rw [List.getElem?_eq_getElem h]
theorem cntE_pos {L : List SetD} {e k : Nat} (h : k < L.length) (hb : hasE L[k] e = true) : 1 ≤ cntE L e:=by
 unfold cntE
 exact List.length_pos_of_mem (List.mem_filter.2 ⟨List.getElem_mem h,hb⟩)
theorem ess_iff {L : List SetD} {T : List Bool} {k : Nat} (h : k < L.length) : essB L T k = decide (0 < (eachB (fun a b => a && !b) (lkB T L[k]) (moreB L T L.length)).count true):=by
 rw [essB_eq h,Bool.eq_iff_iff,decide_eq_true_eq]
 unfold lkB moreB
 rw [eachB_mapB,List.take_length]
 constructor
 ·intro ha
  rcases Nat.eq_zero_or_pos ((mapB (fun i => (T.getD i false && hasE L[k] i) && !(T.getD i false && decide (2 ≤ cntE L i))) T.length).count true) with h0 | h0
  ·rw [cnt_mapB] at h0
   obtain ⟨e,he,hh⟩:=List.any_eq_true.1 ha
   have:=h0 e (List.mem_range.1 he)
   simp only [Bool.and_eq_true,decide_eq_true_eq] at hh
   rw [hh.1.1,hh.1.2,hh.2] at this
   simp at this
  ·exact h0
 ·intro h0
  cases ha : (List.range T.length).any fun e => T.getD e false && hasE L[k] e && decide (cntE L e = 1) with
  | true => rfl
  | false =>
   have : (mapB (fun i => (T.getD i false && hasE L[k] i) && !(T.getD i false && decide (2 ≤ cntE L i))) T.length).count true = 0:=by
    rw [cnt_mapB]
    intro e he
    have:=List.any_eq_false.1 ha e (List.mem_range.2 he)
    cases ht : T.getD e false
    ·simp
    ·cases hh : hasE L[k] e
     ·simp
     ·have hp:=cntE_pos h hh
      rw [ht,hh] at this
      simp at this
      simp; omega
   omega
noncomputable def esA (L : List SetD) (T : List Bool) : List Int:=if mayD T.length L then selK (essB L T) L.length else []
/-! ### needless -/
def costN (L : List SetD) (a : Nat) : Int:=(L[a]?).elim 0 (·.cost)
def lkN (L : List SetD) (T : List Bool) (a : Nat) : List Bool:=(L[a]?).elim [] (lkB T)
theorem costN_eq {L : List SetD} {a : Nat} (h : a < L.length) : costN L a = L[a].cost:=by unfold costN; rw [List.getElem?_eq_getElem h]; rfl
theorem lkN_eq {L : List SetD} {T : List Bool} {a : Nat} (h : a < L.length) : lkN L T a = lkB T L[a]:=by unfold lkN; rw [List.getElem?_eq_getElem h]; rfl
def subL (L : List SetD) (T : List Bool) (b a : Nat) : Bool:=decide ((eachB (fun x y => x && !y) (lkN L T b) (lkN L T a)).count true = 0)
def stB (L : List SetD) (T : List Bool) (a b : Nat) : Bool:=decide (a ≠ b) && (subL L T b a && (decide (costN L a ≤ costN L b) && (decide (costN L a < costN L b) || (decide ((lkN L T b).count true < (lkN L T a).count true) || decide (a < b)))))
def needB (L : List SetD) (T : List Bool) (b : Nat) : Bool:=(List.range L.length).any fun a => stB L T a b
noncomputable def ndA (L : List SetD) (T : List Bool) : List Int:=if mayD T.length L then selK (needB L T) L.length else []
theorem subL_iff {L : List SetD} {T : List Bool} {a b : Nat} (ha : a < L.length) (hb : b < L.length) : subL L T b a = true ↔ ∀ e : Nat,T.getD e false = true → hasE L[b] e = true → hasE L[a] e = true:=by
 unfold subL
 rw [decide_eq_true_eq,lkN_eq ha,lkN_eq hb]
 unfold lkB
 rw [eachB_mapB,cnt_mapB]
 constructor
 ·intro h e ht hbe
  rcases Nat.lt_or_ge e T.length with he | he
  ·have:=h e he
   rw [ht,hbe] at this
   simpa using this
  ·rw [List.getD_eq_getElem?_getD,List.getElem?_eq_none he] at ht; simp at ht
 ·intro h e he
  have:=h e
  cases ht : T.getD e false
  ·simp
  ·cases hbe : hasE L[b] e
   ·simp
   ·rw [this ht hbe]; simp
end Go.Abs
