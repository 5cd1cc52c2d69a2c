/-
  PLAIN LAW: what the places that are used tell of a path.
-/
import Derived.Test.YtlcddhgfkkjhkaaDoorState0
import Derived.Test.YtlcddhgfkkjhkaaDoorRen
import Derived.Test.YtlcddhgfkkjhkaaDoorTree1
import Derived.Test.YtlcddhgfkkjhkaaDoorTree2

set_option linter.unusedSimpArgs false
set_option linter.unusedVariables false
namespace Go.Abs
open Go
theorem setT_get {B : List Bool} {i : Int} {j : Nat} (hj : j < B.length) (hi : 0 ≤ i) : ((setT B i).getD j false = true) ↔ (B.getD j false = true ∨ (j : Int) = i):=by
 unfold setT
 split
 ·rename_i h
  rw [List.getD_eq_getElem?_getD,List.getElem?_set]
  by_cases hji : i.toNat = j
  ·rw [if_pos hji,if_pos (by omega)]
   simp; right; omega
  ·rw [if_neg hji,← List.getD_eq_getElem?_getD]
   constructor
   ·exact .inl
   ·rintro (h1 | h1)
    ·exact h1
    ·omega
 ·rename_i h
  constructor
  ·exact .inl
  ·rintro (h1 | h1)
   ·exact h1
   ·omega
structure Seen (P : List Int) (B : List Bool) : Prop where
 nodup : P.Nodup
 range : ∀ y ∈ P,0 ≤ y ∧ y < B.length
 count : B.count true = P.length
 has : ∀ j,j < B.length → (B.getD j false = true ↔ (j : Int) ∈ P)
theorem Seen.step {P : List Int} {B : List Bool} {d : Int} (h : Seen P B) (h0 : 0 ≤ d) (h1 : d < B.length) (hf : B.getD d.toNat false = false) : Seen (P ++ [d]) (setT B d):=by
 have hd : d ∉ P:=fun hm => by
  have:=(h.has d.toNat (by omega)).2 (by rw [Int.toNat_of_nonneg h0]; exact hm)
  rw [hf] at this
  exact absurd this (by simp)
 refine ⟨?_,fun y hy => ?_,?_,fun j hj => ?_⟩
 ·rw [List.nodup_append]
  refine ⟨h.nodup,by simp,fun a ha b hb => ?_⟩
  simp at hb
  subst hb
  intro e
  subst e
  exact hd ha
 ·rw [setT_len]
  rcases List.mem_append.1 hy with hy | hy
  ·exact h.range y hy
  ·simp at hy; omega
 ·unfold setT
  rw [if_pos ⟨h0,h1⟩,count_set (by omega) hf,h.count]
  simp
 ·rw [setT_len] at hj
  rw [setT_get hj h0,h.has j hj,List.mem_append,List.mem_singleton]
theorem seen_nil {n : Nat} : Seen [] (List.replicate n false):=by
 refine ⟨List.nodup_nil,by simp,by rw [count_replicate]; rfl,fun j hj => ?_⟩
 rw [List.getD_eq_getElem?_getD,List.getElem?_replicate]
 split <;> simp
theorem used_len {x : InstD} {s : StD} (hok : x.Ok) (hs : StOk x s) (h : x.kind = 1 ∨ x.kind = 2) : s.used.length = x.cost.length:=by
 have:=size_zero hok h
 have:=hs.used
 omega
structure UsedI (x : InstD) (s : StD) : Prop where
 rows : x.kind = 1 → Seen s.path s.used
 tour : x.kind = 2 → Seen (0 :: s.path) s.used
theorem used_start {x : InstD} (hok : x.Ok) : UsedI x x.start:=by
 have hp : x.start.path = []:=rfl
 refine ⟨fun h => ?_,fun h => ?_⟩
 ·rw [hp]
  unfold InstD.start
  simp only [if_neg (show ¬ x.kind = 2 by omega)]
  exact seen_nil
 ·rw [hp]
  have hl:=hok.few.sq (.inr h)
  unfold InstD.start
  simp only [if_pos h]
  exact seen_nil.step (by omega) (by rw [List.length_replicate]; omega) (by rw [List.getD_eq_getElem?_getD,List.getElem?_replicate]; split <;> rfl)
theorem used_apply {x : InstD} {s : StD} {d : Int} (ha : UsedI x s) (hd : d ∈ x.moves s) : UsedI x (x.applyS s d):=by
 refine ⟨fun k1 => ?_,fun k2 => ?_⟩
 ·obtain ⟨g1,g2,g3,g4⟩:=moves_tour (.inl k1) hd
  have he : x.applyS s d = ⟨s.path ++ [d],s.cost + x.costN s.path.length d.toNat,s.left,s.pos,setT s.used d⟩:=by unfold InstD.applyS; rw [if_pos k1]
  rw [he]
  exact (ha.rows k1).step g2 g3 g4
 ·obtain ⟨g1,g2,g3,g4⟩:=moves_tour (.inr k2) hd
  have hu : (x.applyS s d).used = setT s.used d:=by
   unfold InstD.applyS InstD.wentS
   rw [if_neg (by omega),if_pos k2]
   simp only
   split <;> rfl
  rw [apply_path,hu]
  exact (ha.tour k2).step g2 g3 g4
end Go.Abs

namespace Go.Abs
open Go
def prd (f : Nat → Nat) : Nat → Nat
 | 0 => 1
 | j + 1 => prd f j * f j
def smF (f : Nat → Nat) : Nat → Nat
 | 0 => 1
 | j + 1 => smF f j + prd f (j + 1)
theorem smF_mono (f : Nat → Nat) {i j : Nat} (h : i ≤ j) : smF f i ≤ smF f j:=by
 induction j with
 | zero => obtain rfl : i = 0:=by omega
           exact Nat.le_refl _
 | succ j ih =>
  by_cases hi : i = j + 1
  ·subst hi; exact Nat.le_refl _
  ·have:=ih (by omega)
   simp only [smF]; omega
theorem prd_le_smF (f : Nat → Nat) (j : Nat) : prd f j ≤ smF f j:=by
 cases j with
 | zero => simp [prd,smF]
 | succ j => simp only [smF]; omega
theorem smF_two (j : Nat) : smF (fun _ => 2) j + 1 = prd (fun _ => 2) (j + 1):=by
 induction j with
 | zero => rfl
 | succ j ih =>
  have : prd (fun _ => 2) (j + 1 + 1) = prd (fun _ => 2) (j + 1) * 2:=rfl
  rw [smF,this]; omega
theorem smF_two_step (j : Nat) : smF (fun _ => 2) (j + 1) = 2 * smF (fun _ => 2) j + 1:=by
 have:=smF_two j
 rw [smF]; omega
theorem smF_pos (f : Nat → Nat) (j : Nat) : 1 ≤ smF f j:=by
 have:=smF_mono f (Nat.zero_le j)
 exact this
def szF (k : Int) (n : Nat) : Nat → Nat:=if k = 0 ∨ k = 3 then fun _ => 2 else fun j => n - j
def szT (k : Int) (n : Nat) : Nat:=smF (szF k n) n
end Go.Abs

namespace Go.Abs
open Go Go.Proofs.YtlcddhgfkkjhkaaDoor
def InstD.decs (x : InstD) : Nat:=if x.kind = 0 then x.items.length else if x.kind = 1 ∨ x.kind = 2 then x.cost.length else x.sets.length
theorem path_decs {x : InstD} {s : StD} (hok : x.Ok) (hs : StOk x s) : s.path.length ≤ x.decs:=by
 have hk0:=hok.kind0
 have hk4:=hok.kind4
 unfold InstD.decs
 by_cases k0 : x.kind = 0
 ·rw [if_pos k0]; exact (hs.items k0).1
 ·rw [if_neg k0]
  by_cases k1 : x.kind = 1
  ·rw [if_pos (.inl k1)]; exact hs.rows k1
  ·by_cases k2 : x.kind = 2
   ·rw [if_pos (.inr k2)]
    have:=hs.tour k2
    have:=used_len hok hs (.inr k2)
    have:=List.count_le_length (a:=true) (l:=s.used)
    omega
   ·rw [if_neg (by omega)]; exact hs.sets (by omega)
theorem moves_path {x : InstD} {s : StD} {d : Int} (hok : x.Ok) (hs : StOk x s) (hd : d ∈ x.moves s) : s.path.length < x.decs:=by
 have h1:=path_decs hok (apply_ok hok hs hd)
 rw [apply_path] at h1
 simp at h1
 omega
def kids (x : InstD) (s : StD) : List StD:=(x.moves s).map (x.applyS s)
def trL (x : InstD) : Nat → StD → List StD
 | 0,s => [s]
 | d + 1,s => s :: (kids x s).flatMap (trL x d)
def treeOf (x : InstD) (s : StD) : List StD:=trL x (x.decs - s.path.length) s
theorem kids_ok {x : InstD} {s t : StD} (hok : x.Ok) (hs : StOk x s) (ht : t ∈ kids x s) : StOk x t ∧ t.path.length = s.path.length + 1 ∧ s.path.length < x.decs:=by
 obtain ⟨d,hd,rfl⟩:=List.mem_map.1 ht
 exact ⟨apply_ok hok hs hd,by rw [apply_path]; simp,moves_path hok hs hd⟩
theorem flatMap_congr' {α β : Type} {l : List α} {f g : α → List β} (h : ∀ a ∈ l,f a = g a) : l.flatMap f = l.flatMap g:=by
 induction l with
 | nil => rfl
 | cons a l ih => rw [List.flatMap_cons,List.flatMap_cons,h a (by simp),ih fun b hb => h b (by simp [hb])]
theorem treeOf_eq {x : InstD} {s : StD} (hok : x.Ok) (hs : StOk x s) : treeOf x s = s :: (kids x s).flatMap (treeOf x):=by
 have hf : ∀ d,x.decs - s.path.length = d + 1 → (kids x s).flatMap (trL x d) = (kids x s).flatMap (treeOf x):=fun d hd => flatMap_congr' fun t ht => by
  obtain ⟨_,h2,h3⟩:=kids_ok hok hs ht
  unfold treeOf
  rw [show x.decs - t.path.length = d by omega]
 cases hd : x.decs - s.path.length with
 | zero =>
  have : kids x s = []:=by
   cases hk : kids x s with
   | nil => rfl
   | cons t r =>
    obtain ⟨_,_,h3⟩:=kids_ok hok hs (by rw [hk]; simp : t ∈ kids x s)
    omega
  rw [this]
  unfold treeOf
  rw [hd]; rfl
 | succ d =>
  conv => lhs; unfold treeOf
  rw [hd,trL,hf d hd]
theorem treeOf_ne {x : InstD} {s : StD} (hok : x.Ok) (hs : StOk x s) : treeOf x s ≠ []:=by rw [treeOf_eq hok hs]; simp
def allS (x : InstD) : List StD:=treeOf x x.start
theorem stk_tree {x : InstD} (hok : x.Ok) : ∀ k,(stkN x k).flatMap (treeOf x) = (allS x).drop k
 | 0 => by simp [stkN,allS]
 | k + 1 => by
  have ih:=stk_tree hok k
  have ho:=stk_ok hok k
  simp only [stkN]
  cases hst : stkN x k with
  | nil =>
   rw [hst] at ih
   have : (allS x).length ≤ k:=by
    have:=congrArg List.length ih
    simp at this; omega
   simp only [List.flatMap_nil]
   rw [List.drop_eq_nil_of_le (by omega)]
  | cons s r =>
   rw [hst] at ih ho
   rw [List.flatMap_cons,treeOf_eq hok (ho s (by simp)),List.cons_append] at ih
   simp only
   rw [List.flatMap_append]
   show (kids x s).flatMap (treeOf x) ++ r.flatMap (treeOf x) = _
   have:=congrArg List.tail ih
   rw [List.tail_cons,List.tail_drop] at this
   exact this
theorem stk_nil {x : InstD} (hok : x.Ok) {k : Nat} : stkN x k = [] ↔ (allS x).length ≤ k:=by
 have h:=stk_tree hok k
 have ho:=stk_ok hok k
 constructor
 ·intro h0
  rw [h0] at h
  have:=congrArg List.length h
  simp at this; omega
 ·intro hl
  rw [List.drop_eq_nil_of_le hl] at h
  cases hst : stkN x k with
  | nil => rfl
  | cons s r =>
   rw [hst] at h ho
   rw [List.flatMap_cons] at h
   exact absurd (List.append_eq_nil_iff.1 h).1 (treeOf_ne hok (ho s (by simp)))
theorem at_all {x : InstD} (hok : x.Ok) {k : Nat} (hk : k < (allS x).length) : atN x k = (allS x)[k]:=by
 have h:=stk_tree hok k
 have ho:=stk_ok hok k
 cases hst : stkN x k with
 | nil => exact absurd ((stk_nil hok).1 hst) (by omega)
 | cons s r =>
  rw [hst] at h ho
  rw [List.flatMap_cons,treeOf_eq hok (ho s (by simp)),List.cons_append,← List.getElem_cons_drop hk] at h
  unfold atN
  rw [hst]
  exact (List.cons.inj h).1
theorem tree_ind {x : InstD} (hok : x.Ok) {P : StD → Prop} (hP : ∀ s d,StOk x s → P s → d ∈ x.moves s → P (x.applyS s d)) : ∀ (d : Nat) (s : StD),StOk x s → P s → ∀ t ∈ trL x d s,StOk x t ∧ P t
 | 0,s,hs,hp,t,ht => by simp [trL] at ht; subst ht; exact ⟨hs,hp⟩
 | d + 1,s,hs,hp,t,ht => by
  rw [trL] at ht
  rcases List.mem_cons.1 ht with rfl | ht
  ·exact ⟨hs,hp⟩
  ·obtain ⟨u,hu,ht⟩:=List.mem_flatMap.1 ht
   obtain ⟨m,hm,rfl⟩:=List.mem_map.1 hu
   exact tree_ind hok hP d _ (apply_ok hok hs hm) (hP s m hs hp hm) t ht
theorem all_ok {x : InstD} (hok : x.Ok) {s : StD} (h : s ∈ allS x) : StOk x s ∧ UsedI x s :=
 tree_ind hok (P:=UsedI x) (fun s d hs hp hd => used_apply hp hd) _ _ (start_ok hok) (used_start hok) s h
def gdF (f : Nat → Nat) : Nat → Nat → Nat
 | _,0 => 1
 | k,d + 1 => 1 + f k * gdF f (k + 1) d
theorem gdF_smF (f : Nat → Nat) : ∀ (d k : Nat),smF f (k + d) + prd f k = smF f k + prd f k * gdF f k d
 | 0,k => by simp [gdF]
 | d + 1,k => by
  have ih:=gdF_smF f d (k + 1)
  have h1 : prd f (k + 1) = prd f k * f k:=rfl
  have h2 : smF f (k + 1) = smF f k + prd f (k + 1):=rfl
  rw [show k + (d + 1) = k + 1 + d by omega]
  rw [gdF,Nat.mul_add,Nat.mul_one,← Nat.mul_assoc,← h1]
  omega
theorem gdF_all (f : Nat → Nat) (n : Nat) : gdF f 0 n = smF f n:=by
 have:=gdF_smF f n 0
 simp [prd,smF] at this
 omega
theorem free_len {B : List Bool} : (freeL B).length = B.length - B.count true:=by
 have h1 : ∀ (B : List Bool),((List.range B.length).filter fun k => !B.getD k false).length = B.count false:=by
  intro B
  induction B with
  | nil => rfl
  | cons b B ih =>
   rw [List.length_cons,List.range_succ_eq_map,List.filter_cons,List.filter_map]
   have : ((fun k => !(b :: B).getD k false) ∘ Nat.succ) = fun k => !B.getD k false:=by funext k; rfl
   rw [this]
   cases b
   ·simp
    simpa using ih
   ·simp
    simpa using ih
 unfold freeL
 rw [List.length_map,h1]
 have h2 : B.count true + B.count false = B.length:=by
  induction B with
  | nil => rfl
  | cons b B ih => cases b <;> simp <;> omega
 omega
theorem moves_few {x : InstD} {s : StD} (hok : x.Ok) (hs : StOk x s) (ha : UsedI x s) : (x.moves s).length ≤ szF x.kind x.decs s.path.length:=by
 have hk0:=hok.kind0
 have hk4:=hok.kind4
 unfold szF
 by_cases h03 : x.kind = 0 ∨ x.kind = 3
 ·rw [if_pos h03]
  unfold InstD.moves
  repeat' split
  all_goals first | (simp; done) | omega
 ·rw [if_neg h03]
  show _ ≤ x.decs - s.path.length
  have hdec : x.decs = x.cost.length:=by unfold InstD.decs; rw [if_neg (by omega),if_pos (by omega)]
  unfold InstD.moves
  split
  ·simp
  ·rw [if_neg (by omega),if_neg (by omega),free_len,hdec]
   by_cases k1 : x.kind = 1
   ·have:=used_len hok hs (.inl k1)
    have:=(ha.rows k1).count
    omega
   ·have:=used_len hok hs (.inr (by omega))
    have:=hs.tour (by omega)
    omega
theorem flat_len {α β : Type} {f : α → List β} {c : Nat} : ∀ {l : List α},(∀ a ∈ l,(f a).length ≤ c) → (l.flatMap f).length ≤ l.length * c
 | [],_ => by simp
 | a :: l,h => by
  have h1:=h a (by simp)
  have h2:=flat_len (l:=l) fun b hb => h b (by simp [hb])
  rw [List.flatMap_cons,List.length_append,List.length_cons,Nat.succ_mul]
  omega
theorem tr_len {x : InstD} (hok : x.Ok) : ∀ (d : Nat) (s : StD),StOk x s → UsedI x s → (trL x d s).length ≤ gdF (szF x.kind x.decs) s.path.length d
 | 0,s,_,_ => by simp [trL,gdF]
 | d + 1,s,hs,ha => by
  rw [trL,List.length_cons,gdF]
  have h1:=flat_len (l:=kids x s) (f:=trL x d) (c:=gdF (szF x.kind x.decs) (s.path.length + 1) d) fun t ht => by
   obtain ⟨m,hm,rfl⟩:=List.mem_map.1 ht
   have:=tr_len hok d _ (apply_ok hok hs hm) (used_apply ha hm)
   rw [show (x.applyS s m).path.length = s.path.length + 1 by rw [apply_path]; simp] at this
   exact this
  have h2:=moves_few hok hs ha
  have h3 : (kids x s).length = (x.moves s).length:=by simp [kids]
  have h4:=Nat.mul_le_mul_right (gdF (szF x.kind x.decs) (s.path.length + 1) d) h2
  rw [h3] at h1
  omega
theorem all_len {x : InstD} (hok : x.Ok) : (allS x).length ≤ szT x.kind x.decs:=by
 have h:=tr_len hok (x.decs - x.start.path.length) _ (start_ok hok) (used_start hok)
 have h0 : x.start.path.length = 0:=rfl
 rw [h0,Nat.sub_zero,gdF_all] at h
 unfold allS treeOf szT
 rw [h0]
 exact h
theorem all_small {x : InstD} (hok : x.Ok) {m : Nat} (hm : m ≤ 7) (h1 : x.items.length ≤ m) (h2 : x.cost.length < m) (h3 : x.sets.length ≤ m) : (allS x).length ≤ 2000 ∧ x.decs ≤ m:=by
 have h:=all_len hok
 have hd : x.decs ≤ m:=by unfold InstD.decs; (repeat' split) <;> omega
 refine ⟨Nat.le_trans h ?_,hd⟩
 unfold szT szF
 by_cases h03 : x.kind = 0 ∨ x.kind = 3
 ·rw [if_pos h03]
  refine Nat.le_trans (smF_mono _ (show x.decs ≤ 7 by omega)) (by decide)
 ·rw [if_neg h03]
  have hdc : x.decs ≤ 6:=by
   have hk0:=hok.kind0
   have hk4:=hok.kind4
   unfold InstD.decs
   rw [if_neg (by omega),if_pos (by omega)]
   omega
  have : ∀ n,n ≤ 6 → smF (fun j => n - j) n ≤ 2000:=by decide
  exact this _ hdc
end Go.Abs

set_option maxRecDepth 100000
namespace Go.Proofs.YtlcddhgfkkjhkaaDoor
open Go Go.Abs
structure CenD where
 nodes : Nat
 leaves : Nat
 dead : Nat
 cost : Int
 found : Bool
def cenC (c : CenD) : List Value:=[.int .i64 c.nodes,.int .i64 c.leaves,.int .i64 c.dead,.int .i64 c.cost,.bool c.found]
def cen0 : CenD:=⟨0,0,0,0,false⟩
def cenS (x : InstD) (c : CenD) (s : StD) : CenD :=
 if x.done s then ⟨c.nodes + 1,c.leaves + 1,c.dead,if c.found = true ∧ c.cost ≤ s.cost then c.cost else s.cost,true⟩
 else if x.moves s = [] then ⟨c.nodes + 1,c.leaves,c.dead + 1,c.cost,c.found⟩ else ⟨c.nodes + 1,c.leaves,c.dead,c.cost,c.found⟩
def cenK (x : InstD) (k : Nat) : CenD:=((allS x).take k).foldl (cenS x) cen0
theorem cenK_succ {x : InstD} {k : Nat} (h : k < (allS x).length) : cenK x (k + 1) = cenS x (cenK x k) (allS x)[k]:=by
 unfold cenK; rw [List.take_succ_eq_append_getElem h,List.foldl_append]; rfl
theorem cenS_nodes (x : InstD) (c : CenD) (s : StD) : (cenS x c s).nodes = c.nodes + 1 ∧ (c.leaves + c.dead ≤ c.nodes → (cenS x c s).leaves + (cenS x c s).dead ≤ (cenS x c s).nodes):=by
 unfold cenS
 split
 ·exact ⟨rfl,fun h => by simp; omega⟩
 ·split
  ·exact ⟨rfl,fun h => by simp; omega⟩
  ·exact ⟨rfl,fun h => by simp; omega⟩
theorem cenK_nodes {x : InstD} : ∀ k,k ≤ (allS x).length → (cenK x k).nodes = k ∧ (cenK x k).leaves + (cenK x k).dead ≤ k:=by
 intro k
 induction k with
 | zero => intro _; exact ⟨rfl,Nat.le_refl _⟩
 | succ k ih =>
  intro h
  obtain ⟨h1,h2⟩:=ih (by omega)
  rw [cenK_succ (by omega)]
  obtain ⟨g1,g2⟩:=cenS_nodes x (cenK x k) (allS x)[k]
  exact ⟨by rw [g1,h1],by have:=g2 (by omega); omega⟩
def CenP (H : AH) (r : Nat) (c : CenD) (H' : AH) : Prop:=H'.blk r = some (.row (cenC c) T_tree_Census true) ∧ H.next ≤ H'.next ∧ ∀ b,b < H.next → b ≠ r → H'.blk b = H.blk b
theorem count_spec {H : AH} {r : Nat} {c : CenD} {x : InstD} {s : StD} {v w : Value} (hg : GroundA G H) (hgr : ∀ p ∈ G,p.1 ≠ r) (hr : H.blk r = some (.row (cenC c) T_tree_Census true)) (hx : InstV (fun b => b < H.next ∧ b ≠ r) H v x) (hs : StV (fun b => b < H.next ∧ b ≠ r) H w s) (hok : x.Ok) (hso : StOk x s)
  (hb : c.nodes < 1000000 ∧ c.leaves ≤ c.nodes ∧ c.dead ≤ c.nodes) : AFn Tryd.prog F_tree_Census_count [.pointer (some ⟨r,0,none⟩),v,w] H fun u H' => CenP H r (cenS x c s) H':=by
 obtain ⟨iv,cv,sv,rfl,i1,i2,i3,h1,h2,h3⟩:=id hx
 obtain ⟨pv,uv',rfl,s1,s2⟩:=id hs
 refine AFn.enter mixed ir_tree_Census_count_eq (by simp [ir_tree_Census_count]) fun hw => ?_
 have hrn:=hw.lt hr
 obtain ⟨H1,hH1⟩ : ∃ H1,((H.alloc (.row (instC x iv cv sv) T_inst_Inst true)).alloc (.row (stC s pv uv') T_state_State true)) = H1:=⟨_,rfl⟩
 have k1 : Keep [] H H1:=by rw [← hH1]; exact .new_alloc .alloc
 have w1 : WF H1:=by rw [← hH1]; exact hw.alloc.alloc
 have n1 : H1.next = H.next + 2:=by rw [← hH1]; simp
 have c4 : H1.cells H.next = some (instC x iv cv sv):=by rw [← hH1]; exact cells_kept hw.alloc .alloc AH.cells_alloc_new
 have c5 : H1.cells (H.next + 1) = some (stC s pv uv'):=by rw [← hH1]; exact AH.cells_alloc_new
 have br:=(k1.blk r hrn (by simp)).trans hr
 have cr:=AH.cells_of br
 unfold cenC at br cr
 unfold stC at c5
 unfold instC at c4
 simp only [instC,stC] at hH1
 have cr0:=AH.cells_of hr
 unfold cenC at cr0
 have w1s:=writeA_of (off:=0) (news:=[Value.int .i64 ((c.nodes : Int) + 1)]) br (by simp)
 simp only [over,List.take_zero,List.nil_append,List.length_cons,List.length_nil,Nat.zero_add,List.drop_succ_cons,List.drop_zero,List.cons_append] at w1s
 simp (disch:=omega) [-getElem?_pos,if_pos,if_neg,decide_eq_true,decide_eq_false,ir_tree_Census_count,cr0,IntWalk.i64_in]
 rw [hH1]
 simp (disch:=omega) [-getElem?_pos,if_pos,if_neg,decide_eq_true,decide_eq_false,w1s]
 have c42 : (H1.set r (.row [.int .i64 ((c.nodes : Int) + 1),.int .i64 c.leaves,.int .i64 c.dead,.int .i64 c.cost,.bool c.found] T_tree_Census true)).cells H.next = some [.int .i64 x.kind,.int .i64 x.cap,iv,cv,.int .i64 x.size,sv]:=by rw [AH.cells_set_ne (by omega)]; exact c4
 have c52 : (H1.set r (.row [.int .i64 ((c.nodes : Int) + 1),.int .i64 c.leaves,.int .i64 c.dead,.int .i64 c.cost,.bool c.found] T_tree_Census true)).cells (H.next + 1) = some [pv,.int .i64 s.cost,.int .i64 s.left,.int .i64 s.pos,.int .i64 s.used.length,uv']:=by rw [AH.cells_set_ne (by omega)]; exact c5
 have br2 : (H1.set r (.row [.int .i64 ((c.nodes : Int) + 1),.int .i64 c.leaves,.int .i64 c.dead,.int .i64 c.cost,.bool c.found] T_tree_Census true)).blk r = some (.row [.int .i64 ((c.nodes : Int) + 1),.int .i64 c.leaves,.int .i64 c.dead,.int .i64 c.cost,.bool c.found] T_tree_Census true):=AH.set_blk_same
 have far2 : ∀ b,b < H.next → b ≠ r → (H1.set r (.row [.int .i64 ((c.nodes : Int) + 1),.int .i64 c.leaves,.int .i64 c.dead,.int .i64 c.cost,.bool c.found] T_tree_Census true)).blk b = H.blk b:=fun b h1 h2 => by rw [AH.set_blk_ne h2,k1.blk b h1 (by simp)]
 have w2 : WF (H1.set r (.row [.int .i64 ((c.nodes : Int) + 1),.int .i64 c.leaves,.int .i64 c.dead,.int .i64 c.cost,.bool c.found] T_tree_Census true)):=w1.set (by omega)
 have n2 : (H1.set r (.row [.int .i64 ((c.nodes : Int) + 1),.int .i64 c.leaves,.int .i64 c.dead,.int .i64 c.cost,.bool c.found] T_tree_Census true)).next = H1.next:=rfl
 generalize H1.set r (.row [.int .i64 ((c.nodes : Int) + 1),.int .i64 c.leaves,.int .i64 c.dead,.int .i64 c.cost,.bool c.found] T_tree_Census true) = H2 at *
 have sub : ∀ {H3 : AH},(∀ b,b < H.next → b ≠ r → H3.blk b = H.blk b) → Sub (fun b => b < H.next ∧ b ≠ r) H H3:=fun {H3} h b hb cs hc => by
  unfold AH.cells at hc ⊢; rw [h b hb.1 hb.2]; exact hc
 have hx2:=hx.up (q:=fun _ => True) (fun _ _ => trivial) (sub far2)
 have hs2:=hs.up (q:=fun _ => True) (fun _ _ => trivial) (sub far2)
 have hcx : cut [Value.int .i64 x.kind,.int .i64 x.cap,iv,cv,.int .i64 x.size,sv] 0 6 = some [Value.int .i64 x.kind,.int .i64 x.cap,iv,cv,.int .i64 x.size,sv]:=rfl
 have hcs : cut [pv,.int .i64 s.cost,.int .i64 s.left,.int .i64 s.pos,.int .i64 s.used.length,uv'] 0 6 = some [pv,.int .i64 s.cost,.int .i64 s.left,.int .i64 s.pos,.int .i64 s.used.length,uv']:=rfl
 simp (disch:=omega) [-getElem?_pos,if_pos,if_neg,decide_eq_true,decide_eq_false,c4,c5,c42,c52,hcx,hcs]
 refine AFn.pure (Done_spec hs2 hx2) ?_
 have cr2:=AH.cells_of br2
 by_cases hd : x.done s = true
 ·have w3s:=writeA_of (off:=1) (news:=[Value.int .i64 ((c.leaves : Int) + 1)]) br2 (by simp)
  simp only [over,List.take_zero,List.nil_append,List.length_cons,List.length_nil,Nat.zero_add,List.drop_succ_cons,List.drop_zero,List.cons_append,List.take_succ_cons] at w3s
  rw [hd]
  have br3 : (H2.set r (.row [.int .i64 ((c.nodes : Int) + 1),.int .i64 ((c.leaves : Int) + 1),.int .i64 c.dead,.int .i64 c.cost,.bool c.found] T_tree_Census true)).blk r = some (.row [.int .i64 ((c.nodes : Int) + 1),.int .i64 ((c.leaves : Int) + 1),.int .i64 c.dead,.int .i64 c.cost,.bool c.found] T_tree_Census true):=AH.set_blk_same
  have c53 : (H2.set r (.row [.int .i64 ((c.nodes : Int) + 1),.int .i64 ((c.leaves : Int) + 1),.int .i64 c.dead,.int .i64 c.cost,.bool c.found] T_tree_Census true)).cells (H.next + 1) = some [pv,.int .i64 s.cost,.int .i64 s.left,.int .i64 s.pos,.int .i64 s.used.length,uv']:=by rw [AH.cells_set_ne (by omega)]; exact c52
  have n3 : (H2.set r (.row [.int .i64 ((c.nodes : Int) + 1),.int .i64 ((c.leaves : Int) + 1),.int .i64 c.dead,.int .i64 c.cost,.bool c.found] T_tree_Census true)).next = H2.next:=rfl
  have far3 : ∀ b,b < H.next → b ≠ r → (H2.set r (.row [.int .i64 ((c.nodes : Int) + 1),.int .i64 ((c.leaves : Int) + 1),.int .i64 c.dead,.int .i64 c.cost,.bool c.found] T_tree_Census true)).blk b = H.blk b:=fun b h1 h2 => by rw [AH.set_blk_ne h2,far2 b h1 h2]
  have w4s:=writeA_of (off:=3) (news:=[Value.int .i64 s.cost]) br3 (by simp)
  simp only [over,List.take_zero,List.nil_append,List.length_cons,List.length_nil,Nat.zero_add,List.drop_succ_cons,List.drop_zero,List.cons_append,List.take_succ_cons] at w4s
  generalize hH3 : H2.set r (.row [.int .i64 ((c.nodes : Int) + 1),.int .i64 ((c.leaves : Int) + 1),.int .i64 c.dead,.int .i64 c.cost,.bool c.found] T_tree_Census true) = H3 at *
  have br4 : (H3.set r (.row [.int .i64 ((c.nodes : Int) + 1),.int .i64 ((c.leaves : Int) + 1),.int .i64 c.dead,.int .i64 s.cost,.bool c.found] T_tree_Census true)).blk r = some (.row [.int .i64 ((c.nodes : Int) + 1),.int .i64 ((c.leaves : Int) + 1),.int .i64 c.dead,.int .i64 s.cost,.bool c.found] T_tree_Census true):=AH.set_blk_same
  have w5s:=writeA_of (off:=4) (news:=[Value.bool true]) br4 (by simp)
  simp only [over,List.take_zero,List.nil_append,List.length_cons,List.length_nil,Nat.zero_add,List.drop_succ_cons,List.drop_zero,List.cons_append,List.take_succ_cons,List.append_nil,List.drop_nil] at w5s
  have cr3:=AH.cells_of br3
  have fin : ∀ {z : Int} {f : Bool},CenP H r ⟨c.nodes + 1,c.leaves + 1,c.dead,z,f⟩ (H3.set r (.row [.int .i64 ((c.nodes : Int) + 1),.int .i64 ((c.leaves : Int) + 1),.int .i64 c.dead,.int .i64 z,.bool f] T_tree_Census true)):=fun {z f} =>
   ⟨AH.set_blk_same,by simp; omega,fun b h1 h2 => by rw [AH.set_blk_ne h2,far3 b h1 h2]⟩
  cases hf : c.found with
  | false =>
   have hc : cenS x c s = ⟨c.nodes + 1,c.leaves + 1,c.dead,s.cost,true⟩:=by unfold cenS; rw [if_pos hd,hf]; simp
   rw [hf] at cr2 cr3 w4s w5s
   simp (disch:=omega) [-getElem?_pos,if_pos,if_neg,decide_eq_true,decide_eq_false,cr2,w3s,c53,c52,cr3,w4s,w5s,IntWalk.i64_in]
   rw [hc]
   exact fin
  | true =>
   rw [hf] at cr2 cr3 w4s w5s
   by_cases hlt : s.cost < c.cost
   ·have hc : cenS x c s = ⟨c.nodes + 1,c.leaves + 1,c.dead,s.cost,true⟩:=by unfold cenS; rw [if_pos hd,if_neg (by omega)]
    simp (disch:=omega) [-getElem?_pos,if_pos,if_neg,decide_eq_true,decide_eq_false,cr2,w3s,c53,c52,cr3,w4s,w5s,hlt,IntWalk.i64_in]
    rw [hc]
    exact fin
   ·have hc : cenS x c s = ⟨c.nodes + 1,c.leaves + 1,c.dead,c.cost,true⟩:=by unfold cenS; rw [if_pos hd,hf,if_pos ⟨rfl,by omega⟩]
    simp (disch:=omega) [-getElem?_pos,if_pos,if_neg,decide_eq_true,decide_eq_false,cr2,w3s,c53,c52,cr3,w4s,w5s,hlt,IntWalk.i64_in]
    rw [hc]
    refine ⟨?_,by omega,fun b h1 h2 => far3 b h1 h2⟩
    rw [br3,hf]; rfl
 ·have hd' : x.done s = false:=by simpa using hd
  rw [hd']
  simp (disch:=omega) [-getElem?_pos,if_pos,if_neg,decide_eq_true,decide_eq_false,c42,c52,hcx,hcs]
  refine (Moves_spec (fun p hp => by have h1:=hg p hp; have h2:=cells_lt hw h1; unfold AH.cells at h1 ⊢; rw [far2 p.1 h2 (hgr p hp)]; exact h1) hs2 hx2 hok hso).mono' fun u H3 w3 hM => ?_
  obtain ⟨S,hO,k3,hS⟩:=hM
  obtain ⟨ma,mc,rfl⟩:=hO.slice
  have hn3:=k3.next
  have br3:=(k3.blk r (by omega) (by simp)).trans br2
  have cr3:=AH.cells_of br3
  have far3 : ∀ b,b < H.next → b ≠ r → H3.blk b = H.blk b:=fun b h1 h2 => by rw [k3.blk b (by omega) (by simp),far2 b h1 h2]
  by_cases hm : x.moves s = []
  ·have hc : cenS x c s = ⟨c.nodes + 1,c.leaves,c.dead + 1,c.cost,c.found⟩:=by unfold cenS; rw [if_neg hd,if_pos hm]
   have w4s:=writeA_of (off:=2) (news:=[Value.int .i64 ((c.dead : Int) + 1)]) br3 (by simp)
   simp only [over,List.take_zero,List.nil_append,List.length_cons,List.length_nil,Nat.zero_add,List.drop_succ_cons,List.drop_zero,List.cons_append,List.take_succ_cons] at w4s
   have hml : (x.moves s).length = 0:=by rw [hm]; rfl
   simp (disch:=omega) [-getElem?_pos,if_pos,if_neg,decide_eq_true,decide_eq_false,hml,cr3,w4s,IntWalk.i64_in]
   rw [hc]
   exact ⟨AH.set_blk_same,by simp; omega,fun b h1 h2 => by rw [AH.set_blk_ne h2]; exact far3 b h1 h2⟩
  ·have hc : cenS x c s = ⟨c.nodes + 1,c.leaves,c.dead,c.cost,c.found⟩:=by unfold cenS; rw [if_neg hd,if_neg hm]
   have hml : (((x.moves s).length : Int) = 0) = False:=eq_false fun h => hm (List.length_eq_zero_iff.1 (by omega))
   simp (disch:=omega) [-getElem?_pos,if_pos,if_neg,decide_eq_true,decide_eq_false,hml,hm]
   rw [hc]
   exact ⟨br3,by omega,far3⟩
end Go.Proofs.YtlcddhgfkkjhkaaDoor

set_option maxRecDepth 100000
namespace Go.Proofs.YtlcddhgfkkjhkaaDoor
open Go Go.Abs
def tree_WalkAsg : ACode:=(.region [⟨some 8,.new T_state_State [(.slice none 0 0),(.int .i64 0),(.int .i64 0),(.int .i64 0),(.int .i64 0),(.slice none 0 0)],none⟩,⟨none,.storeN 6 (.tmp 8) (.tmp 17),none⟩] false)
def tree_WalkBody : ACode:=(.block 1 (.seq (.seq (.region [⟨some 18,.faddr 0 (.tmp 7),none⟩,⟨some 19,.load1 (.tmp 18),none⟩,⟨some 20,.load1 (.tmp 3),none⟩,⟨some 21,.mn (.tmp 20) (.const (.int .i64 1048576)),none⟩,⟨some 22,.bin .geq (.tmp 19) (.tmp 21),none⟩] false) (.cond (.tmp 22) (.seq (.region [⟨some 23,.build [(.int .i64 0),(.int .i64 0),(.int .i64 0),(.int .i64 0),(.bool false)] [],none⟩,⟨none,.storeN 5 (.tmp 4) (.tmp 23),none⟩,⟨none,.store1 (.tmp 5) (.const (.int .i64 24)),none⟩] false) .ret) .skip)) (.region [⟨some 24,.loadN 6 (.tmp 2),none⟩,⟨some 25,.loadN 6 (.tmp 8),none⟩,⟨some 26,.call (.func F_tree_Census_count) [(.tmp 7),(.tmp 24),(.tmp 25)],none⟩] false)))
def WkI (H0 : AH) (n0 r7 : Nat) (x : InstD) (p : Nat → Prop) (k : Nat) (H' : AH) : Prop :=
 n0 ≤ H'.next ∧ (∀ b,b < n0 → b ≠ r7 → H'.blk b = H0.blk b) ∧ H'.blk r7 = some (.row (cenC (cenK x k)) T_tree_Census true)
theorem walk_yst {H0 : AH} {l n0 q r2 r3 r7 C : Nat} {most : Int} {x : InstD} {iv cv sv : Value} {L0 : LoopA} (hw0 : WF H0) (hn0 : H0.next = n0) (hok : x.Ok) (hg : GroundA G H0) (hCT : C ≤ (allS x).length)
  (hM : (C : Int) ≤ most ∧ C ≤ 1000000) (hl : H0.blk l = some (.loop L0)) (hq : H0.cells q = some (instC x iv cv sv)) (b2 : H0.cells r2 = some (instC x iv cv sv)) (b3 : H0.cells r3 = some [.int .i64 most]) (b7 : ∃ v,H0.blk r7 = some v)
  (d : l ≠ r3 ∧ l ≠ r7 ∧ q ≠ r7 ∧ r3 ≠ r7 ∧ q ≠ l ∧ r2 ≠ l ∧ r2 ≠ r7) (hgd : ∀ p ∈ G,p.1 ≠ r7)
  (hx : InstV (fun b => b < n0 ∧ b ≠ r7) H0 (.agg (instC x iv cv sv).toArray) x)
  (hst : L0.state = .ready) (hpe : L0.pending = none) (hpa : L0.params = [17]) (hasg : L0.assign = tree_WalkAsg) (hbo : L0.body = tree_WalkBody) (hn : L0.n = 28)
  (e2 : L0.env 2 = some (.pointer (some ⟨r2,0,none⟩))) (e3 : L0.env 3 = some (.pointer (some ⟨r3,0,none⟩))) (e7 : L0.env 7 = some (.pointer (some ⟨r7,0,none⟩))) :
  Yst l n0 C q x iv cv sv (atN x) (WkI H0 n0 r7 x) (fun _ => False):=by
 obtain ⟨d1,d2,d3,d4,d5,d6,d7⟩:=d
 obtain ⟨_,b7⟩:=b7
 have hl0:=hw0.lt hl
 have hq0:=cells_lt hw0 hq
 have h3n:=cells_lt hw0 b3
 have h2n:=cells_lt hw0 b2
 have h7n:=hw0.lt b7
 have based : ∀ p k H,WkI H0 n0 r7 x p k H → n0 ≤ H.next ∧ GroundA G H ∧ H.cells q = some (instC x iv cv sv) ∧ InstV (fun b => b < n0) H (.agg (instC x iv cv sv).toArray) x:=fun p k H ⟨q1,q2,q3⟩ => by
  refine ⟨q1,fun z hz => ?_,?_,?_⟩
  ·have h1:=hg z hz
   have:=cells_lt hw0 h1
   unfold AH.cells at h1 ⊢
   rw [q2 z.1 (by omega) (hgd z hz)]; exact h1
  ·unfold AH.cells at hq ⊢
   rw [q2 q (by omega) d3]; exact hq
  ·refine hx.up (fun b hb => hb.1) fun b hb cs hc => ?_
   unfold AH.cells at hc ⊢
   rw [q2 b hb.1 hb.2]; exact hc
 refine ⟨fun p p' k H H' ⟨q1,q2,q3⟩ hw hw' hp hn' hfr hpp => ?_,based,fun p k H v hk hI hw hp hv => ?_⟩
 ·have same : ∀ b,b < n0 → H'.blk b = H.blk b:=fun b hb => hfr b (by omega) fun h => by have:=hp b h; omega
  exact ⟨by omega,fun b hb h1 => by rw [same b hb,q2 b hb h1],by rw [same r7 (by omega),q3]⟩
 ·obtain ⟨q1,q2,q3⟩:=id hI
  obtain ⟨_,hgH,hqH,hxH⟩:=based p k H hI
  have hkT : k < (allS x).length:=by omega
  have bl : H.blk l = some (.loop L0):=by rw [q2 l (by omega) d2]; exact hl
  have b3H : H.cells r3 = some [.int .i64 most]:=by unfold AH.cells at b3 ⊢; rw [q2 r3 (by omega) d4]; exact b3
  have hso:=(all_ok hok (List.getElem_mem hkT)).1
  have hck:=cenK_succ hkT
  obtain ⟨hnk,hnd⟩:=cenK_nodes (x:=x) k (by omega)
  rw [at_all hok hkT] at hv
  generalize (allS x)[k] = s at *
  obtain ⟨pv,uv',rfl,s1,s2⟩:=id hv
  have huc:=SetB_cell s2
  have hpc:=s1.cell
  refine AYield.intro mixed bl (by rw [hpa]; rfl) ?_
  rw [hpa,show wpC Tryd.prog L0.n L0.assign = wpC Tryd.prog 28 tree_WalkAsg by rw [hasg,hn],show wpC Tryd.prog L0.n = wpC Tryd.prog 28 by rw [hn]]
  simp (disch:=omega) [-getElem?_pos,if_pos,if_neg,decide_eq_true,decide_eq_false,tree_WalkAsg,putAll,huc.1,huc.2,hpc.1,hpc.2,writeA,over]
  obtain ⟨HA,hHA⟩ : ∃ HA,HA = H.alloc (.row [pv,.int .i64 s.cost,.int .i64 s.left,.int .i64 s.pos,.int .i64 s.used.length,uv'] T_state_State true):=⟨_,rfl⟩
  have blA : HA.blk l = some (.loop L0):=by rw [hHA,AH.alloc_blk_ne (by omega)]; exact bl
  rw [← hHA]
  refine ⟨_,bl,hst,?_⟩
  rw [show wpC Tryd.prog 28 L0.body = wpC Tryd.prog 28 tree_WalkBody by rw [hbo]]
  show wpC _ _ _ _ _ (HA.set l (.loop (busyL L0)))
  obtain ⟨Hb,hHb⟩ : ∃ Hb,Hb = HA.set l (.loop (busyL L0)):=⟨_,rfl⟩
  have wb : WF Hb:=by rw [hHb,hHA]; exact hw.alloc.set (by simp; omega)
  have nb : Hb.next = H.next + 1:=by rw [hHb,hHA]; simp
  have far : ∀ b,b < H.next → b ≠ l → Hb.blk b = H.blk b:=fun b h1 h2 => by rw [hHb,AH.set_blk_ne h2,hHA,AH.alloc_blk_ne (by omega)]
  have blb : Hb.blk l = some (.loop (busyL L0)):=by rw [hHb]; exact AH.set_blk_same
  have c8 : Hb.cells H.next = some [pv,.int .i64 s.cost,.int .i64 s.left,.int .i64 s.pos,.int .i64 s.used.length,uv']:=by rw [hHb,AH.cells_set_ne (by omega),hHA]; simp
  rw [← hHb]
  clear hHb hHA blA
  have farC : ∀ b,b < H.next → b ≠ l → Hb.cells b = H.cells b:=fun b h1 h2 => by unfold AH.cells; rw [far b h1 h2]
  have b7b:=(far r7 (by omega) (Ne.symm d2)).trans q3
  have c7b:=AH.cells_of b7b
  have c3b : Hb.cells r3 = some [.int .i64 most]:=by rw [farC r3 (by omega) (Ne.symm d1)]; exact b3H
  have cqb : Hb.cells r2 = some (instC x iv cv sv):=by
   rw [farC r2 (by omega) d6]
   unfold AH.cells at b2 ⊢
   rw [q2 r2 (by omega) d7]; exact b2
  have notl : ∀ {b : Nat} {cs : List Value},H.cells b = some cs → b ≠ l:=fun {b cs} h hb => by
   subst hb; unfold AH.cells at h; rw [bl] at h; cases h
  have hgb : GroundA G Hb:=fun z hz => by
   have h1:=hgH z hz
   rw [farC z.1 (cells_lt hw h1) (notl h1)]; exact h1
  have hxb : InstV (fun b => b < Hb.next ∧ b ≠ r7) Hb (.agg (instC x iv cv sv).toArray) x:=hx.up (fun b hb => ⟨by omega,hb.2⟩) fun b hb cs hc => by
   have h1 : H.cells b = some cs:=by unfold AH.cells at hc ⊢; rw [q2 b hb.1 hb.2]; exact hc
   rw [farC b (by omega) (notl h1)]; exact h1
  have hsb : StV (fun b => b < Hb.next ∧ b ≠ r7) Hb (.agg #[pv,.int .i64 s.cost,.int .i64 s.left,.int .i64 s.pos,.int .i64 s.used.length,uv']) s:=hv.up (fun b hb => by have:=hp b hb; omega) fun b hb cs hc => by
   have:=hp b hb
   rw [farC b (by omega) (by omega)]; exact hc
  have hge : ¬ ((if most < 1048576 then most else 1048576) ≤ (k : Int)):=by split <;> omega
  have hmn : (if (1048576 : Int) < most then (1048576 : Int) else most) = (if most < 1048576 then most else 1048576):=by split <;> split <;> omega
  have hcs : cut [pv,.int .i64 s.cost,.int .i64 s.left,.int .i64 s.pos,.int .i64 s.used.length,uv'] 0 6 = some [pv,.int .i64 s.cost,.int .i64 s.left,.int .i64 s.pos,.int .i64 s.used.length,uv']:=rfl
  have hcut6:=inst_cut x iv cv sv
  have hcount:=count_spec hgb hgd b7b hxb hsb hok hso (by omega)
  rw [← hck] at hcount
  unfold cenC at c7b
  rw [hnk] at c7b
  generalize hz : (if most < 1048576 then most else 1048576) = z at *
  simp (disch:=omega) [-getElem?_pos,if_pos,if_neg,decide_eq_true,decide_eq_false,tree_WalkBody,e2,e3,e7,c7b,c3b,hmn,hge,cqb,hcut6,c8,hcs]
  refine hcount.mono' fun u H5 w5 ⟨m1,m2,m3⟩ => ?_
  simp (disch:=omega) [-getElem?_pos,if_pos,if_neg,decide_eq_true,decide_eq_false,]
  have bl5 : H5.blk l = some (.loop (busyL L0)):=by rw [m3 l (by omega) d2]; exact blb
  have fin : ∀ B : Blk,B = .loop L0 → H.next ≤ (H5.set l B).next ∧ (∀ y,p y → (H5.set l B).blk y = H.blk y) ∧ WkI H0 n0 r7 x p (k + 1) (H5.set l B):=by
   rintro B rfl
   refine ⟨by simp; omega,fun y hy => ?_,by simp; omega,fun y hy h7 => ?_,?_⟩
   ·have:=hp y hy
    rw [AH.set_blk_ne (by omega),m3 y (by omega) (by omega),far y (by omega) (by omega)]
   ·by_cases hyl : y = l
    ·subst hyl; rw [AH.set_blk_same]; exact hl.symm
    ·rw [AH.set_blk_ne hyl,m3 y (by omega) h7,far y (by omega) hyl,q2 y hy h7]
   ·rw [AH.set_blk_ne (Ne.symm d2)]; exact m1
  obtain ⟨r1,r2,r3'⟩:=fin _ rfl
  refine ⟨_,bl5,?_⟩
  rw [busy_back hst hpe]
  exact ⟨r1,r2,rfl,r3'⟩
theorem Walk_spec {H : AH} {v : Value} {x : InstD} {most : Int} (hg : GroundA G H) (hx : InstV (fun b => b < H.next) H v x) (hok : x.Ok) (hmo : ((allS x).length : Int) ≤ most ∧ (allS x).length ≤ 100000) :
  AFn Tryd.prog F_tree_Walk [v,.int .i64 most] H fun u H' => Keep [] H H' ∧ u = .tuple #[.agg (cenC (cenK x (allS x).length)).toArray,.int .i64 0]:=by
 obtain ⟨iv,cv,sv,rfl,i1,i2,i3,h1,h2,h3⟩:=id hx
 refine AFn.enter mixed ir_tree_Walk_eq (by simp [ir_tree_Walk]) fun hw => ?_
 simp (disch:=omega) [-getElem?_pos,if_pos,if_neg,decide_eq_true,decide_eq_false,ir_tree_Walk,inst_cut]
 generalize hH1 : AH.alloc (AH.alloc (AH.alloc (AH.alloc H _) _) _) _ = H1
 have k1 : Keep [] H H1:=by rw [← hH1]; exact .new_alloc (.new_alloc (.new_alloc .alloc))
 have w1 : WF H1:=by rw [← hH1]; exact hw.alloc.alloc.alloc.alloc
 have n1 : H1.next = H.next + 4:=by rw [← hH1]; simp
 have c2 : H1.cells H.next = some (instC x iv cv sv):=by rw [← hH1]; exact cells_kept hw.alloc (.new_alloc (.new_alloc .alloc)) AH.cells_alloc_new
 have c3 : H1.cells (H.next + 1) = some [.int .i64 most]:=by rw [← hH1]; exact cells_kept hw.alloc.alloc (.new_alloc .alloc) AH.cells_alloc_new
 have b4 : H1.blk (H.next + 2) = some (.row [.int .i64 0,.int .i64 0,.int .i64 0,.int .i64 0,.bool false] T_tree_Census true):=by rw [← hH1,AH.alloc_blk_ne (by simp)]; exact AH.alloc_blk_new
 have b5 : H1.blk (H.next + 3) = some (.row [.int .i64 0] T_api_Errno true):=by rw [← hH1]; exact AH.alloc_blk_new
 clear hH1
 have hx1:=hx.kept hw k1
 refine AFn.pure (Check_spec hx1) ?_
 have hcT:=InstD.check_ok.2 hok
 have hcut6:=inst_cut x iv cv sv
 rw [hcT]
 simp (disch:=omega) [-getElem?_pos,if_pos,if_neg,decide_eq_true,decide_eq_false,c2,hcut6,writeA,over]
 generalize hH2 : AH.alloc H1 _ = H2
 have k2 : Keep [] H1 H2:=by rw [← hH2]; exact .alloc
 have w2 : WF H2:=by rw [← hH2]; exact w1.alloc
 have n2 : H2.next = H1.next + 1:=by rw [← hH2]; simp
 have b7 : H2.blk H1.next = some (.row (cenC (cenK x 0)) T_tree_Census true):=by rw [← hH2]; exact AH.alloc_blk_new
 clear hH2
 have hx2:=hx1.kept w1 k2
 refine (TAll_spec hx2).mono' fun u H3 w3 ⟨iv',cv',sv',e3,hu,hH3⟩ => ?_
 subst hu
 have k3 : Keep [] H2 H3:=by rw [hH3]; exact .alloc
 have n3 : H3.next = H2.next + 1:=by rw [hH3]; simp
 have c33 : H3.cells H2.next = some (instC x iv' cv' sv'):=by rw [hH3]; simp
 clear hH3
 have hx3:=hx2.kept w2 k3
 have e3' : Value.agg #[Value.int IntKind.i64 x.kind,.int .i64 x.cap,iv,cv,.int .i64 x.size,sv] = .agg (instC x iv' cv' sv').toArray:=e3
 obtain ⟨rfl,rfl,rfl⟩ : iv = iv' ∧ cv = cv' ∧ sv = sv':=by
  simp [instC] at e3'
  exact e3'
 simp (disch:=omega) [-getElem?_pos,if_pos,if_neg,decide_eq_true,decide_eq_false,]
 refine wpC_range (p:=#[]) (q:=#[.pointer (some ⟨H2.next,0,none⟩)]) (by simp) good_tree_All_1 ?_
 generalize hL : (LoopA.mk _ _ _ _ _ _ _ : LoopA) = L0
 have L1 : L0.state = .ready:=by rw [← hL]
 have L2 : L0.pending = none:=by rw [← hL]
 have L3 : L0.params = [17]:=by rw [← hL]
 have L4 : L0.assign = tree_WalkAsg:=by rw [← hL]; rfl
 have L5 : L0.body = tree_WalkBody:=by rw [← hL]; rfl
 have L6 : L0.n = 28:=by rw [← hL]
 have E2 : L0.env 2 = some (.pointer (some ⟨H.next,0,none⟩)):=by rw [← hL]; simp
 have E3 : L0.env 3 = some (.pointer (some ⟨H.next + 1,0,none⟩)):=by rw [← hL]; simp
 have E7 : L0.env 7 = some (.pointer (some ⟨H1.next,0,none⟩)):=by rw [← hL]; simp
 clear hL
 obtain ⟨H4,hH4⟩ : ∃ H4,H4 = H3.alloc (.loop L0):=⟨_,rfl⟩
 have k4 : Keep [] H3 H4:=by rw [hH4]; exact .alloc
 have w4 : WF H4:=by rw [hH4]; exact w3.alloc
 have n4 : H4.next = H3.next + 1:=by rw [hH4]; simp
 have bl : H4.blk H3.next = some (.loop L0):=by rw [hH4]; exact AH.alloc_blk_new
 rw [← hH4]
 clear hH4
 have k34:=k3.trans' k4
 have k24:=k2.trans' k34
 have k04:=k1.trans' k24
 have hgs : ∀ p ∈ G,p.1 < H.next:=fun p hp => cells_lt hw (hg p hp)
 have hI0 : WkI H4 H4.next H1.next x (fun _ => False) 0 H4:=⟨Nat.le_refl _,fun _ _ _ => rfl,(k34.blk _ (by omega) (by simp)).trans b7⟩
 have hY:=walk_yst (H0:=H4) (l:=H3.next) (n0:=H4.next) (q:=H2.next) (r2:=H.next) (r3:=H.next + 1) (r7:=H1.next) (C:=(allS x).length) (most:=most) w4 rfl hok (hg.kept hw k04) (Nat.le_refl _) ⟨hmo.1,by omega⟩ bl (cells_kept w3 k4 c33) (cells_kept w1 k24 c2) (cells_kept w1 k24 c3) ⟨_,(k34.blk _ (by omega) (by simp)).trans b7⟩
  (by omega) (fun p hp => by have:=hgs p hp; omega) (hx3.up (fun b hb => by omega) (.kept w3 k4)) L1 L2 L3 L4 L5 L6 E2 E3 E7
 refine (show AFn _ _ [.func (.yield H3.next) #[] #[],.pointer (some ⟨H2.next,0,none⟩)] _ _ from (TAll1_spec hok hmo.2 hY (fun p Hx hI => (stk_nil hok).2 (Nat.le_refl _)) rfl hI0).mono' fun _ H5 w5 hr => ?_)
 rcases hr with ⟨p,k,hk,hst,q1,q2,q3⟩ | hf
 ·have hkl:=(stk_nil hok).1 hst
  obtain rfl : k = (allS x).length:=by omega
  have bl5 : H5.blk H3.next = some (.loop L0):=by rw [q2 _ (by omega) (by omega)]; exact bl
  unfold rangeK
  rw [bl5]
  simp only [L1,L2]
  refine ⟨by simp,?_⟩
  generalize hH6 : AH.set H5 _ _ = H6
  have w6 : WF H6:=by rw [← hH6]; exact w5.set (by omega)
  have far6 : ∀ y,y ≠ H3.next → H6.blk y = H5.blk y:=fun y h => by rw [← hH6,AH.set_blk_ne h]
  have n6 : H6.next = H5.next:=by rw [← hH6]; rfl
  clear hH6
  have b76:=(far6 H1.next (by omega)).trans q3
  have b46 : H6.blk (H.next + 2) = some (.row [.int .i64 0,.int .i64 0,.int .i64 0,.int .i64 0,.bool false] T_tree_Census true):=by rw [far6 _ (by omega),q2 _ (by omega) (by omega),k24.blk _ (by omega) (by simp)]; exact b4
  have b56 : H6.blk (H.next + 3) = some (.row [.int .i64 0] T_api_Errno true):=by rw [far6 _ (by omega),q2 _ (by omega) (by omega),k24.blk _ (by omega) (by simp)]; exact b5
  have c76:=AH.cells_of b76
  generalize cenK x (allS x).length = c at *
  unfold cenC at c76
  have wr4:=writeA_of (off:=0) (news:=cenC c) b46 (by simp [cenC])
  have wr5:=writeA_of (H:=H6.set (H.next + 2) (.row (cenC c) T_tree_Census true)) (off:=0) (news:=[Value.int .i64 0]) (by rw [AH.set_blk_ne (show H.next + 3 ≠ H.next + 2 by omega)]; exact b56) (by simp)
  simp only [cenC,over,List.take_zero,List.nil_append,List.length_cons,List.length_nil,Nat.zero_add,List.drop_succ_cons,List.drop_zero,List.append_nil,List.drop_nil] at wr4 wr5
  have hne : H.next + 3 ≠ H.next + 2:=by omega
  have hc5 : cut [Value.int .i64 c.nodes,.int .i64 c.leaves,.int .i64 c.dead,.int .i64 c.cost,.bool c.found] 0 5 = some [Value.int .i64 c.nodes,.int .i64 c.leaves,.int .i64 c.dead,.int .i64 c.cost,.bool c.found]:=rfl
  simp (disch:=omega) [-getElem?_pos,if_pos,if_neg,decide_eq_true,decide_eq_false,c76,hc5,wr4,wr5]
  exact ⟨⟨by simp; omega,fun y hy _ => by rw [AH.set_blk_ne (by omega),AH.set_blk_ne (by omega),far6 y (by omega),q2 y (by omega) (by omega),k04.blk y hy (by simp)]⟩,rfl⟩
 ·exact hf.elim
end Go.Proofs.YtlcddhgfkkjhkaaDoor

set_option maxRecDepth 100000
namespace Go.Proofs.YtlcddhgfkkjhkaaDoor
open Go Go.Abs
def CenI (x : InstD) (L : List StD) (c : CenD) : Prop :=
 (c.found = false ∧ c.cost = 0 ∧ ∀ s ∈ L,x.done s = false) ∨ (c.found = true ∧ (∃ s ∈ L,x.done s = true ∧ s.cost = c.cost) ∧ ∀ s ∈ L,x.done s = true → c.cost ≤ s.cost)
theorem cen_step {x : InstD} {L : List StD} {c : CenD} {s : StD} (h : CenI x L c) : CenI x (L ++ [s]) (cenS x c s):=by
 have mem : ∀ t,t ∈ L ++ [s] ↔ t ∈ L ∨ t = s:=fun t => by simp
 by_cases hd : x.done s = true
 ·have hc : cenS x c s = ⟨c.nodes + 1,c.leaves + 1,c.dead,if c.found = true ∧ c.cost ≤ s.cost then c.cost else s.cost,true⟩:=by unfold cenS; rw [if_pos hd]
  rw [hc]
  rcases h with ⟨h1,h2,h3⟩ | ⟨h1,⟨t,ht,htd,htc⟩,h3⟩
  ·refine .inr ⟨rfl,⟨s,by simp,hd,?_⟩,fun t ht hd' => ?_⟩
   ·simp [h1]
   ·rcases (mem t).1 ht with h | rfl
    ·rw [h3 t h] at hd'; cases hd'
    ·simp [h1]
  ·by_cases hle : c.cost ≤ s.cost
   ·refine .inr ⟨rfl,⟨t,(mem t).2 (.inl ht),htd,?_⟩,fun u hu hd' => ?_⟩
    ·show t.cost = if c.found = true ∧ c.cost ≤ s.cost then c.cost else s.cost
     rw [if_pos ⟨h1,hle⟩,htc]
    ·show (if c.found = true ∧ c.cost ≤ s.cost then c.cost else s.cost) ≤ u.cost
     rw [if_pos ⟨h1,hle⟩]
     rcases (mem u).1 hu with h | rfl
     ·exact h3 u h hd'
     ·exact hle
   ·refine .inr ⟨rfl,⟨s,by simp,hd,?_⟩,fun u hu hd' => ?_⟩
    ·show s.cost = if c.found = true ∧ c.cost ≤ s.cost then c.cost else s.cost
     rw [if_neg fun h => hle h.2]
    ·show (if c.found = true ∧ c.cost ≤ s.cost then c.cost else s.cost) ≤ u.cost
     rw [if_neg fun h => hle h.2]
     rcases (mem u).1 hu with h | rfl
     ·have:=h3 u h hd'; omega
     ·exact Int.le_refl _
 ·have hd' : x.done s = false:=by simpa using hd
  have hc : (cenS x c s).found = c.found ∧ (cenS x c s).cost = c.cost:=by
   unfold cenS; rw [if_neg hd]; split <;> exact ⟨rfl,rfl⟩
  unfold CenI
  rw [hc.1,hc.2]
  rcases h with ⟨h1,h2,h3⟩ | ⟨h1,⟨t,ht,htd,htc⟩,h3⟩
  ·refine .inl ⟨h1,h2,fun t ht => ?_⟩
   rcases (mem t).1 ht with h | rfl
   ·exact h3 t h
   ·exact hd'
  ·refine .inr ⟨h1,⟨t,(mem t).2 (.inl ht),htd,htc⟩,fun u hu hud => ?_⟩
   rcases (mem u).1 hu with h | rfl
   ·exact h3 u h hud
   ·rw [hd'] at hud; cases hud
theorem cen_is {x : InstD} : ∀ k,k ≤ (allS x).length → CenI x ((allS x).take k) (cenK x k):=by
 intro k
 induction k with
 | zero => intro _; exact .inl ⟨rfl,rfl,by simp⟩
 | succ k ih =>
  intro h
  rw [cenK_succ (by omega),List.take_succ_eq_append_getElem (by omega)]
  exact cen_step (ih (by omega))
theorem cen_all {x : InstD} : CenI x (allS x) (cenK x (allS x).length):=by
 have:=cen_is (x:=x) (allS x).length (Nat.le_refl _)
 rwa [List.take_length] at this
theorem kid_mem {x : InstD} {s : StD} {d : Int} (hok : x.Ok) : ∀ (n : Nat) (t : StD),StOk x t → x.decs - t.path.length ≤ n → s ∈ treeOf x t → d ∈ x.moves s → x.applyS s d ∈ treeOf x t:=by
 intro n
 induction n with
 | zero =>
  intro t ht hn hs hd
  rw [treeOf_eq hok ht] at hs ⊢
  rcases List.mem_cons.1 hs with rfl | hs
  ·have:=moves_path hok ht hd; omega
  ·obtain ⟨u,hu,hsu⟩:=List.mem_flatMap.1 hs
   have:=(kids_ok hok ht hu).2.2; omega
 | succ n ih =>
  intro t ht hn hs hd
  rw [treeOf_eq hok ht] at hs ⊢
  refine List.mem_cons_of_mem _ (List.mem_flatMap.2 ?_)
  rcases List.mem_cons.1 hs with rfl | hs
  ·have hk : x.applyS s d ∈ kids x s:=List.mem_map.2 ⟨d,hd,rfl⟩
   obtain ⟨h1,h2,h3⟩:=kids_ok hok ht hk
   exact ⟨_,hk,by rw [treeOf_eq hok h1]; simp⟩
  ·obtain ⟨u,hu,hsu⟩:=List.mem_flatMap.1 hs
   obtain ⟨h1,h2,h3⟩:=kids_ok hok ht hu
   exact ⟨u,hu,ih u h1 (by omega) hsu hd⟩
theorem kid_all {x : InstD} {s : StD} {d : Int} (hok : x.Ok) (hs : s ∈ allS x) (hd : d ∈ x.moves s) : x.applyS s d ∈ allS x:=kid_mem hok _ _ (start_ok hok) (Nat.le_refl _) hs hd
theorem leaf_down {x : InstD} (hok : x.Ok) {Con : StD → Prop} {P : StD → Prop} (hstep : ∀ s,s ∈ allS x → StOk x s → Con s → x.done s = false → ∃ d ∈ x.moves s,Con (x.applyS s d)) (hend : ∀ s,s ∈ allS x → StOk x s → Con s → x.done s = true → P s) :
  ∀ (n : Nat) (s : StD),x.decs - s.path.length ≤ n → s ∈ allS x → Con s → ∃ t ∈ allS x,x.done t = true ∧ P t:=by
 intro n
 induction n with
 | zero =>
  intro s hn hs hc
  have hso:=(all_ok hok hs).1
  by_cases hd : x.done s = true
  ·exact ⟨s,hs,hd,hend s hs hso hc hd⟩
  ·obtain ⟨d,hd1,hd2⟩:=hstep s hs hso hc (by simpa using hd)
   have:=moves_path hok hso hd1; omega
 | succ n ih =>
  intro s hn hs hc
  have hso:=(all_ok hok hs).1
  by_cases hd : x.done s = true
  ·exact ⟨s,hs,hd,hend s hs hso hc hd⟩
  ·obtain ⟨d,hd1,hd2⟩:=hstep s hs hso hc (by simpa using hd)
   have h1:=moves_path hok hso hd1
   have h2:=(kids_ok hok hso (List.mem_map.2 ⟨d,hd1,rfl⟩)).2.1
   exact ih _ (by omega) (kid_all hok hs hd1) hd2
theorem start_all {x : InstD} (hok : x.Ok) : x.start ∈ allS x:=by
 unfold allS; rw [treeOf_eq hok (start_ok hok)]; simp
end Go.Proofs.YtlcddhgfkkjhkaaDoor
