/-
  THE ABSTRACT LAYER (16): whatever order is drawn.
-/
import Derived.Test.YtejifalflkbekaaDoorA15
import Derived.Scope
set_option linter.unusedSimpArgs false
set_option linter.unusedVariables false
namespace Go.Abs
open Go Go.RowKit
theorem compOpers_get {P : Program} {n : Nat} {ops : Array Oper} : ∀ {l : List Oper} {al : List AOper},compOpers P n ops l = some al → al.length = l.length ∧ ∀ (i : Nat) (o : Oper),l[i]? = some o → ∃ ao,al[i]? = some ao ∧ compOper P n ops o = some ao
 | [],al,h => by simp [compOpers] at h; subst h; simp
 | o :: l,al,h => by
  simp only [compOpers] at h
  split at h
  ·rename_i a r h1 h2
   cases h
   obtain ⟨k1,k2⟩:=compOpers_get h2
   refine ⟨by simp [k1],fun i o' hi => ?_⟩
   cases i with
   | zero => simp at hi; subst hi; exact ⟨a,rfl,h1⟩
   | succ i => simpa using k2 i o' (by simpa using hi)
  ·cases h
theorem ancs_get (ops : Array Oper) : ∀ (m i : Nat),i < m → (ancs ops m).getD (m - 1 - i) 0 = maskOf i (ancs ops i) (esOf ops i)
 | 0,i,h => by omega
 | m + 1,i,h => by
  by_cases him : i = m
  ·subst him
   simp [ancs]
  ·have hs : m + 1 - 1 - i = (m - 1 - i) + 1:=by omega
   rw [hs]
   show (ancs ops m).getD (m - 1 - i) 0 = _
   exact ancs_get ops m i (by omega)
theorem testBit_one_shl (j a : Nat) (h : Nat.testBit (Nat.shiftLeft 1 j) a = true) : a = j:=by
 have : Nat.shiftLeft 1 j = 2 ^ j:=by rw [show Nat.shiftLeft 1 j = 1 <<< j from rfl,Nat.one_shiftLeft]
 rw [this,Nat.testBit_two_pow] at h
 exact (of_decide_eq_true h).symm
theorem maskOf_bit {i : Nat} {an : List Nat} {a : Nat} : ∀ {l : List Nat},Nat.testBit (maskOf i an l) a = true → ∃ j ∈ l,a = j ∨ Nat.testBit (an.getD (i - 1 - j) 0) a = true
 | [],h => by simp [maskOf] at h
 | j :: r,h => by
  have hl : ∀ x y : Nat,Nat.testBit (Nat.lor x y) a = (Nat.testBit x a || Nat.testBit y a):=fun x y => Nat.testBit_or x y a
  rw [maskOf,hl,hl,Bool.or_eq_true,Bool.or_eq_true] at h
  rcases h with (h | h) | h
  ·exact ⟨j,by simp,.inl (testBit_one_shl j a h)⟩
  ·exact ⟨j,by simp,.inr h⟩
  ·obtain ⟨k,hk,h⟩:=maskOf_bit h
   exact ⟨k,by simp [hk],h⟩
theorem anc_listed {ops : Array Oper} {lst : Nat → Prop} (hlt : ∀ i,∀ j ∈ esOf ops i,j < i) (hcl : ∀ i,lst i → ∀ j ∈ esOf ops i,lst j) : ∀ (i m : Nat),i < m → (∀ j ∈ esOf ops i,lst j) → ∀ a,isAnc m (ancs ops m) i a = true → lst a:=by
 intro i
 induction i using Nat.strongRecOn with
 | _ i ih =>
  intro m him hd a ha
  unfold isAnc at ha
  rw [ancs_get ops m i him] at ha
  obtain ⟨j,hj,ha⟩:=maskOf_bit ha
  rcases ha with rfl | ha
  ·exact hd a hj
  ·have hji:=hlt i j hj
   exact ih j hji i hji (hcl j (hd j hj)) a ha
theorem takeWhile_before : ∀ {ord : List Nat},ord.Nodup → ord.Pairwise fun a i => a ∈ ord.takeWhile fun k => k != i
 | [],_ => .nil
 | x :: l,h => by
  obtain ⟨h1,h2⟩:=List.nodup_cons.1 h
  refine List.pairwise_cons.2 ⟨fun i hi => ?_,(takeWhile_before h2).imp_of_mem fun {a i} ha hi hm => ?_⟩
  ·have : x ≠ i:=fun e => h1 (e ▸ hi)
   simp [List.takeWhile_cons,this]
  ·have : x ≠ i:=fun e => h1 (e ▸ hi)
   simp [List.takeWhile_cons,this,hm]
theorem alone_spec {P : Program} {ops : Array Oper} {al : List AOper} {ord : List Nat} {i : Nat} (h : alone P ops al ord i = true) : ∀ a ∈ ord.takeWhile fun k => k != i,isAnc ops.size (ancs ops ops.size) i a = true ∨ ∃ x,al[a]? = some x ∧ x.op.cls = 0:=by
 unfold alone at h
 simp only [Bool.and_eq_true,List.all_eq_true,Bool.or_eq_true] at h
 intro a ha
 rcases h.2 a ha with h | h
 ·exact .inl h
 ·split at h
  ·rename_i x hx
   simp only [Bool.and_eq_true,beq_iff_eq] at h
   exact .inr ⟨x,hx,h.1⟩
  ·cases h
section
variable {P : Program} {B0 n lo n0 : Nat} {ρ0 : Rho} {w0 : World} {ops : Array Oper} {al : List AOper} {r : Option Nat}
def left (ord : List Nat) (listed : Array Bool) : List Nat:=ord.filter fun i => !listed.getD i true
theorem mem_left {ord : List Nat} {listed : Array Bool} {i : Nat} : i ∈ left ord listed ↔ i ∈ ord ∧ listed.getD i true = false:=by simp [left]
theorem left_set {ord : List Nat} {listed : Array Bool} {i : Nat} (hi : i < listed.size) : left ord (listed.setIfInBounds i true) = (left ord listed).filter fun j => j != i:=by
 unfold left
 rw [List.filter_filter]
 apply List.filter_congr
 intro j hj
 by_cases hij : j = i
 ·subst hij; simp [hi]
 ·simp [Array.getElem?_setIfInBounds_ne (Ne.symm hij),hij]
theorem pairOk_spec {ops : Array Oper} {al : List AOper} {an : List Nat} : ∀ {ord : List Nat},pairOk ops al an ord = true → ord.Nodup ∧ ord.Pairwise fun a i => (isAnc ops.size an i a = true ∨ ∃ x y,al[a]? = some x ∧ al[i]? = some y ∧ indep x y = true) ∧ i ∉ esOf ops a
 | [],_ => ⟨.nil,.nil⟩
 | a :: rest,h => by
  simp only [pairOk,Bool.and_eq_true,List.all_eq_true,Bool.or_eq_true,Bool.not_eq_true',List.contains_iff_mem] at h
  obtain ⟨⟨⟨h1,h2⟩,h3⟩,h4⟩:=h
  obtain ⟨k1,k2⟩:=pairOk_spec h4
  refine ⟨List.nodup_cons.2 ⟨by simpa using h3,k1⟩,List.pairwise_cons.2 ⟨fun i hi => ⟨?_,?_⟩,k2⟩⟩
  ·rcases h1 i hi with h | h
   ·exact .inl h
   ·split at h
    ·rename_i x y hx hy; exact .inr ⟨x,y,hx,hy,h⟩
    ·cases h
  ·have:=h2 i hi
   simpa using this
theorem any_sound {ord : List Nat} {g : Nat → Bool} (hg : ∀ i,g i = true → alone P ops al ord i = true) (hdraw : drawOk ops al ord = true) (hc : compOpers P n ops ops.toList = some al) {K : Env → AH → Prop} {Q' : Exit → Act → World → Prop}
  (hK : ∀ ρ' env' H' a' w',Both P B0 n lo n0 ρ0 w0 ρ' env' H' a' w' → K env' H' → Q' .normal a' w') :
  ∀ (fuel : Nat) (listed : Array Bool),listed.size = ops.size → (left ord listed).length ≤ fuel → (∀ i,listed.getD i false = true → ∀ j ∈ esOf ops i,listed.getD j false = true) →
   ∀ {ρ env H a w},wpI P K al g (left ord listed) env H → Both P B0 n lo n0 ρ0 w0 ρ env H a w → wpAnyIn (Fr r) 0 P .any ops Q' fuel listed a w:=by
 unfold drawOk at hdraw
 simp only [List.all_eq_true,List.mem_range,Bool.and_eq_true,List.contains_iff_mem,decide_eq_true_eq] at hdraw
 obtain ⟨⟨⟨htext,hcover⟩,hlt⟩,hpair⟩:=hdraw
 obtain ⟨hnodup,hpw0⟩:=pairOk_spec hpair
 have hpw:=hpw0.and (takeWhile_before hnodup)
 have hmem : ∀ i,i ∈ ord ↔ i < ops.size:=fun i => ⟨hlt i,hcover i⟩
 have hes : ∀ i,∀ j ∈ esOf ops i,j < i:=by
  intro i j hj
  unfold esOf at hj
  cases ho : ops[i]? with
  | none => simp [ho] at hj
  | some o =>
   have hi : i < ops.size:=(Array.getElem?_eq_some_iff.1 ho).1
   have h1:=htext i hi
   rw [ho] at h1
   simp only [ho,List.mem_map,List.mem_filter,Array.mem_toList_iff] at hj
   obtain ⟨e,⟨he,hb⟩,rfl⟩:=hj
   have:=(List.all_eq_true.1 h1) e (by simpa using he)
   simpa [hb] using this
 have hget:=(compOpers_get hc).2
 -- what is ready
 have hready : ∀ (listed : Array Bool) i,i ∈ Region.ready .any ops listed ↔ i ∈ left ord listed ∧ ∀ j ∈ esOf ops i,listed.getD j false = true:=by
  intro listed i
  rw [mem_ready,mem_left,hmem]
  constructor
  ·rintro ⟨h0,o,ho,hall⟩
   refine ⟨⟨(Array.getElem?_eq_some_iff.1 ho).1,h0⟩,fun j hj => ?_⟩
   simp only [esOf,ho,List.mem_map,List.mem_filter,Array.mem_toList_iff] at hj
   obtain ⟨e,⟨he,hb⟩,rfl⟩:=hj
   exact hall e he hb
  ·rintro ⟨⟨hlt,h0⟩,hall⟩
   refine ⟨h0,ops[i],by simp [hlt],fun e he hb => hall e.on ?_⟩
   have : ops[i]? = some ops[i]:=by simp [hlt]
   simp only [esOf,this,List.mem_map,List.mem_filter,Array.mem_toList_iff]
   exact ⟨e,⟨he,hb⟩,rfl⟩
 -- a least one that is left is ready
 have hleast : ∀ (listed : Array Bool),listed.size = ops.size → ∀ i R,left ord listed = i :: R → i ∈ Region.ready .any ops listed:=by
  intro listed hs i R hR
  rw [hready]
  have him : i ∈ left ord listed:=by rw [hR]; simp
  refine ⟨him,fun j hj => ?_⟩
  have hji:=hes i j hj
  have hi:=(hmem i).1 (mem_left.1 him).1
  cases hlj : listed.getD j true with
  | true =>
   have : j < listed.size:=by omega
   simpa [this] using hlj
  | false =>
   exfalso
   have hjm : j ∈ left ord listed:=mem_left.2 ⟨(hmem j).2 (by omega),hlj⟩
   rw [hR] at hjm
   have hsrt : (left ord listed).Pairwise _:=hpw.filter _
   rw [hR] at hsrt
   rcases List.mem_cons.1 hjm with h | h
   ·omega
   ·exact ((List.pairwise_cons.1 hsrt).1 j h).1.2 hj
 intro fuel
 induction fuel with
 | zero =>
  intro listed hs hl hcl ρ env H a w h hb
  have hnil : left ord listed = []:=List.eq_nil_of_length_eq_zero (by omega)
  rw [hnil] at h
  refine ⟨?_,hK ρ env H a w hb h⟩
  cases hr : Region.ready .any ops listed with
  | nil => rfl
  | cons x xs =>
   have : x ∈ Region.ready .any ops listed:=by rw [hr]; simp
   rw [hready,hnil] at this
   simp at this
 | succ fuel ih =>
  intro listed hs hl hcl ρ env H a w h hb
  refine ⟨fun hr => ?_,fun i hi => ?_⟩
  ·have hnil : left ord listed = []:=by
    cases hR : left ord listed with
    | nil => rfl
    | cons i R => have:=hleast listed hs i R hR; rw [hr] at this; cases this
   rw [hnil] at h
   exact hK ρ env H a w hb h
  ·rw [hready] at hi
   obtain ⟨him,hdeps⟩:=hi
   have hisz:=(hmem i).1 (mem_left.1 him).1
   obtain ⟨A,B,hAB⟩:=List.append_of_mem him
   have hsrt : (left ord listed).Pairwise _:=hpw.filter _
   have hnd : (left ord listed).Nodup:=hnodup.filter _
   rw [hAB] at hsrt hnd h
   have hA : ∀ b ∈ A,_:=fun b hb' => (List.pairwise_append.1 hsrt).2.2 b hb' i (by simp)
   have hAi : ∀ b ∈ A,b ≠ i:=fun b hb' e => (List.nodup_append.1 hnd).2.2 b hb' i (by simp) e
   have hBi : ∀ b ∈ B,b ≠ i:=fun b hb' e => (List.nodup_cons.1 (List.nodup_append.1 hnd).2.1).1 (e ▸ hb')
   have hoi : ops.toList[i]? = some ops[i]:=by simp [hisz]
   obtain ⟨ao,hao,hcomp⟩:=hget i ops[i] hoi
   have hnot : ∀ b ∈ A,isAnc ops.size (ancs ops ops.size) i b = true → False:=fun b hb' hanc => by
     have:=anc_listed (lst:=fun j => listed.getD j false = true) hes hcl i ops.size hisz hdeps b hanc
     have hbm : b ∈ left ord listed:=by rw [hAB]; simp [hb']
     have hbl:=(mem_left.1 hbm).2
     have hbs : b < listed.size:=by have:=(hmem b).1 (mem_left.1 hbm).1; omega
     simp [hbs] at this hbl
     rw [this] at hbl
     cases hbl
   have hfront:=wpI_front hao A B (fun b hb' => by
    obtain ⟨⟨h1,_⟩,h2⟩:=hA b hb'
    rcases h1 with hanc | ⟨x,y,hx,hy,hind⟩
    ·exact (hnot b hb' hanc).elim
    ·rw [hao] at hy
     cases hy
     refine ⟨x,hx,hind,fun hgi => ?_⟩
     rcases alone_spec (hg i hgi) b h2 with h3 | ⟨x',hx',h3⟩
     ·exact (hnot b hb' h3).elim
     ·rw [hx] at hx'; cases hx'; exact h3) hb.stp.sim.wf h
   simp only [wpI,hao] at hfront
   refine step_sound (by simp [hisz]) hcomp hfront hb ?_
   intro ρ' env' H' a' w' hb' hk
   have hleft : left ord (listed.setIfInBounds i true) = A ++ B:=by
    rw [left_set (by omega),hAB,List.filter_append,List.filter_cons]
    simp only [bne_self_eq_false,Bool.false_eq_true,if_false]
    rw [List.filter_eq_self.2 (fun b hb' => by have:=hAi b hb'; simp [this]),List.filter_eq_self.2 (fun b hb' => by have:=hBi b hb'; simp [this])]
   refine ih _ (by simp [hs]) ?_ ?_ (by rw [hleft]; exact hk) hb'
   ·rw [hleft]
    rw [hAB] at hl
    simp at hl ⊢
    omega
   ·intro k hk' j hj
    by_cases hki : k = i
    ·subst hki
     have:=hdeps j hj
     exact getD_set_true this
    ·have hk2 : listed.getD k false = true:=by simpa [Array.getElem?_setIfInBounds_ne (Ne.symm hki)] using hk'
     exact getD_set_true (hcl k hk2 j hj)
theorem drawn_soundG (hm : P.follows .mixedOrders = true) {id : Nat} {ord : List Nat} {g : Nat → Bool} (hg : ∀ i,g i = true → alone P ops al ord i = true) (hdraw : drawOk ops al ord = true) (hc : compOpers P n ops ops.toList = some al) {K : Env → AH → Prop} {Q' : Exit → Act → World → Prop}
  (hK : ∀ ρ' env' H' a' w',Both P B0 n lo n0 ρ0 w0 ρ' env' H' a' w' → K env' H' → Q' .normal a' w') {ρ : Rho} {env : Env} {H : AH} {a : Act} {w : World}
  (h : wpI P K al g ord env H) (hb : Both P B0 n lo n0 ρ0 w0 ρ env H a w) : (Code.region id ops true).wpIn (Fr r) 0 P Q' a w:=by
 refine wpIn_region_any hm ?_
 have hlen:=(compOpers_get hc).1
 have hd2:=hdraw
 unfold drawOk at hd2
 simp only [List.all_eq_true,List.mem_range,Bool.and_eq_true,List.contains_iff_mem,decide_eq_true_eq] at hd2
 obtain ⟨⟨⟨_,hcover⟩,hlt⟩,hpair⟩:=hd2
 obtain ⟨hnodup,_⟩:=pairOk_spec hpair
 have hleft : left ord (Array.replicate ops.size false) = ord:=by
  unfold left
  rw [List.filter_eq_self.2 (fun i hi => by
   have : i < ops.size:=hlt i hi
   simp [this])]
 have hsz : ord.length ≤ ops.size:=by
  have : ord.length ≤ (List.range ops.size).length:=List.Nodup.length_le_of_subset hnodup (fun i hi => List.mem_range.2 (hlt i hi))
  simpa using this
 refine any_sound (ρ:=ρ) hg hdraw hc hK ops.size _ (by simp) (by rw [hleft]; exact hsz) ?_ (by rw [hleft]; exact h) ?_
 ·intro i hi
  exfalso
  by_cases h' : i < ops.size
  ·simp [h'] at hi
  ·simp [h'] at hi
 ·exact ⟨⟨hb.stp.sim.same rfl,hb.stp.le,hb.stp.ext.trans ⟨⟨rfl,rfl,rfl,Nat.le_refl _,fun _ _ => rfl⟩,fun _ _ _ h => h,fun _ r h => ⟨r,h⟩⟩⟩,hb.env,hb.marks,hb.up⟩
theorem ord_lt {ord : List Nat} (hdraw : drawOk ops al ord = true) (hc : compOpers P n ops ops.toList = some al) : ∀ i ∈ ord,i < al.length:=by
 have hlen:=(compOpers_get hc).1
 unfold drawOk at hdraw
 simp only [List.all_eq_true,List.mem_range,Bool.and_eq_true,List.contains_iff_mem,decide_eq_true_eq] at hdraw
 intro i hi
 have:=hdraw.1.2 i hi
 rw [hlen]; simpa using this
theorem drawn_sound (hm : P.follows .mixedOrders = true) {id : Nat} {ord : List Nat} (hdraw : drawOk ops al ord = true) (hc : compOpers P n ops ops.toList = some al) {K : Env → AH → Prop} {Q' : Exit → Act → World → Prop}
  (hK : ∀ ρ' env' H' a' w',Both P B0 n lo n0 ρ0 w0 ρ' env' H' a' w' → K env' H' → Q' .normal a' w') {ρ : Rho} {env : Env} {H : AH} {a : Act} {w : World}
  (h : wpO P true K (ord.filterMap fun i => al[i]?) env H) (hb : Both P B0 n lo n0 ρ0 w0 ρ env H a w) : (Code.region id ops true).wpIn (Fr r) 0 P Q' a w :=
 drawn_soundG hm (g:=fun _ => false) (fun _ h => by cases h) hdraw hc hK (wpO_wpI ord (ord_lt hdraw hc) h) hb
end
end Go.Abs
/-
 THE ABSTRACT LAYER (16b): a region whose operations may be done in any order,for what they read and write is apart.
-/
set_option linter.unusedSimpArgs false
set_option linter.unnecessarySimpa false
set_option linter.unusedVariables false
namespace Go.Abs
open Go Go.RowKit
def chk (cf : List Nat) (log : List (Nat × Foot)) (F : Foot) : Prop:=∀ e ∈ log,e.1 ∈ cf → apart F e.2
def StepI (P : Program) (id : Nat) (op : IOp) (env : Env) (H : AH) (v : Value) (H' : AH) (F : Foot) : Prop :=
 match op with
 | .call f args => ∃ fv vs,aval env f = some fv ∧ avals env args = some vs ∧ H' = H ∧ F.w = [] ∧ CalmCall P fv vs F.r H v
 | op => ievalAt id op env H = some (v,H') ∧ F = foot id op env
theorem StepI_op {P : Program} {id : Nat} {op : IOp} {env : Env} {H : AH} {v : Value} {H' : AH} {F : Foot} (h : op.isC = false) : StepI P id op env H v H' F ↔ (ievalAt id op env H = some (v,H') ∧ F = foot id op env):=by
 cases op <;> first | exact Iff.rfl | cases h
theorem StepI_inv {P : Program} {id : Nat} {op : IOp} {env : Env} {H : AH} {v : Value} {H' : AH} {F : Foot} (h : op.isInv = true) (hs : StepI P id op env H v H' F) : False:=by
 cases op <;> first | cases h | skip
 exact absurd hs.1 (by simp [ievalAt,ieval])
def graft (X : List Nat) (H H' : AH) : AH:={ blk:=fun b => if b ∈ X then H.blk b else H'.blk b,next:=H'.next }
def GrowCall (P : Program) (fv : Value) (vs : List Value) (X Y : List Nat) (H : AH) (K : Value → AH → Prop) : Prop :=
 ∀ Hx : AH,Hx.next = H.next → (∀ b,b ∉ X → Hx.blk b = H.blk b) → ACall P fv vs Hx fun v H' => (∀ b,b ∈ X ∨ b ∈ Y → H'.blk b = Hx.blk b) ∧ H.next ≤ H'.next ∧ K v (graft X H H')
def mind (cf : List Nat) (log : List (Nat × Foot)) (X Y : List Nat) : Prop:=∀ e ∈ log,e.1 ∈ cf → (∀ b ∈ e.2.w,b ∈ X) ∧ ∀ b ∈ e.2.r,b ∈ X ∨ b ∈ Y
def late (i : Nat) (rest : List (Nat × AOper × List Nat)) : Bool:=rest.all fun k => !k.2.2.contains i
def wpG (P : Program) (o : AOper) (cf : List Nat) (log : List (Nat × Foot)) (env : Env) (H : AH) (K : Value → AH → Prop) : Prop :=
 ∃ f args fv vs X Y,o.op = .call f args ∧ aval env f = some fv ∧ avals env args = some vs ∧ mind cf log X Y ∧ GrowCall P fv vs X Y H K
def wpS (P : Program) (N i : Nat) (o : AOper) (cf : List Nat) (L : Prop) (log : List (Nat × Foot)) (env : Env) (H : AH) (K : Env → AH → Foot → Prop) : Prop :=
 match guardA env o.guard with
 | none => False
 | some false => K (put env o.dst undef) H ⟨[],[]⟩
 | some true => (∃ v H' F,StepI P (N + i) o.op env H v H' F ∧ chk cf log F ∧ K (put env o.dst v) H' F) ∨ (L ∧ wpG P o cf log env H fun v H' => K (put env o.dst v) H' ⟨[],[]⟩)
def wpM (P : Program) (K : Env → AH → Prop) (N : Nat) : List (Nat × AOper × List Nat) → List (Nat × Foot) → Env → AH → Prop
 | [],_,env,H => K env H
 | (i,o,cf) :: rest,log,env,H => wpS P N i o cf (late i rest = true) log env H fun env' H' F => wpM P K N rest ((i,F) :: log) env' H'
def StepM (P : Program) (id : Nat) (o : AOper) (env : Env) (H : AH) (v : Value) (H' : AH) (F : Foot) : Prop :=
 match guardA env o.guard with
 | none => False
 | some false => v = undef ∧ H' = H ∧ F = ⟨[],[]⟩
 | some true => StepI P id o.op env H v H' F
theorem chk_none {cf : List Nat} {log : List (Nat × Foot)} : chk cf log ⟨[],[]⟩:=fun _ _ _ => ⟨fun _ h => by simp at h,fun _ h => by simp at h⟩
theorem wpS_iff {P : Program} {N i : Nat} {o : AOper} {cf : List Nat} {L : Prop} {log : List (Nat × Foot)} {env : Env} {H : AH} {K : Env → AH → Foot → Prop} :
  wpS P N i o cf L log env H K ↔ (∃ v H' F,StepM P (N + i) o env H v H' F ∧ chk cf log F ∧ K (put env o.dst v) H' F) ∨ (guardA env o.guard = some true ∧ L ∧ wpG P o cf log env H fun v H' => K (put env o.dst v) H' ⟨[],[]⟩):=by
 unfold StepM wpS
 cases guardA env o.guard with
 | none => simp
 | some b =>
  cases b with
  | false =>
   simp only
   constructor
   ·intro h; exact .inl ⟨undef,H,⟨[],[]⟩,⟨rfl,rfl,rfl⟩,chk_none,h⟩
   ·rintro (⟨v,H',F,⟨h1,h2,h3⟩,_,h⟩ | ⟨h,_⟩)
    ·subst h1; subst h2; subst h3; exact h
    ·cases h
  | true => simp
theorem wpG_mono {P : Program} {o : AOper} {cf : List Nat} {log log' : List (Nat × Foot)} {env : Env} {H : AH} {K K' : Value → AH → Prop} (hl : ∀ e ∈ log',e ∈ log) (hK : ∀ v H',H.next ≤ H'.next → K v H' → K' v H') (h : wpG P o cf log env H K) : wpG P o cf log' env H K':=by
 obtain ⟨f,args,fv,vs,X,Y,h1,h2,h3,h4,h5⟩:=h
 exact ⟨f,args,fv,vs,X,Y,h1,h2,h3,fun e he => h4 e (hl e he),fun Hx hn hb => (h5 Hx hn hb).mono fun v H' ⟨q1,q2,q3⟩ => ⟨q1,q2,hK _ _ q2 q3⟩⟩
theorem wpS_weak {P : Program} {N i : Nat} {o : AOper} {cf : List Nat} {L L' : Prop} {log log' : List (Nat × Foot)} {env : Env} {H : AH} {K K' : Env → AH → Foot → Prop} (hL : L → L') (hl : ∀ e ∈ log',e ∈ log) (hK : ∀ env' H' F,K env' H' F → K' env' H' F)
  (h : wpS P N i o cf L log env H K) : wpS P N i o cf L' log' env H K':=by
 rcases wpS_iff.1 h with ⟨v,H',F,h1,h2,h3⟩ | ⟨h1,h2,h3⟩
 ·exact wpS_iff.2 (.inl ⟨v,H',F,h1,fun e he hc => h2 e (hl e he) hc,hK _ _ _ h3⟩)
 ·exact wpS_iff.2 (.inr ⟨h1,hL h2,wpG_mono hl (fun v H' _ h => hK _ _ _ h) h3⟩)
theorem wpM_log {P : Program} {K : Env → AH → Prop} {N : Nat} : ∀ {ops : List (Nat × AOper × List Nat)} {log log' : List (Nat × Foot)} {env : Env} {H : AH},(∀ e ∈ log',e ∈ log) → wpM P K N ops log env H → wpM P K N ops log' env H
 | [],_,_,_,_,_,h => h
 | (i,o,cf) :: rest,log,log',env,H,hs,h => wpS_weak (fun h => h) hs (fun env' H' F h => wpM_log (fun e he => by
  rcases List.mem_cons.1 he with he | he
  ·exact List.mem_cons.2 (.inl he)
  ·exact List.mem_cons.2 (.inr (hs e he))) h) h
theorem wpM_mono {P : Program} {K K' : Env → AH → Prop} {N : Nat} (hk : ∀ env H,K env H → K' env H) : ∀ {ops : List (Nat × AOper × List Nat)} {log : List (Nat × Foot)} {env : Env} {H : AH},wpM P K N ops log env H → wpM P K' N ops log env H
 | [],_,_,_,h => hk _ _ h
 | (i,o,cf) :: rest,log,env,H,h => wpS_weak (fun h => h) (fun _ h => h) (fun env' H' F h => wpM_mono hk h) h
theorem wpM_step {P : Program} {K : Env → AH → Prop} {N i : Nat} {o : AOper} {cf : List Nat} {rest : List (Nat × AOper × List Nat)} {log : List (Nat × Foot)} {env : Env} {H H' : AH} {v : Value} {F : Foot} (h1 : StepM P (N + i) o env H v H' F) (h2 : chk cf log F)
  (h3 : wpM P K N rest ((i,F) :: log) (put env o.dst v) H') : wpM P K N ((i,o,cf) :: rest) log env H:=wpS_iff.2 (.inl ⟨v,H',F,h1,h2,h3⟩)
theorem ievalAt_congr {id : Nat} {env env' : Env} {H : AH} (op : IOp) (h : ∀ x ∈ op.opds,aval env x = aval env' x) : ievalAt id op env H = ievalAt id op env' H:=by
 cases op
 case box e x => simp only [IOp.opds] at h; simp only [ievalAt]; rw [h x (by simp)]
 case bslice e l z ps => simp only [IOp.opds] at h; simp only [ievalAt]; rw [fillA_congr fun p hp => h _ (List.mem_map.2 ⟨p,hp,rfl⟩)]
 case mks e b z l c => simp only [IOp.opds] at h; simp only [ievalAt]; rw [h l (by simp),h c (by simp)]
 case app e z b s x => simp only [IOp.opds] at h; simp only [ievalAt]; rw [h s (by simp),h x (by simp)]
 case new => rfl
 all_goals exact ieval_congr (H:=H) _ h
theorem foot_congr {id : Nat} {env env' : Env} (op : IOp) (h : ∀ x ∈ op.opds,aval env x = aval env' x) : foot id op env = foot id op env':=by
 cases op <;> simp only [IOp.opds] at h <;> simp only [foot]
 case load1 x => rw [h x (by simp)]
 case loadN n x => rw [h x (by simp)]
 case bstr x => rw [h x (by simp)]
 case store1 x y => rw [h x (by simp)]
 case storeN n x y => rw [h x (by simp)]
 case app e z b s x => rw [h s (by simp),h x (by simp)]
 case copy z s x => rw [h s (by simp),h x (by simp)]
 case clearS z x => rw [h x (by simp)]
theorem StepI_congr {P : Program} {id : Nat} {env env' : Env} {H H' : AH} {v : Value} {F : Foot} (op : IOp) (h : ∀ x ∈ op.opds,aval env x = aval env' x) : StepI P id op env H v H' F ↔ StepI P id op env' H v H' F:=by
 by_cases hc : op.isC = false
 ·rw [StepI_op hc,StepI_op hc,ievalAt_congr op h,foot_congr op h]
 ·cases op <;> try (exact absurd rfl hc)
  ·rename_i f args
   simp only [IOp.opds] at h
   simp only [StepI]
   rw [h f (by simp),avals_congr fun x hx => h x (by simp [hx])]
  ·exact ⟨fun hs => (StepI_inv rfl hs).elim,fun hs => (StepI_inv rfl hs).elim⟩
theorem StepM.put {P : Program} {id : Nat} {o : AOper} {env : Env} {H H' : AH} {v u : Value} {F : Foot} {dst : Option Nat} (h : ∀ d,dst = some d → d ∉ looks o) : StepM P id o (put env dst u) H v H' F ↔ StepM P id o env H v H' F:=by
 have h1:=opds_put (v:=u) (env:=env) h
 unfold StepM
 rw [guard_put h]
 cases hg : guardA env o.guard with
 | none => exact Iff.rfl
 | some b =>
  cases b with
  | false => exact Iff.rfl
  | true =>
   simp only
   exact StepI_congr (env:=Abs.put env dst u) (env':=env) o.op h1
def Local (F : Foot) (H : AH) (v : Value) (H' : AH) (f : AH → Option (Value × AH)) : Prop :=
 H'.next = H.next ∧ (∀ b,b ∉ F.w → H'.blk b = H.blk b) ∧
 ∀ H1 : AH,H.next ≤ H1.next → (∀ b,b ∈ F.r ∨ b ∈ F.w → H1.blk b = H.blk b) → ∃ H1',f H1 = some (v,H1') ∧ H1'.next = H1.next ∧ (∀ b,b ∈ F.w → H1'.blk b = H'.blk b) ∧ (∀ b,b ∉ F.w → H1'.blk b = H1.blk b)
theorem Local.pure {F : Foot} {H : AH} {v : Value} {f : AH → Option (Value × AH)} (h : ∀ H1 : AH,(∀ b,b ∈ F.r ∨ b ∈ F.w → H1.blk b = H.blk b) → f H1 = some (v,H1)) : Local F H v H f :=
 ⟨rfl,fun _ _ => rfl,fun H1 hn hb => ⟨H1,h H1 hb,rfl,fun b hw => hb b (.inr hw),fun _ _ => rfl⟩⟩
theorem Local.put {F : Foot} {H : AH} {v : Value} {id : Nat} {B : Blk} {f : AH → Option (Value × AH)} (hid : id < H.next) (hF : id ∈ F.w) (h : ∀ H1 : AH,(∀ b,b ∈ F.r ∨ b ∈ F.w → H1.blk b = H.blk b) → f H1 = some (v,H1.allocAt id B)) : Local F H v (H.allocAt id B) f:=by
 refine ⟨by simp [AH.allocAt,hid],fun b hb => ?_,fun H1 hn hb => ⟨H1.allocAt id B,h H1 hb,by simp only [AH.allocAt]; rw [if_pos (by omega)],fun b hw => ?_,fun b hw => ?_⟩⟩
 ·simp only [AH.allocAt]; rw [if_neg fun hc => hb (by rw [hc]; exact hF)]
 ·simp only [AH.allocAt]; split
  ·rfl
  ·exact hb b (.inr hw)
 ·simp only [AH.allocAt]; rw [if_neg fun hc => hw (by rw [hc]; exact hF)]
theorem Local.write {F : Foot} {H H' : AH} {v : Value} {b off : Nat} {news : List Value} {f : AH → Option (Value × AH)} (hw : writeA H b off news = some H') (hF : b ∈ F.w) (h : ∀ H1 : AH,(∀ b,b ∈ F.r ∨ b ∈ F.w → H1.blk b = H.blk b) → ∀ H2,writeA H1 b off news = some H2 → f H1 = some (v,H2)) : Local F H v H' f:=by
 unfold writeA at hw
 split at hw
 ·rename_i cs e hb
  split at hw
  ·rename_i hl
   cases hw
   refine ⟨rfl,fun c hc => ?_,fun H1 hn hh => ?_⟩
   ·simp only [AH.set]; rw [if_neg fun hcb => hc (by rw [hcb]; exact hF)]
   ·refine ⟨H1.set b (.row (over cs off news) e true),h H1 hh _ ?_,rfl,fun c hc => ?_,fun c hc => ?_⟩
    ·unfold writeA; rw [hh b (.inr hF),hb]; simp only; rw [if_pos hl]
    ·simp only [AH.set]; split
     ·rfl
     ·exact hh c (.inr hc)
    ·simp only [AH.set]; rw [if_neg fun hcb => hc (by rw [hcb]; exact hF)]
  ·cases hw
 ·cases hw
theorem elemsA_of {H H1 : AH} {sz : Nat} {v : Value} {l : List Value} (h : elemsA H sz v = some l) (hb : ∀ b,b ∈ blkOf (some v) → H1.blk b = H.blk b) : elemsA H1 sz v = some l:=by
 unfold elemsA at h ⊢
 split
 ·simpa using h
 ·rename_i b off sp len cap
  simp only at h ⊢
  split at h
  ·rename_i h0; rw [if_pos h0]; exact h
  ·rename_i h0
   rw [if_neg h0]
   have : H1.cells b = H.cells b:=by unfold AH.cells; rw [hb b (by simp [blkOf])]
   rw [this]; exact h
 ·rename_i h1 h2
  exfalso
  split at h
  ·exact h1 rfl
  ·exact h2 _ _ _ _ _ rfl
  ·cases h
theorem appendAt_local {id : Nat} {H H' : AH} {elem sz bytes m : Nat} {s v : Value} {news : List Value} {F : Foot} (h : appendAt id H elem sz bytes s m news = some (v,H')) (hid : id < H.next) (hF : id ∈ F.w) (hs : ∀ b,b ∈ blkOf (some s) → b ∈ F.w) :
  Local F H v H' fun H1 => appendAt id H1 elem sz bytes s m news:=by
 unfold appendAt at h
 split at h
 ·split at h
  ·rename_i h0
   cases h
   exact .pure fun H1 _ => by simp only [appendAt]; rw [if_pos h0]
  ·rename_i h0
   split at h
   ·rename_i h1
    cases h
    exact .put hid hF fun H1 _ => by simp only [appendAt]; rw [if_neg h0,if_pos h1]
   ·cases h
 ·rename_i b off sp len cap
  have hbw : b ∈ F.w:=hs b (by simp [blkOf])
  split at h
  ·rename_i h0
   cases h
   exact .pure fun H1 _ => by simp only [appendAt]; rw [if_pos h0]
  ·rename_i h0
   split at h
   ·rename_i h1
    obtain ⟨H2,hw,hq⟩:=opt_map_some h
    cases hq
    exact .write hw hbw fun H1 _ H2 hw2 => by simp only [appendAt]; rw [if_neg h0,if_pos h1,hw2]; rfl
   ·rename_i h1
    split at h
    ·rename_i h2
     split at h
     ·rename_i olds hol
      have holds : ∀ H1 : AH,(∀ b,b ∈ F.r ∨ b ∈ F.w → H1.blk b = H.blk b) → elemsA H1 sz (.slice (some ⟨b,off,sp⟩) len cap) = some olds:=fun H1 hb => elemsA_of hol fun c hc => hb c (.inr (hs c hc))
      split at h
      ·cases h
       exact .put hid hF fun H1 hb => by simp only [appendAt]; rw [if_neg h0,if_neg h1,if_pos h2,holds H1 hb]
      ·rename_i t
       split at h
       ·rename_i cs e hb
        split at h
        ·rename_i h3
         cases h
         refine ⟨?_,fun c hc => ?_,fun H1 hn hh => ⟨(H1.kill b).allocAt id (.row (olds ++ news) elem true),?_,?_,fun c hc => ?_,fun c hc => ?_⟩⟩
         ·simp [AH.allocAt,AH.kill,hid]
         ·simp only [AH.allocAt,AH.kill]; rw [if_neg fun hcb => hc (by rw [hcb]; exact hF),if_neg fun hcb => hc (by rw [hcb]; exact hbw)]
         ·simp only [appendAt]; rw [if_neg h0,if_neg h1,if_pos h2,holds H1 hh]; simp only; rw [hh b (.inr hbw),hb]; simp only; rw [if_pos h3]
         ·exact if_pos (show id < H1.next by omega)
         ·simp only [AH.allocAt,AH.kill]; rw [hh c (.inr hc)]
         ·simp only [AH.allocAt,AH.kill]; rw [if_neg fun hcb => hc (by rw [hcb]; exact hF),if_neg fun hcb => hc (by rw [hcb]; exact hbw)]
        ·cases h
       ·cases h
     ·cases h
    ·cases h
 ·cases h
theorem ievalAt_local {id : Nat} {op : IOp} {env : Env} {H H' : AH} {v : Value} (hc : op.isC = false) (hid : id < H.next) (h : ievalAt id op env H = some (v,H')) : Local (foot id op env) H v H' (ievalAt id op env):=by
 by_cases h0 : op.cls = 0
 ·have he : ∀ H,ievalAt id op env H = ieval op env H:=fun H => by cases op <;> first | rfl | (cases h0; done)
  rw [he] at h
  obtain ⟨rfl,h2⟩:=ieval_pure h0 h
  exact .pure fun H1 _ => by rw [he]; exact h2 H1
 cases op <;> try (first | exact absurd rfl h0 | (cases hc; done))
 case new e z => cases h; exact .put hid (by simp [foot]) fun _ _ => rfl
 case box e x =>
  simp only [ievalAt] at h
  split at h
  ·rename_i u hu
   obtain ⟨cs,hcs,hq⟩:=opt_map_some h
   cases hq
   exact .put hid (by simp [foot]) fun _ _ => by simp only [ievalAt,hu,hcs,Option.map_some]
  ·cases h
 case bslice e l z ps =>
  simp only [ievalAt] at h
  obtain ⟨cs,hcs,hq⟩:=opt_map_some h
  cases hq
  exact .put hid (by simp [foot]) fun _ _ => by simp only [ievalAt,hcs,Option.map_some]
 case mks e b z x y =>
  simp only [ievalAt] at h
  split at h
  ·rename_i l c hl hc2
   split at h
   ·rename_i hh
    cases h
    exact .put hid (by simp [foot]) fun _ _ => by simp only [ievalAt,hl,hc2]; rw [if_pos hh]
   ·cases h
  ·cases h
 case load1 x =>
  simp only [ievalAt,ieval] at h
  split at h
  ·rename_i b off hx
   obtain ⟨u,hu,hq⟩:=opt_map_some h
   cases hq
   refine .pure fun H1 hb => ?_
   have : H1.cells b = H.cells b:=by unfold AH.cells; rw [hb b (.inl (by simp [foot,hx,blkOf]))]
   simp only [ievalAt,ieval,hx,this,hu,Option.map_some]
  ·cases h
 case loadN n x =>
  simp only [ievalAt,ieval] at h
  split at h
  ·rename_i b off hx
   obtain ⟨u,hu,hq⟩:=opt_map_some h
   cases hq
   refine .pure fun H1 hb => ?_
   have : H1.cells b = H.cells b:=by unfold AH.cells; rw [hb b (.inl (by simp [foot,hx,blkOf]))]
   simp only [ievalAt,ieval,hx,this,hu,Option.map_some]
  ·cases h
 case bstr x =>
  simp only [ievalAt,ieval] at h
  split at h
  ·rename_i u hx
   obtain ⟨r,hr,hq⟩:=opt_map_some h
   simp only [Prod.mk.injEq] at hq
   obtain ⟨rfl,rfl⟩:=hq
   refine .pure fun H1 hb => ?_
   have : bstrA H1 u = some r:=by
    unfold bstrA at hr ⊢
    split at hr
    ·rename_i a n c
     split at hr
     ·rename_i l hl
      rw [elemsA_of hl fun b' hb' => hb b' (.inl (by simp only [foot,hx]; exact hb'))]
      exact hr
     ·cases hr
    ·cases hr
   simp only [ievalAt,ieval,hx,this,Option.map_some]
  ·cases h
 case store1 x y =>
  simp only [ievalAt,ieval] at h
  split at h
  ·rename_i b off u hx hy
   split at h
   ·rename_i h1
    obtain ⟨H2,hw,hq⟩:=opt_map_some h
    cases hq
    exact .write hw (by simp [foot,hx,blkOf]) fun H1 _ H2 hw2 => by simp only [ievalAt,ieval,hx,hy]; rw [if_pos h1,hw2]; rfl
   ·cases h
  ·cases h
 case storeN n x y =>
  simp only [ievalAt,ieval] at h
  split at h
  ·rename_i b off u hx hy
   split at h
   ·rename_i h1
    obtain ⟨H2,hw,hq⟩:=opt_map_some h
    cases hq
    exact .write hw (by simp [foot,hx,blkOf]) fun H1 _ H2 hw2 => by simp only [ievalAt,ieval,hx,hy]; rw [if_pos h1,hw2]; rfl
   ·cases h
  ·cases h
 case app e z b s x =>
  simp only [ievalAt] at h
  split at h
  ·rename_i sv ad m c hs hx
   split at h
   ·rename_i news hn
    have hl:=appendAt_local (F:=foot id (.app e z b s x) env) h hid (by simp [foot]) (fun c hc => by simp [foot,hs,hc])
    obtain ⟨l1,l2,l3⟩:=hl
    refine ⟨l1,l2,fun H1 hn1 hb => ?_⟩
    obtain ⟨H1',k1,k2⟩:=l3 H1 hn1 hb
    refine ⟨H1',?_,k2⟩
    have:=elemsA_of hn fun c hc => hb c (.inl (by simp only [foot,hx]; exact hc))
    simp only [ievalAt,hs,hx,this]
    exact k1
   ·cases h
  ·cases h
 case copy z d x =>
  simp only [ievalAt,ieval] at h
  split at h
  ·rename_i hd hx
   cases h
   exact .pure fun H1 _ => by simp only [ievalAt,ieval,hd,hx]
  ·rename_i b off sp len cap ad m c hd hx
   split at h
   ·rename_i h1
    cases h
    exact .pure fun H1 _ => by simp only [ievalAt,ieval,hd,hx]; rw [if_pos h1]
   ·rename_i h1
    split at h
    ·rename_i news hn
     obtain ⟨H2,hw,hq⟩:=opt_map_some h
     cases hq
     refine .write hw (by simp [foot,hd,blkOf]) fun H1 hb H2 hw2 => ?_
     have:=elemsA_of hn fun c hc => hb c (.inl (by simp only [foot,hx]; cases ad <;> (simp [blkOf] at hc ⊢; try exact hc)))
     simp only [ievalAt,ieval,hd,hx]
     rw [if_neg h1,this]
     simp only
     rw [hw2]
     rfl
    ·cases h
  ·cases h
 case clearS z x =>
  simp only [ievalAt,ieval] at h
  split at h
  ·rename_i hx
   cases h
   exact .pure fun H1 _ => by simp only [ievalAt,ieval,hx]
  ·rename_i b off sp len cap hx
   split at h
   ·rename_i h1
    cases h
    exact .pure fun H1 _ => by simp only [ievalAt,ieval,hx]; rw [if_pos h1]
   ·rename_i h1
    obtain ⟨H2,hw,hq⟩:=opt_map_some h
    cases hq
    exact .write hw (by simp [foot,hx,blkOf]) fun H1 _ H2 hw2 => by simp only [ievalAt,ieval,hx]; rw [if_neg h1,hw2]; rfl
  ·cases h
theorem StepM.local {P : Program} {id : Nat} {o : AOper} {env : Env} {H H' : AH} {v : Value} {F : Foot} (hid : id < H.next) (h : StepM P id o env H v H' F) :
  H'.next = H.next ∧ (∀ b,b ∉ F.w → H'.blk b = H.blk b) ∧ ∀ H1 : AH,H.next ≤ H1.next → (∀ b,b ∈ F.r ∨ b ∈ F.w → H1.blk b = H.blk b) → ∃ H1',StepM P id o env H1 v H1' F ∧ H1'.next = H1.next ∧ (∀ b,b ∈ F.w → H1'.blk b = H'.blk b) ∧ (∀ b,b ∉ F.w → H1'.blk b = H1.blk b):=by
 unfold StepM at *
 cases hg : guardA env o.guard with
 | none => simp only [hg] at h
 | some b =>
  cases b with
  | false =>
   simp only [hg] at h ⊢
   obtain ⟨rfl,rfl,rfl⟩:=h
   exact ⟨rfl,fun _ _ => rfl,fun H1 hn hb => ⟨H1,⟨rfl,rfl,rfl⟩,rfl,fun b hw => by simp at hw,fun _ _ => rfl⟩⟩
  | true =>
   simp only [hg] at h ⊢
   by_cases hc : o.op.isC = false
   ·rw [StepI_op hc] at h
    obtain ⟨h,rfl⟩:=h
    obtain ⟨l1,l2,l3⟩:=ievalAt_local hc hid h
    refine ⟨l1,l2,fun H1 hn hb => ?_⟩
    obtain ⟨H1',k1,k2⟩:=l3 H1 hn hb
    exact ⟨H1',(StepI_op hc).2 ⟨k1,rfl⟩,k2⟩
   ·cases ho : o.op <;> rw [ho] at h hc <;> try (exact absurd rfl hc)
    ·obtain ⟨fv,vs,h1,h2,rfl,h4,h5⟩:=h
     exact ⟨rfl,fun _ _ => rfl,fun H1 hn hb => ⟨H1,⟨fv,vs,h1,h2,rfl,h4,h5.other fun b hr => hb b (.inl hr)⟩,rfl,fun b hw => by rw [h4] at hw; simp at hw,fun _ _ => rfl⟩⟩
    ·exact (StepI_inv rfl h).elim
theorem AH.same {H H' : AH} (h : H.next = H'.next) (hb : ∀ b,H.blk b = H'.blk b) : H = H':=by
 cases H; cases H'
 simp only at h hb
 subst h
 rw [funext hb]
theorem wpS_mono {P : Program} {N i : Nat} {o : AOper} {cf : List Nat} {L L' : Prop} {log : List (Nat × Foot)} {env : Env} {H : AH} {K K' : Env → AH → Foot → Prop} (hi : N + i < H.next) (hL : L → L') (hK : ∀ env' H' F,H.next ≤ H'.next → K env' H' F → K' env' H' F)
  (h : wpS P N i o cf L log env H K) : wpS P N i o cf L' log env H K':=by
 rcases wpS_iff.1 h with ⟨v,H',F,h1,h2,h3⟩ | ⟨h1,h2,h3⟩
 ·exact wpS_iff.2 (.inl ⟨v,H',F,h1,h2,hK _ _ _ (Nat.le_of_eq (h1.local hi).1.symm) h3⟩)
 ·exact wpS_iff.2 (.inr ⟨h1,hL h2,wpG_mono (fun _ h => h) (fun v H' hn h => hK _ _ _ hn h) h3⟩)
theorem apart_none {F : Foot} : apart F ⟨[],[]⟩:=⟨fun b _ => by simp,fun b _ => by simp⟩
theorem wpS_swap {P : Program} {N ia ii : Nat} {a o : AOper} {ca ci : List Nat} {log : List (Nat × Foot)} {env : Env} {H : AH} {L : Prop} {K : Env → AH → List (Nat × Foot) → Prop} (hs : slotsOk a o = true) (hcf : ia ∈ ci) (ha : N + ia < H.next) (hi : N + ii < H.next)
  (hL : L → ia ∉ ci) (hKl : ∀ env H l l',(∀ e ∈ l',e ∈ l) → K env H l → K env H l')
  (h : wpS P N ia a ca L log env H fun env1 H1 F1 => wpS P N ii o ci True ((ia,F1) :: log) env1 H1 fun env2 H2 F2 => K env2 H2 ((ii,F2) :: (ia,F1) :: log)) :
  wpS P N ii o ci True log env H fun env1 H1 F1 => wpS P N ia a ca L ((ii,F1) :: log) env1 H1 fun env2 H2 F2 => K env2 H2 ((ia,F2) :: (ii,F1) :: log):=by
 unfold slotsOk at hs
 simp only [Bool.and_eq_true,Bool.not_eq_true'] at hs
 obtain ⟨⟨⟨s1,s2⟩,s3⟩,s4⟩:=hs
 have d1 : ∀ d,a.dst = some d → d ∉ looks o:=fun d hd => by rw [hd] at s3; simp at s3; exact s3.1
 have d2 : ∀ d,a.dst = some d → o.dst ≠ some d:=fun d hd => by rw [hd] at s3; simp at s3; exact s3.2
 have d3 : ∀ d,o.dst = some d → d ∉ looks a:=fun d hd => by rw [hd] at s4; simp at s4; exact s4
 have perm : ∀ {F F' : Foot},∀ e ∈ ((ia,F') :: (ii,F) :: log),e ∈ ((ii,F) :: (ia,F') :: log):=fun e he => by
  simp only [List.mem_cons] at he ⊢
  rcases he with he | he | he
  ·exact .inr (.inl he)
  ·exact .inl he
  ·exact .inr (.inr he)
 rcases wpS_iff.1 h with ⟨va,Ha,Fa,r1,c1,h⟩ | ⟨_,hl,_⟩
 rotate_left
 ·exact absurd hcf (hL hl)
 obtain ⟨a1,a2,a3⟩:=r1.local ha
 rcases wpS_iff.1 h with ⟨vo,Ho,Fo,r2,c2,h⟩ | ⟨hg,_,h⟩
 ·rw [StepM.put d1] at r2
  have hap : apart Fo Fa:=c2 _ (List.mem_cons.2 (.inl rfl)) hcf
  obtain ⟨p1,p2⟩:=hap
  obtain ⟨o1,o2,o3⟩:=r2.local (by rw [a1]; exact hi)
  obtain ⟨Hi,q1,q2,q3,q4⟩:=o3 H (Nat.le_of_eq a1) (fun b hb => (a2 b (by rcases hb with hb | hb; exact p2 b hb; exact (p1 b hb).2)).symm)
  obtain ⟨Hx,t1,t2,t3,t4⟩:=a3 Hi (Nat.le_of_eq q2.symm) (fun b hb => q4 b fun hw => by rcases hb with hb | hb; exact (p1 b hw).1 hb; exact (p1 b hw).2 hb)
  have hx : Hx = Ho:=by
   refine AH.same (by rw [t2,q2,o1,a1]) fun b => ?_
   by_cases hba : b ∈ Fa.w
   ·rw [t3 b hba,o2 b fun hw => (p1 b hw).2 hba]
   ·rw [t4 b hba]
    by_cases hbo : b ∈ Fo.w
    ·rw [q3 b hbo]
    ·rw [q4 b hbo,o2 b hbo,a2 b hba]
  subst hx
  refine wpS_iff.2 (.inl ⟨vo,Hi,Fo,q1,fun e he hc => c2 e (List.mem_cons.2 (.inr he)) hc,wpS_iff.2 (.inl ⟨va,Hx,Fa,(StepM.put d3).2 t1,fun e he hc => ?_,?_⟩)⟩)
  ·rcases List.mem_cons.1 he with he | he
   ·subst he; exact ⟨fun b hb => ⟨fun hr => p2 b hr hb,fun hw => (p1 b hw).2 hb⟩,fun b hb hw => (p1 b hw).1 hb⟩
   ·exact c1 e he hc
  ·rw [show Abs.put (Abs.put env o.dst vo) a.dst va = Abs.put (Abs.put env a.dst va) o.dst vo from (put_comm d2).symm]
   exact hKl _ _ _ _ perm h
 ·obtain ⟨f,args,fv,vs,X,Y,g1,g2,g3,g4,g5⟩:=h
  have hop:=opds_put (v:=va) (env:=env) d1
  rw [guard_put d1] at hg
  rw [g1] at hop
  simp only [IOp.opds] at hop
  rw [hop f (by simp)] at g2
  rw [avals_congr fun x hx => hop x (by simp [hx])] at g3
  obtain ⟨x1,x2⟩:=g4 (ia,Fa) (List.mem_cons.2 (.inl rfl)) hcf
  refine wpS_iff.2 (.inr ⟨hg,trivial,f,args,fv,vs,X,Y,g1,g2,g3,fun e he => g4 e (List.mem_cons.2 (.inr he)),fun Hx hn hb => ?_⟩)
  refine (g5 Hx (by rw [hn,a1]) fun b hbx => by rw [hb b hbx,a2 b fun hw => hbx (x1 b hw)]).mono fun v H' ⟨k1,k2,k3⟩ => ⟨k1,by omega,?_⟩
  obtain ⟨G',t1,t2,t3,t4⟩:=a3 (graft X H H') (by show H.next ≤ H'.next; omega) (fun b hbf => by
   show (if b ∈ X then H.blk b else H'.blk b) = H.blk b
   by_cases hbx : b ∈ X
   ·rw [if_pos hbx]
   ·rw [if_neg hbx]
    rcases hbf with hr | hw
    ·rw [k1 b ((x2 b hr).imp id id),hb b hbx]
    ·exact absurd (x1 b hw) hbx)
  have hx : G' = graft X Ha H':=by
   refine AH.same t2 fun b => ?_
   show _ = (if b ∈ X then Ha.blk b else H'.blk b)
   by_cases hbw : b ∈ Fa.w
   ·rw [t3 b hbw,if_pos (x1 b hbw)]
   ·rw [t4 b hbw]
    show (if b ∈ X then H.blk b else H'.blk b) = _
    by_cases hbx : b ∈ X
    ·rw [if_pos hbx,if_pos hbx,a2 b hbw]
    ·rw [if_neg hbx,if_neg hbx]
  subst hx
  refine wpS_iff.2 (.inl ⟨va,_,Fa,(StepM.put d3).2 t1,fun e he hc => ?_,?_⟩)
  ·rcases List.mem_cons.1 he with he | he
   ·subst he; exact apart_none
   ·exact c1 e he hc
  ·rw [show Abs.put (Abs.put env o.dst v) a.dst va = Abs.put (Abs.put env a.dst va) o.dst v from (put_comm d2).symm]
   exact hKl _ _ _ _ perm k3
theorem wpM_front {P : Program} {K : Env → AH → Prop} {N : Nat} {ii : Nat} {o : AOper} {ci : List Nat} : ∀ (A B : List (Nat × AOper × List Nat)),(∀ a ∈ A,slotsOk a.2.1 o = true ∧ a.1 ∈ ci) → ∀ {log : List (Nat × Foot)} {env : Env} {H : AH},(∀ a ∈ A,N + a.1 < H.next) → N + ii < H.next →
  wpM P K N (A ++ (ii,o,ci) :: B) log env H → wpS P N ii o ci True log env H fun env' H' F => wpM P K N (A ++ B) ((ii,F) :: log) env' H'
 | [],B,_,log,env,H,_,_,h => wpS_weak (fun _ => trivial) (fun _ h => h) (fun _ _ _ h => h) h
 | (ia,a,ca) :: A,B,hA,log,env,H,hn,hi,h => by
  obtain ⟨h1,h2⟩:=hA (ia,a,ca) (by simp)
  have hna:=hn (ia,a,ca) (by simp)
  have h' : wpS P N ia a ca (late ia (A ++ (ii,o,ci) :: B) = true) log env H fun env1 H1 F1 => wpM P K N (A ++ (ii,o,ci) :: B) ((ia,F1) :: log) env1 H1:=h
  have h3:=wpS_mono (L':=late ia (A ++ (ii,o,ci) :: B) = true) (K':=fun env1 H1 F1 => wpS P N ii o ci True ((ia,F1) :: log) env1 H1 fun env2 H2 F2 => wpM P K N (A ++ B) ((ii,F2) :: (ia,F1) :: log) env2 H2) hna (fun h => h) (fun env1 H1 F1 hle hk => wpM_front A B (fun x hx => hA x (by simp [hx])) (fun x hx => Nat.lt_of_lt_of_le (hn x (by simp [hx])) hle) (Nat.lt_of_lt_of_le hi hle) hk) h'
  have h4:=wpS_swap (K:=fun env H l => wpM P K N (A ++ B) l env H) h1 h2 hna hi (fun hl => by
   unfold late at hl
   have:=List.all_eq_true.1 hl (ii,o,ci) (by simp)
   simpa using this) (fun env H l l' hll hk => wpM_log hll hk) h3
  refine wpS_weak (fun h => h) (fun _ h => h) (fun env1 H1 F1 hk => ?_) h4
  refine wpS_weak (fun hl => ?_) (fun _ h => h) (fun _ _ _ h => h) hk
  unfold late at hl ⊢
  rw [List.all_append,List.all_cons] at hl
  show (A ++ B).all _ = true
  rw [List.all_append]
  simp only [Bool.and_eq_true] at hl ⊢
  exact ⟨hl.1,hl.2.2⟩
end Go.Abs
/-
 THE ABSTRACT LAYER (16c): .. in whatever order.
-/
set_option linter.unusedSimpArgs false
set_option linter.unusedVariables false
namespace Go.Abs
open Go Go.RowKit
section
variable {P : Program} {B0 n lo n0 : Nat} {ρ0 : Rho} {w0 : World} {ops : Array Oper} {al : List AOper} {r : Option Nat}
theorem step_soundM {ρ : Rho} {w : World} {env : Env} {H : AH} {a : Act} {Qx : Exit → Act → World → Prop} {o : Oper} {ao : AOper} {i id : Nat} {v : Value} {H' : AH} {F : Foot} {K' : Act → World → Prop} (ho : ops[i]? = some o) (hc : compOper P n ops o = some ao) (h : StepM P id ao env H v H' F) (hid : ρ id = none) (hid0 : n0 ≤ id) (hlt : id < H.next)
  (hb : Both P B0 n lo n0 ρ0 w0 ρ env H a w) (hK : ∀ ρ' a' w',Both P B0 n lo n0 ρ0 w0 ρ' (put env ao.dst v) H' a' w' → Only id ρ ρ' → K' a' w') : wpOpIn (Fr r) 0 P ops Qx i K' a w:=by
 unfold compOper at hc
 split at hc
 ·rename_i hcond
  simp only [Bool.and_eq_true] at hcond
  obtain ⟨hk,hdst⟩:=hcond
  have hd : ∀ d,o.dst = some d → d < n:=by
   intro d hd
   rw [hd] at hdst
   simpa [dstOk] using hdst
  split at hc
  ·rename_i iop g hop hgd
   cases hc
   unfold StepM at h
   simp only at h hK
   unfold wpOpIn
   rw [ho]
   simp only
   cases hga : guardA env g with
   | none => simp only [hga] at h
   | some b =>
    rw [guard_sound hb.env hgd hga]
    simp only [hga] at h
    cases b with
    | false =>
     simp only [Bool.false_eq_true,if_false]
     obtain ⟨rfl,rfl,rfl⟩:=h
     refine ⟨fun _ _ => trivial,hK ρ _ w (hb.next (Stp.refl hb.stp.sim) (.refl hb.up.next) undef_rel hd) .refl⟩
    | true =>
     simp only [if_true]
     refine ⟨fun _ _ => trivial,?_⟩
     have hnd : ∀ c,o.op ≠ .defer c:=by
      intro c hcc
      rw [hcc] at hop
      simp [compOp,compOp0] at hop
     rw [Oper.semAt_eq _ _ _ hnd]
     by_cases hnc : iop.isC = false
     ·obtain ⟨hv,rfl⟩:=(StepI_op hnc).1 h
      obtain ⟨v',w',ρ',hr,hst,hvr,hon⟩:=op_soundAt hop hk hb.stp.sim hb.env hv hid
      have hup:=hon.up (n0:=n0) hid0 (Nat.le_trans hb.up.next (Nat.le_of_eq (ievalAt_local hnc hlt hv).1.symm))
      rcases hr with hr | ⟨hr,rfl⟩
      ·rw [hr]; exact hK ρ' _ w' (hb.next hst hup hvr hd) hon
      ·rw [hr]; exact hK ρ' _ w' (hb.next hst hup hvr hd) hon
     ·cases iop <;> try (exact absurd rfl hnc)
      ·rename_i f args
       obtain ⟨fv,vs,h1,h2,rfl,h4,h5⟩:=h
       obtain ⟨c,hc1,hc2,hc3⟩:=compOp_call hop
       have hkk : okOpd P f = true ∧ args.all (okOpd P) = true:=by
        rw [hc1] at hk
        simp only [Op.operands,Call.operands,hc2,Array.toList_append,List.all_append,Bool.and_eq_true] at hk
        exact ⟨by simpa using hk.1,by rw [← hc3]; exact hk.2⟩
       have hvf:=aval_sound hb.stp.sim hb.env hkk.1 h1
       have hva:=avals_sound hb.stp.sim hb.env hkk.2 h2
       have hva' : VRs ρ vs (c.args.map a.eval).toList:=by rw [Array.toList_map,hc3]; exact hva
       obtain ⟨d,f',as,e1,e2,e3⟩:=h5.runs hb.stp.sim hvf hva' r
       have hrun : (execOp a.eval o).run P w = .ok (.enter f' as) w:=by
        simp only [execOp,hc1,resolve,hc2,Sem.run_bind,e1,Result.andThen_ok,e2]
       rw [hrun]
       refine ⟨fun h => by simp [Fr,Fence.wide] at h,e3.mono ?_⟩
       rintro e w' ⟨v',rfl,hst,hvr⟩
       exact hK ρ _ w' (hb.next hst (.refl hb.up.next) hvr hd) .refl
      ·exact (StepI_inv rfl h).elim
  ·cases hc
 ·cases hc
theorem graft_same {X : List Nat} {H H' : AH} (h : ∀ b ∈ X,H'.blk b = H.blk b) : graft X H H' = H':=by
 refine AH.same rfl fun b => ?_
 show (if b ∈ X then H.blk b else H'.blk b) = _
 split
 ·rename_i hb; exact (h b hb).symm
 ·rfl
theorem grow_sound {ρ : Rho} {w : World} {env : Env} {H : AH} {a : Act} {Qx : Exit → Act → World → Prop} {o : Oper} {ao : AOper} {i : Nat} {cf : List Nat} {log : List (Nat × Foot)} {K : Value → AH → Prop} {K' : Act → World → Prop} (ho : ops[i]? = some o) (hc : compOper P n ops o = some ao)
  (hgd1 : guardA env ao.guard = some true) (h : wpG P ao cf log env H K)
  (hb : Both P B0 n lo n0 ρ0 w0 ρ env H a w) (hK : ∀ ρ' v H' a' w',Both P B0 n lo n0 ρ0 w0 ρ' (put env ao.dst v) H' a' w' → Up H.next ρ ρ' H' → K v H' → K' a' w') : wpOpIn (Fr r) 0 P ops Qx i K' a w:=by
 obtain ⟨f,args,fv,vs,X,Y,g1,h1,h2,_,h5⟩:=h
 unfold compOper at hc
 split at hc
 ·rename_i hcond
  simp only [Bool.and_eq_true] at hcond
  obtain ⟨hk,hdst⟩:=hcond
  have hd : ∀ d,o.dst = some d → d < n:=by
   intro d hd
   rw [hd] at hdst
   simpa [dstOk] using hdst
  split at hc
  ·rename_i iop g hop hgd
   cases hc
   simp only at hK g1 hgd1
   subst g1
   unfold wpOpIn
   rw [ho]
   simp only
   rw [guard_sound hb.env hgd hgd1]
   simp only [if_true]
   refine ⟨fun _ _ => trivial,?_⟩
   have hnd : ∀ c,o.op ≠ .defer c:=by
    intro c hcc
    rw [hcc] at hop
    simp [compOp,compOp0] at hop
   rw [Oper.semAt_eq _ _ _ hnd]
   obtain ⟨c,hc1,hc2,hc3⟩:=compOp_call hop
   have hkk : okOpd P f = true ∧ args.all (okOpd P) = true:=by
    rw [hc1] at hk
    simp only [Op.operands,Call.operands,hc2,Array.toList_append,List.all_append,Bool.and_eq_true] at hk
    exact ⟨by simpa using hk.1,by rw [← hc3]; exact hk.2⟩
   have hvf:=aval_sound hb.stp.sim hb.env hkk.1 h1
   have hva:=avals_sound hb.stp.sim hb.env hkk.2 h2
   have hva' : VRs ρ vs (c.args.map a.eval).toList:=by rw [Array.toList_map,hc3]; exact hva
   obtain ⟨d,nx,e1,e2,e3⟩:=(h5 H rfl fun _ _ => rfl).runs hb.stp.sim hvf hva' r
   have hrun : (execOp a.eval o).run P w = .ok nx w:=by
    simp only [execOp,hc1,resolve,hc2,Sem.run_bind,e1,Result.andThen_ok,e2]
   rw [hrun]
   refine call_upon' hd hb e3 fun ρ' v H' a' w' hb' hup ⟨q1,q2,q3⟩ => hK ρ' v H' a' w' hb' hup ?_
   rw [graft_same fun b hbx => q1 b (.inl hbx)] at q3
   exact q3
  ·cases hc
 ·cases hc
theorem mixPair_spec {ops : Array Oper} {al : List AOper} {an : List Nat} : ∀ {ord : List Nat},mixPair ops al an ord = true → ord.Nodup ∧ ord.Pairwise fun a i => (isAnc ops.size an i a = true ∨ ∃ x y,al[a]? = some x ∧ al[i]? = some y ∧ slotsOk x y = true) ∧ i ∉ esOf ops a
 | [],_ => ⟨.nil,.nil⟩
 | a :: rest,h => by
  simp only [mixPair,Bool.and_eq_true,List.all_eq_true,Bool.or_eq_true,Bool.not_eq_true',List.contains_iff_mem] at h
  obtain ⟨⟨⟨h1,h2⟩,h3⟩,h4⟩:=h
  obtain ⟨k1,k2⟩:=mixPair_spec h4
  refine ⟨List.nodup_cons.2 ⟨by simpa using h3,k1⟩,List.pairwise_cons.2 ⟨fun i hi => ⟨?_,?_⟩,k2⟩⟩
  ·rcases h1 i hi with h | h
   ·exact .inl h
   ·split at h
    ·rename_i x y hx hy; exact .inr ⟨x,y,hx,hy,h⟩
    ·cases h
  ·have:=h2 i hi
   simpa using this
theorem mix_any {ord : List Nat} (hdraw : mixOk ops al ord = true) (hc : compOpers P n ops ops.toList = some al) {N : Nat} (hN : n0 ≤ N) {K : Env → AH → Prop} {Q' : Exit → Act → World → Prop}
  (hK : ∀ ρ' env' H' a' w',Both P B0 n lo n0 ρ0 w0 ρ' env' H' a' w' → K env' H' → Q' .normal a' w') :
  ∀ (fuel : Nat) (listed : Array Bool),listed.size = ops.size → (left ord listed).length ≤ fuel → (∀ i,listed.getD i false = true → ∀ j ∈ esOf ops i,listed.getD j false = true) →
   ∀ {ρ env H a w log},wpM P K N ((left ord listed).filterMap (mop ops al)) log env H → Both P B0 n lo n0 ρ0 w0 ρ env H a w → (∀ i,i ∈ left ord listed → ρ (N + i) = none) → N + ops.size ≤ H.next → wpAnyIn (Fr r) 0 P .any ops Q' fuel listed a w:=by
 unfold mixOk at hdraw
 simp only [List.all_eq_true,List.mem_range,Bool.and_eq_true,List.contains_iff_mem,decide_eq_true_eq,Bool.not_eq_true'] at hdraw
 obtain ⟨⟨⟨⟨hcalm,htext⟩,hcover⟩,hlt⟩,hpair⟩:=hdraw
 obtain ⟨hnodup,hpw⟩:=mixPair_spec hpair
 have hmem : ∀ i,i ∈ ord ↔ i < ops.size:=fun i => ⟨hlt i,hcover i⟩
 have hes : ∀ i,∀ j ∈ esOf ops i,j < i:=by
  intro i j hj
  unfold esOf at hj
  cases ho : ops[i]? with
  | none => simp [ho] at hj
  | some o =>
   have hi : i < ops.size:=(Array.getElem?_eq_some_iff.1 ho).1
   have h1:=htext i hi
   rw [ho] at h1
   simp only [ho,List.mem_map,List.mem_filter,Array.mem_toList_iff] at hj
   obtain ⟨e,⟨he,hb⟩,rfl⟩:=hj
   have:=(List.all_eq_true.1 h1) e (by simpa using he)
   simpa [hb] using this
 have hget:=(compOpers_get hc).2
 -- what is ready
 have hready : ∀ (listed : Array Bool) i,i ∈ Region.ready .any ops listed ↔ i ∈ left ord listed ∧ ∀ j ∈ esOf ops i,listed.getD j false = true:=by
  intro listed i
  rw [mem_ready,mem_left,hmem]
  constructor
  ·rintro ⟨h0,o,ho,hall⟩
   refine ⟨⟨(Array.getElem?_eq_some_iff.1 ho).1,h0⟩,fun j hj => ?_⟩
   simp only [esOf,ho,List.mem_map,List.mem_filter,Array.mem_toList_iff] at hj
   obtain ⟨e,⟨he,hb⟩,rfl⟩:=hj
   exact hall e he hb
  ·rintro ⟨⟨hlt,h0⟩,hall⟩
   refine ⟨h0,ops[i],by simp [hlt],fun e he hb => hall e.on ?_⟩
   have : ops[i]? = some ops[i]:=by simp [hlt]
   simp only [esOf,this,List.mem_map,List.mem_filter,Array.mem_toList_iff]
   exact ⟨e,⟨he,hb⟩,rfl⟩
 -- a least one that is left is ready
 have hleast : ∀ (listed : Array Bool),listed.size = ops.size → ∀ i R,left ord listed = i :: R → i ∈ Region.ready .any ops listed:=by
  intro listed hs i R hR
  rw [hready]
  have him : i ∈ left ord listed:=by rw [hR]; simp
  refine ⟨him,fun j hj => ?_⟩
  have hji:=hes i j hj
  have hi:=(hmem i).1 (mem_left.1 him).1
  cases hlj : listed.getD j true with
  | true =>
   have : j < listed.size:=by omega
   simpa [this] using hlj
  | false =>
   exfalso
   have hjm : j ∈ left ord listed:=mem_left.2 ⟨(hmem j).2 (by omega),hlj⟩
   rw [hR] at hjm
   have hsrt : (left ord listed).Pairwise _:=hpw.filter _
   rw [hR] at hsrt
   rcases List.mem_cons.1 hjm with h | h
   ·omega
   ·exact ((List.pairwise_cons.1 hsrt).1 j h).2 hj
 intro fuel
 induction fuel with
 | zero =>
  intro listed hs hl hcl ρ env H a w log h hb hfree hroom
  have hnil : left ord listed = []:=List.eq_nil_of_length_eq_zero (by omega)
  rw [hnil] at h
  refine ⟨?_,hK ρ env H a w hb h⟩
  cases hr : Region.ready .any ops listed with
  | nil => rfl
  | cons x xs =>
   have : x ∈ Region.ready .any ops listed:=by rw [hr]; simp
   rw [hready,hnil] at this
   simp at this
 | succ fuel ih =>
  intro listed hs hl hcl ρ env H a w log h hb hfree hroom
  refine ⟨fun hr => ?_,fun i hi => ?_⟩
  ·have hnil : left ord listed = []:=by
    cases hR : left ord listed with
    | nil => rfl
    | cons i R => have:=hleast listed hs i R hR; rw [hr] at this; cases this
   rw [hnil] at h
   exact hK ρ env H a w hb h
  ·rw [hready] at hi
   obtain ⟨him,hdeps⟩:=hi
   have hisz:=(hmem i).1 (mem_left.1 him).1
   obtain ⟨A,B,hAB⟩:=List.append_of_mem him
   have hsrt : (left ord listed).Pairwise _:=hpw.filter _
   have hnd : (left ord listed).Nodup:=hnodup.filter _
   rw [hAB] at hsrt hnd h
   have hA : ∀ b ∈ A,_:=fun b hb' => (List.pairwise_append.1 hsrt).2.2 b hb' i (by simp)
   have hAi : ∀ b ∈ A,b ≠ i:=fun b hb' e => (List.nodup_append.1 hnd).2.2 b hb' i (by simp) e
   have hBi : ∀ b ∈ B,b ≠ i:=fun b hb' e => (List.nodup_cons.1 (List.nodup_append.1 hnd).2.1).1 (e ▸ hb')
   have hoi : ops.toList[i]? = some ops[i]:=by simp [hisz]
   obtain ⟨ao,hao,hcomp⟩:=hget i ops[i] hoi
   have hgetm : ∀ j ∈ ord,∃ x,al[j]? = some x ∧ mop ops al j = some (j,x,(List.range ops.size).filter fun k => !isAnc ops.size (ancs ops ops.size) j k && k != j):=by
    intro j hj
    have hjs:=(hmem j).1 hj
    obtain ⟨x,hx,_⟩:=hget j ops[j] (by simp [hjs])
    exact ⟨x,hx,by simp [mop,hx]⟩
   have hiord : i ∈ ord:=(mem_left.1 him).1
   obtain ⟨xi,hxi,hmi⟩:=hgetm i hiord
   rw [hao] at hxi
   cases hxi
   rw [List.filterMap_append,List.filterMap_cons,hmi] at h
   simp only at h
   have hAo : ∀ b ∈ A,b ∈ ord:=fun b hb' => (mem_left.1 (by rw [hAB]; simp [hb'] : b ∈ left ord listed)).1
   have hfront:=wpM_front (A.filterMap (mop ops al)) (B.filterMap (mop ops al)) (fun m hm => by
    obtain ⟨b,hb',hmb⟩:=List.mem_filterMap.1 hm
    obtain ⟨x,hx,hmx⟩:=hgetm b (hAo b hb')
    rw [hmx] at hmb
    cases hmb
    rcases (hA b hb').1 with hanc | ⟨x2,y,hx2,hy,hind⟩
    ·exfalso
     have:=anc_listed (lst:=fun j => listed.getD j false = true) hes hcl i ops.size hisz hdeps b hanc
     have hbm : b ∈ left ord listed:=by rw [hAB]; simp [hb']
     have hbl:=(mem_left.1 hbm).2
     have hbs : b < listed.size:=by have:=(hmem b).1 (mem_left.1 hbm).1; omega
     simp [hbs] at this hbl
     rw [this] at hbl
     cases hbl
    ·rw [hx] at hx2
     cases hx2
     rw [hao] at hy
     cases hy
     refine ⟨hind,?_⟩
     have hbs:=(hmem b).1 (hAo b hb')
     have hna : ¬ isAnc ops.size (ancs ops ops.size) i b = true:=by
      intro hanc
      have:=anc_listed (lst:=fun j => listed.getD j false = true) hes hcl i ops.size hisz hdeps b hanc
      have hbm : b ∈ left ord listed:=by rw [hAB]; simp [hb']
      have hbl:=(mem_left.1 hbm).2
      have hbs2 : b < listed.size:=by omega
      simp [hbs2] at this hbl
      rw [this] at hbl
      cases hbl
     simp only [List.mem_filter,List.mem_range,Bool.and_eq_true,Bool.not_eq_true',bne_iff_ne,ne_eq]
     exact ⟨hbs,by simpa using hna,hAi b hb'⟩) (fun m hm => by
    obtain ⟨b,hb',hmb⟩:=List.mem_filterMap.1 hm
    obtain ⟨x,hx,hmx⟩:=hgetm b (hAo b hb')
    rw [hmx] at hmb
    cases hmb
    have:=(hmem b).1 (hAo b hb')
    show N + b < H.next
    omega) (show N + i < H.next by omega) h
   have hleft : left ord (listed.setIfInBounds i true) = A ++ B:=by
    rw [left_set (by omega),hAB,List.filter_append,List.filter_cons]
    simp only [bne_self_eq_false,Bool.false_eq_true,if_false]
    rw [List.filter_eq_self.2 (fun b hb' => by have:=hAi b hb'; simp [this]),List.filter_eq_self.2 (fun b hb' => by have:=hBi b hb'; simp [this])]
   have go : ∀ {ρ' env' H' a' w' F},Both P B0 n lo n0 ρ0 w0 ρ' env' H' a' w' → (∀ j,j ∈ left ord listed → j ≠ i → ρ' (N + j) = none) → H.next ≤ H'.next → wpM P K N (A.filterMap (mop ops al) ++ B.filterMap (mop ops al)) ((i,F) :: log) env' H' → wpAnyIn (Fr r) 0 P .any ops Q' fuel (listed.setIfInBounds i true) a' w':=by
    intro ρ' env' H' a' w' F hb' hfr hnx hk
    refine ih _ (by simp [hs]) ?_ ?_ (by rw [hleft,List.filterMap_append]; exact hk) hb' (fun j hj => ?_) (by omega)
    ·rw [hleft]
     rw [hAB] at hl
     simp at hl ⊢
     omega
    ·intro k hk' j hj
     by_cases hki : k = i
     ·subst hki
      have:=hdeps j hj
      exact getD_set_true this
     ·have hk2 : listed.getD k false = true:=by simpa [Array.getElem?_setIfInBounds_ne (Ne.symm hki)] using hk'
      exact getD_set_true (hcl k hk2 j hj)
    ·rw [hleft] at hj
     exact hfr j (by rw [hAB]; rcases List.mem_append.1 hj with h | h <;> simp [h]) (by rcases List.mem_append.1 hj with h | h; exact hAi j h; exact hBi j h)
   rcases wpS_iff.1 hfront with ⟨v,H',F,hstep,_,hk⟩ | ⟨hg,_,hgr⟩
   ·have hnx:=(hstep.local (by omega)).1
    refine step_soundM (by simp [hisz]) hcomp hstep (hfree i him) (by omega) (by omega) hb ?_
    intro ρ' a' w' hb' honly
    refine go hb' (fun j hjl hji => ?_) (Nat.le_of_eq hnx.symm) hk
    cases hr : ρ' (N + j) with
    | none => rfl
    | some e => have:=honly _ (hfree j hjl) (by rw [hr]; simp); omega
   ·refine grow_sound (by simp [hisz]) hcomp hg hgr hb ?_
    intro ρ' v H' a' w' hb' hup hk
    exact go hb' (fun j hjl hji => hup.old _ (by have:=(hmem j).1 (mem_left.1 hjl).1; omega) (hfree j hjl)) hup.next hk
theorem Sim.room {ρ : Rho} {H : AH} {w : World} (h : Sim P B0 ρ H w) (m : Nat) : Sim P B0 ρ (H.room m) w :=
 ⟨fun b e he => ⟨by have:=(h.fresh b e he).1; show b < H.next + m; omega,(h.fresh b e he).2⟩,h.live,h.inj,h.glob,h.base⟩
theorem mix_sound (hm : P.follows .mixedOrders = true) {id : Nat} {ord : List Nat} (hdraw : mixOk ops al ord = true) (hc : compOpers P n ops ops.toList = some al) {K : Env → AH → Prop} {Q' : Exit → Act → World → Prop}
  (hK : ∀ ρ' env' H' a' w',Both P B0 n lo n0 ρ0 w0 ρ' env' H' a' w' → K env' H' → Q' .normal a' w') {ρ : Rho} {env : Env} {H : AH} {a : Act} {w : World}
  (h : wpM P K H.next (ord.filterMap (mop ops al)) [] env (H.room ops.size)) (hb : Both P B0 n lo n0 ρ0 w0 ρ env H a w) : (Code.region id ops true).wpIn (Fr r) 0 P Q' a w:=by
 refine wpIn_region_any hm ?_
 have hd2:=hdraw
 unfold mixOk at hd2
 simp only [List.all_eq_true,List.mem_range,Bool.and_eq_true,List.contains_iff_mem,decide_eq_true_eq] at hd2
 obtain ⟨⟨⟨⟨_,_⟩,hcover⟩,hlt⟩,hpair⟩:=hd2
 obtain ⟨hnodup,_⟩:=mixPair_spec hpair
 have hleft : left ord (Array.replicate ops.size false) = ord:=by
  unfold left
  rw [List.filter_eq_self.2 (fun i hi => by
   have : i < ops.size:=hlt i hi
   simp [this])]
 have hsz : ord.length ≤ ops.size:=by
  have : ord.length ≤ (List.range ops.size).length:=List.Nodup.length_le_of_subset hnodup (fun i hi => List.mem_range.2 (hlt i hi))
  simpa using this
 have hfresh : ∀ b,H.next ≤ b → ρ b = none:=fun b hb' => by
  cases hr : ρ b with
  | none => rfl
  | some e => have:=(hb.stp.sim.fresh b e hr).1; omega
 refine mix_any (ρ:=ρ) (N:=H.next) hdraw hc hb.up.next hK ops.size _ (by simp) (by rw [hleft]; exact hsz) ?_ (log:=[]) (by rw [hleft]; exact h) ?_ (fun i _ => hfresh _ (by omega)) (Nat.le_refl _)
 ·intro i hi
  exfalso
  by_cases h' : i < ops.size
  ·simp [h'] at hi
  ·simp [h'] at hi
 ·exact ⟨⟨(hb.stp.sim.room ops.size).same rfl,hb.stp.le,hb.stp.ext.trans ⟨⟨rfl,rfl,rfl,Nat.le_refl _,fun _ _ => rfl⟩,fun _ _ _ h => h,fun _ r h => ⟨r,h⟩⟩⟩,hb.env,hb.marks,⟨Nat.le_trans hb.up.next (show H.next ≤ H.next + ops.size by omega),hb.up.old⟩⟩
end
end Go.Abs
/-
 THE ABSTRACT LAYER (17): code; functions; ranges over a function.
-/
set_option linter.unusedSimpArgs false
set_option linter.unusedVariables false
namespace Go.Abs
open Go Go.RowKit
def loopP (step : (AExit → Env → AH → Prop) → Env → AH → Prop) (Q : AExit → Env → AH → Prop) : Nat → Env → AH → Prop
 | 0,_,_ => False
 | n + 1,env,H => step (fun e env H => match e with
  | .normal => loopP step Q n env H
  | e => Q e env H) env H
def rangeK (l : Nat) (Q : AExit → Env → AH → Prop) (env : Env) (H : AH) : Prop :=
 match H.blk l with
 | some (.loop L) => L.state ≠ .busy ∧ match L.pending with
  | none => Q .normal env (H.set l (.loop { L with state:=.exhausted }))
  | some e => e ≠ .normal ∧ Q e env (H.set l (.loop { L with state:=.exhausted }))
 | _ => False
def wpC (P : Program) (n : Nat) : ACode → (AExit → Env → AH → Prop) → Env → AH → Prop
 | .skip,Q,env,H => Q .normal env H
 | .region ops draw,Q,env,H => wpO P draw (Q .normal) ops env H
 | .seq a b,Q,env,H => wpC P n a (fun e env H => match e with
  | .normal => wpC P n b Q env H
  | e => Q e env H) env H
 | .cond c a b,Q,env,H => match aval env c with
  | some (.bool t) => if t then wpC P n a Q env H else wpC P n b Q env H
  | _ => False
 | .block id a,Q,env,H => wpC P n a (fun e env H => match e with
  | .exit i => if i = id then Q .normal env H else Q (.exit i) env H
  | e => Q e env H) env H
 | .loop a,Q,env,H => ∃ k,loopP (wpC P n a) Q k env H
 | .rangeFunc f ps assign body,Q,env,H => match aval env f with
  | some (.func (.func g) p q) => extK P g = none ∧ ACall P (.func (.func g) p q) [.func (.yield H.next) #[] #[]] (H.alloc (.loop { state:=.ready,pending:=none,env,params:=ps,assign,body,n })) fun _ H' => rangeK H.next Q env H'
  | _ => False
 | .exit id,Q,env,H => Q (.exit id) env H
 | .ret,Q,env,H => Q .ret env H
 | .mix m ops,Q,env,H => wpM P (Q .normal) H.next ops [] env (H.room m)
theorem loopP_mono {step : (AExit → Env → AH → Prop) → Env → AH → Prop} (hstep : ∀ {Q Q' : AExit → Env → AH → Prop},(∀ e env H,Q e env H → Q' e env H) → ∀ {env H},step Q env H → step Q' env H)
  {Q Q' : AExit → Env → AH → Prop} (hq : ∀ e env H,Q e env H → Q' e env H) : ∀ (k : Nat) {env : Env} {H : AH},loopP step Q k env H → loopP step Q' k env H
 | 0,env,H,h => h
 | k + 1,env,H,h => hstep (fun e env H h => by
   cases e with
   | normal => exact loopP_mono hstep hq k h
   | exit id => exact hq _ _ _ h
   | ret => exact hq _ _ _ h) h
theorem wpO_mono {P : Program} {draw : Bool} {K K' : Env → AH → Prop} (hk : ∀ env H,K env H → K' env H) : ∀ {ops : List AOper} {env : Env} {H : AH},wpO P draw K ops env H → wpO P draw K' ops env H
 | [],_,_,h => hk _ _ h
 | _ :: _,_,_,h => stepA_mono (fun _ _ h => wpO_mono hk h) h
theorem wpC_mono {P : Program} {n : Nat} : ∀ (c : ACode) {Q Q' : AExit → Env → AH → Prop},(∀ e env H,Q e env H → Q' e env H) → ∀ {env : Env} {H : AH},wpC P n c Q env H → wpC P n c Q' env H
 | .skip,Q,Q',hq,env,H,h => hq _ _ _ h
 | .region ops draw,Q,Q',hq,env,H,h => wpO_mono (fun env H => hq .normal env H) h
 | .seq a b,Q,Q',hq,env,H,h => wpC_mono a (fun e env H h => by
   cases e with
   | normal => exact wpC_mono b hq h
   | exit id => exact hq _ _ _ h
   | ret => exact hq _ _ _ h) h
 | .cond c a b,Q,Q',hq,env,H,h => by
  simp only [wpC] at h ⊢
  split at h
  ·rename_i t _
   cases t
   ·exact wpC_mono b hq h
   ·exact wpC_mono a hq h
  ·exact h
 | .block id a,Q,Q',hq,env,H,h => wpC_mono a (fun e env H h => by
   cases e with
   | normal => exact hq _ _ _ h
   | exit i =>
    simp only at h ⊢
    split
    ·rename_i hi; rw [if_pos hi] at h; exact hq _ _ _ h
    ·rename_i hi; rw [if_neg hi] at h; exact hq _ _ _ h
   | ret => exact hq _ _ _ h) h
 | .loop a,Q,Q',hq,env,H,h => by
  obtain ⟨k,h⟩:=h
  exact ⟨k,loopP_mono (step:=wpC P n a) (fun {Q Q'} hq {env H} h => wpC_mono a hq h) hq k h⟩
 | .rangeFunc f ps assign body,Q,Q',hq,env,H,h => by
  simp only [wpC] at h ⊢
  split at h
  ·refine ⟨h.1,h.2.mono fun v H' h => ?_⟩
   unfold rangeK at *
   split at h
   ·rename_i L _
    refine ⟨h.1,?_⟩
    have h2:=h.2
    split at h2
    ·exact hq _ _ _ h2
    ·exact ⟨h2.1,hq _ _ _ h2.2⟩
   ·exact h
  ·exact h
 | .exit id,Q,Q',hq,env,H,h => hq _ _ _ h
 | .ret,Q,Q',hq,env,H,h => hq _ _ _ h
 | .mix m ops,Q,Q',hq,env,H,h => wpM_mono (fun env H => hq .normal env H) h
/-! ### what it says of the model -/
def toExit : AExit → Exit
 | .normal => .normal
 | .exit id => .exit id
 | .ret => .ret
def PostC (P : Program) (B0 n lo n0 : Nat) (ρ0 : Rho) (w0 : World) (Q : AExit → Env → AH → Prop) : Exit → Act → World → Prop:=fun e a w =>
 ∃ e' env H ρ,e = toExit e' ∧ Both P B0 n lo n0 ρ0 w0 ρ env H a w ∧ Q e' env H
theorem stepR_scope {P : Program} {b : Frame} {a : Act} {k : List Item} {cs : List Frame} {w : World} {c : Code} :
  step P (lone (b.atR a (.code (.scope c) :: k)) cs w) = .next (lone (b.atR a (.code c :: .inScope c :: k)) cs w) :=
 step_lone_go (by simp [stepG,stepG.exec,Frame.atR])
theorem stepR_inScope {P : Program} {b : Frame} {a : Act} {k : List Item} {cs : List Frame} {w : World} {c : Code} :
  step P (lone (b.atR a (.inScope c :: k)) cs w) = .next (lone (b.atR a k) cs w) :=
 step_lone_go (by simp [stepG,stepG.exec,Frame.atR])
theorem wpIn_scope {P : Program} {F : Fence} {m : Nat} {Q : Exit → Act → World → Prop} {a : Act} {w : World} {c : Code} (h : c.wpIn F m P Q a w) (hg : ∀ l a w,¬ Q (.goto l) a w) : (Code.scope c).wpIn F m P Q a w:=by
 intro b k cs hro hb hr
 have h0 : (lone (b.atR a (.code (.scope c) :: k)) cs w).fenced P F:=fenced_calm hb hr rfl
 obtain ⟨e,a₁,w₁,hq,harr⟩:=h b (.inScope c :: k) cs hro hb hr
 have hx : ∀ id,exitTo id (.inScope c :: k) = exitTo id k:=fun id => rfl
 cases e with
 | normal => exact ⟨.normal,a₁,w₁,hq,.head h0 stepR_scope (StepsIn.trans harr (.one (fenced_calm hb hr rfl) stepR_inScope))⟩
 | exit id => exact ⟨.exit id,a₁,w₁,hq,fun k' hk => .head h0 stepR_scope (harr.1 k' (by rw [hx]; exact hk)),fun hr' hk => let ⟨k₁,h1,h2⟩:=harr.2 hr' (by rw [hx]; exact hk); ⟨k₁,h1,.head h0 stepR_scope h2⟩⟩
 | goto l => exact absurd hq (hg l _ _)
 | ret => exact ⟨_,a₁,w₁,hq,.of_steps (.one h0 stepR_scope) harr⟩
 | panic ch => exact ⟨_,a₁,w₁,hq,.of_steps (.one h0 stepR_scope) harr⟩
 | outgrown => exact ⟨_,a₁,w₁,hq,.of_steps (b:=b) (k:=k) (cs:=cs) (e:=.outgrown) (.one h0 stepR_scope) harr⟩
theorem cond_sound {P : Program} {B0 n lo n0 : Nat} {ρ0 ρ : Rho} {w0 w : World} {env : Env} {H : AH} {a : Act} {c : Operand} {t : Bool} (hb : Both P B0 n lo n0 ρ0 w0 ρ env H a w) (hk : okOpd P c = true) (h : aval env c = some (.bool t)) : a.eval c = .bool t :=
 (aval_sound hb.stp.sim hb.env hk h).bool_inv
theorem Sim.idle {P : Program} {B0 : Nat} {ρ : Rho} {H : AH} {w w' : World} (h : Sim P B0 ρ H w) (o : Obj) (hh : w'.heap = w.heap.push o) (hos : w'.os = w.os) (ht : w'.tape = w.tape) (hout : w'.output = w.output) : Stp P B0 ρ w ρ H w':=by
 have hold : ∀ k,k < w.heap.size → w'.heap[k]? = w.heap[k]?:=fun k hk => by rw [hh,Array.getElem?_push,if_neg (by omega)]
 refine ⟨⟨fun b e he => ?_,fun b B hB => ?_,h.inj,h.glob,?_⟩,Rho.le_refl _,⟨⟨hos,ht,hout,by rw [hh]; simp,fun k hk => hold k (Nat.lt_of_lt_of_le hk h.base)⟩,fun k ds hk hd => by rw [hold k hk]; exact hd,fun k r hr => ⟨r,by rw [hold k (Array.getElem?_eq_some_iff.1 hr).1]; exact hr⟩⟩⟩
 ·have:=h.fresh b e he; exact ⟨this.1,by rw [hh]; simp; omega⟩
 ·obtain ⟨e,he,hr⟩:=h.live b B hB
  exact ⟨e,he,hr.keep (Rho.le_refl _) (hold _ (h.fresh _ _ he).2)⟩
 ·rw [hh]; simp; have:=h.base; omega
theorem Sim.setLoop {P : Program} {B0 : Nat} {ρ : Rho} {H : AH} {w : World} (h : Sim P B0 ρ H w) {l : Nat} {e : Emb} {L L' : LoopA} {r' : Loop} (hl : H.blk l = some (.loop L)) (he : ρ l = some e)
  (hL : ∀ w',w'.heap[e.blk]? = some (.loop r') → Loops P ρ w' B0 e L') : Stp P B0 ρ w ρ (H.set l (.loop L')) { w with heap:=w.heap.setIfInBounds e.blk (.loop r') }:=by
 obtain ⟨e2,he2,r,hr,hbase,_⟩:=h.live _ _ hl
 rw [he] at he2
 cases he2
 have hlt:=(h.fresh _ _ he).2
 have hoth : ∀ k,k ≠ e.blk → (w.heap.setIfInBounds e.blk (.loop r'))[k]? = w.heap[k]?:=fun k hk => Array.getElem?_setIfInBounds_ne (Ne.symm hk)
 have hself : (w.heap.setIfInBounds e.blk (.loop r'))[e.blk]? = some (.loop r'):=by simp [hlt]
 refine ⟨⟨fun b f hf => ?_,fun b B hB => ?_,fun b b' B B' f f' hB hB' hf hf' hff => ?_,h.glob,by simpa using h.base⟩,Rho.le_refl _,⟨⟨rfl,rfl,rfl,by simp,fun k hk => hoth k (by omega)⟩,fun k ds hk hd => ?_,fun k q hq => ?_⟩⟩
 ·have:=h.fresh b f hf; exact ⟨this.1,by simpa using this.2⟩
 ·simp only [AH.set] at hB
  split at hB
  ·rename_i hb; cases hB; subst hb; exact ⟨e,he,hL _ hself⟩
  ·rename_i hb
   obtain ⟨f,hf,hr2⟩:=h.live b B hB
   refine ⟨f,hf,hr2.keep (Rho.le_refl _) (hoth _ fun hfe => ?_)⟩
   rcases h.inj b l B _ f e hB hl hf he hfe with h' | h'
   ·exact hb h'
   ·simp [Blk.mine] at h'
 ·simp only [AH.set] at hB hB'
  by_cases hb : b = l
  ·by_cases hb' : b' = l
   ·left; omega
   ·rw [if_neg hb'] at hB'
    subst hb
    rcases h.inj b b' _ B' f f' hl hB' hf hf' hff with h' | h'
    ·exact .inl h'
    ·simp [Blk.mine] at h'
  ·rw [if_neg hb] at hB
   by_cases hb' : b' = l
   ·subst hb'
    rcases h.inj b b' B _ f f' hB hl hf hf' hff with h' | h'
    ·exact .inl h'
    ·simp [Blk.mine] at h'
   ·rw [if_neg hb'] at hB'
    exact h.inj b b' B B' f f' hB hB' hf hf' hff
 ·by_cases hk2 : k = e.blk
  ·subst hk2; rw [hr] at hd; cases hd
  ·show (w.heap.setIfInBounds e.blk (.loop r'))[k]? = _
   rw [hoth k hk2]; exact hd
 ·by_cases hk2 : k = e.blk
  ·subst hk2; exact ⟨r',hself⟩
  ·exact ⟨q,by show (w.heap.setIfInBounds e.blk (.loop r'))[k]? = _; rw [hoth k hk2]; exact hq⟩
theorem getLoop_run {P : Program} {w : World} {k : Nat} {r : Loop} (h : w.heap[k]? = some (.loop r)) : (Instr.getLoop k).run P w = .ok r w:=by
 simp [Instr.getLoop,getObj,Sem.run,h]
theorem setObj_run {P : Program} {w : World} {k : Nat} {r r' : Loop} (h : w.heap[k]? = some (.loop r)) : (setObj k (.loop r')).run P w = .ok () { w with heap:=w.heap.setIfInBounds k (.loop r') }:=by
 simp [setObj,Sem.run,h]
theorem drawC_wpI {P : Program} {n : Nat} {al : List AOper} {g : Nat → Bool} {Q : AExit → Env → AH → Prop} : ∀ (ord : List Nat),(∀ i ∈ ord,i < al.length) → ∀ {env H},wpC P n (drawC al g ord) Q env H → wpI P (Q .normal) al g ord env H
 | [],_,env,H,h => h
 | i :: ord,hlt,env,H,h => by
  have hi : al[i]? = some (al[i]'(hlt i (by simp))):=by simp
  simp only [wpI,hi]
  simp only [drawC,hi,wpC,wpO] at h
  exact stepA_mono (fun env H hk => drawC_wpI ord (fun j hj => hlt j (by simp [hj])) hk) h
theorem code_sound {P : Program} (hm : P.follows .mixedOrders = true) {B0 n lo n0 : Nat} {ρ0 : Rho} {w0 : World} (hlo : lo ≤ w0.heap.size) {r : Option Nat} (hrl : ∀ l,r = some l → ∃ R,w0.heap[l]? = some (.loop R)) : ∀ (c : Code) {ac : ACode} {Q : AExit → Env → AH → Prop},compC P n c = some ac →
  ∀ {ρ env H a w},wpC P n ac Q env H → Both P B0 n lo n0 ρ0 w0 ρ env H a w → c.wpIn (Fr r) 0 P (PostC P B0 n lo n0 ρ0 w0 Q) a w
 | .skip,ac,Q,hc,ρ,env,H,a,w,h,hb => by
  cases hc
  exact wpIn_skip ⟨.normal,env,H,ρ,rfl,hb,h⟩
 | .label l,ac,Q,hc,ρ,env,H,a,w,h,hb => by
  cases hc
  exact wpIn_label ⟨.normal,env,H,ρ,rfl,hb,h⟩
 | .exit id,ac,Q,hc,ρ,env,H,a,w,h,hb => by
  cases hc
  exact wpIn_exit ⟨.exit id,env,H,ρ,rfl,hb,h⟩
 | .ret,ac,Q,hc,ρ,env,H,a,w,h,hb => by
  cases hc
  exact wpIn_ret ⟨.ret,env,H,ρ,rfl,hb,h⟩
 | .goto l,ac,Q,hc,ρ,env,H,a,w,h,hb => by cases hc
 | .refuse s,ac,Q,hc,ρ,env,H,a,w,h,hb => by cases hc
 | .region id ops draw,ac,Q,hc,ρ,env,H,a,w,h,hb => by
  simp only [compC] at hc
  split at hc
  ·rename_i al hal
   cases draw with
   | false =>
    simp only [Bool.false_eq_true,if_false] at hc
    cases hc
    refine wpIn_region ?_
    have:=region_sound (r:=r) (ops:=ops) (K:=Q .normal) (Q':=PostC P B0 n lo n0 ρ0 w0 Q) (fun ρ' env' H' a' w' hb' hk => ⟨.normal,env',H',ρ',rfl,hb',hk⟩) ops.toList al 0 (by simp) (by simp) hal h hb
    simpa [List.range_eq_range'] using this
   | true =>
    simp only [if_true] at hc
    split at hc
    ·rename_i hd
     obtain ⟨hd,_⟩:=Bool.and_eq_true_iff.mp hd
     cases hc
     split at h
     ·exact drawn_soundG hm (g:=alone P ops al _) (fun _ h => h) hd hal (fun ρ' env' H' a' w' hb' hk => ⟨.normal,env',H',ρ',rfl,hb',hk⟩) (drawC_wpI _ (ord_lt hd hal) h) hb
     exact drawn_sound hm hd hal (fun ρ' env' H' a' w' hb' hk => ⟨.normal,env',H',ρ',rfl,hb',hk⟩) h hb
    ·split at hc
     ·rename_i hd
      cases hc
      exact mix_sound hm hd hal (fun ρ' env' H' a' w' hb' hk => ⟨.normal,env',H',ρ',rfl,hb',hk⟩) h hb
     ·cases hc
  ·cases hc
 | .seq x y,ac,Q,hc,ρ,env,H,a,w,h,hb => by
  simp only [compC] at hc
  split at hc
  ·rename_i ax ay hx hy
   cases hc
   refine wpIn_seq (wpIn_mono (code_sound hm hlo hrl x hx h hb) ?_)
   rintro e a1 w1 ⟨e',env1,H1,ρ1,rfl,hb1,hq⟩
   cases e' with
   | normal => exact code_sound hm hlo hrl y hy hq hb1
   | exit id => exact ⟨.exit id,env1,H1,ρ1,rfl,hb1,hq⟩
   | ret => exact ⟨.ret,env1,H1,ρ1,rfl,hb1,hq⟩
  ·cases hc
 | .cond c x y,ac,Q,hc,ρ,env,H,a,w,h,hb => by
  simp only [compC] at hc
  split at hc
  ·rename_i hk
   split at hc
   ·rename_i ax ay hx hy
    cases hc
    simp only [wpC] at h
    split at h
    ·rename_i t ht
     refine wpIn_cond (cond_sound hb hk ht) ?_
     cases t with
     | true => exact code_sound hm hlo hrl x hx h hb
     | false => exact code_sound hm hlo hrl y hy h hb
    ·exact h.elim
   ·cases hc
  ·cases hc
 | .block id x,ac,Q,hc,ρ,env,H,a,w,h,hb => by
  simp only [compC] at hc
  obtain ⟨ax,hx,rfl⟩:=opt_map_some hc
  refine wpIn_block (wpIn_mono (code_sound hm hlo hrl x hx h hb) ?_)
  rintro e a1 w1 ⟨e',env1,H1,ρ1,rfl,hb1,hq⟩
  cases e' with
  | normal => exact ⟨.normal,env1,H1,ρ1,rfl,hb1,hq⟩
  | exit i =>
   simp only [toExit,Exit.inBlock]
   simp only at hq
   by_cases hi : i = id
   ·rw [if_pos hi] at hq ⊢; exact ⟨.normal,env1,H1,ρ1,rfl,hb1,hq⟩
   ·rw [if_neg hi] at hq ⊢; exact ⟨.exit i,env1,H1,ρ1,rfl,hb1,hq⟩
  | ret => exact ⟨.ret,env1,H1,ρ1,rfl,hb1,hq⟩
 | .scope x,ac,Q,hc,ρ,env,H,a,w,h,hb => by
  simp only [compC] at hc
  refine wpIn_scope (code_sound hm hlo hrl x hc h hb) ?_
  rintro l a w ⟨e',env1,H1,ρ1,he,_⟩
  cases e' <;> cases he
 | .loop x,ac,Q,hc,ρ,env,H,a,w,h,hb => by
  simp only [compC] at hc
  obtain ⟨ax,hx,rfl⟩:=opt_map_some hc
  simp only [wpC] at h
  obtain ⟨k,h⟩:=h
  have key : ∀ k a w,(∃ ρ env H,loopP (wpC P n ax) Q k env H ∧ Both P B0 n lo n0 ρ0 w0 ρ env H a w) → ∀ (b : Frame) (kk : List Item) (cs : List Frame),b.roundOf = (Fr r).round → (Fr r).fn b.fn → (Fr r).room (cs.length + 1 + 0) →
    ∃ e a' w',PostC P B0 n lo n0 ρ0 w0 Q e a' w' ∧ ArrivesIn (Machine.fenced P (Fr r)) P (lone (b.atR a (.code x :: .inLoop x :: kk)) cs w) b kk cs e a' w':=by
   intro k
   induction k with
   | zero => rintro a w ⟨_,_,_,h1,_⟩; exact h1.elim
   | succ k ih =>
    rintro a w ⟨ρ1,env1,H1,h1,hb1⟩ b kk cs hro hbf hr
    simp only [loopP] at h1
    obtain ⟨e,a1,w1,⟨e',env2,H2,ρ2,rfl,hb2,hq⟩,harr⟩:=code_sound hm hlo hrl x hx h1 hb1 b (.inLoop x :: kk) cs hro hbf hr
    cases e' with
    | normal =>
     obtain ⟨e2,a2,w2,hq2,harr2⟩:=ih a1 w1 ⟨ρ2,env2,H2,hq,hb2⟩ b kk cs hro hbf hr
     exact ⟨e2,a2,w2,hq2,.of_steps (StepsIn.trans harr (.one (fenced_calm hbf hr rfl) stepR_inLoop)) harr2⟩
    | exit id => exact ⟨_,a1,w1,⟨.exit id,env2,H2,ρ2,rfl,hb2,hq⟩,.pass (x:=.inLoop x) rfl (fun _ _ => .inl (by simp [toExit])) harr⟩
    | ret => exact ⟨_,a1,w1,⟨.ret,env2,H2,ρ2,rfl,hb2,hq⟩,.pass (x:=.inLoop x) rfl (fun _ _ => .inl (by simp [toExit])) harr⟩
  intro b kk cs hro hbf hr
  obtain ⟨e,a',w',hq,harr⟩:=key k a w ⟨ρ,env,H,h,hb⟩ b kk cs hro hbf hr
  exact ⟨e,a',w',hq,.of_steps (.one (fenced_calm hbf hr rfl) stepR_loop) harr⟩
 | .rangeFunc f ps x y,ac,Q,hc,ρ,env,H,a,w,h,hb => by
  simp only [compC] at hc
  split at hc
  ·rename_i hcond
   simp only [Bool.and_eq_true] at hcond
   obtain ⟨hk,hps⟩:=hcond
   split at hc
   ·rename_i ax ay hx hy
    cases hc
    simp only [wpC] at h
    split at h
    ·rename_i g p q hfv
     refine wpIn_rangeFunc fun fn _ => ?_
     -- the record is laid
     have lay : ∀ (mk : List Deferred) (dn : Nat) (w1 : World),Stp P B0 ρ w ρ H w1 → Marks lo { a with defers:=mk ++ a.defers } w1 →
       (Instr.enterLoop fn a.tmps ps x y r).run P w = .ok (w1.heap.size,mk) (w1.alloc (.loop { state:=.ready,pending:=none,fn,tmps:=a.tmps,params:=ps,assign:=x,body:=y,defers:=dn })) →
       ∃ (l : Nat) (mark : List Deferred) (w₁ : World) (d : Deferred) (w₁' : World) (f_1 : FuncId) (args : Array Value) (w₂ : World),
        (Instr.enterLoop fn a.tmps ps x y (Fr r).round).run P w = .ok (l,mark) w₁ ∧ (resolve a.eval (rangeCall f l) 0).run P w₁ = .ok d w₁' ∧
        (∀ f',Target.leads P w₁' d.target d.args = some f' → (Fr r).fn f') ∧ (invoke d.target d.args).run P w₁' = .ok (.enter f_1 args) w₂ ∧ ((Fr r).depth.isSome = true → 1 ≤ 0) ∧
        CallsIn (Fr r) (0 - 1) P f_1 args w₂ (rangePost (Fr r) 0 P l (PostC P B0 n lo n0 ρ0 w0 Q) { a with defers:=mark ++ a.defers }):=by
      intro mk dn w1 hst1 hmk hrun
      generalize hR : ({ state:=.ready,pending:=none,fn,tmps:=a.tmps,params:=ps,assign:=x,body:=y,defers:=dn } : Loop) = R at hrun
      have hs1:=hst1.sim
      have hst2:=hs1.push (w':=w1.alloc (.loop R)) (.loop R) (.loop { state:=.ready,pending:=none,env,params:=ps.toList,assign:=ax,body:=ay,n }) ⟨w1.heap.size,0,0,0⟩ rfl rfl rfl rfl rfl
       ⟨R,heap_alloc_new _ _,hs1.base,by rw [← hR],by rw [← hR]; rfl,by rw [← hR],by rw [← hR]; exact (hb.env.mono (Rho.le_add hs1.new_none)),by rw [← hR]; exact hx,by rw [← hR]; exact hy,by
        intro p hp
        have:=(Array.all_eq_true_iff_forall_mem.1 hps) p (by simpa using hp)
        simpa using this⟩
      have hfv':=(aval_sound hb.stp.sim hb.env hk hfv).mono hst2.le
      have hyv : VRs (ρ.add H.next ⟨w1.heap.size,0,0,0⟩) [.func (.yield H.next) #[] #[]] (#[Value.func (.yield w1.heap.size) #[] #[]]).toList :=
       .cons (.yield H.next ⟨w1.heap.size,0,0,0⟩ (by simp [Rho.add])) .nil
      obtain ⟨d,f1,as,e1,e2,hcalls⟩:=h.2.runs_fn h.1 hst2.sim hfv' hyv r
      ·refine ⟨w1.heap.size,mk,_,d,_,f1,as,_,hrun,?_,fun _ _ => trivial,e2,fun h => by simp [Fr,Fence.wide] at h,hcalls.mono ?_⟩
       ·simp only [resolve,rangeCall,List.map_toArray,List.map_cons,List.map_nil]
        exact e1
       ·rintro e w3 ⟨v',v,H3,ρ3,rfl,hst3,hup3,hvr,hq⟩
        -- behind the call
        unfold rangeK at hq
        split at hq
        ·rename_i L hL
         obtain ⟨hnb,hq⟩:=hq
         have hle3 : ρ3 H.next = some ⟨w1.heap.size,0,0,0⟩:=hst3.le _ _ (by simp [Rho.add])
         obtain ⟨e4,he4,R3,r1,r2,r3,r4,r5,r6,r7,r8,r9⟩:=hst3.sim.live _ _ hL
         rw [hle3] at he4
         cases he4
         have hset:=hst3.sim.setLoop (L':={ L with state:=.exhausted }) (r':={ R3 with state:=.exhausted }) hL hle3 (fun w' hw' => ⟨_,hw',r2,rfl,r4,r5,r6,r7,r8,r9⟩)
         generalize hRf : ({ R3 with state:=.exhausted } : Loop) = Rf at hset
         have hend : (Instr.endLoop w1.heap.size).run P w3 = .ok R3.pending { w3 with heap:=w3.heap.setIfInBounds w1.heap.size (.loop Rf) }:=by
          have hbz : (R3.state == LoopState.busy) = false:=by
           rw [r3]
           cases hst : L.state <;> first | rfl | exact absurd hst hnb
          unfold Instr.endLoop
          rw [Sem.run_bind,getLoop_run r1,Result.andThen_ok]
          simp only [hbz,Bool.false_eq_true,if_false,hRf,Sem.run_bind,Sem.run_pure,Result.andThen_ok,setObj_run r1]
         have hall:=((hst1.trans hst2).trans hst3).trans hset
         have hupall : Up n0 ρ ρ3 (H3.set H.next (.loop { L with state:=.exhausted })):=by
          have hn:=hb.up.next
          refine ⟨?_,fun b hb' h0 => hup3.old b (by simp [AH.alloc]; omega) (by simp only [Rho.add]; rw [if_neg (by omega)]; exact h0)⟩
          have:=hup3.next
          simp [AH.alloc] at this
          show n0 ≤ H3.next
          omega
         have hmk3:=hmk.ext ((hst2.trans hst3).trans hset).ext
         generalize ({ w3 with heap:=w3.heap.setIfInBounds w1.heap.size (.loop Rf) } : World) = wf at hend hall hmk3 hset
         generalize (H3.set H.next (.loop { L with state:=.exhausted })) = Hf at hq hall hset hupall
         have hboth : Both P B0 n lo n0 ρ0 w0 ρ3 env Hf { a with defers:=mk ++ a.defers } wf:=⟨hb.stp.trans hall,hb.env.mono hall.le,hmk3,hb.up.trans hupall⟩
         refine ⟨R3.pending,_,hend,?_⟩
         rw [r4]
         cases hpd : L.pending with
         | none =>
          rw [hpd] at hq
          exact ⟨.normal,env,_,ρ3,rfl,hboth,hq⟩
         | some e5 =>
          rw [hpd] at hq
          obtain ⟨hne,hq⟩:=hq
          cases e5 with
          | normal => exact absurd rfl hne
          | exit id => exact wpIn_exit ⟨.exit id,env,_,ρ3,rfl,hboth,hq⟩
          | ret => exact wpIn_ret ⟨.ret,env,_,ρ3,rfl,hboth,hq⟩
        ·exact hq.elim
     cases r with
     | none =>
      have hst1 : Stp P B0 ρ w ρ H (w.alloc (.deferred (some []))):=hb.stp.sim.idle (.deferred (some [])) rfl rfl rfl rfl
      refine lay [mark w.heap.size] w.heap.size (w.alloc (.deferred (some []))) hst1 ?_ ?_
      ·obtain ⟨rs,m1,m2,m3⟩:=hb.marks
       refine ⟨w.heap.size :: rs,by simp [m1],List.nodup_cons.2 ⟨fun hin => ?_,m2⟩,?_⟩
       ·have:=(Array.getElem?_eq_some_iff.1 (m3 _ hin).2).1; omega
       ·intro q hq
        rcases List.mem_cons.1 hq with rfl | hq
        ·exact ⟨Nat.le_trans hlo hb.stp.ext.below.size,heap_alloc_new _ _⟩
        ·have:=m3 q hq
         exact ⟨this.1,hst1.ext.defd q _ (Array.getElem?_eq_some_iff.1 this.2).1 this.2⟩
      ·simp [Instr.enterLoop,mark]
     | some l =>
      obtain ⟨R0,hR0⟩:=hrl l rfl
      obtain ⟨R1,hR1⟩:=hb.stp.ext.loopd l R0 hR0
      refine lay [] R1.defers w (Stp.refl hb.stp.sim) hb.marks ?_
      simp [Instr.enterLoop,getLoop_run hR1]
    ·exact h.elim
   ·cases hc
  ·cases hc
end Go.Abs
/-
 THE ABSTRACT LAYER (18): a function's contract from its compiled body; a round of a range over a function; the model's call.
-/
set_option linter.unusedSimpArgs false
set_option linter.unusedVariables false
namespace Go.Abs
open Go Go.RowKit
def resOf (env : Env) (H : AH) : ARes → Option Value
 | .tmp t => env t
 | .cell1 t => match env t with
  | some (.pointer (some ⟨b,off,none⟩)) => (H.cells b).bind fun cs => cs[off]?
  | _ => none
 | .cellN n t => match env t with
  | some (.pointer (some ⟨b,off,none⟩)) => ((H.cells b).bind fun cs => cut cs off n).map fun cs => .agg cs.toArray
  | _ => none
def ressOf (env : Env) (H : AH) : List ARes → Option (List Value)
 | [] => some []
 | r :: rs => match resOf env H r,ressOf env H rs with
  | some v,some vs => some (v :: vs)
  | _,_ => none
def retV : List Value → Value
 | [v] => v
 | vs => .tuple vs.toArray
def bodyK (rs : List ARes) (Q : Value → AH → Prop) : AExit → Env → AH → Prop
 | .exit _,_,_ => False
 | _,env,H => match ressOf env H rs with
  | some vs => Q (retV vs) H
  | none => False
section
variable {P : Program} {B0 n lo n0 : Nat} {ρ : Rho} {env : Env} {H : AH} {w : World}
theorem load1_run (hs : Sim P B0 ρ H w) {t : TypeId} {b off : Nat} {e : Emb} {cs : List Value} {u : Value} (hag : isAggB P t = false) (hu : (P.underlying t).isSome) (he : ρ b = some e) (hc : H.cells b = some cs) (hg : cs[off]? = some u) :
  ∃ u',(loadVar t ⟨e.blk,e.base + off,none⟩).run P w = .ok u' w ∧ VR ρ u u':=by
 obtain ⟨cs',h1,h2,h3⟩:=hs.read he hc
 obtain ⟨u',h4,h5⟩:=h1.get off u hg
 have hlt:=(List.getElem?_eq_some_iff.1 hg).1
 have hcell:=h3 off hlt
 rw [h4] at hcell
 obtain ⟨d,hd⟩:=Option.isSome_iff_exists.1 hu
 refine ⟨u',?_,h5⟩
 simp [loadVar,isAgg_run hd,hag,hcell]
theorem loadN_run (hs : Sim P B0 ρ H w) {t : TypeId} {b off m : Nat} {e : Emb} {cs r : List Value} (hag : isAggB P t = true) (hm : sizeB P t = some m) (he : ρ b = some e) (hc : H.cells b = some cs) (hg : cut cs off m = some r) :
  ∃ u',(loadVar t ⟨e.blk,e.base + off,none⟩).run P w = .ok u' w ∧ VR ρ (.agg r.toArray) u':=by
 obtain ⟨cs',h1,h2,h3⟩:=hs.read he hc
 obtain ⟨hl,rfl,hrl⟩:=cut_some hg
 have hr:=(h1.drop off).take m
 refine ⟨.agg ((cs'.drop off).take m).toArray,?_,VR.mk_agg hr fun u hu => h2 u (List.mem_of_mem_drop (List.mem_of_mem_take hu))⟩
 have hcl:=h1.length
 have hlen : ((cs'.drop off).take m).length = m:=by simp; omega
 have hld:=run_loadCells_list (P:=P) w ⟨e.blk,e.base + off,none⟩ ((cs'.drop off).take m) (fun j u hj => by
  have hj' : j < m:=by have:=(List.getElem?_eq_some_iff.1 hj).1; omega
  rw [add_zero_addr,Nat.add_assoc,h3 (off + j) (by omega)]
  rw [List.getElem?_take_of_lt hj',List.getElem?_drop] at hj
  exact hj)
 rw [hlen] at hld
 cases hd : P.underlying t with
 | none => simp [isAggB,hd] at hag
 | some d => simp [loadVar,isAgg_run hd,hag,size_of hm,hld]
theorem res_sound (hs : Sim P B0 ρ H w) {tmps : Array Value} (he : EnvR n ρ env tmps) {rv : ResultVar} {ar : ARes} {v : Value} (hc : compRes P rv = some ar) (hv : resOf env H ar = some v) :
  ∃ v',((match rv with | .tmp t => pure (tmps.getD t undef) | .cell a t => do loadVar t (← asAddr (tmps.getD a undef)) : Sem Value)).run P w = .ok v' w ∧ VR ρ v v':=by
 have hx : ∀ {t u},env t = some u → ∃ u',tmps.getD t undef = u' ∧ VR ρ u u':=by
  intro t u hu
  obtain ⟨u',h1,h2⟩:=he.2 t u hu
  exact ⟨u',by simp [h1],h2⟩
 cases rv with
 | tmp t =>
  cases hc
  obtain ⟨u',h1,h2⟩:=hx hv
  exact ⟨u',by simp only [h1,Sem.run_pure],h2⟩
 | cell a t =>
  simp only [compRes] at hc
  split at hc
  ·rename_i hag
   obtain ⟨m,hm,rfl⟩:=opt_map_some hc
   simp only [resOf] at hv
   split at hv
   ·rename_i b off hp
    obtain ⟨r,hr,rfl⟩:=opt_map_some hv
    obtain ⟨cs,hcs,hcut⟩:=Option.bind_eq_some_iff.1 hr
    obtain ⟨p',h1,h2⟩:=hx hp
    obtain ⟨e,hbe,rfl⟩:=h2.ptr_inv
    obtain ⟨u',q1,q2⟩:=loadN_run hs hag hm hbe hcs hcut
    exact ⟨u',by simp only [h1,asAddr,Sem.run_bind,Sem.run_pure,Result.andThen_ok,q1],q2⟩
   ·cases hv
  ·rename_i hag
   split at hc
   ·rename_i hd
    cases hc
    simp only [resOf] at hv
    split at hv
    ·rename_i b off hp
     obtain ⟨cs,hcs,hg⟩:=Option.bind_eq_some_iff.1 hv
     obtain ⟨p',h1,h2⟩:=hx hp
     obtain ⟨e,hbe,rfl⟩:=h2.ptr_inv
     obtain ⟨u',q1,q2⟩:=load1_run hs (by simpa using hag) hd hbe hcs hg
     exact ⟨u',by simp only [h1,asAddr,Sem.run_bind,Sem.run_pure,Result.andThen_ok,q1],q2⟩
    ·cases hv
   ·cases hc
theorem ress_sound (hs : Sim P B0 ρ H w) {tmps : Array Value} (he : EnvR n ρ env tmps) : ∀ {rvs : List ResultVar} {ars : List ARes} {vs : List Value},compRess P rvs = some ars → ressOf env H ars = some vs →
  ∃ vs',(rvs.mapM fun (rv : ResultVar) => (match rv with | .tmp t => pure (tmps.getD t undef) | .cell a t => do loadVar t (← asAddr (tmps.getD a undef)) : Sem Value)).run P w = .ok vs' w ∧ VRs ρ vs vs'
 | [],ars,vs,hc,hv => by
  simp [compRess] at hc
  subst hc
  simp [ressOf] at hv
  subst hv
  exact ⟨[],by simp,.nil⟩
 | rv :: rvs,ars,vs,hc,hv => by
  simp only [compRess] at hc
  split at hc
  ·rename_i ar ars' h1 h2
   cases hc
   simp only [ressOf] at hv
   split at hv
   ·rename_i v vs1 h3 h4
    cases hv
    obtain ⟨v',q1,q2⟩:=res_sound hs he h1 h3
    obtain ⟨vs',q3,q4⟩:=ress_sound hs he h2 h4
    refine ⟨v' :: vs',?_,.cons q2 q4⟩
    simp only [List.mapM_cons,Sem.run_bind,q1,Result.andThen_ok,q3,Sem.run_pure]
   ·cases hv
  ·cases hc
theorem results_sound (hs : Sim P B0 ρ H w) {tmps : Array Value} (he : EnvR n ρ env tmps) {fn : Func} {ars : List ARes} {vs : List Value} (hc : compRess P fn.results.toList = some ars) (hv : ressOf env H ars = some vs) :
  ∃ v',(results fn tmps).run P w = .ok v' w ∧ VR ρ (retV vs) v':=by
 obtain ⟨vs',h1,h2⟩:=ress_sound hs he hc hv
 have hlen:=h2.length
 refine ⟨retV vs',?_,?_⟩
 ·unfold results
  rw [Array.mapM_eq_mapM_toList]
  simp only [Sem.run_bind,Sem.run_map]
  refine Eq.trans (congrArg (fun (r : Result (List Value)) => (r.andThen fun a w' => Result.ok a.toArray w').andThen fun a w' => Sem.run P (pure (if h : a.size = 1 then a[0] else Value.tuple a)) w') h1) ?_
  simp only [Result.andThen_ok,Sem.run_pure]
  congr 1
  match vs' with
  | [] => rfl
  | [v] => rfl
  | a :: b :: c => simp [retV]
 ·cases h2 with
  | nil => exact .tuple _ _ rfl (fun i h => by simp at h)
  | cons k1 ht =>
   cases ht with
   | nil => exact k1
   | cons k2 ht2 =>
    have hall:=VRs.cons k1 (VRs.cons k2 ht2)
    refine .tuple _ _ (by simpa using hall.length.symm) (fun i a b => ?_)
    simpa using hall.toGet i (by simpa using a) (by simpa using b)
theorem Sim.other (hs : Sim P B0 ρ H w) {w' : World} {r : Nat} {ds : Option (List Deferred)} (hr : w.heap[r]? = some (.deferred ds)) (hh : ∀ k,k ≠ r → w'.heap[k]? = w.heap[k]?) (hsz : w'.heap.size = w.heap.size) : Sim P B0 ρ H w' where
 fresh:=fun b e he => by rw [hsz]; exact hs.fresh b e he
 live:=fun b B hB => by
  obtain ⟨e,he,hq⟩:=hs.live b B hB
  refine ⟨e,he,hq.keep (Rho.le_refl _) (hh _ fun hk => ?_)⟩
  cases B with
  | row cells elem wr => obtain ⟨c,t,fr,_,h1,_⟩:=hq; rw [hk,hr] at h1; cases h1
  | loop L => obtain ⟨R,h1,_⟩:=hq; rw [hk,hr] at h1; cases h1
 inj:=hs.inj
 glob:=hs.glob
 base:=by rw [hsz]; exact hs.base
theorem leave_sound {n0 : Nat} {fn : Func} {ars : List ARes} {vs : List Value} {ρ0 : Rho} {w0 : World} {Q : Value → AH → Prop} {tmps : Array Value} (hc : compRess P fn.results.toList = some ars) (hv : ressOf env H ars = some vs) (hQ : Q (retV vs) H) (hle : ρ0.le ρ) (hup : Up n0 ρ0 ρ H) (he : EnvR n ρ env tmps) :
  ∀ (rs : List Nat) (w : World),Sim P B0 ρ H w → Ext B0 w0 w → B0 ≤ w0.heap.size → rs.Nodup → (∀ r ∈ rs,w0.heap.size ≤ r ∧ w.heap[r]? = some (.deferred (some []))) →
   LeavesInM Fence.wide 0 P fn tmps (Post P B0 n0 ρ0 w0 Q) (rs.map mark) .returning w
 | [],w,hs,hext,hB,hnd,hrs => by
  obtain ⟨v',h1,h2⟩:=results_sound hs he hc hv
  exact ⟨v',h1,v',retV vs,H,ρ,rfl,⟨hs,hle,hext⟩,hup,h2,hQ⟩
 | r :: rs,w,hs,hext,hB,hnd,hrs => by
  obtain ⟨hr1,hr2⟩:=hrs r (by simp)
  have hlt:=(Array.getElem?_eq_some_iff.1 hr2).1
  have hoth : ∀ k,k ≠ r → (w.heap.setIfInBounds r (.deferred none))[k]? = w.heap[k]?:=fun k hk => Array.getElem?_setIfInBounds_ne (Ne.symm hk)
  refine ⟨by simp,.inl ⟨r,{ w with heap:=w.heap.setIfInBounds r (.deferred none) },rfl,?_,?_⟩⟩
  ·simp [Instr.takeDeferred,getObj,setObj,Sem.run,hr2]
  ·refine leave_sound hc hv hQ hle hup he rs _ (hs.other hr2 hoth (by simp)) ?_ hB (List.nodup_cons.1 hnd).2 ?_
   ·refine ⟨hext.below.trans ⟨rfl,rfl,rfl,by simp,fun k hk => hoth k (by omega)⟩,fun k ds hk hd => ?_,fun k R hR => ?_⟩
    ·show (w.heap.setIfInBounds r (.deferred none))[k]? = _
     rw [hoth k (by omega)]; exact hext.defd k ds hk hd
    ·obtain ⟨R',h1⟩:=hext.loopd k R hR
     refine ⟨R',?_⟩
     show (w.heap.setIfInBounds r (.deferred none))[k]? = _
     rw [hoth k (fun hk => by rw [hk,hr2] at h1; cases h1)]; exact h1
   ·intro q hq
    have hqr : q ≠ r:=fun h => (List.nodup_cons.1 hnd).1 (h ▸ hq)
    have:=hrs q (by simp [hq])
    exact ⟨this.1,by show (w.heap.setIfInBounds r (.deferred none))[q]? = _; rw [hoth q hqr]; exact this.2⟩
theorem AFn.intro (hm : P.follows .mixedOrders = true) {f : FuncId} {F : AFunc} {args : List Value} {Q : Value → AH → Prop} (hF : compF P f = some F) (hl : args.length ≤ F.n)
  (h : wpC P F.n F.code (bodyK F.results Q) (fun t => args[t]?) H) : AFn P f args H Q:=by
 intro B0 ρ w args' hs ha
 unfold compF at hF
 split at hF
 ·rename_i fn hfn
  split at hF
  ·cases hF
  ·rename_i hgood
   split at hF
   ·rename_i c rs hbody hrs
    obtain ⟨code,hcode,rfl⟩:=opt_map_some hF
    have hlen:=ha.length
    simp only [Array.length_toList] at hlen
    refine callsIn_of_wp_marks (F:=Fence.wide) hfn hbody trivial ?_ rfl
    have hboth : Both P B0 fn.ntmps w.heap.size H.next ρ w ρ (fun t => args[t]?) H { tmps:=args' ++ Array.replicate (fn.ntmps - args'.size) undef,defers:=[] } w:=by
     refine ⟨Stp.refl hs,⟨?_,fun t v hv => ?_⟩,⟨[],rfl,List.nodup_nil,fun r hr => by simp at hr⟩,.refl (Nat.le_refl _)⟩
     ·simp at hl ⊢; omega
     ·obtain ⟨v',h1,h2⟩:=ha.get t v hv
      refine ⟨v',?_,h2⟩
      have ht : t < args'.size:=by have:=(List.getElem?_eq_some_iff.1 h1).1; simpa using this
      rw [Array.getElem?_append_left ht]
      simpa using h1
    have hcs:=code_sound (r:=none) hm (Nat.le_refl w.heap.size) (fun l hl => by cases hl) c hcode h hboth
    refine wpIn_mono hcs ?_
    rintro e a1 w1 ⟨e',env1,H1,ρ1,rfl,hb1,hq⟩
    cases e' with
    | exit id => exact hq.elim
    | normal =>
     simp only [bodyK] at hq
     split at hq
     ·rename_i vs hvs
      obtain ⟨rs1,m1,m2,m3⟩:=hb1.marks
      show LeavesInM _ _ _ _ _ _ a1.defers _ _
      rw [m1]
      exact leave_sound hrs hvs hq hb1.stp.le hb1.up hb1.env rs1 w1 hb1.stp.sim hb1.stp.ext hs.base m2 m3
     ·exact hq.elim
    | ret =>
     simp only [bodyK] at hq
     split at hq
     ·rename_i vs hvs
      obtain ⟨rs1,m1,m2,m3⟩:=hb1.marks
      show LeavesInM _ _ _ _ _ _ a1.defers _ _
      rw [m1]
      exact leave_sound hrs hvs hq hb1.stp.le hb1.up hb1.env rs1 w1 hb1.stp.sim hb1.stp.ext hs.base m2 m3
     ·exact hq.elim
   ·cases hF
 ·cases hF
end
end Go.Abs
/-
 THE ABSTRACT LAYER (19): a round of a range over a function.
-/
set_option linter.unusedSimpArgs false
set_option linter.unusedVariables false
namespace Go.Abs
open Go Go.RowKit
def putAll (env : Env) : List Nat → List Value → Env
 | p :: ps,v :: vs => putAll (upd env p v) ps vs
 | _,_ => env
def roundK (l : Nat) (Q : Value → AH → Prop) : AExit → Env → AH → Prop:=fun e env H =>
 ∃ L,H.blk l = some (.loop L) ∧ match e with
  | .normal => Q (.bool true) (H.set l (.loop { L with state:=.ready,pending:=none }))
  | e => Q (.bool false) (H.set l (.loop { L with state:=.done,pending:=some e }))
theorem putAll_rel {n : Nat} {ρ : Rho} : ∀ (ps : List Nat) (vs vs' : List Value) (env : Env) (tmps : Array Value),VRs ρ vs vs' → (∀ p ∈ ps,p < n) → EnvR n ρ env tmps →
  EnvR n ρ (putAll env ps vs) ((ps.zip vs').foldl (fun (tmps : Array Value) (x : Nat × Value) => tmps.setIfInBounds x.1 x.2) tmps)
 | [],vs,vs',env,tmps,hv,hp,he => by cases vs <;> simpa [putAll] using he
 | p :: ps,[],vs',env,tmps,hv,hp,he => by cases hv; simpa [putAll] using he
 | p :: ps,v :: vs,vs',env,tmps,hv,hp,he => by
  cases hv with
  | cons h t =>
   simp only [List.zip_cons_cons,List.foldl_cons,putAll]
   refine putAll_rel ps vs _ _ _ t (fun q hq => hp q (by simp [hq])) ?_
   have:=EnvR.put (a:={ tmps:=tmps,defers:=[] }) (dst:=some p) he (fun d hd => by cases hd; exact hp p (by simp)) h
   exact this
theorem AYield.intro {P : Program} (hm : P.follows .mixedOrders = true) {l : Nat} {L : LoopA} {args : List Value} {H : AH} {Q : Value → AH → Prop} (hl : H.blk l = some (.loop L)) (hargs : args.length = L.params.length)
  (h : wpC P L.n L.assign (fun e env1 H1 => e = .normal ∧ ∃ L1,H1.blk l = some (.loop L1) ∧ L1.state = .ready ∧ wpC P L.n L.body (roundK l Q) env1 (H1.set l (.loop { L1 with state:=.busy }))) (putAll L.env L.params args) H) :
  AYield P l args H Q:=by
 intro B0 ρ w e args' hs he ha
 obtain ⟨e2,he2,r,r1,r2,r3,r4,r5,r6,r7,r8,r9⟩:=hs.live _ _ hl
 rw [he] at he2
 cases he2
 have hlen:=ha.length
 simp only [Array.length_toList] at hlen
 have hpl : r.params.size = L.params.length:=by have:=congrArg List.length r5; simpa using this
 refine ⟨r.fn,(r.params.zip args').foldl (fun tmps (x : Nat × Value) => match x with | (t,a) => tmps.setIfInBounds t a) r.tmps,r.assign,r.body,?_,?_⟩
 ·unfold Instr.yield
  rw [Sem.run_bind,getLoop_run r1,Result.andThen_ok]
  have : ¬ args'.size ≠ r.params.size:=by omega
  simp only [if_neg this,Sem.run_bind,Sem.run_pure,Result.andThen_ok]
 ·refine roundIn_of_wpIn (F:=Fence.wide) trivial ?_
  have henv:=putAll_rel L.params args args'.toList L.env r.tmps ha r9 r6
  have htm : (L.params.zip args'.toList).foldl (fun (tmps : Array Value) (x : Nat × Value) => tmps.setIfInBounds x.1 x.2) r.tmps = (r.params.zip args').foldl (fun tmps (x : Nat × Value) => match x with | (t,a) => tmps.setIfInBounds t a) r.tmps:=by
   rw [← r5,← Array.toList_zip,Array.foldl_toList]
  rw [htm] at henv
  have hboth : Both P B0 L.n w.heap.size H.next ρ w ρ (putAll L.env L.params args) H { tmps:=(r.params.zip args').foldl (fun tmps (x : Nat × Value) => match x with | (t,a) => tmps.setIfInBounds t a) r.tmps,defers:=[] } w :=
   ⟨Stp.refl hs,henv,⟨[],rfl,List.nodup_nil,fun r hr => by simp at hr⟩,.refl (Nat.le_refl _)⟩
  have hrl : ∀ k,some e.blk = some k → ∃ R,w.heap[k]? = some (Obj.loop R):=fun k hk => by cases hk; exact ⟨r,r1⟩
  have hc1:=code_sound (r:=some e.blk) hm (Nat.le_refl w.heap.size) hrl r.assign r7 h hboth
  refine wpIn_mono hc1 ?_
  rintro ex a1 w1 ⟨e',env1,H1,ρ1,rfl,hb1,rfl,L1,hL1,hready,hbody⟩
  have hle1:=hb1.stp.le _ _ he
  obtain ⟨e3,he3,q,q1,q2,q3,q4,q5,q6,q7,q8,q9⟩:=hb1.stp.sim.live _ _ hL1
  rw [hle1] at he3
  cases he3
  have hset:=hb1.stp.sim.setLoop (L':={ L1 with state:=.busy }) (r':={ q with state:=.busy }) hL1 hle1 (fun w' hw' => ⟨_,hw',q2,rfl,q4,q5,q6,q7,q8,q9⟩)
  refine ⟨{ w1 with heap:=w1.heap.setIfInBounds e.blk (.loop { q with state:=.busy }) },?_,?_⟩
  ·unfold Instr.beginRound
   rw [Sem.run_bind,getLoop_run q1,Result.andThen_ok,Sem.run_bind,setObj_run q1,Result.andThen_ok,q3,hready]
   rfl
  ·have hboth2 : Both P B0 L.n w.heap.size H.next ρ w ρ1 env1 (H1.set l (.loop { L1 with state:=.busy })) a1 { w1 with heap:=w1.heap.setIfInBounds e.blk (.loop { q with state:=.busy }) } :=
    ⟨hb1.stp.trans hset,hb1.env,hb1.marks.ext hset.ext,⟨hb1.up.next,hb1.up.old⟩⟩
   have hc2:=code_sound (r:=some e.blk) hm (Nat.le_refl w.heap.size) hrl r.body r8 hbody hboth2
   refine wpIn_mono hc2 ?_
   rintro ex2 a2 w2 ⟨e',env2,H2,ρ2,rfl,hb2,L2,hL2,hq⟩
   have hle2:=hb2.stp.le _ _ he
   obtain ⟨e4,he4,p,p1,p2,p3,p4,p5,p6,p7,p8,p9⟩:=hb2.stp.sim.live _ _ hL2
   rw [hle2] at he4
   cases he4
   have endr : ∀ (jump : Option Code) (ap : Option AExit) (st : LoopState),jump = ap.bind exitOf → st = (if jump.isNone then .ready else .done) → Q (.bool jump.isNone) (H2.set l (.loop { L2 with state:=st,pending:=ap })) →
     ∃ v w',(Instr.endRound e.blk jump).run P w2 = .ok v w' ∧ Post P B0 H.next ρ w Q (.returned v) w':=by
    intro jump ap st hj hst hQ
    have hset2:=hb2.stp.sim.setLoop (L':={ L2 with state:=st,pending:=ap }) (r':={ p with state:=st,pending:=jump }) hL2 hle2 (fun w' hw' => ⟨_,hw',p2,rfl,hj,p5,p6,p7,p8,p9⟩)
    refine ⟨.bool jump.isNone,{ w2 with heap:=w2.heap.setIfInBounds e.blk (.loop { p with state:=st,pending:=jump }) },?_,.bool jump.isNone,.bool jump.isNone,_,ρ2,rfl,hb2.stp.trans hset2,⟨hb2.up.next,hb2.up.old⟩,.bool _,hQ⟩
    unfold Instr.endRound
    rw [Sem.run_bind,getLoop_run p1,Result.andThen_ok,Sem.run_bind,← hst,setObj_run p1,Result.andThen_ok]
    rfl
   cases e' with
   | normal => exact endr none none .ready rfl rfl hq
   | exit id => exact endr (some (.exit id)) (some (.exit id)) .done rfl rfl hq
   | ret => exact endr (some .ret) (some .ret) .done rfl rfl hq
theorem AFn.calls {P : Program} {f : FuncId} {args : List Value} {H : AH} {Q : Value → AH → Prop} (h : AFn P f args H Q) {B0 : Nat} {ρ : Rho} {w : World} {args' : Array Value} (hs : Sim P B0 ρ H w) (ha : VRs ρ args args'.toList) :
  Calls P f args' w fun e w' => ∃ v' v H' ρ',e = .returned v' ∧ Sim P B0 ρ' H' w' ∧ Below B0 w w' ∧ VR ρ' v v' ∧ Q v H' :=
 (callsIn_wide.1 (h B0 ρ w args' hs ha)).mono fun e w' ⟨v',v,H',ρ',h1,h2,_,h3,h4⟩ => ⟨v',v,H',ρ',h1,h2.sim,h2.ext.below,h3,h4⟩
end Go.Abs
