/-
  Numbers in a block of their own.
-/
import Derived.Test.YtejifalflkbekaaDoorRen
import Derived.Test.YtejifalflkbekaaDoorIr18
import Derived.Test.YtejifalflkbekaaDoorDs3

set_option linter.unusedSimpArgs false
set_option linter.unusedVariables false
namespace Go.Abs
open Go
def rI (X : List Int) : List Value:=X.map (.int .i64)
theorem rI_len {X : List Int} : (rI X).length = X.length:=by simp [rI]
theorem rI_get {X : List Int} {i : Nat} (h : i < X.length) : (rI X)[i]? = some (.int .i64 (X.getD i 0)):=by
 rw [List.getD_eq_getElem?_getD]; simp [rI,h]
theorem rI_set {X : List Int} {i : Nat} {a : Int} (h : i < X.length) : over (rI X) i [.int .i64 a] = rI (X.set i a):=by
 rw [over_one (by rw [rI_len]; exact h)]
 simp [rI,List.map_set]
theorem AH.set_selfK {H : AH} {b : Nat} {B : Blk} (h : H.blk b = some B) : H.set b B = H:=by
 cases H with
 | mk blk next =>
  simp only [AH.set,AH.mk.injEq,and_true]
  funext i
  by_cases hi : i = b
  ·subst hi; simp only [if_true]; exact h.symm
  ·simp only [if_neg hi]
theorem rI_zero (n : Nat) : rI (List.replicate n 0) = zeros [Value.int .i64 0] n:=by
 induction n with
 | zero => rfl
 | succ n ih => rw [List.replicate_succ,zeros,← ih]; rfl
theorem cut2v (a b : Value) : cut [a,b] 0 2 = some [a,b]:=rfl
theorem IsArg.bools_ren {H : AH} (hw : WF H) {v : Value} (h : IsArg H (.slice .bool 1) v) : ∃ l : List Bool,SlV (fun b => b < H.next) H v l:=by
 unfold IsArg at h
 rw [if_pos (by simp [Sh.single])] at h
 obtain ⟨l,w,e,h⟩:=Is.list hw (α:=Bool) rfl (fun _ => Is.bool_ren) h
 cases e
 exact ⟨l,h⟩
theorem IsArg.sets_ren {H : AH} (hw : WF H) {v : Value} (h : IsArg H (.slice shSet 2) v) : ∃ l : List SetD,SlV (fun b => b < H.next) H v l:=by
 unfold IsArg at h
 rw [if_pos (by simp [Sh.single])] at h
 obtain ⟨l,w,e,h⟩:=Is.list hw (α:=SetD) rfl (fun _ => Is.set_ren hw) h
 cases e
 exact ⟨l,h⟩
def mapI (f : Nat → Int) (n : Nat) : List Int:=(List.range n).map f
theorem mapI_len {f : Nat → Int} {n : Nat} : (mapI f n).length = n:=by simp [mapI]
theorem mapI_get {f : Nat → Int} {n i : Nat} (h : i < n) : (mapI f n).getD i 0 = f i:=by
 rw [List.getD_eq_getElem?_getD]; simp [mapI,h]
theorem mapI_set {f g : Nat → Int} {n i : Nat} {a : Int} (h : ∀ j,j < n → g j = if j = i then a else f j) : (mapI f n).set i a = mapI g n:=by
 apply List.ext_getElem
 ·simp [mapI]
 ·intro j h1 h2
  simp only [mapI_len] at h2
  simp only [List.getElem_set,mapI,List.getElem_map,List.getElem_range]
  rw [h j h2]
  by_cases hj : i = j
  ·rw [if_pos hj,if_pos hj.symm]
  ·rw [if_neg hj,if_neg (Ne.symm hj)]
theorem mapI_congr {f g : Nat → Int} {n : Nat} (h : ∀ j,j < n → f j = g j) : mapI f n = mapI g n:=List.map_congr_left fun j hj => h j (List.mem_range.1 hj)
theorem mapI_zero (n : Nat) : rI (mapI (fun _ => 0) n) = zeros [Value.int .i64 0] n:=by
 rw [← rI_zero]; congr 1
 apply List.ext_getElem <;> simp [mapI]
theorem chunk_rI {X : List Int} {i : Nat} (hi : i < X.length) : chunk 1 i (rI X) = [.int .i64 X[i]]:=by
 apply List.ext_getElem?
 intro j
 simp only [chunk,Nat.mul_one]
 by_cases hj : j = 0
 ·subst hj
  rw [List.getElem?_take_of_lt (by omega),List.getElem?_drop,Nat.add_zero,rI_get hi,List.getD_eq_getElem?_getD,List.getElem?_eq_getElem hi]; rfl
 ·rw [List.getElem?_eq_none (by simp; omega),List.getElem?_eq_none (by simp; omega)]
theorem own_slv {p : Nat → Prop} {H : AH} {v : Value} {X : List Int} {ty : Nat} {S : List Nat} (h : Own H ty 1 v X.length (rI X) S) (hX : ∀ x ∈ X,I64 x) (hS : ∀ b ∈ S,p b) (hl : X.length ≤ 9223372036854775807) : SlV p H v X:=by
 refine ⟨⟨hl,?_⟩,rI X,h.vw hS,fun i hi => ⟨chunk_rI hi,hX _ (List.getElem_mem hi)⟩⟩
 rcases h with ⟨h,_⟩ | ⟨b,off,sp,cap,cs,h,_,_,_,_,_,hsp⟩
 ·rw [h]; exact .nil
 ·rw [h]; exact .of hsp
end Go.Abs
namespace Go.Proofs.YtejifalflkbekaaDoor
open Go Go.Abs
theorem slv_rI {H : AH} {q : Nat} {X : List Int} (h : H.cells q = some (rI X)) (hX : ∀ x ∈ X,I64 x) (hl : X.length ≤ 9223372036854775807) : SlV (fun b => b = q) H (.slice (some ⟨q,0,none⟩) X.length X.length) X:=by
 have hc : cut (rI X) 0 (X.length * 1) = some (rI X):=by rw [cut_eq (by rw [rI_len]; omega),List.drop_zero,List.take_of_length_le (by rw [rI_len]; omega)]
 refine ⟨⟨hl,.of (.inl rfl)⟩,rI X,⟨by rw [rI_len]; simp,.inr ⟨q,0,none,X.length,_,rfl,Nat.le_refl _,.inl rfl,h,hc,rfl⟩⟩,fun i hi => ⟨?_,hX _ (List.getElem_mem _)⟩⟩
 apply List.ext_getElem?
 intro j
 simp only [sz_int,chunk,Nat.mul_one]
 by_cases hj : j = 0
 ·subst hj
  rw [List.getElem?_take_of_lt (by omega),List.getElem?_drop,Nat.add_zero,rI_get hi,List.getD_eq_getElem?_getD,List.getElem?_eq_getElem hi]; rfl
 ·rw [List.getElem?_eq_none (by simp; omega),List.getElem?_eq_none (by simp; omega)]
abbrev dI (H0 : AH) (b : Nat) (X : List Int) : AH:=H0.set b (.row (rI X) T_int64 true)
theorem dI_cells {H0 : AH} {b : Nat} {X : List Int} : (dI H0 b X).cells b = some (rI X):=AH.cells_set_same
theorem dI_write {H0 : AH} {b i : Nat} {X : List Int} {a : Int} (h : i < X.length) : writeA (dI H0 b X) b i [.int .i64 a] = some (dI H0 b (X.set i a)):=by
 rw [writeA_of (AH.set_blk_same) (by rw [rI_len]; simp; omega),rI_set h]
 unfold dI; rw [AH.set_set]
end Go.Proofs.YtejifalflkbekaaDoor

set_option maxRecDepth 100000
namespace Go.Abs
open Go Go.Proofs.YtejifalflkbekaaDoor.Bs
theorem prOk_mem {L : List SetD} {n : Nat} {P : List Int} (h : PrOk L n P) : ∀ x ∈ P,I64 x:=fun x hx => by
 obtain ⟨i,hi,rfl⟩:=List.getElem_of_mem hx
 have:=h.pos i
 rw [List.getD_eq_getElem?_getD,List.getElem?_eq_getElem hi] at this
 simp at this
 unfold I64; omega
theorem prA_len {L : List SetD} {T : List Bool} : ((prA L T).getD []).length ≤ T.length:=by
 unfold prA
 split
 ·rename_i hm
  cases hp : prL L T.length (idxs T) with
  | none => simp
  | some P => have:=(prL_ok (mayD_ok hm) (idxs T) (idxs_nodup T _) (fun e he => (idxs_mem.1 he).1) P hp).1.len; simp; omega
 ·simp
end Go.Abs
namespace Go.Proofs.YtejifalflkbekaaDoor
open Go Go.Abs Go.Proofs.YtejifalflkbekaaDoor.Bs
def PrV (H : AH) (o : Option (List Int)) (u : Value) (H' : AH) : Prop:=∃ pv,u = .tuple #[pv,.bool o.isSome] ∧ SlV (fun b => H.next ≤ b ∧ b < H'.next) H' pv (o.getD []) ∧ Keep [] H H'
end Go.Proofs.YtejifalflkbekaaDoor
