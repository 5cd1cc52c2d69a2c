/-
  DATA IN MEMORY: which plain data some cells stand for; lists of them in slices that are read, and in slices of one's own.
-/
import Derived.Test.YtejifalflkbekaaDoorA31
set_option linter.unusedSimpArgs false
set_option linter.unusedVariables false
namespace Go.Abs
open Go
@[simp] theorem guardK_undef {P : Program} {dr : Bool} {K : Env → AH → Prop} {rest : List AOper} {env : Env} {H : AH} {d : Option Nat} {op : IOp} {b : Bool} : guardK P dr K rest env H d op b (some undef) = wpO P dr K rest (put env d undef) H:=by simp [guardK,undef]
def I64 (n : Int) : Prop:=-9223372036854775808 ≤ n ∧ n ≤ 9223372036854775807
def Sub (p : Nat → Prop) (H H' : AH) : Prop:=∀ b,p b → ∀ cs,H.cells b = some cs → H'.cells b = some cs
theorem cells_keep {S : List Nat} {H H' : AH} (hw : WF H) (hk : Keep S H H') {b : Nat} (hb : b ∉ S) {cs : List Value} (h : H.cells b = some cs) : H'.cells b = some cs:=by
 unfold AH.cells at h ⊢
 rw [hk.blk b (cells_lt hw h) hb]; exact h
section
variable {p q : Nat → Prop} {H H' H'' : AH}
theorem Sub.keep {S : List Nat} (hw : WF H) (hk : Keep S H H') (hd : ∀ b ∈ S,¬ p b) : Sub p H H':=fun b hb _ h => cells_keep hw hk (fun hs => hd b hs hb) h
theorem Sub.kept (hw : WF H) (hk : Keep [] H H') : Sub p H H':=.keep hw hk (by simp)
theorem Sub.same (hs : SameC H H') : Sub p H H':=fun b _ _ h => by rw [hs.2 b]; exact h
theorem Sub.refl : Sub p H H:=fun _ _ _ h => h
theorem Sub.less (h : Sub q H H') (hp : ∀ b,p b → q b) : Sub p H H':=fun b hb cs hc => h b (hp b hb) cs hc
end
class Ren (α : Type) where
 sz : Nat
 R : (Nat → Prop) → AH → List Value → α → Prop
 len : ∀ {p H cs a},R p H cs a → cs.length = sz
 up : ∀ {p q : Nat → Prop} {H H' : AH} {cs : List Value} {a : α},(∀ b,p b → q b) → Sub p H H' → R p H cs a → R q H' cs a
open Ren (R)
def chunk (sz i : Nat) (cells : List Value) : List Value:=(cells.drop (i * sz)).take sz
theorem chunk_append {sz i n : Nat} {a b : List Value} (h : a.length = n * sz) (hi : i < n) : chunk sz i (a ++ b) = chunk sz i a:=by
 have:=Nat.mul_le_mul_right sz (Nat.succ_le_of_lt hi)
 rw [Nat.succ_mul] at this
 unfold chunk
 rw [List.drop_append_of_le_length (by omega),List.take_append_of_le_length (by simp; omega)]
theorem chunk_new {sz n : Nat} {a b : List Value} (h : a.length = n * sz) (hb : b.length = sz) : chunk sz n (a ++ b) = b:=by
 unfold chunk
 rw [List.drop_append,List.drop_eq_nil_of_le (by omega),h,Nat.sub_self,List.nil_append,List.drop_zero,List.take_of_length_le (by omega)]
theorem chunk_take {sz i k : Nat} {cells : List Value} (hi : i < k) : chunk sz i (cells.take (k * sz)) = chunk sz i cells:=by
 have:=Nat.mul_le_mul_right sz (Nat.succ_le_of_lt hi)
 rw [Nat.succ_mul] at this
 unfold chunk
 rw [List.drop_take,List.take_take]
 congr 1; omega
theorem chunk_cut {sz i n off : Nat} {cs cells : List Value} (h : cut cs off (n * sz) = some cells) (hi : i < n) : cut cs (off + i * sz) sz = some (chunk sz i cells):=by
 obtain ⟨h1,h2,h3,h4⟩:=cut_spec h
 have:=Nat.mul_le_mul_right sz (Nat.succ_le_of_lt hi)
 rw [Nat.succ_mul] at this
 rw [cut_eq (by omega),h2]
 unfold chunk
 rw [List.drop_take,List.take_take,List.drop_drop]
 congr 2; omega
def SpOk (sz : Nat) (v : Value) : Prop:=∀ b off sp n c,v = .slice (some ⟨b,off,sp⟩) n c → sp = none ∨ sp = some sz
theorem SpOk.of {sz b off n c : Nat} {sp : Option Nat} (h : sp = none ∨ sp = some sz) : SpOk sz (.slice (some ⟨b,off,sp⟩) n c):=fun b off sp n c e => by cases e; exact h
theorem SpOk.nil {sz n c : Nat} : SpOk sz (.slice none n c):=fun b off sp n c e => by cases e
section
variable {α : Type} [Ren α] {p q : Nat → Prop} {H H' : AH} {v : Value} {l : List α}
def SlV (p : Nat → Prop) (H : AH) (v : Value) (l : List α) : Prop :=
 (l.length ≤ 9223372036854775807 ∧ SpOk (Ren.sz α) v) ∧ ∃ cells,Vw p H (Ren.sz α) v l.length cells ∧ ∀ i (h : i < l.length),R p H (chunk (Ren.sz α) i cells) l[i]
theorem Vw.sub {sz n : Nat} {cells : List Value} (h : Vw p H sz v n cells) (hpq : ∀ b,p b → q b) (hs : Sub p H H') : Vw q H' sz v n cells:=by
 obtain ⟨h1,h2⟩:=h
 refine ⟨h1,h2.imp id ?_⟩
 rintro ⟨b,off,sp,cap,cs,e,q1,q2,q3,q4,q5⟩
 exact ⟨b,off,sp,cap,cs,e,q1,q2,hs b q5 _ q3,q4,hpq b q5⟩
theorem SlV.up (h : SlV p H v l) (hpq : ∀ b,p b → q b) (hs : Sub p H H') : SlV q H' v l:=by
 obtain ⟨h1,cells,h2,h3⟩:=h
 exact ⟨h1,cells,h2.sub hpq hs,fun i hi => Ren.up hpq hs (h3 i hi)⟩
theorem SlV.kept (h : SlV p H v l) (hw : WF H) (hk : Keep [] H H') : SlV p H' v l:=h.up (fun _ h => h) (.kept hw hk)
theorem SlV.same (h : SlV p H v l) (hs : SameC H H') : SlV p H' v l:=h.up (fun _ h => h) (.same hs)
theorem SlV.mono (h : SlV p H v l) (hpq : ∀ b,p b → q b) : SlV q H v l:=h.up hpq .refl
theorem SlV.any (h : SlV p H v l) : SlV (fun _ => True) H v l:=h.mono fun _ _ => trivial
theorem SlV.sub (h : SlV p H v l) (hs : Sub p H H') : SlV p H' v l:=h.up (fun _ h => h) hs
theorem SlV.slice (h : SlV p H v l) : ∃ a c,v = .slice a l.length c:=let ⟨_,_,h2,_⟩:=h; h2.slice
theorem SlV.max (h : SlV p H v l) : l.length ≤ 9223372036854775807:=h.1.1
theorem SlV.nil : SlV p H (.slice none 0 0) ([] : List α):=⟨⟨by simp,.nil⟩,[],.nil,fun i h => by simp at h⟩
theorem SlV.cell (h : SlV p H v l) : one v = true ∧ cellsOf v = some [v]:=let ⟨_,_,h2,_⟩:=h; h2.agg
theorem SlV.at (h : SlV p H v l) (h0 : 0 < l.length) : ∃ b off sp cap cs,v = .slice (some ⟨b,off,sp⟩) l.length cap ∧ l.length ≤ cap ∧ (sp = none ∨ sp = some (Ren.sz α)) ∧ H.cells b = some cs ∧ p b ∧
  ∀ k (hk : k < l.length),∃ c,cut cs (off + k * Ren.sz α) (Ren.sz α) = some c ∧ R p H c l[k]:=by
 obtain ⟨h1,cells,h2,h3⟩:=h
 obtain ⟨b,off,sp,cap,cs,e,q1,q2,q3,q4,q5,q6,q7⟩:=h2.at h0
 exact ⟨b,off,sp,cap,cs,e,q1,q2,q3,q7,fun k hk => ⟨_,chunk_cut q6 hk,h3 k hk⟩⟩
def OwnL (p : Nat → Prop) (H : AH) (ty : Nat) (v : Value) (l : List α) (S : List Nat) : Prop :=
 ∃ cells,Own H ty (Ren.sz α) v l.length cells S ∧ (∀ i (h : i < l.length),R p H (chunk (Ren.sz α) i cells) l[i]) ∧ ∀ b ∈ S,¬ p b
variable {ty : Nat} {S : List Nat}
theorem OwnL.nil : OwnL p H ty (.slice none 0 0) ([] : List α) []:=⟨[],.nil,fun i h => by simp at h,by simp⟩
theorem OwnL.slice (h : OwnL p H ty v l S) : ∃ a c,v = .slice a l.length c:=let ⟨_,h1,_⟩:=h; h1.slice
theorem OwnL.lt (h : OwnL p H ty v l S) (hw : WF H) : ∀ b ∈ S,b < H.next:=let ⟨_,h1,_⟩:=h; h1.lt hw
theorem OwnL.up (h : OwnL p H ty v l S) (hpq : ∀ b,p b → q b) (hs : Sub p H H') (hk : ∀ b ∈ S,H'.blk b = H.blk b) (hq : ∀ b ∈ S,¬ q b) : OwnL q H' ty v l S:=by
 obtain ⟨cells,h1,h2,h3⟩:=h
 exact ⟨cells,h1.keep hk,fun i hi => Ren.up hpq hs (h2 i hi),hq⟩
theorem OwnL.kept (h : OwnL p H ty v l S) (hw : WF H) (hk : Keep [] H H') : OwnL p H' ty v l S :=
 h.up (fun _ h => h) (.kept hw hk) (fun b hb => hk.blk b (h.lt hw b hb) (by simp)) (let ⟨_,_,_,h3⟩:=h; h3)
theorem OwnL.slv (h : OwnL p H ty v l S) (hp : ∀ b,p b → q b) (hS : ∀ b ∈ S,q b) (hm : l.length ≤ 9223372036854775807) : SlV q H v l:=by
 obtain ⟨cells,h1,h2,h3⟩:=h
 refine ⟨⟨hm,?_⟩,cells,h1.vw hS,fun i hi => Ren.up hp .refl (h2 i hi)⟩
 rcases h1 with ⟨rfl,_⟩ | ⟨b,off,sp,cap,cs,rfl,_,_,_,_,_,h⟩
 ·exact .nil
 ·exact .of h
theorem OwnL.push (h : OwnL p H ty v l S) (hw : WF H) {cs : List Value} {a : α} (ha : R q H cs a) (e2 : TypeId) (bytes : Nat) (hpq : ∀ b,p b → q b) (hq : ∀ b,q b → b < H.next) (hS : ∀ b ∈ S,¬ q b) (hroom : (l.length + 1) * bytes ≤ 140737488355328) (hmax : l.length + 1 ≤ 9223372036854775807) :
  ∃ a' c' H' S',appendA (H.alloc (.row cs e2 true)) ty (Ren.sz α) bytes v 1 cs = some (.slice a' (l.length + 1) c',H') ∧ OwnL q H' ty (.slice a' (l.length + 1) c') (l ++ [a]) S' ∧ Keep S H H' ∧ WF H' ∧ ∀ b ∈ S',b ∈ S ∨ H.next ≤ b:=by
 obtain ⟨cells,h1,h2,h3⟩:=h
 have hl:=Ren.len ha
 have hcl:=h1.len
 obtain ⟨a',c',H',S',q1,q2,q3,q4,q5⟩:=h1.push hw e2 bytes 1 cs (by rw [hl,Nat.one_mul]) hroom hmax
 have hsub : Sub q H H':=.keep hw q3 hS
 refine ⟨a',c',H',S',q1,⟨cells ++ cs,by rw [List.length_append]; exact q2,fun i hi => ?_,fun b hb hqb => ?_⟩,q3,q4,q5⟩
 ·by_cases hil : i < l.length
  ·rw [chunk_append hcl hil,List.getElem_append_left hil]
   exact Ren.up hpq (hsub.less hpq) (h2 i hil)
  ·simp at hi
   obtain rfl : i = l.length:=by omega
   rw [chunk_new hcl hl]
   simp only [List.getElem_concat_length]
   exact Ren.up (fun _ h => h) hsub ha
 ·rcases q5 b hb with hb | hb
  ·exact hS b hb hqb
  ·have:=hq b hqb; omega
end
/-! ### v[:m] -/
def slA (H : AH) (sz : Nat) (v hi : Option Value) : Option (Value × AH) :=
 match v,hi with
 | some (.slice none 0 0),some (.int _ i) => if 0 ≤ i ∧ i ≤ 0 then some (.slice none 0 0,H) else none
 | some (.slice (some ⟨b,off,none⟩) _ cap),some (.int _ i) => if 0 ≤ i ∧ i ≤ (cap : Int) then some (.slice (some ⟨b,off,none⟩) i.toNat cap,H) else none
 | some (.slice (some ⟨b,off,some t⟩) _ cap),some (.int _ i) => if 0 ≤ i ∧ i ≤ (cap : Int) then (if t = sz then some (.slice (some ⟨b,off,some t⟩) i.toNat cap,H) else none) else none
 | _,_ => none
theorem ieval_slhi {env : Env} {H : AH} {sz : Nat} {x hi : Operand} : ieval (.sl sz x none (some hi) none) env H = slA H sz (aval env x) (aval env hi):=by
 simp only [ieval,boundsA,boundA]
 generalize aval env x = v
 generalize aval env hi = h
 cases v with
 | none => rfl
 | some v =>
  cases v <;> try rfl
  rename_i a n c
  cases a with
  | none =>
   cases n <;> cases c <;> try rfl
   cases h with
   | none => rfl
   | some h =>
    cases h <;> try rfl
    rename_i k i
    by_cases hi : 0 ≤ i ∧ i ≤ 0 <;> simp [slA,hi]
  | some a =>
   obtain ⟨b,off,sp⟩:=a
   cases h with
   | none => cases sp <;> rfl
   | some h =>
    cases h <;> try (cases sp <;> rfl)
    rename_i k i
    cases sp with
    | none => by_cases hi : 0 ≤ i ∧ i ≤ (c : Int) <;> simp [slA,hi]
    | some t => by_cases hi : 0 ≤ i ∧ i ≤ (c : Int) <;> simp [slA,hi]
theorem Vw.sl {p : Nat → Prop} {H : AH} {sz n : Nat} {v : Value} {cells : List Value} (h : Vw p H sz v n cells) (h0 : SpOk sz v) {m : Nat} (hm : m ≤ n) : ∃ w,slA H sz (some v) (some (.int .i64 m)) = some (w,H) ∧ Vw p H sz w m (cells.take (m * sz)) ∧ SpOk sz w:=by
 obtain ⟨hlen,⟨hn,a,c,rfl,hac⟩ | ⟨b,off,sp,cap,cs,rfl,h1,h2,h3,h4,h5⟩⟩:=id h
 ·subst hn
  obtain rfl : m = 0:=by omega
  have hw : ∀ a c,(a = none → c = 0) → Vw p H sz (.slice a 0 c) 0 (cells.take (0 * sz)):=fun a c hac => ⟨by simp,.inl ⟨rfl,a,c,rfl,hac⟩⟩
  cases a with
  | none =>
   obtain rfl:=hac rfl
   exact ⟨.slice none 0 0,by simp [slA],hw _ _ fun _ => rfl,.nil⟩
  | some a =>
   obtain ⟨b,off,sp⟩:=a
   rcases h0 _ _ _ _ _ rfl with rfl | rfl
   ·exact ⟨.slice (some ⟨b,off,none⟩) 0 c,by simp [slA],hw _ _ (fun h => by cases h),.of (.inl rfl)⟩
   ·exact ⟨.slice (some ⟨b,off,some sz⟩) 0 c,by simp [slA],hw _ _ (fun h => by cases h),.of (.inr rfl)⟩
 ·refine ⟨.slice (some ⟨b,off,sp⟩) m cap,?_,Vw.first h hm cap (by omega),.of h2⟩
  rcases h2 with rfl | rfl
  ·simp only [slA]
   rw [if_pos (by omega)]; simp
  ·simp only [slA]
   rw [if_pos (by omega)]; simp
theorem SlV.sl {α : Type} [Ren α] {p : Nat → Prop} {H : AH} {v : Value} {l : List α} (h : SlV p H v l) {m : Nat} (hm : m ≤ l.length) : ∃ w,slA H (Ren.sz α) (some v) (some (.int .i64 m)) = some (w,H) ∧ SlV p H w (l.take m):=by
 obtain ⟨⟨h1,h0⟩,cells,h2,h3⟩:=h
 obtain ⟨w,q1,q2,q3⟩:=h2.sl h0 hm
 have hkl : (l.take m).length = m:=by rw [List.length_take]; omega
 refine ⟨w,q1,⟨by omega,q3⟩,cells.take (m * Ren.sz α),by rw [hkl]; exact q2,fun i hi => ?_⟩
 rw [hkl] at hi
 rw [chunk_take hi,List.getElem_take]
 exact h3 i (by omega)
/-! ### plain data -/
instance : Ren Int where
 sz:=1
 R:=fun _ _ cs n => cs = [.int .i64 n] ∧ I64 n
 len:=fun h => by rw [h.1]; rfl
 up:=fun _ _ h => h
instance : Ren Bool where
 sz:=1
 R:=fun _ _ cs b => cs = [.bool b]
 len:=fun h => by rw [h]; rfl
 up:=fun _ _ h => h
instance : Ren (Int × Int) where
 sz:=2
 R:=fun _ _ cs x => cs = [.int .i64 x.1,.int .i64 x.2] ∧ I64 x.1 ∧ I64 x.2
 len:=fun h => by rw [h.1]; rfl
 up:=fun _ _ h => h
instance {α : Type} [Ren α] : Ren (List α) where
 sz:=1
 R:=fun p H cs l => ∃ v,cs = [v] ∧ SlV p H v l
 len:=fun h => by obtain ⟨v,rfl,_⟩:=h; rfl
 up:=fun hpq hs h => by obtain ⟨v,rfl,h⟩:=h; exact ⟨v,rfl,h.up hpq hs⟩
@[simp] theorem sz_int : Ren.sz Int = 1:=rfl
@[simp] theorem sz_bool : Ren.sz Bool = 1:=rfl
@[simp] theorem sz_pair : Ren.sz (Int × Int) = 2:=rfl
@[simp] theorem sz_list {α : Type} [Ren α] : Ren.sz (List α) = 1:=rfl
structure SetD where
 cost : Int
 elems : List Int
 deriving Inhabited
instance : Ren SetD where
 sz:=2
 R:=fun p H cs s => ∃ v,cs = [.int .i64 s.cost,v] ∧ I64 s.cost ∧ SlV p H v s.elems
 len:=fun h => by obtain ⟨v,rfl,_⟩:=h; rfl
 up:=fun hpq hs h => by obtain ⟨v,rfl,h1,h⟩:=h; exact ⟨v,rfl,h1,h.up hpq hs⟩
@[simp] theorem sz_set : Ren.sz SetD = 2:=rfl
structure InstD where
 kind : Int
 cap : Int
 items : List (Int × Int)
 cost : List (List Int)
 size : Int
 sets : List SetD
def InstV (p : Nat → Prop) (H : AH) (v : Value) (x : InstD) : Prop :=
 ∃ iv cv sv,v = .agg #[.int .i64 x.kind,.int .i64 x.cap,iv,cv,.int .i64 x.size,sv] ∧ I64 x.kind ∧ I64 x.cap ∧ I64 x.size ∧ SlV p H iv x.items ∧ SlV p H cv x.cost ∧ SlV p H sv x.sets
section
variable {p q : Nat → Prop} {H H' : AH} {v : Value}
theorem InstV.up {x : InstD} (h : InstV p H v x) (hpq : ∀ b,p b → q b) (hs : Sub p H H') : InstV q H' v x:=by
 obtain ⟨iv,cv,sv,h1,h2,h3,h4,h5,h6,h7⟩:=h
 exact ⟨iv,cv,sv,h1,h2,h3,h4,h5.up hpq hs,h6.up hpq hs,h7.up hpq hs⟩
theorem InstV.kept {x : InstD} (h : InstV p H v x) (hw : WF H) (hk : Keep [] H H') : InstV p H' v x:=h.up (fun _ h => h) (.kept hw hk)
theorem InstV.same {x : InstD} (h : InstV p H v x) (hs : SameC H H') : InstV p H' v x:=h.up (fun _ h => h) (.same hs)
theorem InstV.any {x : InstD} (h : InstV p H v x) : InstV (fun _ => True) H v x:=h.up (fun _ _ => trivial) .refl
/-! ### elements read -/
theorem ints_rd {l : List Int} (h : SlV p H v l) (h0 : 0 < l.length) : ∃ b off sp cap cs,v = .slice (some ⟨b,off,sp⟩) l.length cap ∧ H.cells b = some cs ∧ ∀ k (hk : k < l.length),cs[off + k]? = some (.int .i64 l[k]) ∧ I64 l[k]:=by
 obtain ⟨b,off,sp,cap,cs,h1,h2,h3,h4,h5,h6⟩:=h.at h0
 refine ⟨b,off,sp,cap,cs,h1,h4,fun k hk => ?_⟩
 obtain ⟨c,q1,rfl,q3⟩:=h6 k hk
 obtain ⟨_,_,_,q4⟩:=cut_spec q1
 have:=q4 0 (by simp)
 simp at this
 exact ⟨this,q3⟩
theorem rows_rd {α : Type} [Ren α] {l : List (List α)} (h : SlV p H v l) (h0 : 0 < l.length) : ∃ b off sp cap cs,v = .slice (some ⟨b,off,sp⟩) l.length cap ∧ H.cells b = some cs ∧ ∀ k (hk : k < l.length),∃ w,cs[off + k]? = some w ∧ SlV p H w l[k]:=by
 obtain ⟨b,off,sp,cap,cs,h1,h2,h3,h4,h5,h6⟩:=h.at h0
 refine ⟨b,off,sp,cap,cs,h1,h4,fun k hk => ?_⟩
 obtain ⟨c,q1,w,rfl,q3⟩:=h6 k hk
 obtain ⟨_,_,_,q4⟩:=cut_spec q1
 have:=q4 0 (by simp)
 simp at this
 exact ⟨w,this,q3⟩
theorem pairs_rd {l : List (Int × Int)} (h : SlV p H v l) (h0 : 0 < l.length) : ∃ b off sp cap cs,v = .slice (some ⟨b,off,sp⟩) l.length cap ∧ H.cells b = some cs ∧ ∀ k (hk : k < l.length),cut cs (off + k * 2) 2 = some [.int .i64 l[k].1,.int .i64 l[k].2] ∧ cs[off + k * 2]? = some (.int .i64 l[k].1) ∧ cs[off + k * 2 + 1]? = some (.int .i64 l[k].2) ∧ I64 l[k].1 ∧ I64 l[k].2:=by
 obtain ⟨b,off,sp,cap,cs,h1,h2,h3,h4,h5,h6⟩:=h.at h0
 refine ⟨b,off,sp,cap,cs,h1,h4,fun k hk => ?_⟩
 obtain ⟨c,q1,rfl,q3⟩:=h6 k hk
 obtain ⟨_,_,_,q4⟩:=cut_spec q1
 have a:=q4 0 (by simp)
 have b:=q4 1 (by simp)
 simp at a b
 exact ⟨q1,a,b,q3⟩
theorem sets_rd {l : List SetD} (h : SlV p H v l) (h0 : 0 < l.length) : ∃ b off sp cap cs,v = .slice (some ⟨b,off,sp⟩) l.length cap ∧ H.cells b = some cs ∧ ∀ k (hk : k < l.length),∃ w,cut cs (off + k * 2) 2 = some [.int .i64 l[k].cost,w] ∧ cs[off + k * 2]? = some (.int .i64 l[k].cost) ∧ cs[off + k * 2 + 1]? = some w ∧ I64 l[k].cost ∧ SlV p H w l[k].elems:=by
 obtain ⟨b,off,sp,cap,cs,h1,h2,h3,h4,h5,h6⟩:=h.at h0
 refine ⟨b,off,sp,cap,cs,h1,h4,fun k hk => ?_⟩
 obtain ⟨c,q1,w,rfl,q3,q5⟩:=h6 k hk
 obtain ⟨_,_,_,q4⟩:=cut_spec q1
 have a:=q4 0 (by simp)
 have b:=q4 1 (by simp)
 simp at a b
 exact ⟨w,q1,a,b,q3,q5⟩
end
/-! ### a statement's arguments -/
theorem Rd.spOk {H : AH} {sz n : Nat} {v : Value} {cells : List Value} (h : Rd H sz v n cells) : SpOk sz v:=by
 rcases h with ⟨rfl,_⟩ | ⟨rfl,_⟩ | ⟨b,off,cap,cs,rfl,_⟩
 ·exact .nil
 ·exact .of (.inl rfl)
 ·exact .of (.inl rfl)
theorem Is.list {α : Type} [Ren α] [Inhabited α] {H : AH} (hw : WF H) {e : Sh} {sz : Nat} (hsz : Ren.sz α = sz) (he : ∀ cs,Is H e cs → ∃ a : α,R (fun b => b < H.next) H cs a) {cs : List Value} (h : Is H (.slice e sz) cs) : ∃ l : List α,R (fun b => b < H.next) H cs l:=by
 obtain ⟨v,n,cells,rfl,h1,h2,h3⟩:=h
 subst hsz
 have key : ∀ i,∃ a : α,i < n → R (fun b => b < H.next) H (chunk (Ren.sz α) i cells) a:=fun i => by
  by_cases hi : i < n
  ·obtain ⟨a,ha⟩:=he _ (h3 i hi)
   exact ⟨a,fun _ => ha⟩
  ·exact ⟨default,fun h => absurd h hi⟩
 let f:=fun i => Classical.choose (key i)
 have hf : ∀ i,i < n → R (fun b => b < H.next) H (chunk (Ren.sz α) i cells) (f i):=fun i => Classical.choose_spec (key i)
 refine ⟨(List.range n).map f,v,rfl,⟨by rw [List.length_map,List.length_range]; exact h2,h1.spOk⟩,cells,?_,fun i hi => ?_⟩
 ·simpa using h1.vw hw fun _ h => h
 ·simp at hi
  simpa using hf i hi
theorem Is.int_ren {H : AH} {cs : List Value} (h : Is H (.int .i64) cs) : ∃ a : Int,R (fun b => b < H.next) H cs a:=by
 obtain ⟨n,rfl,h⟩:=h
 exact ⟨n,rfl,wf_i64 h⟩
theorem Is.bool_ren {H : AH} {cs : List Value} (h : Is H .bool cs) : ∃ a : Bool,R (fun b => b < H.next) H cs a:=by
 obtain ⟨n,rfl⟩:=h
 exact ⟨n,rfl⟩
def shInts : Sh:=.slice (.int .i64) 1
theorem Is.ints_ren {H : AH} (hw : WF H) {cs : List Value} (h : Is H shInts cs) : ∃ l : List Int,R (fun b => b < H.next) H cs l:=Is.list hw rfl (fun _ => Is.int_ren) h
def shSet : Sh:=.cons 1 (.int .i64) (.cons 1 shInts .nil)
theorem Is.set_ren {H : AH} (hw : WF H) {cs : List Value} (h : Is H shSet cs) : ∃ a : SetD,R (fun b => b < H.next) H cs a:=by
 obtain ⟨h1,⟨a,e1,w1⟩,h2,e2,h3⟩:=h
 obtain ⟨l,w,e2,hl⟩:=Is.ints_ren hw e2
 match cs,e1,e2,h3 with
 | [],e1,_,_ => simp at e1
 | [_],_,e2,_ => simp at e2
 | [x,y],e1,e2,_ =>
  simp at e1 e2
  subst e1 e2
  exact ⟨⟨a,l⟩,y,rfl,wf_i64 w1,hl⟩
 | _ :: _ :: _ :: _,_,_,h3 => simp [Is] at h3
end Go.Abs
