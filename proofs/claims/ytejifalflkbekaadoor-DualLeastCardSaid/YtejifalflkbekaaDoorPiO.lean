/-
  Numbers to be sorted.
-/
import Derived.Test.YtejifalflkbekaaDoorIrS
import Derived.Test.YtejifalflkbekaaDoorSorted
import Derived.Test.YtejifalflkbekaaDoorCrossN
set_option maxRecDepth 100000
set_option linter.unusedSimpArgs false
set_option linter.unusedVariables false
namespace Go.Proofs.YtejifalflkbekaaDoor.Ps
open Go Go.Abs
structure Ent where
 v : Int
def Ent.cells (e : Ent) : List Value:=[.int .i64 e.v]
def Ent.lt (x y : Ent) : Bool:=decide (x.v < y.v)
theorem isOrd : IsOrd Ent.lt where
 irr a:=decide_eq_false (by omega)
 trans a b c h1 h2:=by
  have h1:=of_decide_eq_true h1
  have h2:=of_decide_eq_true h2
  exact decide_eq_true (by omega)
 tri a b h1 h2:=by
  have h1:=of_decide_eq_false h1
  have h2:=of_decide_eq_false h2
  cases a; cases b
  simp only at h1 h2
  congr 1; omega
def sw {α : Type} (f : Nat → α) (i k m : Nat) : α:=if m = i then f k else if m = k then f i else f m
theorem sw_l {α : Type} {f : Nat → α} {i k : Nat} : sw f i k i = f k:=by simp [sw]
theorem sw_r {α : Type} {f : Nat → α} {i k : Nat} : sw f i k k = f i:=by unfold sw; split; (rename_i h; rw [h]); rw [if_pos rfl]
theorem sw_o {α : Type} {f : Nat → α} {i k m : Nat} (h1 : m ≠ i) (h2 : m ≠ k) : sw f i k m = f m:=by simp [sw,h1,h2]
theorem LessI_spec {H : AH} (a b : Ent) : AFn Tryd.prog F_cmp_Less_int [.int .i64 a.v,.int .i64 b.v] H fun u H' => u = .bool (a.lt b) ∧ H' = H:=by
 refine AFn.enter mixed ir_cmp_Less_int_eq (by simp [ir_cmp_Less_int]) fun hw => ?_
 have hl : a.lt b = decide (a.v < b.v):=rfl
 rw [hl]
 simp (disch:=omega) [-getElem?_pos,if_pos,if_neg,decide_eq_true,decide_eq_false,ir_cmp_Less_int]
 refine AFn.pure (isNaNI_spec _) ?_
 simp (disch:=omega) [-getElem?_pos,if_pos,if_neg,decide_eq_true,decide_eq_false,]
def cellsE : List Ent → List Value
 | [] => []
 | e :: l => e.cells ++ cellsE l
theorem cellsE_length (l : List Ent) : (cellsE l).length = l.length * 1:=by
 induction l with
 | nil => rfl
 | cons e l ih => simp [cellsE,Ent.cells,ih]
theorem cellsE_get (l : List Ent) (k : Nat) (h : k < l.length) : ((cellsE l).drop (k * 1)).take 1 = l[k].cells:=by
 induction l generalizing k with
 | nil => simp at h
 | cons e l ih =>
  cases k with
  | zero => simp [cellsE,Ent.cells]
  | succ k =>
   have:=ih k (by simpa using h)
   rw [show (k + 1) * 1 = e.cells.length + k * 1 by simp [Ent.cells]; omega,cellsE,← List.drop_drop,List.drop_left]
   simpa using this
theorem cellsE_set (l : List Ent) (k : Nat) (e : Ent) (h : k < l.length) : over (cellsE l) (k * 1) e.cells = cellsE (l.set k e):=by
 apply List.ext_getElem?
 intro j
 have hl:=cellsE_length l
 have hl2:=cellsE_length (l.set k e)
 simp only [List.length_set] at hl2
 rw [over_get' (by simp [Ent.cells]; omega)]
 have hj : ∀ (m : List Ent) (q : Nat),q < m.length → ∀ r,r < 1 → (cellsE m)[q * 1 + r]? = (m[q]?.map Ent.cells).bind fun c => c[r]?:=by
  intro m q hq r hr
  have:=cellsE_get m q hq
  have h2 : (((cellsE m).drop (q * 1)).take 1)[r]? = (m[q].cells)[r]?:=by rw [this]
  rw [List.getElem?_take_of_lt hr,List.getElem?_drop] at h2
  rw [h2,List.getElem?_eq_getElem hq]
  rfl
 by_cases hlt : j < l.length * 1
 ·obtain ⟨q,r,rfl,hr⟩ : ∃ q r,j = q * 1 + r ∧ r < 1:=⟨j / 1,j % 1,by omega,by omega⟩
  have hq : q < l.length:=by omega
  rw [hj (l.set k e) q (by simpa using hq) r hr,List.getElem?_set]
  by_cases hqk : k = q
  ·subst hqk
   rw [if_pos (by simp [Ent.cells]; omega),if_pos rfl,if_pos hq]
   simp
  ·rw [if_neg (by simp [Ent.cells]; omega),if_neg hqk,hj l q hq r hr]
 ·rw [if_neg (by simp [Ent.cells]; omega),List.getElem?_eq_none (by omega),List.getElem?_eq_none (by omega)]
def swapL (L : List Ent) (i k : Nat) : List Ent:=match L[i]?,L[k]? with
 | some a,some b => (L.set i b).set k a
 | _,_ => L
theorem swapL_length (L : List Ent) (i k : Nat) : (swapL L i k).length = L.length:=by
 unfold swapL; split <;> simp
theorem entries_at {p : Nat → Prop} {H : AH} {v : Value} {L : List Ent} (h : Vw p H 1 v L.length (cellsE L)) (h0 : 0 < L.length) : ∃ b off sp cap cs,v = .slice (some ⟨b,off,sp⟩) L.length cap ∧ H.cells b = some cs ∧ ∀ k (hk : k < L.length),cut cs (off + k * 1) 1 = some L[k].cells:=by
 obtain ⟨b,off,sp,cap,cs,h1,h2,h3,h4,h5,h6,h7,_⟩:=h.at h0
 refine ⟨b,off,sp,cap,cs,h1,h4,fun k hk => ?_⟩
 obtain ⟨q1,q2,q3,q4⟩:=cut_spec h7
 rw [cut_eq (by omega),← cellsE_get L k hk,q2,List.drop_take,List.drop_drop,List.take_take,Nat.min_eq_left (by omega)]
def zeroE : Ent:=⟨0⟩
def getE (L : List Ent) (i : Nat) : Ent:=(L[i]?).getD zeroE
theorem getE_eq {L : List Ent} {i : Nat} (h : i < L.length) : getE L i = L[i]:=by unfold getE; rw [List.getElem?_eq_getElem h]; rfl
theorem swapL_eq {L : List Ent} {i k : Nat} (hi : i < L.length) (hk : k < L.length) : swapL L i k = (L.set i L[k]).set k L[i]:=by
 unfold swapL; rw [List.getElem?_eq_getElem hi,List.getElem?_eq_getElem hk]
theorem getE_swap {L : List Ent} {i k : Nat} (hi : i < L.length) (hk : k < L.length) : getE (swapL L i k) = sw (getE L) i k:=by
 funext m
 unfold sw
 rw [swapL_eq hi hk,getE_eq hi,getE_eq hk]
 unfold getE
 rw [List.getElem?_set,List.getElem?_set]
 by_cases h1 : m = i
 ·subst h1
  by_cases h2 : k = m
  ·subst h2; simp [hi]
  ·simp [h2,hi]
 ·by_cases h2 : m = k
  ·subst h2; simp [h1,hk]
  ·simp [h1,h2,Ne.symm h1,Ne.symm h2]
theorem swapL_perm (L : List Ent) (i k : Nat) : (swapL L i k).Perm L:=by
 by_cases h : i < L.length ∧ k < L.length
 ·rw [swapL_eq h.1 h.2]
  exact List.set_set_perm h.1 h.2
 ·unfold swapL
  split
  ·rename_i a b h1 h2
   have h1':=(List.getElem?_eq_some_iff.1 h1).1
   have h2':=(List.getElem?_eq_some_iff.1 h2).1
   omega
  ·exact .refl _
theorem ents_at {p : Nat → Prop} {H : AH} {v : Value} {L : List Ent} (h : Vw p H 1 v L.length (cellsE L)) (h0 : 0 < L.length) : ∃ b off sp cap cs,v = .slice (some ⟨b,off,sp⟩) L.length cap ∧ H.cells b = some cs ∧ ∀ k,k < L.length → cut cs (off + k * 1) 1 = some (getE L k).cells:=by
 obtain ⟨b,off,sp,cap,cs,h1,h2,h3⟩:=entries_at h h0
 refine ⟨b,off,sp,cap,cs,h1,h2,fun k hk => ?_⟩
 rw [h3 k hk]; unfold getE; rw [List.getElem?_eq_getElem hk]; rfl
def bl (n : Nat) : Nat:=if n = 0 then 0 else n.log2 + 1
theorem bl_half {n : Nat} (h : 0 < n) : bl n = bl (n / 2) + 1:=by
 unfold bl
 rw [if_neg (by omega)]
 by_cases h1 : n = 1
 ·subst h1; decide
 ·rw [if_neg (by omega),Nat.log2_def,if_pos (by omega)]
theorem bl_shift : ∀ (k n : Nat),2 ^ k ≤ n → bl n = bl (n / 2 ^ k) + k
 | 0,n,_ => by simp
 | k + 1,n,h => by
  have h2 : 2 ^ (k + 1) = 2 ^ k * 2:=Nat.pow_succ 2 k
  have h3 : 2 ^ k ≤ n:=by have : 0 < 2 ^ k:=Nat.pow_pos (by omega); omega
  rw [bl_shift k n h3,bl_half (n:=n / 2 ^ k) (Nat.div_pos h3 (Nat.pow_pos (by omega))),Nat.div_div_eq_div_mul,← h2]
  omega
theorem len8 : ∀ t,t < 256 → (str_1[t]?).map UInt8.toNat = some (bl t):=by decide +kernel
theorem len8_get {t : Nat} (h : t < 256) : ∃ b : UInt8,str_1[t]? = some b ∧ b.toNat = bl t:=by
 have:=len8 t h
 cases hb : str_1[t]? with
 | none => rw [hb] at this; cases this
 | some b => rw [hb] at this; exact ⟨b,rfl,by simpa using this⟩
theorem bl_lt {t : Nat} (h : t < 256) : bl t ≤ 8:=by
 have : ∀ t,t < 256 → bl t ≤ 8:=by decide +kernel
 exact this t h
theorem bits_Len64_spec {H : AH} {x : Nat} (hx : x < 1048576) : AFn Tryd.prog F_bits_Len64 [uv x] H fun u H' => u = .int .i64 (bl x) ∧ H' = H:=by
 refine AFn.enter mixed ir_bits_Len64_eq (by simp [ir_bits_Len64]) fun hw => ?_
 have c0 : abin .geq (uv x) (uv 4294967296) = some (.bool false):=by rw [uv_geq,decide_eq_false (by omega)]
 have conv8 : ∀ y : Nat,y < 256 → IntKind.u8.wrap ((y : Nat) : Int) = (y : Int):=fun y hy => by simp [IntKind.wrap,IntKind.bits,IntKind.signed]; omega
 by_cases h1 : 65536 ≤ x
 ·have c1 : abin .geq (uv x) (uv 65536) = some (.bool true):=by rw [uv_geq,decide_eq_true (by omega)]
  have s1 : abin .shr (uv x) (uv 16) = some (uv (x / 65536)):=uv_shr (n:=16) (by omega)
  have hb:=bl_shift 16 x (by omega)
  have hlt : x / 65536 < 256:=by omega
  rw [show (2 : Nat) ^ 16 = 65536 by rfl] at hb
  generalize x / 65536 = y at *
  have c2 : abin .geq (uv y) (uv 256) = some (.bool false):=by rw [uv_geq,decide_eq_false (by omega)]
  obtain ⟨b,hb1,hb2⟩:=len8_get hlt
  have:=bl_lt hlt
  rw [hb]
  generalize bl y = r at *
  simp (disch:=omega) [-getElem?_pos,ir_bits_Len64,↓c0,↓c1,↓s1,↓c2]
  simp only [uv_def]
  simp (disch:=omega) [-getElem?_pos,conv8,hb1,hb2,IntWalk.i64_in]
  omega
 ·have c1 : abin .geq (uv x) (uv 65536) = some (.bool false):=by rw [uv_geq,decide_eq_false (by omega)]
  by_cases h2 : 256 ≤ x
  ·have c2 : abin .geq (uv x) (uv 256) = some (.bool true):=by rw [uv_geq,decide_eq_true (by omega)]
   have s1 : abin .shr (uv x) (uv 8) = some (uv (x / 256)):=uv_shr (n:=8) (by omega)
   have hb:=bl_shift 8 x (by omega)
   have hlt : x / 256 < 256:=by omega
   rw [show (2 : Nat) ^ 8 = 256 by rfl] at hb
   generalize x / 256 = y at *
   obtain ⟨b,hb1,hb2⟩:=len8_get hlt
   have:=bl_lt hlt
   rw [hb]
   generalize bl y = r at *
   simp (disch:=omega) [-getElem?_pos,ir_bits_Len64,↓c0,↓c1,↓s1,↓c2]
   simp only [uv_def]
   simp (disch:=omega) [-getElem?_pos,conv8,hb1,hb2,IntWalk.i64_in]
   omega
  ·have c2 : abin .geq (uv x) (uv 256) = some (.bool false):=by rw [uv_geq,decide_eq_false (by omega)]
   obtain ⟨b,hb1,hb2⟩:=len8_get (show x < 256 by omega)
   have:=bl_lt (show x < 256 by omega)
   generalize bl x = r at *
   simp (disch:=omega) [-getElem?_pos,ir_bits_Len64,↓c0,↓c1,↓c2]
   simp only [uv_def]
   simp (disch:=omega) [-getElem?_pos,conv8,hb1,hb2,IntWalk.i64_in]
theorem bits_Len_spec {H : AH} {x : Nat} (hx : x < 1048576) : AFn Tryd.prog F_bits_Len [uv x] H fun u H' => u = .int .i64 (bl x) ∧ H' = H:=by
 refine AFn.enter mixed ir_bits_Len_eq (by simp [ir_bits_Len]) fun hw => ?_
 simp (disch:=omega) [-getElem?_pos,if_pos,if_neg,decide_eq_true,decide_eq_false,ir_bits_Len]
 refine AFn.pure (bits_Len64_spec hx) ?_
 simp (disch:=omega) [-getElem?_pos,if_pos,if_neg,decide_eq_true,decide_eq_false,]
end Go.Proofs.YtejifalflkbekaaDoor.Ps
