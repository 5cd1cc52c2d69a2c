/-
  PLAIN LAW of package dual: without the needless sets the least cost is the same; what has all has the essential ones.
-/
import Derived.Test.YtejifalflkbekaaDoorDp3
import Derived.Test.YtejifalflkbekaaDoorDp4
set_option maxRecDepth 100000
set_option linter.unusedSimpArgs false
set_option linter.unusedVariables false
namespace Go.Abs
open Go Go.Proofs.YtejifalflkbekaaDoor.Bs
def bF (p : Nat → Bool) (c : Nat → Int) : Nat → Int
 | 0 => -1
 | m + 1 => if p m && (decide (bF p c m < 0) || decide (c m < bF p c m)) then c m else bF p c m
theorem bF_is {p : Nat → Bool} {c : Nat → Int} (h0 : ∀ m,0 ≤ c m) : ∀ n,(bF p c n = -1 ∧ ∀ m,m < n → p m = false) ∨ ∃ k,k < n ∧ p k = true ∧ bF p c n = c k ∧ ∀ m,m < n → p m = true → c k ≤ c m
 | 0 => .inl ⟨rfl,fun m h => by omega⟩
 | n + 1 => by
  have hn:=h0 n
  rcases bF_is (p:=p) (c:=c) h0 n with ⟨h1,h2⟩ | ⟨k,h1,h2,h3,h4⟩
  ·cases hp : p n with
   | true =>
    refine .inr ⟨n,by omega,hp,?_,fun m hm hpm => ?_⟩
    ·unfold bF; rw [h1,hp]; simp
    ·rcases Nat.lt_or_ge m n with h | h
     ·rw [h2 m h] at hpm; cases hpm
     ·obtain rfl : m = n:=by omega
      exact Int.le_refl _
   | false =>
    refine .inl ⟨?_,fun m hm => ?_⟩
    ·unfold bF; rw [hp]; simpa using h1
    ·rcases Nat.lt_or_ge m n with h | h
     ·exact h2 m h
     ·obtain rfl : m = n:=by omega
      exact hp
  ·have hk:=h0 k
   cases hp : p n with
   | true =>
    by_cases hc : c n < c k
    ·refine .inr ⟨n,by omega,hp,?_,fun m hm hpm => ?_⟩
     ·unfold bF; rw [h3,hp,decide_eq_true hc]; simp
     ·rcases Nat.lt_or_ge m n with h | h
      ·have:=h4 m h hpm; omega
      ·obtain rfl : m = n:=by omega
       exact Int.le_refl _
    ·refine .inr ⟨k,by omega,h2,?_,fun m hm hpm => ?_⟩
     ·unfold bF; rw [h3,hp,decide_eq_false hc,decide_eq_false (by omega)]; simp
     ·rcases Nat.lt_or_ge m n with h | h
      ·exact h4 m h hpm
      ·obtain rfl : m = n:=by omega
       omega
   | false =>
    refine .inr ⟨k,by omega,h2,?_,fun m hm hpm => ?_⟩
    ·unfold bF; rw [hp]; simpa using h3
    ·rcases Nat.lt_or_ge m n with h | h
     ·exact h4 m h hpm
     ·obtain rfl : m = n:=by omega
      rw [hp] at hpm; cases hpm
theorem bF_same {p q : Nat → Bool} {c : Nat → Int} {n : Nat} (h0 : ∀ m,0 ≤ c m) (h1 : ∀ m,m < n → q m = true → p m = true) (h2 : ∀ m,m < n → p m = true → ∃ k,k < n ∧ q k = true ∧ c k ≤ c m) : bF p c n = bF q c n:=by
 rcases bF_is (p:=p) h0 n with ⟨a1,a2⟩ | ⟨k,a1,a2,a3,a4⟩ <;> rcases bF_is (p:=q) h0 n with ⟨b1,b2⟩ | ⟨j,b1,b2,b3,b4⟩
 ·rw [a1,b1]
 ·have:=a2 j b1; rw [h1 j b1 b2] at this; cases this
 ·obtain ⟨i,i1,i2,_⟩:=h2 k a1 a2
  rw [b2 i i1] at i2; cases i2
 ·obtain ⟨i,i1,i2,i3⟩:=h2 k a1 a2
  have h3:=b4 i i1 i2
  have h4:=a4 j b1 (h1 j b1 b2)
  rw [a3,b3]; omega
theorem bits_ex (f : Nat → Bool) : ∀ n,∃ m,m < 2 ^ n ∧ ∀ k,k < n → m.testBit k = f k
 | 0 => ⟨0,by simp,fun k h => by omega⟩
 | n + 1 => by
  obtain ⟨m,h1,h2⟩:=bits_ex f n
  cases hf : f n with
  | true =>
   refine ⟨2 ^ n + m,by rw [Nat.pow_succ]; omega,fun k hk => ?_⟩
   rcases Nat.lt_or_ge k n with h | h
   ·rw [Nat.testBit_two_pow_add_gt h]; exact h2 k h
   ·obtain rfl : k = n:=by omega
    rw [Nat.testBit_two_pow_add_eq,Nat.testBit_lt_two_pow h1,hf]; rfl
  | false =>
   refine ⟨m,by rw [Nat.pow_succ]; omega,fun k hk => ?_⟩
   rcases Nat.lt_or_ge k n with h | h
   ·exact h2 k h
   ·obtain rfl : k = n:=by omega
    rw [Nat.testBit_lt_two_pow h1,hf]
theorem msk_bit {m k : Nat} : msk m k = m.testBit k:=by rw [Nat.testBit_eq_decide_div_mod_eq]; rfl
def dropN (X : List Int) : Nat:=X.foldl (fun d k => d ||| 2 ^ k.toNat) 0
theorem dropN_snoc {X : List Int} {k : Int} : dropN (X ++ [k]) = dropN X ||| 2 ^ k.toNat:=by simp [dropN]
theorem dropN_bit {i : Nat} (X : List Int) : (∀ x ∈ X,0 ≤ x) → (dropN X).testBit i = decide ((i : Int) ∈ X):=by
 refine rev_ind (Q:=fun (X : List Int) => (∀ x ∈ X,0 ≤ x) → (dropN X).testBit i = decide ((i : Int) ∈ X)) (fun _ => by simp [dropN]) (fun X k ih h => ?_) X
 have ih:=ih fun x hx => h x (by simp [hx])
 have hk:=h k (by simp)
 rw [dropN_snoc,Nat.testBit_or,ih,Nat.testBit_two_pow,Bool.eq_iff_iff,Bool.or_eq_true,decide_eq_true_eq,decide_eq_true_eq,decide_eq_true_eq,List.mem_append,List.mem_singleton]
 constructor
 ·rintro (h | h)
  ·exact .inl h
  ·exact .inr (by omega)
 ·rintro (h | h)
  ·exact .inl h
  ·exact .inr (by omega)
theorem dropN_lt {n : Nat} (X : List Int) : (∀ x ∈ X,0 ≤ x ∧ x < n) → dropN X < 2 ^ n:=by
 refine rev_ind (Q:=fun (X : List Int) => (∀ x ∈ X,0 ≤ x ∧ x < n) → dropN X < 2 ^ n) (fun _ => Nat.two_pow_pos n) (fun X k ih h => ?_) X
 have hk:=h k (by simp)
 rw [dropN_snoc]
 exact Nat.or_lt_two_pow (ih fun x hx => h x (by simp [hx])) (Nat.pow_lt_pow_right (by omega) (by omega))
theorem drop_zero {m n : Nat} {X : List Int} (hX : ∀ x ∈ X,0 ≤ x ∧ x < n) : (m &&& dropN X = 0) ↔ ∀ k : Nat,(k : Int) ∈ X → m.testBit k = false:=by
 have hb:=fun i => dropN_bit (i:=i) X fun x hx => (hX x hx).1
 constructor
 ·intro h k hk
  have h1 : (m &&& dropN X).testBit k = false:=by rw [h]; simp
  rw [Nat.testBit_and,hb,decide_eq_true hk,Bool.and_true] at h1
  exact h1
 ·intro h
  apply Nat.eq_of_testBit_eq
  intro i
  rw [Nat.testBit_and,hb,Nat.zero_testBit]
  by_cases hi : (i : Int) ∈ X
  ·rw [h i hi]; rfl
  ·rw [decide_eq_false hi,Bool.and_false]
/-! ### a stand-in that no other stands for -/
def muD (L : List SetD) (T : List Bool) (a : Nat) : Nat:=((costN L a).toNat * (T.length + 1) + (T.length - (lkN L T a).count true)) * L.length + a
theorem sub_cnt {L : List SetD} {T : List Bool} {a b : Nat} (ha : a < L.length) (hb : b < L.length) (h : ∀ e : Nat,T.getD e false = true → hasE L[b] e = true → hasE L[a] e = true) : (lkN L T b).count true ≤ (lkN L T a).count true :=
 (cnt_lt (lkN L T a) (lkN L T b) (by rw [lkN_eq ha,lkN_eq hb,lkB_len,lkB_len]) fun j hj => by
  rw [lkN_eq hb,lkB_get,Bool.and_eq_true] at hj
  rw [lkN_eq ha,lkB_get,hj.1,h j hj.1 hj.2]; rfl).1
theorem mu_lt {L : List SetD} {T : List Bool} {n a b : Nat} (hD : DOk n L) (ha : a < L.length) (hb : b < L.length) (h : stB L T a b = true) : muD L T a < muD L T b ∧ (∀ e : Nat,T.getD e false = true → hasE L[b] e = true → hasE L[a] e = true) ∧ costN L a ≤ costN L b:=by
 unfold stB at h
 simp only [Bool.and_eq_true,Bool.or_eq_true,decide_eq_true_eq] at h
 obtain ⟨h1,h2,h3,h4⟩:=h
 have hs:=(subL_iff ha hb).1 h2
 refine ⟨?_,hs,h3⟩
 have hc:=sub_cnt ha hb hs
 have ha0:=(hD.cost L[a] (List.getElem_mem ha)).1
 have hb0:=(hD.cost L[b] (List.getElem_mem hb)).1
 rw [← costN_eq ha] at ha0
 rw [← costN_eq hb] at hb0
 have hcb : (lkN L T b).count true ≤ T.length:=by
  have:=List.count_le_length (a:=true) (l:=lkN L T b)
  rw [lkN_eq hb,lkB_len] at this; rw [lkN_eq hb]; exact this
 have hca : (lkN L T a).count true ≤ T.length:=by
  have:=List.count_le_length (a:=true) (l:=lkN L T a)
  rw [lkN_eq ha,lkB_len] at this; rw [lkN_eq ha]; exact this
 unfold muD
 generalize (lkN L T a).count true = na at *
 generalize (lkN L T b).count true = nb at *
 obtain ⟨x,hx⟩ : ∃ x : Nat,costN L a = x:=⟨(costN L a).toNat,by omega⟩
 obtain ⟨y,hy⟩ : ∃ y : Nat,costN L b = y:=⟨(costN L b).toNat,by omega⟩
 rw [hx,hy] at h3 h4
 rw [hx,hy,Int.toNat_natCast,Int.toNat_natCast]
 have key : ∀ u v : Nat,u < v → u * L.length + a < v * L.length + b:=fun u v huv => by
  have : (u + 1) * L.length ≤ v * L.length:=Nat.mul_le_mul_right _ huv
  rw [Nat.succ_mul] at this; omega
 by_cases hxy : x < y
 ·refine key _ _ ?_
  have : (x + 1) * (T.length + 1) ≤ y * (T.length + 1):=Nat.mul_le_mul_right _ hxy
  rw [Nat.succ_mul] at this; omega
 ·obtain rfl : x = y:=by omega
  by_cases hn : nb < na
  ·exact key _ _ (by omega)
  ·obtain rfl : na = nb:=by omega
   have : a < b:=by omega
   omega
theorem rep_ex {L : List SetD} {T : List Bool} {n : Nat} (hD : DOk n L) : ∀ (m b : Nat) (hb : b < L.length),muD L T b < m → ∃ a,∃ h : a < L.length,needB L T a = false ∧ (∀ e : Nat,T.getD e false = true → hasE L[b] e = true → hasE L[a] e = true) ∧ costN L a ≤ costN L b
 | 0,_,_,h => by omega
 | m + 1,b,hb,h => by
  cases hn : needB L T b with
  | false => exact ⟨b,hb,hn,fun _ _ h => h,Int.le_refl _⟩
  | true =>
   obtain ⟨a,ha,hs⟩:=List.any_eq_true.1 hn
   have ha:=List.mem_range.1 ha
   obtain ⟨h1,h2,h3⟩:=mu_lt hD ha hb hs
   obtain ⟨c,hc,i1,i2,i3⟩:=rep_ex (T:=T) hD m a ha (by omega)
   exact ⟨c,hc,i1,fun e he hbe => i2 e he (h2 e he hbe),by omega⟩
theorem cost_or {L : List SetD} {n : Nat} {b b' : Nat → Bool} {r : Nat} (hD : DOk n L) (hr : r < L.length) (h : ∀ a,b' a = true → b a = true ∨ a = r) : ∀ k,k ≤ L.length → costM L b' k ≤ costM L b k + if r < k then costN L r else 0
 | 0,_ => by simp [costM]
 | k + 1,hk => by
  have ih:=cost_or hD hr h k (by omega)
  have hc:=(hD.cost L[k] (List.getElem_mem (by omega))).1
  have hcr:=(hD.cost L[r] (List.getElem_mem hr)).1
  rw [← costN_eq hr] at hcr
  unfold costM
  rw [List.getElem?_eq_getElem (show k < L.length by omega)]
  show (if b' k = true then costM L b' k + L[k].cost else costM L b' k) ≤ (if b k = true then costM L b k + L[k].cost else costM L b k) + _
  by_cases hkr : k = r
  ·subst hkr
   rw [if_neg (by omega)] at ih
   rw [if_pos (show k < k + 1 by omega),costN_eq hr]
   split <;> split <;> omega
  ·have hlt : (r < k + 1) ↔ r < k:=by omega
   by_cases hb : b' k = true
   ·rcases h k hb with hh | hh
    ·rw [if_pos hb,if_pos hh]
     split at ih <;> split <;> omega
    ·exact absurd hh hkr
   ·rw [if_neg hb]
    by_cases hrk : r < k
    ·rw [if_pos hrk] at ih; rw [if_pos (hlt.2 hrk)]; split <;> omega
    ·rw [if_neg hrk] at ih; rw [if_neg fun h => hrk (hlt.1 h)]; split <;> omega
theorem lean_cost {L : List SetD} {n : Nat} {b : Nat → Bool} {rep : Nat → Nat} (hD : DOk n L) (hr : ∀ i,i < L.length → rep i < L.length ∧ costN L (rep i) ≤ costN L i) : ∀ k,k ≤ L.length → costM L (fun a => (List.range k).any fun i => b i && decide (rep i = a)) L.length ≤ costM L b k
 | 0,_ => by
  have : ∀ m,costM L (fun a => (List.range 0).any fun i => b i && decide (rep i = a)) m = 0:=fun m => by
   induction m with
   | zero => rfl
   | succ m ih => unfold costM; rw [ih]; simp
  rw [this]; simp [costM]
 | k + 1,hk => by
  have ih:=lean_cost (b:=b) hD hr k (by omega)
  obtain ⟨h1,h2⟩:=hr k (by omega)
  have hce:=costN_eq (L:=L) (show k < L.length by omega)
  have hstep : costM L b (k + 1) = if b k = true then costM L b k + L[k].cost else costM L b k:=by
   rw [costM,List.getElem?_eq_getElem (show k < L.length by omega)]; rfl
  rw [hstep]
  by_cases hb : b k = true
  ·rw [if_pos hb]
   have:=cost_or (b:=fun a => (List.range k).any fun i => b i && decide (rep i = a)) (b':=fun a => (List.range (k + 1)).any fun i => b i && decide (rep i = a)) hD h1 (fun a ha => by
    rw [List.range_succ,List.any_append,Bool.or_eq_true] at ha
    rcases ha with ha | ha
    ·exact .inl ha
    ·right; simp at ha; exact ha.2.symm) L.length (Nat.le_refl _)
   rw [if_pos h1] at this
   omega
  ·rw [if_neg hb]
   have : (fun a => (List.range (k + 1)).any fun i => b i && decide (rep i = a)) = fun a => (List.range k).any fun i => b i && decide (rep i = a):=by
    funext a
    rw [List.range_succ,List.any_append]
    cases hbk : b k with
    | true => exact absurd hbk hb
    | false => simp [hbk]
   rw [this]; exact ih
theorem costM_congr {L : List SetD} {b c : Nat → Bool} : ∀ k,(∀ i,i < k → b i = c i) → costM L b k = costM L c k
 | 0,_ => rfl
 | k + 1,h => by
  unfold costM
  rw [costM_congr k fun i hi => h i (by omega),h k (by omega)]
theorem lean_ex {L : List SetD} {T : List Bool} {n m : Nat} (hD : DOk n L) (hz : (wipeM L T (msk m) L.length).count true = 0) : ∃ m',m' < 2 ^ L.length ∧ (wipeM L T (msk m') L.length).count true = 0 ∧ (∀ k,k < L.length → needB L T k = true → m'.testBit k = false) ∧ costM L (msk m') L.length ≤ costM L (msk m) L.length:=by
 have hrep : ∀ b,b < L.length → ∃ a,∃ h : a < L.length,needB L T a = false ∧ (∀ (hb : b < L.length) (e : Nat),T.getD e false = true → hasE L[b] e = true → hasE L[a] e = true) ∧ costN L a ≤ costN L b:=fun b hb => by
  obtain ⟨a,h1,h2,h3,h4⟩:=rep_ex (T:=T) hD (muD L T b + 1) b hb (by omega)
  exact ⟨a,h1,h2,fun _ => h3,h4⟩
 let rep : Nat → Nat:=fun b => if h : b < L.length then Classical.choose (hrep b h) else 0
 have hs : ∀ b (h : b < L.length),∃ h2 : rep b < L.length,needB L T (rep b) = false ∧ (∀ (hb : b < L.length) (e : Nat),T.getD e false = true → hasE L[b] e = true → hasE L[rep b] e = true) ∧ costN L (rep b) ≤ costN L b:=fun b h => by
  have:=Classical.choose_spec (hrep b h)
  have he : rep b = Classical.choose (hrep b h):=dif_pos h
  rw [he]; exact this
 clear_value rep
 have hcost:=lean_cost (b:=msk m) (rep:=rep) hD (fun i hi => by obtain ⟨h1,_,_,h2⟩:=hs i hi; exact ⟨h1,h2⟩) L.length (Nat.le_refl _)
 obtain ⟨m',h1,h2⟩:=bits_ex (fun a => (List.range L.length).any fun i => msk m i && decide (rep i = a)) L.length
 have hb : ∀ i,i < L.length → msk m' i = (List.range L.length).any fun j => msk m j && decide (rep j = i):=fun i hi => by rw [msk_bit]; exact h2 i hi
 refine ⟨m',h1,(wipeM_zero hD).2 fun e he => ?_,fun k hk hn => ?_,?_⟩
 ·obtain ⟨i,hi,hbi,hh⟩:=(wipeM_zero hD).1 hz e he
  obtain ⟨r1,r2,r3,r4⟩:=hs i hi
  refine ⟨rep i,r1,?_,r3 hi e he hh⟩
  rw [hb _ r1]
  exact List.any_eq_true.2 ⟨i,List.mem_range.2 hi,by rw [hbi]; simp⟩
 ·rw [h2 k hk]
  cases hh : (List.range L.length).any fun i => msk m i && decide (rep i = k) with
  | false => rfl
  | true =>
   obtain ⟨i,hi,hx⟩:=List.any_eq_true.1 hh
   simp at hx
   obtain ⟨_,r2,_⟩:=hs i (List.mem_range.1 hi)
   rw [hx.2,hn] at r2; cases r2
 ·rw [costM_congr L.length hb]; exact hcost
theorem two_cnt {L : List SetD} {e i k : Nat} (hik : i < k) (hk : k < L.length) (h1 : hasE (L[i]'(by omega)) e = true) (h2 : hasE L[k] e = true) : 2 ≤ cntE L e:=by
 have hi : i < (L.take k).length:=by rw [List.length_take]; omega
 have hp:=cntE_pos (L:=L.take k) (e:=e) hi (by rw [List.getElem_take]; exact h1)
 have hs:=cntE_take (L:=L) (e:=e) hk
 rw [h2,if_pos rfl] at hs
 have hle : cntE (L.take (k + 1)) e ≤ cntE L e:=by
  unfold cntE
  exact ((List.take_sublist (k + 1) L).filter _).length_le
 omega
theorem ess_in {L : List SetD} {T : List Bool} {n m k : Nat} (hD : DOk n L) (hz : (wipeM L T (msk m) L.length).count true = 0) (hk : k < L.length) (he : essB L T k = true) : msk m k = true:=by
 rw [essB_eq hk] at he
 obtain ⟨e,_,hh⟩:=List.any_eq_true.1 he
 simp only [Bool.and_eq_true,decide_eq_true_eq] at hh
 obtain ⟨⟨h1,h2⟩,h3⟩:=hh
 obtain ⟨i,hi,hb,hx⟩:=(wipeM_zero hD).1 hz e h1
 rcases Nat.lt_trichotomy i k with h | h | h
 ·have:=two_cnt h hk hx h2; omega
 ·subst h; exact hb
 ·have:=two_cnt h hi h2 hx; omega
end Go.Abs
