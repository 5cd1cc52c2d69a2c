/-
  PLAIN LAW: words of 64 bits: how many bits are set, which is the lowest, which is the highest, as the library's functions reckon it.
-/
import Derived.Test.YtejifalflkbekaaDoorWakes
import Derived.Test.YtejifalflkbekaaDoorA31
set_option linter.unusedSimpArgs false
set_option linter.unusedVariables false
namespace Go.Abs
def dig (B : Nat) : List Nat → Nat
 | [] => 0
 | d :: ds => d + B * dig B ds
theorem and_split (k x y a b : Nat) (hx : x < 2 ^ k) (ha : a < 2 ^ k) : (x + 2 ^ k * y) &&& (a + 2 ^ k * b) = (x &&& a) + 2 ^ k * (y &&& b):=by
 have hxa : x &&& a < 2 ^ k:=Nat.and_lt_two_pow x ha
 apply Nat.eq_of_testBit_eq
 intro i
 rw [Nat.testBit_and,Nat.add_comm x,Nat.add_comm a,Nat.add_comm (x &&& a),Nat.testBit_two_pow_mul_add _ hx,Nat.testBit_two_pow_mul_add _ ha,Nat.testBit_two_pow_mul_add _ hxa]
 split <;> simp [Nat.testBit_and]
theorem and_low (k x : Nat) : x &&& (2 ^ k - 1) = x % 2 ^ k:=Nat.and_two_pow_sub_one_eq_mod x k
theorem halves (k : Nat) : ∀ (l : List (Nat × Nat)),(∀ p ∈ l,p.1 < 2 ^ k ∧ p.2 < 2 ^ k) →
  (dig (2 ^ (2 * k)) (l.map fun p => p.1 + 2 ^ k * p.2) / 2 ^ k &&& dig (2 ^ (2 * k)) (l.map fun _ => 2 ^ k - 1)) + (dig (2 ^ (2 * k)) (l.map fun p => p.1 + 2 ^ k * p.2) &&& dig (2 ^ (2 * k)) (l.map fun _ => 2 ^ k - 1)) = dig (2 ^ (2 * k)) (l.map fun p => p.1 + p.2)
 | [],_ => by simp [dig]
 | (a,b) :: l,h => by
  have ih:=halves k l fun p hp => h p (by simp [hp])
  obtain ⟨ha,hb⟩:=h (a,b) (by simp)
  simp only [List.map_cons,dig] at *
  generalize dig (2 ^ (2 * k)) (l.map fun p => p.1 + 2 ^ k * p.2) = X at *
  generalize dig (2 ^ (2 * k)) (l.map fun _ => 2 ^ k - 1) = M at *
  generalize dig (2 ^ (2 * k)) (l.map fun p => p.1 + p.2) = R at *
  have hp : 0 < 2 ^ k:=Nat.two_pow_pos k
  have hkk : 2 ^ (2 * k) = 2 ^ k * 2 ^ k:=by rw [Nat.two_mul,Nat.pow_add]
  have hlt : a + 2 ^ k * b < 2 ^ (2 * k):=by
   rw [hkk]
   calc a + 2 ^ k * b < 2 ^ k + 2 ^ k * b:=by omega
    _ = 2 ^ k * (b + 1):=by rw [Nat.mul_add,Nat.mul_one,Nat.add_comm]
    _ ≤ 2 ^ k * 2 ^ k:=Nat.mul_le_mul_left _ (by omega)
  have hM : 2 ^ k - 1 < 2 ^ (2 * k):=by rw [hkk]; have : 2 ^ k ≤ 2 ^ k * 2 ^ k:=Nat.le_mul_of_pos_left _ hp; omega
  have h2 : a + 2 ^ k * b + 2 ^ (2 * k) * X &&& 2 ^ k - 1 + 2 ^ (2 * k) * M = a + 2 ^ (2 * k) * (X &&& M):=by
   rw [and_split _ _ _ _ _ hlt hM,and_low,Nat.add_mul_mod_self_left,Nat.mod_eq_of_lt ha]
  have h3 : (a + 2 ^ k * b + 2 ^ (2 * k) * X) / 2 ^ k = (b + 2 ^ k * (X % 2 ^ k)) + 2 ^ (2 * k) * (X / 2 ^ k):=by
   have e1 : a + 2 ^ k * b + 2 ^ (2 * k) * X = a + 2 ^ k * (b + 2 ^ k * X):=by rw [hkk,Nat.mul_add,Nat.mul_assoc]; omega
   rw [e1,Nat.add_mul_div_left _ _ hp,Nat.div_eq_of_lt ha,hkk]
   have e2:=Nat.div_add_mod X (2 ^ k)
   have e3 : 2 ^ k * X = 2 ^ k * (2 ^ k * (X / 2 ^ k)) + 2 ^ k * (X % 2 ^ k):=by rw [← Nat.mul_add,e2]
   rw [Nat.mul_assoc]; omega
  have hlt2 : b + 2 ^ k * (X % 2 ^ k) < 2 ^ (2 * k):=by
   have hm : X % 2 ^ k < 2 ^ k:=Nat.mod_lt _ hp
   rw [hkk]
   calc b + 2 ^ k * (X % 2 ^ k) < 2 ^ k + 2 ^ k * (X % 2 ^ k):=by omega
    _ = 2 ^ k * (X % 2 ^ k + 1):=by rw [Nat.mul_add,Nat.mul_one,Nat.add_comm]
    _ ≤ 2 ^ k * 2 ^ k:=Nat.mul_le_mul_left _ (by omega)
  rw [h2,h3,and_split _ _ _ _ _ hlt2 hM,and_low,Nat.add_mul_mod_self_left,Nat.mod_eq_of_lt hb]
  have h4 : 2 ^ (2 * k) * (X / 2 ^ k &&& M) + 2 ^ (2 * k) * (X &&& M) = 2 ^ (2 * k) * R:=by rw [← Nat.mul_add,ih]
  omega
theorem low (k : Nat) : ∀ (l : List (Nat × Nat)),(∀ p ∈ l,p.1 < 2 ^ k ∧ p.2 < 2 ^ k) →
  dig (2 ^ (2 * k)) (l.map fun p => p.1 + 2 ^ k * p.2) &&& dig (2 ^ (2 * k)) (l.map fun _ => 2 ^ k - 1) = dig (2 ^ (2 * k)) (l.map fun p => p.1)
 | [],_ => by simp [dig]
 | (a,b) :: l,h => by
  have ih:=low k l fun p hp => h p (by simp [hp])
  obtain ⟨ha,hb⟩:=h (a,b) (by simp)
  simp only [List.map_cons,dig] at *
  have hp : 0 < 2 ^ k:=Nat.two_pow_pos k
  have hkk : 2 ^ (2 * k) = 2 ^ k * 2 ^ k:=by rw [Nat.two_mul,Nat.pow_add]
  have hlt : a + 2 ^ k * b < 2 ^ (2 * k):=by
   rw [hkk]
   calc a + 2 ^ k * b < 2 ^ k + 2 ^ k * b:=by omega
    _ = 2 ^ k * (b + 1):=by rw [Nat.mul_add,Nat.mul_one,Nat.add_comm]
    _ ≤ 2 ^ k * 2 ^ k:=Nat.mul_le_mul_left _ (by omega)
  have hM : 2 ^ k - 1 < 2 ^ (2 * k):=by rw [hkk]; have : 2 ^ k ≤ 2 ^ k * 2 ^ k:=Nat.le_mul_of_pos_left _ hp; omega
  rw [and_split _ _ _ _ _ hlt hM,and_low,Nat.add_mul_mod_self_left,Nat.mod_eq_of_lt ha,ih]
def digs (B : Nat) : Nat → Nat → List Nat
 | 0,_ => []
 | n + 1,x => x % B :: digs B n (x / B)
theorem digs_length (B : Nat) : ∀ n x,(digs B n x).length = n
 | 0,_ => rfl
 | n + 1,x => by simp [digs,digs_length B n]
theorem digs_lt (B : Nat) (hB : 0 < B) : ∀ n x,∀ d ∈ digs B n x,d < B
 | 0,_,d,h => by simp [digs] at h
 | n + 1,x,d,h => by
  simp only [digs,List.mem_cons] at h
  rcases h with rfl | h
  ·exact Nat.mod_lt _ hB
  ·exact digs_lt B hB n _ d h
theorem dig_digs (B : Nat) : ∀ n x,x < B ^ n → dig B (digs B n x) = x
 | 0,x,h => by simp at h; simp [digs,dig,h]
 | n + 1,x,h => by
  have : x / B < B ^ n:=by
   rw [Nat.pow_succ,Nat.mul_comm] at h
   exact Nat.div_lt_of_lt_mul h
  simp only [digs,dig,dig_digs B n _ this]
  exact Nat.mod_add_div x B
def pairUp : List Nat → List (Nat × Nat)
 | a :: b :: l => (a,b) :: pairUp l
 | _ => []
theorem dig_pair (B : Nat) : ∀ (n : Nat) (l : List Nat),l.length = 2 * n → dig B l = dig (B * B) ((pairUp l).map fun p => p.1 + B * p.2) ∧ ((pairUp l).map fun p => p.1 + p.2).sum = l.sum ∧ (pairUp l).length = n ∧ ∀ c,(∀ d ∈ l,d < c) → ∀ p ∈ pairUp l,p.1 < c ∧ p.2 < c
 | 0,l,h => by
  have : l = []:=by simpa using h
  subst this
  simp [pairUp,dig]
 | n + 1,[],h => by simp at h
 | n + 1,[a],h => by simp at h; omega
 | n + 1,a :: b :: l,h => by
  obtain ⟨h1,h2,h3,h4⟩:=dig_pair B n l (by simp at h; omega)
  refine ⟨?_,?_,by simp [pairUp,h3],?_⟩
  ·simp only [pairUp,List.map_cons,dig,h1,Nat.mul_add,Nat.mul_assoc,Nat.add_assoc]
  ·simp only [pairUp,List.map_cons,List.sum_cons,h2,Nat.add_assoc]
  ·intro c hc p hp
   simp only [pairUp,List.mem_cons] at hp
   rcases hp with rfl | hp
   ·exact ⟨hc a (by simp),hc b (by simp)⟩
   ·exact h4 c (fun d hd => hc d (by simp [hd])) p hp
def cntN (x : Nat) : Nat:=(digs 2 64 x).sum
theorem mask (B c n m : Nat) (l : List (Nat × Nat)) (hl : l.length = n) (h : dig B (List.replicate n c) = m) : dig B (l.map fun _ => c) = m:=by
 rw [← h,← hl,List.map_const']
theorem step_of (B : Nat) (k n m : Nat) (hB : 2 ^ k = B) (l : List Nat) (hl : l.length = 2 * n) (hb : ∀ d ∈ l,d < 2 ^ k) (hm : dig (B * B) (List.replicate n (B - 1)) = m) :
  (dig B l / B &&& m) + (dig B l &&& m) = dig (B * B) ((pairUp l).map fun p => p.1 + p.2):=by
 subst hB
 obtain ⟨a1,a2,a3,a4⟩:=dig_pair (2 ^ k) n l hl
 have hkk : 2 ^ k * 2 ^ k = 2 ^ (2 * k):=by rw [Nat.two_mul,Nat.pow_add]
 have b0:=halves k (pairUp l) (fun p hp => a4 _ hb p hp)
 rw [mask _ _ n m (pairUp l) a3 (by rw [← hkk]; exact hm),← hkk,← a1] at b0
 exact b0
theorem ones3 (n0 n1 n2 n3 n4 n5 n6 n7 n8 n9 n10 n11 n12 n13 n14 n15 x2 : Nat) (hb2 : ∀ d ∈ [n0,n1,n2,n3,n4,n5,n6,n7,n8,n9,n10,n11,n12,n13,n14,n15],d ≤ 4) (hx2 : x2 = dig 16 [n0,n1,n2,n3,n4,n5,n6,n7,n8,n9,n10,n11,n12,n13,n14,n15]) :
  (x2 / 16 + x2) &&& 1085102592571150095 = dig 256 [n0 + n1,n2 + n3,n4 + n5,n6 + n7,n8 + n9,n10 + n11,n12 + n13,n14 + n15] ∧ x2 < 2 ^ 64 ∧ x2 / 16 + x2 < 2 ^ 64:=by
 simp only [List.mem_cons,List.not_mem_nil,or_false,forall_eq_or_imp,forall_eq] at hb2
 have e3 : x2 / 16 + x2 = dig 256 ([(n0 + n1,n1 + n2),(n2 + n3,n3 + n4),(n4 + n5,n5 + n6),(n6 + n7,n7 + n8),(n8 + n9,n9 + n10),(n10 + n11,n11 + n12),(n12 + n13,n13 + n14),(n14 + n15,n15)].map fun p => p.1 + 16 * p.2):=by
  simp only [dig] at hx2
  simp only [dig,List.map_cons,List.map_nil]
  omega
 have hlow:=low 4 [(n0 + n1,n1 + n2),(n2 + n3,n3 + n4),(n4 + n5,n5 + n6),(n6 + n7,n7 + n8),(n8 + n9,n9 + n10),(n10 + n11,n11 + n12),(n12 + n13,n13 + n14),(n14 + n15,n15)]
  (by simp only [List.mem_cons,List.not_mem_nil,or_false,forall_eq_or_imp,forall_eq]; omega)
 rw [mask _ _ 8 1085102592571150095 _ rfl (by simp [dig,List.replicate])] at hlow
 have hlt : x2 < 2 ^ 64 ∧ x2 / 16 + x2 < 2 ^ 64:=by
  simp only [dig] at hx2
  constructor <;> omega
 refine ⟨?_,hlt⟩
 rw [e3]
 exact hlow
theorem dig_add (B : Nat) : ∀ (l m : List Nat),l.length = m.length → dig B l + dig B m = dig B (List.zipWith (· + ·) l m)
 | [],[],_ => rfl
 | [],_ :: _,h => by simp at h
 | _ :: _,[],h => by simp at h
 | a :: l,b :: m,h => by
  have:=dig_add B l m (by simpa using h)
  simp only [dig,List.zipWith_cons_cons,← this,Nat.mul_add]
  omega
theorem dig_lt (B : Nat) : ∀ (l : List Nat),(∀ d ∈ l,d < B) → dig B l < B ^ l.length
 | [],_ => by simp [dig]
 | a :: l,h => by
  have h1:=dig_lt B l fun d hd => h d (by simp [hd])
  have h2:=h a (by simp)
  simp only [dig,List.length_cons,Nat.pow_succ]
  calc a + B * dig B l < B + B * dig B l:=by omega
   _ = B * (dig B l + 1):=by rw [Nat.mul_add,Nat.mul_one,Nat.add_comm]
   _ ≤ B * B ^ l.length:=Nat.mul_le_mul_left _ h1
   _ = B ^ l.length * B:=Nat.mul_comm _ _
theorem dig_append (B : Nat) : ∀ (l m : List Nat),dig B (l ++ m) = dig B l + B ^ l.length * dig B m
 | [],m => by simp [dig]
 | a :: l,m => by
  simp only [List.cons_append,dig,dig_append B l m,List.length_cons,Nat.pow_succ,Nat.mul_add]
  rw [Nat.add_assoc,Nat.mul_comm (B ^ l.length) B,Nat.mul_assoc]
theorem dig_div (B : Nat) (l m : List Nat) (n : Nat) (hl : ∀ d ∈ l,d < B) (k : Nat) (hk : l.length = k) (hn : B ^ k = n) : dig B (l ++ m) / n = dig B m:=by
 subst hk
 subst hn
 have h:=dig_lt B l hl
 rw [dig_append,Nat.add_mul_div_left _ _ (by omega),Nat.div_eq_of_lt h,Nat.zero_add]
theorem dig_zero (B : Nat) (l : List Nat) : dig B (l ++ [0]) = dig B l:=by rw [dig_append]; simp [dig]
theorem dig_lt8 (l : List Nat) (h8 : l.length = 8) (h : ∀ d ∈ l,d < 256) : dig 256 l < 2 ^ 64:=by
 have:=dig_lt 256 l h
 rw [h8] at this
 exact Nat.lt_of_lt_of_eq this (by decide)
theorem ones4 (s0 s1 s2 s3 s4 s5 s6 s7 x3 x4 x5 x6 : Nat) (hb : ∀ d ∈ [s0,s1,s2,s3,s4,s5,s6,s7],d ≤ 8) (hx3 : x3 = dig 256 [s0,s1,s2,s3,s4,s5,s6,s7]) (h4 : x4 = x3 + x3 / 256) (h5 : x5 = x4 + x4 / 65536) (h6 : x6 = x5 + x5 / 4294967296) :
  x6 % 128 = s0 + s1 + s2 + s3 + s4 + s5 + s6 + s7 ∧ x4 < 2 ^ 64 ∧ x5 < 2 ^ 64 ∧ x6 < 2 ^ 63:=by
 simp only [List.mem_cons,List.not_mem_nil,or_false,forall_eq_or_imp,forall_eq] at hb
 have e4 : x4 = dig 256 [s0 + s1,s1 + s2,s2 + s3,s3 + s4,s4 + s5,s5 + s6,s6 + s7,s7 + 0]:=by
  have d : dig 256 [s0,s1,s2,s3,s4,s5,s6,s7] / 256 = dig 256 ([s1,s2,s3,s4,s5,s6,s7] ++ [0]):=by
   rw [dig_zero]; exact dig_div 256 [s0] [s1,s2,s3,s4,s5,s6,s7] 256 (by simp; omega) 1 rfl (by decide)
  rw [h4,hx3,d]
  exact dig_add 256 _ _ rfl
 have e5 : x5 = dig 256 [(s0 + s1) + (s2 + s3),(s1 + s2) + (s3 + s4),(s2 + s3) + (s4 + s5),(s3 + s4) + (s5 + s6),(s4 + s5) + (s6 + s7),(s5 + s6) + (s7 + 0),(s6 + s7) + 0,(s7 + 0) + 0]:=by
  have d : dig 256 [s0 + s1,s1 + s2,s2 + s3,s3 + s4,s4 + s5,s5 + s6,s6 + s7,s7 + 0] / 65536 = dig 256 (([s2 + s3,s3 + s4,s4 + s5,s5 + s6,s6 + s7,s7 + 0] ++ [0]) ++ [0]):=by
   rw [dig_zero,dig_zero]; exact dig_div 256 [s0 + s1,s1 + s2] [s2 + s3,s3 + s4,s4 + s5,s5 + s6,s6 + s7,s7 + 0] 65536 (by simp; omega) 2 rfl (by decide)
  rw [h5,e4,d]
  exact dig_add 256 _ _ rfl
 have e6 : x6 = dig 256 [((s0 + s1) + (s2 + s3)) + ((s4 + s5) + (s6 + s7)),((s1 + s2) + (s3 + s4)) + ((s5 + s6) + (s7 + 0)),((s2 + s3) + (s4 + s5)) + ((s6 + s7) + 0),((s3 + s4) + (s5 + s6)) + ((s7 + 0) + 0),((s4 + s5) + (s6 + s7)) + 0,((s5 + s6) + (s7 + 0)) + 0,((s6 + s7) + 0) + 0,((s7 + 0) + 0) + 0]:=by
  have d : dig 256 [(s0 + s1) + (s2 + s3),(s1 + s2) + (s3 + s4),(s2 + s3) + (s4 + s5),(s3 + s4) + (s5 + s6),(s4 + s5) + (s6 + s7),(s5 + s6) + (s7 + 0),(s6 + s7) + 0,(s7 + 0) + 0] / 4294967296 = dig 256 (((([(s4 + s5) + (s6 + s7),(s5 + s6) + (s7 + 0),(s6 + s7) + 0,(s7 + 0) + 0] ++ [0]) ++ [0]) ++ [0]) ++ [0]):=by
   rw [dig_zero,dig_zero,dig_zero,dig_zero]
   exact dig_div 256 [(s0 + s1) + (s2 + s3),(s1 + s2) + (s3 + s4),(s2 + s3) + (s4 + s5),(s3 + s4) + (s5 + s6)] [(s4 + s5) + (s6 + s7),(s5 + s6) + (s7 + 0),(s6 + s7) + 0,(s7 + 0) + 0] 4294967296 (by simp; omega) 4 rfl (by decide)
  rw [h6,e5,d]
  exact dig_add 256 _ _ rfl
 refine ⟨?_,?_,?_,?_⟩
 ·rw [e6]
  obtain ⟨T,hT⟩ : ∃ T,T = dig 256 [((s1 + s2) + (s3 + s4)) + ((s5 + s6) + (s7 + 0)),((s2 + s3) + (s4 + s5)) + ((s6 + s7) + 0),((s3 + s4) + (s5 + s6)) + ((s7 + 0) + 0),((s4 + s5) + (s6 + s7)) + 0,((s5 + s6) + (s7 + 0)) + 0,((s6 + s7) + 0) + 0,((s7 + 0) + 0) + 0]:=⟨_,rfl⟩
  rw [dig,← hT]
  clear hT e4 e5 e6
  omega
 ·rw [e4]; exact dig_lt8 _ rfl (by simp; omega)
 ·rw [e5]; exact dig_lt8 _ rfl (by simp; omega)
 ·rw [e6]; simp only [dig]; clear e4 e5 e6 h4 h5 h6 hx3; omega
theorem cons_of {l : List Nat} {n : Nat} (h : l.length = n + 1) : ∃ a t,l = a :: t ∧ t.length = n:=by
 cases l with
 | nil => simp at h
 | cons a t => exact ⟨a,t,rfl,by simpa using h⟩
set_option maxHeartbeats 1000000 in
theorem onesCount (x x1 x2 x3 x4 x5 x6 : Nat) (hx : x < 2 ^ 64) (h1 : x1 = (x / 2 &&& 6148914691236517205) + (x &&& 6148914691236517205))
  (h2 : x2 = (x1 / 4 &&& 3689348814741910323) + (x1 &&& 3689348814741910323)) (h3 : x3 = (x2 / 16 + x2) &&& 1085102592571150095) (h4 : x4 = x3 + x3 / 256) (h5 : x5 = x4 + x4 / 65536) (h6 : x6 = x5 + x5 / 4294967296) :
  x6 % 128 = cntN x ∧ x1 < 2 ^ 64 ∧ x2 < 2 ^ 64 ∧ x2 / 16 + x2 < 2 ^ 64 ∧ x4 < 2 ^ 64 ∧ x5 < 2 ^ 64 ∧ x6 < 2 ^ 63 ∧ cntN x ≤ 64:=by
 have hl0:=digs_length 2 64 x
 have hb0:=digs_lt 2 (by omega) 64 x
 obtain ⟨a1,a2,a3,a4⟩:=dig_pair 2 32 (digs 2 64 x) hl0
 have hx1:=step_of 2 1 32 6148914691236517205 rfl (digs 2 64 x) hl0 hb0 (by simp [dig,List.replicate])
 rw [dig_digs 2 64 x hx,← h1] at hx1
 have hx1lt : x1 < 2 ^ 64:=by
  have e1 : (x / 2 &&& 6148914691236517205) ≤ 6148914691236517205:=Nat.and_le_right
  have e2 : (x &&& 6148914691236517205) ≤ 6148914691236517205:=Nat.and_le_right
  omega
 have hlen1 : ((pairUp (digs 2 64 x)).map fun p => p.1 + p.2).length = 2 * 16:=by simpa using a3
 have hb1 : ∀ d ∈ ((pairUp (digs 2 64 x)).map fun p => p.1 + p.2),d < 3:=by
  intro d hd
  obtain ⟨p,hp,rfl⟩:=List.mem_map.1 hd
  have:=a4 2 hb0 p hp
  omega
 have hs1 : ((pairUp (digs 2 64 x)).map fun p => p.1 + p.2).sum = cntN x:=a2
 generalize ((pairUp (digs 2 64 x)).map fun p => p.1 + p.2) = L1 at hx1 hlen1 hb1 hs1
 clear a1 a2 a3 a4 hl0 hb0
 obtain ⟨c1,c2,c3,c4⟩:=dig_pair 4 16 L1 hlen1
 have hx2:=step_of 4 2 16 3689348814741910323 rfl L1 hlen1 (fun d hd => by have:=hb1 d hd; omega) (by simp [dig,List.replicate])
 rw [show dig 4 L1 = x1 from hx1.symm,← h2] at hx2
 have hsum : ((pairUp L1).map fun p => p.1 + p.2).sum = cntN x:=by rw [c2,hs1]
 have hb2 : ∀ d ∈ ((pairUp L1).map fun p => p.1 + p.2),d ≤ 4:=by
  intro d hd
  obtain ⟨p,hp,rfl⟩:=List.mem_map.1 hd
  have:=c4 3 hb1 p hp
  omega
 have hlen2 : ((pairUp L1).map fun p => p.1 + p.2).length = 16:=by simpa using c3
 generalize ((pairUp L1).map fun p => p.1 + p.2) = L2 at hx2 hsum hb2 hlen2
 clear c1 c2 c3 c4
 obtain ⟨n0,m0,rfl,k0⟩:=cons_of hlen2
 obtain ⟨n1,m1,rfl,k1⟩:=cons_of k0
 obtain ⟨n2,m2,rfl,k2⟩:=cons_of k1
 obtain ⟨n3,m3,rfl,k3⟩:=cons_of k2
 obtain ⟨n4,m4,rfl,k4⟩:=cons_of k3
 obtain ⟨n5,m5,rfl,k5⟩:=cons_of k4
 obtain ⟨n6,m6,rfl,k6⟩:=cons_of k5
 obtain ⟨n7,m7,rfl,k7⟩:=cons_of k6
 obtain ⟨n8,m8,rfl,k8⟩:=cons_of k7
 obtain ⟨n9,m9,rfl,k9⟩:=cons_of k8
 obtain ⟨n10,m10,rfl,k10⟩:=cons_of k9
 obtain ⟨n11,m11,rfl,k11⟩:=cons_of k10
 obtain ⟨n12,m12,rfl,k12⟩:=cons_of k11
 obtain ⟨n13,m13,rfl,k13⟩:=cons_of k12
 obtain ⟨n14,m14,rfl,k14⟩:=cons_of k13
 obtain ⟨n15,m15,rfl,k15⟩:=cons_of k14
 obtain rfl : m15 = []:=by simpa using k15
 obtain ⟨r1,r2,r3⟩:=ones3 n0 n1 n2 n3 n4 n5 n6 n7 n8 n9 n10 n11 n12 n13 n14 n15 x2 hb2 hx2
 simp only [List.mem_cons,List.not_mem_nil,or_false,forall_eq_or_imp,forall_eq] at hb2
 simp only [List.sum_cons,List.sum_nil] at hsum
 rw [← h3] at r1
 clear h1 h2 h3 hx2
 obtain ⟨s1,s2,s3,s4⟩:=ones4 _ _ _ _ _ _ _ _ x3 x4 x5 x6 (by simp only [List.mem_cons,List.not_mem_nil,or_false,forall_eq_or_imp,forall_eq]; omega) r1 h4 h5 h6
 clear r1 h4 h5 h6
 refine ⟨by omega,hx1lt,r2,r3,s2,s3,s4,by omega⟩
end Go.Abs
/-
 PLAIN LAW: a list of truths as words of 64 bits.
-/
set_option linter.unusedSimpArgs false
set_option linter.unusedVariables false
namespace Go.Abs
def nb : List Bool → Nat
 | [] => 0
 | b :: l => b.toNat + 2 * nb l
theorem nb_bit : ∀ (l : List Bool) (j : Nat),(nb l).testBit j = l.getD j false
 | [],j => by simp [nb]
 | b :: l,0 => by cases b <;> simp [nb,Nat.testBit_zero] <;> omega
 | b :: l,j + 1 => by
  have : (b.toNat + 2 * nb l) / 2 = nb l:=by cases b <;> simp <;> omega
  simp only [nb,Nat.testBit_succ,this,nb_bit l j,List.getD_cons_succ]
theorem nb_lt : ∀ (l : List Bool),nb l < 2 ^ l.length
 | [] => by simp [nb]
 | b :: l => by
  have:=nb_lt l
  simp only [nb,List.length_cons,Nat.pow_succ]
  cases b <;> simp <;> omega
theorem nb_sum (n : Nat) : ∀ (l : List Bool),l.length ≤ n → (digs 2 n (nb l)).sum = l.count true:=by
 induction n with
 | zero => intro l h; have : l = []:=by simpa using h
           subst this; simp [digs]
 | succ n ih =>
  intro l h
  cases l with
  | nil =>
   have:=ih [] (by simp)
   simp [nb] at this
   simp [nb,digs,this]
  | cons b l =>
   have:=ih l (by simpa using h)
   have e1 : (b.toNat + 2 * nb l) % 2 = b.toNat:=by cases b <;> simp <;> omega
   have e2 : (b.toNat + 2 * nb l) / 2 = nb l:=by cases b <;> simp <;> omega
   simp only [nb,digs,e1,e2,List.sum_cons,this]
   cases b <;> simp [Nat.add_comm]
theorem pow64 {i j : Nat} (h : i ≤ j) : 2 ^ i ≤ 2 ^ j:=Nat.pow_le_pow_right (by omega) h
theorem pow64' {j : Nat} (h : 64 ≤ j) : 18446744073709551616 ≤ 2 ^ j:=Nat.le_trans (by decide) (pow64 h)
def wb (B : List Bool) (k : Nat) : Nat:=nb ((B.drop (64 * k)).take 64)
theorem wb_lt (B : List Bool) (k : Nat) : wb B k < 18446744073709551616:=by
 have h:=nb_lt ((B.drop (64 * k)).take 64)
 have : ((B.drop (64 * k)).take 64).length ≤ 64:=by simp; omega
 exact Nat.lt_of_lt_of_le h (Nat.le_trans (pow64 this) (by decide))
theorem wb_bit (B : List Bool) (k j : Nat) (h : j < 64) : (wb B k).testBit j = B.getD (64 * k + j) false:=by
 rw [wb,nb_bit]
 simp only [List.getD_eq_getElem?_getD]
 rw [List.getElem?_take_of_lt h,List.getElem?_drop]
theorem wb_count (B : List Bool) (k : Nat) : cntN (wb B k) = ((B.drop (64 * k)).take 64).count true:=nb_sum 64 _ (by simp; omega)
theorem wb_high (B : List Bool) (k j : Nat) (h : 64 ≤ j) : (wb B k).testBit j = false :=
 Nat.testBit_lt_two_pow (Nat.lt_of_lt_of_le (wb_lt B k) (pow64' h) : wb B k < 2 ^ j)
theorem wb_eq {B : List Bool} {k x : Nat} (hx : x < 18446744073709551616) (h : ∀ j,j < 64 → x.testBit j = B.getD (64 * k + j) false) : x = wb B k:=by
 apply Nat.eq_of_testBit_eq
 intro j
 by_cases hj : j < 64
 ·rw [h j hj,wb_bit B k j hj]
 ·rw [wb_high B k j (by omega)]
  exact Nat.testBit_lt_two_pow (Nat.lt_of_lt_of_le hx (pow64' (by omega)) : x < 2 ^ j)
def nw (n : Nat) : Nat:=(n + 63) / 64
def words (B : List Bool) : List Nat:=(List.range (nw B.length)).map (wb B)
theorem words_length (B : List Bool) : (words B).length = nw B.length:=by simp [words]
theorem words_get (B : List Bool) (k : Nat) (h : k < nw B.length) : (words B)[k]? = some (wb B k):=by simp [words,h]
theorem words_ext {B : List Bool} {l : List Nat} (hl : l.length = nw B.length) (h : ∀ k (h : k < l.length),l[k] = wb B k) : l = words B:=by
 apply List.ext_getElem (by rw [words_length,hl])
 intro k h1 h2
 rw [h k h1]
 simp [words]
theorem getD_set (B : List Bool) (i j : Nat) (b : Bool) (h : i < B.length) : (B.set i b).getD j false = if j = i then b else B.getD j false:=by
 simp only [List.getD_eq_getElem?_getD,List.getElem?_set]
 by_cases hij : i = j
 ·subst hij; simp [h]
 ·simp [hij,Ne.symm hij]
theorem words_set (B : List Bool) (i x : Nat) (b : Bool) (h : i < B.length) (hx : x < 18446744073709551616)
  (hb : ∀ j,j < 64 → x.testBit j = if j = i % 64 then b else (wb B (i / 64)).testBit j) : (words B).set (i / 64) x = words (B.set i b):=by
 apply words_ext (by simp [words_length])
 intro k hk
 simp [words_length] at hk
 rw [List.getElem_set]
 split
 ·rename_i hik
  subst hik
  refine wb_eq hx fun j hj => ?_
  rw [hb j hj,getD_set B i _ b h,wb_bit _ _ _ hj]
  have:=Nat.div_add_mod i 64
  by_cases hj2 : j = i % 64
  ·rw [if_pos hj2,if_pos (by omega)]
  ·rw [if_neg hj2,if_neg (by omega)]
 ·rename_i hik
  simp only [words,List.getElem_map,List.getElem_range]
  refine wb_eq (wb_lt _ _) fun j hj => ?_
  rw [getD_set B i _ b h,wb_bit _ _ _ hj,if_neg]
  intro hc
  apply hik
  omega
theorem count_take (B : List Bool) (k : Nat) : (B.take (64 * (k + 1))).count true = (B.take (64 * k)).count true + cntN (wb B k):=by
 rw [wb_count,Nat.mul_add,Nat.mul_one,List.take_add,List.count_append]
end Go.Abs
/-
 Contracts of the library's functions on words of 64 bits.
-/
set_option maxRecDepth 100000
set_option linter.unusedSimpArgs false
set_option linter.unusedVariables false
namespace Go.Proofs.YtejifalflkbekaaDoor.Bs
open Go Go.Abs
theorem OnesCount64_spec {H : AH} {x : Nat} (hx : x < 18446744073709551616) : AFn Tryd.prog F_bits_OnesCount64 [uv x] H fun u H' => u = .int .i64 (cntN x) ∧ H' = H:=by
 refine AFn.enter mixed ir_bits_OnesCount64_eq (by simp [ir_bits_OnesCount64]) fun hw => ?_
 obtain ⟨x1,h1⟩ : ∃ x1,x1 = (x / 2 &&& 6148914691236517205) + (x &&& 6148914691236517205):=⟨_,rfl⟩
 obtain ⟨x2,h2⟩ : ∃ x2,x2 = (x1 / 4 &&& 3689348814741910323) + (x1 &&& 3689348814741910323):=⟨_,rfl⟩
 obtain ⟨x3,h3⟩ : ∃ x3,x3 = (x2 / 16 + x2) &&& 1085102592571150095:=⟨_,rfl⟩
 obtain ⟨x4,h4⟩ : ∃ x4,x4 = x3 + x3 / 256:=⟨_,rfl⟩
 obtain ⟨x5,h5⟩ : ∃ x5,x5 = x4 + x4 / 65536:=⟨_,rfl⟩
 obtain ⟨x6,h6⟩ : ∃ x6,x6 = x5 + x5 / 4294967296:=⟨_,rfl⟩
 obtain ⟨r,l1,l2,l3,l4,l5,l6,l7⟩:=onesCount x x1 x2 x3 x4 x5 x6 hx h1 h2 h3 h4 h5 h6
 have l8 : x3 < 18446744073709551616:=by rw [h3]; exact and_lt' l3
 have s1 : ∀ y,y < 18446744073709551616 → abin .shr (uv y) (uv 1) = some (uv (y / 2)):=fun y hy => uv_shr (n:=1) hy
 have s2 : ∀ y,y < 18446744073709551616 → abin .shr (uv y) (uv 2) = some (uv (y / 4)):=fun y hy => uv_shr (n:=2) hy
 have s4 : ∀ y,y < 18446744073709551616 → abin .shr (uv y) (uv 4) = some (uv (y / 16)):=fun y hy => uv_shr (n:=4) hy
 have s8 : ∀ y,y < 18446744073709551616 → abin .shr (uv y) (uv 8) = some (uv (y / 256)):=fun y hy => uv_shr (n:=8) hy
 have s16 : ∀ y,y < 18446744073709551616 → abin .shr (uv y) (uv 16) = some (uv (y / 65536)):=fun y hy => uv_shr (n:=16) hy
 have s32 : ∀ y,y < 18446744073709551616 → abin .shr (uv y) (uv 32) = some (uv (y / 4294967296)):=fun y hy => uv_shr (n:=32) hy
 simp (disch:=omega) [-getElem?_pos,ir_bits_OnesCount64,↓s1,↓s2,↓s4,↓s8,↓s16,↓s32,↓uv_and,↓uv_add,← h1,← h2,← h3,← h4,← h5,← h6]
 simp only [uv_def]
 have e : IntKind.i64.wrap (x6 : Int) = x6:=IntWalk.i64_in _ (by omega)
 have e2 : (BitVec.ofNat 64 x6 &&& 127#64).toNat = cntN x:=by
  rw [BitVec.toNat_and,BitVec.toNat_ofNat,BitVec.toNat_ofNat,Nat.mod_eq_of_lt (by omega),← r]
  exact Nat.and_two_pow_sub_one_eq_mod x6 7
 simp (disch:=omega) [-getElem?_pos,e,IntKind.bits,ofInt_nat]
 show IntKind.i64.wrap (((BitVec.ofNat 64 x6 &&& 127#64 : BitVec 64).toNat : Nat) : Int) = _
 rw [e2]
 exact IntWalk.i64_in _ (by omega)
end Go.Proofs.YtejifalflkbekaaDoor.Bs
/-
 Contracts of package bitset: a set of numbers is a list of truths.
-/
set_option maxRecDepth 100000
set_option linter.unusedSimpArgs false
set_option linter.unusedVariables false
namespace Go.Proofs.YtejifalflkbekaaDoor.Bs
open Go Go.Abs
def SetB (p : Nat → Prop) (H : AH) (v : Value) (B : List Bool) : Prop :=
 ∃ sl,v = .agg #[.int .i64 B.length,sl] ∧ Vw p H 1 sl (nw B.length) ((words B).map uv) ∧ B.length ≤ 4096
theorem SetB.kept {p : Nat → Prop} {H H' : AH} {v : Value} {B : List Bool} (h : SetB p H v B) (hw : WF H) (hk : Keep [] H H') : SetB p H' v B:=by
 obtain ⟨sl,h1,h2,h3⟩:=h
 exact ⟨sl,h1,h2.kept hw hk,h3⟩
theorem SetB.mono {p q : Nat → Prop} {H : AH} {v : Value} {B : List Bool} (h : SetB p H v B) (hpq : ∀ b,p b → q b) : SetB q H v B:=by
 obtain ⟨sl,h1,h2,h3⟩:=h
 exact ⟨sl,h1,h2.mono hpq,h3⟩
theorem SetB.over {p : Nat → Prop} {H H' : AH} {v : Value} {B : List Bool} (h : SetB p H v B) (hk : ∀ b,p b → H'.cells b = H.cells b) : SetB p H' v B:=by
 obtain ⟨sl,h1,h2,h3⟩:=h
 exact ⟨sl,h1,h2.over hk,h3⟩
def hasB (B : List Bool) (i : Int) : Bool:=decide (0 ≤ i) && B.getD i.toNat false
def setB (B : List Bool) (i : Int) (b : Bool) : List Bool:=if 0 ≤ i ∧ i < B.length then B.set i.toNat b else B
theorem SetB.same {p : Nat → Prop} {H H0 : AH} {v : Value} {B : List Bool} (h : SetB p H v B) (hs : SameC H H0) : SetB p H0 v B:=by
 obtain ⟨sl,h1,h2,h3⟩:=h
 exact ⟨sl,h1,h2.same hs,h3⟩
theorem _root_.Go.Abs.GroundA.same {G : GTab} {H H0 : AH} (h : GroundA G H) (hs : SameC H H0) : GroundA G H0:=h.of hs.2
theorem tq64 (m : Nat) : ((m : Int)).tdiv 64 = ((m / 64 : Nat) : Int):=by rw [Int.tdiv_eq_ediv_of_nonneg (by omega)]; norm_cast
theorem tr64 (m : Nat) : ((m : Int)).tmod 64 = ((m % 64 : Nat) : Int):=by rw [Int.tmod_eq_emod_of_nonneg (by omega)]; norm_cast
theorem nw_lt {m n : Nat} (h : m < n) : m / 64 < nw n:=by unfold nw; omega
theorem words_at {p : Nat → Prop} {H : AH} {sl : Value} {B : List Bool} (h : Vw p H 1 sl (nw B.length) ((words B).map uv)) (h0 : 0 < nw B.length) :
  ∃ b off sp cap cs,sl = .slice (some ⟨b,off,sp⟩) (nw B.length) cap ∧ H.cells b = some cs ∧ ∀ k,k < nw B.length → cs[off + k]? = some (uv (wb B k)):=by
 obtain ⟨b,off,sp,cap,cs,h1,h2,h3,h4,h5,h6,h7⟩:=h.at h0
 refine ⟨b,off,sp,cap,cs,h1,h4,fun k hk => ?_⟩
 rw [h6 k (by omega),List.getElem?_map,words_get B k hk]
 rfl
theorem within_spec {H : AH} {n i : Int} {sl : Value} (hsl : one sl = true) : AFn Tryd.prog F_bitset_Set_within [.agg #[.int .i64 n,sl],.int .i64 i] H fun u H' => u = .bool (decide (0 ≤ i ∧ i < n)) ∧ H' = H:=by
 refine AFn.calm (fun H hs => ?_) rfl
 refine AFn.enter mixed ir_bitset_Set_within_eq (by simp [ir_bitset_Set_within]) fun hw => ?_
 by_cases h1 : 0 ≤ i
 ·simp (disch:=omega) [-getElem?_pos,if_pos,if_neg,decide_eq_true,decide_eq_false,ir_bitset_Set_within]
 ·simp (disch:=omega) [-getElem?_pos,if_pos,if_neg,decide_eq_true,decide_eq_false,ir_bitset_Set_within]
theorem Size_spec {p : Nat → Prop} {H : AH} {v : Value} {B : List Bool} (h : SetB p H v B) : AFn Tryd.prog F_bitset_Set_Size [v] H fun u H' => u = .int .i64 B.length ∧ H' = H:=by
 obtain ⟨sl,rfl,h2,h3⟩:=h
 refine AFn.calm (fun H hs => ?_) rfl
 refine AFn.enter mixed ir_bitset_Set_Size_eq (by simp [ir_bitset_Set_Size]) fun hw => ?_
 simp (disch:=omega) [-getElem?_pos,if_pos,if_neg,decide_eq_true,decide_eq_false,ir_bitset_Set_Size]
theorem split64 {i : Int} {n : Nat} (h : 0 ≤ i ∧ i < n) : ∃ k r,i.tdiv 64 = ((k : Nat) : Int) ∧ i.tmod 64 = ((r : Nat) : Int) ∧ i.toNat = 64 * k + r ∧ r < 64 ∧ k < nw n:=by
 obtain ⟨m,rfl⟩:=Int.eq_ofNat_of_zero_le h.1
 refine ⟨m / 64,m % 64,tq64 m,tr64 m,by simp; omega,by omega,nw_lt (by omega)⟩
theorem bit_of (B : List Bool) (k r : Nat) (h : r < 64) : (wb B k / 2 ^ r &&& 1 = 1) ↔ B.getD (64 * k + r) false = true:=by
 have h:=wb_bit B k r h
 rw [Nat.testBit_eq_decide_div_mod_eq] at h
 rw [Nat.and_one_is_mod,← h]
 simp
theorem div_lt' {x k : Nat} (h : x < 18446744073709551616) : x / k < 18446744073709551616:=Nat.lt_of_le_of_lt (Nat.div_le_self _ _) h
theorem Has_spec {p : Nat → Prop} {H : AH} {v : Value} {B : List Bool} (h : SetB p H v B) (i : Int) : AFn Tryd.prog F_bitset_Set_Has [v,.int .i64 i] H fun u H' => u = .bool (hasB B i) ∧ H' = H:=by
 refine AFn.calm (fun H0 hs => ?_) rfl
 obtain ⟨sl,rfl,h2,h3⟩:=h.same hs
 refine AFn.enter mixed ir_bitset_Set_Has_eq (by simp [ir_bitset_Set_Has]) fun hw => ?_
 simp (disch:=omega) [-getElem?_pos,if_pos,if_neg,decide_eq_true,decide_eq_false,ir_bitset_Set_Has,cut]
 refine AFn.pure (within_spec h2.agg.1) ?_
 by_cases hi : 0 ≤ i ∧ i < B.length
 ·obtain ⟨k,r,hq,hr,hkr,hr64,hk⟩:=split64 hi
  obtain ⟨b,off,sp,cap,cs,rfl,h5,h6⟩:=words_at h2 (by omega)
  have h7:=h6 k hk
  have h8:=wb_lt B k
  have hb:=hw.lt (cells_blk h5).choose_spec.choose_spec
  have h9 : abin .shr (uv (wb B k)) (.int .i64 (r : Int)) = some (uv (wb B k / 2 ^ r)):=uv_shr h8
  have h10 : abin .and (uv (wb B k / 2 ^ r)) (uv 1) = some (uv (wb B k / 2 ^ r &&& 1)):=uv_and (div_lt' h8) (by omega)
  have h11 : abin .eql (uv (wb B k / 2 ^ r &&& 1)) (uv 1) = some (.bool (hasB B i)):=by
   rw [uv_eql]; congr 2; simp only [bit_of B k r hr64,hasB,hkr,hi.1]; simp
  generalize wb B k / 2 ^ r &&& 1 = z at *
  generalize wb B k / 2 ^ r = y at *
  generalize wb B k = x at *
  simp (disch:=omega) [-getElem?_pos,if_pos,if_neg,decide_eq_true,decide_eq_false,hi,hq,hr,IntWalk.i64_in,h5,h7,↓h9,↓h10,↓h11]
 ·have : hasB B i = false:=by
   unfold hasB
   by_cases h0 : 0 ≤ i
   ·have : B.length ≤ i.toNat:=by omega
    simp [List.getD_eq_getElem?_getD,List.getElem?_eq_none this]
   ·simp [h0]
  simp (disch:=omega) [-getElem?_pos,if_pos,if_neg,decide_eq_true,decide_eq_false,hi,this]
theorem word_spec {p : Nat → Prop} {H : AH} {v : Value} {B : List Bool} (h : SetB p H v B) (k : Nat) : AFn Tryd.prog F_bitset_Set_word [v,.int .i64 k] H fun u H' => u = uv (wb B k) ∧ H' = H:=by
 refine AFn.calm (fun H0 hs => ?_) rfl
 obtain ⟨sl,rfl,h2,h3⟩:=h.same hs
 refine AFn.enter mixed ir_bitset_Set_word_eq (by simp [ir_bitset_Set_word]) fun hw => ?_
 by_cases hk : k < nw B.length
 ·obtain ⟨b,off,sp,cap,cs,rfl,h5,h6⟩:=words_at h2 (by omega)
  have hb:=hw.lt (cells_blk h5).choose_spec.choose_spec
  have h7:=h6 k hk
  simp (disch:=omega) [-getElem?_pos,if_pos,if_neg,decide_eq_true,decide_eq_false,ir_bitset_Set_word,cut,h5,h7]
 ·obtain ⟨a,c,rfl⟩:=h2.slice
  have : wb B k = 0:=by
   unfold wb
   rw [List.drop_eq_nil_of_le (by unfold nw at hk; omega)]
   rfl
  rw [this]
  simp (disch:=omega) [-getElem?_pos,if_pos,if_neg,decide_eq_true,decide_eq_false,ir_bitset_Set_word,cut]
theorem count_le (B : List Bool) : B.count true ≤ B.length:=List.count_le_length
theorem Count_spec {p : Nat → Prop} {H : AH} {v : Value} {B : List Bool} (h : SetB p H v B) : AFn Tryd.prog F_bitset_Set_Count [v] H fun u H' => u = .int .i64 (B.count true) ∧ H' = H:=by
 refine AFn.calm (fun H0 hs => ?_) rfl
 obtain ⟨sl,rfl,h2,h3⟩:=h.same hs
 refine AFn.enter mixed ir_bitset_Set_Count_eq (by simp [ir_bitset_Set_Count]) fun hw => ?_
 obtain ⟨a,c,rfl⟩:=h2.slice
 simp (disch:=omega) [-getElem?_pos,if_pos,if_neg,decide_eq_true,decide_eq_false,ir_bitset_Set_Count,cut]
 generalize hH1 : H0.alloc _ = H1
 have h2' : Vw p H1 1 (.slice a (nw B.length) c) (nw B.length) ((words B).map uv):=hH1 ▸ h2.kept hw .alloc
 refine wpC_use (loop_upto (nw B.length) (fun k env H => H = H1 ∧ env 7 = some (.slice a (nw B.length) c) ∧ env 8 = some (.int .i64 (nw B.length : Nat)) ∧ env 9 = some (.int .i64 k) ∧ env 3 = some (.int .i64 ((B.take (64 * k)).count true : Nat))) (Q:=fun e env H => e = .exit 0 ∧ env 3 = some (.int .i64 (B.count true : Nat))) (by simp) ?_) fun e env2 H2 ⟨he,h3⟩ _ => ?_
 ·rintro k env H hk ⟨rfl,e7,e8,e9,e3⟩
  by_cases hkn : k < nw B.length
  ·obtain ⟨b,off,sp,cap,cs,hsl,h5,h6⟩:=words_at h2' (by omega)
   cases hsl
   have h7:=h6 k hkn
   simp (disch:=omega) [-getElem?_pos,if_pos,if_neg,decide_eq_true,decide_eq_false,ir_bitset_Set_Count_l0,e7,e8,e9,e3,h5,h7]
   refine AFn.pure (OnesCount64_spec (wb_lt B k)) ?_
   have hc:=count_take B k
   have hl:=count_le (B.take (64 * (k + 1)))
   have hl2 : (B.take (64 * (k + 1))).length ≤ B.length:=by simp; omega
   have hkb : nw B.length ≤ 65:=by unfold nw; omega
   generalize (B.take (64 * k)).count true = c0 at *
   simp (disch:=omega) [-getElem?_pos,if_pos,if_neg,decide_eq_true,decide_eq_false,e7,e8,e9,e3,IntWalk.i64_in]
   exact ⟨hkn,by omega⟩
  ·obtain rfl : k = nw B.length:=by omega
   rw [List.take_of_length_le (by unfold nw; omega)] at e3
   simp (disch:=omega) [-getElem?_pos,if_pos,if_neg,decide_eq_true,decide_eq_false,ir_bitset_Set_Count_l0,e7,e8,e9,e3]
 ·subst he
  simp (disch:=omega) [-getElem?_pos,if_pos,if_neg,decide_eq_true,decide_eq_false,h3]
theorem Clone_spec {p : Nat → Prop} {H : AH} {sl : Value} {n : Nat} {cells : List Value} (h : Vw p H 1 sl n cells) (hn : n ≤ 1000000) :
  AFn Tryd.prog F_slices_Clone_Luint64_uint64 [sl] H fun u H' => ∃ S,Own H' T_uint64 1 u n cells S ∧ Keep [] H H' ∧ ∀ b ∈ S,H.next ≤ b:=by
 refine AFn.enter mixed ir_slices_Clone_Luint64_uint64_eq (by simp [ir_slices_Clone_Luint64_uint64]) fun hw => ?_
 have hl:=h.len
 have main : ∀ (a : Addr) (c : Nat),sl = .slice (some a) n c → wpC Tryd.prog 8 ir_slices_Clone_Luint64_uint64.code (bodyK ir_slices_Clone_Luint64_uint64.results fun u H' => ∃ S,Own H' T_uint64 1 u n cells S ∧ Keep [] H H' ∧ ∀ b ∈ S,H.next ≤ b) (argsEnv 0 [sl]) H:=by
  rintro a c rfl
  have helems:=(h.kept hw (.alloc (B:=.row [] T_uint64 true))).elems
  have ho : Own (H.alloc (.row [] T_uint64 true)) T_uint64 1 (.slice (some ⟨H.next,0,none⟩) 0 0) 0 [] [H.next]:=.inr ⟨H.next,0,none,0,[],rfl,rfl,by simp,by simp,by omega,by simp,.inl rfl⟩
  obtain ⟨v',H',S',q1,q2,q3,q4,q5,q6⟩:=ho.append hw.alloc (bytes:=8) hl (by omega) (by omega)
  simp (disch:=omega) [-getElem?_pos,if_pos,if_neg,decide_eq_true,decide_eq_false,ir_slices_Clone_Luint64_uint64,helems,q1]
  refine ⟨S',by simpa using q2,?_,fun b hb => ?_⟩
  ·exact ⟨by have:=q4.next; simp at this; omega,fun b hb _ => by rw [q4.blk b (by simp; omega) (by simp; omega),AH.alloc_blk_ne (by omega)]⟩
  ·rcases q6 b hb with h | h
   ·simp at h; omega
   ·simp at h; omega
 rcases h.2 with ⟨rfl,a,c,rfl,ha⟩ | ⟨b,off,sp,cap,cs,rfl,h2,h3,h4,h5⟩
 ·cases a with
  | some a => exact main a c rfl
  | none =>
   obtain rfl:=ha rfl
   have : cells = []:=by simpa using hl
   subst this
   simp (disch:=omega) [-getElem?_pos,if_pos,if_neg,decide_eq_true,decide_eq_false,ir_slices_Clone_Luint64_uint64]
   exact ⟨[],.nil,.refl,by simp⟩
 ·exact main _ _ rfl
def SetO (H : AH) (v : Value) (n : Nat) (ws : List Nat) (S : List Nat) : Prop:=∃ sl,v = .agg #[.int .i64 n,sl] ∧ Own H T_uint64 1 sl (nw n) (ws.map uv) S ∧ one sl = true
theorem Own.one {H : AH} {elem sz n : Nat} {v : Value} {cells : List Value} {S : List Nat} (h : Own H elem sz v n cells S) : one v = true:=(h.vw (p:=fun _ => True) fun _ _ => trivial).agg.1
theorem SetO.setB {p : Nat → Prop} {H : AH} {v : Value} {n : Nat} {ws : List Nat} {S : List Nat} (h : SetO H v n ws S) {B : List Bool} (hn : B.length = n) (hB : ws = words B) (h4 : n ≤ 4096) (hp : ∀ b ∈ S,p b) : SetB p H v B:=by
 obtain ⟨sl,h1,h2,h3⟩:=h
 subst hB
 subst hn
 exact ⟨sl,h1,h2.vw hp,h4⟩
theorem copied_spec {p : Nat → Prop} {H : AH} {v : Value} {B : List Bool} (h : SetB p H v B) : AFn Tryd.prog F_bitset_Set_copied [v] H fun u H' => ∃ S,SetO H' u B.length (words B) S ∧ Keep [] H H' ∧ ∀ b ∈ S,H.next ≤ b:=by
 obtain ⟨sl,rfl,h2,h3⟩:=h
 refine AFn.enter mixed ir_bitset_Set_copied_eq (by simp [ir_bitset_Set_copied]) fun hw => ?_
 simp (disch:=omega) [-getElem?_pos,if_pos,if_neg,decide_eq_true,decide_eq_false,ir_bitset_Set_copied,cut]
 have hk1 : Keep [] H ((H.alloc (.row [.int .i64 B.length,sl] T_bitset_Set true)).alloc (.row [.int .i64 0,.slice none 0 0] T_bitset_Set true)):=.new_alloc .alloc
 have hw1 : WF ((H.alloc (.row [.int .i64 B.length,sl] T_bitset_Set true)).alloc (.row [.int .i64 0,.slice none 0 0] T_bitset_Set true)):=hw.alloc.alloc
 refine AFnD.from (Clone_spec (h2.kept hw hk1) (by unfold nw; omega)) fun u H2 w2 ⟨S,h4,k4,hS⟩ => ⟨k4.grow hw1,?_⟩
 have hb : H2.blk (H.next + 1) = some (.row [.int .i64 0,.slice none 0 0] T_bitset_Set true):=by rw [k4.blk _ (by simp) (by simp)]; simp
 obtain ⟨a,c,rfl⟩:=h4.slice
 simp (disch:=omega) [-getElem?_pos,if_pos,if_neg,decide_eq_true,decide_eq_false,writeA,hb,cut]
 refine ⟨S,⟨_,rfl,h4.keep fun b hbS => AH.set_blk_ne ?_,rfl⟩,.new_set (by omega) (hk1.trans' k4),fun b hbS => ?_⟩
 ·have:=hS b hbS; simp at this; omega
 ·have:=hS b hbS; simp at this; omega
theorem With_spec {p : Nat → Prop} {H : AH} {v : Value} {B : List Bool} (h : SetB p H v B) (i : Int) : AFn Tryd.prog F_bitset_Set_With [v,.int .i64 i] H fun u H' => SetB (up p H.next) H' u (setB B i true) ∧ Keep [] H H':=by
 have hB:=h
 obtain ⟨sl,rfl,h2,h3⟩:=h
 refine AFn.enter mixed ir_bitset_Set_With_eq (by simp [ir_bitset_Set_With]) fun hw => ?_
 simp (disch:=omega) [-getElem?_pos,if_pos,if_neg,decide_eq_true,decide_eq_false,ir_bitset_Set_With,cut]
 generalize hH1 : (H.alloc (.row [.int .i64 B.length,sl] T_bitset_Set true)).alloc (.row [.int .i64 0,.slice none 0 0] T_bitset_Set true) = H1
 have hk1 : Keep [] H H1:=by rw [← hH1]; exact .new_alloc .alloc
 have hw1 : WF H1:=by rw [← hH1]; exact hw.alloc.alloc
 have hn1 : H1.next = H.next + 2:=by rw [← hH1]; simp
 have hc0 : H1.cells H.next = some [.int .i64 B.length,sl]:=by rw [← hH1]; simp
 have hb1 : H1.blk (H.next + 1) = some (.row [.int .i64 0,.slice none 0 0] T_bitset_Set true):=by rw [← hH1]; simp
 refine AFn.pure (within_spec h2.agg.1) ?_
 by_cases hi : 0 ≤ i ∧ i < B.length
 ·obtain ⟨k,q,hq,hqr,hkr,hr64,hk⟩:=split64 hi
  simp (disch:=omega) [-getElem?_pos,if_pos,if_neg,decide_eq_true,decide_eq_false,hi,hc0,cut]
  refine (copied_spec (hB.kept hw hk1)).mono' fun u H2 w2 ⟨S,⟨sl2,hu,h4,h5⟩,k4,hS⟩ => ?_
  subst hu
  have hb2 : H2.blk (H.next + 1) = some (.row [.int .i64 0,.slice none 0 0] T_bitset_Set true):=by rw [k4.blk _ (by omega) (by simp),hb1]
  have hn2:=k4.next
  obtain ⟨b,off,sp,cap,cs,rfl,rfl,h6,h7,h8,h9⟩:=h4.pos (by omega)
  have h10 : cs[off + k]? = some (uv (wb B k)):=by rw [h9 k (by omega),List.getElem?_map,words_get B k hk]; rfl
  have hbn : b < H2.next:=w2.lt h6
  have hbS:=hS b (by simp)
  have hlt:=wb_lt B k
  have h11 : abin .shl (uv 1) (.int .i64 (q : Int)) = some (uv (2 ^ q)):=uv_shl1 hr64
  have h2q : 2 ^ q < 18446744073709551616:=Nat.pow_lt_pow_right (a:=2) (n:=64) (by omega) hr64
  have h12 : abin .or (uv (wb B k)) (uv (2 ^ q)) = some (uv (wb B k ||| 2 ^ q)):=uv_or hlt h2q
  have hxlt : wb B k ||| 2 ^ q < 18446744073709551616:=or_lt' hlt h2q
  have hws:=words_set B i.toNat (wb B k ||| 2 ^ q) true (by omega) hxlt (fun j hj => by
   rw [show i.toNat / 64 = k by omega,show i.toNat % 64 = q by omega,Nat.testBit_or,Nat.testBit_two_pow]
   by_cases hjq : j = q
   ·subst hjq; simp
   ·simp [hjq,Ne.symm hjq])
  rw [show i.toNat / 64 = k by omega] at hws
  generalize wb B k ||| 2 ^ q = y at *
  generalize 2 ^ q = p at *
  have hw3:=h4.alloc w2 (B:=.row [.int .i64 B.length,.slice (some ⟨b,off,sp⟩) (nw B.length) cap] T_bitset_Set true)
  have h6' : (H2.alloc (.row [.int .i64 B.length,.slice (some ⟨b,off,sp⟩) (nw B.length) cap] T_bitset_Set true)).blk b = some (.row cs T_uint64 true):=by rw [AH.alloc_blk_ne (by omega)]; exact h6
  obtain ⟨o1,o2,_⟩:=hw3.write h6' (k:=k) (news:=[uv y]) (by simp; omega)
  rw [over_one (cells:=(words B).map uv) (by rw [List.length_map,words_length]; exact hk),← List.map_set,hws] at o2
  have hol:=(List.getElem?_eq_some_iff.1 h10).1
  simp (disch:=omega) [-getElem?_pos,if_pos,if_neg,decide_eq_true,decide_eq_false,hq,hqr,IntWalk.i64_in,h7,h10,↓h11,↓h12,h6,cut,writeA,hb2]
  refine ⟨?_,?_⟩
  ·rw [show setB B i true = B.set i.toNat true by unfold setB; rw [if_pos hi]]
   refine ⟨.slice (some ⟨b,off,sp⟩) (nw B.length) cap,by simp,?_,by simpa using h3⟩
   rw [List.length_set]
   refine (Own.keep o2 (fun b' hb' => AH.set_blk_ne ?_)).vw (fun b' hb' => .inr ?_)
   ·simp at hb'; omega
   ·simp at hb'; omega
  ·exact .new_set (by omega) (.new_set (by omega) (.new_alloc (hk1.trans' k4)))
 ·simp (disch:=omega) [-getElem?_pos,if_pos,if_neg,decide_eq_true,decide_eq_false,hi,hc0,cut,writeA,hb1]
  refine ⟨?_,.new_set (by omega) hk1⟩
  rw [show setB B i true = B by unfold setB; rw [if_neg hi]]
  exact (hB.kept hw (.new_set (by omega) hk1)).mono fun _ h => .inl h
theorem Without_spec {p : Nat → Prop} {H : AH} {v : Value} {B : List Bool} (h : SetB p H v B) (i : Int) : AFn Tryd.prog F_bitset_Set_Without [v,.int .i64 i] H fun u H' => SetB (up p H.next) H' u (setB B i false) ∧ Keep [] H H':=by
 have hB:=h
 obtain ⟨sl,rfl,h2,h3⟩:=h
 refine AFn.enter mixed ir_bitset_Set_Without_eq (by simp [ir_bitset_Set_Without]) fun hw => ?_
 simp (disch:=omega) [-getElem?_pos,if_pos,if_neg,decide_eq_true,decide_eq_false,ir_bitset_Set_Without,cut]
 generalize hH1 : (H.alloc (.row [.int .i64 B.length,sl] T_bitset_Set true)).alloc (.row [.int .i64 0,.slice none 0 0] T_bitset_Set true) = H1
 have hk1 : Keep [] H H1:=by rw [← hH1]; exact .new_alloc .alloc
 have hw1 : WF H1:=by rw [← hH1]; exact hw.alloc.alloc
 have hn1 : H1.next = H.next + 2:=by rw [← hH1]; simp
 have hc0 : H1.cells H.next = some [.int .i64 B.length,sl]:=by rw [← hH1]; simp
 have hb1 : H1.blk (H.next + 1) = some (.row [.int .i64 0,.slice none 0 0] T_bitset_Set true):=by rw [← hH1]; simp
 refine AFn.pure (within_spec h2.agg.1) ?_
 by_cases hi : 0 ≤ i ∧ i < B.length
 ·obtain ⟨k,q,hq,hqr,hkr,hr64,hk⟩:=split64 hi
  simp (disch:=omega) [-getElem?_pos,if_pos,if_neg,decide_eq_true,decide_eq_false,hi,hc0,cut]
  refine (copied_spec (hB.kept hw hk1)).mono' fun u H2 w2 ⟨S,⟨sl2,hu,h4,h5⟩,k4,hS⟩ => ?_
  subst hu
  have hb2 : H2.blk (H.next + 1) = some (.row [.int .i64 0,.slice none 0 0] T_bitset_Set true):=by rw [k4.blk _ (by omega) (by simp),hb1]
  have hn2:=k4.next
  obtain ⟨b,off,sp,cap,cs,rfl,rfl,h6,h7,h8,h9⟩:=h4.pos (by omega)
  have h10 : cs[off + k]? = some (uv (wb B k)):=by rw [h9 k (by omega),List.getElem?_map,words_get B k hk]; rfl
  have hbn : b < H2.next:=w2.lt h6
  have hbS:=hS b (by simp)
  have hlt:=wb_lt B k
  have h11 : abin .shl (uv 1) (.int .i64 (q : Int)) = some (uv (2 ^ q)):=uv_shl1 hr64
  have h2q : 2 ^ q < 18446744073709551616:=Nat.pow_lt_pow_right (a:=2) (n:=64) (by omega) hr64
  have h12 : abin .andNot (uv (wb B k)) (uv (2 ^ q)) = some (uv (andNotN (wb B k) (2 ^ q))):=uv_andNot
  have hxlt : andNotN (wb B k) (2 ^ q) < 18446744073709551616:=andNotN_lt _ _
  have hws:=words_set B i.toNat (andNotN (wb B k) (2 ^ q)) false (by omega) hxlt (fun j hj => by
   rw [show i.toNat / 64 = k by omega,show i.toNat % 64 = q by omega,andNotN_bit _ _ _ hj,Nat.testBit_two_pow]
   by_cases hjq : j = q
   ·subst hjq; simp
   ·simp [hjq,Ne.symm hjq])
  rw [show i.toNat / 64 = k by omega] at hws
  generalize andNotN (wb B k) (2 ^ q) = y at *
  generalize 2 ^ q = p at *
  have hw3:=h4.alloc w2 (B:=.row [.int .i64 B.length,.slice (some ⟨b,off,sp⟩) (nw B.length) cap] T_bitset_Set true)
  have h6' : (H2.alloc (.row [.int .i64 B.length,.slice (some ⟨b,off,sp⟩) (nw B.length) cap] T_bitset_Set true)).blk b = some (.row cs T_uint64 true):=by rw [AH.alloc_blk_ne (by omega)]; exact h6
  obtain ⟨o1,o2,_⟩:=hw3.write h6' (k:=k) (news:=[uv y]) (by simp; omega)
  rw [over_one (cells:=(words B).map uv) (by rw [List.length_map,words_length]; exact hk),← List.map_set,hws] at o2
  have hol:=(List.getElem?_eq_some_iff.1 h10).1
  simp (disch:=omega) [-getElem?_pos,if_pos,if_neg,decide_eq_true,decide_eq_false,hq,hqr,IntWalk.i64_in,h7,h10,↓h11,↓h12,h6,cut,writeA,hb2]
  refine ⟨?_,?_⟩
  ·rw [show setB B i false = B.set i.toNat false by unfold setB; rw [if_pos hi]]
   refine ⟨.slice (some ⟨b,off,sp⟩) (nw B.length) cap,by simp,?_,by simpa using h3⟩
   rw [List.length_set]
   refine (Own.keep o2 (fun b' hb' => AH.set_blk_ne ?_)).vw (fun b' hb' => .inr ?_)
   ·simp at hb'; omega
   ·simp at hb'; omega
  ·exact .new_set (by omega) (.new_set (by omega) (.new_alloc (hk1.trans' k4)))
 ·simp (disch:=omega) [-getElem?_pos,if_pos,if_neg,decide_eq_true,decide_eq_false,hi,hc0,cut,writeA,hb1]
  refine ⟨?_,.new_set (by omega) hk1⟩
  rw [show setB B i false = B by unfold setB; rw [if_neg hi]]
  exact (hB.kept hw (.new_set (by omega) hk1)).mono fun _ h => .inl h
def eachB (g : Bool → Bool → Bool) (A B : List Bool) : List Bool:=(List.range A.length).map fun i => g (A.getD i false) (B.getD i false)
theorem eachB_length (g : Bool → Bool → Bool) (A B : List Bool) : (eachB g A B).length = A.length:=by simp [eachB]
theorem eachB_get (g : Bool → Bool → Bool) (A B : List Bool) (i : Nat) : (eachB g A B).getD i false = if i < A.length then g (A.getD i false) (B.getD i false) else false:=by
 unfold eachB
 rw [List.getD_eq_getElem?_getD]
 split
 ·rename_i h; simp [h]
 ·rename_i h; rw [List.getElem?_eq_none (by simp; omega)]; rfl
structure Bitwise (f : Nat → Nat → Nat) (g : Bool → Bool → Bool) : Prop where
 lt : ∀ a b,a < 18446744073709551616 → b < 18446744073709551616 → f a b < 18446744073709551616
 bit : ∀ a b j,j < 64 → (f a b).testBit j = g (a.testBit j) (b.testBit j)
theorem word_full {f : Nat → Nat → Nat} {g : Bool → Bool → Bool} (hf : Bitwise f g) {A B : List Bool} {k : Nat} (hk : 64 * k + 64 ≤ A.length) : f (wb A k) (wb B k) = wb (eachB g A B) k:=by
 refine wb_eq (hf.lt _ _ (wb_lt A k) (wb_lt B k)) fun j hj => ?_
 rw [hf.bit _ _ j hj,eachB_get,if_pos (by omega),wb_bit A k j hj,wb_bit B k j hj]
theorem word_last {f : Nat → Nat → Nat} {g : Bool → Bool → Bool} (hf : Bitwise f g) {A B : List Bool} {k r : Nat} (hk : 64 * k + r = A.length) (hr : r < 64) : f (wb A k) (wb B k) &&& (2 ^ r - 1) = wb (eachB g A B) k:=by
 refine wb_eq (and_lt' (hf.lt _ _ (wb_lt A k) (wb_lt B k))) fun j hj => ?_
 rw [Nat.testBit_and,hf.bit _ _ j hj,eachB_get,Nat.testBit_two_pow_sub_one,wb_bit A k j hj,wb_bit B k j hj]
 by_cases h : j < r
 ·rw [if_pos (by omega)]; simp [h]
 ·rw [if_neg (by omega)]; simp [h]
theorem each_spec {p : Nat → Prop} {H : AH} {v w : Value} {A B : List Bool} {F : Nat} {f : Nat → Nat → Nat} {g : Bool → Bool → Bool} (hA : SetB p H v A) (hB : SetB p H w B) (hgood : goodFunc Tryd.prog F = true) (hf : Bitwise f g)
  (hF : ∀ H a b,a < 18446744073709551616 → b < 18446744073709551616 → AFn Tryd.prog F [uv a,uv b] H fun u H' => u = uv (f a b) ∧ H' = H) :
  AFn Tryd.prog F_bitset_Set_each [v,w,.func (.func F) #[] #[]] H fun u H' => SetB (fun b => H.next ≤ b) H' u (eachB g A B) ∧ Keep [] H H':=by
 obtain ⟨sa,rfl,a2,a3⟩:=id hA
 obtain ⟨sb,rfl,b2,b3⟩:=id hB
 refine AFn.enter mixed ir_bitset_Set_each_eq (by simp [ir_bitset_Set_each]) fun hw => ?_
 simp (disch:=omega) [-getElem?_pos,if_pos,if_neg,decide_eq_true,decide_eq_false,ir_bitset_Set_each,cut]
 generalize hH1 : ((H.alloc (.row [.int .i64 A.length,sa] T_bitset_Set true)).alloc (.row [.int .i64 B.length,sb] T_bitset_Set true)).alloc (.row [.int .i64 0,.slice none 0 0] T_bitset_Set true) = H1
 have hk1 : Keep [] H H1:=by rw [← hH1]; exact .new_alloc (.new_alloc .alloc)
 have hw1 : WF H1:=by rw [← hH1]; exact hw.alloc.alloc.alloc
 have hn1 : H1.next = H.next + 3:=by rw [← hH1]; simp
 have hb0 : H1.blk H.next = some (.row [.int .i64 A.length,sa] T_bitset_Set true):=by rw [← hH1]; simp; omega
 have hb1 : H1.blk (H.next + 1) = some (.row [.int .i64 B.length,sb] T_bitset_Set true):=by rw [← hH1]; simp; try omega
 have hb2 : H1.blk (H.next + 2) = some (.row [.int .i64 0,.slice none 0 0] T_bitset_Set true):=by rw [← hH1]; simp; try omega
 refine (copied_spec (hA.kept hw hk1)).mono' fun u H2 w2 ⟨S,⟨so,hu,o1,o2⟩,k2,hS⟩ => ?_
 subst hu
 have hn2:=k2.next
 obtain ⟨ao,co,rfl⟩:=o1.slice
 have hc0 : H2.blk H.next = some (.row [.int .i64 A.length,sa] T_bitset_Set true):=by rw [k2.blk _ (by omega) (by simp),hb0]
 have hc1 : H2.blk (H.next + 1) = some (.row [.int .i64 B.length,sb] T_bitset_Set true):=by rw [k2.blk _ (by omega) (by simp),hb1]
 have hc2 : H2.blk (H.next + 2) = some (.row [.int .i64 0,.slice none 0 0] T_bitset_Set true):=by rw [k2.blk _ (by omega) (by simp),hb2]
 obtain ⟨aa,ca,rfl⟩:=a2.slice
 simp (disch:=omega) [-getElem?_pos,if_pos,if_neg,decide_eq_true,decide_eq_false,cut,writeA,AH.cells_of hc0]
 generalize hH3 : H2.alloc (.row [.int .i64 A.length,.slice ao (nw A.length) co] T_bitset_Set true) = H3
 have hw3 : WF H3:=by rw [← hH3]; exact w2.alloc
 have hk3 : Keep [] H H3:=by rw [← hH3]; exact .new_alloc (hk1.trans' k2)
 have hd0 : H3.blk H.next = some (.row [.int .i64 A.length,.slice aa (nw A.length) ca] T_bitset_Set true):=by rw [← hH3,AH.alloc_blk_ne (by omega),hc0]
 have hd1 : H3.blk (H.next + 1) = some (.row [.int .i64 B.length,sb] T_bitset_Set true):=by rw [← hH3,AH.alloc_blk_ne (by omega),hc1]
 have hd2 : H3.blk (H.next + 2) = some (.row [.int .i64 0,.slice none 0 0] T_bitset_Set true):=by rw [← hH3,AH.alloc_blk_ne (by omega),hc2]
 have hd3 : H3.blk H2.next = some (.row [.int .i64 A.length,.slice ao (nw A.length) co] T_bitset_Set true):=by rw [← hH3]; simp
 have ho3 : Own H3 T_uint64 1 (.slice ao (nw A.length) co) (nw A.length) ((words A).map uv) S:=by rw [← hH3]; exact o1.alloc w2
 have hS3 : ∀ b ∈ S,H.next + 3 ≤ b ∧ b < H2.next:=fun b hb => ⟨by have:=hS b hb; omega,o1.lt w2 b hb⟩
 refine wpC_use (loop_upto (nw A.length) (fun k env H' => WF H' ∧ Keep [] H H' ∧ H'.blk H.next = some (.row [.int .i64 A.length,.slice aa (nw A.length) ca] T_bitset_Set true) ∧ H'.blk (H.next + 1) = some (.row [.int .i64 B.length,sb] T_bitset_Set true) ∧
  H'.blk (H.next + 2) = some (.row [.int .i64 0,.slice none 0 0] T_bitset_Set true) ∧ H'.blk H2.next = some (.row [.int .i64 A.length,.slice ao (nw A.length) co] T_bitset_Set true) ∧
  Own H' T_uint64 1 (.slice ao (nw A.length) co) (nw A.length) ((List.range (nw A.length)).map fun j => uv (if j < k then f (wb A j) (wb B j) else wb A j)) S ∧
  env 2 = some (.func (.func F) #[] #[]) ∧ env 3 = some (.pointer (some ⟨H.next,0,none⟩)) ∧ env 4 = some (.pointer (some ⟨H.next + 1,0,none⟩)) ∧ env 6 = some (.pointer (some ⟨H.next + 2,0,none⟩)) ∧ env 7 = some (.pointer (some ⟨H2.next,0,none⟩)) ∧
  env 14 = some (.slice aa (nw A.length) ca) ∧ env 15 = some (.int .i64 (nw A.length : Nat)) ∧ env 16 = some (.int .i64 k))
  (Q:=fun e env H' => e = .exit 0 ∧ Keep [] H H' ∧ H'.blk H.next = some (.row [.int .i64 A.length,.slice aa (nw A.length) ca] T_bitset_Set true) ∧
  H'.blk (H.next + 2) = some (.row [.int .i64 0,.slice none 0 0] T_bitset_Set true) ∧ H'.blk H2.next = some (.row [.int .i64 A.length,.slice ao (nw A.length) co] T_bitset_Set true) ∧
  Own H' T_uint64 1 (.slice ao (nw A.length) co) (nw A.length) ((List.range (nw A.length)).map fun j => uv (f (wb A j) (wb B j))) S ∧ env 3 = some (.pointer (some ⟨H.next,0,none⟩)) ∧ env 6 = some (.pointer (some ⟨H.next + 2,0,none⟩)) ∧ env 7 = some (.pointer (some ⟨H2.next,0,none⟩)))
  ⟨hw3,hk3,hd0,hd1,hd2,hd3,by simpa [words,Function.comp_def] using ho3,by simp,by simp,by simp,by simp,by simp,by simp,by simp,by simp⟩ ?_) fun e env2 H4 ⟨he,k4,g0,g2,g3,g4,g5,g6,g7⟩ _ => ?_
 ·rintro k env H' hk ⟨w',k',d0,d1,d2,d3,o',e2,e3,e4,e6,e7,e14,e15,e16⟩
  have hnn : nw A.length ≤ 65:=by unfold nw; omega
  by_cases hkn : k < nw A.length
  ·obtain ⟨b,off,sp,cap,cs,hsl,h5,h6⟩:=words_at (a2.kept hw k') (by omega)
   cases hsl
   have h7:=h6 k hkn
   simp (disch:=omega) [-getElem?_pos,if_pos,if_neg,decide_eq_true,decide_eq_false,ir_bitset_Set_each_l0,e2,e3,e4,e7,e14,e15,e16,h5,h7,AH.cells_of d1,AH.cells_of d3,cut]
   refine AFnD.of (word_spec (hB.kept hw k') k) ?_
   simp only [restK_app,put_some]
   simp (disch:=omega) [-getElem?_pos,if_pos,if_neg,decide_eq_true,decide_eq_false,e2,e3,e4,e7,e14,e15,e16,ACallD_fn hgood]
   refine AFnD.of (hF _ _ _ (wb_lt A k) (wb_lt B k)) ?_
   obtain ⟨b2,off2,sp2,cap2,cs2,hsl2,rfl,q1,q2,q3,q4⟩:=o'.pos (by omega)
   cases hsl2
   obtain ⟨p1,p2,_⟩:=o'.write q1 (k:=k) (news:=[uv (f (wb A k) (wb B k))]) (by simp; omega)
   have hS':=hS3 b2 (by simp)
   simp (disch:=omega) [-getElem?_pos,if_pos,if_neg,decide_eq_true,decide_eq_false,p1,e2,e3,e4,e6,e7,e14,e15,e16,IntWalk.i64_in]
   refine ⟨hkn,w'.set (w'.lt q1),.new_set (by omega) k',d0,d1,d2,d3,?_⟩
   rw [over_one (cells:=(List.range (nw A.length)).map fun j => uv (if j < k then f (wb A j) (wb B j) else wb A j)) (by simpa using hkn)] at p2
   rw [show ((List.range (nw A.length)).map fun j => uv (if j < k + 1 then f (wb A j) (wb B j) else wb A j)) = ((List.range (nw A.length)).map fun j => uv (if j < k then f (wb A j) (wb B j) else wb A j)).set k (uv (f (wb A k) (wb B k))) from ?_]
   ·exact p2
   ·apply List.ext_getElem (by simp)
    intro j h1 h2
    simp only [List.getElem_map,List.getElem_range,List.getElem_set]
    by_cases hj : k = j
    ·subst hj; simp
    ·rw [if_neg hj]
     by_cases hlt : j < k
     ·rw [if_pos hlt,if_pos (by omega)]
     ·rw [if_neg hlt,if_neg (by omega)]
  ·obtain rfl : k = nw A.length:=by omega
   simp (disch:=omega) [-getElem?_pos,if_pos,if_neg,decide_eq_true,decide_eq_false,ir_bitset_Set_each_l0,e15,e16]
   refine ⟨k',d0,d2,d3,?_,e3,e6,e7⟩
   rw [show ((List.range (nw A.length)).map fun j => uv (f (wb A j) (wb B j))) = ((List.range (nw A.length)).map fun j => uv (if j < nw A.length then f (wb A j) (wb B j) else wb A j)) from List.map_congr_left fun j hj => by rw [if_pos (by simpa using hj)]]
   exact o'
 ·subst he
  have hm:=tr64 A.length
  have hEl:=eachB_length g A B
  have hg4:=(hS3 · ·)
  by_cases hr : A.length % 64 = 0
  ·simp (disch:=omega) [-getElem?_pos,if_pos,if_neg,decide_eq_true,decide_eq_false,g5,g6,g7,AH.cells_of g0,AH.cells_of g3,g2,hm,hr,cut,writeA]
   refine ⟨?_,.new_set (by omega) k4⟩
   refine SetO.setB (n:=A.length) (ws:=(List.range (nw A.length)).map fun j => f (wb A j) (wb B j)) (S:=S) ⟨_,rfl,?_,rfl⟩ hEl ?_ a3 (fun b hb => by have:=hS3 b hb; omega)
   ·rw [List.map_map]
    exact g4.keep fun b hb => AH.set_blk_ne (by have:=hS3 b hb; omega)
   ·unfold words
    rw [hEl]
    exact List.map_congr_left fun j hj => word_full hf (by have:=List.mem_range.1 hj; unfold nw at this; omega)
  ·obtain ⟨n,hn⟩ : ∃ n,nw A.length = n + 1:=⟨nw A.length - 1,by unfold nw; omega⟩
   have hlast : 64 * n + A.length % 64 = A.length:=by unfold nw at hn; omega
   obtain ⟨b2,off2,sp2,cap2,cs2,hsl2,rfl,q1,q2,q3,q4⟩:=g4.pos (by omega)
   cases hsl2
   have hS':=hS3 b2 (by simp)
   have hx:=hf.lt _ _ (wb_lt A n) (wb_lt B n)
   have hlw:=word_last hf (B:=B) hlast (by omega)
   have hcell : cs2[off2 + n]? = some (uv (f (wb A n) (wb B n))):=by rw [q4 n (by omega)]; simp [hn]
   obtain ⟨p1,p2,_⟩:=g4.write q1 (k:=n) (news:=[uv (wb (eachB g A B) n)]) (by simp; omega)
   obtain ⟨r,hrr⟩ : ∃ r,r = A.length % 64:=⟨_,rfl⟩
   rw [← hrr] at hm hr hlw
   have hr64 : r < 64:=by omega
   have h2r : 2 ^ r < 18446744073709551616:=Nat.pow_lt_pow_right (a:=2) (n:=64) (by omega) hr64
   have h2p : 1 ≤ 2 ^ r:=Nat.one_le_two_pow
   have s1 : abin .shl (uv 1) (.int .i64 (r : Int)) = some (uv (2 ^ r)):=uv_shl1 hr64
   have s2 : abin .sub (uv (2 ^ r)) (uv 1) = some (uv (2 ^ r - 1)):=uv_sub h2p h2r
   have s3 : abin .and (uv (f (wb A n) (wb B n))) (uv (2 ^ r - 1)) = some (uv (wb (eachB g A B) n)):=by rw [← hlw]; exact uv_and hx (by omega)
   generalize 2 ^ r - 1 = p1' at *
   generalize 2 ^ r = p0 at *
   have hnn : nw A.length ≤ 65:=by unfold nw; omega
   have hi1 : (nw A.length : Int) - 1 = (n : Int):=by omega
   clear hrr hlast hlw
   have hol:=(List.getElem?_eq_some_iff.1 hcell).1
   simp (disch:=omega) [-getElem?_pos,if_pos,if_neg,decide_eq_true,decide_eq_false,g5,g6,g7,AH.cells_of g0,AH.cells_of g3,g2,hm,hr,cut,hi1,IntWalk.i64_in,q2,hcell,↓s1,↓s2,↓s3,q1,g2,writeA]
   refine ⟨?_,.new_set (by omega) (.new_set (by omega) k4)⟩
   refine SetO.setB (n:=A.length) (ws:=((List.range (nw A.length)).map fun j => f (wb A j) (wb B j)).set n (wb (eachB g A B) n)) (S:=[b2]) ⟨_,rfl,?_,rfl⟩ hEl ?_ a3 (fun b hb => by have:=hS3 b hb; omega)
   ·rw [over_one (cells:=(List.range (nw A.length)).map fun j => uv (f (wb A j) (wb B j))) (by simp; omega)] at p2
    rw [List.map_set,List.map_map]
    exact p2.keep fun b hb => AH.set_blk_ne (by have:=hS3 b hb; omega)
   ·unfold words
    rw [hEl]
    apply List.ext_getElem (by simp)
    intro j h1 h2
    simp only [List.length_set,List.length_map,List.length_range] at h1
    simp only [List.getElem_map,List.getElem_range,List.getElem_set]
    by_cases hj : n = j
    ·subst hj; simp
    ·rw [if_neg hj]
     exact word_full hf (by unfold nw at h1 hn; omega)
end Go.Proofs.YtejifalflkbekaaDoor.Bs
/-
 Contracts of package bitset (2).
-/
set_option maxRecDepth 100000
set_option linter.unusedSimpArgs false
set_option linter.unusedVariables false
namespace Go.Proofs.YtejifalflkbekaaDoor.Bs
open Go Go.Abs
theorem or_bitwise : Bitwise (fun a b => a ||| b) (fun a b => a || b):=⟨fun _ _ h k => or_lt' h k,fun a b j _ => Nat.testBit_or a b j⟩
theorem and_bitwise : Bitwise (fun a b => a &&& b) (fun a b => a && b):=⟨fun _ _ h _ => and_lt' h,fun a b j _ => Nat.testBit_and a b j⟩
theorem less_bitwise : Bitwise andNotN (fun a b => a && !b):=⟨fun a b _ _ => andNotN_lt a b,fun a b j h => andNotN_bit a b j h⟩
theorem Or1_spec {H : AH} {a b : Nat} (ha : a < 18446744073709551616) (hb : b < 18446744073709551616) : AFn Tryd.prog F_bitset_Set_Or_1 [uv a,uv b] H fun u H' => u = uv (a ||| b) ∧ H' = H:=by
 refine AFn.enter mixed ir_bitset_Set_Or_1_eq (by simp [ir_bitset_Set_Or_1]) fun hw => ?_
 have h:=uv_or ha hb
 simp (disch:=omega) [-getElem?_pos,if_pos,if_neg,decide_eq_true,decide_eq_false,ir_bitset_Set_Or_1,↓h]
theorem And1_spec {H : AH} {a b : Nat} (ha : a < 18446744073709551616) (hb : b < 18446744073709551616) : AFn Tryd.prog F_bitset_Set_And_1 [uv a,uv b] H fun u H' => u = uv (a &&& b) ∧ H' = H:=by
 refine AFn.enter mixed ir_bitset_Set_And_1_eq (by simp [ir_bitset_Set_And_1]) fun hw => ?_
 have h:=uv_and ha hb
 simp (disch:=omega) [-getElem?_pos,if_pos,if_neg,decide_eq_true,decide_eq_false,ir_bitset_Set_And_1,↓h]
theorem Less1_spec {H : AH} {a b : Nat} (ha : a < 18446744073709551616) (hb : b < 18446744073709551616) : AFn Tryd.prog F_bitset_Set_Less_1 [uv a,uv b] H fun u H' => u = uv (andNotN a b) ∧ H' = H:=by
 refine AFn.enter mixed ir_bitset_Set_Less_1_eq (by simp [ir_bitset_Set_Less_1]) fun hw => ?_
 have h:=uv_andNot (a:=a) (b:=b)
 simp (disch:=omega) [-getElem?_pos,if_pos,if_neg,decide_eq_true,decide_eq_false,ir_bitset_Set_Less_1,↓h]
section
variable {p : Nat → Prop} {H : AH} {v w : Value} {A B : List Bool}
theorem Or_spec (hA : SetB p H v A) (hB : SetB p H w B) : AFn Tryd.prog F_bitset_Set_Or [v,w] H fun u H' => SetB (fun b => H.next ≤ b) H' u (eachB (fun a b => a || b) A B) ∧ Keep [] H H':=by
 have kA:=hA
 have kB:=hB
 obtain ⟨sa,rfl,_,_⟩:=kA
 obtain ⟨sb,rfl,_,_⟩:=kB
 refine AFn.enter mixed ir_bitset_Set_Or_eq (by simp [ir_bitset_Set_Or]) fun hw => ?_
 simp (disch:=omega) [-getElem?_pos,if_pos,if_neg,decide_eq_true,decide_eq_false,ir_bitset_Set_Or,cut]
 generalize hH1 : ((H.alloc (.row [.int .i64 A.length,sa] T_bitset_Set true)).alloc (.row [.int .i64 B.length,sb] T_bitset_Set true)).alloc (.row [.int .i64 0,.slice none 0 0] T_bitset_Set true) = H1
 have hk1 : Keep [] H H1:=by rw [← hH1]; exact .new_alloc (.new_alloc .alloc)
 have hw1 : WF H1:=by rw [← hH1]; exact hw.alloc.alloc.alloc
 have hn1 : H1.next = H.next + 3:=by rw [← hH1]; simp
 have hb2 : H1.blk (H.next + 2) = some (.row [.int .i64 0,.slice none 0 0] T_bitset_Set true):=by rw [← hH1]; simp; try omega
 refine (each_spec (hA.kept hw hk1) (hB.kept hw hk1) good_bitset_Set_Or_1 or_bitwise fun _ _ _ h k => Or1_spec h k).mono' fun u H2 w2 ⟨h2,k2⟩ => ?_
 have hc2 : H2.blk (H.next + 2) = some (.row [.int .i64 0,.slice none 0 0] T_bitset_Set true):=by rw [k2.blk _ (by omega) (by simp),hb2]
 have h3:=h2
 obtain ⟨so,rfl,o1,o2⟩:=h2
 simp (disch:=omega) [-getElem?_pos,if_pos,if_neg,decide_eq_true,decide_eq_false,writeA,hc2,cut]
 exact ⟨(h3.over fun b hb => AH.cells_set_ne (by omega)).mono fun b hb => by omega,.new_set (by omega) (hk1.trans' k2)⟩
theorem And_spec (hA : SetB p H v A) (hB : SetB p H w B) : AFn Tryd.prog F_bitset_Set_And [v,w] H fun u H' => SetB (fun b => H.next ≤ b) H' u (eachB (fun a b => a && b) A B) ∧ Keep [] H H':=by
 have kA:=hA
 have kB:=hB
 obtain ⟨sa,rfl,_,_⟩:=kA
 obtain ⟨sb,rfl,_,_⟩:=kB
 refine AFn.enter mixed ir_bitset_Set_And_eq (by simp [ir_bitset_Set_And]) fun hw => ?_
 simp (disch:=omega) [-getElem?_pos,if_pos,if_neg,decide_eq_true,decide_eq_false,ir_bitset_Set_And,cut]
 generalize hH1 : ((H.alloc (.row [.int .i64 A.length,sa] T_bitset_Set true)).alloc (.row [.int .i64 B.length,sb] T_bitset_Set true)).alloc (.row [.int .i64 0,.slice none 0 0] T_bitset_Set true) = H1
 have hk1 : Keep [] H H1:=by rw [← hH1]; exact .new_alloc (.new_alloc .alloc)
 have hw1 : WF H1:=by rw [← hH1]; exact hw.alloc.alloc.alloc
 have hn1 : H1.next = H.next + 3:=by rw [← hH1]; simp
 have hb2 : H1.blk (H.next + 2) = some (.row [.int .i64 0,.slice none 0 0] T_bitset_Set true):=by rw [← hH1]; simp; try omega
 refine (each_spec (hA.kept hw hk1) (hB.kept hw hk1) good_bitset_Set_And_1 and_bitwise fun _ _ _ h k => And1_spec h k).mono' fun u H2 w2 ⟨h2,k2⟩ => ?_
 have hc2 : H2.blk (H.next + 2) = some (.row [.int .i64 0,.slice none 0 0] T_bitset_Set true):=by rw [k2.blk _ (by omega) (by simp),hb2]
 have h3:=h2
 obtain ⟨so,rfl,o1,o2⟩:=h2
 simp (disch:=omega) [-getElem?_pos,if_pos,if_neg,decide_eq_true,decide_eq_false,writeA,hc2,cut]
 exact ⟨(h3.over fun b hb => AH.cells_set_ne (by omega)).mono fun b hb => by omega,.new_set (by omega) (hk1.trans' k2)⟩
theorem Less_spec (hA : SetB p H v A) (hB : SetB p H w B) : AFn Tryd.prog F_bitset_Set_Less [v,w] H fun u H' => SetB (fun b => H.next ≤ b) H' u (eachB (fun a b => a && !b) A B) ∧ Keep [] H H':=by
 have kA:=hA
 have kB:=hB
 obtain ⟨sa,rfl,_,_⟩:=kA
 obtain ⟨sb,rfl,_,_⟩:=kB
 refine AFn.enter mixed ir_bitset_Set_Less_eq (by simp [ir_bitset_Set_Less]) fun hw => ?_
 simp (disch:=omega) [-getElem?_pos,if_pos,if_neg,decide_eq_true,decide_eq_false,ir_bitset_Set_Less,cut]
 generalize hH1 : ((H.alloc (.row [.int .i64 A.length,sa] T_bitset_Set true)).alloc (.row [.int .i64 B.length,sb] T_bitset_Set true)).alloc (.row [.int .i64 0,.slice none 0 0] T_bitset_Set true) = H1
 have hk1 : Keep [] H H1:=by rw [← hH1]; exact .new_alloc (.new_alloc .alloc)
 have hw1 : WF H1:=by rw [← hH1]; exact hw.alloc.alloc.alloc
 have hn1 : H1.next = H.next + 3:=by rw [← hH1]; simp
 have hb2 : H1.blk (H.next + 2) = some (.row [.int .i64 0,.slice none 0 0] T_bitset_Set true):=by rw [← hH1]; simp; try omega
 refine (each_spec (hA.kept hw hk1) (hB.kept hw hk1) good_bitset_Set_Less_1 less_bitwise fun _ _ _ h k => Less1_spec h k).mono' fun u H2 w2 ⟨h2,k2⟩ => ?_
 have hc2 : H2.blk (H.next + 2) = some (.row [.int .i64 0,.slice none 0 0] T_bitset_Set true):=by rw [k2.blk _ (by omega) (by simp),hb2]
 have h3:=h2
 obtain ⟨so,rfl,o1,o2⟩:=h2
 simp (disch:=omega) [-getElem?_pos,if_pos,if_neg,decide_eq_true,decide_eq_false,writeA,hc2,cut]
 exact ⟨(h3.over fun b hb => AH.cells_set_ne (by omega)).mono fun b hb => by omega,.new_set (by omega) (hk1.trans' k2)⟩
theorem Within_spec (hA : SetB p H v A) (hB : SetB p H w B) : AFn Tryd.prog F_bitset_Set_Within [v,w] H fun u H' => u = .bool (decide ((eachB (fun a b => a && !b) A B).count true = 0)) ∧ H' = H:=by
 refine AFn.calm (fun H0 hs => ?_) rfl
 have kA:=hA.same hs
 have kB:=hB.same hs
 obtain ⟨sa,rfl,_,_⟩:=id kA
 obtain ⟨sb,rfl,_,_⟩:=id kB
 refine AFn.enter mixed ir_bitset_Set_Within_eq (by simp [ir_bitset_Set_Within]) fun hw => ?_
 have hk1 : Keep [] H0 ((H0.alloc (.row [.int .i64 A.length,sa] T_bitset_Set true)).alloc (.row [.int .i64 B.length,sb] T_bitset_Set true)):=.new_alloc .alloc
 simp (disch:=omega) [-getElem?_pos,if_pos,if_neg,decide_eq_true,decide_eq_false,ir_bitset_Set_Within,cut]
 refine (Less_spec (kA.kept hw hk1) (kB.kept hw hk1)).mono' fun u H2 w2 ⟨h2,k2⟩ => ?_
 simp (disch:=omega) [-getElem?_pos,if_pos,if_neg,decide_eq_true,decide_eq_false,]
 refine AFn.pure (Count_spec h2) ?_
 simp (disch:=omega) [-getElem?_pos,if_pos,if_neg,decide_eq_true,decide_eq_false,]
end
end Go.Proofs.YtejifalflkbekaaDoor.Bs
/-
 Contracts of package bitset (3): New,Full,List.
-/
set_option maxRecDepth 100000
set_option linter.unusedSimpArgs false
set_option linter.unusedVariables false
namespace Go.Proofs.YtejifalflkbekaaDoor.Bs
open Go Go.Abs
def sizeOk (s : Int) : Bool:=decide (0 ≤ s ∧ s ≤ 4096)
def nOk (s : Int) : Nat:=if sizeOk s then s.toNat else 0
def eOk (s : Int) : Int:=if sizeOk s then 0 else 2
def NewPost (H : AH) (s : Int) (u : Value) (H' : AH) : Prop :=
 ∃ sl S,u = .tuple #[.agg #[.int .i64 (nOk s),sl],.int .i64 (eOk s)] ∧ Own H' T_uint64 1 sl (nw (nOk s)) ((words (List.replicate (nOk s) false)).map uv) S ∧ Keep [] H H' ∧ (∀ b ∈ S,H.next ≤ b)
theorem zeros_uv (n : Nat) : zeros [uv 0] n = (List.replicate n 0).map uv:=by
 induction n with
 | zero => rfl
 | succ n ih => simp only [zeros,ih,List.replicate_succ,List.map_cons]; rfl
theorem wb_false (n k : Nat) : wb (List.replicate n false) k = 0:=by
 refine (wb_eq (x:=0) (by omega) fun j hj => ?_).symm
 rw [Nat.zero_testBit,List.getD_eq_getElem?_getD,List.getElem?_replicate]
 split <;> rfl
theorem words_false (n : Nat) : words (List.replicate n false) = List.replicate (nw n) 0:=by
 unfold words
 rw [List.length_replicate,show (wb (List.replicate n false)) = fun _ => 0 from funext (wb_false n)]
 rw [List.map_const',List.length_range]
theorem New_spec {H : AH} (s : Int) (hs : -9223372036854775808 ≤ s ∧ s ≤ 9223372036854775807) : AFn Tryd.prog F_bitset_New [.int .i64 s] H (NewPost H s):=by
 refine AFn.enter mixed ir_bitset_New_eq (by simp [ir_bitset_New]) fun hw => ?_
 have hbad : sizeOk s = false → ∀ H',Keep [] H H' → NewPost H s (.tuple #[.agg #[.int .i64 0,.slice none 0 0],.int .i64 2]) H':=by
  intro h H' hk
  have e1 : nOk s = 0:=by simp [nOk,h]
  have e2 : eOk s = 2:=by simp [eOk,h]
  unfold NewPost
  rw [e1,e2]
  exact ⟨_,[],rfl,.nil,hk,by simp⟩
 by_cases h0 : s < 0
 ·have : sizeOk s = false:=by simp [sizeOk]; omega
  simp (disch:=omega) [-getElem?_pos,if_pos,if_neg,decide_eq_true,decide_eq_false,ir_bitset_New,writeA,cut]
  exact hbad this _ .alloc
 ·by_cases h1 : s > 4096
  ·have : sizeOk s = false:=by simp [sizeOk]; omega
   simp (disch:=omega) [-getElem?_pos,if_pos,if_neg,decide_eq_true,decide_eq_false,ir_bitset_New,writeA,cut]
   exact hbad this _ .alloc
  ·have hok : sizeOk s = true:=by simp [sizeOk]; omega
   obtain ⟨n,rfl⟩:=Int.eq_ofNat_of_zero_le (show 0 ≤ s by omega)
   have hq : ((n : Int) + 64 - 1).tdiv 64 = ((nw n : Nat) : Int):=by
    rw [show (n : Int) + 64 - 1 = ((n + 63 : Nat) : Int) by omega,tq64]; rfl
   have hnn : nw n ≤ 65:=by unfold nw; omega
   have e1 : nOk (n : Int) = n:=by simp [nOk,hok]
   have e2 : eOk (n : Int) = 0:=by simp [eOk,hok]
   clear hbad
   simp (disch:=omega) [-getElem?_pos,if_pos,if_neg,decide_eq_true,decide_eq_false,ir_bitset_New,writeA,cut,IntWalk.i64_in,hq]
   unfold NewPost
   rw [e1,e2]
   refine ⟨_,[H.next + 1],rfl,?_,.new_set (by omega) (.new_alloc .alloc),by simp⟩
   refine .inr ⟨H.next + 1,0,none,nw n,_,rfl,rfl,by simp; rfl,?_,Nat.le_refl _,?_,.inl rfl⟩
   ·rw [zeros_uv]; simp
   ·rw [words_false,zeros_uv,List.drop_zero,List.take_of_length_le (by simp)]
end Go.Proofs.YtejifalflkbekaaDoor.Bs
