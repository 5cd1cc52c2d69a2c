/-
  Plain law: lists that are put in order by swaps within a range.
-/
import Derived.Test.YtejifalflkbekaaDoorPiO
set_option maxRecDepth 100000
set_option linter.unusedSimpArgs false
set_option linter.unusedVariables false
namespace Go.Proofs.YtejifalflkbekaaDoor.Ps
open Go Go.Abs
inductive Sw (a b : Nat) (L : List Ent) : List Ent → Prop
 | refl : Sw a b L L
 | step {M : List Ent} (i k : Nat) (hi : a ≤ i ∧ i < b ∧ i < M.length) (hk : a ≤ k ∧ k < b ∧ k < M.length) (h : Sw a b L M) : Sw a b L (swapL M i k)
theorem Sw.trans {a b : Nat} {L M N : List Ent} (h : Sw a b L M) (k : Sw a b M N) : Sw a b L N:=by
 induction k with
 | refl => exact h
 | step i k hi hk _ ih => exact .step i k hi hk ih
theorem Sw.mono {a b a' b' : Nat} {L M : List Ent} (h : Sw a b L M) (h1 : a' ≤ a) (h2 : b ≤ b') : Sw a' b' L M:=by
 induction h with
 | refl => exact .refl
 | step i k hi hk _ ih => exact .step i k ⟨by omega,by omega,hi.2.2⟩ ⟨by omega,by omega,hk.2.2⟩ ih
theorem Sw.length {a b : Nat} {L M : List Ent} (h : Sw a b L M) : M.length = L.length:=by
 induction h with
 | refl => rfl
 | step i k hi hk _ ih => rw [swapL_length,ih]
theorem Sw.perm {a b : Nat} {L M : List Ent} (h : Sw a b L M) : M.Perm L:=by
 induction h with
 | refl => exact .refl _
 | step i k hi hk _ ih => exact (swapL_perm _ _ _).trans ih
theorem Sw.out {a b : Nat} {L M : List Ent} (h : Sw a b L M) {i : Nat} (hi : i < a ∨ b ≤ i) : getE M i = getE L i:=by
 induction h with
 | refl => rfl
 | step j k hj hk _ ih => rw [getE_swap hj.2.2 hk.2.2,sw_o (by omega) (by omega),ih]
theorem Sw.all {a b : Nat} {L M : List Ent} (h : Sw a b L M) {P : Ent → Prop} (hP : ∀ i,a ≤ i → i < b → P (getE L i)) : ∀ i,a ≤ i → i < b → P (getE M i):=by
 induction h with
 | refl => exact hP
 | step j k hj hk _ ih =>
  intro i h1 h2
  rw [getE_swap hj.2.2 hk.2.2]
  by_cases hij : i = j
  ·rw [hij,sw_l]; exact ih k hk.1 hk.2.1
  ·by_cases hik : i = k
   ·rw [hik,sw_r]; exact ih j hj.1 hj.2.1
   ·rw [sw_o hij hik]; exact ih i h1 h2
def leE (x y : Ent) : Prop:=y.lt x = false
theorem leE.refl (x : Ent) : leE x x:=isOrd.irr x
theorem leE.trans {x y z : Ent} (h1 : leE x y) (h2 : leE y z) : leE x z:=isOrd.le_trans h1 h2
theorem leE_of_lt {x y : Ent} (h : x.lt y = true) : leE x y:=isOrd.asymm h
def SrtIn (L : List Ent) (a b : Nat) : Prop:=∀ i k,a ≤ i → i < k → k < b → leE (getE L i) (getE L k)
def InsI (L : List Ent) (a i j : Nat) : Prop:=∀ p q,a ≤ p → p < q → q ≤ i → q ≠ j → leE (getE L p) (getE L q)
theorem InsI.start {L : List Ent} {a i : Nat} (h : SrtIn L a i) : InsI L a i i:=fun p q h1 h2 h3 h4 => h p q h1 h2 (by omega)
theorem InsI.done {L : List Ent} {a i j : Nat} (h : InsI L a i j) (hj : a ≤ j) (hd : j = a ∨ leE (getE L (j - 1)) (getE L j)) : SrtIn L a (i + 1):=by
 intro p q h1 h2 h3
 by_cases hq : q = j
 ·subst hq
  rcases hd with hd | hd
  ·omega
  ·by_cases hp : p = q - 1
   ·rw [hp]; exact hd
   ·exact (h p (q - 1) h1 (by omega) (by omega) (by omega)).trans hd
 ·exact h p q h1 h2 (by omega) hq
theorem InsI.step {L : List Ent} {a i j : Nat} (h : InsI L a i j) (hi : i < L.length) (hj : a < j) (hji : j ≤ i) (hl : (getE L j).lt (getE L (j - 1)) = true) : InsI (swapL L j (j - 1)) a i (j - 1):=by
 intro p q h1 h2 h3 h4
 rw [getE_swap (by omega) (by omega)]
 by_cases hq : q = j
 ·subst hq
  rw [sw_l]
  by_cases hp : p = q - 1
  ·subst hp; rw [sw_r]; exact leE_of_lt hl
  ·rw [sw_o (by omega) hp]; exact h p (q - 1) h1 (by omega) (by omega) (by omega)
 ·rw [sw_o hq h4]
  by_cases hp : p = j
  ·subst hp; rw [sw_l]; exact h (p - 1) q (by omega) (by omega) h3 hq
  ·by_cases hp1 : p = j - 1
   ·subst hp1; rw [sw_r]; exact h j q (by omega) (by omega) h3 hq
   ·rw [sw_o hp hp1]; exact h p q h1 h2 h3 hq
def HpI (L : List Ent) (f lo hi r : Nat) : Prop :=
 (∀ j c,lo ≤ j → j ≠ r → (c = 2 * j + 1 ∨ c = 2 * j + 2) → c < hi → leE (getE L (f + c)) (getE L (f + j))) ∧
 (∀ c,lo < r → lo ≤ (r - 1) / 2 → (c = 2 * r + 1 ∨ c = 2 * r + 2) → c < hi → leE (getE L (f + c)) (getE L (f + (r - 1) / 2)))
def HpA (L : List Ent) (f lo hi : Nat) : Prop:=∀ j c,lo ≤ j → (c = 2 * j + 1 ∨ c = 2 * j + 2) → c < hi → leE (getE L (f + c)) (getE L (f + j))
theorem HpI.done {L : List Ent} {f lo hi r : Nat} (h : HpI L f lo hi r) (hd : ∀ c,(c = 2 * r + 1 ∨ c = 2 * r + 2) → c < hi → leE (getE L (f + c)) (getE L (f + r))) : HpA L f lo hi:=by
 intro j c h1 h2 h3
 by_cases hj : j = r
 ·subst hj; exact hd c h2 h3
 ·exact h.1 j c h1 hj h2 h3
theorem HpI.step {L : List Ent} {f lo hi r c : Nat} (h : HpI L f lo hi r) (hn : f + hi ≤ L.length) (hr : lo ≤ r) (hc : c = 2 * r + 1 ∨ c = 2 * r + 2) (hch : c < hi) (hb : ∀ d,(d = 2 * r + 1 ∨ d = 2 * r + 2) → d < hi → leE (getE L (f + d)) (getE L (f + c)))
  (hl : (getE L (f + r)).lt (getE L (f + c)) = true) : HpI (swapL L (f + r) (f + c)) f lo hi c:=by
 obtain ⟨h1,h2⟩:=h
 have hsw : getE (swapL L (f + r) (f + c)) = sw (getE L) (f + r) (f + c):=getE_swap (by omega) (by omega)
 rw [HpI,hsw]
 refine ⟨fun j d a1 a2 a3 a4 => ?_,fun d a1 a2 a3 a4 => ?_⟩
 ·by_cases hjr : j = r
  ·subst hjr
   rw [sw_l]
   by_cases hdc : d = c
   ·subst hdc; rw [sw_r]; exact leE_of_lt hl
   ·rw [sw_o (by omega) (by omega)]; exact hb d a3 a4
  ·by_cases hdr : d = r
   ·subst hdr
    rw [sw_l,sw_o (by omega) (by omega)]
    have hj : j = (d - 1) / 2:=by omega
    rw [hj]
    exact h2 c (by omega) (by omega) hc hch
   ·by_cases hdc : d = c
    ·omega
    ·rw [sw_o (by omega) (by omega),sw_o (by omega) (by omega)]; exact h1 j d a1 hjr a3 a4
 ·have hp : (c - 1) / 2 = r:=by omega
  rw [hp,sw_l,sw_o (by omega) (by omega)]
  exact h1 c d (by omega) (by omega) a3 a4
theorem HpA.top {L : List Ent} {f hi : Nat} (h : HpA L f 0 hi) : ∀ i,i < hi → leE (getE L (f + i)) (getE L (f + 0)):=by
 intro i
 induction i using Nat.strongRecOn with
 | ind i ih =>
  intro hi'
  by_cases h0 : i = 0
  ·subst h0; exact leE.refl _
  ·exact (h ((i - 1) / 2) i (by omega) (by omega) hi').trans (ih _ (by omega) (by omega))
def HsI (L : List Ent) (a b i : Nat) : Prop:=HpA L a 0 i ∧ (∀ p q,a ≤ p → p < q → a + i ≤ q → q < b → leE (getE L p) (getE L q))
theorem HsI.step {L : List Ent} {a b i : Nat} (h : HsI L a b (i + 1)) (hb : a + (i + 1) ≤ b) (hn : b ≤ L.length) : HpI (swapL L a (a + i)) a 0 i 0 ∧ ∀ p q,a ≤ p → p < q → a + i ≤ q → q < b → leE (getE (swapL L a (a + i)) p) (getE (swapL L a (a + i)) q):=by
 obtain ⟨h1,h2⟩:=h
 have hsw : getE (swapL L a (a + i)) = sw (getE L) a (a + i):=getE_swap (by omega) (by omega)
 have ht:=h1.top
 rw [Nat.add_zero] at ht
 rw [HpI,hsw]
 refine ⟨⟨fun j c a1 a2 a3 a4 => ?_,fun c a1 => by omega⟩,fun p q a1 a2 a3 a4 => ?_⟩
 ·rw [sw_o (by omega) (by omega),sw_o (by omega) (by omega)]; exact h1 j c (Nat.zero_le _) a3 (by omega)
 ·by_cases hq : q = a + i
  ·subst hq
   rw [sw_r]
   by_cases hp : p = a
   ·subst hp; rw [sw_l]; exact ht i (by omega)
   ·rw [sw_o hp (by omega)]
    have:=ht (p - a) (by omega)
    rw [show a + (p - a) = p by omega] at this
    exact this
  ·rw [sw_o (m:=q) (by omega) hq]
   by_cases hp : p = a
   ·subst hp
    by_cases hi0 : i = 0
    ·rw [sw_l]; exact h2 _ q (by omega) (by omega) (by omega) a4
    ·rw [sw_l]; exact h2 _ q (by omega) (by omega) (by omega) a4
   ·by_cases hp2 : p = a + i
    ·subst hp2; rw [sw_r]; exact h2 a q (Nat.le_refl _) (by omega) (by omega) a4
    ·rw [sw_o hp hp2]; exact h2 p q a1 a2 (by omega) a4
theorem HsI.mend {L M : List Ent} {a b i : Nat} (hS : Sw a (a + i) L M) (hH : HpA M a 0 i) (h : ∀ p q,a ≤ p → p < q → a + i ≤ q → q < b → leE (getE L p) (getE L q)) : HsI M a b i:=by
 refine ⟨hH,fun p q a1 a2 a3 a4 => ?_⟩
 rw [hS.out (i:=q) (.inr a3)]
 by_cases hp : p < a + i
 ·exact hS.all (P:=fun x => leE x (getE L q)) (fun j b1 b2 => h j q b1 (by omega) a3 a4) p a1 hp
 ·rw [hS.out (i:=p) (.inr (by omega))]; exact h p q a1 a2 a3 a4
def LbI (L : List Ent) (a b : Nat) : Prop:=0 < a → ∀ i,a ≤ i → i < b → leE (getE L (a - 1)) (getE L i)
theorem LbI.sw {L M : List Ent} {a b : Nat} (h : LbI L a b) (hS : Sw a b L M) : LbI M a b:=fun h0 => by
 rw [hS.out (i:=a - 1) (.inl (by omega))]
 exact hS.all (P:=fun x => leE (getE L (a - 1)) x) (h h0)
def OutI (L : List Ent) (a0 b0 a b : Nat) : Prop:=∀ p q,a0 ≤ p → p < q → q < b0 → ¬ (a ≤ p ∧ q < b) → leE (getE L p) (getE L q)
theorem OutI.sw {L M : List Ent} {a0 b0 a b : Nat} (h : OutI L a0 b0 a b) (ha : a0 ≤ a) (hb : b ≤ b0) (hS : Sw a b L M) : OutI M a0 b0 a b:=by
 intro p q h1 h2 h3 h4
 by_cases hp : a ≤ p ∧ p < b
 ·rw [hS.out (i:=q) (.inr (by omega))]
  exact hS.all (P:=fun x => leE x (getE L q)) (fun j b1 b2 => h j q (by omega) (by omega) h3 (by omega)) p hp.1 hp.2
 ·rw [hS.out (i:=p) (by omega)]
  by_cases hq : a ≤ q ∧ q < b
  ·exact hS.all (P:=fun x => leE (getE L p) x) (fun j b1 b2 => h p j h1 (by omega) (by omega) (by omega)) q hq.1 hq.2
  ·rw [hS.out (i:=q) (by omega)]; exact h p q h1 h2 h3 h4
theorem OutI.done {L : List Ent} {a0 b0 a b : Nat} (h : OutI L a0 b0 a b) (hs : SrtIn L a b) : SrtIn L a0 b0:=fun p q h1 h2 h3 => by
 by_cases hc : a ≤ p ∧ q < b
 ·exact hs p q hc.1 h2 hc.2
 ·exact h p q h1 h2 h3 hc
def PartI (L : List Ent) (a b m : Nat) : Prop:=a ≤ m ∧ m < b ∧ (∀ i,a ≤ i → i < m → leE (getE L i) (getE L m)) ∧ ∀ i,m < i → i < b → leE (getE L m) (getE L i)
theorem PartI.left {L M : List Ent} {a b m : Nat} (h : PartI L a b m) (hS : Sw a m L M) : PartI M a b m:=by
 obtain ⟨h1,h2,h3,h4⟩:=h
 refine ⟨h1,h2,fun i a1 a2 => ?_,fun i a1 a2 => ?_⟩
 ·rw [hS.out (i:=m) (.inr (Nat.le_refl _))]; exact hS.all (P:=fun x => leE x (getE L m)) h3 i a1 a2
 ·rw [hS.out (i:=m) (.inr (Nat.le_refl _)),hS.out (i:=i) (.inr (by omega))]; exact h4 i a1 a2
theorem PartI.right {L M : List Ent} {a b m : Nat} (h : PartI L a b m) (hS : Sw (m + 1) b L M) : PartI M a b m:=by
 obtain ⟨h1,h2,h3,h4⟩:=h
 refine ⟨h1,h2,fun i a1 a2 => ?_,fun i a1 a2 => ?_⟩
 ·rw [hS.out (i:=m) (.inl (by omega)),hS.out (i:=i) (.inl (by omega))]; exact h3 i a1 a2
 ·rw [hS.out (i:=m) (.inl (by omega))]; exact hS.all (P:=fun x => leE (getE L m) x) (fun j b1 b2 => h4 j (by omega) b2) i (by omega) a2
theorem OutI.left {L : List Ent} {a0 b0 a b m : Nat} (h : OutI L a0 b0 a b) (hp : PartI L a b m) (hs : SrtIn L a m) : OutI L a0 b0 (m + 1) b:=by
 intro p q h1 h2 h3 h4
 by_cases hc : a ≤ p ∧ q < b
 ·by_cases hq : q < m
  ·exact hs p q hc.1 h2 hq
  ·have hpm : p ≤ m:=by omega
   have e1 : leE (getE L p) (getE L m):=by
    by_cases he : p = m
    ·rw [he]; exact leE.refl _
    ·exact hp.2.2.1 p hc.1 (by omega)
   by_cases he : q = m
   ·rw [he]; exact e1
   ·exact e1.trans (hp.2.2.2 q (by omega) hc.2)
 ·exact h p q h1 h2 h3 hc
theorem OutI.right {L : List Ent} {a0 b0 a b m : Nat} (h : OutI L a0 b0 a b) (hp : PartI L a b m) (hs : SrtIn L (m + 1) b) : OutI L a0 b0 a m:=by
 intro p q h1 h2 h3 h4
 by_cases hc : a ≤ p ∧ q < b
 ·by_cases hpm : m < p
  ·exact hs p q (by omega) h2 hc.2
  ·have hmq : m ≤ q:=by omega
   have e1 : leE (getE L m) (getE L q):=by
    by_cases he : q = m
    ·rw [he]; exact leE.refl _
    ·exact hp.2.2.2 q (by omega) hc.2
   by_cases he : p = m
   ·rw [he]; exact e1
   ·exact (hp.2.2.1 p hc.1 (by omega)).trans e1
 ·exact h p q h1 h2 h3 hc
def EqI (L : List Ent) (a b m : Nat) : Prop:=a < m ∧ m ≤ b ∧ ∃ v,(∀ i,a ≤ i → i < m → getE L i = v) ∧ ∀ i,a ≤ i → i < b → leE v (getE L i)
theorem OutI.eq {L : List Ent} {a0 b0 a b m : Nat} (h : OutI L a0 b0 a b) (he : EqI L a b m) : OutI L a0 b0 m b:=by
 obtain ⟨e1,e2,v,e3,e4⟩:=he
 intro p q h1 h2 h3 h4
 by_cases hc : a ≤ p ∧ q < b
 ·rw [e3 p hc.1 (by omega)]; exact e4 q (by omega) hc.2
 ·exact h p q h1 h2 h3 hc
end Go.Proofs.YtejifalflkbekaaDoor.Ps
/-
 Contracts of the library's sort (1): two things change their places; insertionSort,siftDown,heapSort,reverseRange.
-/
set_option maxRecDepth 100000
set_option linter.unusedSimpArgs false
set_option linter.unusedVariables false
namespace Go.Proofs.YtejifalflkbekaaDoor.Ps
open Go Go.Abs
def DatAt (H : AH) (v : Value) (L : List Ent) (S : List Nat) : Prop:=Own H T_int 1 v L.length (cellsE L) S ∧ L.length ≤ 1000000
theorem DatAt.two0 {H : AH} {v : Value} {L : List Ent} {S : List Nat} (h : DatAt H v L S) {i k : Nat} (hi : i < L.length) (hk : k < L.length) : ∃ b off sp cap cs H1 H2,v = .slice (some ⟨b,off,sp⟩) L.length cap ∧ H.cells b = some cs ∧
  cut cs (off + i * 1) 1 = some [.int .i64 (getE L i).v] ∧ cut cs (off + k * 1) 1 = some [.int .i64 (getE L k).v] ∧
  writeA H b (off + i * 1) [.int .i64 (getE L k).v] = some H1 ∧ writeA H1 b (off + k * 1) [.int .i64 (getE L i).v] = some H2 ∧
  DatAt H2 v (swapL L i k) S ∧ Keep S H H2 ∧ (WF H → WF H2):=by
 obtain ⟨h2,hl⟩:=h
 obtain ⟨b,off,sp,cap,cs,rfl,rfl,q1,q2,q3,q4⟩:=h2.pos (by omega)
 obtain ⟨b',off',sp',cap',cs',he,hc',hall⟩:=ents_at (h2.vw (p:=fun _ => True) fun _ _ => trivial) (by omega)
 cases he
 rw [q2] at hc'
 cases hc'
 have e1:=hall i hi
 have e2:=hall k hk
 obtain ⟨p1,p2,_⟩:=h2.write q1 (k:=i * 1) (news:=(getE L k).cells) (by simp [Ent.cells]; omega)
 rw [cellsE_set L i (getE L k) hi] at p2
 have hq1' : (H.set b (.row (over cs (off + i * 1) (getE L k).cells) T_int true)).blk b = some (.row (over cs (off + i * 1) (getE L k).cells) T_int true):=AH.set_blk_same
 have p2' : Own (H.set b (.row (over cs (off + i * 1) (getE L k).cells) T_int true)) T_int 1 (.slice (some ⟨b,off,sp⟩) L.length cap) (L.set i (getE L k)).length (cellsE (L.set i (getE L k))) [b]:=by rw [List.length_set]; exact p2
 obtain ⟨p3,p4,_⟩:=p2.write hq1' (k:=k * 1) (news:=(getE L i).cells) (by simp [Ent.cells]; omega)
 rw [cellsE_set (L.set i (getE L k)) k (getE L i) (by simpa using hk)] at p4
 have hsw : swapL L i k = (L.set i (getE L k)).set k (getE L i):=by rw [swapL_eq hi hk,getE_eq hi,getE_eq hk]
 rw [← hsw] at p4
 have hn:=h2.lt
 refine ⟨b,off,sp,cap,cs,_,_,rfl,q2,e1,e2,p1,p3,⟨by rw [swapL_length]; exact p4,by rw [swapL_length]; exact hl⟩,(Keep.set (by simp)).trans' (Keep.set (by simp)),fun hw => (hw.set (hw.lt q1)).set (by simpa using hw.lt q1)⟩
theorem cut_one {cs : List Value} {n : Nat} {x : Value} (h : cut cs n 1 = some [x]) : cs[n]? = some x:=by
 obtain ⟨_,_,_,q4⟩:=cut_spec h
 have:=q4 0 (by simp)
 simpa using this
theorem DatAt.two {H : AH} {v : Value} {L : List Ent} {S : List Nat} (h : DatAt H v L S) {i k : Nat} (hi : i < L.length) (hk : k < L.length) : ∃ b off sp cap cs H1 H2,v = .slice (some ⟨b,off,sp⟩) L.length cap ∧ H.cells b = some cs ∧
  cs[off + i]? = some (.int .i64 (getE L i).v) ∧ cs[off + k]? = some (.int .i64 (getE L k).v) ∧
  writeA H b (off + i) [.int .i64 (getE L k).v] = some H1 ∧ writeA H1 b (off + k) [.int .i64 (getE L i).v] = some H2 ∧
  DatAt H2 v (swapL L i k) S ∧ Keep S H H2 ∧ (WF H → WF H2):=by
 obtain ⟨b,off,sp,cap,cs,H1,H2,h1,h2,h3,h4,h5,h6,h7⟩:=h.two0 hi hk
 simp only [Nat.mul_one] at h3 h4 h5 h6
 exact ⟨b,off,sp,cap,cs,H1,H2,h1,h2,cut_one h3,cut_one h4,h5,h6,h7⟩
def InsO (H : AH) (v : Value) (S : List Nat) (L : List Ent) (a b : Nat) (m : Nat) (env : Env) (H' : AH) : Prop :=
 ∃ i M,m = b - i ∧ env 0 = some v ∧ env 1 = some (.int .i64 (a : Nat)) ∧ env 2 = some (.int .i64 (b : Nat)) ∧ env 6 = some (.int .i64 (i : Nat)) ∧ WF H' ∧ Keep S H H' ∧ Sw a b L M ∧ a < i ∧ (b ≤ i → b = i ∨ b ≤ a + 1) ∧ SrtIn M a i ∧ DatAt H' v M S
def InsJ (H : AH) (v : Value) (S : List Nat) (L : List Ent) (a b i : Nat) (j : Nat) (env : Env) (H' : AH) : Prop :=
 ∃ M,env 0 = some v ∧ env 1 = some (.int .i64 (a : Nat)) ∧ env 2 = some (.int .i64 (b : Nat)) ∧ env 6 = some (.int .i64 (i : Nat)) ∧ env 7 = some (.int .i64 (j : Nat)) ∧ WF H' ∧ Keep S H H' ∧ Sw a b L M ∧ a ≤ j ∧ j ≤ i ∧ InsI M a i j ∧ DatAt H' v M S
def InsJQ (H : AH) (v : Value) (S : List Nat) (L : List Ent) (a b i : Nat) (ex : AExit) (env : Env) (H' : AH) : Prop :=
 ex = .exit 2 ∧ ∃ M,env 0 = some v ∧ env 1 = some (.int .i64 (a : Nat)) ∧ env 2 = some (.int .i64 (b : Nat)) ∧ env 6 = some (.int .i64 (i : Nat)) ∧ WF H' ∧ Keep S H H' ∧ Sw a b L M ∧ SrtIn M a (i + 1) ∧ DatAt H' v M S
def SortQ (H : AH) (v : Value) (S : List Nat) (L : List Ent) (a b : Nat) (u : Value) (H' : AH) : Prop:=∃ M,Sw a b L M ∧ SrtIn M a b ∧ DatAt H' v M S ∧ Keep S H H'
def SwQ (H : AH) (v : Value) (S : List Nat) (L : List Ent) (a b : Nat) (u : Value) (H' : AH) : Prop:=∃ M,Sw a b L M ∧ DatAt H' v M S ∧ Keep S H H'
theorem insertion_l0 {H0 H : AH} {v : Value} {S : List Nat} {L : List Ent} {a b i : Nat} (hb : b ≤ L.length) (hib : i < b) {env : Env} (h : InsJ H0 v S L a b i i env H) : wpC Tryd.prog 49 (.loop ir_slices_insertionSortOrdered_int_l0) (InsJQ H0 v S L a b i) env H:=by
 refine loop_rule (InsJ H0 v S L a b i) (Q:=InsJQ H0 v S L a b i) ?_ (j:=i) h
 rintro j env H' ⟨M,e0,e1,e2,e8,e9,w',k',hS,haj,hji,hI,hD⟩
 have hMl:=hS.length
 have hD2:=hD.2
 by_cases hlt : a < j
 ·obtain ⟨m,hm⟩ : ∃ m,m = j - 1:=⟨_,rfl⟩
  have hmi : (j : Int) - 1 = (m : Int):=by omega
  obtain ⟨bb,off,sp,cap,cs,H1,H2,rfl,q1,q2,q3,q4,q5,hD',hk',hw'⟩:=hD.two (i:=j) (k:=m) (by omega) (by omega)
  have hst:=hI.step (by omega) hlt hji
  have hdn:=hI.done haj
  rw [← hm] at hst hdn
  cases hx : (getE M j).lt (getE M m) with
  | true =>
   have ho:=hx
   have h1:=hst hx
   generalize getE M j = x at *
   generalize getE M m = y at *
   simp (disch:=omega) [-getElem?_pos,if_pos,if_neg,decide_eq_true,decide_eq_false,ir_slices_insertionSortOrdered_int_l0,e0,e1,e2,e8,e9,hmi,q1,q2,q3,IntWalk.i64_in,show (a:Int) < (j:Int) by omega,show (j:Int) < (M.length:Int) by omega,show (m:Int) < (M.length:Int) by omega]
   refine AFnD.of (LessI_spec x y) ?_
   simp (disch:=omega) [-getElem?_pos,if_pos,if_neg,decide_eq_true,decide_eq_false,ho,e0,e1,e2,e8,e9,hmi,q1,q2,q3,q4,q5,IntWalk.i64_in,show (j:Int) < (M.length:Int) by omega,show (m:Int) < (M.length:Int) by omega]
   refine ⟨m,by omega,swapL M j m,?_⟩
   exact ⟨by simp [e0],by simp [e1],by simp [e2],by simp [e8],by simp,hw' w',k'.trans' hk',.step j m ⟨by omega,by omega,by omega⟩ ⟨by omega,by omega,by omega⟩ hS,by omega,by omega,h1,hD'⟩
  | false =>
   have ho:=hx
   have h1:=hdn (.inr hx)
   generalize getE M j = x at *
   generalize getE M m = y at *
   simp (disch:=omega) [-getElem?_pos,if_pos,if_neg,decide_eq_true,decide_eq_false,ir_slices_insertionSortOrdered_int_l0,e0,e1,e2,e8,e9,hmi,q1,q2,q3,IntWalk.i64_in,show (a:Int) < (j:Int) by omega,show (j:Int) < (M.length:Int) by omega,show (m:Int) < (M.length:Int) by omega]
   refine AFnD.of (LessI_spec x y) ?_
   simp (disch:=omega) [-getElem?_pos,if_pos,if_neg,decide_eq_true,decide_eq_false,ho]
   exact ⟨rfl,M,e0,e1,e2,e8,w',k',hS,h1,hD⟩
 ·have h1:=hI.done haj (.inl (by omega))
  simp (disch:=omega) [-getElem?_pos,if_pos,if_neg,decide_eq_true,decide_eq_false,ir_slices_insertionSortOrdered_int_l0,e0,e1,e2,e8,e9,show ¬ (a:Int) < (j:Int) by omega]
  exact ⟨rfl,M,e0,e1,e2,e8,w',k',hS,h1,hD⟩
theorem insertion_spec {H : AH} {v : Value} {L : List Ent} {S : List Nat} (h : DatAt H v L S) {a b : Nat} (hab : a ≤ b) (hb : b ≤ L.length) : AFn Tryd.prog F_slices_insertionSortOrdered_int [v,.int .i64 a,.int .i64 b] H (SortQ H v S L a b):=by
 have hl:=h.2
 refine AFn.enter mixed ir_slices_insertionSortOrdered_int_eq (by simp [ir_slices_insertionSortOrdered_int]) fun hw => ?_
 obtain ⟨sa,sc,rfl⟩:=h.1.slice
 simp (disch:=omega) [-getElem?_pos,if_pos,if_neg,decide_eq_true,decide_eq_false,ir_slices_insertionSortOrdered_int,IntWalk.i64_in]
 refine wpC_use (loop_rule (InsO H (.slice sa L.length sc) S L a b) (Q:=fun ex env H' => ex = .exit 0 ∧ SortQ H (.slice sa L.length sc) S L a b .nilIface H') ?_ (j:=b - (a + 1)) ⟨a + 1,L,rfl,by simp,by simp,by simp,by simp,hw,.refl,.refl,by omega,by omega,fun p q h1 h2 h3 => by omega,h⟩) fun ex env2 H2 ⟨hex,hq⟩ _ => ?_
 ·rintro m env H' ⟨i,M,hm,e0,e1,e2,e8,w',k',hS,hai,hbi,hs,hD⟩
  by_cases hib : i < b
  ·simp (disch:=omega) [-getElem?_pos,if_pos,if_neg,decide_eq_true,decide_eq_false,ir_slices_insertionSortOrdered_int_l1,e0,e1,e2,e8,show (i:Int) < (b:Int) by omega]
   refine wpC_use (insertion_l0 (H0:=H) (L:=L) (S:=S) (i:=i) hb hib ⟨M,by simp [e0],by simp [e1],by simp [e2],by simp [e8],by simp,w',k',hS,by omega,by omega,.start hs,hD⟩) fun ex env2 H2 ⟨he,M2,f0,f1,f2,f8,w2,k2,hS2,hs2,hD2⟩ _ => ?_
   subst he
   simp (disch:=omega) [-getElem?_pos,if_pos,if_neg,decide_eq_true,decide_eq_false,f0,f1,f2,f8,IntWalk.i64_in]
   exact ⟨b - (i + 1),by omega,i + 1,M2,rfl,by simp [f0],by simp [f1],by simp [f2],by simp,w2,k2,hS2,by omega,by omega,hs2,hD2⟩
  ·simp (disch:=omega) [-getElem?_pos,if_pos,if_neg,decide_eq_true,decide_eq_false,ir_slices_insertionSortOrdered_int_l1,e0,e1,e2,e8,show ¬ (i:Int) < (b:Int) by omega]
   refine ⟨M,hS,fun p q h1 h2 h3 => ?_,hD,k'⟩
   exact hs p q h1 h2 (by omega)
 ·subst hex
  simp (disch:=omega) [-getElem?_pos,if_pos,if_neg,decide_eq_true,decide_eq_false,]
  exact hq
end Go.Proofs.YtejifalflkbekaaDoor.Ps
/-
 Contracts of the library's sort (2): siftDown,heapSort,reverseRange.
-/
set_option maxRecDepth 100000
set_option linter.unusedSimpArgs false
set_option linter.unusedVariables false
namespace Go.Proofs.YtejifalflkbekaaDoor.Ps
open Go Go.Abs
def SiftI (H : AH) (v : Value) (S : List Nat) (L : List Ent) (f lo hi : Nat) (m : Nat) (env : Env) (H' : AH) : Prop :=
 ∃ r M,m = hi - r ∧ env 0 = some v ∧ env 2 = some (.int .i64 (hi : Nat)) ∧ env 3 = some (.int .i64 (f : Nat)) ∧ env 8 = some (.int .i64 (r : Nat)) ∧ WF H' ∧ Keep S H H' ∧ Sw f (f + hi) L M ∧ lo ≤ r ∧ r ≤ 1000000 ∧ HpI M f lo hi r ∧ DatAt H' v M S
def SiftQ (H : AH) (v : Value) (S : List Nat) (L : List Ent) (f lo hi : Nat) (u : Value) (H' : AH) : Prop:=∃ M,Sw f (f + hi) L M ∧ HpA M f lo hi ∧ DatAt H' v M S ∧ Keep S H H'
def SiftE (H : AH) (v : Value) (S : List Nat) (L : List Ent) (f lo hi : Nat) (ex : AExit) (env : Env) (H' : AH) : Prop:=(ex = .exit 0 ∨ ex = .ret) ∧ SiftQ H v S L f lo hi .nilIface H'
theorem siftDown_t {H H' : AH} {v : Value} {L M : List Ent} {S : List Nat} {f lo hi r m : Nat} {env : Env} (hn : f + hi ≤ L.length) (hl : L.length ≤ 1000000) (hm : m = hi - r) (e0 : env 0 = some v) (e2 : env 2 = some (.int .i64 (hi : Nat))) (e3 : env 3 = some (.int .i64 (f : Nat))) (e10 : env 8 = some (.int .i64 (r : Nat))) (w' : WF H') (k' : Keep S H H') (hS : Sw f (f + hi) L M) (hlr : lo ≤ r) (hr6 : r ≤ 1000000) (hI : HpI M f lo hi r) (hD : DatAt H' v M S) (hdh : 2 * r + 2 < hi) (hx : (getE M (f + (2 * r + 1))).lt (getE M (f + (2 * r + 2))) = true) :
  wpC Tryd.prog 82 ir_slices_siftDownOrdered_int_l0 (fun e env H' => match e with
   | .normal => ∃ j',j' < m ∧ SiftI H v S L f lo hi j' env H'
   | e => SiftE H v S L f lo hi e env H') env H':=by
 have hMl:=hS.length
 obtain ⟨c,hc⟩ : ∃ c,c = 2 * r + 1:=⟨_,rfl⟩
 have hci : 2 * (r : Int) + 1 = (c : Int):=by omega
 obtain ⟨fr,hfr⟩ : ∃ fr,fr = f + r:=⟨_,rfl⟩
 obtain ⟨fc,hfc⟩ : ∃ fc,fc = f + c:=⟨_,rfl⟩
 have hfri : (f : Int) + (r : Int) = (fr : Int):=by omega
 have hfci : (f : Int) + (c : Int) = (fc : Int):=by omega
 obtain ⟨fd,hfd⟩ : ∃ fd,fd = f + (c + 1):=⟨_,rfl⟩
 have hfdi : (fc : Int) + 1 = (fd : Int):=by omega
 obtain ⟨bb,off,sp,cap,cs,_,_,hv,q1,q2,q3,_,_,_,_,_⟩:=hD.two (i:=fc) (k:=fd) (by omega) (by omega)
 obtain ⟨dd,hdd⟩ : ∃ dd,dd = c + 1:=⟨_,rfl⟩
 rw [← hdd] at hfd
 rw [← hc,← hfc,show 2 * r + 2 = dd by omega,← hfd] at hx
 have ho:=hx
 have hbest : ∀ d,(d = 2 * r + 1 ∨ d = 2 * r + 2) → d < hi → leE (getE M (f + d)) (getE M (f + dd)):=fun d h1 h2 => by
  rcases h1 with h1 | h1
  ·rw [h1,← hc,← hfc,← hfd]; exact leE_of_lt hx
  ·rw [show d = dd by omega]; exact leE.refl _
 clear hx
 generalize hgx : getE M fc = xc at *
 cases hv
 obtain ⟨bb',off',sp',cap',cs',H1,H2,hv,q1',p2,p3,p4,p5,hD',hk',hw'⟩:=hD.two (i:=fr) (k:=fd) (by omega) (by omega)
 cases hv
 rw [q1] at q1'
 cases q1'
 have hdi : (c : Int) + 1 = (dd : Int):=by omega
 have hfdi2 : (f : Int) + (dd : Int) = (fd : Int):=by omega
 have hddh : dd < hi:=by omega
 clear hgx
 have hst : (getE M fr).lt (getE M fd) = true → HpI (swapL M fr fd) f lo hi (dd):=fun hz => by
  have:=hI.step (c:=dd) (by omega) hlr (by omega) (by omega) hbest (by rw [← hfr,← hfd]; exact hz)
  rw [← hfr,← hfd] at this
  exact this
 have hdn : (getE M fr).lt (getE M fd) = false → HpA M f lo hi:=fun hz => hI.done fun d h1 h2 => (hbest d h1 h2).trans (by rw [← hfr,← hfd]; exact hz)
 have hS' : Sw f (f + hi) L (swapL M fr fd):=.step fr fd ⟨by omega,by omega,by omega⟩ ⟨by omega,by omega,by omega⟩ hS
 have b1 : fr < M.length ∧ fd < M.length:=by omega
 clear hbest hI
 generalize swapL M fr fd = N at *
 generalize getE M fr = xr at *
 generalize getE M fd = xd at *
 simp (disch:=omega) [-getElem?_pos,if_pos,if_neg,decide_eq_true,decide_eq_false,ir_slices_siftDownOrdered_int_l0,e0,e2,e3,e10,hci,hfri,hfci,hfdi,hdi,q1,q2,q3,IntWalk.i64_in,show ¬ (hi:Int) ≤ (c:Int) by omega,show (dd:Int) < (hi:Int) by omega,show (fc:Int) < (M.length:Int) by omega,show (fd:Int) < (M.length:Int) by omega]
 refine AFnD.of (LessI_spec xc xd) ?_
 simp (disch:=omega) [-getElem?_pos,if_pos,if_neg,decide_eq_true,decide_eq_false,ho,e0,e2,e3,e10,hci,hfri,hfdi2,hdi,q1,p2,p3,IntWalk.i64_in,show (fr:Int) < (M.length:Int) by omega,show (fd:Int) < (M.length:Int) by omega]
 refine AFnD.of (LessI_spec xr xd) ?_
 cases hz : xr.lt xd with
 | true =>
  have hoz:=hz
  simp (disch:=omega) [-getElem?_pos,if_pos,if_neg,decide_eq_true,decide_eq_false,hoz,e0,e2,e3,e10,hci,hfri,hfdi2,hdi,q1,p2,p3,p4,p5,IntWalk.i64_in,show (fr:Int) < (M.length:Int) by omega,show (fd:Int) < (M.length:Int) by omega]
  have z1 : hi - dd < m:=by omega
  have z2 : lo ≤ dd ∧ dd ≤ 1000000:=by omega
  have z3:=hst hz
  have z4:=hw' w'
  have z5:=k'.trans' hk'
  refine ⟨hi - dd,z1,dd,N,rfl,?_,?_,?_,?_,z4,z5,hS',z2.1,z2.2,z3,hD'⟩
  ·simp [e0]
  ·simp [e2]
  ·simp [e3]
  ·simp
 | false =>
  have hoz:=hz
  simp (disch:=omega) [-getElem?_pos,if_pos,if_neg,decide_eq_true,decide_eq_false,hoz]
  exact ⟨.inr rfl,M,hS,hdn hz,hD,k'⟩
theorem siftDown_f {H H' : AH} {v : Value} {L M : List Ent} {S : List Nat} {f lo hi r m : Nat} {env : Env} (hn : f + hi ≤ L.length) (hl : L.length ≤ 1000000) (hm : m = hi - r) (e0 : env 0 = some v) (e2 : env 2 = some (.int .i64 (hi : Nat))) (e3 : env 3 = some (.int .i64 (f : Nat))) (e10 : env 8 = some (.int .i64 (r : Nat))) (w' : WF H') (k' : Keep S H H') (hS : Sw f (f + hi) L M) (hlr : lo ≤ r) (hr6 : r ≤ 1000000) (hI : HpI M f lo hi r) (hD : DatAt H' v M S) (hdh : 2 * r + 2 < hi) (hx : (getE M (f + (2 * r + 1))).lt (getE M (f + (2 * r + 2))) = false) :
  wpC Tryd.prog 82 ir_slices_siftDownOrdered_int_l0 (fun e env H' => match e with
   | .normal => ∃ j',j' < m ∧ SiftI H v S L f lo hi j' env H'
   | e => SiftE H v S L f lo hi e env H') env H':=by
 have hMl:=hS.length
 obtain ⟨c,hc⟩ : ∃ c,c = 2 * r + 1:=⟨_,rfl⟩
 have hci : 2 * (r : Int) + 1 = (c : Int):=by omega
 obtain ⟨fr,hfr⟩ : ∃ fr,fr = f + r:=⟨_,rfl⟩
 obtain ⟨fc,hfc⟩ : ∃ fc,fc = f + c:=⟨_,rfl⟩
 have hfri : (f : Int) + (r : Int) = (fr : Int):=by omega
 have hfci : (f : Int) + (c : Int) = (fc : Int):=by omega
 obtain ⟨fd,hfd⟩ : ∃ fd,fd = f + (c + 1):=⟨_,rfl⟩
 have hfdi : (fc : Int) + 1 = (fd : Int):=by omega
 obtain ⟨bb,off,sp,cap,cs,_,_,hv,q1,q2,q3,_,_,_,_,_⟩:=hD.two (i:=fc) (k:=fd) (by omega) (by omega)
 rw [← hc,← hfc,show 2 * r + 2 = c + 1 by omega,← hfd] at hx
 have ho:=hx
 have hbest : ∀ d,(d = 2 * r + 1 ∨ d = 2 * r + 2) → d < hi → leE (getE M (f + d)) (getE M (f + c)):=fun d h1 h2 => by
  rcases h1 with h1 | h1
  ·rw [h1,← hc]; exact leE.refl _
  ·rw [show d = c + 1 by omega,← hfd,← hfc]; exact hx
 clear hx
 generalize hgx : getE M fd = xd at *
 cases hv
 obtain ⟨bb',off',sp',cap',cs',H1,H2,hv,q1',p2,p3,p4,p5,hD',hk',hw'⟩:=hD.two (i:=fr) (k:=fc) (by omega) (by omega)
 cases hv
 rw [q1] at q1'
 cases q1'
 clear hgx
 have hst : (getE M fr).lt (getE M fc) = true → HpI (swapL M fr fc) f lo hi (c):=fun hz => by
  have:=hI.step (c:=c) (by omega) hlr (by omega) (by omega) hbest (by rw [← hfr,← hfc]; exact hz)
  rw [← hfr,← hfc] at this
  exact this
 have hdn : (getE M fr).lt (getE M fc) = false → HpA M f lo hi:=fun hz => hI.done fun d h1 h2 => (hbest d h1 h2).trans (by rw [← hfr,← hfc]; exact hz)
 have hS' : Sw f (f + hi) L (swapL M fr fc):=.step fr fc ⟨by omega,by omega,by omega⟩ ⟨by omega,by omega,by omega⟩ hS
 have b1 : fr < M.length ∧ fc < M.length:=by omega
 clear hbest hI
 generalize swapL M fr fc = N at *
 generalize getE M fr = xr at *
 generalize getE M fc = xc at *
 simp (disch:=omega) [-getElem?_pos,if_pos,if_neg,decide_eq_true,decide_eq_false,ir_slices_siftDownOrdered_int_l0,e0,e2,e3,e10,hci,hfri,hfci,hfdi,q1,q2,q3,IntWalk.i64_in,show ¬ (hi:Int) ≤ (c:Int) by omega,show (c:Int) + 1 < (hi:Int) by omega,show (fc:Int) < (M.length:Int) by omega,show (fd:Int) < (M.length:Int) by omega]
 refine AFnD.of (LessI_spec xc xd) ?_
 simp (disch:=omega) [-getElem?_pos,if_pos,if_neg,decide_eq_true,decide_eq_false,ho,e0,e2,e3,e10,hci,hfri,hfci,hci,q1,p2,p3,IntWalk.i64_in,show (fr:Int) < (M.length:Int) by omega,show (fc:Int) < (M.length:Int) by omega]
 refine AFnD.of (LessI_spec xr xc) ?_
 cases hz : xr.lt xc with
 | true =>
  have hoz:=hz
  simp (disch:=omega) [-getElem?_pos,if_pos,if_neg,decide_eq_true,decide_eq_false,hoz,e0,e2,e3,e10,hci,hfri,hfci,hci,q1,p2,p3,p4,p5,IntWalk.i64_in,show (fr:Int) < (M.length:Int) by omega,show (fc:Int) < (M.length:Int) by omega]
  have z1 : hi - c < m:=by omega
  have z2 : lo ≤ c ∧ c ≤ 1000000:=by omega
  have z3:=hst hz
  have z4:=hw' w'
  have z5:=k'.trans' hk'
  refine ⟨hi - c,z1,c,N,rfl,?_,?_,?_,?_,z4,z5,hS',z2.1,z2.2,z3,hD'⟩
  ·simp [e0]
  ·simp [e2]
  ·simp [e3]
  ·simp
 | false =>
  have hoz:=hz
  simp (disch:=omega) [-getElem?_pos,if_pos,if_neg,decide_eq_true,decide_eq_false,hoz]
  exact ⟨.inr rfl,M,hS,hdn hz,hD,k'⟩
theorem siftDown_1 {H H' : AH} {v : Value} {L M : List Ent} {S : List Nat} {f lo hi r m : Nat} {env : Env} (hn : f + hi ≤ L.length) (hl : L.length ≤ 1000000) (hm : m = hi - r) (e0 : env 0 = some v) (e2 : env 2 = some (.int .i64 (hi : Nat))) (e3 : env 3 = some (.int .i64 (f : Nat))) (e10 : env 8 = some (.int .i64 (r : Nat))) (w' : WF H') (k' : Keep S H H') (hS : Sw f (f + hi) L M) (hlr : lo ≤ r) (hr6 : r ≤ 1000000) (hI : HpI M f lo hi r) (hD : DatAt H' v M S) (hdh : 2 * r + 2 = hi) :
  wpC Tryd.prog 82 ir_slices_siftDownOrdered_int_l0 (fun e env H' => match e with
   | .normal => ∃ j',j' < m ∧ SiftI H v S L f lo hi j' env H'
   | e => SiftE H v S L f lo hi e env H') env H':=by
 have hMl:=hS.length
 obtain ⟨c,hc⟩ : ∃ c,c = 2 * r + 1:=⟨_,rfl⟩
 have hci : 2 * (r : Int) + 1 = (c : Int):=by omega
 obtain ⟨fr,hfr⟩ : ∃ fr,fr = f + r:=⟨_,rfl⟩
 obtain ⟨fc,hfc⟩ : ∃ fc,fc = f + c:=⟨_,rfl⟩
 have hfri : (f : Int) + (r : Int) = (fr : Int):=by omega
 have hfci : (f : Int) + (c : Int) = (fc : Int):=by omega
 have hbest : ∀ d,(d = 2 * r + 1 ∨ d = 2 * r + 2) → d < hi → leE (getE M (f + d)) (getE M (f + c)):=fun d h1 h2 => by
  rw [show d = c by omega]; exact leE.refl _
 obtain ⟨bb',off',sp',cap',cs',H1,H2,hv,q1,p2,p3,p4,p5,hD',hk',hw'⟩:=hD.two (i:=fr) (k:=fc) (by omega) (by omega)
 cases hv
 have hst : (getE M fr).lt (getE M fc) = true → HpI (swapL M fr fc) f lo hi (c):=fun hz => by
  have:=hI.step (c:=c) (by omega) hlr (by omega) (by omega) hbest (by rw [← hfr,← hfc]; exact hz)
  rw [← hfr,← hfc] at this
  exact this
 have hdn : (getE M fr).lt (getE M fc) = false → HpA M f lo hi:=fun hz => hI.done fun d h1 h2 => (hbest d h1 h2).trans (by rw [← hfr,← hfc]; exact hz)
 have hS' : Sw f (f + hi) L (swapL M fr fc):=.step fr fc ⟨by omega,by omega,by omega⟩ ⟨by omega,by omega,by omega⟩ hS
 have b1 : fr < M.length ∧ fc < M.length:=by omega
 clear hbest hI
 generalize swapL M fr fc = N at *
 generalize getE M fr = xr at *
 generalize getE M fc = xc at *
 simp (disch:=omega) [-getElem?_pos,if_pos,if_neg,decide_eq_true,decide_eq_false,ir_slices_siftDownOrdered_int_l0,e0,e2,e3,e10,hci,hfri,hfci,q1,p2,p3,IntWalk.i64_in,show ¬ (hi:Int) ≤ (c:Int) by omega,show ¬ (c:Int) + 1 < (hi:Int) by omega,show (fr:Int) < (M.length:Int) by omega,show (fc:Int) < (M.length:Int) by omega]
 refine AFnD.of (LessI_spec xr xc) ?_
 cases hz : xr.lt xc with
 | true =>
  have hoz:=hz
  simp (disch:=omega) [-getElem?_pos,if_pos,if_neg,decide_eq_true,decide_eq_false,hoz,e0,e2,e3,e10,hci,hfri,hfci,hci,q1,p2,p3,p4,p5,IntWalk.i64_in,show (fr:Int) < (M.length:Int) by omega,show (fc:Int) < (M.length:Int) by omega]
  have z1 : hi - c < m:=by omega
  have z2 : lo ≤ c ∧ c ≤ 1000000:=by omega
  have z3:=hst hz
  have z4:=hw' w'
  have z5:=k'.trans' hk'
  refine ⟨hi - c,z1,c,N,rfl,?_,?_,?_,?_,z4,z5,hS',z2.1,z2.2,z3,hD'⟩
  ·simp [e0]
  ·simp [e2]
  ·simp [e3]
  ·simp
 | false =>
  have hoz:=hz
  simp (disch:=omega) [-getElem?_pos,if_pos,if_neg,decide_eq_true,decide_eq_false,hoz]
  exact ⟨.inr rfl,M,hS,hdn hz,hD,k'⟩
theorem siftDown_spec {H : AH} {v : Value} {L : List Ent} {S : List Nat} (h : DatAt H v L S) {f lo hi : Nat} (hn : f + hi ≤ L.length) (hlo : lo ≤ 1000000) (hp : HpI L f lo hi lo) : AFn Tryd.prog F_slices_siftDownOrdered_int [v,.int .i64 lo,.int .i64 hi,.int .i64 f] H (SiftQ H v S L f lo hi):=by
 have hl:=h.2
 refine AFn.enter mixed ir_slices_siftDownOrdered_int_eq (by simp [ir_slices_siftDownOrdered_int]) fun hw => ?_
 simp (disch:=omega) [-getElem?_pos,if_pos,if_neg,decide_eq_true,decide_eq_false,ir_slices_siftDownOrdered_int]
 refine wpC_use (loop_rule (SiftI H v S L f lo hi) (Q:=SiftE H v S L f lo hi) ?_ (j:=hi - lo) ⟨lo,L,rfl,by simp,by simp,by simp,by simp,hw,.refl,.refl,Nat.le_refl _,hlo,hp,h⟩) fun ex env2 H2 ⟨hex,hq⟩ _ => ?_
 ·rintro m env H' ⟨r,M,hm,e0,e2,e3,e10,w',k',hS,hlr,hr6,hI,hD⟩
  by_cases h2 : 2 * r + 2 < hi
  ·cases hx : (getE M (f + (2 * r + 1))).lt (getE M (f + (2 * r + 2))) with
   | true => exact siftDown_t hn hl hm e0 e2 e3 e10 w' k' hS hlr hr6 hI hD h2 hx
   | false => exact siftDown_f hn hl hm e0 e2 e3 e10 w' k' hS hlr hr6 hI hD h2 hx
  ·by_cases h1 : 2 * r + 2 = hi
   ·exact siftDown_1 hn hl hm e0 e2 e3 e10 w' k' hS hlr hr6 hI hD h1
   ·have hMl:=hS.length
    have hA : HpA M f lo hi:=hI.done fun c' h1 h2 => by omega
    simp (disch:=omega) [-getElem?_pos,if_pos,if_neg,decide_eq_true,decide_eq_false,ir_slices_siftDownOrdered_int_l0,e0,e2,e3,e10,IntWalk.i64_in,show (hi:Int) ≤ 2 * (r:Int) + 1 by omega]
    exact ⟨.inl rfl,M,hS,hA,hD,k'⟩
 ·rcases hex with rfl | rfl
  ·simp (disch:=omega) [-getElem?_pos,if_pos,if_neg,decide_eq_true,decide_eq_false,]
   exact hq
  ·simp (disch:=omega) [-getElem?_pos,if_pos,if_neg,decide_eq_true,decide_eq_false,]
   exact hq
def HeapBI (H : AH) (v : Value) (S : List Nat) (L : List Ent) (a b : Nat) (j : Nat) (env : Env) (H' : AH) : Prop :=
 ∃ M,env 0 = some v ∧ env 6 = some (.int .i64 (a : Nat)) ∧ env 7 = some (.int .i64 0) ∧ env 8 = some (.int .i64 (b - a : Nat)) ∧ env 9 = some (.int .i64 ((j : Int) - 1)) ∧ WF H' ∧ Keep S H H' ∧ Sw a b L M ∧ j ≤ 1000000 ∧ HpA M a j (b - a) ∧ DatAt H' v M S
def HeapSI (H : AH) (v : Value) (S : List Nat) (L : List Ent) (a b : Nat) (j : Nat) (env : Env) (H' : AH) : Prop :=
 ∃ M,env 0 = some v ∧ env 6 = some (.int .i64 (a : Nat)) ∧ env 7 = some (.int .i64 0) ∧ env 10 = some (.int .i64 ((j : Int) - 1)) ∧ WF H' ∧ Keep S H H' ∧ Sw a b L M ∧ a + j ≤ b ∧ HsI M a b j ∧ DatAt H' v M S
theorem heapSort_spec {H : AH} {v : Value} {L : List Ent} {S : List Nat} (h : DatAt H v L S) {a b : Nat} (hab : a < b) (hb : b ≤ L.length) : AFn Tryd.prog F_slices_heapSortOrdered_int [v,.int .i64 a,.int .i64 b] H (SortQ H v S L a b):=by
 have hl:=h.2
 refine AFn.enter mixed ir_slices_heapSortOrdered_int_eq (by simp [ir_slices_heapSortOrdered_int]) fun hw => ?_
 obtain ⟨n,hn⟩ : ∃ n,n = b - a:=⟨_,rfl⟩
 have hni : (b : Int) - (a : Int) = (n : Int):=by omega
 have t1 : (n : Int) - 1 = ((n - 1 : Nat) : Int):=by omega
 have t2 : ((n - 1 : Nat) : Int).tdiv 2 = (((n - 1) / 2 : Nat) : Int):=by rw [Int.tdiv_eq_ediv_of_nonneg (by omega)]; norm_cast
 have hstart : HpA L a ((n - 1) / 2 + 1) (b - a):=fun j c h1 h2 h3 => by omega
 have hb2 : (n - 1) / 2 < 1000000 ∧ n - 1 < 1000000:=by omega
 obtain ⟨n2,hn2⟩ : ∃ n2,n2 = (n - 1) / 2:=⟨_,rfl⟩
 rw [← hn2] at t2 hstart hb2
 clear hn2
 generalize hn1 : n - 1 = n1 at *
 simp (disch:=omega) [-getElem?_pos,if_pos,if_neg,decide_eq_true,decide_eq_false,ir_slices_heapSortOrdered_int,hni,t1,t2,IntWalk.i64_in]
 refine wpC_use (loop_rule (HeapBI H v S L a b) (Q:=fun ex env H' => ex = .exit 0 ∧ HeapBI H v S L a b 0 env H') ?_ (j:=n2 + 1) ⟨L,by simp,by simp,by simp,by simp [hn],by simp,hw,.refl,.refl,by omega,hstart,h⟩) fun ex env2 H2 ⟨hex,M,e0,e8,e9,e10,e11,w2,k2,hS,_,hA,hD⟩ _ => ?_
 ·rintro j env H' ⟨M,e0,e8,e9,e10,e11,w',k',hS,hj6,hA,hD⟩
  have hMl:=hS.length
  cases j with
  | zero =>
   simp (disch:=omega) [-getElem?_pos,if_pos,if_neg,decide_eq_true,decide_eq_false,ir_slices_heapSortOrdered_int_l1,e11]
   exact ⟨M,e0,e8,e9,e10,e11,w',k',hS,hj6,hA,hD⟩
  | succ j =>
   have e11' : env 9 = some (.int .i64 (j : Nat)):=by rw [e11]; congr 2; omega
   simp (disch:=omega) [-getElem?_pos,if_pos,if_neg,decide_eq_true,decide_eq_false,ir_slices_heapSortOrdered_int_l1,e0,e8,e9,e10,e11',show (0:Int) ≤ (j:Int) by omega]
   refine (siftDown_spec hD (f:=a) (lo:=j) (hi:=b - a) (by omega) (by omega) ⟨fun i c h1 h2 h3 h4 => hA i c (by omega) h3 h4,fun c h1 => by omega⟩).mono' fun u H3 w3 ⟨M3,hS3,hA3,hD3,hk3⟩ => ?_
   simp (disch:=omega) [-getElem?_pos,if_pos,if_neg,decide_eq_true,decide_eq_false,e0,e8,e9,e10,e11',IntWalk.i64_in]
   rw [show a + (b - a) = b by omega] at hS3
   exact ⟨j,by omega,M3,by simp [e0],by simp [e8],by simp [e9],by simp [e10],by simp,w3,k'.trans' hk3,hS.trans hS3,by omega,hA3,hD3⟩
 subst hex
 have hMl:=hS.length
 simp (disch:=omega) [-getElem?_pos,if_pos,if_neg,decide_eq_true,decide_eq_false,e0,e8,e9,e10,e11,← hn,t1,IntWalk.i64_in]
 refine wpC_use (loop_rule (HeapSI H v S L a b) (Q:=fun ex env H' => ex = .exit 2 ∧ HeapSI H v S L a b 0 env H') ?_ (j:=n) ⟨M,by simp [e0],by simp [e8],by simp [e9],by simp; omega,w2,k2,hS,by omega,⟨by rw [hn]; exact hA,fun p q h1 h2 h3 h4 => by omega⟩,hD⟩) fun ex env3 H3 ⟨hex,M3,f0,f8,f9,f12,w3,k3,hS3,_,hs3,hD3⟩ _ => ?_
 ·rintro j env H' ⟨M,e0,e8,e9,e12,w',k',hS,hjb,hs,hD⟩
  have hMl:=hS.length
  cases j with
  | zero =>
   simp (disch:=omega) [-getElem?_pos,if_pos,if_neg,decide_eq_true,decide_eq_false,ir_slices_heapSortOrdered_int_l0,e12]
   exact ⟨M,e0,e8,e9,e12,w',k',hS,hjb,hs,hD⟩
  | succ j =>
   have e12' : env 10 = some (.int .i64 (j : Nat)):=by rw [e12]; congr 2; omega
   obtain ⟨aj,haj⟩ : ∃ aj,aj = a + j:=⟨_,rfl⟩
   have haji : (a : Int) + (j : Int) = (aj : Int):=by omega
   obtain ⟨bb,off,sp,cap,cs,H1,H2,hv,q1,q2,q3,q4,q5,hD',hk',hw'⟩:=hD.two (i:=a) (k:=aj) (by omega) (by omega)
   cases hv
   have hst:=hs.step hjb (by omega)
   rw [← haj] at hst
   generalize getE M a = x at *
   generalize getE M aj = y at *
   simp (disch:=omega) [-getElem?_pos,if_pos,if_neg,decide_eq_true,decide_eq_false,ir_slices_heapSortOrdered_int_l0,e0,e8,e9,e12',haji,q1,q2,q3,q4,q5,IntWalk.i64_in,show (0:Int) ≤ (j:Int) by omega,show (a:Int) < (M.length:Int) by omega,show (aj:Int) < (M.length:Int) by omega]
   have hNl : (swapL M a aj).length = M.length:=swapL_length _ _ _
   have hS2 : Sw a b L (swapL M a aj):=.step a aj ⟨by omega,by omega,by omega⟩ ⟨by omega,by omega,by omega⟩ hS
   generalize swapL M a aj = N at *
   refine (siftDown_spec hD' (f:=a) (lo:=0) (hi:=j) (by omega) (by omega) hst.1).mono' fun u H4 w4 ⟨M4,hS4,hA4,hD4,hk4⟩ => ?_
   simp (disch:=omega) [-getElem?_pos,if_pos,if_neg,decide_eq_true,decide_eq_false,e0,e8,e9,e12',IntWalk.i64_in]
   have hm:=HsI.mend hS4 hA4 (by rw [haj] at hst; exact hst.2)
   refine ⟨j,by omega,M4,by simp [e0],by simp [e8],by simp [e9],by simp,w4,(k'.trans' hk').trans' hk4,hS2.trans (hS4.mono (Nat.le_refl _) (by omega)),by omega,hm,?_⟩
   exact hD4
 ·subst hex
  simp (disch:=omega) [-getElem?_pos,if_pos,if_neg,decide_eq_true,decide_eq_false,]
  exact ⟨M3,hS3,fun p q h1 h2 h3 => hs3.2 p q h1 h2 (by omega) h3,hD3,k3⟩
def RevI (H : AH) (v : Value) (S : List Nat) (L : List Ent) (a b : Nat) (m : Nat) (env : Env) (H' : AH) : Prop :=
 ∃ i j M,m = j - i ∧ env 0 = some v ∧ env 6 = some (.int .i64 (i : Nat)) ∧ env 7 = some (.int .i64 (j : Nat)) ∧ WF H' ∧ Keep S H H' ∧ Sw a b L M ∧ a ≤ i ∧ j < b ∧ i ≤ b ∧ DatAt H' v M S
theorem reverse_spec {H : AH} {v : Value} {L : List Ent} {S : List Nat} (h : DatAt H v L S) {a b : Nat} (hab : a < b) (hb : b ≤ L.length) : AFn Tryd.prog F_slices_reverseRangeOrdered_int [v,.int .i64 a,.int .i64 b] H (SwQ H v S L a b):=by
 have hl:=h.2
 refine AFn.enter mixed ir_slices_reverseRangeOrdered_int_eq (by simp [ir_slices_reverseRangeOrdered_int]) fun hw => ?_
 obtain ⟨b1,hb1⟩ : ∃ b1,b1 = b - 1:=⟨_,rfl⟩
 have hbi : (b : Int) - 1 = (b1 : Int):=by omega
 simp (disch:=omega) [-getElem?_pos,if_pos,if_neg,decide_eq_true,decide_eq_false,ir_slices_reverseRangeOrdered_int,hbi,IntWalk.i64_in]
 refine wpC_use (loop_rule (RevI H v S L a b) (Q:=fun ex env H' => ex = .exit 0 ∧ SwQ H v S L a b .nilIface H') ?_ (j:=b1 - a) ⟨a,b1,L,rfl,by simp,by simp,by simp,hw,.refl,.refl,Nat.le_refl _,by omega,by omega,h⟩) fun ex env2 H2 ⟨hex,hq⟩ _ => ?_
 ·rintro m env H' ⟨i,j,M,hm,e0,e8,e9,w',k',hS,hai,hjb,hib,hD⟩
  have hMl:=hS.length
  by_cases hij : i < j
  ·obtain ⟨bb,off,sp,cap,cs,H1,H2,hv,q1,q2,q3,q4,q5,hD',hk',hw'⟩:=hD.two (i:=i) (k:=j) (by omega) (by omega)
   cases hv
   have hNl : (swapL M i j).length = M.length:=swapL_length _ _ _
   generalize getE M i = x at *
   generalize getE M j = y at *
   obtain ⟨j1,hj1⟩ : ∃ j1,j1 = j - 1:=⟨_,rfl⟩
   have hji : (j : Int) - 1 = (j1 : Int):=by omega
   simp (disch:=omega) [-getElem?_pos,if_pos,if_neg,decide_eq_true,decide_eq_false,ir_slices_reverseRangeOrdered_int_l0,e0,e8,e9,hji,q1,q2,q3,q4,q5,IntWalk.i64_in,show (i:Int) < (j:Int) by omega,show (i:Int) < (M.length:Int) by omega,show (j:Int) < (M.length:Int) by omega]
   exact ⟨j1 - (i + 1),by omega,i + 1,j1,swapL M i j,rfl,by simp [e0],by simp,by simp,hw' w',k'.trans' hk',.step i j ⟨by omega,by omega,by omega⟩ ⟨by omega,by omega,by omega⟩ hS,by omega,by omega,by omega,hD'⟩
  ·simp (disch:=omega) [-getElem?_pos,if_pos,if_neg,decide_eq_true,decide_eq_false,ir_slices_reverseRangeOrdered_int_l0,e0,e8,e9,show ¬ (i:Int) < (j:Int) by omega]
   exact ⟨M,hS,hD,k'⟩
 ·subst hex
  simp (disch:=omega) [-getElem?_pos,if_pos,if_neg,decide_eq_true,decide_eq_false,]
  exact hq
end Go.Proofs.YtejifalflkbekaaDoor.Ps
/-
 Contracts of the library's sort (3): partition,partitionEqual.
-/
set_option maxRecDepth 100000
set_option linter.unusedSimpArgs false
set_option linter.unusedVariables false
namespace Go.Proofs.YtejifalflkbekaaDoor.Ps
open Go Go.Abs
def ParI (M : List Ent) (a b i j : Nat) (v : Ent) : Prop:=a < i ∧ a ≤ j ∧ j < b ∧ i ≤ j + 1 ∧ getE M a = v ∧ (∀ p,a < p → p < i → (getE M p).lt v = true) ∧ ∀ p,j < p → p < b → (getE M p).lt v = false
theorem ParI.up {M : List Ent} {a b i j : Nat} {v : Ent} (h : ParI M a b i j v) (hij : i ≤ j) (hl : (getE M i).lt v = true) : ParI M a b (i + 1) j v:=by
 obtain ⟨h1,h2,h3,h4,h5,h6,h7⟩:=h
 refine ⟨by omega,h2,h3,by omega,h5,fun p p1 p2 => ?_,h7⟩
 by_cases hp : p = i
 ·rw [hp]; exact hl
 ·exact h6 p p1 (by omega)
theorem ParI.down {M : List Ent} {a b i j : Nat} {v : Ent} (h : ParI M a b i j v) (hij : i ≤ j) (hl : (getE M j).lt v = false) : ParI M a b i (j - 1) v:=by
 obtain ⟨h1,h2,h3,h4,h5,h6,h7⟩:=h
 refine ⟨h1,by omega,by omega,by omega,h5,h6,fun p p1 p2 => ?_⟩
 by_cases hp : p = j
 ·rw [hp]; exact hl
 ·exact h7 p (by omega) p2
theorem ParI.swap {M : List Ent} {a b i j : Nat} {v : Ent} (h : ParI M a b i j v) (hb : b ≤ M.length) (hij : i ≤ j) (hi : (getE M i).lt v = false) (hj : (getE M j).lt v = true) : i < j ∧ ParI (swapL M i j) a b (i + 1) (j - 1) v:=by
 obtain ⟨h1,h2,h3,h4,h5,h6,h7⟩:=h
 have hne : i ≠ j:=fun hc => by rw [hc,hj] at hi; cases hi
 have hsw : getE (swapL M i j) = sw (getE M) i j:=getE_swap (by omega) (by omega)
 refine ⟨by omega,by omega,by omega,by omega,by omega,by rw [hsw,sw_o (by omega) (by omega)]; exact h5,fun p p1 p2 => ?_,fun p p1 p2 => ?_⟩
 ·rw [hsw]
  by_cases hp : p = i
  ·rw [hp,sw_l]; exact hj
  ·rw [sw_o hp (by omega)]; exact h6 p p1 (by omega)
 ·rw [hsw]
  by_cases hp : p = j
  ·rw [hp,sw_r]; exact hi
  ·rw [sw_o (by omega) hp]; exact h7 p (by omega) p2
theorem ParI.done {M : List Ent} {a b i j : Nat} {v : Ent} (h : ParI M a b i j v) (hb : b ≤ M.length) (hij : j < i) : PartI (swapL M j a) a b j:=by
 obtain ⟨h1,h2,h3,h4,h5,h6,h7⟩:=h
 have hsw : getE (swapL M j a) = sw (getE M) j a:=getE_swap (by omega) (by omega)
 refine ⟨h2,h3,fun p p1 p2 => ?_,fun p p1 p2 => ?_⟩
 ·rw [hsw,sw_l,h5]
  by_cases hp : p = a
  ·rw [hp,sw_r]
   exact leE_of_lt (h6 j (by omega) (by omega))
  ·rw [sw_o (by omega) hp]; exact leE_of_lt (h6 p (by omega) (by omega))
 ·rw [hsw,sw_l,h5,sw_o (by omega) (by omega)]; exact h7 p p1 p2
theorem parI_start {M : List Ent} {a b : Nat} (hab : a + 1 < b) : ParI M a b (a + 1) (b - 1) (getE M a):=⟨by omega,by omega,by omega,by omega,rfl,fun p p1 p2 => by omega,fun p p1 p2 => by omega⟩
def EqpI (M : List Ent) (a b i j : Nat) (v : Ent) : Prop:=a < i ∧ a ≤ j ∧ j < b ∧ i ≤ j + 1 ∧ getE M a = v ∧ (∀ p,a ≤ p → p < i → v.lt (getE M p) = false) ∧ ∀ p,a ≤ p → p < b → (getE M p).lt v = false
theorem EqpI.up {M : List Ent} {a b i j : Nat} {v : Ent} (h : EqpI M a b i j v) (hij : i ≤ j) (hl : v.lt (getE M i) = false) : EqpI M a b (i + 1) j v:=by
 obtain ⟨h1,h2,h3,h4,h5,h6,h7⟩:=h
 refine ⟨by omega,h2,h3,by omega,h5,fun p p1 p2 => ?_,h7⟩
 by_cases hp : p = i
 ·rw [hp]; exact hl
 ·exact h6 p p1 (by omega)
theorem EqpI.down {M : List Ent} {a b i j : Nat} {v : Ent} (h : EqpI M a b i j v) (hij : i ≤ j) : EqpI M a b i (j - 1) v:=by
 obtain ⟨h1,h2,h3,h4,h5,h6,h7⟩:=h
 exact ⟨h1,by omega,by omega,by omega,h5,h6,h7⟩
theorem EqpI.swap {M : List Ent} {a b i j : Nat} {v : Ent} (h : EqpI M a b i j v) (hb : b ≤ M.length) (hij : i ≤ j) (hi : v.lt (getE M i) = true) (hj : v.lt (getE M j) = false) : i < j ∧ EqpI (swapL M i j) a b (i + 1) (j - 1) v:=by
 obtain ⟨h1,h2,h3,h4,h5,h6,h7⟩:=h
 have hne : i ≠ j:=fun hc => by rw [hc,hj] at hi; cases hi
 have hsw : getE (swapL M i j) = sw (getE M) i j:=getE_swap (by omega) (by omega)
 refine ⟨by omega,by omega,by omega,by omega,by omega,by rw [hsw,sw_o (by omega) (by omega)]; exact h5,fun p p1 p2 => ?_,?_⟩
 ·rw [hsw]
  by_cases hp : p = i
  ·rw [hp,sw_l]; exact hj
  ·rw [sw_o hp (by omega)]; exact h6 p p1 (by omega)
 ·exact (Sw.step (a:=a) (b:=b) (L:=M) i j ⟨by omega,by omega,by omega⟩ ⟨by omega,by omega,by omega⟩ .refl).all (P:=fun x => x.lt v = false) h7
theorem EqpI.done {M : List Ent} {a b i j : Nat} {v : Ent} (h : EqpI M a b i j v) : EqI M a b i:=by
 obtain ⟨h1,h2,h3,h4,h5,h6,h7⟩:=h
 exact ⟨h1,by omega,v,fun p p1 p2 => isOrd.tri _ _ (h7 p p1 (by omega)) (h6 p p1 p2),h7⟩
def ScQ (x it jt : Nat) (H : AH) (v0 : Value) (a b : Nat) (R : Nat → Nat → Prop) (ex : AExit) (env : Env) (H' : AH) : Prop :=
 ex = .exit x ∧ H' = H ∧ ∃ i j,env 0 = some v0 ∧ env 1 = some (.int .i64 (a : Nat)) ∧ env 2 = some (.int .i64 (b : Nat)) ∧ env it = some (.int .i64 (i : Nat)) ∧ env jt = some (.int .i64 (j : Nat)) ∧ R i j
def ScI (it jt : Nat) (H : AH) (v0 : Value) (a b : Nat) (R : Nat → Nat → Prop) (m : Nat) (env : Env) (H' : AH) : Prop :=
 H' = H ∧ ∃ i j,m = j + 1 - i ∧ env 0 = some v0 ∧ env 1 = some (.int .i64 (a : Nat)) ∧ env 2 = some (.int .i64 (b : Nat)) ∧ env it = some (.int .i64 (i : Nat)) ∧ env jt = some (.int .i64 (j : Nat)) ∧ R i j
theorem part_l4 {H : AH} {v0 : Value} {M : List Ent} {S : List Nat} {a b i0 j0 : Nat} {v : Ent} (hD : DatAt H v0 M S) (hb : b ≤ M.length) (hR : ParI M a b i0 j0 v) {env : Env} (e0 : env 0 = some v0) (e1 : env 1 = some (.int .i64 (a : Nat))) (e2 : env 2 = some (.int .i64 (b : Nat))) (ei : env 10 = some (.int .i64 (i0 : Nat))) (ej : env 11 = some (.int .i64 (j0 : Nat))) :
  wpC Tryd.prog 168 (.loop ir_slices_partitionOrdered_int_l4) (ScQ 0 10 11 H v0 a b (fun i j => (i0 ≤ i ∧ j ≤ j0) ∧ ParI M a b i j v ∧ (j < i ∨ (getE M i).lt v = false))) env H:=by
 have hMl:=hD.2
 refine loop_rule (ScI 10 11 H v0 a b (fun i j => (i0 ≤ i ∧ j ≤ j0) ∧ ParI M a b i j v)) (Q:=ScQ 0 10 11 H v0 a b (fun i j => (i0 ≤ i ∧ j ≤ j0) ∧ ParI M a b i j v ∧ (j < i ∨ (getE M i).lt v = false))) ?_ (j:=j0 + 1 - i0) ⟨rfl,i0,j0,rfl,e0,e1,e2,ei,ej,⟨⟨Nat.le_refl _,Nat.le_refl _⟩,hR⟩⟩
 clear e0 e1 e2 ei ej hR
 rintro m env H' ⟨rfl,i,j,hm,e0,e1,e2,ei,ej,hR⟩
 obtain ⟨hij0,hR⟩:=hR
 by_cases hij : i ≤ j
 ·obtain ⟨bb,off,sp,cap,cs,_,_,hv,q1,q2,q3,_,_,_,_,_⟩:=hD.two (i:=i) (k:=a) (by unfold ParI at hR; omega) (by unfold ParI at hR; omega)
  cases hv
  have hav : getE M a = v:=hR.2.2.2.2.1
  have b1 : i < M.length ∧ a < M.length ∧ 1 ≤ j:=by unfold ParI at hR; omega
  rw [hav] at q3
  cases hz : (getE M i).lt v with
  | true =>
   have hst:=hR.up hij hz
   have ho:=hz
   clear hz
   generalize getE M i = xo at *
   simp (disch:=omega) [-getElem?_pos,if_pos,if_neg,decide_eq_true,decide_eq_false,ir_slices_partitionOrdered_int_l4,e0,e1,e2,ei,ej,q1,q2,q3,IntWalk.i64_in,show (i:Int) ≤ (j:Int) by omega,show (i:Int) < (M.length:Int) by omega,show (a:Int) < (M.length:Int) by omega]
   refine AFnD.of (LessI_spec xo v) ?_
   simp (disch:=omega) [-getElem?_pos,if_pos,if_neg,decide_eq_true,decide_eq_false,ho,e0,e1,e2,ei,ej,IntWalk.i64_in]
   have z1 : j + 1 - (i + 1) < m:=by omega
   have z0 : i0 ≤ i + 1 ∧ j ≤ j0:=by omega
   refine ⟨_,z1,rfl,i + 1,j,rfl,?_,?_,?_,?_,?_,⟨z0,hst⟩⟩
   ·simp [e0]
   ·simp [e1]
   ·simp [e2]
   ·simp
   ·simp [ej]
  | false =>
   have ho:=hz
   have hz':=hz
   clear hz
   generalize hxo : getE M i = xo at *
   simp (disch:=omega) [-getElem?_pos,if_pos,if_neg,decide_eq_true,decide_eq_false,ir_slices_partitionOrdered_int_l4,e0,e1,e2,ei,ej,q1,q2,q3,IntWalk.i64_in,show (i:Int) ≤ (j:Int) by omega,show (i:Int) < (M.length:Int) by omega,show (a:Int) < (M.length:Int) by omega]
   refine AFnD.of (LessI_spec xo v) ?_
   simp (disch:=omega) [-getElem?_pos,if_pos,if_neg,decide_eq_true,decide_eq_false,ho]
   exact ⟨rfl,rfl,i,j,e0,e1,e2,ei,ej,hij0,hR,.inr (by rw [hxo]; exact hz')⟩
 ·simp (disch:=omega) [-getElem?_pos,if_pos,if_neg,decide_eq_true,decide_eq_false,ir_slices_partitionOrdered_int_l4,e0,e1,e2,ei,ej,show ¬ (i:Int) ≤ (j:Int) by omega]
  exact ⟨rfl,rfl,i,j,e0,e1,e2,ei,ej,hij0,hR,.inl (by omega)⟩
theorem part_l3 {H : AH} {v0 : Value} {M : List Ent} {S : List Nat} {a b i0 j0 : Nat} {v : Ent} (hD : DatAt H v0 M S) (hb : b ≤ M.length) (hR : ParI M a b i0 j0 v) {env : Env} (e0 : env 0 = some v0) (e1 : env 1 = some (.int .i64 (a : Nat))) (e2 : env 2 = some (.int .i64 (b : Nat))) (ei : env 10 = some (.int .i64 (i0 : Nat))) (ej : env 11 = some (.int .i64 (j0 : Nat))) :
  wpC Tryd.prog 168 (.loop ir_slices_partitionOrdered_int_l3) (ScQ 2 10 11 H v0 a b (fun i j => (i = i0 ∧ j ≤ j0) ∧ ParI M a b i j v ∧ (j < i ∨ (getE M j).lt v = true))) env H:=by
 have hMl:=hD.2
 refine loop_rule (ScI 10 11 H v0 a b (fun i j => (i = i0 ∧ j ≤ j0) ∧ ParI M a b i j v)) (Q:=ScQ 2 10 11 H v0 a b (fun i j => (i = i0 ∧ j ≤ j0) ∧ ParI M a b i j v ∧ (j < i ∨ (getE M j).lt v = true))) ?_ (j:=j0 + 1 - i0) ⟨rfl,i0,j0,rfl,e0,e1,e2,ei,ej,⟨⟨rfl,Nat.le_refl _⟩,hR⟩⟩
 clear e0 e1 e2 ei ej hR
 rintro m env H' ⟨rfl,i,j,hm,e0,e1,e2,ei,ej,hR⟩
 obtain ⟨hij0,hR⟩:=hR
 by_cases hij : i ≤ j
 ·obtain ⟨bb,off,sp,cap,cs,_,_,hv,q1,q2,q3,_,_,_,_,_⟩:=hD.two (i:=j) (k:=a) (by unfold ParI at hR; omega) (by unfold ParI at hR; omega)
  cases hv
  have hav : getE M a = v:=hR.2.2.2.2.1
  have b1 : j < M.length ∧ a < M.length ∧ 1 ≤ j:=by unfold ParI at hR; omega
  rw [hav] at q3
  cases hz : (getE M j).lt v with
  | false =>
   have hst:=hR.down hij hz
   have ho:=hz
   clear hz
   obtain ⟨j1,hj1⟩ : ∃ j1,j1 = j - 1:=⟨_,rfl⟩
   have hji : (j : Int) - 1 = (j1 : Int):=by omega
   rw [← hj1] at hst
   generalize getE M j = xo at *
   simp (disch:=omega) [-getElem?_pos,if_pos,if_neg,decide_eq_true,decide_eq_false,ir_slices_partitionOrdered_int_l3,e0,e1,e2,ei,ej,q1,q2,q3,IntWalk.i64_in,show (i:Int) ≤ (j:Int) by omega,show (j:Int) < (M.length:Int) by omega,show (a:Int) < (M.length:Int) by omega]
   refine AFnD.of (LessI_spec xo v) ?_
   simp (disch:=omega) [-getElem?_pos,if_pos,if_neg,decide_eq_true,decide_eq_false,ho,e0,e1,e2,ei,ej,hji,IntWalk.i64_in]
   have z1 : j1 + 1 - i < m:=by omega
   have z0 : i = i0 ∧ j1 ≤ j0:=by omega
   refine ⟨_,z1,rfl,i,j1,rfl,?_,?_,?_,?_,?_,⟨z0,hst⟩⟩
   ·simp [e0]
   ·simp [e1]
   ·simp [e2]
   ·simp [ei]
   ·simp
  | true =>
   have ho:=hz
   have hz':=hz
   clear hz
   generalize hxo : getE M j = xo at *
   simp (disch:=omega) [-getElem?_pos,if_pos,if_neg,decide_eq_true,decide_eq_false,ir_slices_partitionOrdered_int_l3,e0,e1,e2,ei,ej,q1,q2,q3,IntWalk.i64_in,show (i:Int) ≤ (j:Int) by omega,show (j:Int) < (M.length:Int) by omega,show (a:Int) < (M.length:Int) by omega]
   refine AFnD.of (LessI_spec xo v) ?_
   simp (disch:=omega) [-getElem?_pos,if_pos,if_neg,decide_eq_true,decide_eq_false,ho]
   exact ⟨rfl,rfl,i,j,e0,e1,e2,ei,ej,hij0,hR,.inr (by rw [hxo]; exact hz')⟩
 ·simp (disch:=omega) [-getElem?_pos,if_pos,if_neg,decide_eq_true,decide_eq_false,ir_slices_partitionOrdered_int_l3,e0,e1,e2,ei,ej,show ¬ (i:Int) ≤ (j:Int) by omega]
  exact ⟨rfl,rfl,i,j,e0,e1,e2,ei,ej,hij0,hR,.inl (by omega)⟩
theorem part_l1 {H : AH} {v0 : Value} {M : List Ent} {S : List Nat} {a b i0 j0 : Nat} {v : Ent} (hD : DatAt H v0 M S) (hb : b ≤ M.length) (hR : ParI M a b i0 j0 v) {env : Env} (e0 : env 0 = some v0) (e1 : env 1 = some (.int .i64 (a : Nat))) (e2 : env 2 = some (.int .i64 (b : Nat))) (ei : env 10 = some (.int .i64 (i0 : Nat))) (ej : env 11 = some (.int .i64 (j0 : Nat))) :
  wpC Tryd.prog 168 (.loop ir_slices_partitionOrdered_int_l1) (ScQ 6 10 11 H v0 a b (fun i j => (i0 ≤ i ∧ j ≤ j0) ∧ ParI M a b i j v ∧ (j < i ∨ (getE M i).lt v = false))) env H:=by
 have hMl:=hD.2
 refine loop_rule (ScI 10 11 H v0 a b (fun i j => (i0 ≤ i ∧ j ≤ j0) ∧ ParI M a b i j v)) (Q:=ScQ 6 10 11 H v0 a b (fun i j => (i0 ≤ i ∧ j ≤ j0) ∧ ParI M a b i j v ∧ (j < i ∨ (getE M i).lt v = false))) ?_ (j:=j0 + 1 - i0) ⟨rfl,i0,j0,rfl,e0,e1,e2,ei,ej,⟨⟨Nat.le_refl _,Nat.le_refl _⟩,hR⟩⟩
 clear e0 e1 e2 ei ej hR
 rintro m env H' ⟨rfl,i,j,hm,e0,e1,e2,ei,ej,hR⟩
 obtain ⟨hij0,hR⟩:=hR
 by_cases hij : i ≤ j
 ·obtain ⟨bb,off,sp,cap,cs,_,_,hv,q1,q2,q3,_,_,_,_,_⟩:=hD.two (i:=i) (k:=a) (by unfold ParI at hR; omega) (by unfold ParI at hR; omega)
  cases hv
  have hav : getE M a = v:=hR.2.2.2.2.1
  have b1 : i < M.length ∧ a < M.length ∧ 1 ≤ j:=by unfold ParI at hR; omega
  rw [hav] at q3
  cases hz : (getE M i).lt v with
  | true =>
   have hst:=hR.up hij hz
   have ho:=hz
   clear hz
   generalize getE M i = xo at *
   simp (disch:=omega) [-getElem?_pos,if_pos,if_neg,decide_eq_true,decide_eq_false,ir_slices_partitionOrdered_int_l1,e0,e1,e2,ei,ej,q1,q2,q3,IntWalk.i64_in,show (i:Int) ≤ (j:Int) by omega,show (i:Int) < (M.length:Int) by omega,show (a:Int) < (M.length:Int) by omega]
   refine AFnD.of (LessI_spec xo v) ?_
   simp (disch:=omega) [-getElem?_pos,if_pos,if_neg,decide_eq_true,decide_eq_false,ho,e0,e1,e2,ei,ej,IntWalk.i64_in]
   have z1 : j + 1 - (i + 1) < m:=by omega
   have z0 : i0 ≤ i + 1 ∧ j ≤ j0:=by omega
   refine ⟨_,z1,rfl,i + 1,j,rfl,?_,?_,?_,?_,?_,⟨z0,hst⟩⟩
   ·simp [e0]
   ·simp [e1]
   ·simp [e2]
   ·simp
   ·simp [ej]
  | false =>
   have ho:=hz
   have hz':=hz
   clear hz
   generalize hxo : getE M i = xo at *
   simp (disch:=omega) [-getElem?_pos,if_pos,if_neg,decide_eq_true,decide_eq_false,ir_slices_partitionOrdered_int_l1,e0,e1,e2,ei,ej,q1,q2,q3,IntWalk.i64_in,show (i:Int) ≤ (j:Int) by omega,show (i:Int) < (M.length:Int) by omega,show (a:Int) < (M.length:Int) by omega]
   refine AFnD.of (LessI_spec xo v) ?_
   simp (disch:=omega) [-getElem?_pos,if_pos,if_neg,decide_eq_true,decide_eq_false,ho]
   exact ⟨rfl,rfl,i,j,e0,e1,e2,ei,ej,hij0,hR,.inr (by rw [hxo]; exact hz')⟩
 ·simp (disch:=omega) [-getElem?_pos,if_pos,if_neg,decide_eq_true,decide_eq_false,ir_slices_partitionOrdered_int_l1,e0,e1,e2,ei,ej,show ¬ (i:Int) ≤ (j:Int) by omega]
  exact ⟨rfl,rfl,i,j,e0,e1,e2,ei,ej,hij0,hR,.inl (by omega)⟩
theorem part_l0 {H : AH} {v0 : Value} {M : List Ent} {S : List Nat} {a b i0 j0 : Nat} {v : Ent} (hD : DatAt H v0 M S) (hb : b ≤ M.length) (hR : ParI M a b i0 j0 v) {env : Env} (e0 : env 0 = some v0) (e1 : env 1 = some (.int .i64 (a : Nat))) (e2 : env 2 = some (.int .i64 (b : Nat))) (ei : env 10 = some (.int .i64 (i0 : Nat))) (ej : env 11 = some (.int .i64 (j0 : Nat))) :
  wpC Tryd.prog 168 (.loop ir_slices_partitionOrdered_int_l0) (ScQ 8 10 11 H v0 a b (fun i j => (i = i0 ∧ j ≤ j0) ∧ ParI M a b i j v ∧ (j < i ∨ (getE M j).lt v = true))) env H:=by
 have hMl:=hD.2
 refine loop_rule (ScI 10 11 H v0 a b (fun i j => (i = i0 ∧ j ≤ j0) ∧ ParI M a b i j v)) (Q:=ScQ 8 10 11 H v0 a b (fun i j => (i = i0 ∧ j ≤ j0) ∧ ParI M a b i j v ∧ (j < i ∨ (getE M j).lt v = true))) ?_ (j:=j0 + 1 - i0) ⟨rfl,i0,j0,rfl,e0,e1,e2,ei,ej,⟨⟨rfl,Nat.le_refl _⟩,hR⟩⟩
 clear e0 e1 e2 ei ej hR
 rintro m env H' ⟨rfl,i,j,hm,e0,e1,e2,ei,ej,hR⟩
 obtain ⟨hij0,hR⟩:=hR
 by_cases hij : i ≤ j
 ·obtain ⟨bb,off,sp,cap,cs,_,_,hv,q1,q2,q3,_,_,_,_,_⟩:=hD.two (i:=j) (k:=a) (by unfold ParI at hR; omega) (by unfold ParI at hR; omega)
  cases hv
  have hav : getE M a = v:=hR.2.2.2.2.1
  have b1 : j < M.length ∧ a < M.length ∧ 1 ≤ j:=by unfold ParI at hR; omega
  rw [hav] at q3
  cases hz : (getE M j).lt v with
  | false =>
   have hst:=hR.down hij hz
   have ho:=hz
   clear hz
   obtain ⟨j1,hj1⟩ : ∃ j1,j1 = j - 1:=⟨_,rfl⟩
   have hji : (j : Int) - 1 = (j1 : Int):=by omega
   rw [← hj1] at hst
   generalize getE M j = xo at *
   simp (disch:=omega) [-getElem?_pos,if_pos,if_neg,decide_eq_true,decide_eq_false,ir_slices_partitionOrdered_int_l0,e0,e1,e2,ei,ej,q1,q2,q3,IntWalk.i64_in,show (i:Int) ≤ (j:Int) by omega,show (j:Int) < (M.length:Int) by omega,show (a:Int) < (M.length:Int) by omega]
   refine AFnD.of (LessI_spec xo v) ?_
   simp (disch:=omega) [-getElem?_pos,if_pos,if_neg,decide_eq_true,decide_eq_false,ho,e0,e1,e2,ei,ej,hji,IntWalk.i64_in]
   have z1 : j1 + 1 - i < m:=by omega
   have z0 : i = i0 ∧ j1 ≤ j0:=by omega
   refine ⟨_,z1,rfl,i,j1,rfl,?_,?_,?_,?_,?_,⟨z0,hst⟩⟩
   ·simp [e0]
   ·simp [e1]
   ·simp [e2]
   ·simp [ei]
   ·simp
  | true =>
   have ho:=hz
   have hz':=hz
   clear hz
   generalize hxo : getE M j = xo at *
   simp (disch:=omega) [-getElem?_pos,if_pos,if_neg,decide_eq_true,decide_eq_false,ir_slices_partitionOrdered_int_l0,e0,e1,e2,ei,ej,q1,q2,q3,IntWalk.i64_in,show (i:Int) ≤ (j:Int) by omega,show (j:Int) < (M.length:Int) by omega,show (a:Int) < (M.length:Int) by omega]
   refine AFnD.of (LessI_spec xo v) ?_
   simp (disch:=omega) [-getElem?_pos,if_pos,if_neg,decide_eq_true,decide_eq_false,ho]
   exact ⟨rfl,rfl,i,j,e0,e1,e2,ei,ej,hij0,hR,.inr (by rw [hxo]; exact hz')⟩
 ·simp (disch:=omega) [-getElem?_pos,if_pos,if_neg,decide_eq_true,decide_eq_false,ir_slices_partitionOrdered_int_l0,e0,e1,e2,ei,ej,show ¬ (i:Int) ≤ (j:Int) by omega]
  exact ⟨rfl,rfl,i,j,e0,e1,e2,ei,ej,hij0,hR,.inl (by omega)⟩
theorem parteq_l1 {H : AH} {v0 : Value} {M : List Ent} {S : List Nat} {a b i0 j0 : Nat} {v : Ent} (hD : DatAt H v0 M S) (hb : b ≤ M.length) (hR : EqpI M a b i0 j0 v) {env : Env} (e0 : env 0 = some v0) (e1 : env 1 = some (.int .i64 (a : Nat))) (e2 : env 2 = some (.int .i64 (b : Nat))) (ei : env 9 = some (.int .i64 (i0 : Nat))) (ej : env 10 = some (.int .i64 (j0 : Nat))) :
  wpC Tryd.prog 84 (.loop ir_slices_partitionEqualOrdered_int_l1) (ScQ 2 9 10 H v0 a b (fun i j => (i0 ≤ i ∧ j ≤ j0) ∧ EqpI M a b i j v ∧ (j < i ∨ v.lt (getE M i) = true))) env H:=by
 have hMl:=hD.2
 refine loop_rule (ScI 9 10 H v0 a b (fun i j => (i0 ≤ i ∧ j ≤ j0) ∧ EqpI M a b i j v)) (Q:=ScQ 2 9 10 H v0 a b (fun i j => (i0 ≤ i ∧ j ≤ j0) ∧ EqpI M a b i j v ∧ (j < i ∨ v.lt (getE M i) = true))) ?_ (j:=j0 + 1 - i0) ⟨rfl,i0,j0,rfl,e0,e1,e2,ei,ej,⟨⟨Nat.le_refl _,Nat.le_refl _⟩,hR⟩⟩
 clear e0 e1 e2 ei ej hR
 rintro m env H' ⟨rfl,i,j,hm,e0,e1,e2,ei,ej,hR⟩
 obtain ⟨hij0,hR⟩:=hR
 by_cases hij : i ≤ j
 ·obtain ⟨bb,off,sp,cap,cs,_,_,hv,q1,q2,q3,_,_,_,_,_⟩:=hD.two (i:=i) (k:=a) (by unfold EqpI at hR; omega) (by unfold EqpI at hR; omega)
  cases hv
  have hav : getE M a = v:=hR.2.2.2.2.1
  have b1 : i < M.length ∧ a < M.length ∧ 1 ≤ j:=by unfold EqpI at hR; omega
  rw [hav] at q3
  cases hz : v.lt (getE M i) with
  | false =>
   have hst:=hR.up hij hz
   have ho:=hz
   clear hz
   generalize getE M i = xo at *
   simp (disch:=omega) [-getElem?_pos,if_pos,if_neg,decide_eq_true,decide_eq_false,ir_slices_partitionEqualOrdered_int_l1,e0,e1,e2,ei,ej,q1,q2,q3,IntWalk.i64_in,show (i:Int) ≤ (j:Int) by omega,show (i:Int) < (M.length:Int) by omega,show (a:Int) < (M.length:Int) by omega]
   refine AFnD.of (LessI_spec v xo) ?_
   simp (disch:=omega) [-getElem?_pos,if_pos,if_neg,decide_eq_true,decide_eq_false,ho,e0,e1,e2,ei,ej,IntWalk.i64_in]
   have z1 : j + 1 - (i + 1) < m:=by omega
   have z0 : i0 ≤ i + 1 ∧ j ≤ j0:=by omega
   refine ⟨_,z1,rfl,i + 1,j,rfl,?_,?_,?_,?_,?_,⟨z0,hst⟩⟩
   ·simp [e0]
   ·simp [e1]
   ·simp [e2]
   ·simp
   ·simp [ej]
  | true =>
   have ho:=hz
   have hz':=hz
   clear hz
   generalize hxo : getE M i = xo at *
   simp (disch:=omega) [-getElem?_pos,if_pos,if_neg,decide_eq_true,decide_eq_false,ir_slices_partitionEqualOrdered_int_l1,e0,e1,e2,ei,ej,q1,q2,q3,IntWalk.i64_in,show (i:Int) ≤ (j:Int) by omega,show (i:Int) < (M.length:Int) by omega,show (a:Int) < (M.length:Int) by omega]
   refine AFnD.of (LessI_spec v xo) ?_
   simp (disch:=omega) [-getElem?_pos,if_pos,if_neg,decide_eq_true,decide_eq_false,ho]
   exact ⟨rfl,rfl,i,j,e0,e1,e2,ei,ej,hij0,hR,.inr (by rw [hxo]; exact hz')⟩
 ·simp (disch:=omega) [-getElem?_pos,if_pos,if_neg,decide_eq_true,decide_eq_false,ir_slices_partitionEqualOrdered_int_l1,e0,e1,e2,ei,ej,show ¬ (i:Int) ≤ (j:Int) by omega]
  exact ⟨rfl,rfl,i,j,e0,e1,e2,ei,ej,hij0,hR,.inl (by omega)⟩
theorem parteq_l0 {H : AH} {v0 : Value} {M : List Ent} {S : List Nat} {a b i0 j0 : Nat} {v : Ent} (hD : DatAt H v0 M S) (hb : b ≤ M.length) (hR : EqpI M a b i0 j0 v) {env : Env} (e0 : env 0 = some v0) (e1 : env 1 = some (.int .i64 (a : Nat))) (e2 : env 2 = some (.int .i64 (b : Nat))) (ei : env 9 = some (.int .i64 (i0 : Nat))) (ej : env 10 = some (.int .i64 (j0 : Nat))) :
  wpC Tryd.prog 84 (.loop ir_slices_partitionEqualOrdered_int_l0) (ScQ 4 9 10 H v0 a b (fun i j => (i = i0 ∧ j ≤ j0) ∧ EqpI M a b i j v ∧ (j < i ∨ v.lt (getE M j) = false))) env H:=by
 have hMl:=hD.2
 refine loop_rule (ScI 9 10 H v0 a b (fun i j => (i = i0 ∧ j ≤ j0) ∧ EqpI M a b i j v)) (Q:=ScQ 4 9 10 H v0 a b (fun i j => (i = i0 ∧ j ≤ j0) ∧ EqpI M a b i j v ∧ (j < i ∨ v.lt (getE M j) = false))) ?_ (j:=j0 + 1 - i0) ⟨rfl,i0,j0,rfl,e0,e1,e2,ei,ej,⟨⟨rfl,Nat.le_refl _⟩,hR⟩⟩
 clear e0 e1 e2 ei ej hR
 rintro m env H' ⟨rfl,i,j,hm,e0,e1,e2,ei,ej,hR⟩
 obtain ⟨hij0,hR⟩:=hR
 by_cases hij : i ≤ j
 ·obtain ⟨bb,off,sp,cap,cs,_,_,hv,q1,q2,q3,_,_,_,_,_⟩:=hD.two (i:=j) (k:=a) (by unfold EqpI at hR; omega) (by unfold EqpI at hR; omega)
  cases hv
  have hav : getE M a = v:=hR.2.2.2.2.1
  have b1 : j < M.length ∧ a < M.length ∧ 1 ≤ j:=by unfold EqpI at hR; omega
  rw [hav] at q3
  cases hz : v.lt (getE M j) with
  | true =>
   have hst:=hR.down hij
   have ho:=hz
   clear hz
   obtain ⟨j1,hj1⟩ : ∃ j1,j1 = j - 1:=⟨_,rfl⟩
   have hji : (j : Int) - 1 = (j1 : Int):=by omega
   rw [← hj1] at hst
   generalize getE M j = xo at *
   simp (disch:=omega) [-getElem?_pos,if_pos,if_neg,decide_eq_true,decide_eq_false,ir_slices_partitionEqualOrdered_int_l0,e0,e1,e2,ei,ej,q1,q2,q3,IntWalk.i64_in,show (i:Int) ≤ (j:Int) by omega,show (j:Int) < (M.length:Int) by omega,show (a:Int) < (M.length:Int) by omega]
   refine AFnD.of (LessI_spec v xo) ?_
   simp (disch:=omega) [-getElem?_pos,if_pos,if_neg,decide_eq_true,decide_eq_false,ho,e0,e1,e2,ei,ej,hji,IntWalk.i64_in]
   have z1 : j1 + 1 - i < m:=by omega
   have z0 : i = i0 ∧ j1 ≤ j0:=by omega
   refine ⟨_,z1,rfl,i,j1,rfl,?_,?_,?_,?_,?_,⟨z0,hst⟩⟩
   ·simp [e0]
   ·simp [e1]
   ·simp [e2]
   ·simp [ei]
   ·simp
  | false =>
   have ho:=hz
   have hz':=hz
   clear hz
   generalize hxo : getE M j = xo at *
   simp (disch:=omega) [-getElem?_pos,if_pos,if_neg,decide_eq_true,decide_eq_false,ir_slices_partitionEqualOrdered_int_l0,e0,e1,e2,ei,ej,q1,q2,q3,IntWalk.i64_in,show (i:Int) ≤ (j:Int) by omega,show (j:Int) < (M.length:Int) by omega,show (a:Int) < (M.length:Int) by omega]
   refine AFnD.of (LessI_spec v xo) ?_
   simp (disch:=omega) [-getElem?_pos,if_pos,if_neg,decide_eq_true,decide_eq_false,ho]
   exact ⟨rfl,rfl,i,j,e0,e1,e2,ei,ej,hij0,hR,.inr (by rw [hxo]; exact hz')⟩
 ·simp (disch:=omega) [-getElem?_pos,if_pos,if_neg,decide_eq_true,decide_eq_false,ir_slices_partitionEqualOrdered_int_l0,e0,e1,e2,ei,ej,show ¬ (i:Int) ≤ (j:Int) by omega]
  exact ⟨rfl,rfl,i,j,e0,e1,e2,ei,ej,hij0,hR,.inl (by omega)⟩
end Go.Proofs.YtejifalflkbekaaDoor.Ps
/-
 Contracts of the library's sort (4): partition,partitionEqual.
-/
set_option maxRecDepth 100000
set_option linter.unusedSimpArgs false
set_option linter.unusedVariables false
namespace Go.Proofs.YtejifalflkbekaaDoor.Ps
open Go Go.Abs
def PtI (H : AH) (v0 : Value) (S : List Nat) (L : List Ent) (a b : Nat) (v : Ent) (m : Nat) (env : Env) (H' : AH) : Prop :=
 ∃ i j M,m = j + 1 - i ∧ env 0 = some v0 ∧ env 1 = some (.int .i64 (a : Nat)) ∧ env 2 = some (.int .i64 (b : Nat)) ∧ env 10 = some (.int .i64 (i : Nat)) ∧ env 11 = some (.int .i64 (j : Nat)) ∧ WF H' ∧ Keep S H H' ∧ Sw a b L M ∧ ParI M a b i j v ∧ DatAt H' v0 M S
def PtE (H : AH) (v0 : Value) (S : List Nat) (L : List Ent) (a b : Nat) (v : Ent) (ex : AExit) (env : Env) (H' : AH) : Prop :=
 ex = .exit 4 ∧ ∃ i j M,j < i ∧ env 0 = some v0 ∧ env 1 = some (.int .i64 (a : Nat)) ∧ env 11 = some (.int .i64 (j : Nat)) ∧ WF H' ∧ Keep S H H' ∧ Sw a b L M ∧ ParI M a b i j v ∧ DatAt H' v0 M S
def PartQ (H : AH) (v0 : Value) (S : List Nat) (L : List Ent) (a b : Nat) (u : Value) (H' : AH) : Prop:=∃ mid t M,u = .tuple #[.int .i64 (mid : Nat),.bool t] ∧ PartI M a b mid ∧ Sw a b L M ∧ DatAt H' v0 M S ∧ Keep S H H'
theorem partition_l2 {H0 H : AH} {v0 : Value} {S : List Nat} {L : List Ent} {a b : Nat} {v : Ent} (hb : b ≤ L.length) {m : Nat} {env : Env} (h : PtI H0 v0 S L a b v m env H) : wpC Tryd.prog 168 (.loop ir_slices_partitionOrdered_int_l2) (PtE H0 v0 S L a b v) env H:=by
 refine loop_rule (PtI H0 v0 S L a b v) (Q:=PtE H0 v0 S L a b v) ?_ (j:=m) h
 rintro m env H' ⟨i,j,M,hm,e0,e1,e2,ei,ej,w',k',hS,hR,hD⟩
 have hMl:=hS.length
 have hM6:=hD.2
 simp (disch:=omega) [-getElem?_pos,if_pos,if_neg,decide_eq_true,decide_eq_false,ir_slices_partitionOrdered_int_l2]
 refine wpC_use (part_l1 hD (by omega) hR e0 e1 e2 ei ej) fun ex env2 H2 ⟨he,hH,i1,j1,f0,f1,f2,fi,fj,hij1,hR1,hU⟩ _ => ?_
 subst he hH
 simp (disch:=omega) [-getElem?_pos,if_pos,if_neg,decide_eq_true,decide_eq_false,]
 refine wpC_use (part_l0 hD (by omega) hR1 f0 f1 f2 fi fj) fun ex env3 H3 ⟨he,hH,i2,j2,g0,g1,g2,gi,gj,hij2,hR2,hV⟩ _ => ?_
 subst he hH
 obtain ⟨hi12,hj12⟩:=hij2
 subst hi12
 by_cases hij : j2 < i2
 ·simp (disch:=omega) [-getElem?_pos,if_pos,if_neg,decide_eq_true,decide_eq_false,gi,gj,show (j2:Int) < (i2:Int) by omega]
  exact ⟨rfl,i2,j2,M,hij,g0,g1,gj,w',k',hS,hR2,hD⟩
 ·have hz2 : (getE M j2).lt v = true:=by
   rcases hV with hV | hV
   ·omega
   ·exact hV
  have hz1 : (getE M i2).lt v = false:=by
   rcases hU with hU | hU
   ·have:=hR1.2.2.2.2.2.2 j2 (by omega) hR2.2.2.1
    rw [hz2] at this; cases this
   ·exact hU
  obtain ⟨hlt,hsw⟩:=hR2.swap (by omega) (by omega) hz1 hz2
  have hbd : a < i2 ∧ j2 < b:=by unfold ParI at hR2; omega
  obtain ⟨bb,off,sp,cap,cs,H1,H2,hv,q1,q2,q3,q4,q5,hD',hk',hw'⟩:=hD.two (i:=i2) (k:=j2) (by omega) (by omega)
  cases hv
  have hS' : Sw a b L (swapL M i2 j2):=.step i2 j2 ⟨by omega,by omega,by omega⟩ ⟨by omega,by omega,by omega⟩ hS
  obtain ⟨j3,hj3⟩ : ∃ j3,j3 = j2 - 1:=⟨_,rfl⟩
  have hji : (j2 : Int) - 1 = (j3 : Int):=by omega
  rw [← hj3] at hsw
  clear hz1 hz2 hU hV hR1
  generalize getE M i2 = x at *
  generalize getE M j2 = y at *
  generalize swapL M i2 j2 = N at *
  simp (disch:=omega) [-getElem?_pos,if_pos,if_neg,decide_eq_true,decide_eq_false,g0,g1,g2,gi,gj,hji,q1,q2,q3,q4,q5,IntWalk.i64_in,show ¬ (j2:Int) < (i2:Int) by omega,show (i2:Int) < (M.length:Int) by omega,show (j2:Int) < (M.length:Int) by omega]
  have z1 : j3 + 1 - (i2 + 1) < m:=by omega
  have z2:=hw' w'
  have z3:=k'.trans' hk'
  refine ⟨_,z1,i2 + 1,j3,N,rfl,?_,?_,?_,?_,?_,z2,z3,hS',hsw,hD'⟩
  ·simp [g0]
  ·simp [g1]
  ·simp [g2]
  ·simp
  ·simp
theorem partition_spec {H : AH} {v0 : Value} {L : List Ent} {S : List Nat} (h : DatAt H v0 L S) {a b pv : Nat} (hab : a + 1 < b) (hb : b ≤ L.length) (hp : a ≤ pv ∧ pv < b) : AFn Tryd.prog F_slices_partitionOrdered_int [v0,.int .i64 a,.int .i64 b,.int .i64 pv] H (PartQ H v0 S L a b):=by
 have hl:=h.2
 refine AFn.enter mixed ir_slices_partitionOrdered_int_eq (by simp [ir_slices_partitionOrdered_int]) fun hw => ?_
 obtain ⟨bb,off,sp,cap,cs,H1,H2,hv,q1,q2,q3,q4,q5,hD',hk',hw'⟩:=h.two (i:=a) (k:=pv) (by omega) (by omega)
 have w2:=hw' hw
 have hS1 : Sw a b L (swapL L a pv):=.step a pv ⟨by omega,by omega,by omega⟩ ⟨by omega,by omega,by omega⟩ .refl
 have hNl:=hS1.length
 have hR0:=parI_start (M:=swapL L a pv) hab
 generalize hv2 : getE (swapL L a pv) a = v at *
 clear hv2
 obtain ⟨b1,hb1⟩ : ∃ b1,b1 = b - 1:=⟨_,rfl⟩
 have hbi : (b : Int) - 1 = (b1 : Int):=by omega
 rw [← hb1] at hR0
 generalize getE L a = x at *
 generalize getE L pv = y at *
 generalize swapL L a pv = N at *
 cases hv
 simp (disch:=omega) [-getElem?_pos,if_pos,if_neg,decide_eq_true,decide_eq_false,ir_slices_partitionOrdered_int,hbi,q1,q2,q3,q4,q5,IntWalk.i64_in,show (a:Int) < (L.length:Int) by omega,show (pv:Int) < (L.length:Int) by omega]
 refine wpC_use (part_l4 hD' (by omega) hR0 (by simp) (by simp) (by simp) (by simp) (by simp)) fun ex env2 H3 ⟨he,hH,i1,j1,f0,f1,f2,fi,fj,hij1,hR1,hU⟩ _ => ?_
 subst he hH
 simp (disch:=omega) [-getElem?_pos,if_pos,if_neg,decide_eq_true,decide_eq_false,]
 refine wpC_use (part_l3 hD' (by omega) hR1 f0 f1 f2 fi fj) fun ex env3 H3 ⟨he,hH,i2,j2,g0,g1,g2,gi,gj,hij2,hR2,hV⟩ _ => ?_
 subst he hH
 obtain ⟨hi12,hj12⟩:=hij2
 subst hi12
 have hbd : a < i2 ∧ a ≤ j2 ∧ j2 < b:=by unfold ParI at hR2; omega
 by_cases hij : j2 < i2
 ·have hdone:=hR2.done (by omega) hij
  have hS2 : Sw a b L (swapL N j2 a):=.step j2 a ⟨by omega,by omega,by omega⟩ ⟨by omega,by omega,by omega⟩ hS1
  obtain ⟨bb',off',sp',cap',cs',H4,H5,hv,r1,r2,r3,r4,r5,hD2,hk2,hw2⟩:=hD'.two (i:=j2) (k:=a) (by omega) (by omega)
  rw [hNl] at hv
  cases hv
  generalize getE N a = x at *
  generalize getE N j2 = y at *
  generalize swapL N j2 a = N2 at *
  simp (disch:=omega) [-getElem?_pos,if_pos,if_neg,decide_eq_true,decide_eq_false,g0,g1,g2,gi,gj,r1,r2,r3,r4,r5,IntWalk.i64_in,show (j2:Int) < (i2:Int) by omega,show (a:Int) < (N.length:Int) by omega,show (j2:Int) < (N.length:Int) by omega,show (a:Int) < (L.length:Int) by omega,show (j2:Int) < (L.length:Int) by omega]
  exact ⟨j2,true,N2,by simp,hdone,hS2,hD2,hk'.trans' hk2⟩
 ·have hz2 : (getE N j2).lt v = true:=by
   rcases hV with hV | hV
   ·omega
   ·exact hV
  have hz1 : (getE N i2).lt v = false:=by
   rcases hU with hU | hU
   ·have:=hR1.2.2.2.2.2.2 j2 (by omega) hR2.2.2.1
    rw [hz2] at this; cases this
   ·exact hU
  obtain ⟨hlt,hsw⟩:=hR2.swap (by omega) (by omega) hz1 hz2
  obtain ⟨bb',off',sp',cap',cs',H4,H5,hv,r1,r2,r3,r4,r5,hD2,hk2,hw3⟩:=hD'.two (i:=i2) (k:=j2) (by omega) (by omega)
  rw [hNl] at hv
  cases hv
  have w3:=hw3 w2
  have hS2 : Sw a b L (swapL N i2 j2):=.step i2 j2 ⟨by omega,by omega,by omega⟩ ⟨by omega,by omega,by omega⟩ hS1
  obtain ⟨j3,hj3⟩ : ∃ j3,j3 = j2 - 1:=⟨_,rfl⟩
  have hji : (j2 : Int) - 1 = (j3 : Int):=by omega
  rw [← hj3] at hsw
  clear hz1 hz2 hU hV hR1
  generalize getE N i2 = x at *
  generalize getE N j2 = y at *
  generalize swapL N i2 j2 = N2 at *
  simp (disch:=omega) [-getElem?_pos,if_pos,if_neg,decide_eq_true,decide_eq_false,g0,g1,g2,gi,gj,hji,r1,r2,r3,r4,r5,IntWalk.i64_in,show ¬ (j2:Int) < (i2:Int) by omega,show (i2:Int) < (N.length:Int) by omega,show (j2:Int) < (N.length:Int) by omega,show (i2:Int) < (L.length:Int) by omega,show (j2:Int) < (L.length:Int) by omega]
  have z3:=hk'.trans' hk2
  refine wpC_use (partition_l2 (H0:=H) (v0:=.slice (some ⟨bb,off,sp⟩) L.length cap) (S:=S) (L:=L) (a:=a) (b:=b) (v:=v) hb (m:=j3 + 1 - (i2 + 1)) ⟨i2 + 1,j3,N2,rfl,?_,?_,?_,?_,?_,w3,z3,hS2,hsw,hD2⟩) fun ex env4 H6 ⟨he,i4,j4,M4,hlt4,k0,k1,kj,w6,k6,hS6,hR6,hD6⟩ _ => ?_
  ·simp [g0]
  ·simp [g1]
  ·simp [g2]
  ·simp
  ·simp
  subst he
  have hbd4 : a ≤ j4 ∧ j4 < b:=by unfold ParI at hR6; omega
  have hMl:=hS6.length
  have hdone:=hR6.done (by omega) hlt4
  have hS7 : Sw a b L (swapL M4 j4 a):=.step j4 a ⟨by omega,by omega,by omega⟩ ⟨by omega,by omega,by omega⟩ hS6
  obtain ⟨bb',off',sp',cap',cs',H7,H8,hv,s1,s2,s3,s4,s5,hD8,hk8,hw8⟩:=hD6.two (i:=j4) (k:=a) (by omega) (by omega)
  rw [hMl] at hv
  cases hv
  generalize getE M4 a = x at *
  generalize getE M4 j4 = y at *
  generalize swapL M4 j4 a = N4 at *
  simp (disch:=omega) [-getElem?_pos,if_pos,if_neg,decide_eq_true,decide_eq_false,k0,k1,kj,s1,s2,s3,s4,s5,IntWalk.i64_in,show (a:Int) < (M4.length:Int) by omega,show (j4:Int) < (M4.length:Int) by omega,show (a:Int) < (L.length:Int) by omega,show (j4:Int) < (L.length:Int) by omega]
  exact ⟨j4,false,N4,by simp,hdone,hS7,hD8,k6.trans' hk8⟩
def PeI (H : AH) (v0 : Value) (S : List Nat) (L : List Ent) (a b : Nat) (v : Ent) (m : Nat) (env : Env) (H' : AH) : Prop :=
 ∃ i j M,m = j + 1 - i ∧ env 0 = some v0 ∧ env 1 = some (.int .i64 (a : Nat)) ∧ env 2 = some (.int .i64 (b : Nat)) ∧ env 9 = some (.int .i64 (i : Nat)) ∧ env 10 = some (.int .i64 (j : Nat)) ∧ WF H' ∧ Keep S H H' ∧ Sw a b L M ∧ EqpI M a b i j v ∧ DatAt H' v0 M S
def PeE (H : AH) (v0 : Value) (S : List Nat) (L : List Ent) (a b : Nat) (v : Ent) (ex : AExit) (env : Env) (H' : AH) : Prop :=
 ex = .exit 0 ∧ ∃ i j M,env 9 = some (.int .i64 (i : Nat)) ∧ WF H' ∧ Keep S H H' ∧ Sw a b L M ∧ EqpI M a b i j v ∧ DatAt H' v0 M S
def PeQ (H : AH) (v0 : Value) (S : List Nat) (L : List Ent) (a b : Nat) (u : Value) (H' : AH) : Prop:=∃ (mid : Nat) (M : List Ent),u = .int .i64 (mid : Nat) ∧ EqI M a b mid ∧ Sw a b L M ∧ DatAt H' v0 M S ∧ Keep S H H'
theorem partitionEq_l2 {H0 H : AH} {v0 : Value} {S : List Nat} {L : List Ent} {a b : Nat} {v : Ent} (hb : b ≤ L.length) {m : Nat} {env : Env} (h : PeI H0 v0 S L a b v m env H) : wpC Tryd.prog 84 (.loop ir_slices_partitionEqualOrdered_int_l2) (PeE H0 v0 S L a b v) env H:=by
 refine loop_rule (PeI H0 v0 S L a b v) (Q:=PeE H0 v0 S L a b v) ?_ (j:=m) h
 rintro m env H' ⟨i,j,M,hm,e0,e1,e2,ei,ej,w',k',hS,hR,hD⟩
 have hMl:=hS.length
 have hM6:=hD.2
 simp (disch:=omega) [-getElem?_pos,if_pos,if_neg,decide_eq_true,decide_eq_false,ir_slices_partitionEqualOrdered_int_l2]
 refine wpC_use (parteq_l1 hD (by omega) hR e0 e1 e2 ei ej) fun ex env2 H2 ⟨he,hH,i1,j1,f0,f1,f2,fi,fj,hij1,hR1,hU⟩ _ => ?_
 subst he hH
 simp (disch:=omega) [-getElem?_pos,if_pos,if_neg,decide_eq_true,decide_eq_false,]
 refine wpC_use (parteq_l0 hD (by omega) hR1 f0 f1 f2 fi fj) fun ex env3 H3 ⟨he,hH,i2,j2,g0,g1,g2,gi,gj,hij2,hR2,hV⟩ _ => ?_
 subst he hH
 obtain ⟨hi12,hj12⟩:=hij2
 subst hi12
 by_cases hij : j2 < i2
 ·simp (disch:=omega) [-getElem?_pos,if_pos,if_neg,decide_eq_true,decide_eq_false,gi,gj,show (j2:Int) < (i2:Int) by omega]
  exact ⟨rfl,i2,j2,M,gi,w',k',hS,hR2,hD⟩
 ·have hz2 : v.lt (getE M j2) = false:=by
   rcases hV with hV | hV
   ·omega
   ·exact hV
  by_cases hz1 : v.lt (getE M i2) = true
  ·obtain ⟨hlt,hsw⟩:=hR2.swap (by omega) (by omega) hz1 hz2
   have hbd : a < i2 ∧ j2 < b:=by unfold EqpI at hR2; omega
   obtain ⟨bb,off,sp,cap,cs,H1,H2,hv,q1,q2,q3,q4,q5,hD',hk',hw'⟩:=hD.two (i:=i2) (k:=j2) (by omega) (by omega)
   cases hv
   have hS' : Sw a b L (swapL M i2 j2):=.step i2 j2 ⟨by omega,by omega,by omega⟩ ⟨by omega,by omega,by omega⟩ hS
   obtain ⟨j3,hj3⟩ : ∃ j3,j3 = j2 - 1:=⟨_,rfl⟩
   have hji : (j2 : Int) - 1 = (j3 : Int):=by omega
   rw [← hj3] at hsw
   clear hz1 hz2 hU hV hR1
   generalize getE M i2 = x at *
   generalize getE M j2 = y at *
   generalize swapL M i2 j2 = N at *
   simp (disch:=omega) [-getElem?_pos,if_pos,if_neg,decide_eq_true,decide_eq_false,g0,g1,g2,gi,gj,hji,q1,q2,q3,q4,q5,IntWalk.i64_in,show ¬ (j2:Int) < (i2:Int) by omega,show (i2:Int) < (M.length:Int) by omega,show (j2:Int) < (M.length:Int) by omega]
   have z1 : j3 + 1 - (i2 + 1) < m:=by omega
   have z2:=hw' w'
   have z3:=k'.trans' hk'
   refine ⟨_,z1,i2 + 1,j3,N,rfl,?_,?_,?_,?_,?_,z2,z3,hS',hsw,hD'⟩
   ·simp [g0]
   ·simp [g1]
   ·simp [g2]
   ·simp
   ·simp
  ·rcases hU with hU | hU
   ·omega
   ·exact absurd hU hz1
theorem partitionEq_spec {H : AH} {v0 : Value} {L : List Ent} {S : List Nat} (h : DatAt H v0 L S) {a b pv : Nat} (hab : a + 1 < b) (hb : b ≤ L.length) (hp : a ≤ pv ∧ pv < b) (hmin : ∀ i,a ≤ i → i < b → leE (getE L pv) (getE L i)) : AFn Tryd.prog F_slices_partitionEqualOrdered_int [v0,.int .i64 a,.int .i64 b,.int .i64 pv] H (PeQ H v0 S L a b):=by
 have hl:=h.2
 refine AFn.enter mixed ir_slices_partitionEqualOrdered_int_eq (by simp [ir_slices_partitionEqualOrdered_int]) fun hw => ?_
 obtain ⟨bb,off,sp,cap,cs,H1,H2,hv,q1,q2,q3,q4,q5,hD',hk',hw'⟩:=h.two (i:=a) (k:=pv) (by omega) (by omega)
 have w2:=hw' hw
 have hS1 : Sw a b L (swapL L a pv):=.step a pv ⟨by omega,by omega,by omega⟩ ⟨by omega,by omega,by omega⟩ .refl
 obtain ⟨b1,hb1⟩ : ∃ b1,b1 = b - 1:=⟨_,rfl⟩
 have hbi : (b : Int) - 1 = (b1 : Int):=by omega
 have hva : getE (swapL L a pv) a = getE L pv:=by rw [getE_swap (by omega) (by omega),sw_l]
 have hR0 : EqpI (swapL L a pv) a b (a + 1) b1 (getE L pv):=by
  refine ⟨by omega,by omega,by omega,by omega,hva,fun p p1 p2 => ?_,?_⟩
  ·rw [show p = a by omega,hva]; exact isOrd.irr _
  ·exact hS1.all (P:=fun x => x.lt (getE L pv) = false) hmin
 clear hva hmin
 generalize getE L a = x at *
 generalize getE L pv = y at *
 generalize swapL L a pv = N at *
 cases hv
 simp (disch:=omega) [-getElem?_pos,if_pos,if_neg,decide_eq_true,decide_eq_false,ir_slices_partitionEqualOrdered_int,hbi,q1,q2,q3,q4,q5,IntWalk.i64_in,show (a:Int) < (L.length:Int) by omega,show (pv:Int) < (L.length:Int) by omega]
 refine wpC_use (partitionEq_l2 (H0:=H) (v0:=.slice (some ⟨bb,off,sp⟩) L.length cap) (S:=S) (L:=L) (a:=a) (b:=b) (v:=y) hb (m:=b1 + 1 - (a + 1)) ⟨a + 1,b1,N,rfl,?_,?_,?_,?_,?_,w2,hk',hS1,hR0,hD'⟩) fun ex env4 H6 ⟨he,i4,j4,M4,ki,w6,k6,hS6,hR6,hD6⟩ _ => ?_
 ·simp
 ·simp
 ·simp
 ·simp
 ·simp
 subst he
 simp (disch:=omega) [-getElem?_pos,if_pos,if_neg,decide_eq_true,decide_eq_false,ki]
 exact ⟨i4,M4,by simp,hR6.done,hS6,hD6,k6⟩
end Go.Proofs.YtejifalflkbekaaDoor.Ps
