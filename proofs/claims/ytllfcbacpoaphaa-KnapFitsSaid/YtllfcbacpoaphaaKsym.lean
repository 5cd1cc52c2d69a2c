/-
  PLAIN LAW: numbers that are put in order by swaps: in runs, which are merged where they lie.
-/
import Derived.Test.YtllfcbacpoaphaaSorted
set_option maxRecDepth 100000
set_option linter.unusedSimpArgs false
set_option linter.unusedVariables false
namespace Go.Abs
def gI (L : List Int) (i : Nat) : Int:=L.getD i 0
theorem gI_eq {L : List Int} {i : Nat} (h : i < L.length) : gI L i = L[i]:=by unfold gI; rw [List.getD_eq_getElem?_getD,List.getElem?_eq_getElem h]; rfl
def swI (L : List Int) (i k : Nat) : List Int:=(L.set i (gI L k)).set k (gI L i)
theorem swI_len {L : List Int} {i k : Nat} : (swI L i k).length = L.length:=by simp [swI]
theorem gI_sw {L : List Int} {i k : Nat} (hi : i < L.length) (hk : k < L.length) (j : Nat) : gI (swI L i k) j = if j = k then gI L i else if j = i then gI L k else gI L j:=by
 unfold swI
 generalize gI L i = x
 generalize gI L k = y
 unfold gI
 rw [List.getD_eq_getElem?_getD,List.getElem?_set,List.getElem?_set,List.getD_eq_getElem?_getD]
 by_cases h1 : j = k
 ·subst h1; simp [hk]
 ·rw [if_neg (by omega),if_neg h1]
  by_cases h2 : j = i
  ·subst h2; simp [hi]
  ·rw [if_neg (by omega),if_neg h2]
theorem swI_perm {L : List Int} {i k : Nat} (hi : i < L.length) (hk : k < L.length) : (swI L i k).Perm L:=by
 unfold swI
 rw [gI_eq hi,gI_eq hk]
 exact List.set_set_perm hi hk
inductive SwR (a b : Nat) (L : List Int) : List Int → Prop
 | refl : SwR a b L L
 | step {M : List Int} (i k : Nat) (hi : a ≤ i ∧ i < b ∧ i < M.length) (hk : a ≤ k ∧ k < b ∧ k < M.length) (h : SwR a b L M) : SwR a b L (swI M i k)
theorem SwR.trans {a b : Nat} {L M N : List Int} (h : SwR a b L M) (k : SwR a b M N) : SwR a b L N:=by
 induction k with
 | refl => exact h
 | step i k hi hk _ ih => exact .step i k hi hk ih
theorem SwR.mono {a b a' b' : Nat} {L M : List Int} (h : SwR a b L M) (h1 : a' ≤ a) (h2 : b ≤ b') : SwR a' b' L M:=by
 induction h with
 | refl => exact .refl
 | step i k hi hk _ ih => exact .step i k ⟨by omega,by omega,hi.2.2⟩ ⟨by omega,by omega,hk.2.2⟩ ih
theorem SwR.length {a b : Nat} {L M : List Int} (h : SwR a b L M) : M.length = L.length:=by
 induction h with
 | refl => rfl
 | step i k hi hk _ ih => rw [swI_len,ih]
theorem SwR.perm {a b : Nat} {L M : List Int} (h : SwR a b L M) : M.Perm L:=by
 induction h with
 | refl => exact .refl _
 | step i k hi hk _ ih => exact (swI_perm hi.2.2 hk.2.2).trans ih
theorem SwR.out {a b : Nat} {L M : List Int} (h : SwR a b L M) {i : Nat} (hi : i < a ∨ b ≤ i) : gI M i = gI L i:=by
 induction h with
 | refl => rfl
 | step j k hj hk _ ih => rw [gI_sw hj.2.2 hk.2.2,if_neg (by omega),if_neg (by omega),ih]
theorem SwR.all {a b : Nat} {L M : List Int} (h : SwR a b L M) {P : Int → Prop} (hP : ∀ i,a ≤ i → i < b → P (gI L i)) : ∀ i,a ≤ i → i < b → P (gI M i):=by
 induction h with
 | refl => exact hP
 | step j k hj hk _ ih =>
  intro i h1 h2
  rw [gI_sw hj.2.2 hk.2.2]
  split
  ·exact ih j hj.1 hj.2.1
  ·split
   ·exact ih k hk.1 hk.2.1
   ·exact ih i h1 h2
variable {lt : Int → Int → Bool}
def SrtR (lt : Int → Int → Bool) (L : List Int) (a b : Nat) : Prop:=∀ p q,a ≤ p → p < q → q < b → lt (gI L q) (gI L p) = false
def RunR (L : List Int) (a m b : Nat) : Prop:=∀ p q,a ≤ p → p < m → m ≤ q → q < b → gI L p < gI L q
theorem SrtR.of {L M : List Int} {a b : Nat} (h : SrtR lt L a b) (he : ∀ i,a ≤ i → i < b → gI M i = gI L i) : SrtR lt M a b:=fun p q h1 h2 h3 => by
 rw [he p h1 (by omega),he q (by omega) h3]; exact h p q h1 h2 h3
theorem SrtR.all {L : List Int} (h : SrtR lt L 0 L.length) : Srt lt L:=by
 unfold Srt
 rw [List.pairwise_iff_getElem]
 intro i j hi hj hij
 have:=h i j (by omega) hij hj
 rwa [gI_eq hi,gI_eq hj] at this
structure InsR (lt : Int → Int → Bool) (L : List Int) (a i j : Nat) : Prop where
 srt : ∀ p q,a ≤ p → p < q → q ≤ i → q ≠ j → lt (gI L q) (gI L p) = false
 big : ∀ p,a ≤ p → p ≤ i → p ≠ j → gI L p < gI L j
theorem InsR.start {L : List Int} {a i : Nat} (h : SrtR lt L a i) (hb : ∀ p,a ≤ p → p < i → gI L p < gI L i) : InsR lt L a i i:=⟨fun p q h1 h2 h3 h4 => h p q h1 h2 (by omega),fun p h1 h2 h3 => hb p h1 (by omega)⟩
theorem InsR.done (ho : IsOrd lt) {L : List Int} {a i j : Nat} (h : InsR lt L a i j) (hj : a ≤ j) (hd : j = a ∨ lt (gI L j) (gI L (j - 1)) = false) : SrtR lt L a (i + 1):=by
 intro p q h1 h2 h3
 by_cases hq : q = j
 ·subst hq
  rcases hd with hd | hd
  ·omega
  ·by_cases hp : p = q - 1
   ·rw [hp]; exact hd
   ·exact ho.le_trans (h.srt p (q - 1) h1 (by omega) (by omega) (by omega)) hd
 ·exact h.srt p q h1 h2 (by omega) hq
theorem InsR.step (ho : IsOrd lt) {L : List Int} {a i j : Nat} (h : InsR lt L a i j) (hi : i < L.length) (hj : a < j) (hji : j ≤ i) (hl : lt (gI L j) (gI L (j - 1)) = true) : InsR lt (swI L j (j - 1)) a i (j - 1):=by
 constructor
 ·intro p q h1 h2 h3 h4
  rw [gI_sw (by omega) (by omega),gI_sw (by omega) (by omega),if_neg h4]
  by_cases hq : q = j
  ·subst hq
   rw [if_pos rfl]
   by_cases hp : p = q - 1
   ·subst hp; rw [if_pos rfl]; exact ho.asymm hl
   ·rw [if_neg hp,if_neg (by omega)]; exact h.srt p (q - 1) h1 (by omega) (by omega) (by omega)
  ·rw [if_neg hq]
   by_cases hp : p = j
   ·subst hp; rw [if_neg (by omega),if_pos rfl]; exact h.srt (p - 1) q (by omega) (by omega) h3 hq
   ·by_cases hp1 : p = j - 1
    ·subst hp1; rw [if_pos rfl]; exact h.srt j q (by omega) (by omega) h3 hq
    ·rw [if_neg hp1,if_neg hp]; exact h.srt p q h1 h2 h3 hq
 ·intro p h1 h2 h3
  rw [gI_sw (by omega) (by omega),gI_sw (by omega) (by omega),if_neg h3,if_pos rfl]
  by_cases hp : p = j
  ·subst hp; rw [if_pos rfl]; exact h.big (p - 1) (by omega) (by omega) (by omega)
  ·rw [if_neg hp]; exact h.big p h1 h2 hp
/-! ### blocks that change places -/
def xch (f : Nat → Int) (a b n : Nat) (p : Nat) : Int:=if a ≤ p ∧ p < a + n then f (p - a + b) else if b ≤ p ∧ p < b + n then f (p - b + a) else f p
theorem xch_zero (f : Nat → Int) (a b : Nat) : xch f a b 0 = f:=by
 funext p; unfold xch; rw [if_neg (by omega),if_neg (by omega)]
theorem xch_step {L M : List Int} {a b k n : Nat} (hk : k < n) (hab : a + n ≤ b) (hb : b + n ≤ L.length) (hl : M.length = L.length) (h : ∀ p,gI M p = xch (gI L) a b k p) : ∀ p,gI (swI M (a + k) (b + k)) p = xch (gI L) a b (k + 1) p:=by
 intro p
 rw [gI_sw (by omega) (by omega),h,h,h]
 unfold xch
 (repeat' split) <;> first | rfl | omega | (congr 1; omega)
def rot (f : Nat → Int) (a m b : Nat) (p : Nat) : Int:=if a ≤ p ∧ p < a + (b - m) then f (p - a + m) else if a + (b - m) ≤ p ∧ p < b then f (p - (b - m)) else f p
theorem rot_left {f : Nat → Int} {m i j : Nat} (hi : i ≤ m) (hij : j < i) : rot (xch f (m - i) m j) (m - (i - j)) m (m + j) = rot f (m - i) m (m + j):=by
 funext p
 unfold rot xch
 (repeat' split) <;> first | rfl | omega | (congr 1; omega)
theorem rot_right {f : Nat → Int} {m i j : Nat} (hi : i ≤ m) (hij : i < j) : rot (xch f (m - i) (m + j - i) i) (m - i) m (m + (j - i)) = rot f (m - i) m (m + j):=by
 funext p
 unfold rot xch
 (repeat' split) <;> first | rfl | omega | (congr 1; omega)
theorem rot_same {f : Nat → Int} {m i : Nat} (hi : i ≤ m) : xch f (m - i) m i = rot f (m - i) m (m + i):=by
 funext p
 unfold rot xch
 (repeat' split) <;> first | rfl | omega | (congr 1; omega)
theorem rot_none {f : Nat → Int} {a m b : Nat} (h : a = m ∨ m = b) (h1 : a ≤ m) (h2 : m ≤ b) : rot f a m b = f:=by
 funext p
 unfold rot
 by_cases g1 : a ≤ p ∧ p < a + (b - m)
 ·rw [if_pos g1]; congr 1; omega
 ·rw [if_neg g1]
  by_cases g2 : a + (b - m) ≤ p ∧ p < b
  ·rw [if_pos g2]; congr 1; omega
  ·rw [if_neg g2]
/-! ### merging two runs -/
structure CutR (lt : Int → Int → Bool) (X : List Int) (a m b mid s e : Nat) : Prop where
 sum : s + e = mid + m
 bs : a ≤ s ∧ s ≤ m
 be : m ≤ e ∧ e ≤ b
 up : s < m → m < e → lt (gI X (e - 1)) (gI X s) = true
 dn : a < s → e < b → lt (gI X e) (gI X (s - 1)) = false
theorem CutR.halves (ho : IsOrd lt) {X M : List Int} {a m b mid s e : Nat} (h : CutR lt X a m b mid s e) (h1 : SrtR lt X a m) (h2 : SrtR lt X m b) (h3 : RunR X a m b) (hM : ∀ p,gI M p = rot (gI X) s m e p) :
  (SrtR lt M a s ∧ SrtR lt M s mid ∧ RunR M a s mid) ∧ (SrtR lt M mid e ∧ SrtR lt M e b ∧ RunR M mid e b) ∧ ∀ p q,a ≤ p → p < mid → mid ≤ q → q < b → lt (gI M q) (gI M p) = false:=by
 have hs:=h.sum
 have hb:=h.bs
 have he:=h.be
 have m1 : ∀ p,p < s → gI M p = gI X p:=fun p hp => by rw [hM]; unfold rot; rw [if_neg (by omega),if_neg (by omega)]
 have m2 : ∀ p,s ≤ p → p < mid → gI M p = gI X (p - s + m):=fun p h1 h2 => by rw [hM]; unfold rot; rw [if_pos (by omega)]
 have m3 : ∀ p,mid ≤ p → p < e → gI M p = gI X (p - (e - m)):=fun p h1 h2 => by rw [hM]; unfold rot; rw [if_neg (by omega),if_pos (by omega)]
 have m4 : ∀ p,e ≤ p → gI M p = gI X p:=fun p hp => by rw [hM]; unfold rot; rw [if_neg (by omega),if_neg (by omega)]
 have le_refl : ∀ x,lt x x = false:=ho.irr
 -- in the first run no later than the place s - 1,and so on
 have r1 : ∀ p q,a ≤ p → p ≤ q → q < m → lt (gI X q) (gI X p) = false:=fun p q g1 g2 g3 => by
  by_cases g : p = q
  ·subst g; exact le_refl _
  ·exact h1 p q g1 (by omega) g3
 have r2 : ∀ p q,m ≤ p → p ≤ q → q < b → lt (gI X q) (gI X p) = false:=fun p q g1 g2 g3 => by
  by_cases g : p = q
  ·subst g; exact le_refl _
  ·exact h2 p q g1 (by omega) g3
 refine ⟨⟨fun p q g1 g2 g3 => ?_,fun p q g1 g2 g3 => ?_,fun p q g1 g2 g3 g4 => ?_⟩,⟨fun p q g1 g2 g3 => ?_,fun p q g1 g2 g3 => ?_,fun p q g1 g2 g3 g4 => ?_⟩,fun p q g1 g2 g3 g4 => ?_⟩
 ·rw [m1 p (by omega),m1 q (by omega)]; exact r1 p q g1 (by omega) (by omega)
 ·rw [m2 p g1 (by omega),m2 q (by omega) g3]; exact r2 _ _ (by omega) (by omega) (by omega)
 ·rw [m1 p g2,m2 q g3 g4]; exact h3 _ _ g1 (by omega) (by omega) (by omega)
 ·rw [m3 p g1 (by omega),m3 q (by omega) g3]; exact r1 _ _ (by omega) (by omega) (by omega)
 ·rw [m4 p g1,m4 q (by omega)]; exact r2 _ _ (by omega) (by omega) (by omega)
 ·rw [m3 p g1 g2,m4 q g3]; exact h3 _ _ (by omega) (by omega) (by omega) g4
 ·by_cases hp : p < s
  ·rw [m1 p hp]
   by_cases hq : q < e
   ·rw [m3 q g3 hq]; exact r1 _ _ g1 (by omega) (by omega)
   ·rw [m4 q (by omega)]
    have d:=h.dn (by omega) (by omega)
    exact ho.le_trans (r1 p (s - 1) g1 (by omega) (by omega)) (ho.le_trans d (r2 e q (by omega) (by omega) g4))
  ·rw [m2 p (by omega) g2]
   by_cases hq : q < e
   ·rw [m3 q g3 hq]
    have u:=ho.asymm (h.up (by omega) (by omega))
    exact ho.le_trans (r2 (p - s + m) (e - 1) (by omega) (by omega) (by omega)) (ho.le_trans u (r1 s (q - (e - m)) (by omega) (by omega) (by omega)))
   ·rw [m4 q (by omega)]; exact r2 _ _ (by omega) (by omega) g4
theorem join_halves {M N : List Int} {a mid b : Nat} (h1 : SrtR lt N a mid) (h2 : SrtR lt N mid b) (h3 : ∀ p q,a ≤ p → p < mid → mid ≤ q → q < b → lt (gI N q) (gI N p) = false) : SrtR lt N a b:=fun p q g1 g2 g3 => by
 by_cases hq : q < mid
 ·exact h1 p q g1 g2 hq
 ·by_cases hp : p < mid
  ·exact h3 p q g1 hp (by omega) g3
  ·exact h2 p q (by omega) g2 g3
theorem SwR.between {M N : List Int} {a mid b : Nat} {R : Int → Int → Prop} (h3 : ∀ p q,a ≤ p → p < mid → mid ≤ q → q < b → R (gI M p) (gI M q)) (h : SwR a mid M N ∨ SwR mid b M N) : ∀ p q,a ≤ p → p < mid → mid ≤ q → q < b → R (gI N p) (gI N q):=by
 intro p q g1 g2 g3 g4
 rcases h with h | h
 ·rw [h.out (i:=q) (.inr g3)]
  exact h.all (P:=fun y => R y (gI M q)) (fun i i1 i2 => h3 i q i1 i2 g3 g4) p g1 g2
 ·rw [h.out (i:=p) (.inl g2)]
  exact h.all (P:=fun y => R (gI M p) y) (fun i i1 i2 => h3 p i g1 g2 i1 i2) q g3 g4
/-! ### one alone among a run -/
def down1 (f : Nat → Int) (a i : Nat) (p : Nat) : Int:=if a ≤ p ∧ p + 1 < i then f (p + 1) else if p + 1 = i ∧ a ≤ p then f a else f p
theorem down1_step {L M : List Int} {a k i : Nat} (hak : a ≤ k) (hk : k + 1 < i) (hi : i ≤ L.length) (hl : M.length = L.length) (h : ∀ p,gI M p = down1 (gI L) a (k + 1) p) : ∀ p,gI (swI M k (k + 1)) p = down1 (gI L) a (k + 2) p:=by
 intro p
 rw [gI_sw (by omega) (by omega),h,h,h]
 unfold down1
 (repeat' split) <;> first | rfl | omega | (congr 1; omega)
theorem down1_zero {f : Nat → Int} {a : Nat} : down1 f a (a + 1) = f:=by
 funext p; unfold down1
 rw [if_neg (by omega)]
 by_cases h : p + 1 = a + 1 ∧ a ≤ p
 ·rw [if_pos h]; congr 1; omega
 ·rw [if_neg h]
theorem down1_srt (ho : IsOrd lt) {X M : List Int} {a i b : Nat} (hi : a + 1 ≤ i ∧ i ≤ b) (h2 : SrtR lt X (a + 1) b) (hlo : ∀ c,a + 1 ≤ c → c < i → lt (gI X c) (gI X a) = true) (hhi : ∀ c,i ≤ c → c < b → lt (gI X c) (gI X a) = false) (hM : ∀ p,gI M p = down1 (gI X) a i p) : SrtR lt M a b:=by
 intro p q g1 g2 g3
 rw [hM,hM]
 unfold down1
 by_cases c1 : a ≤ p ∧ p + 1 < i
 ·rw [if_pos c1]
  by_cases c2 : a ≤ q ∧ q + 1 < i
  ·rw [if_pos c2]; exact h2 _ _ (by omega) (by omega) (by omega)
  ·rw [if_neg c2]
   by_cases c3 : q + 1 = i ∧ a ≤ q
   ·rw [if_pos c3]; exact ho.asymm (hlo _ (by omega) (by omega))
   ·rw [if_neg c3]; exact h2 _ _ (by omega) (by omega) g3
 ·rw [if_neg c1]
  by_cases c2 : p + 1 = i ∧ a ≤ p
  ·rw [if_pos c2,if_neg (by omega),if_neg (by omega)]; exact hhi q (by omega) g3
  ·rw [if_neg c2,if_neg (by omega),if_neg (by omega)]; exact h2 _ _ (by omega) g2 g3
def up1 (f : Nat → Int) (m i : Nat) (p : Nat) : Int:=if i < p ∧ p ≤ m then f (p - 1) else if p = i then f m else f p
theorem up1_zero {f : Nat → Int} {m : Nat} : up1 f m m = f:=by
 funext p; unfold up1
 rw [if_neg (by omega)]
 by_cases h : p = m
 ·rw [if_pos h,h]
 ·rw [if_neg h]
theorem up1_step {L M : List Int} {m k : Nat} (hk : 0 < k ∧ k ≤ m) (hm : m < L.length) (hl : M.length = L.length) (h : ∀ p,gI M p = up1 (gI L) m k p) : ∀ p,gI (swI M k (k - 1)) p = up1 (gI L) m (k - 1) p:=by
 intro p
 rw [gI_sw (by omega) (by omega),h,h,h]
 unfold up1
 (repeat' split) <;> first | rfl | omega | (congr 1; omega)
theorem up1_srt (ho : IsOrd lt) {X M : List Int} {a i m : Nat} (hi : a ≤ i ∧ i ≤ m) (h1 : SrtR lt X a m) (hlo : ∀ c,a ≤ c → c < i → lt (gI X m) (gI X c) = false) (hhi : ∀ c,i ≤ c → c < m → lt (gI X m) (gI X c) = true) (hM : ∀ p,gI M p = up1 (gI X) m i p) : SrtR lt M a (m + 1):=by
 intro p q g1 g2 g3
 rw [hM,hM]
 unfold up1
 by_cases c1 : i < p ∧ p ≤ m
 ·rw [if_pos c1,if_pos (show i < q ∧ q ≤ m by omega)]; exact h1 _ _ (by omega) (by omega) (by omega)
 ·rw [if_neg c1]
  by_cases c2 : p = i
  ·rw [if_pos c2,if_pos (show i < q ∧ q ≤ m by omega)]; exact ho.asymm (hhi _ (by omega) (by omega))
  ·rw [if_neg c2]
   by_cases c3 : i < q ∧ q ≤ m
   ·rw [if_pos c3]; exact h1 _ _ g1 (by omega) (by omega)
   ·rw [if_neg c3]
    by_cases c4 : q = i
    ·rw [if_pos c4]; exact hlo p g1 (by omega)
    ·rw [if_neg c4]; exact h1 _ _ g1 g2 (by omega)
end Go.Abs
