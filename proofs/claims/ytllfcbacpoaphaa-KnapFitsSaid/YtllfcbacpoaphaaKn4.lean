/-
  The library's stable sort of places, by a closure (3): two runs are merged.
-/
import Derived.Test.YtllfcbacpoaphaaKn3
set_option maxRecDepth 100000
set_option linter.unusedSimpArgs false
set_option linter.unusedVariables false
namespace Go.Proofs.Ytllfcbacpoaphaa
open Go Go.Abs
theorem half_shr {n : Nat} (h : n < 18446744073709551616) : abin .shr (.int .u64 (IntKind.u64.wrap (n : Int))) (uv 1) = some (.int .u64 ((n / 2 : Nat) : Int)):=by
 have hw : IntKind.u64.wrap (n : Int) = (n : Int):=by simp [IntKind.wrap,IntKind.bits,IntKind.signed]; omega
 rw [hw]
 exact uv_shr (k:=.u64) (n:=1) h
structure MgC (H0 : AH) (q b n : Nat) (L : List (Int × Int)) (X : List Int) : Prop where
 len : X.length = n
 n5 : n ≤ 5000
 c : SrtC H0 q b L
 pl : PlIn L X
 w : ∀ x ∈ L,0 ≤ x.2
theorem MgC.lt {H0 : AH} {q b n : Nat} {L : List (Int × Int)} {X : List Int} (h : MgC H0 q b n L X) {i j : Nat} (hi : i < n) (hj : j < n) (hlt : gI X j < gI X i) : AFn Try.prog F_knap_Order_1 [.int .i64 (gI X i),.int .i64 (gI X j),.pointer (some ⟨q,0,none⟩)] (dH H0 b X) (fun u H' => u = .int .i64 (worthI (itm L (gI X i)) (itm L (gI X j))) ∧ H' = dH H0 b X) ∧ (ahB L (gI X i) (gI X j) = true ↔ worthI (itm L (gI X i)) (itm L (gI X j)) < 0):=by
 have hl:=h.len
 exact ⟨h.c.cmp (h.pl.at (by omega)) (h.pl.at (by omega)),ahB_later hlt⟩
def M4I (H0 : AH) (q b n lo m hi : Nat) (L : List (Int × Int)) (X : List Int) (v : Value) (t : Nat) (env : Env) (H' : AH) : Prop :=
 ∃ s r,t = r - s ∧ env 0 = some v ∧ env 1 = some (.int .i64 (lo : Nat)) ∧ env 4 = some (ordC q) ∧ env 10 = some (.int .i64 (s : Nat)) ∧ env 11 = some (.int .i64 (r : Nat)) ∧ H' = dH H0 b X ∧ SchI (fun c => ahB L (gI X c) (gI X lo)) (lo + 1) hi s r
def M4Q (H0 : AH) (q b n lo m hi : Nat) (L : List (Int × Int)) (X : List Int) (v : Value) (ex : AExit) (env : Env) (H' : AH) : Prop :=
 ex = .exit 0 ∧ ∃ s,env 0 = some v ∧ env 1 = some (.int .i64 (lo : Nat)) ∧ env 10 = some (.int .i64 (s : Nat)) ∧ H' = dH H0 b X ∧ SchI (fun c => ahB L (gI X c) (gI X lo)) (lo + 1) hi s s
theorem mg_l4 {H0 H : AH} {q b n lo hi : Nat} {L : List (Int × Int)} {X : List Int} {v : Value} (hC : MgC H0 q b n L X) (hv : v = .slice (some ⟨b,0,none⟩) n n) (hlh : lo + 1 < hi) (hh : hi ≤ n) (h2 : SrtR (ahB L) X (lo + 1) hi) (h3 : RunR X lo (lo + 1) hi) {env : Env} (h : M4I H0 q b n lo (lo + 1) hi L X v (hi - (lo + 1)) env H) :
  wpC Try.prog 220 (.loop ir_slices_symMergeCmpFunc_int_l4) (M4Q H0 q b n lo (lo + 1) hi L X v) env H:=by
 refine loop_rule (M4I H0 q b n lo (lo + 1) hi L X v) (Q:=M4Q H0 q b n lo (lo + 1) hi L X v) ?_ (j:=hi - (lo + 1)) h
 rintro t env H' ⟨s,r,rfl,e0,e1,e4,e10,e11,rfl,hI⟩
 have hb:=hI.bd
 have ho:=ahB_ord hC.w
 have hn5:=hC.n5
 have hXn:=hC.len
 by_cases hsr : s < r
 ·obtain ⟨c,hc⟩ : ∃ c,c = (s + r) / 2:=⟨_,rfl⟩
  have hcs : s ≤ c ∧ c < r:=by omega
  have mono : ∀ c d,lo + 1 ≤ c → c ≤ d → d < hi → ahB L (gI X d) (gI X lo) = true → ahB L (gI X c) (gI X lo) = true:=fun c d g1 g2 g3 g4 => by
   by_cases hcd : c = d
   ·rw [hcd]; exact g4
   ·have:=h2 c d g1 (by omega) g3
    cases hx : ahB L (gI X c) (gI X lo) with
    | true => rfl
    | false => rw [ho.le_trans hx this] at g4; cases g4
  obtain ⟨hcm,hiff⟩:=hC.lt (i:=c) (j:=lo) (by omega) (by omega) (h3 lo c (by omega) (by omega) (by omega) (by omega))
  have hup:=hI.up mono hcs
  have hdn:=hI.down mono hcs
  have s1:=rI_get (X:=X) (i:=c) (by omega)
  have s2:=rI_get (X:=X) (i:=lo) (by omega)
  have hce:=dH_cells (H0:=H0) (b:=b) (X:=X)
  have hsh:=half_shr (n:=s + r) (by omega)
  rw [← hc] at hsh
  have hsi : (s : Int) + (r : Int) = ((s + r : Nat) : Int):=by omega
  have hcn : (c : Int) < (n : Int):=by omega
  have hln : (lo : Int) < (n : Int):=by omega
  generalize s + r = sr at *
  subst hv
  generalize gI X c = x at *
  generalize hy : gI X lo = y at *
  unfold ordC at e4
  cases hx : ahB L x y with
  | true =>
   have hz:=hiff.1 hx
   generalize worthI (itm L x) (itm L y) = z at *
   simp (disch:=omega) [-getElem?_pos,if_pos,if_neg,decide_eq_true,decide_eq_false,ir_slices_symMergeCmpFunc_int_l4,e0,e1,e4,e10,e11,hsr,hsi,↓hsh,hce,s1,s2,hcn,hln,IntWalk.i64_in]
   refine AFnD.of hcm ?_
   simp (disch:=omega) [-getElem?_pos,if_pos,if_neg,decide_eq_true,decide_eq_false,hz,e0,e1,e4,e10,e11,IntWalk.i64_in]
   exact ⟨r - (c + 1),by omega,c + 1,r,rfl,by simp [e0],by simp [e1],by simp [e4,ordC],by simp,by simp [e11],rfl,by rw [hy]; exact hup hx⟩
  | false =>
   have hz : ¬ worthI (itm L x) (itm L y) < 0:=fun h => by rw [hiff.2 h] at hx; cases hx
   generalize worthI (itm L x) (itm L y) = z at *
   simp (disch:=omega) [-getElem?_pos,if_pos,if_neg,decide_eq_true,decide_eq_false,ir_slices_symMergeCmpFunc_int_l4,e0,e1,e4,e10,e11,hsr,hsi,↓hsh,hce,s1,s2,hcn,hln,IntWalk.i64_in]
   refine AFnD.of hcm ?_
   simp (disch:=omega) [-getElem?_pos,if_pos,if_neg,decide_eq_true,decide_eq_false,hz,e0,e1,e4,e10,e11,IntWalk.i64_in]
   exact ⟨c - s,by omega,s,c,rfl,by simp [e0],by simp [e1],by simp [e4,ordC],by simp [e10],by simp,rfl,by rw [hy]; exact hdn hx⟩
 ·obtain rfl : s = r:=by omega
  simp (disch:=omega) [-getElem?_pos,if_pos,if_neg,decide_eq_true,decide_eq_false,ir_slices_symMergeCmpFunc_int_l4,e10,e11]
  exact ⟨rfl,s,e0,e1,e10,rfl,hI⟩
def M3I (H0 : AH) (b n lo hi i : Nat) (X : List Int) (v : Value) (t : Nat) (env : Env) (H' : AH) : Prop :=
 ∃ k,t = i - k ∧ lo ≤ k ∧ k + 1 ≤ i ∧ env 0 = some v ∧ env 10 = some (.int .i64 (i : Nat)) ∧ env 13 = some (.int .i64 (k : Nat)) ∧ ∃ M,H' = dH H0 b M ∧ SwR lo hi X M ∧ ∀ p,gI M p = down1 (gI X) lo (k + 1) p
theorem mg_l3 {H0 H : AH} {b n lo hi i : Nat} {X : List Int} {v : Value} (hXn : X.length = n) (hn5 : n ≤ 5000) (hv : v = .slice (some ⟨b,0,none⟩) n n) (hi1 : lo + 1 ≤ i) (hih : i ≤ hi) (hh : hi ≤ n) {env : Env} (h : M3I H0 b n lo hi i X v (i - lo) env H) :
  wpC Try.prog 220 (.loop ir_slices_symMergeCmpFunc_int_l3) (fun ex env H' => ex = .exit 2 ∧ ∃ M,H' = dH H0 b M ∧ SwR lo hi X M ∧ ∀ p,gI M p = down1 (gI X) lo i p) env H:=by
 refine loop_rule (M3I H0 b n lo hi i X v) (Q:=fun ex env H' => ex = .exit 2 ∧ ∃ M,H' = dH H0 b M ∧ SwR lo hi X M ∧ ∀ p,gI M p = down1 (gI X) lo i p) ?_ (j:=i - lo) h
 rintro t env H' ⟨k,rfl,hlk,hki,e0,e10,e13,M,rfl,hS,hx⟩
 have hMl:=hS.length
 have h1 : (i : Int) - 1 = ((i - 1 : Nat) : Int):=by omega
 by_cases hk : k + 1 < i
 ·obtain ⟨s1,s2,s3,s4⟩:=dH_swap (H0:=H0) (b:=b) (X:=M) (i:=k) (k:=k + 1) (by omega) (by omega)
  have hst:=down1_step (L:=X) (M:=M) hlk hk (by omega) hMl hx
  have hce:=dH_cells (H0:=H0) (b:=b) (X:=M)
  have hsw:=SwR.step (a:=lo) (b:=hi) (L:=X) (M:=M) k (k + 1) ⟨by omega,by omega,by omega⟩ ⟨by omega,by omega,by omega⟩ hS
  have hkk : (k : Int) + 1 = ((k + 1 : Nat) : Int):=by omega
  have hkn : (k : Int) < (n : Int):=by omega
  obtain ⟨k1,hk1⟩ : ∃ k1,k1 = k + 1:=⟨_,rfl⟩
  rw [← hk1] at s2 s3 s4 hsw hkk
  have hst' : ∀ p,gI (swI M k k1) p = down1 (gI X) lo (k1 + 1) p:=by rw [hk1]; exact hst
  have hk1n : (k1 : Int) < (n : Int):=by omega
  have hki1 : (k : Int) < ((i - 1 : Nat) : Int):=by omega
  subst hv
  generalize gI M k = x at *
  generalize gI M k1 = y at *
  simp (disch:=omega) [-getElem?_pos,if_pos,if_neg,decide_eq_true,decide_eq_false,ir_slices_symMergeCmpFunc_int_l3,e0,e10,e13,h1,hki1,hkk,hkn,hk1n,hce,s1,s2,s3,s4,IntWalk.i64_in]
  exact ⟨i - k1,by omega,k1,rfl,by omega,by omega,by simp [e0],by simp [e10],by simp,swI M k k1,rfl,hsw,hst'⟩
 ·obtain rfl : i = k + 1:=by omega
  have hki1 : ¬ (k : Int) < ((k + 1 - 1 : Nat) : Int):=by omega
  simp (disch:=omega) [-getElem?_pos,if_pos,if_neg,decide_eq_true,decide_eq_false,ir_slices_symMergeCmpFunc_int_l3,e10,e13,h1,hki1,IntWalk.i64_in]
  exact ⟨M,rfl,hS,hx⟩
def M2I (H0 : AH) (q b n lo m : Nat) (L : List (Int × Int)) (X : List Int) (v : Value) (t : Nat) (env : Env) (H' : AH) : Prop :=
 ∃ s r,t = r - s ∧ env 0 = some v ∧ env 2 = some (.int .i64 (m : Nat)) ∧ env 4 = some (ordC q) ∧ env 14 = some (.int .i64 (s : Nat)) ∧ env 15 = some (.int .i64 (r : Nat)) ∧ H' = dH H0 b X ∧ SchI (fun c => !(ahB L (gI X m) (gI X c))) lo m s r
def M2Q (H0 : AH) (q b n lo m : Nat) (L : List (Int × Int)) (X : List Int) (v : Value) (ex : AExit) (env : Env) (H' : AH) : Prop :=
 ex = .exit 4 ∧ ∃ s,env 0 = some v ∧ env 2 = some (.int .i64 (m : Nat)) ∧ env 14 = some (.int .i64 (s : Nat)) ∧ H' = dH H0 b X ∧ SchI (fun c => !(ahB L (gI X m) (gI X c))) lo m s s
theorem mg_l2 {H0 H : AH} {q b n lo m : Nat} {L : List (Int × Int)} {X : List Int} {v : Value} (hC : MgC H0 q b n L X) (hv : v = .slice (some ⟨b,0,none⟩) n n) (hlm : lo < m) (hm : m < n) (h1 : SrtR (ahB L) X lo m) (h3 : RunR X lo m (m + 1)) {env : Env} (h : M2I H0 q b n lo m L X v (m - lo) env H) :
  wpC Try.prog 220 (.loop ir_slices_symMergeCmpFunc_int_l2) (M2Q H0 q b n lo m L X v) env H:=by
 refine loop_rule (M2I H0 q b n lo m L X v) (Q:=M2Q H0 q b n lo m L X v) ?_ (j:=m - lo) h
 rintro t env H' ⟨s,r,rfl,e0,e2,e4,e14,e15,rfl,hI⟩
 have hb:=hI.bd
 have ho:=ahB_ord hC.w
 have hn5:=hC.n5
 have hXn:=hC.len
 by_cases hsr : s < r
 ·obtain ⟨c,hc⟩ : ∃ c,c = (s + r) / 2:=⟨_,rfl⟩
  have hcs : s ≤ c ∧ c < r:=by omega
  have mono : ∀ c d,lo ≤ c → c ≤ d → d < m → (!(ahB L (gI X m) (gI X d))) = true → (!(ahB L (gI X m) (gI X c))) = true:=fun c d g1 g2 g3 g4 => by
   by_cases hcd : c = d
   ·rw [hcd]; exact g4
   ·have:=h1 c d g1 (by omega) g3
    rw [Bool.not_eq_true'] at g4 ⊢
    exact ho.le_trans this g4
  obtain ⟨hcm,hiff⟩:=hC.lt (i:=m) (j:=c) (by omega) (by omega) (h3 c m (by omega) (by omega) (by omega) (by omega))
  have hup : (!(ahB L (gI X m) (gI X c))) = true → SchI (fun c => !(ahB L (gI X m) (gI X c))) lo m (c + 1) r:=hI.up mono hcs
  have hdn : (!(ahB L (gI X m) (gI X c))) = false → SchI (fun c => !(ahB L (gI X m) (gI X c))) lo m s c:=hI.down mono hcs
  have s1:=rI_get (X:=X) (i:=c) (by omega)
  have s2:=rI_get (X:=X) (i:=m) (by omega)
  have hce:=dH_cells (H0:=H0) (b:=b) (X:=X)
  have hsh:=half_shr (n:=s + r) (by omega)
  rw [← hc] at hsh
  have hsi : (s : Int) + (r : Int) = ((s + r : Nat) : Int):=by omega
  have hcn : (c : Int) < (n : Int):=by omega
  have hln : (m : Int) < (n : Int):=by omega
  generalize s + r = sr at *
  subst hv
  unfold ordC at e4
  generalize gI X c = x at *
  generalize hy : gI X m = y at *
  cases hx : ahB L y x with
  | true =>
   have hz:=hiff.1 hx
   generalize worthI (itm L y) (itm L x) = z at *
   simp (disch:=omega) [-getElem?_pos,if_pos,if_neg,decide_eq_true,decide_eq_false,ir_slices_symMergeCmpFunc_int_l2,e0,e2,e4,e14,e15,hsr,hsi,↓hsh,hce,s1,s2,hcn,hln,IntWalk.i64_in]
   refine AFnD.of hcm ?_
   simp (disch:=omega) [-getElem?_pos,if_pos,if_neg,decide_eq_true,decide_eq_false,hz,e0,e2,e4,e14,e15,IntWalk.i64_in]
   exact ⟨c - s,by omega,s,c,rfl,by simp [e0],by simp [e2],by simp [e4,ordC],by simp [e14],by simp,rfl,by rw [hy]; exact hdn (by rw [hx]; rfl)⟩
  | false =>
   have hz : ¬ worthI (itm L y) (itm L x) < 0:=fun h => by rw [hiff.2 h] at hx; cases hx
   generalize worthI (itm L y) (itm L x) = z at *
   simp (disch:=omega) [-getElem?_pos,if_pos,if_neg,decide_eq_true,decide_eq_false,ir_slices_symMergeCmpFunc_int_l2,e0,e2,e4,e14,e15,hsr,hsi,↓hsh,hce,s1,s2,hcn,hln,IntWalk.i64_in]
   refine AFnD.of hcm ?_
   simp (disch:=omega) [-getElem?_pos,if_pos,if_neg,decide_eq_true,decide_eq_false,hz,e0,e2,e4,e14,e15,IntWalk.i64_in]
   exact ⟨r - (c + 1),by omega,c + 1,r,rfl,by simp [e0],by simp [e2],by simp [e4,ordC],by simp,by simp [e15],rfl,by rw [hy]; exact hup (by rw [hx]; rfl)⟩
 ·obtain rfl : s = r:=by omega
  simp (disch:=omega) [-getElem?_pos,if_pos,if_neg,decide_eq_true,decide_eq_false,ir_slices_symMergeCmpFunc_int_l2,e14,e15]
  exact ⟨rfl,s,e0,e2,e14,rfl,hI⟩
def M1I (H0 : AH) (b n lo m i : Nat) (X : List Int) (v : Value) (t : Nat) (env : Env) (H' : AH) : Prop :=
 ∃ k,t = k - i ∧ i ≤ k ∧ k ≤ m ∧ env 0 = some v ∧ env 14 = some (.int .i64 (i : Nat)) ∧ env 17 = some (.int .i64 (k : Nat)) ∧ ∃ M,H' = dH H0 b M ∧ SwR lo (m + 1) X M ∧ ∀ p,gI M p = up1 (gI X) m k p
theorem mg_l1 {H0 H : AH} {b n lo m i : Nat} {X : List Int} {v : Value} (hXn : X.length = n) (hn5 : n ≤ 5000) (hv : v = .slice (some ⟨b,0,none⟩) n n) (hi1 : lo ≤ i) (him : i ≤ m) (hm : m < n) {env : Env} (h : M1I H0 b n lo m i X v (m - i) env H) :
  wpC Try.prog 220 (.loop ir_slices_symMergeCmpFunc_int_l1) (fun ex env H' => ex = .exit 6 ∧ ∃ M,H' = dH H0 b M ∧ SwR lo (m + 1) X M ∧ ∀ p,gI M p = up1 (gI X) m i p) env H:=by
 refine loop_rule (M1I H0 b n lo m i X v) (Q:=fun ex env H' => ex = .exit 6 ∧ ∃ M,H' = dH H0 b M ∧ SwR lo (m + 1) X M ∧ ∀ p,gI M p = up1 (gI X) m i p) ?_ (j:=m - i) h
 rintro t env H' ⟨k,rfl,hlk,hki,e0,e14,e17,M,rfl,hS,hx⟩
 have hMl:=hS.length
 by_cases hk : i < k
 ·obtain ⟨k1,hk1⟩ : ∃ k1,k1 = k - 1:=⟨_,rfl⟩
  obtain ⟨s1,s2,s3,s4⟩:=dH_swap (H0:=H0) (b:=b) (X:=M) (i:=k) (k:=k1) (by omega) (by omega)
  have hst:=up1_step (L:=X) (M:=M) (m:=m) (k:=k) ⟨by omega,hki⟩ (by omega) hMl hx
  rw [← hk1] at hst
  have hce:=dH_cells (H0:=H0) (b:=b) (X:=M)
  have hsw:=SwR.step (a:=lo) (b:=m + 1) (L:=X) (M:=M) k k1 ⟨by omega,by omega,by omega⟩ ⟨by omega,by omega,by omega⟩ hS
  have hkk : (k : Int) - 1 = (k1 : Int):=by omega
  have hkn : (k : Int) < (n : Int):=by omega
  have hk1n : (k1 : Int) < (n : Int):=by omega
  have hki1 : (i : Int) < (k : Int):=by omega
  subst hv
  generalize gI M k = x at *
  generalize gI M k1 = y at *
  simp (disch:=omega) [-getElem?_pos,if_pos,if_neg,decide_eq_true,decide_eq_false,ir_slices_symMergeCmpFunc_int_l1,e0,e14,e17,hki1,hkk,hkn,hk1n,hce,s1,s2,s3,s4,IntWalk.i64_in]
  exact ⟨k1 - i,by omega,k1,rfl,by omega,by omega,by simp [e0],by simp [e14],by simp,swI M k k1,rfl,hsw,hst⟩
 ·obtain rfl : i = k:=by omega
  simp (disch:=omega) [-getElem?_pos,if_pos,if_neg,decide_eq_true,decide_eq_false,ir_slices_symMergeCmpFunc_int_l1,e14,e17]
  exact ⟨M,rfl,hS,hx⟩
def M0I (H0 : AH) (q b n lo m hi mid nn p s0 r0 : Nat) (L : List (Int × Int)) (X : List Int) (v : Value) (t : Nat) (env : Env) (H' : AH) : Prop :=
 ∃ s r,t = r - s ∧ env 0 = some v ∧ env 4 = some (ordC q) ∧ env 20 = some (.int .i64 (s : Nat)) ∧ env 21 = some (.int .i64 (r : Nat)) ∧ env 22 = some (.int .i64 (p : Nat)) ∧ env 1 = some (.int .i64 (lo : Nat)) ∧ env 2 = some (.int .i64 (m : Nat)) ∧ env 3 = some (.int .i64 (hi : Nat)) ∧ env 18 = some (.int .i64 (mid : Nat)) ∧ env 19 = some (.int .i64 (nn : Nat)) ∧ H' = dH H0 b X ∧ SchI (fun c => !(ahB L (gI X (p - c)) (gI X c))) s0 r0 s r
def M0Q (H0 : AH) (q b n lo m hi mid nn p s0 r0 : Nat) (L : List (Int × Int)) (X : List Int) (v : Value) (ex : AExit) (env : Env) (H' : AH) : Prop :=
 ex = .exit 8 ∧ ∃ s,env 0 = some v ∧ env 4 = some (ordC q) ∧ env 20 = some (.int .i64 (s : Nat)) ∧ env 1 = some (.int .i64 (lo : Nat)) ∧ env 2 = some (.int .i64 (m : Nat)) ∧ env 3 = some (.int .i64 (hi : Nat)) ∧ env 18 = some (.int .i64 (mid : Nat)) ∧ env 19 = some (.int .i64 (nn : Nat)) ∧ H' = dH H0 b X ∧ SchI (fun c => !(ahB L (gI X (p - c)) (gI X c))) s0 r0 s s
theorem mg_l0 {H0 H : AH} {q b n lo m hi mid nn p s0 r0 : Nat} {L : List (Int × Int)} {X : List Int} {v : Value} (hC : MgC H0 q b n L X) (hv : v = .slice (some ⟨b,0,none⟩) n n) (hh : hi ≤ n) (h1 : SrtR (ahB L) X lo m) (h2 : SrtR (ahB L) X m hi) (h3 : RunR X lo m hi) (hp : ∀ c,s0 ≤ c → c < r0 → lo ≤ c ∧ c < m ∧ m ≤ p - c ∧ p - c < hi ∧ c ≤ p) {env : Env} (h : M0I H0 q b n lo m hi mid nn p s0 r0 L X v (r0 - s0) env H) :
  wpC Try.prog 220 (.loop ir_slices_symMergeCmpFunc_int_l0) (M0Q H0 q b n lo m hi mid nn p s0 r0 L X v) env H:=by
 refine loop_rule (M0I H0 q b n lo m hi mid nn p s0 r0 L X v) (Q:=M0Q H0 q b n lo m hi mid nn p s0 r0 L X v) ?_ (j:=r0 - s0) h
 rintro t env H' ⟨s,r,rfl,e0,e4,e20,e21,e22,e1,e2,e3,e18,e19,rfl,hI⟩
 have hb:=hI.bd
 have ho:=ahB_ord hC.w
 have hn5:=hC.n5
 have hXn:=hC.len
 by_cases hsr : s < r
 ·obtain ⟨c,hc⟩ : ∃ c,c = (s + r) / 2:=⟨_,rfl⟩
  have hcs : s ≤ c ∧ c < r:=by omega
  have mono : ∀ c d,s0 ≤ c → c ≤ d → d < r0 → (!(ahB L (gI X (p - d)) (gI X d))) = true → (!(ahB L (gI X (p - c)) (gI X c))) = true:=fun c d g1 g2 g3 g4 => by
   by_cases hcd : c = d
   ·rw [hcd]; exact g4
   ·have pc:=hp c g1 (by omega)
    have pd:=hp d (by omega) g3
    have a1:=h1 c d pc.1 (by omega) pd.2.1
    have a2:=h2 (p - d) (p - c) pd.2.2.1 (by omega) pc.2.2.2.1
    rw [Bool.not_eq_true'] at g4 ⊢
    exact ho.le_trans (ho.le_trans a1 g4) a2
  have pc:=hp c (by omega) (by omega)
  obtain ⟨d,hd⟩ : ∃ d,d = p - c:=⟨_,rfl⟩
  obtain ⟨hcm,hiff⟩:=hC.lt (i:=d) (j:=c) (by omega) (by omega) (h3 c d (by omega) (by omega) (by omega) (by omega))
  have hup : (!(ahB L (gI X (p - c)) (gI X c))) = true → SchI (fun c => !(ahB L (gI X (p - c)) (gI X c))) s0 r0 (c + 1) r:=hI.up mono hcs
  have hdn : (!(ahB L (gI X (p - c)) (gI X c))) = false → SchI (fun c => !(ahB L (gI X (p - c)) (gI X c))) s0 r0 s c:=hI.down mono hcs
  rw [← hd] at hup hdn
  have s1:=rI_get (X:=X) (i:=c) (by omega)
  have s2:=rI_get (X:=X) (i:=d) (by omega)
  have hce:=dH_cells (H0:=H0) (b:=b) (X:=X)
  have hsh:=half_shr (n:=s + r) (by omega)
  rw [← hc] at hsh
  have hsi : (s : Int) + (r : Int) = ((s + r : Nat) : Int):=by omega
  have hcn : (c : Int) < (n : Int):=by omega
  have hdn' : (d : Int) < (n : Int):=by omega
  have hdp : (p : Int) - (c : Int) = (d : Int):=by omega
  generalize s + r = sr at *
  subst hv
  unfold ordC at e4
  generalize gI X c = x at *
  generalize gI X d = y at *
  cases hx : ahB L y x with
  | true =>
   have hz:=hiff.1 hx
   generalize worthI (itm L y) (itm L x) = z at *
   simp (disch:=omega) [-getElem?_pos,if_pos,if_neg,decide_eq_true,decide_eq_false,ir_slices_symMergeCmpFunc_int_l0,e0,e4,e20,e21,e22,hsr,hsi,hdp,↓hsh,hce,s1,s2,hcn,hdn',IntWalk.i64_in]
   refine AFnD.of hcm ?_
   simp (disch:=omega) [-getElem?_pos,if_pos,if_neg,decide_eq_true,decide_eq_false,hz,e0,e4,e20,e21,e22,IntWalk.i64_in]
   exact ⟨c - s,by omega,s,c,rfl,by simp [e0],by simp [e4,ordC],by simp [e20],by simp,by simp [e22],by simp [e1],by simp [e2],by simp [e3],by simp [e18],by simp [e19],rfl,hdn (by rw [hx]; rfl)⟩
  | false =>
   have hz : ¬ worthI (itm L y) (itm L x) < 0:=fun h => by rw [hiff.2 h] at hx; cases hx
   generalize worthI (itm L y) (itm L x) = z at *
   simp (disch:=omega) [-getElem?_pos,if_pos,if_neg,decide_eq_true,decide_eq_false,ir_slices_symMergeCmpFunc_int_l0,e0,e4,e20,e21,e22,hsr,hsi,hdp,↓hsh,hce,s1,s2,hcn,hdn',IntWalk.i64_in]
   refine AFnD.of hcm ?_
   simp (disch:=omega) [-getElem?_pos,if_pos,if_neg,decide_eq_true,decide_eq_false,hz,e0,e4,e20,e21,e22,IntWalk.i64_in]
   exact ⟨r - (c + 1),by omega,c + 1,r,rfl,by simp [e0],by simp [e4,ordC],by simp,by simp [e21],by simp [e22],by simp [e1],by simp [e2],by simp [e3],by simp [e18],by simp [e19],rfl,hup (by rw [hx]; rfl)⟩
 ·obtain rfl : s = r:=by omega
  simp (disch:=omega) [-getElem?_pos,if_pos,if_neg,decide_eq_true,decide_eq_false,ir_slices_symMergeCmpFunc_int_l0,e20,e21]
  exact ⟨rfl,s,e0,e4,e20,e1,e2,e3,e18,e19,rfl,hI⟩
end Go.Proofs.Ytllfcbacpoaphaa
