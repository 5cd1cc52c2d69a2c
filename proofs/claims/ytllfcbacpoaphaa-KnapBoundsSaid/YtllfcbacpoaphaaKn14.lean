/-
  Layer 16: KnapSure.
-/
import Derived.Test.YtllfcbacpoaphaaKn13
import Derived.Test.YtllfcbacpoaphaaWak16
set_option maxRecDepth 100000
set_option linter.unusedSimpArgs false
set_option linter.unusedVariables false
namespace Go.Abs
def msk (mask k : Nat) : Bool := decide (mask / 2 ^ k % 2 = 1)
theorem selG_bound {f : Int × Int → Int} (b : Nat → Bool) : ∀ (L : List (Int × Int)), (∀ x ∈ L, 0 ≤ f x ∧ f x ≤ 2147483648) → 0 ≤ selG f L b ∧ selG f L b ≤ (L.length : Int) * 2147483648 := fun L => by
  induction L generalizing b with
  | nil => intro _; simp [selG]
  | cons x l ih =>
    intro h
    have h1 := h x (by simp)
    have h2 := ih (fun i => b (i + 1)) fun y hy => h y (by simp [hy])
    unfold selG
    simp only [List.length_cons]
    split <;> omega
end Go.Abs
namespace Go.Proofs.Ytllfcbacpoaphaa
open Go Go.Abs
theorem i64_nat_and {a b : Nat} (ha : a < 4611686018427387904) (hb : b < 4611686018427387904) : abin .and (.int .i64 a) (.int .i64 b) = some (.int .i64 ((a &&& b : Nat) : Int)) := by
  have h : (BitVec.ofInt 64 (a : Int) &&& BitVec.ofInt 64 (b : Int)).toNat = a &&& b := by
    rw [BitVec.toNat_and, BitVec.ofInt_natCast, BitVec.ofInt_natCast, BitVec.toNat_ofNat, BitVec.toNat_ofNat, Nat.mod_eq_of_lt (by omega), Nat.mod_eq_of_lt (by omega)]
  have hl : a &&& b ≤ a := Nat.and_le_left
  show some (Value.int .i64 (IntKind.i64.wrap ((BitVec.ofInt 64 (a : Int) &&& BitVec.ofInt 64 (b : Int)).toNat : Int))) = _
  rw [h, IntWalk.i64_in _ (by omega)]
theorem i64_and1 {a : Nat} (ha : a < 4611686018427387904) : abin .and (.int .i64 a) (.int .i64 1) = some (.int .i64 ((a % 2 : Nat) : Int)) := by
  have := i64_nat_and (b := 1) ha (by omega)
  rw [Nat.and_one_is_mod] at this; exact this
theorem i64_shl1 {k : Nat} (h : k < 62) : abin .shl (.int .i64 1) (.int .i64 k) = some (.int .i64 ((2 ^ k : Nat) : Int)) := by
  have hlt : 2 ^ k < 4611686018427387904 := Nat.pow_lt_pow_right (a := 2) (n := 62) (by omega) h
  simp only [abin]
  rw [if_neg (show ¬ (k : Int) < 0 by omega), show min (Int.toNat (k : Int)) IntKind.i64.bits = k by (show min k 64 = k); omega]
  have hz : ∀ z : Nat, z < 4611686018427387904 → IntKind.i64.wrap (z : Int) = z := fun z hz => IntWalk.i64_in _ (by omega)
  have := hz _ hlt
  simpa using this
theorem msk_shr {mask k : Nat} (hk : k < 60) : abin .shr (.int .i64 (mask : Int)) (.int .i64 (k : Int)) = some (.int .i64 ((mask / 2 ^ k : Nat) : Int)) := by
  simp only [abin]
  rw [if_neg (show ¬ (k : Int) < 0 by omega), show min (Int.toNat (k : Int)) IntKind.i64.bits = k by (show min k 64 = k); omega]
  rw [Int.fdiv_eq_ediv_of_nonneg _ (Int.pow_nonneg (by omega))]
  norm_cast
def SuI (H : AH) (v : Value) (L : List (Int × Int)) (mask : Nat) (k : Nat) (env : Env) (H' : AH) : Prop :=
  env 18 = some (.int .i64 mask) ∧ env 75 = some v ∧ env 76 = some (.int .i64 L.length) ∧ env 77 = some (.int .i64 k) ∧ env 19 = some (.int .i64 (selG (·.1) (L.take k) (msk mask))) ∧ env 20 = some (.int .i64 (selG (·.2) (L.take k) (msk mask))) ∧ WF H' ∧ Keep [] H H'
theorem sure_l2 {H : AH} {v : Value} {L : List (Int × Int)} {room : Int} {mask : Nat} (hw : WF H) (hL : SlV (fun b => b < H.next) H v L) (hok : ItOk L room) (hl : L.length ≤ 40) (hm : mask < 4611686018427387904) {env : Env} (h : SuI H v L mask 0 env H) :
    wpC Try.prog 149 (.loop ir_law16_KnapSure_l2) (fun e env' H' => e = .exit 2 ∧ SuI H v L mask L.length env' H') env H := by
  refine loop_upto L.length (SuI H v L mask) (Q := fun e env' H' => e = .exit 2 ∧ SuI H v L mask L.length env' H') h ?_
  rintro k env H' hk ⟨e18, e75, e76, e77, e19, e20, w', k'⟩
  by_cases hkn : k < L.length
  · have hL' := hL.kept hw k'
    obtain ⟨b0, off, sp, cap, cs, hcv, q1, q2⟩ := pairs_rd hL' (by omega)
    obtain ⟨g1, g2, g3, g4, g5⟩ := q2 k hkn
    have hval := hok.val L[k] (List.getElem_mem hkn)
    have s1 := selG_take (·.1) L (msk mask) k hkn
    have s2 := selG_take (·.2) L (msk mask) k hkn
    have htl : (L.take k).length ≤ 40 := by rw [List.length_take]; omega
    have b1 := selG_bound (f := (·.1)) (msk mask) (L.take k) fun x hx => (hok.val x (List.mem_of_mem_take hx)).1
    have b2 := selG_bound (f := (·.2)) (msk mask) (L.take k) fun x hx => (hok.val x (List.mem_of_mem_take hx)).2
    have hsh := msk_shr (mask := mask) (k := k) (by omega)
    have hlt : mask / 2 ^ k < 4611686018427387904 := Nat.lt_of_le_of_lt (Nat.div_le_self _ _) hm
    have han := i64_and1 hlt
    have hmb : msk mask k = decide (mask / 2 ^ k % 2 = 1) := rfl
    rw [hmb] at s1 s2
    generalize mask / 2 ^ k = mq at *
    have hmq : mq % 2 = 0 ∨ mq % 2 = 1 := by omega
    generalize mq % 2 = r at *
    have hx1 := hval.1
    have hx2 := hval.2
    generalize selG (fun x => x.1) (L.take k) (msk mask) = v0 at *
    generalize selG (fun x => x.2) (L.take k) (msk mask) = w0 at *
    generalize L[k] = x at *
    obtain ⟨x0, x1⟩ := x
    simp only at g1 hx1 hx2 s1 s2
    have w1 : IntKind.i64.wrap (v0 + x0) = v0 + x0 := IntWalk.i64_in _ (by omega)
    have w2 : IntKind.i64.wrap (w0 + x1) = w0 + x1 := IntWalk.i64_in _ (by omega)
    subst hcv
    rcases hmq with rfl | rfl
    · have s1' : selG (fun x => x.1) (L.take (k + 1)) (msk mask) = v0 := by simpa using s1
      have s2' : selG (fun x => x.2) (L.take (k + 1)) (msk mask) = w0 := by simpa using s2
      simp (disch := omega) [-getElem?_pos, if_pos, if_neg, decide_eq_true, decide_eq_false, ir_law16_KnapSure_l2, e18, e19, e20, e75, e76, e77, hkn, q1, g1, ↓hsh, ↓han, writeA, over, cut2i, IntWalk.i64_in]
      exact ⟨by simp [e18], by simp [e75], by simp [e76], by simp, by rw [s1']; simp [e19], by rw [s2']; simp [e20], w'.alloc, k'.trans' .alloc⟩
    · have s1' : selG (fun x => x.1) (L.take (k + 1)) (msk mask) = v0 + x0 := by simpa using s1
      have s2' : selG (fun x => x.2) (L.take (k + 1)) (msk mask) = w0 + x1 := by simpa using s2
      simp (disch := omega) [-getElem?_pos, if_pos, if_neg, decide_eq_true, decide_eq_false, ir_law16_KnapSure_l2, e18, e19, e20, e75, e76, e77, hkn, q1, g1, ↓hsh, ↓han, writeA, over, cut2i, w1, w2, IntWalk.i64_in]
      exact ⟨by simp [e18], by simp [e75], by simp [e76], by simp, by rw [s1']; simp, by rw [s2']; simp, w'.alloc, k'.trans' .alloc⟩
  · obtain rfl : k = L.length := by omega
    simp (disch := omega) [-getElem?_pos, if_pos, if_neg, decide_eq_true, decide_eq_false, ir_law16_KnapSure_l2, e76, e77]
    exact ⟨e18, e75, e76, e77, e19, e20, w', k'⟩
def Ckl1I (H : AH) (v a : Value) (IN : List Int) (mask : Nat) (k : Nat) (env : Env) (H' : AH) : Prop :=
  H' = H ∧ env 18 = some (.int .i64 mask) ∧ env 9 = some a ∧ env 104 = some v ∧ env 105 = some (.int .i64 IN.length) ∧ env 106 = some (.int .i64 k)
theorem sure_l1 {H : AH} {p : Nat → Prop} {v : Value} {aa : Option Addr} {ac n : Nat} {IN : List Int} {mask : Nat} (hIN : SlV p H v IN) (hn : n ≤ 40) (hm : mask < 4611686018427387904) (hb : ∀ x ∈ IN, ∃ i : Nat, x = (i : Int) ∧ i < n ∧ msk mask i = true) {env : Env} (h : Ckl1I H v (.slice aa n ac) IN mask 0 env H) :
    wpC Try.prog 149 (.loop ir_law16_KnapSure_l1) (fun e env' H' => e = .exit 4 ∧ H' = H) env H := by
  refine loop_upto IN.length (Ckl1I H v (.slice aa n ac) IN mask) (Q := fun e env' H' => e = .exit 4 ∧ H' = H) h ?_
  rintro k env H' hk ⟨rfl, e18, e9, e1, e2, e3⟩
  by_cases hkn : k < IN.length
  · obtain ⟨b0, off, sp, cap, cs, hcv, q1, q2⟩ := ints_rd hIN (by omega)
    obtain ⟨g1, _⟩ := q2 k hkn
    obtain ⟨i, hi, hin, hbi⟩ := hb _ (List.getElem_mem hkn)
    rw [hi] at g1
    subst hcv
    have hsh := msk_shr (mask := mask) (k := i) (by omega)
    have hlt : mask / 2 ^ i < 4611686018427387904 := Nat.lt_of_le_of_lt (Nat.div_le_self _ _) hm
    have han := i64_and1 hlt
    unfold msk at hbi
    generalize mask / 2 ^ i = mq at *
    have hmq : mq % 2 = 1 := by
      have : mq % 2 = 0 ∨ mq % 2 = 1 := by omega
      rcases this with h | h <;> simp [h] at hbi ⊢
    rw [hmq] at han
    have hin' : (i : Int) < (n : Int) := by omega
    have hmax := hIN.max
    simp (disch := omega) [-getElem?_pos, if_pos, if_neg, decide_eq_true, decide_eq_false, ir_law16_KnapSure_l1, e18, e9, e1, e2, e3, hkn, q1, g1, ↓hsh, ↓han, hin', IntWalk.i64_in]
    exact ⟨rfl, by simp [e18], by simp [e9], by simp [e1], by simp [e2], by simp⟩
  · obtain rfl : k = IN.length := by omega
    simp (disch := omega) [-getElem?_pos, if_pos, if_neg, decide_eq_true, decide_eq_false, ir_law16_KnapSure_l1, e2, e3]
def Ckl0I (H : AH) (v a : Value) (IN : List Int) (mask : Nat) (k : Nat) (env : Env) (H' : AH) : Prop :=
  H' = H ∧ env 18 = some (.int .i64 mask) ∧ env 9 = some a ∧ env 126 = some v ∧ env 127 = some (.int .i64 IN.length) ∧ env 128 = some (.int .i64 k)
theorem sure_l0 {H : AH} {p : Nat → Prop} {v : Value} {aa : Option Addr} {ac n : Nat} {IN : List Int} {mask : Nat} (hIN : SlV p H v IN) (hn : n ≤ 40) (hm : mask < 4611686018427387904) (hb : ∀ x ∈ IN, ∃ i : Nat, x = (i : Int) ∧ i < n ∧ msk mask i = false) {env : Env} (h : Ckl0I H v (.slice aa n ac) IN mask 0 env H) :
    wpC Try.prog 149 (.loop ir_law16_KnapSure_l0) (fun e env' H' => e = .exit 6 ∧ H' = H) env H := by
  refine loop_upto IN.length (Ckl0I H v (.slice aa n ac) IN mask) (Q := fun e env' H' => e = .exit 6 ∧ H' = H) h ?_
  rintro k env H' hk ⟨rfl, e18, e9, e1, e2, e3⟩
  by_cases hkn : k < IN.length
  · obtain ⟨b0, off, sp, cap, cs, hcv, q1, q2⟩ := ints_rd hIN (by omega)
    obtain ⟨g1, _⟩ := q2 k hkn
    obtain ⟨i, hi, hin, hbi⟩ := hb _ (List.getElem_mem hkn)
    rw [hi] at g1
    subst hcv
    have hsh := msk_shr (mask := mask) (k := i) (by omega)
    have hlt : mask / 2 ^ i < 4611686018427387904 := Nat.lt_of_le_of_lt (Nat.div_le_self _ _) hm
    have han := i64_and1 hlt
    unfold msk at hbi
    generalize mask / 2 ^ i = mq at *
    have hmq : mq % 2 = 0 := by
      have : mq % 2 = 0 ∨ mq % 2 = 1 := by omega
      rcases this with h | h <;> simp [h] at hbi ⊢
    rw [hmq] at han
    have hin' : (i : Int) < (n : Int) := by omega
    have hmax := hIN.max
    simp (disch := omega) [-getElem?_pos, if_pos, if_neg, decide_eq_true, decide_eq_false, ir_law16_KnapSure_l0, e18, e9, e1, e2, e3, hkn, q1, g1, ↓hsh, ↓han, hin', IntWalk.i64_in]
    exact ⟨rfl, by simp [e18], by simp [e9], by simp [e1], by simp [e2], by simp⟩
  · obtain rfl : k = IN.length := by omega
    simp (disch := omega) [-getElem?_pos, if_pos, if_neg, decide_eq_true, decide_eq_false, ir_law16_KnapSure_l0, e2, e3]
def SmI (H : AH) (v inv outv : Value) (n : Nat) (room worth : Int) (k : Nat) (env : Env) (H' : AH) : Prop :=
  env 9 = some v ∧ env 8 = some (.int .i64 room) ∧ env 14 = some (.int .i64 worth) ∧ env 15 = some inv ∧ env 16 = some outv ∧ env 71 = some (.int .i64 ((2 ^ n : Nat) : Int)) ∧ env 72 = some (.int .i64 k) ∧ WF H' ∧ Keep [] H H'
theorem sure_l3 {H : AH} {va : Option Addr} {vc : Nat} {inv outv : Value} {L : List (Int × Int)} {room worth : Int} (hw : WF H) (hL : SlV (fun b => b < H.next) H (.slice va L.length vc) L) (hok : ItOk L room) (hl : L.length ≤ 9) (hIN : SlV (fun b => b < H.next) H inv (selK (inB L room worth) L.length)) (hOUT : SlV (fun b => b < H.next) H outv (selK (outB L room worth) L.length)) {env : Env} (h : SmI H (.slice va L.length vc) inv outv L.length room worth 0 env H) :
    wpC Try.prog 149 (.loop ir_law16_KnapSure_l3) (fun e env' H' => e = .exit 0 ∧ Keep [] H H') env H := by
  have hp9 : 2 ^ L.length ≤ 512 := Nat.le_trans (Nat.pow_le_pow_right (by omega) hl) (by decide)
  refine loop_upto (2 ^ L.length) (SmI H (.slice va L.length vc) inv outv L.length room worth) (Q := fun e env' H' => e = .exit 0 ∧ Keep [] H H') h ?_
  rintro k env H' hk ⟨e9, e8, e14, e15, e16, e71, e72, w', k'⟩
  have hn' := k'.next
  generalize hN : 2 ^ L.length = N at *
  by_cases hkn : k < N
  · have hL' := (hL.kept hw k').mono (q := fun b => b < H'.next) fun b hb => by omega
    simp (disch := omega) [-getElem?_pos, if_pos, if_neg, decide_eq_true, decide_eq_false, ir_law16_KnapSure_l3, e9, e71, e72, hkn]
    refine wpC_use (sure_l2 (H := H') (v := .slice va L.length vc) (mask := k) w' hL' hok (by omega) (by omega) ⟨by simp, by simp, by simp, by simp, by simp [selG], by simp [selG], w', .refl⟩) ?_
    rintro e env2 H2 ⟨rfl, f18, f75, f76, f77, f19, f20, w2, k2⟩ hu
    rw [List.take_length] at f19 f20
    have u8 := hu 8 (by decide)
    have u9 := hu 9 (by decide)
    have u14 := hu 14 (by decide)
    have u15 := hu 15 (by decide)
    have u16 := hu 16 (by decide)
    have u71 := hu 71 (by decide)
    have u72 := hu 72 (by decide)
    have k02 := k'.trans' k2
    by_cases hc : room < selG (·.2) L (msk k) ∨ selG (·.1) L (msk k) ≤ worth
    · by_cases hc1 : room < selG (·.2) L (msk k)
      · generalize selG (·.2) L (msk k) = sw at *
        generalize selG (·.1) L (msk k) = sv at *
        simp (disch := omega) [-getElem?_pos, if_pos, if_neg, decide_eq_true, decide_eq_false, u8, u9, u14, u15, u16, u71, u72, e8, e9, e14, e15, e16, e71, e72, f19, f20, hc1, IntWalk.i64_in]
        exact ⟨hkn, by simp [u9, e9], by simp [u8, e8], by simp [u14, e14], by simp [u15, e15], by simp [u16, e16], by simp [u71, e71, hN], by simp, w2, k02⟩
      · have hc2 := hc.resolve_left hc1
        generalize selG (·.2) L (msk k) = sw at *
        generalize selG (·.1) L (msk k) = sv at *
        simp (disch := omega) [-getElem?_pos, if_pos, if_neg, decide_eq_true, decide_eq_false, u8, u9, u14, u15, u16, u71, u72, e8, e9, e14, e15, e16, e71, e72, f19, f20, hc1, hc2, IntWalk.i64_in]
        exact ⟨hkn, by simp [u9, e9], by simp [u8, e8], by simp [u14, e14], by simp [u15, e15], by simp [u16, e16], by simp [u71, e71, hN], by simp, w2, k02⟩
    · have hc1 : ¬ room < selG (·.2) L (msk k) := fun h => hc (.inl h)
      have hc2 : ¬ selG (·.1) L (msk k) ≤ worth := fun h => hc (.inr h)
      have hin : ∀ x ∈ selK (inB L room worth) L.length, ∃ i : Nat, x = (i : Int) ∧ i < L.length ∧ msk k i = true := fun x hx => by
        obtain ⟨i, rfl, h1, h2⟩ := selK_mem.1 hx
        exact ⟨i, rfl, h1, sure_in hok h1 (by omega) (by omega) h2⟩
      have hout : ∀ x ∈ selK (outB L room worth) L.length, ∃ i : Nat, x = (i : Int) ∧ i < L.length ∧ msk k i = false := fun x hx => by
        obtain ⟨i, rfl, h1, h2⟩ := selK_mem.1 hx
        exact ⟨i, rfl, h1, sure_out hok h1 (by omega) (by omega) h2⟩
      generalize selG (·.2) L (msk k) = sw at *
      generalize selG (·.1) L (msk k) = sv at *
      have hIN2 := hIN.kept hw k02
      have hOUT2 := hOUT.kept hw k02
      obtain ⟨ia, ic, hie⟩ := hIN2.slice
      obtain ⟨oa, oc, hoe⟩ := hOUT2.slice
      rw [hie] at hIN2 e15
      rw [hoe] at hOUT2 e16
      simp (disch := omega) [-getElem?_pos, if_pos, if_neg, decide_eq_true, decide_eq_false, u8, u9, u14, u15, u16, u71, u72, e8, e9, e14, e15, e16, e71, e72, f19, f20, hc1, hc2]
      refine wpC_use (sure_l1 (H := H2) (mask := k) (n := L.length) (aa := va) (ac := vc) hIN2 (by omega) (by omega) hin ⟨rfl, by simp [f18], by simp [u9, e9], by simp, by simp, by simp⟩) ?_
      rintro e env3 H3 ⟨rfl, rfl⟩ hu3
      have x8 := hu3 8 (by decide)
      have x9 := hu3 9 (by decide)
      have x14 := hu3 14 (by decide)
      have x15 := hu3 15 (by decide)
      have x16 := hu3 16 (by decide)
      have x18 := hu3 18 (by decide)
      have x71 := hu3 71 (by decide)
      have x72 := hu3 72 (by decide)
      simp (disch := omega) [-getElem?_pos, if_pos, if_neg, decide_eq_true, decide_eq_false, x8, x9, x14, x15, x16, x18, x71, x72, u8, u9, u14, u15, u16, u71, u72, e8, e9, e14, e15, e16, e71, e72, f18]
      refine wpC_use (sure_l0 (H := H3) (mask := k) (n := L.length) (aa := va) (ac := vc) hOUT2 (by omega) (by omega) hout ⟨rfl, by simp [x18, f18], by simp [x9, u9, e9], by simp, by simp, by simp⟩) ?_
      rintro e env4 H4 ⟨rfl, rfl⟩ hu4
      have y8 := hu4 8 (by decide)
      have y9 := hu4 9 (by decide)
      have y14 := hu4 14 (by decide)
      have y15 := hu4 15 (by decide)
      have y16 := hu4 16 (by decide)
      have y71 := hu4 71 (by decide)
      have y72 := hu4 72 (by decide)
      simp (disch := omega) [-getElem?_pos, if_pos, if_neg, decide_eq_true, decide_eq_false, y8, y9, y14, y15, y16, y71, y72, x8, x9, x14, x15, x16, x71, x72, u8, u9, u14, u15, u16, u71, u72, e8, e9, e14, e15, e16, e71, e72, IntWalk.i64_in]
      exact ⟨hkn, by simp [y9, x9, u9, e9], by simp [y8, x8, u8, e8], by simp [y14, x14, u14, e14], by simp [y15, x15, u15, e15, hie], by simp [y16, x16, u16, e16, hoe], by simp [y71, x71, u71, e71, hN], by simp, w2, k02⟩
  · obtain rfl : k = N := by omega
    simp (disch := omega) [-getElem?_pos, if_pos, if_neg, decide_eq_true, decide_eq_false, ir_law16_KnapSure_l3, e71, e72]
    exact k'
end Go.Proofs.Ytllfcbacpoaphaa
