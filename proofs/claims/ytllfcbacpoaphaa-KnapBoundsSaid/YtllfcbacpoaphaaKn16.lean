/-
  Layer 16: KnapBounds.
-/
import Derived.Test.YtllfcbacpoaphaaKn14
import Derived.Test.YtllfcbacpoaphaaKd66
set_option maxRecDepth 100000
set_option linter.unusedSimpArgs false
set_option linter.unusedVariables false
namespace Go.Abs
open Go
theorem mkOk_small {x : Int × Int} (h1 : 0 ≤ x.1 ∧ x.1 ≤ 2147483648) (h2 : 0 < x.2 ∧ x.2 ≤ 2147483648) : mkOk x.1 x.2 = true ∧ (0 < (Int.gcd x.1 x.2 : Int)) ∧ x.1 = mkNum x.1 x.2 * (Int.gcd x.1 x.2 : Int) ∧ x.2 = mkDen x.1 x.2 * (Int.gcd x.1 x.2 : Int) ∧ goodK (mkNum x.1 x.2) (mkDen x.1 x.2) = true := by
  obtain ⟨x0, x1⟩ := x
  simp only at h1 h2 ⊢
  obtain ⟨g0, gA, gB, gP⟩ := mk_exact (n := x0) (d := x1) (by omega)
  rw [if_neg (by omega)] at gA gB
  have hA0 : 0 ≤ mkA x0 x1 := by unfold mkA; rw [if_neg (by omega)]; exact Int.ediv_nonneg h1.1 (by omega)
  have hA1 : mkA x0 x1 ≤ x0 := by
    have := Int.mul_le_mul_of_nonneg_right (show (1 : Int) ≤ (Int.gcd x0 x1 : Int) by omega) hA0
    rw [Int.one_mul, ← gA] at this; exact this
  have hB1 : mkB x0 x1 ≤ x1 := by
    have := Int.mul_le_mul_of_nonneg_right (show (1 : Int) ≤ (Int.gcd x0 x1 : Int) by omega) (Int.le_of_lt gP)
    rw [Int.one_mul, ← gB] at this; exact this
  have hok : mkOk x0 x1 = true := by
    unfold mkOk
    rw [decide_eq_true (by omega), decide_eq_true (by omega), decide_eq_true (by omega)]; rfl
  have hn : mkNum x0 x1 = mkA x0 x1 := by unfold mkNum; rw [hok]; rfl
  have hd : mkDen x0 x1 = mkB x0 x1 := by unfold mkDen; rw [hok]; rfl
  refine ⟨hok, g0, by rw [hn, Int.mul_comm]; exact gA, by rw [hd, Int.mul_comm]; exact gB, ?_⟩
  rw [hn, hd]
  unfold goodK goodR
  rw [inM_iff.2 ⟨hA0, by omega⟩, inM_iff.2 ⟨by omega, by omega⟩]
  have hg1 : Int.gcd (mkA x0 x1) (mkB x0 x1) = 1 := by
    have h := Int.gcd_mul_left (Int.gcd x0 x1 : Int) (mkA x0 x1) (mkB x0 x1)
    rw [← gA, ← gB, Int.natAbs_natCast] at h
    have hg : 0 < Int.gcd x0 x1 := by omega
    exact (Nat.eq_of_mul_eq_mul_left hg (by rw [Nat.mul_one]; exact h)).symm
  rw [hg1, decide_eq_true ⟨gP, rfl⟩]; rfl
end Go.Abs
namespace Go.Proofs.Ytllfcbacpoaphaa
open Go Go.Abs
theorem own_price {L : List (Int × Int)} {room : Int} (hok : ItOk L room) : goodK (prOf (relL L room).2).1 (prOf (relL L room).2).2 = true ∧ totP L room (prOf (relL L room).2).1 (prOf (relL L room).2).2 / (prOf (relL L room).2).2 = (relL L room).1 := by
  cases hx : (relL L room).2 with
  | none =>
    refine ⟨by decide, ?_⟩
    exact relax_own (g := 1) hok (fun x hh => by rw [hx] at hh; cases hh) fun _ => ⟨rfl, rfl⟩
  | some x =>
    obtain ⟨h1, h2, h3⟩ := relax_cut hok hx
    obtain ⟨m1, m2, m3, m4, m5⟩ := mkOk_small h1 ⟨h2, h3⟩
    have m6 := goodK_iff m5
    refine ⟨m5, ?_⟩
    exact relax_own (g := (Int.gcd x.1 x.2 : Int)) hok (fun y hh => by rw [hx] at hh; cases hh; exact ⟨m2, m6.2.1, m6.1.1, m3, m4⟩) fun hh => by rw [hx] at hh; cases hh
def BuI (H : AH) (v : Value) (L : List (Int × Int)) (mask : Nat) (k : Nat) (env : Env) (H' : AH) : Prop :=
  env 20 = some (.int .i64 mask) ∧ env 93 = some v ∧ env 94 = some (.int .i64 L.length) ∧ env 95 = some (.int .i64 k) ∧ env 21 = some (.int .i64 (selG (·.1) (L.take k) (msk mask))) ∧ env 22 = some (.int .i64 (selG (·.2) (L.take k) (msk mask))) ∧ WF H' ∧ Keep [] H H'
theorem bnd_l0 {H : AH} {v : Value} {L : List (Int × Int)} {room : Int} {mask : Nat} (hw : WF H) (hL : SlV (fun b => b < H.next) H v L) (hok : ItOk L room) (hl : L.length ≤ 40) (hm : mask < 4611686018427387904) {env : Env} (h : BuI H v L mask 0 env H) :
    wpC Try.prog 123 (.loop ir_law16_KnapBounds_l0) (fun e env' H' => e = .exit 2 ∧ BuI H v L mask L.length env' H') env H := by
  refine loop_upto L.length (BuI H v L mask) (Q := fun e env' H' => e = .exit 2 ∧ BuI H v L mask L.length env' H') h ?_
  rintro k env H' hk ⟨e20, e93, e94, e95, e21, e22, w', k'⟩
  by_cases hkn : k < L.length
  · have hL' := hL.kept hw k'
    obtain ⟨b0, off, sp, cap, cs, hcv, q1, q2⟩ := pairs_rd hL' (by omega)
    obtain ⟨g1, g2, g3, g4, g5⟩ := q2 k hkn
    have hval := hok.val L[k] (List.getElem_mem hkn)
    have s1 := selG_take (·.1) L (msk mask) k hkn
    have s2 := selG_take (·.2) L (msk mask) k hkn
    have htl : (L.take k).length ≤ 40 := by rw [List.length_take]; omega
    have b1 := selG_bound (f := (·.1)) (msk mask) (L.take k) fun x hx => (hok.val x (List.mem_of_mem_take hx)).1
    have b2 := selG_bound (f := (·.2)) (msk mask) (L.take k) fun x hx => (hok.val x (List.mem_of_mem_take hx)).2
    have hsh := msk_shr (mask := mask) (k := k) (by omega)
    have hlt : mask / 2 ^ k < 4611686018427387904 := Nat.lt_of_le_of_lt (Nat.div_le_self _ _) hm
    have han := i64_and1 hlt
    have hmb : msk mask k = decide (mask / 2 ^ k % 2 = 1) := rfl
    rw [hmb] at s1 s2
    generalize mask / 2 ^ k = mq at *
    have hmq : mq % 2 = 0 ∨ mq % 2 = 1 := by omega
    generalize mq % 2 = r at *
    have hx1 := hval.1
    have hx2 := hval.2
    generalize selG (fun x => x.1) (L.take k) (msk mask) = v0 at *
    generalize selG (fun x => x.2) (L.take k) (msk mask) = w0 at *
    generalize L[k] = x at *
    obtain ⟨x0, x1⟩ := x
    simp only at g1 hx1 hx2 s1 s2
    have w1 : IntKind.i64.wrap (v0 + x0) = v0 + x0 := IntWalk.i64_in _ (by omega)
    have w2 : IntKind.i64.wrap (w0 + x1) = w0 + x1 := IntWalk.i64_in _ (by omega)
    subst hcv
    rcases hmq with rfl | rfl
    · have s1' : selG (fun x => x.1) (L.take (k + 1)) (msk mask) = v0 := by simpa using s1
      have s2' : selG (fun x => x.2) (L.take (k + 1)) (msk mask) = w0 := by simpa using s2
      simp (disch := omega) [-getElem?_pos, if_pos, if_neg, decide_eq_true, decide_eq_false, ir_law16_KnapBounds_l0, e20, e21, e22, e93, e94, e95, hkn, q1, g1, ↓hsh, ↓han, writeA, over, cut2i, IntWalk.i64_in]
      exact ⟨by simp [e20], by simp [e93], by simp [e94], by simp, by rw [s1']; simp [e21], by rw [s2']; simp [e22], w'.alloc, k'.trans' .alloc⟩
    · have s1' : selG (fun x => x.1) (L.take (k + 1)) (msk mask) = v0 + x0 := by simpa using s1
      have s2' : selG (fun x => x.2) (L.take (k + 1)) (msk mask) = w0 + x1 := by simpa using s2
      simp (disch := omega) [-getElem?_pos, if_pos, if_neg, decide_eq_true, decide_eq_false, ir_law16_KnapBounds_l0, e20, e21, e22, e93, e94, e95, hkn, q1, g1, ↓hsh, ↓han, writeA, over, cut2i, w1, w2, IntWalk.i64_in]
      exact ⟨by simp [e20], by simp [e93], by simp [e94], by simp, by rw [s1']; simp, by rw [s2']; simp, w'.alloc, k'.trans' .alloc⟩
  · obtain rfl : k = L.length := by omega
    simp (disch := omega) [-getElem?_pos, if_pos, if_neg, decide_eq_true, decide_eq_false, ir_law16_KnapBounds_l0, e94, e95]
    exact ⟨e20, e93, e94, e95, e21, e22, w', k'⟩
def BmI (H : AH) (v : Value) (n : Nat) (room top : Int) (k : Nat) (env : Env) (H' : AH) : Prop :=
  env 9 = some v ∧ env 8 = some (.int .i64 room) ∧ env 11 = some (.int .i64 top) ∧ env 89 = some (.int .i64 ((2 ^ n : Nat) : Int)) ∧ env 90 = some (.int .i64 k) ∧ WF H' ∧ Keep [] H H'
theorem bnd_l1 {H : AH} {va : Option Addr} {vc : Nat} {L : List (Int × Int)} {room : Int} (hw : WF H) (hL : SlV (fun b => b < H.next) H (.slice va L.length vc) L) (hok : ItOk L room) (hl : L.length ≤ 9) {env : Env} (h : BmI H (.slice va L.length vc) L.length room (relL L room).1 0 env H) :
    wpC Try.prog 123 (.loop ir_law16_KnapBounds_l1) (fun e env' H' => e = .exit 0 ∧ Keep [] H H') env H := by
  have hp9 : 2 ^ L.length ≤ 512 := Nat.le_trans (Nat.pow_le_pow_right (by omega) hl) (by decide)
  refine loop_upto (2 ^ L.length) (BmI H (.slice va L.length vc) L.length room (relL L room).1) (Q := fun e env' H' => e = .exit 0 ∧ Keep [] H H') h ?_
  rintro k env H' hk ⟨e9, e8, e11, e89, e90, w', k'⟩
  have hn' := k'.next
  generalize hN : 2 ^ L.length = N at *
  by_cases hkn : k < N
  · have hL' := (hL.kept hw k').mono (q := fun b => b < H'.next) fun b hb => by omega
    simp (disch := omega) [-getElem?_pos, if_pos, if_neg, decide_eq_true, decide_eq_false, ir_law16_KnapBounds_l1, e9, e89, e90, hkn]
    refine wpC_use (bnd_l0 (H := H') (v := .slice va L.length vc) (mask := k) w' hL' hok (by omega) (by omega) ⟨by simp, by simp, by simp, by simp, by simp [selG], by simp [selG], w', .refl⟩) ?_
    rintro e env2 H2 ⟨rfl, f20, f93, f94, f95, f21, f22, w2, k2⟩ hu
    rw [List.take_length] at f21 f22
    have u8 := hu 8 (by decide)
    have u9 := hu 9 (by decide)
    have u11 := hu 11 (by decide)
    have u89 := hu 89 (by decide)
    have u90 := hu 90 (by decide)
    have k02 := k'.trans' k2
    have hle := sel_relax (b := msk k) hok
    generalize selG (·.2) L (msk k) = sw at *
    generalize selG (·.1) L (msk k) = sv at *
    generalize (relL L room).1 = top at *
    by_cases hc1 : sw ≤ room
    · have hc2 : ¬ top < sv := by have := hle hc1; omega
      simp (disch := omega) [-getElem?_pos, if_pos, if_neg, decide_eq_true, decide_eq_false, u8, u9, u11, u89, u90, e8, e9, e11, e89, e90, f21, f22, hc1, hc2, IntWalk.i64_in]
      exact ⟨hkn, by simp [u9, e9], by simp [u8, e8], by simp [u11, e11], by simp [u89, e89, hN], by simp, w2, k02⟩
    · simp (disch := omega) [-getElem?_pos, if_pos, if_neg, decide_eq_true, decide_eq_false, u8, u9, u11, u89, u90, e8, e9, e11, e89, e90, f21, f22, hc1, IntWalk.i64_in]
      exact ⟨hkn, by simp [u9, e9], by simp [u8, e8], by simp [u11, e11], by simp [u89, e89, hN], by simp, w2, k02⟩
  · obtain rfl : k = N := by omega
    simp (disch := omega) [-getElem?_pos, if_pos, if_neg, decide_eq_true, decide_eq_false, ir_law16_KnapBounds_l1, e89, e90]
    exact k'
theorem KnapBounds_abs {H : AH} {v : Value} {L : List (Int × Int)} {room p0 p1 : Int} (hL : SlV (fun b => b < H.next) H v L) (hl : L.length * 16 ≤ 140737488351232) (hp0 : I64 p0) (hp1 : I64 p1) : AFn Try.prog F_law16_KnapBounds [v, .int .i64 room, .agg #[.int .i64 p0, .int .i64 p1]] H fun u H' => u = .bool true ∧ H' = H := by
  refine AFn.calm (fun H0 hs => ?_) rfl
  have hn0 : H0.next = H.next := hs.1
  have hL0 := (hL.same hs).mono (q := fun b => b < H0.next) fun b hb => by omega
  clear hL
  refine AFn.enter mixed ir_law16_KnapBounds_eq (by simp [ir_law16_KnapBounds]) fun hw => ?_
  obtain ⟨Hz, hHz⟩ : ∃ Hz, Hz = H0.alloc (.row [.int .i64 p0, .int .i64 p1] T_2_int64 true) := ⟨_, rfl⟩
  have kz : Keep [] H0 Hz := by rw [hHz]; exact .alloc
  have wz : WF Hz := by rw [hHz]; exact hw.alloc
  have nz : Hz.next = H0.next + 1 := by rw [hHz]; rfl
  have c5 : Hz.cells H0.next = some [.int .i64 p0, .int .i64 p1] := by rw [hHz]; exact AH.cells_alloc_new
  have hLz := (hL0.kept hw kz).mono (q := fun b => b < Hz.next) fun b hb => by omega
  simp (disch := omega) [-getElem?_pos, if_pos, if_neg, decide_eq_true, decide_eq_false, ir_law16_KnapBounds]
  rw [← hHz]
  refine (tame_spec hLz hl).mono' fun u H1 w1 ⟨w, hu, hT, k1⟩ => ?_
  subst hu
  have hcT := hT.cell
  have n1 := k1.next
  simp (disch := omega) [-getElem?_pos, if_pos, if_neg, decide_eq_true, decide_eq_false, hcT]
  refine (show AFn _ _ [_, .int .i64 ((9 : Nat) : Int)] _ _ from items_spec (m := 9) (hT.mono fun b hb => by omega) (by omega)).mono' fun u H2 w2 ⟨a, b, hu, hA, hB, k2⟩ => ?_
  subst hu
  have hcA := hA.cell
  have hcB := hB.cell
  have n2 := k2.next
  have hok : ItOk ((tameI L).take 9) (magI room) := tame_ok (by omega)
  have hm := mayB_iff.2 hok
  have hl9 : ((tameI L).take 9).length ≤ 9 := by rw [List.length_take]; omega
  generalize (tameI L).take 9 = M at *
  generalize magI room = r at *
  obtain ⟨aa, ac, rfl⟩ := hA.slice
  have hA2 : SlV (fun b => b < H2.next) H2 (.slice aa M.length ac) M := hA.mono fun b hb => hb.2
  have hrl := Relax_spec (room := r) hA2 (by omega)
  unfold rlV at hrl
  have hn : rlN M r = (relL M r).1 := by unfold rlN; rw [hm]; rfl
  have hpp : rlP M r = prOf (relL M r).2 := by unfold rlP; rw [hm]; rfl
  have hbd := rl_bound hok (by omega)
  obtain ⟨o1, o2⟩ := own_price hok
  have hmin := fun (p d : Int) (h1 : 0 ≤ p) (h2 : 0 < d) => relax_le (p := p) (d := d) hok h1 h2
  have hbl := fun (Hx : AH) (env : Env) (hw : WF Hx) (hLx : SlV (fun b => b < Hx.next) Hx (.slice aa M.length ac) M) h => bnd_l1 (H := Hx) (va := aa) (vc := ac) hw hLx hok hl9 (env := env) h
  rw [hm, hn, hpp] at hrl
  generalize (prOf (relL M r).2).1 = q1 at *
  generalize (prOf (relL M r).2).2 = q2 at *
  generalize (relL M r).1 = n at *
  have og := goodK_iff o1
  simp (disch := omega) [-getElem?_pos, if_pos, if_neg, decide_eq_true, decide_eq_false, hcA, hcB]
  refine hrl.mono' fun u H3 w3 ⟨hu, k3⟩ => ?_
  subst hu
  have n3 := k3.next
  obtain ⟨H4, hH4⟩ : ∃ H4, H4 = H3.alloc (.row [.int .i64 q1, .int .i64 q2] T_ratio_Ratio true) := ⟨_, rfl⟩
  have k34 : Keep [] H3 H4 := by rw [hH4]; exact .alloc
  have w4 : WF H4 := by rw [hH4]; exact w3.alloc
  have n4 : H4.next = H3.next + 1 := by rw [hH4]; rfl
  have k24 := k3.trans' k34
  have c12 : H4.cells H3.next = some [.int .i64 q1, .int .i64 q2] := by rw [hH4]; exact AH.cells_alloc_new
  have hA4 : SlV (fun b => b < H4.next) H4 (.slice aa M.length ac) M := (hA2.kept w2 k24).mono fun b hb => by omega
  have hpr := Priced_spec (room := r) (n := q1) (d := q2) hA4 (by omega) (by unfold I64; omega) (by unfold I64; omega)
  have hprN : prN M r q1 q2 = n := by
    unfold prN
    rw [hm, o1, o2]
    have : fitsI n = true := decide_eq_true (by omega)
    unfold shortI; rw [this]; rfl
  have hprF : prF M r q1 q2 = true := by
    unfold prF
    rw [hm, o1, o2]
    have : fitsI n = true := decide_eq_true (by omega)
    rw [this]; rfl
  rw [hprN, hprF] at hpr
  simp (disch := omega) [-getElem?_pos, if_pos, if_neg, decide_eq_true, decide_eq_false, writeA, over, cut2i]
  rw [← hH4]
  refine AFn.pure hpr ?_
  simp (disch := omega) [-getElem?_pos, if_pos, if_neg, decide_eq_true, decide_eq_false, ]
  refine AFn.pure wakes16_spec ?_
  have c54 := cells_kept wz (k1.trans' (k2.trans' k24)) c5
  simp (disch := omega) [-getElem?_pos, if_pos, if_neg, decide_eq_true, decide_eq_false, c54]
  refine (Make_spec (H := H4) hp0 hp1).mono' fun u H5 w5 ⟨hu, k5⟩ => ?_
  subst hu
  have n5 := k5.next
  have hsl := i64_shl1 (k := M.length) (by omega)
  have hgood : mkOk p0 p1 = true → I64 (mkNum p0 p1) ∧ I64 (mkDen p0 p1) := fun h => by
    unfold mkNum mkDen
    rw [h]
    unfold mkOk at h
    rw [Bool.and_eq_true, Bool.and_eq_true, decide_eq_true_iff, decide_eq_true_iff, decide_eq_true_iff] at h
    have hb := (mk_exact (n := p0) h.1.1).2.2.2
    unfold I64
    exact ⟨h.1.2, by simp only [if_true]; omega, h.2⟩
  generalize mkNum p0 p1 = r1 at *
  generalize mkDen p0 p1 = r2 at *
  obtain ⟨H6, hH6⟩ : ∃ H6, H6 = H5.alloc (.row [.int .i64 r1, .int .i64 r2] T_ratio_Ratio true) := ⟨_, rfl⟩
  have k46 : Keep [] H4 H6 := by rw [hH6]; exact .trans' k5 .alloc
  have w6 : WF H6 := by rw [hH6]; exact w5.alloc
  have n6 : H6.next = H5.next + 1 := by rw [hH6]; rfl
  have c18 : H6.cells H5.next = some [.int .i64 r1, .int .i64 r2] := by rw [hH6]; exact AH.cells_alloc_new
  have hA6 : SlV (fun b => b < H6.next) H6 (.slice aa M.length ac) M := (hA4.kept w4 k46).mono fun b hb => by omega
  cases hmo : mkOk p0 p1 with
  | false =>
    simp (disch := omega) [-getElem?_pos, if_pos, if_neg, decide_eq_true, decide_eq_false, writeA, over, cut2i, ↓hsl]
    rw [← hH6]
    refine wpC_use (hbl H6 _ w6 hA6 ⟨by simp, by simp, by simp, by simp, by simp, w6, .refl⟩) ?_
    rintro e env2 H7 ⟨rfl, k7⟩ _
    simp (disch := omega) [-getElem?_pos, if_pos, if_neg, decide_eq_true, decide_eq_false, ]
  | true =>
    obtain ⟨i1, i2⟩ := hgood hmo
    have hpr2 := Priced_spec (room := r) (n := r1) (d := r2) hA6 (by omega) i1 i2
    have hge : prF M r r1 r2 = true → ¬ prN M r r1 r2 < n := fun h => by
      unfold prF at h
      unfold prN
      rw [hm] at h ⊢
      rw [Bool.true_and, Bool.and_eq_true] at h
      rw [h.1]
      have gk := goodK_iff h.1
      have hq := (Int.le_ediv_iff_mul_le gk.2.1).2 (hmin r1 r2 gk.1.1 gk.2.1)
      unfold shortI
      rw [h.2]
      simp only [Bool.and_self, if_true]
      omega
    generalize prF M r r1 r2 = pf at *
    generalize prN M r r1 r2 = pn at *
    simp (disch := omega) [-getElem?_pos, if_pos, if_neg, decide_eq_true, decide_eq_false, writeA, over, cut2i]
    rw [← hH6]
    refine AFn.pure hpr2 ?_
    cases pf with
    | false =>
      simp (disch := omega) [-getElem?_pos, if_pos, if_neg, decide_eq_true, decide_eq_false, ↓hsl]
      refine wpC_use (hbl H6 _ w6 hA6 ⟨by simp, by simp, by simp, by simp, by simp, w6, .refl⟩) ?_
      rintro e env2 H7 ⟨rfl, k7⟩ _
      simp (disch := omega) [-getElem?_pos, if_pos, if_neg, decide_eq_true, decide_eq_false, ]
    | true =>
      have hno := hge rfl
      simp (disch := omega) [-getElem?_pos, if_pos, if_neg, decide_eq_true, decide_eq_false, hno, ↓hsl]
      refine wpC_use (hbl H6 _ w6 hA6 ⟨by simp, by simp, by simp, by simp, by simp, w6, .refl⟩) ?_
      rintro e env2 H7 ⟨rfl, k7⟩ _
      simp (disch := omega) [-getElem?_pos, if_pos, if_neg, decide_eq_true, decide_eq_false, ]
end Go.Proofs.Ytllfcbacpoaphaa
