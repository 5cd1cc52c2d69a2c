/-
  num.FloorSum, of numbers that are together no less than nought; package knap: Priced.
-/
import Derived.Test.YtllfcbacpoaphaaKd65
import Derived.Test.YtllfcbacpoaphaaKn11
set_option maxRecDepth 100000
set_option linter.unusedSimpArgs false
set_option linter.unusedVariables false
namespace Go.Abs
def goodR (n d : Int) : Bool := decide (0 < d ∧ (Int.gcd n d : Int) = 1)
def goodK (n d : Int) : Bool := goodR n d && inM n && inM d
def partK (room p d : Int) (L : List (Int × Int)) : List Int := (p * room) :: (L.map (exc p d)).filter (fun z => decide (0 < z))
theorem partK_sum (room p d : Int) (L : List (Int × Int)) : (partK room p d L).sum = totP L room p d := by
  unfold partK totP
  rw [List.sum_cons]
  congr 1
  induction L with
  | nil => rfl
  | cons x l ih =>
    have := exc_ge p d x
    rw [List.map_cons, List.filter_cons]
    split
    · rw [List.sum_cons, List.sum_cons, ih]
    · rename_i h
      simp at h
      rw [List.sum_cons, ih]; omega
theorem partK_snoc (room p d : Int) (L : List (Int × Int)) (x : Int × Int) : partK room p d (L ++ [x]) = if 0 < x.1 * d - x.2 * p then partK room p d L ++ [x.1 * d - x.2 * p] else partK room p d L := by
  unfold partK
  rw [List.map_append, List.filter_append]
  by_cases h : 0 < x.1 * d - x.2 * p
  · have e : exc p d x = x.1 * d - x.2 * p := if_pos h
    rw [if_pos h, List.map_cons, List.map_nil, e, List.filter_cons, if_pos (decide_eq_true h), List.filter_nil]
    rfl
  · have e : exc p d x = 0 := if_neg h
    rw [if_neg h, List.map_cons, List.map_nil, e, List.filter_cons, if_neg (by simp), List.filter_nil, List.append_nil]
theorem partK_len (room p d : Int) (L : List (Int × Int)) : (partK room p d L).length ≤ L.length + 1 := by
  unfold partK
  rw [List.length_cons]
  have := List.length_filter_le (fun z => decide ((0 : Int) < z)) (L.map (exc p d))
  rw [List.length_map] at this
  omega
end Go.Abs
namespace Go.Proofs.Ytllfcbacpoaphaa
open Go Go.Abs
theorem FloorSum_spec {p : Nat → Prop} {H : AH} {v : Value} {L : List Int} {d : Int} (hL : SlV p H v L) (hl : L.length ≤ 1000) (h0 : 0 ≤ L.sum) (hd : 0 < d ∧ d ≤ 9223372036854775807) : AFn Try.prog F_num_FloorSum [.int .i64 d, v] H fun u H' => u = .tuple #[.int .i64 (shortI (L.sum / d)), .bool (fitsI (L.sum / d))] ∧ H' = H := by
  refine AFn.calm (fun H0 hs => ?_) rfl
  refine AFn.enter mixed ir_num_FloorSum_eq (by simp [ir_num_FloorSum]) fun hw => ?_
  have hL0 := hL.same hs
  have hT := total_spec hL0 (by omega)
  have hbd := sum_bound L fun x hx => by
    obtain ⟨i, hi, rfl⟩ := List.getElem_of_mem hx
    obtain ⟨b, off, sp, cap, cs, _, _, hq⟩ := ints_rd hL (by omega)
    exact (hq i hi).2
  obtain ⟨S, hS⟩ : ∃ S : Nat, L.sum = (S : Int) := ⟨L.sum.toNat, by omega⟩
  obtain ⟨y, hy⟩ : ∃ y : Nat, d = (y : Int) := ⟨d.toNat, by omega⟩
  rw [hS] at hT hbd ⊢
  rw [hy] at hd ⊢
  clear hS hy h0
  rw [Int.natAbs_natCast] at hbd
  have hmul : L.length * 9223372036854775808 ≤ 1000 * 9223372036854775808 := Nat.mul_le_mul_right _ hl
  have hS1 : S ≤ 9223372036854775808000 := Nat.le_trans hbd hmul
  have hhi : S / W64 < 18446744073709551616 := by
    refine (Nat.div_lt_iff_lt_mul (by decide)).2 ?_
    show S < 18446744073709551616 * 18446744073709551616
    omega
  have hlo : S % W64 < W64 := Nat.mod_lt _ (by decide)
  have hwS : wV (S : Int) = .agg #[.bool false, uv (S / W64), uv (S % W64)] := by unfold wV wv; rw [decide_eq_false (by omega), Int.natAbs_natCast]
  rw [hwS] at hT
  have hye : S / W64 * W64 + S % W64 = S := Nat.div_add_mod' _ _
  have hq : (S : Int) / (y : Int) = ((S / y : Nat) : Int) := (Int.natCast_ediv S y).symm
  rw [hq]
  have hcv : Value.int .u64 (IntKind.u64.wrap (y : Int)) = uv y := by rw [wrap_u64 (by omega)]; rfl
  have hle0 : ¬ (y : Int) ≤ 0 := by omega
  obtain ⟨va, vc, rfl⟩ := hL.slice
  by_cases hbig : y ≤ S / W64
  · have hge : abin .geq (uv (S / W64)) (uv y) = some (.bool true) := by rw [uv_geq, decide_eq_true hbig]
    have hfar : 18446744073709551616 ≤ S / y := by
      rw [Nat.le_div_iff_mul_le (by omega)]
      have h1 : y * 18446744073709551616 ≤ S / W64 * 18446744073709551616 := Nat.mul_le_mul_right _ hbig
      have h2 : S / W64 * W64 ≤ S := Nat.div_mul_le_self _ _
      rw [Nat.mul_comm]
      exact Nat.le_trans h1 h2
    have f1 : fitsI ((S / y : Nat) : Int) = false := decide_eq_false (by omega)
    have f2 : shortI ((S / y : Nat) : Int) = 0 := by unfold shortI; rw [f1]; rfl
    rw [f1, f2]
    generalize S / y = q at *
    generalize S % W64 = lo at *
    generalize S / W64 = hi at *
    simp (disch := omega) [-getElem?_pos, if_pos, if_neg, decide_eq_true, decide_eq_false, ir_num_FloorSum]
    refine AFn.pure hT ?_
    simp (disch := omega) [-getElem?_pos, if_pos, if_neg, decide_eq_true, decide_eq_false, hle0, writeA, over, cut3, hcv, ↓hge]
  · have hge : abin .geq (uv (S / W64)) (uv y) = some (.bool false) := by rw [uv_geq, decide_eq_false hbig]
    have hdv := fun H => Div64_spec (H := H) (hi := S / W64) (lo := S % W64) (y := y) (by omega) (by omega) (by omega) hlo
    rw [hye] at hdv
    have hq64 : S / y < W64 := by
      rw [Nat.div_lt_iff_lt_mul (by omega)]
      have h1 : (S / W64 + 1) * W64 ≤ y * W64 := Nat.mul_le_mul_right _ (by omega)
      rw [Nat.add_mul] at h1
      rw [Nat.mul_comm]
      omega
    have hnm := fun H => normal_spec (H := H) (s := false) (m := S / y) (Nat.lt_of_lt_of_le hq64 (by decide))
    have hsh := fun H => short_spec (H := H) (n := ((S / y : Nat) : Int)) (by rw [Int.natAbs_natCast]; exact Nat.lt_of_lt_of_le hq64 (by decide))
    rw [Bool.false_and] at hnm
    have hwq : wv false (S / y) = .agg #[.bool false, uv 0, uv (S / y)] := by unfold wv; rw [Nat.div_eq_of_lt hq64, Nat.mod_eq_of_lt hq64]
    rw [hwq] at hnm
    rw [← wV_low _ hq64] at hsh
    generalize S % y = rm at *
    generalize S / y = q at *
    generalize S % W64 = lo at *
    generalize S / W64 = hi at *
    simp (disch := omega) [-getElem?_pos, if_pos, if_neg, decide_eq_true, decide_eq_false, ir_num_FloorSum]
    refine AFn.pure hT ?_
    simp (disch := omega) [-getElem?_pos, if_pos, if_neg, decide_eq_true, decide_eq_false, hle0, writeA, over, cut3, hcv, ↓hge]
    refine AFn.pure (hdv _) ?_
    simp (disch := omega) [-getElem?_pos, if_pos, if_neg, decide_eq_true, decide_eq_false, ]
    refine AFn.pure (hnm _) ?_
    simp (disch := omega) [-getElem?_pos, if_pos, if_neg, decide_eq_true, decide_eq_false, writeA, over, cut3]
    refine AFn.pure (hsh _) ?_
    simp (disch := omega) [-getElem?_pos, if_pos, if_neg, decide_eq_true, decide_eq_false, ]
theorem Good_spec {H : AH} {n d : Int} (hn : I64 n) (hd : I64 d) : AFn Try.prog F_ratio_Ratio_Good [.agg #[.int .i64 n, .int .i64 d]] H fun u H' => u = .bool (goodR n d) ∧ H' = H := by
  refine AFn.calm (fun H0 hs => ?_) rfl
  refine AFn.enter mixed ir_ratio_Ratio_Good_eq (by simp [ir_ratio_Ratio_Good]) fun hw => ?_
  have hg := fun H => Gcd_spec (H := H) hn hd
  have hgr : goodR n d = decide (0 < d ∧ (Int.gcd n d : Int) = 1) := rfl
  rw [hgr]
  generalize (Int.gcd n d : Int) = g at *
  simp (disch := omega) [-getElem?_pos, if_pos, if_neg, decide_eq_true, decide_eq_false, ir_ratio_Ratio_Good]
  refine AFn.pure (hg _) ?_
  by_cases h1 : 0 < d
  · by_cases h2 : g = 1
    · subst h2
      have f1 : fitsI 1 = true := by decide
      have f2 : shortI 1 = 1 := by decide
      simp (disch := omega) [-getElem?_pos, if_pos, if_neg, decide_eq_true, decide_eq_false, f1, f2, h1]
    · cases hf : fitsI g with
      | true =>
        have f2 : shortI g = g := by unfold shortI; rw [hf]; rfl
        have h2' := eq_false h2
        rw [f2]
        simp (disch := omega) [-getElem?_pos, if_pos, if_neg, decide_eq_true, decide_eq_false, h1, h2']
      | false =>
        have h2' := eq_false h2
        simp (disch := omega) [-getElem?_pos, if_pos, if_neg, decide_eq_true, decide_eq_false, h1, h2']
  · simp (disch := omega) [-getElem?_pos, if_pos, if_neg, decide_eq_true, decide_eq_false, h1]
theorem good_spec {H : AH} {n d : Int} (hn : I64 n) (hd : I64 d) : AFn Try.prog F_knap_good [.agg #[.int .i64 n, .int .i64 d]] H fun u H' => u = .bool (goodK n d) ∧ H' = H := by
  refine AFn.calm (fun H0 hs => ?_) rfl
  refine AFn.enter mixed ir_knap_good_eq (by simp [ir_knap_good]) fun hw => ?_
  have hg := fun H => Good_spec (H := H) hn hd
  have w1 := fun H => @within_spec H n
  have w2 := fun H => @within_spec H d
  have hgr : goodK n d = (goodR n d && inM n && inM d) := rfl
  rw [hgr]
  generalize goodR n d = g at *
  generalize inM n = i1 at *
  generalize inM d = i2 at *
  simp (disch := omega) [-getElem?_pos, if_pos, if_neg, decide_eq_true, decide_eq_false, ir_knap_good, cut2i]
  refine AFn.pure (hg _) ?_
  cases g with
  | false => simp (disch := omega) [-getElem?_pos, if_pos, if_neg, decide_eq_true, decide_eq_false, ]
  | true =>
    simp (disch := omega) [-getElem?_pos, if_pos, if_neg, decide_eq_true, decide_eq_false, ]
    refine AFn.pure (w1 _) ?_
    cases i1 with
    | false => simp (disch := omega) [-getElem?_pos, if_pos, if_neg, decide_eq_true, decide_eq_false, ]
    | true =>
      simp (disch := omega) [-getElem?_pos, if_pos, if_neg, decide_eq_true, decide_eq_false, ]
      refine AFn.pure (w2 _) ?_
      simp (disch := omega) [-getElem?_pos, if_pos, if_neg, decide_eq_true, decide_eq_false, ]
theorem push_i64 {ty : Nat} {H H1 : AH} {v : Value} {L : List Int} {S : List Nat} (hw : WF H1) (hA : OwnL (fun _ => False) H1 ty v L S) (hk : Keep [] H H1) (hS : ∀ b ∈ S, H.next ≤ b) {a : Int} (ha : I64 a) (hl : L.length ≤ 1000) :
    ∃ va vc H2 S', appendA (H1.alloc (.row [.int .i64 a] ty true)) ty 1 8 v 1 [.int .i64 a] = some (.slice va (L.length + 1) vc, H2) ∧ WF H2 ∧ OwnL (fun _ => False) H2 ty (.slice va (L.length + 1) vc) (L ++ [a]) S' ∧ Keep [] H H2 ∧ (∀ b ∈ S', H.next ≤ b) ∧ Keep S H1 H2 ∧ ∀ b ∈ S', b ∈ S ∨ H1.next ≤ b := by
  obtain ⟨va, vc, Hd, S', p1, hA', kd, wd, i1⟩ := hA.push (q := fun _ => False) hw (cs := [.int .i64 a]) (a := a) ⟨rfl, ha⟩ ty 8 (fun _ h => h) (fun b hb => hb.elim) (by simp) (by omega) (by omega)
  have hn := hk.next
  refine ⟨va, vc, Hd, S', p1, wd, hA', hk.trans kd (fun b hb hlt => by have := hS b hb; omega), fun b hb => ?_, kd, i1⟩
  rcases i1 b hb with h | h
  · exact hS b h
  · omega
def PrI (H : AH) (v : Value) (L : List (Int × Int)) (q : Nat) (room p d : Int) (k : Nat) (env : Env) (H' : AH) : Prop :=
  env 5 = some (.pointer (some ⟨q, 0, none⟩)) ∧ env 26 = some v ∧ env 27 = some (.int .i64 L.length) ∧ env 28 = some (.int .i64 k) ∧ WF H' ∧ Keep [] H H' ∧
    ∃ w S, env 8 = some w ∧ OwnL (fun _ => False) H' T_int64 w (partK room p d (L.take k)) S ∧ ∀ b ∈ S, H.next ≤ b
theorem priced_l0 {H Hs : AH} {v : Value} {L : List (Int × Int)} {q : Nat} {room p d : Int} (hw : WF H) (hL : SlV (fun b => b < H.next) H v L) (hq : H.cells q = some [.int .i64 p, .int .i64 d]) (hok : ItOk L room) (hl : L.length ≤ 40) (hp : 0 ≤ p ∧ p ≤ 2147483648) (hd : 0 ≤ d ∧ d ≤ 2147483648) {env : Env} (h : PrI H v L q room p d 0 env Hs) :
    wpC Try.prog 56 (.loop ir_knap_Priced_l0) (fun e env' H' => e = .exit 0 ∧ PrI H v L q room p d L.length env' H') env Hs := by
  refine loop_upto L.length (PrI H v L q room p d) (Q := fun e env' H' => e = .exit 0 ∧ PrI H v L q room p d L.length env' H') h ?_
  rintro k env H' hk ⟨e5, e26, e27, e28, w', k', w, S, e8, hA, hS⟩
  by_cases hkn : k < L.length
  · have hL' := hL.kept hw k'
    obtain ⟨b0, off, sp, cap, cs, hcv, q1, q2⟩ := pairs_rd hL' (by omega)
    obtain ⟨g1, g2, g3, g4, g5⟩ := q2 k hkn
    have hval := hok.val L[k] (List.getElem_mem hkn)
    have hsn : L.take (k + 1) = L.take k ++ [L[k]] := List.take_succ_eq_append_getElem hkn
    have hpn := partK_snoc room p d (L.take k) L[k]
    rw [← hsn] at hpn
    have hpl := partK_len room p d (L.take k)
    have htl : (L.take k).length ≤ 40 := by rw [List.length_take]; omega
    have hcq := cells_kept hw k' hq
    have hx1 := hval.1
    have hx2 := hval.2
    have mb1 : 0 ≤ L[k].1 * d ∧ L[k].1 * d ≤ 2147483648 * 2147483648 := ⟨Int.mul_nonneg hx1.1 hd.1, Int.mul_le_mul hx1.2 hd.2 hd.1 (by omega)⟩
    have mb2 : 0 ≤ L[k].2 * p ∧ L[k].2 * p ≤ 2147483648 * 2147483648 := ⟨Int.mul_nonneg hx2.1 hp.1, Int.mul_le_mul hx2.2 hp.2 hp.1 (by omega)⟩
    have wr1 : IntKind.i64.wrap (L[k].1 * d) = L[k].1 * d := IntWalk.i64_in _ (by omega)
    have wr2 : IntKind.i64.wrap (L[k].2 * p) = L[k].2 * p := IntWalk.i64_in _ (by omega)
    have wr3 : IntKind.i64.wrap (L[k].1 * d - L[k].2 * p) = L[k].1 * d - L[k].2 * p := IntWalk.i64_in _ (by omega)
    have hqb := cells_lt hw hq
    have hn' := k'.next
    obtain ⟨z, hz⟩ : ∃ z, z = L[k].1 * d - L[k].2 * p := ⟨_, rfl⟩
    rw [← hz] at hpn wr3
    have hzb : I64 z := by unfold I64; omega
    clear mb1 mb2
    generalize L[k] = x at *
    obtain ⟨x0, x1⟩ := x
    simp only at g1 wr1 wr2 wr3 hz
    subst hcv
    obtain ⟨HA, hHA⟩ : ∃ HA, HA = H'.alloc (.row [.int .i64 x0, .int .i64 x1] T_inst_Item true) := ⟨_, rfl⟩
    have ka : Keep [] H' HA := by rw [hHA]; exact .alloc
    have wA : WF HA := by rw [hHA]; exact w'.alloc
    have na : HA.next = H'.next + 1 := by rw [hHA]; rfl
    have hA2 := hA.kept w' ka
    have hcqa := cells_kept w' ka hcq
    rw [hHA] at hcqa
    obtain ⟨wa, wc, rfl⟩ := hA.slice
    by_cases hpos : 0 < z
    · rw [if_pos hpos] at hpn
      obtain ⟨va, vc, H2, S', p1, w2, hA', k2, hS', _⟩ := push_i64 (H := H) wA hA2 (k'.trans' ka) hS hzb (by omega)
      rw [← hpn] at hA'
      have hln : (partK room p d (L.take k)).length + 1 = (partK room p d (L.take (k + 1))).length := by rw [hpn]; simp
      rw [hln] at p1 hA'
      have he : elemsA (HA.alloc (.row [.int .i64 z] T_int64 true)) 1 (.slice (some ⟨HA.next, 0, none⟩) 1 1) = some [.int .i64 z] := elems_one rfl
      have he2 := he
      rw [na] at he2
      rw [hHA] at he he2 p1
      simp (disch := omega) [-getElem?_pos, if_pos, if_neg, decide_eq_true, decide_eq_false, ir_knap_Priced_l0, e5, e8, e26, e27, e28, hkn, q1, g1, writeA, over, cut2i, hcq, hcqa, wr1, wr2, ← hz, wr3, hpos, he, he2, p1, hln, IntWalk.i64_in]
      exact ⟨by simp [e5], by simp [e26], by simp [e27], by simp, w2, k2, _, S', by simp, hA', hS'⟩
    · rw [if_neg hpos] at hpn
      have hA2' : OwnL (fun _ => False) (H'.alloc (.row [.int .i64 x0, .int .i64 x1] T_inst_Item true)) T_int64 (.slice wa (partK room p d (L.take k)).length wc) (partK room p d (L.take (k + 1))) S := by rw [hpn, ← hHA]; exact hA2
      simp (disch := omega) [-getElem?_pos, if_pos, if_neg, decide_eq_true, decide_eq_false, ir_knap_Priced_l0, e5, e8, e26, e27, e28, hkn, q1, g1, writeA, over, cut2i, hcq, hcqa, wr1, wr2, ← hz, wr3, hpos, IntWalk.i64_in]
      exact ⟨by simp [e5], by simp [e26], by simp [e27], by simp, w'.alloc, k'.trans' .alloc, _, S, by simp [e8], hA2', hS⟩
  · obtain rfl : k = L.length := by omega
    simp (disch := omega) [-getElem?_pos, if_pos, if_neg, decide_eq_true, decide_eq_false, ir_knap_Priced_l0, e27, e28]
    exact ⟨e5, e26, e27, e28, w', k', w, S, e8, hA, hS⟩
def prN (L : List (Int × Int)) (room n d : Int) : Int := if mayB L room && goodK n d then shortI (totP L room n d / d) else 0
def prF (L : List (Int × Int)) (room n d : Int) : Bool := mayB L room && goodK n d && fitsI (totP L room n d / d)
theorem goodK_iff {n d : Int} (h : goodK n d = true) : (0 ≤ n ∧ n ≤ 2147483648) ∧ 0 < d ∧ d ≤ 2147483648 := by
  unfold goodK goodR at h
  rw [Bool.and_eq_true, Bool.and_eq_true, decide_eq_true_iff, inM_iff, inM_iff] at h
  omega
theorem totP_pos {L : List (Int × Int)} {room n d : Int} (hok : ItOk L room) (hn : 0 ≤ n) : 0 ≤ totP L room n d := by
  unfold totP
  have h1 := Int.mul_nonneg hn hok.room.1
  have h2 : ∀ l : List (Int × Int), 0 ≤ (l.map (exc n d)).sum := fun l => by
    induction l with
    | nil => exact Int.le_refl _
    | cons x l ih =>
      have := (exc_ge n d x).1
      rw [List.map_cons, List.sum_cons]; omega
  have := h2 L
  omega
theorem Priced_spec {H : AH} {v : Value} {L : List (Int × Int)} {room n d : Int} (hL : SlV (fun b => b < H.next) H v L) (hl : L.length ≤ 40) (hn : I64 n) (hd : I64 d) : AFn Try.prog F_knap_Priced [v, .int .i64 room, .agg #[.int .i64 n, .int .i64 d]] H fun u H' => u = .tuple #[.int .i64 (prN L room n d), .bool (prF L room n d)] ∧ H' = H := by
  refine AFn.calm (fun H0 hs => ?_) rfl
  have hn0 : H0.next = H.next := hs.1
  have hL0 := (hL.same hs).mono (q := fun b => b < H0.next) fun b hb => by omega
  refine AFn.enter mixed ir_knap_Priced_eq (by simp [ir_knap_Priced]) fun hw => ?_
  obtain ⟨H1, hH1⟩ : ∃ H1, H1 = H0.alloc (.row [.int .i64 n, .int .i64 d] T_ratio_Ratio true) := ⟨_, rfl⟩
  have k1 : Keep [] H0 H1 := by rw [hH1]; exact .alloc
  have w1 : WF H1 := by rw [hH1]; exact hw.alloc
  have n1 : H1.next = H0.next + 1 := by rw [hH1]; rfl
  have c5 : H1.cells H0.next = some [.int .i64 n, .int .i64 d] := by rw [hH1]; exact AH.cells_alloc_new
  have hL1 := (hL0.kept hw k1).mono (q := fun b => b < H1.next) fun b hb => by omega
  have hmy := may_spec hL1 room
  have hgd := good_spec (H := H1) hn hd
  have e1 : prN L room n d = if mayB L room && goodK n d then shortI (totP L room n d / d) else 0 := rfl
  have e2 : prF L room n d = (mayB L room && goodK n d && fitsI (totP L room n d / d)) := rfl
  rw [e1, e2]
  have hmok : mayB L room = true → ItOk L room := mayB_iff.1
  have hgk : goodK n d = true → (0 ≤ n ∧ n ≤ 2147483648) ∧ 0 < d ∧ d ≤ 2147483648 := goodK_iff
  generalize mayB L room = m at *
  generalize goodK n d = g at *
  obtain ⟨va, vc, hve⟩ := hL1.slice
  rw [hve] at hmy
  rw [hve]
  cases m with
  | false =>
    simp (disch := omega) [-getElem?_pos, if_pos, if_neg, decide_eq_true, decide_eq_false, ir_knap_Priced]
    rw [← hH1]
    refine AFn.pure hmy ?_
    simp (disch := omega) [-getElem?_pos, if_pos, if_neg, decide_eq_true, decide_eq_false, ]
  | true =>
    have hok := hmok rfl
    simp (disch := omega) [-getElem?_pos, if_pos, if_neg, decide_eq_true, decide_eq_false, ir_knap_Priced]
    rw [← hH1]
    refine AFn.pure hmy ?_
    simp (disch := omega) [-getElem?_pos, if_pos, if_neg, decide_eq_true, decide_eq_false, c5, cut2i]
    refine AFn.pure hgd ?_
    cases g with
    | false => simp (disch := omega) [-getElem?_pos, if_pos, if_neg, decide_eq_true, decide_eq_false, ]
    | true =>
      obtain ⟨gn, gd⟩ := hgk rfl
      have hm0 := Int.mul_nonneg gn.1 hok.room.1
      have hm1 : n * room ≤ 2147483648 * 2147483648 := Int.mul_le_mul gn.2 hok.room.2 hok.room.1 (by omega)
      have hwr : IntKind.i64.wrap (n * room) = n * room := IntWalk.i64_in _ (by omega)
      obtain ⟨z, hz⟩ : ∃ z, z = n * room := ⟨_, rfl⟩
      rw [← hz] at hwr
      have hzb : I64 z := by unfold I64; omega
      obtain ⟨H2, hH2⟩ : ∃ H2, H2 = H1.alloc (.row [.int .i64 z] T_int64 true) := ⟨_, rfl⟩
      have k2 : Keep [] H1 H2 := by rw [hH2]; exact .alloc
      have w2 : WF H2 := by rw [hH2]; exact w1.alloc
      have n2 : H2.next = H1.next + 1 := by rw [hH2]; rfl
      have hp0 : partK room n d (L.take 0) = [z] := by rw [List.take_zero, hz]; rfl
      have hO : OwnL (fun _ => False) H2 T_int64 (.slice (some ⟨H1.next, 0, none⟩) 1 1) (partK room n d (L.take 0)) [H1.next] := by
        rw [hp0, hH2]
        exact ⟨[.int .i64 z], .inr ⟨H1.next, 0, none, 1, [.int .i64 z], rfl, rfl, AH.alloc_blk_new, by simp, by simp, by simp, .inl rfl⟩, fun i hi => ⟨by
          have : i = 0 := by simpa using hi
          subst this; rfl, by simpa using hzb⟩, by simp⟩
      simp (disch := omega) [-getElem?_pos, if_pos, if_neg, decide_eq_true, decide_eq_false, c5, ← hz, hwr]
      rw [← hH2]
      refine wpC_use (priced_l0 (H := H1) (v := v) (L := L) (q := H0.next) (room := room) (p := n) (d := d) w1 hL1 c5 hok hl gn ⟨by omega, gd.2⟩ ⟨by simp, by simp [hve], by simp, by simp, w2, k2, _, [H1.next], by simp, hO, by simp⟩) ?_
      rintro e env2 H3 ⟨rfl, f5, f26, f27, f28, w3, k3, w, S, f8, hA, hS⟩ _
      rw [List.take_length] at hA
      have hpl := partK_len room n d L
      have hsl : SlV (fun b => b < H3.next) H3 w (partK room n d L) := hA.slv (fun _ h => h.elim) (fun b hb => hA.lt w3 b hb) (by omega)
      have hfs := FloorSum_spec (d := d) hsl (by omega) (by rw [partK_sum]; exact totP_pos hok gn.1) ⟨gd.1, by omega⟩
      rw [partK_sum] at hfs
      have c53 := cells_kept w1 k3 c5
      generalize totP L room n d / d = qq at *
      simp (disch := omega) [-getElem?_pos, if_pos, if_neg, decide_eq_true, decide_eq_false, f5, f8, c53]
      refine AFn.pure hfs ?_
      simp (disch := omega) [-getElem?_pos, if_pos, if_neg, decide_eq_true, decide_eq_false, ]
end Go.Proofs.Ytllfcbacpoaphaa
