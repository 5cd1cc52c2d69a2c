/-
  The document's Priced.
-/
import Derived.Test.YtllfcbacpoaphaaKr10
set_option maxRecDepth 100000
set_option linter.unusedSimpArgs false
set_option linter.unusedVariables false
namespace Go.Proofs.Ytllfcbacpoaphaa
open Go Go.Abs
def PkI (H : AH) (v : Value) (L : List (Int × Int)) (room p d : Int) (k : Nat) (env : Env) (H' : AH) : Prop :=
  env 0 = some v ∧ env 2 = some (.int .i64 p) ∧ env 3 = some (.int .i64 d) ∧ env 13 = some (.int .i64 k) ∧ WF H' ∧ Keep [] H H' ∧
    ∃ w S, env 12 = some w ∧ OwnL (fun _ => False) H' T_int64 w (partK room p d (L.take k)) S ∧ ∀ b ∈ S, H.next ≤ b
def PkQ (H : AH) (v : Value) (L : List (Int × Int)) (room p d : Int) (e : AExit) (env : Env) (H' : AH) : Prop := e = .exit 0 ∧ PkI H v L room p d L.length env H'
theorem pricedR_l0 {H Hs : AH} {v : Value} {L : List (Int × Int)} {room p d : Int} (hw : WF H) (hL : SlV (fun b => b < H.next) H v L) (hok : ItOk L room) (hl : L.length ≤ 40) (hp : 0 ≤ p ∧ p ≤ 2147483648) (hd : 0 ≤ d ∧ d ≤ 2147483648) {env : Env} (h : PkI H v L room p d 0 env Hs) :
    wpC Try.prog 75 (.loop ir_ref16_Priced_l0) (PkQ H v L room p d) env Hs := by
  refine loop_upto L.length (PkI H v L room p d) (Q := PkQ H v L room p d) h ?_
  rintro k env H' hk ⟨e0, e2, e3, e13, w', k', w, S, e12, hA, hS⟩
  by_cases hkn : k < L.length
  · have hL' := hL.kept hw k'
    obtain ⟨b0, off, sp, cap, cs, hcv, q1, q2⟩ := pairs_rd hL' (by omega)
    obtain ⟨g1, g2, g3, g4, g5⟩ := q2 k hkn
    have hval := hok.val L[k] (List.getElem_mem hkn)
    have hsn : L.take (k + 1) = L.take k ++ [L[k]] := List.take_succ_eq_append_getElem hkn
    have hpn := partK_snoc room p d (L.take k) L[k]
    rw [← hsn] at hpn
    have hpl := partK_len room p d (L.take k)
    have htl : (L.take k).length ≤ 40 := by rw [List.length_take]; omega
    have hx1 := hval.1
    have hx2 := hval.2
    have mb1 : 0 ≤ L[k].1 * d ∧ L[k].1 * d ≤ 2147483648 * 2147483648 := ⟨Int.mul_nonneg hx1.1 hd.1, Int.mul_le_mul hx1.2 hd.2 hd.1 (by omega)⟩
    have mb2 : 0 ≤ L[k].2 * p ∧ L[k].2 * p ≤ 2147483648 * 2147483648 := ⟨Int.mul_nonneg hx2.1 hp.1, Int.mul_le_mul hx2.2 hp.2 hp.1 (by omega)⟩
    have wr1 : IntKind.i64.wrap (L[k].1 * d) = L[k].1 * d := IntWalk.i64_in _ (by omega)
    have wr2 : IntKind.i64.wrap (L[k].2 * p) = L[k].2 * p := IntWalk.i64_in _ (by omega)
    have wr3 : IntKind.i64.wrap (L[k].1 * d - L[k].2 * p) = L[k].1 * d - L[k].2 * p := IntWalk.i64_in _ (by omega)
    have hn' := k'.next
    obtain ⟨z, hz⟩ : ∃ z, z = L[k].1 * d - L[k].2 * p := ⟨_, rfl⟩
    rw [← hz] at hpn wr3
    have hzb : I64 z := by unfold I64; omega
    clear mb1 mb2
    generalize L[k] = x at *
    obtain ⟨x0, x1⟩ := x
    simp only at g1 g2 g3 wr1 wr2 wr3 hz
    subst hcv
    obtain ⟨wa, wc, rfl⟩ := hA.slice
    have hkl : (k : Int) < (L.length : Int) := by omega
    by_cases hpos : 0 < z
    · rw [if_pos hpos] at hpn
      obtain ⟨va, vc, H2, S', p1, w2, hA', k2, hS', _⟩ := push_i64 (H := H) w' hA k' hS hzb (by omega)
      rw [← hpn] at hA'
      have hln : (partK room p d (L.take k)).length + 1 = (partK room p d (L.take (k + 1))).length := by rw [hpn]; simp
      rw [hln] at p1 hA'
      have he : elemsA (H'.alloc (.row [.int .i64 z] T_int64 true)) 1 (.slice (some ⟨H'.next, 0, none⟩) 1 1) = some [.int .i64 z] := elems_one rfl
      simp (disch := omega) [-getElem?_pos, if_pos, if_neg, decide_eq_true, decide_eq_false, ir_ref16_Priced_l0, e0, e2, e3, e12, e13, hkn, hkl, q1, g1, g2, g3, wr1, wr2, ← hz, wr3, hpos, he, p1, hln, IntWalk.i64_in]
      exact ⟨by simp [e0], by simp [e2], by simp [e3], by simp, w2, k2, _, S', by simp, hA', hS'⟩
    · rw [if_neg hpos] at hpn
      have hA2' : OwnL (fun _ => False) H' T_int64 (.slice wa (partK room p d (L.take k)).length wc) (partK room p d (L.take (k + 1))) S := by rw [hpn]; exact hA
      simp (disch := omega) [-getElem?_pos, if_pos, if_neg, decide_eq_true, decide_eq_false, ir_ref16_Priced_l0, e0, e2, e3, e12, e13, hkn, hkl, q1, g1, g2, g3, wr1, wr2, ← hz, wr3, hpos, IntWalk.i64_in]
      exact ⟨by simp [e0], by simp [e2], by simp [e3], by simp, w', k', _, S, by simp [e12], hA2', hS⟩
  · obtain rfl : k = L.length := by omega
    obtain ⟨va, vc, hve⟩ := hL.slice
    rw [hve] at e0
    simp (disch := omega) [-getElem?_pos, if_pos, if_neg, decide_eq_true, decide_eq_false, ir_ref16_Priced_l0, e0, e13]
    exact ⟨rfl, by rw [hve]; exact e0, e2, e3, e13, w', k', w, S, e12, hA, hS⟩
theorem PricedR_spec {H : AH} {v : Value} {L : List (Int × Int)} {room n d : Int} (hL : SlV (fun b => b < H.next) H v L) (hl : L.length ≤ 40) (hn : I64 n) (hd : I64 d) : AFn Try.prog F_ref16_Priced [v, .int .i64 room, .int .i64 n, .int .i64 d] H fun u H' => u = .tuple #[.int .i64 (prN L room n d), .bool (prF L room n d)] ∧ H' = H := by
  refine AFn.calm (fun H0 hs => ?_) rfl
  have hn0 : H0.next = H.next := hs.1
  have hL0 := (hL.same hs).mono (q := fun b => b < H0.next) fun b hb => by omega
  refine AFn.enter mixed ir_ref16_Priced_eq (by simp [ir_ref16_Priced]) fun hw => ?_
  have hmy := mayR_spec hL0 room
  have hgd := GoodR_spec (H := H0) hn hd
  have e1 : prN L room n d = if mayB L room && goodK n d then shortI (totP L room n d / d) else 0 := rfl
  have e2 : prF L room n d = (mayB L room && goodK n d && fitsI (totP L room n d / d)) := rfl
  rw [e1, e2]
  have hgk : goodK n d = (goodR n d && inM n && inM d) := rfl
  obtain ⟨va, vc, hve⟩ := hL0.slice
  rw [hve] at hmy ⊢
  simp (disch := omega) [-getElem?_pos, if_pos, if_neg, decide_eq_true, decide_eq_false, ir_ref16_Priced]
  refine AFn.pure hmy ?_
  simp (disch := omega) [-getElem?_pos, if_pos, if_neg, decide_eq_true, decide_eq_false, ]
  refine AFn.pure hgd ?_
  cases hm : mayB L room with
  | false => simp (disch := omega) [-getElem?_pos, if_pos, if_neg, decide_eq_true, decide_eq_false, ]
  | true =>
    have hok := mayB_iff.1 hm
    cases hg : goodR n d with
    | false =>
      rw [hg] at hgk
      rw [hgk]
      simp (disch := omega) [-getElem?_pos, if_pos, if_neg, decide_eq_true, decide_eq_false, ]
    | true =>
      have hdp : 0 < d := by
        unfold goodR at hg
        rw [decide_eq_true_iff] at hg
        exact hg.1
      by_cases h1 : n < 0
      · have : goodK n d = false := by
          cases h : goodK n d with
          | false => rfl
          | true => have := goodK_iff h; omega
        rw [this]
        simp (disch := omega) [-getElem?_pos, if_pos, if_neg, decide_eq_true, decide_eq_false, h1]
      · by_cases h2 : 2147483648 < n
        · have : goodK n d = false := by
            cases h : goodK n d with
            | false => rfl
            | true => have := goodK_iff h; omega
          rw [this]
          simp (disch := omega) [-getElem?_pos, if_pos, if_neg, decide_eq_true, decide_eq_false, h1, h2]
        · by_cases h3 : 2147483648 < d
          · have : goodK n d = false := by
              cases h : goodK n d with
              | false => rfl
              | true => have := goodK_iff h; omega
            rw [this]
            simp (disch := omega) [-getElem?_pos, if_pos, if_neg, decide_eq_true, decide_eq_false, h1, h2, h3]
          · have hgt : goodK n d = true := by
              rw [hgk, hg, inM_iff.2 ⟨by omega, by omega⟩, inM_iff.2 ⟨by omega, by omega⟩]; rfl
            rw [hgt]
            have hm0 := Int.mul_nonneg (show 0 ≤ n by omega) hok.room.1
            have hm1 : n * room ≤ 2147483648 * 2147483648 := Int.mul_le_mul (by omega) hok.room.2 hok.room.1 (by omega)
            have hwr : IntKind.i64.wrap (n * room) = n * room := IntWalk.i64_in _ (by omega)
            obtain ⟨z, hz⟩ : ∃ z, z = n * room := ⟨_, rfl⟩
            rw [← hz] at hwr hm0 hm1
            have hzb : I64 z := by unfold I64; omega
            obtain ⟨H2, hH2⟩ : ∃ H2, H2 = H0.alloc (.row [.int .i64 z] T_int64 true) := ⟨_, rfl⟩
            have k2 : Keep [] H0 H2 := by rw [hH2]; exact .alloc
            have w2 : WF H2 := by rw [hH2]; exact hw.alloc
            have n2 : H2.next = H0.next + 1 := by rw [hH2]; rfl
            have hp0 : partK room n d (L.take 0) = [z] := by rw [List.take_zero, hz]; rfl
            have hO : OwnL (fun _ => False) H2 T_int64 (.slice (some ⟨H0.next, 0, none⟩) 1 1) (partK room n d (L.take 0)) [H0.next] := by
              rw [hp0, hH2]
              exact ⟨[.int .i64 z], .inr ⟨H0.next, 0, none, 1, [.int .i64 z], rfl, rfl, AH.alloc_blk_new, by simp, by simp, by simp, .inl rfl⟩, fun i hi => ⟨by
                have : i = 0 := by simpa using hi
                subst this; rfl, by simpa using hzb⟩, by simp⟩
            simp (disch := omega) [-getElem?_pos, if_pos, if_neg, decide_eq_true, decide_eq_false, h1, h2, h3, ← hz, hwr]
            rw [← hH2]
            refine wpC_use (pricedR_l0 (H := H0) (v := v) (L := L) (room := room) (p := n) (d := d) hw hL0 hok hl ⟨by omega, by omega⟩ ⟨by omega, by omega⟩ ⟨by simp [hve], by simp, by simp, by simp, w2, k2, _, [H0.next], by simp, hO, by simp⟩) ?_
            rintro e env2 H3 ⟨rfl, f0, f2, f3, f13, w3, k3, w, S, f12, hA, hS⟩ _
            rw [List.take_length] at hA
            have hpl := partK_len room n d L
            have hsl : SlV (fun b => b < H3.next) H3 w (partK room n d L) := hA.slv (fun _ h => h.elim) (fun b hb => hA.lt w3 b hb) (by omega)
            obtain ⟨dn, rfl⟩ : ∃ dn : Nat, d = (dn : Int) := ⟨d.toNat, by omega⟩
            have hfs := FloorSumR_spec (d := dn) hsl (by omega) (fun x hx => by
              have hI : I64 x := by
                obtain ⟨i, hi, rfl⟩ := List.getElem_of_mem hx
                obtain ⟨b, off, sp, cap, cs, _, _, hq⟩ := ints_rd hsl (by omega)
                exact (hq i hi).2
              refine ⟨?_, hI.2⟩
              unfold partK at hx
              rcases List.mem_cons.1 hx with h | h
              · rw [h, ← hz]; exact hm0
              · have := (List.mem_filter.1 h).2
                simp at this
                omega) ⟨by omega, by omega⟩
            rw [partK_sum] at hfs
            generalize totP L room n (dn : Int) / (dn : Int) = qq at *
            simp (disch := omega) [-getElem?_pos, if_pos, if_neg, decide_eq_true, decide_eq_false, f3, f12]
            refine AFn.pure hfs ?_
            simp (disch := omega) [-getElem?_pos, if_pos, if_neg, decide_eq_true, decide_eq_false, ]
end Go.Proofs.Ytllfcbacpoaphaa
