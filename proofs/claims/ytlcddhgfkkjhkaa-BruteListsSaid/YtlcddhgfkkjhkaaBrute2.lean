/-
  package brute: places and orders.
-/
import Derived.Test.YtlcddhgfkkjhkaaBrute1
import Derived.Test.YtlcddhgfkkjhkaaLehmer
set_option maxRecDepth 100000
set_option linter.unusedSimpArgs false
set_option linter.unusedVariables false
namespace Go.Proofs.Ytlcddhgfkkjhkaa
open Go Go.Abs

/-- New numbers of one's own. -/
def NewL (H : AH) (u : Value) (L : List Int) (H' : AH) : Prop := ∃ S, OwnL (fun _ => False) H' T_int u L S ∧ Keep [] H H' ∧ ∀ b ∈ S, H.next ≤ b

theorem elems_one {H : AH} {cs : List Value} {t sz : Nat} (h : cs.length = sz) : elemsA (H.alloc (.row cs t true)) sz (.slice (some ⟨H.next, 0, none⟩) 1 1) = some cs := by
  have hc : (H.alloc (.row cs t true)).cells H.next = some cs := AH.cells_of AH.alloc_blk_new
  simp [elemsA, hc, cut, h]
  rw [← h, List.take_length]

/-- One number more. -/
theorem push_int {H H1 : AH} {v : Value} {L : List Int} {S : List Nat} (hw : WF H1) (hA : OwnL (fun _ => False) H1 T_int v L S) (hk : Keep [] H H1) (hS : ∀ b ∈ S, H.next ≤ b) {a : Int} (ha : I64 a) (hl : L.length ≤ 1000) :
    ∃ va vc H2 S', appendA (H1.alloc (.row [.int .i64 a] T_int true)) T_int 1 8 v 1 [.int .i64 a] = some (.slice va (L.length + 1) vc, H2) ∧ WF H2 ∧ OwnL (fun _ => False) H2 T_int (.slice va (L.length + 1) vc) (L ++ [a]) S' ∧ Keep [] H H2 ∧ (∀ b ∈ S', H.next ≤ b) ∧ Keep S H1 H2 ∧ ∀ b ∈ S', b ∈ S ∨ H1.next ≤ b := by
  obtain ⟨va, vc, Hd, S', p1, hA', kd, wd, i1⟩ := hA.push (q := fun _ => False) hw (cs := [.int .i64 a]) (a := a) ⟨rfl, ha⟩ T_int 8 (fun _ h => h) (fun b hb => hb.elim) (by simp) (by omega) (by omega)
  have hn := hk.next
  refine ⟨va, vc, Hd, S', p1, wd, hA', hk.trans kd (fun b hb hlt => by have := hS b hb; omega), fun b hb => ?_, kd, i1⟩
  rcases i1 b hb with h | h
  · exact hS b h
  · omega

def restL (a n : Nat) : List Int := (List.range (n - a)).map fun i => ((a + i : Nat) : Int)
theorem restL_len {a n : Nat} : (restL a n).length = n - a := by simp [restL]
def ReI (H : AH) (a n : Nat) (k : Nat) (env : Env) (H' : AH) : Prop :=
  env 1 = some (.int .i64 n) ∧ env 6 = some (.int .i64 ((a : Int) + k)) ∧ ∃ v S, env 5 = some v ∧ WF H' ∧ OwnL (fun _ => False) H' T_int v (restL a (a + k)) S ∧ Keep [] H H' ∧ ∀ b ∈ S, H.next ≤ b
theorem rest_spec {H : AH} {a n : Nat} (hn : n ≤ 100) : AFn Try.prog F_brute_rest [.int .i64 a, .int .i64 n] H fun u H' => NewL H u (restL a n) H' := by
  refine AFn.enter mixed ir_brute_rest_eq (by simp [ir_brute_rest]) fun hw => ?_
  simp (disch := omega) [-getElem?_pos, if_pos, if_neg, decide_eq_true, decide_eq_false, ir_brute_rest]
  refine wpC_use (loop_upto (n - a) (ReI H a n) (Q := fun e env H' => e = .exit 0 ∧ ∃ v, env 5 = some v ∧ NewL H v (restL a n) H') ⟨by simp, by simp, _, [], by simp; rfl, hw, by simp [restL]; exact .nil, .refl, by simp⟩ ?_) ?_
  · rintro k env H' hk ⟨e1, e6, v, S, e5, hw', hA, hK, hS⟩
    by_cases hkn : a + k < n
    · obtain ⟨va, vc, H2, S', p1, w2, hA', k2, hS', _⟩ := push_int hw' hA hK hS (a := (a : Int) + k) (by unfold I64; omega) (by rw [restL_len]; omega)
      have pE : elemsA (H'.alloc (.row [.int .i64 ((a : Int) + k)] T_int true)) 1 (.slice (some ⟨H'.next, 0, none⟩) 1 1) = some [.int .i64 ((a : Int) + k)] := elems_one rfl
      simp (disch := omega) [-getElem?_pos, if_pos, if_neg, decide_eq_true, decide_eq_false, ir_brute_rest_l0, e1, e5, e6, pE, p1, hkn, IntWalk.i64_in]
      refine ⟨by omega, by simp [e1], by simp; omega, .slice va ((restL a (a + k)).length + 1) vc, S', by simp, w2, ?_, k2, hS'⟩
      have : restL a (a + (k + 1)) = restL a (a + k) ++ [(a : Int) + k] := by
        unfold restL
        rw [show a + (k + 1) - a = k + 1 by omega, show a + k - a = k by omega, List.range_succ, List.map_append]
        simp
      rw [this]; exact hA'
    · obtain rfl : k = n - a := by omega
      simp (disch := omega) [-getElem?_pos, if_pos, if_neg, decide_eq_true, decide_eq_false, ir_brute_rest_l0, e1, e6, hkn]
      refine ⟨v, e5, S, ?_, hK, hS⟩
      by_cases h : a ≤ n
      · rw [show a + (n - a) = n by omega] at hA; exact hA
      · rw [show n - a = 0 by omega] at hA
        have e1 : restL a (a + 0) = restL a n := by unfold restL; rw [show a + 0 - a = n - a by omega]
        rw [← e1]; exact hA
  · rintro e env2 H' ⟨rfl, v, e5, hN⟩ hu
    obtain ⟨S, hA, _⟩ := id hN
    simp (disch := omega) [-getElem?_pos, if_pos, if_neg, decide_eq_true, decide_eq_false, e5, hA.cell]
    exact hN

/-! ### the digits of a number -/
theorem i64_nat_and {a b : Nat} (ha : a < 4611686018427387904) (hb : b < 4611686018427387904) : abin .and (.int .i64 a) (.int .i64 b) = some (.int .i64 ((a &&& b : Nat) : Int)) := by
  have h : (BitVec.ofInt 64 (a : Int) &&& BitVec.ofInt 64 (b : Int)).toNat = a &&& b := by
    rw [BitVec.toNat_and, BitVec.ofInt_natCast, BitVec.ofInt_natCast, BitVec.toNat_ofNat, BitVec.toNat_ofNat, Nat.mod_eq_of_lt (by omega), Nat.mod_eq_of_lt (by omega)]
  have hl : a &&& b ≤ a := Nat.and_le_left
  show some (Value.int .i64 (IntKind.i64.wrap ((BitVec.ofInt 64 (a : Int) &&& BitVec.ofInt 64 (b : Int)).toNat : Int))) = _
  rw [h, IntWalk.i64_in _ (by omega)]
theorem i64_nat_or {a b : Nat} (ha : a < 4611686018427387904) (hb : b < 4611686018427387904) : abin .or (.int .i64 a) (.int .i64 b) = some (.int .i64 ((a ||| b : Nat) : Int)) := by
  have h : (BitVec.ofInt 64 (a : Int) ||| BitVec.ofInt 64 (b : Int)).toNat = a ||| b := by
    rw [BitVec.toNat_or, BitVec.ofInt_natCast, BitVec.ofInt_natCast, BitVec.toNat_ofNat, BitVec.toNat_ofNat, Nat.mod_eq_of_lt (by omega), Nat.mod_eq_of_lt (by omega)]
  have hl : a ||| b < 2 ^ 62 := Nat.or_lt_two_pow (by omega) (by omega)
  show some (Value.int .i64 (IntKind.i64.wrap ((BitVec.ofInt 64 (a : Int) ||| BitVec.ofInt 64 (b : Int)).toNat : Int))) = _
  rw [h, IntWalk.i64_in _ (by omega)]
theorem i64_and1 {a : Nat} (ha : a < 4611686018427387904) : abin .and (.int .i64 a) (.int .i64 1) = some (.int .i64 ((a % 2 : Nat) : Int)) := by
  have := i64_nat_and (b := 1) ha (by omega)
  rw [Nat.and_one_is_mod] at this; exact this
theorem i64_shr1 {a : Nat} : abin .shr (.int .i64 a) (uv 1) = some (.int .i64 ((a / 2 : Nat) : Int)) := by
  show some (Value.int .i64 ((a : Int).fdiv 2)) = _
  rw [Int.fdiv_eq_ediv_of_nonneg _ (by omega)]; norm_cast
theorem i64_shl1 {k : Nat} (h : k < 62) : abin .shl (.int .i64 1) (.int .i64 k) = some (.int .i64 ((2 ^ k : Nat) : Int)) := by
  have hlt : 2 ^ k < 4611686018427387904 := Nat.pow_lt_pow_right (a := 2) (n := 62) (by omega) h
  simp only [abin]
  rw [if_neg (show ¬ (k : Int) < 0 by omega), show min (Int.toNat (k : Int)) IntKind.i64.bits = k by (show min k 64 = k); omega]
  have hz : ∀ z : Nat, z < 4611686018427387904 → IntKind.i64.wrap (z : Int) = z := fun z hz => IntWalk.i64_in _ (by omega)
  have := hz _ hlt
  simpa using this
def ChI (H : AH) (f m : Nat) (k : Nat) (env : Env) (H' : AH) : Prop :=
  env 0 = some (.int .i64 (m / 2 ^ k : Nat)) ∧ env 4 = some (.int .i64 k) ∧ ∃ v S L, env 3 = some v ∧ WF H' ∧ OwnL (fun _ => False) H' T_int v L S ∧ L.length ≤ k ∧ L ++ chosenL (f - k) k (m / 2 ^ k) = chosenL f 0 m ∧ Keep [] H H' ∧ ∀ b ∈ S, H.next ≤ b
theorem chosen_spec {H : AH} {f m : Nat} (hm : m < 2 ^ f) (hf : f ≤ 62) : AFn Try.prog F_brute_chosen [.int .i64 m] H fun u H' => NewL H u (chosenL f 0 m) H' := by
  have hb : (2:Nat) ^ f ≤ 2 ^ 62 := Nat.pow_le_pow_right (by omega) hf
  refine AFn.enter mixed ir_brute_chosen_eq (by simp [ir_brute_chosen]) fun hw => ?_
  simp (disch := omega) [-getElem?_pos, if_pos, if_neg, decide_eq_true, decide_eq_false, ir_brute_chosen]
  refine wpC_use (loop_upto f (ChI H f m) (Q := fun e env H' => e = .exit 0 ∧ ∃ v, env 3 = some v ∧ NewL H v (chosenL f 0 m) H') ⟨by simp, by simp, _, [], [], rfl, hw, .nil, by simp, by simp, .refl, by simp⟩ ?_) ?_
  · rintro k env H' hk ⟨e0, e4, v, S, L, e3, hw', hA, hl, hL, hK, hS⟩
    have hle : m / 2 ^ k ≤ m := Nat.div_le_self _ _
    have hd : m / 2 ^ k / 2 = m / 2 ^ (k + 1) := by rw [Nat.div_div_eq_div_mul, Nat.pow_succ]
    generalize hx : m / 2 ^ k = x at *
    by_cases h0 : x = 0
    · subst h0
      simp (disch := omega) [-getElem?_pos, if_pos, if_neg, decide_eq_true, decide_eq_false, ir_brute_chosen_l0, e0, e3, e4]
      have : chosenL (f - k) k 0 = [] := by cases f - k <;> rfl
      rw [this, List.append_nil] at hL
      rw [← hL]
      exact ⟨S, hA, hK, hS⟩
    · have hkf : k < f := by
        have : k ≠ f := fun h => by subst h; rw [Nat.div_eq_of_lt hm] at hx; omega
        omega
      obtain ⟨g, hg⟩ : ∃ g, f - k = g + 1 := ⟨f - k - 1, by omega⟩
      have hch : chosenL (f - k) k x = (if x % 2 = 1 then [(k : Int)] else []) ++ chosenL (f - (k + 1)) (k + 1) (x / 2) := by
        rw [hg, show f - (k + 1) = g by omega]
        show (if x = 0 then [] else _) = _
        rw [if_neg h0]
      have ha1 := i64_and1 (a := x) (by omega)
      have ha2 := i64_shr1 (a := x)
      by_cases h1 : x % 2 = 1
      · obtain ⟨va, vc, H2, S', p1, w2, hA', k2, hS', _⟩ := push_int hw' hA hK hS (a := (k : Int)) (by unfold I64; omega) (by omega)
        have pE : elemsA (H'.alloc (.row [.int .i64 (k : Int)] T_int true)) 1 (.slice (some ⟨H'.next, 0, none⟩) 1 1) = some [.int .i64 (k : Int)] := elems_one rfl
        simp (disch := omega) [-getElem?_pos, if_pos, if_neg, decide_eq_true, decide_eq_false, ir_brute_chosen_l0, e0, e3, e4, ↓ha1, ↓ha2, pE, p1, h0, h1, IntWalk.i64_in]
        refine ⟨hkf, by simp [← hd], by simp, .slice va (L.length + 1) vc, S', L ++ [(k : Int)], by simp, w2, hA', by simp; omega, ?_, k2, hS'⟩
        rw [← hL, hch, if_pos h1, ← hd, List.append_assoc]
      · simp (disch := omega) [-getElem?_pos, if_pos, if_neg, decide_eq_true, decide_eq_false, ir_brute_chosen_l0, e0, e3, e4, ↓ha1, ↓ha2, h0, h1, IntWalk.i64_in]
        refine ⟨hkf, by simp [← hd], by simp, v, S, L, by simp [e3], hw', hA, by omega, ?_, hK, hS⟩
        rw [← hL, hch, if_neg h1, ← hd, List.nil_append]
  · rintro e env2 H' ⟨rfl, v, e3, hN⟩ hu
    obtain ⟨S, hA, _⟩ := id hN
    simp (disch := omega) [-getElem?_pos, if_pos, if_neg, decide_eq_true, decide_eq_false, e3, hA.cell]
    exact hN
/-- Digits put together. -/
def MaI (H : AH) (v : Value) (n : Nat) (L : List Int) (R : Option Nat) (k : Nat) (env : Env) (H' : AH) : Prop :=
  env 0 = some (.int .i64 n) ∧ env 10 = some v ∧ env 11 = some (.int .i64 L.length) ∧ env 12 = some (.int .i64 k) ∧ H' = H ∧ ∃ (o : Nat) (last : Int), env 6 = some (.int .i64 o) ∧ env 7 = some (.int .i64 last) ∧ -1 ≤ last ∧ last < n ∧ o < 2 ^ (last + 1).toNat ∧ (maskL n last (L.drop k)).map (o + ·) = R
def maskV (R : Option Nat) : Value := .tuple #[.int .i64 (R.getD 0 : Nat), .bool R.isSome]
theorem mask_spec {p : Nat → Prop} {H : AH} {v : Value} {L : List Int} {n : Nat} (hL : SlV p H v L) (hn : n ≤ 60) : AFn Try.prog F_brute_mask [.int .i64 n, v] H fun u H' => u = maskV (maskL n (-1) L) ∧ H' = H := by
  obtain ⟨va, vc, rfl⟩ := hL.slice
  have hLm := hL.max
  refine AFn.enter mixed ir_brute_mask_eq (by simp [ir_brute_mask]) fun hw => ?_
  simp (disch := omega) [-getElem?_pos, if_pos, if_neg, decide_eq_true, decide_eq_false, ir_brute_mask]
  refine loop_upto L.length (MaI H (.slice va L.length vc) n L (maskL n (-1) L)) ⟨by simp, by simp, by simp, by simp, rfl, 0, -1, by simp, by simp, by omega, by omega, by simp, by simp⟩ ?_
  rintro k env H' hk ⟨e0, e10, e11, e12, rfl, o, last, e6, e7, hl1, hl2, ho, hR⟩
  by_cases hkn : k < L.length
  · obtain ⟨b, off, sp, cap, cs, ev, q1, q2⟩ := ints_rd hL (by omega)
    obtain ⟨q3, q4⟩ := q2 k hkn
    cases ev
    rw [List.drop_eq_getElem_cons hkn] at hR
    generalize L[k] = x at *
    by_cases hx : x ≤ last ∨ (n : Int) ≤ x
    · rw [maskL, if_pos hx] at hR
      by_cases hx1 : x ≤ last
      · simp (disch := omega) [-getElem?_pos, if_pos, if_neg, decide_eq_true, decide_eq_false, ir_brute_mask_l0, e0, e10, e11, e12, e6, e7, q1, q3, hx1, IntWalk.i64_in]
        rw [← hR]; rfl
      · have hx2 : (n : Int) ≤ x := by omega
        simp (disch := omega) [-getElem?_pos, if_pos, if_neg, decide_eq_true, decide_eq_false, ir_brute_mask_l0, e0, e10, e11, e12, e6, e7, q1, q3, hx1, hx2, IntWalk.i64_in]
        rw [← hR]; rfl
    · rw [maskL, if_neg hx] at hR
      obtain ⟨d, rfl⟩ : ∃ d : Nat, x = d := ⟨x.toNat, by omega⟩
      have hdn : d < n := by omega
      have h2 : 2 ^ (last + 1).toNat ≤ 2 ^ d := Nat.pow_le_pow_right (by omega) (by omega)
      have hsh := i64_shl1 (k := d) (by omega)
      have h3 : (2 : Nat) ^ d < 2 ^ 60 := Nat.pow_lt_pow_right (by omega) (by omega)
      have hor := i64_nat_or (a := o) (b := 2 ^ d) (by omega) (by omega)
      have h4 : o ||| 2 ^ d = o + 2 ^ d := by
        have := Nat.two_pow_add_eq_or_of_lt (i := d) (b := o) (by omega) 1
        rw [Nat.mul_one, Nat.or_comm] at this
        omega
      rw [h4] at hor
      have h5 : (2 : Nat) ^ (d + 1) = 2 ^ d + 2 ^ d := by rw [Nat.pow_succ]; omega
      have h6 : ((d : Int) + 1).toNat = d + 1 := by omega
      have h7 : (d : Int).toNat = d := by omega
      rw [h7] at hR
      have h8 : o + 2 ^ d < 2 ^ ((d : Int) + 1).toNat := by rw [h6, h5]; omega
      generalize hwd : 2 ^ d = w at *
      have hx1 : ¬ (d : Int) ≤ last := by omega
      have hx2 : ¬ (n : Int) ≤ d := by omega
      simp (disch := omega) [-getElem?_pos, if_pos, if_neg, decide_eq_true, decide_eq_false, ir_brute_mask_l0, e0, e10, e11, e12, e6, e7, q1, q3, hx1, hx2, ↓hsh, ↓hor, IntWalk.i64_in]
      refine ⟨hkn, by simp [e0], by simp [e10], by simp [e11], by simp, rfl, o + w, d, by simp, by simp, by omega, by omega, h8, ?_⟩
      rw [← hR, Option.map_map]
      congr 1
      funext z
      simp; omega
  · obtain rfl : k = L.length := by omega
    simp (disch := omega) [-getElem?_pos, if_pos, if_neg, decide_eq_true, decide_eq_false, ir_brute_mask_l0, e10, e11, e12, e6]
    rw [List.drop_length] at hR
    rw [← hR]; rfl
end Go.Proofs.Ytlcddhgfkkjhkaa
