/-
  PLAIN LAW: the order of a place and the place of an order; the digits of a number.
-/
import Derived.Test.YtlcddhgfkkjhkaaInst
import Derived.Test.YtlcddhgfkkjhkaaBrute1
import Derived.Test.YtlcddhgfkkjhkaaRen

set_option linter.unusedSimpArgs false
set_option linter.unusedVariables false
namespace Go.Abs
def fac : Nat → Nat
  | 0 => 1
  | n + 1 => (n + 1) * fac n
theorem fac_pos : ∀ n, 0 < fac n
  | 0 => by decide
  | n + 1 => Nat.mul_pos (Nat.succ_pos n) (fac_pos n)
def orderL : Nat → List Int → Nat → List Int
  | 0, _, _ => []
  | f + 1, left, k => match left with
    | [] => []
    | a :: l => (a :: l).getD (k / fac l.length) 0 :: orderL f ((a :: l).eraseIdx (k / fac l.length)) (k % fac l.length)
def placeL : List Int → List Int → Option Nat
  | _, [] => some 0
  | left, y :: x => if y ∈ left then (placeL (left.eraseIdx (left.idxOf y)) x).map (left.idxOf y * fac (left.length - 1) + ·) else none
theorem place_order : ∀ (f : Nat) {left : List Int} {k : Nat}, left.length = f → left.Nodup → k < fac left.length → placeL left (orderL f left k) = some k
  | 0, left, k, hf, _, hk => by
    rw [hf] at hk
    have : k = 0 := by simp [fac] at hk; exact hk
    subst this
    rfl
  | f + 1, [], k, hf, _, hk => by simp at hf
  | f + 1, a :: l, k, hf, hn, hk => by
    have hl : l.length = f := by simpa using hf
    have hp := fac_pos l.length
    have hq : k / fac l.length < (a :: l).length := by
      rw [Nat.div_lt_iff_lt_mul hp]; exact hk
    have hg : (a :: l).getD (k / fac l.length) 0 = (a :: l)[k / fac l.length] := by
      rw [List.getD_eq_getElem?_getD, List.getElem?_eq_getElem hq]; rfl
    have hi : (a :: l).idxOf ((a :: l)[k / fac l.length]) = k / fac l.length := List.Nodup.idxOf_getElem hn _ hq
    have he : ((a :: l).eraseIdx (k / fac l.length)).length = l.length := by rw [List.length_eraseIdx_of_lt hq]; simp
    have hs : ((a :: l).eraseIdx (k / fac l.length)).Sublist (a :: l) := List.eraseIdx_sublist _ _
    have ih := place_order f (left := (a :: l).eraseIdx (k / fac l.length)) (k := k % fac l.length) (by omega) (List.Nodup.sublist hs hn) (by rw [he]; exact Nat.mod_lt _ hp)
    show placeL (a :: l) ((a :: l).getD (k / fac l.length) 0 :: _) = _
    rw [hg]
    unfold placeL
    rw [if_pos (List.getElem_mem hq), hi, ih]
    simp only [Option.map_some, List.length_cons, Nat.add_sub_cancel]
    rw [Nat.mul_comm, Nat.div_add_mod]
theorem order_len : ∀ (f : Nat) {left : List Int} {k : Nat}, left.length = f → k < fac left.length → (orderL f left k).length = f
  | 0, left, k, hf, _ => rfl
  | f + 1, [], k, hf, _ => by simp at hf
  | f + 1, a :: l, k, hf, hk => by
    have hl : l.length = f := by simpa using hf
    have hp := fac_pos l.length
    have hq : k / fac l.length < (a :: l).length := by
      rw [Nat.div_lt_iff_lt_mul hp]; exact hk
    have he : ((a :: l).eraseIdx (k / fac l.length)).length = l.length := by rw [List.length_eraseIdx_of_lt hq]; simp
    show (orderL f _ _).length + 1 = _
    rw [order_len f (by omega) (by rw [he]; exact Nat.mod_lt _ hp)]
def chosenL : Nat → Nat → Nat → List Int
  | 0, _, _ => []
  | f + 1, k, m => if m = 0 then [] else (if m % 2 = 1 then [(k : Int)] else []) ++ chosenL f (k + 1) (m / 2)
def maskL (n : Int) : Int → List Int → Option Nat
  | _, [] => some 0
  | last, x :: l => if x ≤ last ∨ n ≤ x then none else (maskL n x l).map (2 ^ x.toNat + ·)
theorem mask_low {n : Int} : ∀ {l : List Int} {a b : Int} {r : Nat}, a ≤ b → maskL n b l = some r → maskL n a l = some r
  | [], a, b, r, h, hm => hm
  | x :: l, a, b, r, h, hm => by
    unfold maskL at hm ⊢
    split at hm
    · cases hm
    · rename_i hc
      rw [if_neg (by omega)]; exact hm
theorem mask_chosen {n : Nat} : ∀ (f : Nat) {k m : Nat} {last : Int}, last < k → m < 2 ^ f → m * 2 ^ k < 2 ^ n → maskL n last (chosenL f k m) = some (m * 2 ^ k)
  | 0, k, m, last, hl, hm, _ => by
    have : m = 0 := by simpa using hm
    subst this
    simp [chosenL, maskL]
  | f + 1, k, m, last, hl, hm, hn => by
    unfold chosenL
    by_cases h0 : m = 0
    · subst h0; simp [maskL]
    · rw [if_neg h0]
      have h2 : m / 2 * 2 ^ (k + 1) = (m - m % 2) * 2 ^ k := by
        rw [Nat.pow_succ, Nat.mul_comm (2 ^ k) 2, ← Nat.mul_assoc]; congr 1; omega
      have h3 : m / 2 * 2 ^ (k + 1) < 2 ^ n := by
        rw [h2]; exact Nat.lt_of_le_of_lt (Nat.mul_le_mul_right _ (by omega)) hn
      have h4 : m / 2 < 2 ^ f := by rw [Nat.pow_succ] at hm; omega
      by_cases h1 : m % 2 = 1
      · have ih := mask_chosen (n := n) f (k := k + 1) (m := m / 2) (last := k) (by omega) h4 h3
        rw [if_pos h1]
        have hkn : k < n := by
          apply (Nat.pow_lt_pow_iff_right (show 1 < 2 by omega)).1
          refine Nat.lt_of_le_of_lt ?_ hn
          exact Nat.le_mul_of_pos_left _ (by omega)
        show maskL n last ((k : Int) :: chosenL f (k + 1) (m / 2)) = _
        unfold maskL
        rw [if_neg (by omega), ih, h2, h1]
        simp only [Option.map_some, Int.toNat_natCast]
        congr 1
        rw [Nat.sub_mul, Nat.one_mul]
        have : 2 ^ k ≤ m * 2 ^ k := Nat.le_mul_of_pos_left _ (by omega)
        omega
      · have ih := mask_chosen (n := n) f (k := k + 1) (m := m / 2) (last := last) (by omega) h4 h3
        rw [if_neg h1, List.nil_append, ih, h2]
        congr 2; omega
theorem chosen_lt : ∀ (f : Nat) {k m : Nat}, ∀ x ∈ chosenL f k m, (k : Int) ≤ x ∧ x < k + f
  | 0, k, m, x, h => by simp [chosenL] at h
  | f + 1, k, m, x, h => by
    unfold chosenL at h
    split at h
    · simp at h
    · rcases List.mem_append.1 h with h | h
      · split at h
        · simp at h; omega
        · simp at h
      · have := chosen_lt f x h; omega
end Go.Abs

set_option maxRecDepth 100000
namespace Go.Proofs.Ytlcddhgfkkjhkaa
open Go Go.Abs
def NewL (H : AH) (u : Value) (L : List Int) (H' : AH) : Prop := ∃ S, OwnL (fun _ => False) H' T_int u L S ∧ Keep [] H H' ∧ ∀ b ∈ S, H.next ≤ b
theorem elems_one {H : AH} {cs : List Value} {t sz : Nat} (h : cs.length = sz) : elemsA (H.alloc (.row cs t true)) sz (.slice (some ⟨H.next, 0, none⟩) 1 1) = some cs := by
  have hc : (H.alloc (.row cs t true)).cells H.next = some cs := AH.cells_of AH.alloc_blk_new
  simp [elemsA, hc, cut, h]
  rw [← h, List.take_length]
theorem push_int {H H1 : AH} {v : Value} {L : List Int} {S : List Nat} (hw : WF H1) (hA : OwnL (fun _ => False) H1 T_int v L S) (hk : Keep [] H H1) (hS : ∀ b ∈ S, H.next ≤ b) {a : Int} (ha : I64 a) (hl : L.length ≤ 1000) :
    ∃ va vc H2 S', appendA (H1.alloc (.row [.int .i64 a] T_int true)) T_int 1 8 v 1 [.int .i64 a] = some (.slice va (L.length + 1) vc, H2) ∧ WF H2 ∧ OwnL (fun _ => False) H2 T_int (.slice va (L.length + 1) vc) (L ++ [a]) S' ∧ Keep [] H H2 ∧ (∀ b ∈ S', H.next ≤ b) ∧ Keep S H1 H2 ∧ ∀ b ∈ S', b ∈ S ∨ H1.next ≤ b := by
  obtain ⟨va, vc, Hd, S', p1, hA', kd, wd, i1⟩ := hA.push (q := fun _ => False) hw (cs := [.int .i64 a]) (a := a) ⟨rfl, ha⟩ T_int 8 (fun _ h => h) (fun b hb => hb.elim) (by simp) (by omega) (by omega)
  have hn := hk.next
  refine ⟨va, vc, Hd, S', p1, wd, hA', hk.trans kd (fun b hb hlt => by have := hS b hb; omega), fun b hb => ?_, kd, i1⟩
  rcases i1 b hb with h | h
  · exact hS b h
  · omega
def restL (a n : Nat) : List Int := (List.range (n - a)).map fun i => ((a + i : Nat) : Int)
theorem restL_len {a n : Nat} : (restL a n).length = n - a := by simp [restL]
def ReI (H : AH) (a n : Nat) (k : Nat) (env : Env) (H' : AH) : Prop :=
  env 1 = some (.int .i64 n) ∧ env 6 = some (.int .i64 ((a : Int) + k)) ∧ ∃ v S, env 5 = some v ∧ WF H' ∧ OwnL (fun _ => False) H' T_int v (restL a (a + k)) S ∧ Keep [] H H' ∧ ∀ b ∈ S, H.next ≤ b
theorem rest_spec {H : AH} {a n : Nat} (hn : n ≤ 100) : AFn Try.prog F_brute_rest [.int .i64 a, .int .i64 n] H fun u H' => NewL H u (restL a n) H' := by
  refine AFn.enter mixed ir_brute_rest_eq (by simp [ir_brute_rest]) fun hw => ?_
  simp (disch := omega) [-getElem?_pos, if_pos, if_neg, decide_eq_true, decide_eq_false, ir_brute_rest]
  refine wpC_use (loop_upto (n - a) (ReI H a n) (Q := fun e env H' => e = .exit 0 ∧ ∃ v, env 5 = some v ∧ NewL H v (restL a n) H') ⟨by simp, by simp, _, [], by simp; rfl, hw, by simp [restL]; exact .nil, .refl, by simp⟩ ?_) ?_
  · rintro k env H' hk ⟨e1, e6, v, S, e5, hw', hA, hK, hS⟩
    by_cases hkn : a + k < n
    · obtain ⟨va, vc, H2, S', p1, w2, hA', k2, hS', _⟩ := push_int hw' hA hK hS (a := (a : Int) + k) (by unfold I64; omega) (by rw [restL_len]; omega)
      have pE : elemsA (H'.alloc (.row [.int .i64 ((a : Int) + k)] T_int true)) 1 (.slice (some ⟨H'.next, 0, none⟩) 1 1) = some [.int .i64 ((a : Int) + k)] := elems_one rfl
      simp (disch := omega) [-getElem?_pos, if_pos, if_neg, decide_eq_true, decide_eq_false, ir_brute_rest_l0, e1, e5, e6, pE, p1, hkn, IntWalk.i64_in]
      refine ⟨by omega, by simp [e1], by simp; omega, .slice va ((restL a (a + k)).length + 1) vc, S', by simp, w2, ?_, k2, hS'⟩
      have : restL a (a + (k + 1)) = restL a (a + k) ++ [(a : Int) + k] := by
        unfold restL
        rw [show a + (k + 1) - a = k + 1 by omega, show a + k - a = k by omega, List.range_succ, List.map_append]
        simp
      rw [this]; exact hA'
    · obtain rfl : k = n - a := by omega
      simp (disch := omega) [-getElem?_pos, if_pos, if_neg, decide_eq_true, decide_eq_false, ir_brute_rest_l0, e1, e6, hkn]
      refine ⟨v, e5, S, ?_, hK, hS⟩
      by_cases h : a ≤ n
      · rw [show a + (n - a) = n by omega] at hA; exact hA
      · rw [show n - a = 0 by omega] at hA
        have e1 : restL a (a + 0) = restL a n := by unfold restL; rw [show a + 0 - a = n - a by omega]
        rw [← e1]; exact hA
  · rintro e env2 H' ⟨rfl, v, e5, hN⟩ hu
    obtain ⟨S, hA, _⟩ := id hN
    simp (disch := omega) [-getElem?_pos, if_pos, if_neg, decide_eq_true, decide_eq_false, e5, hA.cell]
    exact hN
theorem i64_nat_and {a b : Nat} (ha : a < 4611686018427387904) (hb : b < 4611686018427387904) : abin .and (.int .i64 a) (.int .i64 b) = some (.int .i64 ((a &&& b : Nat) : Int)) := by
  have h : (BitVec.ofInt 64 (a : Int) &&& BitVec.ofInt 64 (b : Int)).toNat = a &&& b := by
    rw [BitVec.toNat_and, BitVec.ofInt_natCast, BitVec.ofInt_natCast, BitVec.toNat_ofNat, BitVec.toNat_ofNat, Nat.mod_eq_of_lt (by omega), Nat.mod_eq_of_lt (by omega)]
  have hl : a &&& b ≤ a := Nat.and_le_left
  show some (Value.int .i64 (IntKind.i64.wrap ((BitVec.ofInt 64 (a : Int) &&& BitVec.ofInt 64 (b : Int)).toNat : Int))) = _
  rw [h, IntWalk.i64_in _ (by omega)]
theorem i64_nat_or {a b : Nat} (ha : a < 4611686018427387904) (hb : b < 4611686018427387904) : abin .or (.int .i64 a) (.int .i64 b) = some (.int .i64 ((a ||| b : Nat) : Int)) := by
  have h : (BitVec.ofInt 64 (a : Int) ||| BitVec.ofInt 64 (b : Int)).toNat = a ||| b := by
    rw [BitVec.toNat_or, BitVec.ofInt_natCast, BitVec.ofInt_natCast, BitVec.toNat_ofNat, BitVec.toNat_ofNat, Nat.mod_eq_of_lt (by omega), Nat.mod_eq_of_lt (by omega)]
  have hl : a ||| b < 2 ^ 62 := Nat.or_lt_two_pow (by omega) (by omega)
  show some (Value.int .i64 (IntKind.i64.wrap ((BitVec.ofInt 64 (a : Int) ||| BitVec.ofInt 64 (b : Int)).toNat : Int))) = _
  rw [h, IntWalk.i64_in _ (by omega)]
theorem i64_and1 {a : Nat} (ha : a < 4611686018427387904) : abin .and (.int .i64 a) (.int .i64 1) = some (.int .i64 ((a % 2 : Nat) : Int)) := by
  have := i64_nat_and (b := 1) ha (by omega)
  rw [Nat.and_one_is_mod] at this; exact this
theorem i64_shr1 {a : Nat} : abin .shr (.int .i64 a) (uv 1) = some (.int .i64 ((a / 2 : Nat) : Int)) := by
  show some (Value.int .i64 ((a : Int).fdiv 2)) = _
  rw [Int.fdiv_eq_ediv_of_nonneg _ (by omega)]; norm_cast
theorem i64_shl1 {k : Nat} (h : k < 62) : abin .shl (.int .i64 1) (.int .i64 k) = some (.int .i64 ((2 ^ k : Nat) : Int)) := by
  have hlt : 2 ^ k < 4611686018427387904 := Nat.pow_lt_pow_right (a := 2) (n := 62) (by omega) h
  simp only [abin]
  rw [if_neg (show ¬ (k : Int) < 0 by omega), show min (Int.toNat (k : Int)) IntKind.i64.bits = k by (show min k 64 = k); omega]
  have hz : ∀ z : Nat, z < 4611686018427387904 → IntKind.i64.wrap (z : Int) = z := fun z hz => IntWalk.i64_in _ (by omega)
  have := hz _ hlt
  simpa using this
def ChI (H : AH) (f m : Nat) (k : Nat) (env : Env) (H' : AH) : Prop :=
  env 0 = some (.int .i64 (m / 2 ^ k : Nat)) ∧ env 4 = some (.int .i64 k) ∧ ∃ v S L, env 3 = some v ∧ WF H' ∧ OwnL (fun _ => False) H' T_int v L S ∧ L.length ≤ k ∧ L ++ chosenL (f - k) k (m / 2 ^ k) = chosenL f 0 m ∧ Keep [] H H' ∧ ∀ b ∈ S, H.next ≤ b
theorem chosen_spec {H : AH} {f m : Nat} (hm : m < 2 ^ f) (hf : f ≤ 62) : AFn Try.prog F_brute_chosen [.int .i64 m] H fun u H' => NewL H u (chosenL f 0 m) H' := by
  have hb : (2:Nat) ^ f ≤ 2 ^ 62 := Nat.pow_le_pow_right (by omega) hf
  refine AFn.enter mixed ir_brute_chosen_eq (by simp [ir_brute_chosen]) fun hw => ?_
  simp (disch := omega) [-getElem?_pos, if_pos, if_neg, decide_eq_true, decide_eq_false, ir_brute_chosen]
  refine wpC_use (loop_upto f (ChI H f m) (Q := fun e env H' => e = .exit 0 ∧ ∃ v, env 3 = some v ∧ NewL H v (chosenL f 0 m) H') ⟨by simp, by simp, _, [], [], rfl, hw, .nil, by simp, by simp, .refl, by simp⟩ ?_) ?_
  · rintro k env H' hk ⟨e0, e4, v, S, L, e3, hw', hA, hl, hL, hK, hS⟩
    have hle : m / 2 ^ k ≤ m := Nat.div_le_self _ _
    have hd : m / 2 ^ k / 2 = m / 2 ^ (k + 1) := by rw [Nat.div_div_eq_div_mul, Nat.pow_succ]
    generalize hx : m / 2 ^ k = x at *
    by_cases h0 : x = 0
    · subst h0
      simp (disch := omega) [-getElem?_pos, if_pos, if_neg, decide_eq_true, decide_eq_false, ir_brute_chosen_l0, e0, e3, e4]
      have : chosenL (f - k) k 0 = [] := by cases f - k <;> rfl
      rw [this, List.append_nil] at hL
      rw [← hL]
      exact ⟨S, hA, hK, hS⟩
    · have hkf : k < f := by
        have : k ≠ f := fun h => by subst h; rw [Nat.div_eq_of_lt hm] at hx; omega
        omega
      obtain ⟨g, hg⟩ : ∃ g, f - k = g + 1 := ⟨f - k - 1, by omega⟩
      have hch : chosenL (f - k) k x = (if x % 2 = 1 then [(k : Int)] else []) ++ chosenL (f - (k + 1)) (k + 1) (x / 2) := by
        rw [hg, show f - (k + 1) = g by omega]
        show (if x = 0 then [] else _) = _
        rw [if_neg h0]
      have ha1 := i64_and1 (a := x) (by omega)
      have ha2 := i64_shr1 (a := x)
      by_cases h1 : x % 2 = 1
      · obtain ⟨va, vc, H2, S', p1, w2, hA', k2, hS', _⟩ := push_int hw' hA hK hS (a := (k : Int)) (by unfold I64; omega) (by omega)
        have pE : elemsA (H'.alloc (.row [.int .i64 (k : Int)] T_int true)) 1 (.slice (some ⟨H'.next, 0, none⟩) 1 1) = some [.int .i64 (k : Int)] := elems_one rfl
        simp (disch := omega) [-getElem?_pos, if_pos, if_neg, decide_eq_true, decide_eq_false, ir_brute_chosen_l0, e0, e3, e4, ↓ha1, ↓ha2, pE, p1, h0, h1, IntWalk.i64_in]
        refine ⟨hkf, by simp [← hd], by simp, .slice va (L.length + 1) vc, S', L ++ [(k : Int)], by simp, w2, hA', by simp; omega, ?_, k2, hS'⟩
        rw [← hL, hch, if_pos h1, ← hd, List.append_assoc]
      · simp (disch := omega) [-getElem?_pos, if_pos, if_neg, decide_eq_true, decide_eq_false, ir_brute_chosen_l0, e0, e3, e4, ↓ha1, ↓ha2, h0, h1, IntWalk.i64_in]
        refine ⟨hkf, by simp [← hd], by simp, v, S, L, by simp [e3], hw', hA, by omega, ?_, hK, hS⟩
        rw [← hL, hch, if_neg h1, ← hd, List.nil_append]
  · rintro e env2 H' ⟨rfl, v, e3, hN⟩ hu
    obtain ⟨S, hA, _⟩ := id hN
    simp (disch := omega) [-getElem?_pos, if_pos, if_neg, decide_eq_true, decide_eq_false, e3, hA.cell]
    exact hN
def MaI (H : AH) (v : Value) (n : Nat) (L : List Int) (R : Option Nat) (k : Nat) (env : Env) (H' : AH) : Prop :=
  env 0 = some (.int .i64 n) ∧ env 10 = some v ∧ env 11 = some (.int .i64 L.length) ∧ env 12 = some (.int .i64 k) ∧ H' = H ∧ ∃ (o : Nat) (last : Int), env 6 = some (.int .i64 o) ∧ env 7 = some (.int .i64 last) ∧ -1 ≤ last ∧ last < n ∧ o < 2 ^ (last + 1).toNat ∧ (maskL n last (L.drop k)).map (o + ·) = R
def maskV (R : Option Nat) : Value := .tuple #[.int .i64 (R.getD 0 : Nat), .bool R.isSome]
theorem mask_spec {p : Nat → Prop} {H : AH} {v : Value} {L : List Int} {n : Nat} (hL : SlV p H v L) (hn : n ≤ 60) : AFn Try.prog F_brute_mask [.int .i64 n, v] H fun u H' => u = maskV (maskL n (-1) L) ∧ H' = H := by
  obtain ⟨va, vc, rfl⟩ := hL.slice
  have hLm := hL.max
  refine AFn.enter mixed ir_brute_mask_eq (by simp [ir_brute_mask]) fun hw => ?_
  simp (disch := omega) [-getElem?_pos, if_pos, if_neg, decide_eq_true, decide_eq_false, ir_brute_mask]
  refine loop_upto L.length (MaI H (.slice va L.length vc) n L (maskL n (-1) L)) ⟨by simp, by simp, by simp, by simp, rfl, 0, -1, by simp, by simp, by omega, by omega, by simp, by simp⟩ ?_
  rintro k env H' hk ⟨e0, e10, e11, e12, rfl, o, last, e6, e7, hl1, hl2, ho, hR⟩
  by_cases hkn : k < L.length
  · obtain ⟨b, off, sp, cap, cs, ev, q1, q2⟩ := ints_rd hL (by omega)
    obtain ⟨q3, q4⟩ := q2 k hkn
    cases ev
    rw [List.drop_eq_getElem_cons hkn] at hR
    generalize L[k] = x at *
    by_cases hx : x ≤ last ∨ (n : Int) ≤ x
    · rw [maskL, if_pos hx] at hR
      by_cases hx1 : x ≤ last
      · simp (disch := omega) [-getElem?_pos, if_pos, if_neg, decide_eq_true, decide_eq_false, ir_brute_mask_l0, e0, e10, e11, e12, e6, e7, q1, q3, hx1, IntWalk.i64_in]
        rw [← hR]; rfl
      · have hx2 : (n : Int) ≤ x := by omega
        simp (disch := omega) [-getElem?_pos, if_pos, if_neg, decide_eq_true, decide_eq_false, ir_brute_mask_l0, e0, e10, e11, e12, e6, e7, q1, q3, hx1, hx2, IntWalk.i64_in]
        rw [← hR]; rfl
    · rw [maskL, if_neg hx] at hR
      obtain ⟨d, rfl⟩ : ∃ d : Nat, x = d := ⟨x.toNat, by omega⟩
      have hdn : d < n := by omega
      have h2 : 2 ^ (last + 1).toNat ≤ 2 ^ d := Nat.pow_le_pow_right (by omega) (by omega)
      have hsh := i64_shl1 (k := d) (by omega)
      have h3 : (2 : Nat) ^ d < 2 ^ 60 := Nat.pow_lt_pow_right (by omega) (by omega)
      have hor := i64_nat_or (a := o) (b := 2 ^ d) (by omega) (by omega)
      have h4 : o ||| 2 ^ d = o + 2 ^ d := by
        have := Nat.two_pow_add_eq_or_of_lt (i := d) (b := o) (by omega) 1
        rw [Nat.mul_one, Nat.or_comm] at this
        omega
      rw [h4] at hor
      have h5 : (2 : Nat) ^ (d + 1) = 2 ^ d + 2 ^ d := by rw [Nat.pow_succ]; omega
      have h6 : ((d : Int) + 1).toNat = d + 1 := by omega
      have h7 : (d : Int).toNat = d := by omega
      rw [h7] at hR
      have h8 : o + 2 ^ d < 2 ^ ((d : Int) + 1).toNat := by rw [h6, h5]; omega
      generalize hwd : 2 ^ d = w at *
      have hx1 : ¬ (d : Int) ≤ last := by omega
      have hx2 : ¬ (n : Int) ≤ d := by omega
      simp (disch := omega) [-getElem?_pos, if_pos, if_neg, decide_eq_true, decide_eq_false, ir_brute_mask_l0, e0, e10, e11, e12, e6, e7, q1, q3, hx1, hx2, ↓hsh, ↓hor, IntWalk.i64_in]
      refine ⟨hkn, by simp [e0], by simp [e10], by simp [e11], by simp, rfl, o + w, d, by simp, by simp, by omega, by omega, h8, ?_⟩
      rw [← hR, Option.map_map]
      congr 1
      funext z
      simp; omega
  · obtain rfl : k = L.length := by omega
    simp (disch := omega) [-getElem?_pos, if_pos, if_neg, decide_eq_true, decide_eq_false, ir_brute_mask_l0, e10, e11, e12, e6]
    rw [List.drop_length] at hR
    rw [← hR]; rfl
end Go.Proofs.Ytlcddhgfkkjhkaa

set_option maxRecDepth 100000
namespace Go.Proofs.Ytlcddhgfkkjhkaa
open Go Go.Abs
def idxV (L : List Int) (y : Int) : Int := if y ∈ L then (L.idxOf y : Int) else -1
def IxI (H : AH) (v : Value) (L : List Int) (y : Int) (k : Nat) (env : Env) (H' : AH) : Prop :=
  env 0 = some v ∧ env 1 = some (.int .i64 y) ∧ env 7 = some (.int .i64 L.length) ∧ env 8 = some (.int .i64 k) ∧ H' = H ∧ y ∉ L.take k
theorem Index_spec {p : Nat → Prop} {H : AH} {v : Value} {L : List Int} {y : Int} (hL : SlV p H v L) : AFn Try.prog F_slices_Index_Lint_int [v, .int .i64 y] H fun u H' => u = .int .i64 (idxV L y) ∧ H' = H := by
  obtain ⟨va, vc, rfl⟩ := hL.slice
  have hLm := hL.max
  refine AFn.enter mixed ir_slices_Index_Lint_int_eq (by simp [ir_slices_Index_Lint_int]) fun hw => ?_
  simp (disch := omega) [-getElem?_pos, if_pos, if_neg, decide_eq_true, decide_eq_false, ir_slices_Index_Lint_int]
  refine loop_upto L.length (IxI H (.slice va L.length vc) L y) ⟨by simp, by simp, by simp, by simp, rfl, by simp⟩ ?_
  rintro k env H' hk ⟨e0, e1, e7, e8, rfl, hy⟩
  by_cases hkn : k < L.length
  · obtain ⟨b, off, sp, cap, cs, ev, q1, q2⟩ := ints_rd hL (by omega)
    obtain ⟨q3, q4⟩ := q2 k hkn
    cases ev
    by_cases hx : y = L[k]
    · have hi : idxV L y = k := by
        have hm : y ∈ L := by rw [hx]; exact List.getElem_mem hkn
        have : L.idxOf y = k := by
          have hs : L = L.take k ++ L[k] :: L.drop (k + 1) := by rw [List.getElem_cons_drop, List.take_append_drop]
          rw [hs, List.idxOf_append, if_neg hy, hx, List.idxOf_cons_self, List.length_take]; omega
        unfold idxV; rw [if_pos hm, this]
      generalize L[k] = x at *
      subst hx
      simp (disch := omega) [-getElem?_pos, if_pos, if_neg, decide_eq_true, decide_eq_false, ir_slices_Index_Lint_int_l0, e0, e1, e7, e8, q1, q3, hi, IntWalk.i64_in]
    · have hy' : y ∉ L.take (k + 1) := by
        rw [List.take_succ_eq_append_getElem hkn]; intro h; rcases List.mem_append.1 h with h | h; exact hy h; simp at h; exact hx h
      generalize L[k] = x at *
      simp (disch := omega) [-getElem?_pos, if_pos, if_neg, decide_eq_true, decide_eq_false, ir_slices_Index_Lint_int_l0, e0, e1, e7, e8, q1, q3, hx, IntWalk.i64_in]
      exact ⟨hkn, by simp [e0], by simp [e1], by simp [e7], by simp, rfl, hy'⟩
  · obtain rfl : k = L.length := by omega
    simp (disch := omega) [-getElem?_pos, if_pos, if_neg, decide_eq_true, decide_eq_false, ir_slices_Index_Lint_int_l0, e0, e1, e7, e8]
    rw [List.take_length] at hy
    unfold idxV; rw [if_neg hy]
def EqI (H : AH) (v w : Value) (A B : List Int) (k : Nat) (env : Env) (H' : AH) : Prop :=
  env 0 = some v ∧ env 1 = some w ∧ env 12 = some (.int .i64 A.length) ∧ env 13 = some (.int .i64 k) ∧ H' = H ∧ A.take k = B.take k
theorem Equal_spec {p : Nat → Prop} {H : AH} {v w : Value} {A B : List Int} (hA : SlV p H v A) (hB : SlV p H w B) : AFn Try.prog F_slices_Equal_Lint_int [v, w] H fun u H' => u = .bool (decide (A = B)) ∧ H' = H := by
  obtain ⟨va, vc, rfl⟩ := hA.slice
  obtain ⟨wa, wc, rfl⟩ := hB.slice
  have hAm := hA.max
  have hBm := hB.max
  refine AFn.enter mixed ir_slices_Equal_Lint_int_eq (by simp [ir_slices_Equal_Lint_int]) fun hw => ?_
  by_cases hl : A.length = B.length
  · simp (disch := omega) [-getElem?_pos, if_pos, if_neg, decide_eq_true, decide_eq_false, ir_slices_Equal_Lint_int, hl]
    rw [← hl]
    refine loop_upto A.length (EqI H (.slice va A.length vc) (.slice wa B.length wc) A B) ⟨by simp <;> omega, by simp <;> omega, by simp <;> omega, by simp, rfl, by simp⟩ ?_
    rintro k env H' hk ⟨e0, e1, e12, e13, rfl, hy⟩
    by_cases hkn : k < A.length
    · obtain ⟨b, off, sp, cap, cs, ev, q1, q2⟩ := ints_rd hA (by omega)
      obtain ⟨q3, q4⟩ := q2 k hkn
      cases ev
      obtain ⟨b2, off2, sp2, cap2, cs2, ev, r1, r2⟩ := ints_rd hB (by omega)
      have hkn2 : k < B.length := by omega
      obtain ⟨r3, r4⟩ := r2 k hkn2
      cases ev
      have t1 := List.take_succ_eq_append_getElem hkn
      have t2 := List.take_succ_eq_append_getElem hkn2
      by_cases hx : A[k] = B[k]
      · have hy' : A.take (k + 1) = B.take (k + 1) := by rw [t1, t2, hy, hx]
        generalize A[k] = x at *
        generalize B[k] = z at *
        subst hx
        simp (disch := omega) [-getElem?_pos, if_pos, if_neg, decide_eq_true, decide_eq_false, ir_slices_Equal_Lint_int_l0, e0, e1, e12, e13, q1, q3, r1, r3, hkn2, IntWalk.i64_in]
        exact ⟨hkn, by simp [e0], by simp [e1], by simp [e12], by simp, rfl, hy'⟩
      · have hne : A ≠ B := fun h => by subst h; exact hx rfl
        generalize A[k] = x at *
        generalize B[k] = z at *
        simp (disch := omega) [-getElem?_pos, if_pos, if_neg, decide_eq_true, decide_eq_false, ir_slices_Equal_Lint_int_l0, e0, e1, e12, e13, q1, q3, r1, r3, hx, hkn2, hne, IntWalk.i64_in]
    · obtain rfl : k = A.length := by omega
      simp (disch := omega) [-getElem?_pos, if_pos, if_neg, decide_eq_true, decide_eq_false, ir_slices_Equal_Lint_int_l0, e0, e1, e12, e13]
      rw [List.take_length, hl, List.take_length] at hy
      exact hy
  · simp (disch := omega) [-getElem?_pos, if_pos, if_neg, decide_eq_true, decide_eq_false, ir_slices_Equal_Lint_int, hl]
    exact fun h => hl (by rw [h])
end Go.Proofs.Ytlcddhgfkkjhkaa

set_option maxRecDepth 100000
namespace Go.Proofs.Ytlcddhgfkkjhkaa
open Go Go.Abs
theorem Delete_spec {H : AH} {v : Value} {L : List Int} {S : List Nat} {k : Nat} (hA : OwnL (fun _ => False) H T_int v L S) (hk : k < L.length) (hl : L.length ≤ 1000) : AFn Try.prog F_slices_Delete_Lint_int [v, .int .i64 k, .int .i64 ((k : Int) + 1)] H fun u H' => OwnL (fun _ => False) H' T_int u (L.eraseIdx k) S ∧ Keep S H H' := by
  refine AFn.enter mixed ir_slices_Delete_Lint_int_eq (by simp [ir_slices_Delete_Lint_int]) fun hw => ?_
  obtain ⟨cells, hO, hR, hp⟩ := hA
  obtain ⟨m, hm⟩ : ∃ m, L.length = k + 1 + m := ⟨L.length - (k + 1), by omega⟩
  have hc : cells = L.map (.int .i64) := by
    have hlen := hO.len
    simp only [sz_int, Nat.mul_one] at hlen
    apply List.ext_getElem (by simpa using hlen)
    intro i q1 q2
    obtain ⟨e, _⟩ := hR i (by omega)
    have : (chunk 1 i cells)[0]? = some (.int .i64 L[i]) := by
      have e' : chunk 1 i cells = [.int .i64 L[i]] := e
      rw [e']; rfl
    unfold chunk at this
    rw [List.getElem?_take_of_lt (by omega), List.getElem?_drop, Nat.mul_one, Nat.add_zero, List.getElem?_eq_getElem q1] at this
    simpa using this
  have hI : ∀ x ∈ L, I64 x := fun x hx => by
    obtain ⟨i, hi, rfl⟩ := List.getElem_of_mem hx
    exact (hR i hi).2
  rcases hO with ⟨rfl, h0, _, _⟩ | ⟨b, off, sp, cap, cs, rfl, rfl, hb, hlen, hcap, hcs, hsp⟩
  · omega
  simp only [sz_int, Nat.mul_one] at hlen hcs hsp
  rw [hm] at hcap
  have hx1 : ∀ i (h : i < L.length), cs[off + i]? = some (.int .i64 L[i]) := fun i h => by
    have : (L.map (Value.int IntKind.i64))[i]? = some (.int .i64 L[i]) := by rw [List.getElem?_map, List.getElem?_eq_getElem h]; rfl
    rw [← hc, hcs, List.getElem?_take_of_lt h, List.getElem?_drop] at this
    exact this
  have hbc := AH.cells_of hb
  obtain ⟨D, hD⟩ : ∃ D, D = (L.map (Value.int IntKind.i64)).drop (k + 1) := ⟨_, rfl⟩
  have hDi : ∀ i (h : i < m), D[i]? = some (.int .i64 (L[k + 1 + i]'(by omega))) := fun i h => by rw [hD, List.getElem?_drop, List.getElem?_map, List.getElem?_eq_getElem (show k + 1 + i < L.length by omega)]; rfl
  have hDl : D.length = m := by rw [hD]; simp; omega
  have hkm : ¬ (k : Int) = k + 1 := by omega
  have ht1 : ((k : Int) + (m : Int)).toNat = k + m := by omega
  have ht2 : ((k : Int) + 1 + (m : Int)).toNat = k + 1 + m := by omega
  have hkm1 : k + 1 + m - (k + m) = 1 := by omega
  have hz1 : zeros [Value.int .i64 0] 1 = [.int .i64 0] := rfl
  have hfin : ∀ {H1 : AH} {cs1 : List Value} {c : Nat}, H1.blk b = some (.row cs1 T_int true) → cs1.length = cs.length → (∀ i (h : i < k), cs1[off + i]? = some (.int .i64 (L[i]'(by omega)))) → (∀ i (h : i < m), cs1[off + k + i]? = some (.int .i64 (L[k + 1 + i]'(by omega)))) → Keep [b] H H1 →
      ∃ H2, writeA H1 b (off + (k + m)) [.int .i64 0] = some H2 ∧ OwnL (fun _ => False) H2 T_int (.slice (some ⟨b, off, sp⟩) (k + m) cap) (L.eraseIdx k) [b] ∧ Keep [b] H H2 := by
    intro H1 cs1 c h1 h2 h3 h4 h5
    have w := writeA_row (off := off + (k + m)) (news := [Value.int .i64 0]) h1
    rw [if_pos (by simp; omega)] at w
    refine ⟨_, w, ?_, h5.trans' ⟨Nat.le_refl _, fun a _ ha => AH.set_blk_ne (by simpa using ha)⟩⟩
    have hel : (L.eraseIdx k).length = k + m := by rw [List.length_eraseIdx_of_lt hk]; omega
    refine ⟨(L.eraseIdx k).map (.int .i64), .inr ⟨b, off, sp, cap, _, by rw [hel], rfl, AH.set_blk_same, by rw [over_length (by simp; omega)]; simp; omega, by omega, ?_, hsp⟩, fun i hi => ⟨?_, hI _ (List.mem_of_mem_eraseIdx (List.getElem_mem hi))⟩, by simp⟩
    · rw [hel]
      apply List.ext_getElem?
      intro i
      by_cases hi : i < k + m
      · rw [List.getElem?_take_of_lt (by simpa using hi), List.getElem?_drop, over_get' (by simp; omega), if_neg (by simp; omega), List.getElem?_map, List.getElem?_eraseIdx]
        by_cases hik : i < k
        · rw [if_pos hik, h3 i hik, List.getElem?_eq_getElem (by omega)]; rfl
        · rw [if_neg hik]
          have := h4 (i - k) (by omega)
          rw [show off + k + (i - k) = off + i by omega] at this
          rw [this, List.getElem?_eq_getElem (by omega)]
          have : k + 1 + (i - k) = i + 1 := by omega
          simp [this]
      · rw [List.getElem?_eq_none (by simp; omega), List.getElem?_eq_none (by simp; omega)]
    · show chunk 1 i _ = _
      unfold chunk
      rw [Nat.mul_one]
      have : i < ((L.eraseIdx k).map (Value.int IntKind.i64)).length := by simpa using hi
      rw [List.drop_eq_getElem_cons this]
      simp
  rw [hm]
  by_cases hm0 : m = 0
  · subst hm0
    obtain ⟨H2, w2, r1, r2⟩ := hfin (c := 0) hb rfl (fun i h => hx1 i (by omega)) (fun i h => absurd h (by omega)) .refl
    simp only [Nat.add_zero] at w2 r1
    rcases hsp with rfl | rfl
    · by_cases hck : cap = k + 1
      · subst hck
        simp (disch := omega) [-getElem?_pos, if_pos, if_neg, decide_eq_true, decide_eq_false, ir_slices_Delete_Lint_int, hkm, elemsA, appendA, hz1, w2, IntWalk.i64_in]
        exact ⟨r1, r2⟩
      · simp (disch := omega) [-getElem?_pos, if_pos, if_neg, decide_eq_true, decide_eq_false, ir_slices_Delete_Lint_int, hck, hkm, elemsA, appendA, hz1, w2, IntWalk.i64_in]
        exact ⟨r1, r2⟩
    · simp (disch := omega) [-getElem?_pos, if_pos, if_neg, decide_eq_true, decide_eq_false, ir_slices_Delete_Lint_int, hkm, elemsA, appendA, hz1, w2, IntWalk.i64_in]
      exact ⟨r1, r2⟩
  · have hE : ∀ sp' c', elemsA H 1 (.slice (some ⟨b, off + (k + 1), sp'⟩) m c') = some D := fun sp' c' => by
      simp only [elemsA, hm0, if_false, hbc, Option.bind_some, Nat.mul_one]
      rw [cut_eq (by omega)]
      congr 1
      apply List.ext_getElem?
      intro i
      by_cases hi : i < m
      · rw [List.getElem?_take_of_lt hi, List.getElem?_drop, hDi i hi, ← hx1 (k + 1 + i) (by omega)]; congr 1; omega
      · rw [List.getElem?_eq_none (by simp; omega), List.getElem?_eq_none (by omega)]
    have hP : appendA H T_int 1 8 (.slice (some ⟨b, off, sp⟩) k cap) m D = some (.slice (some ⟨b, off, sp⟩) (k + m) cap, H.set b (.row (over cs (off + k) D) T_int true)) := by
      simp only [appendA, hm0, if_false]
      rw [if_pos (by omega), Nat.mul_one, writeA_of hb (by omega)]; rfl
    have hck : ¬ cap = k + 1 := by omega
    obtain ⟨H2, w2, r1, r2⟩ := hfin (c := 0) (H1 := H.set b (.row (over cs (off + k) D) T_int true)) AH.set_blk_same (over_length (by omega)) (fun i h => by rw [over_get' (by omega), if_neg (by omega)]; exact hx1 i (by omega)) (fun i h => by rw [over_get' (by omega), if_pos (by omega), show off + k + i - (off + k) = i by omega]; exact hDi i h) ⟨Nat.le_refl _, fun a _ ha => AH.set_blk_ne (by simpa using ha)⟩
    rcases hsp with rfl | rfl
    · simp (disch := omega) [-getElem?_pos, if_pos, if_neg, decide_eq_true, decide_eq_false, ir_slices_Delete_Lint_int, hck, hkm, hE, hP, ht1, ht2, hkm1, hz1, w2, IntWalk.i64_in]
      exact ⟨r1, r2⟩
    · simp (disch := omega) [-getElem?_pos, if_pos, if_neg, decide_eq_true, decide_eq_false, ir_slices_Delete_Lint_int, hkm, hE, hP, ht1, ht2, hkm1, hz1, w2, IntWalk.i64_in]
      exact ⟨r1, r2⟩
end Go.Proofs.Ytlcddhgfkkjhkaa

set_option maxRecDepth 100000
namespace Go.Proofs.Ytlcddhgfkkjhkaa
open Go Go.Abs
theorem prod_fac : ∀ {N : Nat}, N < 10 → prodI (fun k => (k : Int) + 1) N = (fac N : Int) := by
  have h : ∀ N : Fin 10, prodI (fun k => (k : Int) + 1) N.1 = (fac N.1 : Int) := by decide
  exact fun {N} hN => h ⟨N, hN⟩
theorem i64_quo_nat {a b : Nat} (ha : a < 4611686018427387904) (hb : 0 < b) : abin .quo (.int .i64 a) (.int .i64 b) = some (.int .i64 ((a / b : Nat) : Int)) := by
  simp only [abin]
  rw [if_neg (by simp), if_neg (by omega), IntWalk.i64_quo _ _ (by omega)]
  norm_cast
theorem i64_rem_nat {a b : Nat} (hb : 0 < b) : abin .rem (.int .i64 a) (.int .i64 b) = some (.int .i64 ((a % b : Nat) : Int)) := by
  simp only [abin]
  rw [if_neg (by simp), if_neg (by omega), Int.tmod_eq_emod_of_nonneg (by omega)]
  norm_cast
theorem part_spec {H1 H2 : AH} {u : Value} {n : Nat} {z : Int} (hz : z = n) (hn : n < 10) (hu : u = .func (.func F_brute_upTo_1) #[] #[.pointer (some ⟨H1.next, 0, none⟩)] ∧ H2 = H1.alloc (.row [.int .i64 z] T_int true)) :
    AFn Try.prog F_brute_times [u] H2 fun u H' => u = .int .i64 (fac n) ∧ Keep [] H1 H' := by
  obtain ⟨rfl, rfl⟩ := hu
  subst hz
  refine (times_spec good_brute_upTo_1 (upTo_walk (N := n) (by omega)) AH.cells_alloc_new).mono' fun u H4 w4 ⟨hu, hk⟩ => ?_
  rw [prod_fac hn] at hu
  exact ⟨hu, .trans' .alloc hk⟩
def OrI (H : AH) (f : Nat) (R : List Int) (k : Nat) (env : Env) (H' : AH) : Prop :=
  ∃ v w O L S T, ∃ pl : Nat, env 7 = some v ∧ env 8 = some w ∧ env 2 = some (.int .i64 pl) ∧ WF H' ∧ Keep [] H H' ∧ OwnL (fun _ => False) H' T_int v O S ∧ OwnL (fun _ => False) H' T_int w L T ∧ (∀ b ∈ S, H.next ≤ b) ∧ (∀ b ∈ T, H.next ≤ b) ∧ (∀ b ∈ S, b ∉ T) ∧
    O ++ orderL (f - k) L pl = R ∧ L.length = f - k ∧ pl < fac (f - k) ∧ O.length ≤ 100 + k
theorem order_spec {H : AH} {n a pl : Nat} (hn : n ≤ 100) (hf : n - a < 10) (ha : a ≤ n) (hpl : pl < fac (n - a)) : AFn Try.prog F_brute_order [.int .i64 n, .int .i64 a, .int .i64 pl] H fun u H' => NewL H u (restL 0 a ++ orderL (n - a) (restL a n) pl) H' := by
  refine AFn.enter mixed ir_brute_order_eq (by simp [ir_brute_order]) fun hw => ?_
  simp (disch := omega) [-getElem?_pos, if_pos, if_neg, decide_eq_true, decide_eq_false, ir_brute_order]
  refine (rest_spec (a := 0) (n := a) (by omega)).mono' fun v H1 w1 ⟨S, hA, k1, hS⟩ => ?_
  obtain ⟨va, vc, rfl⟩ := hA.slice
  simp (disch := omega) [-getElem?_pos, if_pos, if_neg, decide_eq_true, decide_eq_false, ]
  refine (rest_spec (a := a) (n := n) (by omega)).mono' fun w H2 w2 ⟨T, hB, k2, hT⟩ => ?_
  obtain ⟨wa, wc, rfl⟩ := hB.slice
  have hn1 := k1.next
  have hST : ∀ b ∈ S, b ∉ T := fun b hb h => by have := hA.lt w1 b hb; have := hT b h; omega
  simp (disch := omega) [-getElem?_pos, if_pos, if_neg, decide_eq_true, decide_eq_false, ]
  refine wpC_use (loop_upto (n - a) (OrI H (n - a) (restL 0 a ++ orderL (n - a) (restL a n) pl)) (Q := fun e env H' => e = .exit 0 ∧ ∃ v, env 7 = some v ∧ NewL H v (restL 0 a ++ orderL (n - a) (restL a n) pl) H') ⟨_, _, restL 0 a, restL a n, S, T, pl, by simp, by simp, by simp, w2, k1.trans' k2, hA.kept w1 k2, hB, hS, fun b hb => by have := hT b hb; omega, hST, rfl, restL_len, hpl, by rw [restL_len]; omega⟩ ?_) ?_
  · generalize hR : restL 0 a ++ orderL (n - a) (restL a n) pl = R
    generalize n - a = f at *
    rintro k env H' hk ⟨v, w, O, L, S, T, pl, e7, e8, e2, w', k', hO, hL, hS, hT, hST, hRR, hl, hp, hOl⟩
    obtain ⟨wa, wc, rfl⟩ := hL.slice
    obtain ⟨va, vc, rfl⟩ := hO.slice
    by_cases hkf : k < f
    · obtain ⟨g, hg⟩ : ∃ g, f - k = g + 1 := ⟨f - k - 1, by omega⟩
      rw [hg] at hRR hl hp
      obtain ⟨x, L1, rfl⟩ : ∃ x L1, L = x :: L1 := by cases L with | nil => simp at hl | cons x L1 => exact ⟨x, L1, rfl⟩
      have hl1 : L1.length = g := by simpa using hl
      have hor : orderL (g + 1) (x :: L1) pl = (x :: L1).getD (pl / fac g) 0 :: orderL g ((x :: L1).eraseIdx (pl / fac g)) (pl % fac g) := by rw [← hl1]; rfl
      have hfp := fac_pos g
      have hq : pl / fac g < (x :: L1).length := by
        rw [hl, Nat.div_lt_iff_lt_mul hfp]; exact hp
      have hgg : (x :: L1).getD (pl / fac g) 0 = (x :: L1)[pl / fac g] := by
        rw [List.getD_eq_getElem?_getD, List.getElem?_eq_getElem hq]; rfl
      have hpb : pl < 4611686018427387904 := by
        have h9 : ∀ N : Fin 10, fac (N.1 + 1) ≤ 4611686018427387904 := by decide
        have := h9 ⟨g, by omega⟩
        simp at this; omega
      have qq := i64_quo_nat (a := pl) (b := fac g) hpb hfp
      have qr := i64_rem_nat (a := pl) (b := fac g) hfp
      have hmod := Nat.mod_lt pl hfp
      have hfac : fac (g + 1) = (g + 1) * fac g := rfl
      have hg10 : g < 10 := by omega
      simp (disch := omega) [-getElem?_pos, if_pos, if_neg, decide_eq_true, decide_eq_false, ir_brute_order_l0, e7, e8, e2, List.length_cons, hl1, IntWalk.i64_in]
      refine (upTo_spec _).mono' fun u H1 w1 hu => ?_
      simp (disch := omega) [-getElem?_pos, if_pos, if_neg, decide_eq_true, decide_eq_false, ]
      refine (part_spec (n := g) rfl hg10 hu).mono' fun u2 H2 w2 ⟨hu2, hk2⟩ => ?_
      subst hu2
      have hO2 := hO.kept w' hk2
      have hL2 := hL.kept w' hk2
      obtain ⟨b, off, sp, cap, cs, ev, q1, q2⟩ := ints_rd (hL2.slv (q := fun _ => True) (fun _ _ => trivial) (fun _ _ => trivial) (by omega)) (by simp)
      obtain ⟨q3, q4⟩ := q2 _ hq
      cases ev
      obtain ⟨va', vc', H3, S', p1, w3, hO3, k3, hS', kk3, i3⟩ := push_int w2 hO2 (k'.trans' hk2) hS (a := (x :: L1)[pl / fac g]) q4 (by omega)
      have pE : elemsA (H2.alloc (.row [.int .i64 (x :: L1)[pl / fac g]] T_int true)) 1 (.slice (some ⟨H2.next, 0, none⟩) 1 1) = some [.int .i64 (x :: L1)[pl / fac g]] := elems_one rfl
      rw [hgg] at hor
      rw [hor] at hRR
      generalize (x :: L1)[pl / fac g] = y at *
      generalize hF : fac g = F at *
      have hpF : pl / F < g + 1 := by simpa [hl1] using hq
      generalize hq1 : pl / F = qt at *
      simp (disch := omega) [-getElem?_pos, if_pos, if_neg, decide_eq_true, decide_eq_false, hu.1, e7, e8, e2, List.length_cons, hl1, ↓qq, ↓qr, q1, q3, pE, p1, hpF, IntWalk.i64_in]
      have hLn := hL2.lt w2
      have hL3 := hL2.keep w2 kk3 (fun _ _ h => h.elim) (fun b hb h => hST b h hb)
      have hST3 : ∀ b ∈ S', b ∉ T := fun b hb h => by
        rcases i3 b hb with h' | h'
        · exact hST b h' h
        · have := hLn b h; omega
      rw [List.length_cons, hl1] at hL3
      refine (Delete_spec hL3 (k := qt) (by simp [hl1]; omega) (by simp; omega)).mono' fun u H4 w4 ⟨hL4, k4⟩ => ?_
      have hO4 := hO3.keep w3 k4 (fun _ _ h => h.elim) (fun b hb => hST3 b hb)
      have hlen4 : ((x :: L1).eraseIdx qt).length = g := by rw [List.length_eraseIdx_of_lt (by simp [hl1]; omega)]; simp [hl1]
      simp (disch := omega) [-getElem?_pos, if_pos, if_neg, decide_eq_true, decide_eq_false, ]
      refine ⟨hkf, _, _, O ++ [y], (x :: L1).eraseIdx qt, S', T, pl % F, by simp, by simp, by simp, w4, ?_, hO4, hL4, hS', hT, hST3, ?_, ?_, ?_, by simp; omega⟩
      · exact k3.trans k4 fun b hb hlt => by have := hT b hb; omega
      · rw [List.append_assoc, show f - (k + 1) = g by omega]; exact hRR
      · rw [hlen4]; omega
      · rw [show f - (k + 1) = g by omega, hF]; exact hmod
    · obtain rfl : k = f := by omega
      simp (disch := omega) [-getElem?_pos, if_pos, if_neg, decide_eq_true, decide_eq_false, ir_brute_order_l0, e7, e8, e2, hl]
      rw [Nat.sub_self] at hRR
      rw [← hRR]
      show NewL H _ (O ++ []) H'
      rw [List.append_nil]
      exact ⟨S, hO, k', hS⟩
  · rintro e env2 H' ⟨rfl, v, e7, hN⟩ hu
    obtain ⟨S, hA, _⟩ := id hN
    simp (disch := omega) [-getElem?_pos, if_pos, if_neg, decide_eq_true, decide_eq_false, e7, hA.cell]
    exact hN
end Go.Proofs.Ytlcddhgfkkjhkaa

set_option maxRecDepth 100000
namespace Go.Proofs.Ytlcddhgfkkjhkaa
open Go Go.Abs
theorem keep_grow {H H' : AH} (hw : WF H) (hk : Keep [] H H') : Grow H H' := fun b B hb => by rw [hk.blk b (hw b B hb) (by simp)]; exact hb
def fix1 (k : Int) : Nat := if k = 2 then 1 else 0
theorem fixed_spec {H : AH} (k : Int) : AFn Try.prog F_brute_fixed [.int .i64 k] H fun u H' => u = .int .i64 (fix1 k) ∧ H' = H := by
  refine AFn.enter mixed ir_brute_fixed_eq (by simp [ir_brute_fixed]) fun hw => ?_
  unfold fix1
  by_cases h : k = 2 <;> simp (disch := omega) [-getElem?_pos, if_pos, if_neg, decide_eq_true, decide_eq_false, ir_brute_fixed, h]
theorem prod_stay {f : Nat → Int} (hf : ∀ k, 1 ≤ f k) {N : Nat} (h : prodI f N = 1048577) : ∀ {M : Nat}, N ≤ M → prodI f M = 1048577
  | M, hNM => by
    induction M with
    | zero => obtain rfl : N = 0 := by omega
              exact h
    | succ M ih =>
      by_cases hM : N = M + 1
      · rw [← hM]; exact h
      · have := ih (by omega)
        have h1 := hf M
        show (if prodI f M * f M < 1048577 then prodI f M * f M else 1048577) = 1048577
        rw [this, if_neg (by omega)]
theorem prod_fac_le {N : Nat} (h : prodI (fun k => (k : Int) + 1) N ≤ 1048576) : N < 10 := by
  have h10 : prodI (fun k => (k : Int) + 1) 10 = 1048577 := by decide
  by_cases hN : N < 10
  · exact hN
  · rw [prod_stay (fun k => by omega) h10 (by omega)] at h; omega
theorem prod_two_le {N : Nat} (h : prodI (fun _ => 2) N ≤ 1048576) : N < 21 ∧ prodI (fun _ => 2) N = ((2 ^ N : Nat) : Int) := by
  have h21 : prodI (fun _ => 2) 21 = 1048577 := by decide
  have h20 : ∀ N : Fin 21, prodI (fun _ => 2) N.1 = ((2 ^ N.1 : Nat) : Int) := by decide
  by_cases hN : N < 21
  · exact ⟨hN, h20 ⟨N, hN⟩⟩
  · rw [prod_stay (fun k => by omega) h21 (by omega)] at h; omega
theorem count_sub {x : InstD} (hc : x.countE = 0) (hk : x.kind = 0 ∨ x.kind = 3) : x.Ok ∧ ∃ N : Nat, N < 21 ∧ x.n = (N : Int) ∧ x.count = ((2 ^ N : Nat) : Int) := by
  unfold InstD.countE at hc
  split at hc
  · rename_i h0
    have hok := InstD.check_ok.1 h0
    split at hc
    · omega
    · rename_i hm
      have hr := InstD.n_range hok
      have h1 : x.many = prodI (fun _ => 2) x.n.toNat := by unfold InstD.many; simp only [hk, if_true]
      have h2 := prod_two_le (N := x.n.toNat) (by rw [← h1]; omega)
      refine ⟨hok, x.n.toNat, h2.1, by omega, ?_⟩
      unfold InstD.count
      rw [if_pos h0, if_neg hm, h1, h2.2]
  · rename_i h0; exact absurd hc h0
theorem count_ord {x : InstD} (hc : x.countE = 0) (hk : ¬ (x.kind = 0 ∨ x.kind = 3)) : x.Ok ∧ fix1 x.kind ≤ x.cost.length ∧ x.cost.length - fix1 x.kind < 10 ∧ x.count = (fac (x.cost.length - fix1 x.kind) : Int) ∧ x.cost.length ≤ 64 := by
  unfold InstD.countE at hc
  split at hc
  · rename_i h0
    have hok := InstD.check_ok.1 h0
    split at hc
    · omega
    · rename_i hm
      have hr := InstD.n_range hok
      have k0 := hok.kind0
      have k4 := hok.kind4
      have hsq := hok.few.sq (by omega)
      have hn : x.n.toNat = x.cost.length - fix1 x.kind := by
        unfold InstD.n fix1
        rw [if_pos h0]
        by_cases k1 : x.kind = 1
        · simp [k1]
        · have k2 : x.kind = 2 := by omega
          simp [k2]
      have h1 : x.many = prodI (fun k => (k : Int) + 1) x.n.toNat := by unfold InstD.many; simp only [hk, if_false]
      have h2 := prod_fac_le (N := x.n.toNat) (by rw [← h1]; omega)
      refine ⟨hok, ?_, by omega, ?_, hsq.2⟩
      · unfold fix1; split <;> omega
      · unfold InstD.count
        rw [if_pos h0, if_neg hm, h1, prod_fac h2, hn]
  · rename_i h0; exact absurd hc h0
def _root_.Go.Abs.InstD.at (x : InstD) (k : Nat) : List Int :=
  if x.kind = 0 ∨ x.kind = 3 then chosenL 20 0 k else restL 0 (fix1 x.kind) ++ orderL (x.cost.length - fix1 x.kind) (restL (fix1 x.kind) x.cost.length) k
theorem At_spec {H : AH} {v : Value} {x : InstD} {k : Nat} (hx : InstV (fun b => b < H.next) H v x) (hc : x.countE = 0) (hk : (k : Int) < x.count) : AFn Try.prog F_brute_At [v, .int .i64 k] H fun u H' => ∃ w, u = .tuple #[w, .int .i64 0] ∧ NewL H w (x.at k) H' := by
  obtain ⟨iv, cv, sv, rfl, i1, i2, i3, h1, h2, h3⟩ := id hx
  refine AFn.enter mixed ir_brute_At_eq (by simp [ir_brute_At]) fun hw => ?_
  have bc : (H.alloc (.row (instC x iv cv sv) T_inst_Inst true)).cells H.next = some (instC x iv cv sv) := AH.cells_alloc_new
  have hx1 := (hx.kept hw (.alloc (B := .row (instC x iv cv sv) T_inst_Inst true))).any
  have w1 := WF.alloc hw (B := .row (instC x iv cv sv) T_inst_Inst true)
  have k1 : Keep [] H (H.alloc (.row (instC x iv cv sv) T_inst_Inst true)) := .alloc
  generalize hq : H.next = q at *
  simp (disch := omega) [-getElem?_pos, if_pos, if_neg, decide_eq_true, decide_eq_false, ir_brute_At, hq, inst_cut]
  generalize H.alloc (.row (instC x iv cv sv) T_inst_Inst true) = H1 at *
  refine AFn.pure (Count_spec hx1) ?_
  have hk2 : ¬ x.count ≤ (k : Int) := by omega
  simp (disch := omega) [-getElem?_pos, if_pos, if_neg, decide_eq_true, decide_eq_false, hc, hk, hk2, bc, inst_cut]
  refine AFn.pure (subsets_spec _) ?_
  by_cases hs : x.kind = 0 ∨ x.kind = 3
  · obtain ⟨hok, N, hN, hn, hcn⟩ := count_sub hc hs
    rw [hcn] at hk
    have hp : (2 : Nat) ^ N ≤ 2 ^ 20 := Nat.pow_le_pow_right (by omega) (by omega)
    simp (disch := omega) [-getElem?_pos, if_pos, if_neg, decide_eq_true, decide_eq_false, hs]
    refine (chosen_spec (m := k) (f := 20) (by omega) (by omega)).mono' fun u H2 w2 hN2 => ?_
    obtain ⟨S, hA, k2, hS⟩ := id hN2
    simp (disch := omega) [-getElem?_pos, if_pos, if_neg, decide_eq_true, decide_eq_false, hA.cell]
    have : x.at k = chosenL 20 0 k := by unfold InstD.at; rw [if_pos hs]
    rw [this]
    have := k1.next
    exact ⟨S, hA, k1.trans' k2, fun b hb => by have := hS b hb; omega⟩
  · obtain ⟨hok, hf1, hf2, hcn, hcl⟩ := count_ord hc hs
    rw [hcn] at hk
    obtain ⟨ca, cc, rfl⟩ := h2.slice
    simp (disch := omega) [-getElem?_pos, if_pos, if_neg, decide_eq_true, decide_eq_false, hs, bc]
    refine AFnD.of (fixed_spec _) ?_
    simp (disch := omega) [-getElem?_pos, if_pos, if_neg, decide_eq_true, decide_eq_false, ]
    refine AFnD.from (order_spec (n := x.cost.length) (a := fix1 x.kind) (pl := k) (by omega) hf2 hf1 (by omega)) fun u H2 w2 hN2 => ?_
    obtain ⟨S, hA, k2, hS⟩ := id hN2
    refine ⟨keep_grow w1 k2, ?_⟩
    simp (disch := omega) [-getElem?_pos, if_pos, if_neg, decide_eq_true, decide_eq_false, hA.cell]
    have : x.at k = restL 0 (fix1 x.kind) ++ orderL (x.cost.length - fix1 x.kind) (restL (fix1 x.kind) x.cost.length) k := by unfold InstD.at; rw [if_neg hs]
    rw [this]
    have := k1.next
    exact ⟨S, hA, k1.trans' k2, fun b hb => by have := hS b hb; omega⟩
end Go.Proofs.Ytlcddhgfkkjhkaa

namespace Go.Abs
open Go
def slB (H : AH) (sz : Nat) (v lo : Option Value) : Option (Value × AH) :=
  match v, lo with
  | some (.slice none 0 0), some (.int _ i) => if 0 ≤ i ∧ i ≤ 0 then some (.slice none 0 0, H) else none
  | some (.slice (some ⟨b, off, none⟩) n cap), some (.int _ i) => if 0 ≤ i ∧ i ≤ (n : Int) then some (.slice (some ⟨b, if cap = i.toNat then off else off + i.toNat * sz, none⟩) (n - i.toNat) (cap - i.toNat), H) else none
  | some (.slice (some ⟨b, off, some t⟩) n cap), some (.int _ i) => if 0 ≤ i ∧ i ≤ (n : Int) then (if t = sz then some (.slice (some ⟨b, off + i.toNat * sz, some t⟩) (n - i.toNat) (cap - i.toNat), H) else none) else none
  | _, _ => none
theorem ieval_sllo {env : Env} {H : AH} {sz : Nat} {x lo : Operand} : ieval (.sl sz x (some lo) none none) env H = slB H sz (aval env x) (aval env lo) := by
  simp only [ieval, boundsA, boundA]
  generalize aval env x = v
  generalize aval env lo = h
  cases v with
  | none => rfl
  | some v =>
    cases v <;> try rfl
    rename_i a n c
    cases a with
    | none =>
      cases n <;> cases c <;> try rfl
      cases h with
      | none => rfl
      | some h =>
        cases h <;> try rfl
        rename_i k i
        by_cases hi : 0 ≤ i ∧ i ≤ 0 <;> simp [slB, hi]
    | some a =>
      obtain ⟨b, off, sp⟩ := a
      cases h with
      | none => cases sp <;> rfl
      | some h =>
        cases h <;> try (cases sp <;> rfl)
        rename_i k i
        cases sp with
        | none => by_cases hi : 0 ≤ i ∧ i ≤ (n : Int) <;> simp [slB, hi]
        | some t => by_cases hi : 0 ≤ i ∧ i ≤ (n : Int) <;> simp [slB, hi]
theorem Vw.dr {p : Nat → Prop} {H : AH} {sz n : Nat} {v : Value} {cells : List Value} (h : Vw p H sz v n cells) (h0 : SpOk sz v) {m : Nat} (hm : m ≤ n) : ∃ w, slB H sz (some v) (some (.int .i64 m)) = some (w, H) ∧ Vw p H sz w (n - m) (cells.drop (m * sz)) ∧ SpOk sz w := by
  obtain ⟨hlen, ⟨hn, a, c, rfl, hac⟩ | ⟨b, off, sp, cap, cs, rfl, h1, h2, h3, h4, h5⟩⟩ := id h
  · subst hn
    obtain rfl : m = 0 := by omega
    have hw : ∀ a c, (a = none → c = 0) → Vw p H sz (.slice a 0 c) 0 (cells.drop (0 * sz)) := fun a c hac => ⟨by simp at hlen; simp [hlen], .inl ⟨rfl, a, c, rfl, hac⟩⟩
    cases a with
    | none =>
      obtain rfl := hac rfl
      exact ⟨.slice none 0 0, by simp [slB], hw _ _ fun _ => rfl, .nil⟩
    | some a =>
      obtain ⟨b, off, sp⟩ := a
      rcases h0 _ _ _ _ _ rfl with rfl | rfl
      · exact ⟨.slice (some ⟨b, off, none⟩) 0 c, by simp [slB], hw _ _ (fun h => by cases h), .of (.inl rfl)⟩
      · exact ⟨.slice (some ⟨b, off, some sz⟩) 0 c, by simp [slB], hw _ _ (fun h => by cases h), .of (.inr rfl)⟩
  · have hlen2 : (cells.drop (m * sz)).length = (n - m) * sz := by rw [List.length_drop, hlen, Nat.sub_mul]
    have hcut : cut cs (off + m * sz) ((n - m) * sz) = some (cells.drop (m * sz)) := by
      obtain ⟨q1, q2, q3, q4⟩ := cut_spec h4
      have := Nat.mul_le_mul_right sz hm
      rw [cut_eq (by rw [Nat.sub_mul]; omega), q2, Nat.sub_mul, List.drop_take, List.drop_drop]
    rcases h2 with rfl | rfl
    · refine ⟨.slice (some ⟨b, if cap = m then off else off + m * sz, none⟩) (n - m) (cap - m), ?_, ⟨hlen2, ?_⟩, .of (.inl rfl)⟩
      · simp only [slB]
        rw [if_pos (by omega)]; simp
      · by_cases hnm : n - m = 0
        · exact .inl ⟨hnm, _, _, by rw [hnm], fun h => by cases h⟩
        · rw [if_neg (by omega)]
          exact .inr ⟨b, _, none, _, cs, rfl, by omega, .inl rfl, h3, hcut, h5⟩
    · refine ⟨.slice (some ⟨b, off + m * sz, some sz⟩) (n - m) (cap - m), ?_, ⟨hlen2, .inr ⟨b, _, _, _, cs, rfl, by omega, .inr rfl, h3, hcut, h5⟩⟩, .of (.inr rfl)⟩
      simp only [slB]
      rw [if_pos (by omega)]; simp
theorem SlV.dr {α : Type} [Ren α] {p : Nat → Prop} {H : AH} {v : Value} {l : List α} (h : SlV p H v l) {m : Nat} (hm : m ≤ l.length) : ∃ w, slB H (Ren.sz α) (some v) (some (.int .i64 m)) = some (w, H) ∧ SlV p H w (l.drop m) := by
  obtain ⟨⟨h1, h0⟩, cells, h2, h3⟩ := h
  obtain ⟨w, q1, q2, q3⟩ := h2.dr h0 hm
  have hkl : (l.drop m).length = l.length - m := by rw [List.length_drop]
  refine ⟨w, q1, ⟨by omega, q3⟩, cells.drop (m * Ren.sz α), by rw [hkl]; exact q2, fun i hi => ?_⟩
  rw [hkl] at hi
  rw [chunk_drop, List.getElem_drop]
  exact h3 (m + i) (by omega)
end Go.Abs

set_option maxRecDepth 100000
namespace Go.Proofs.Ytlcddhgfkkjhkaa
open Go Go.Abs
theorem restL_i64 {a n : Nat} : True := trivial
def placeO (n a : Nat) (X : List Int) : Option Nat := if X.length = n ∧ X.take a = restL 0 a then placeL (restL a n) (X.drop a) else none
def PlI (H : AH) (q : Nat) (xv : Value) (X L0 : List Int) (R : Option Nat) (k : Nat) (env : Env) (H' : AH) : Prop :=
  env 31 = some xv ∧ env 32 = some (.int .i64 X.length) ∧ env 33 = some (.int .i64 k) ∧ WF H' ∧ Keep [] H H' ∧
    ∃ w L T, ∃ o : Nat, env 8 = some (.int .i64 o) ∧ env 9 = some w ∧ OwnL (fun _ => False) H' T_int w L T ∧ (∀ b ∈ T, H.next ≤ b) ∧ L.length + k = q ∧ o ≤ 4000000 * k ∧ (placeL L (X.drop k)).map (o + ·) = R
theorem fac_le : ∀ {g : Nat}, g < 10 → fac g ≤ 362880 := by
  have h9 : ∀ N : Fin 10, fac N.1 ≤ 362880 := by decide
  exact fun {g} hg => h9 ⟨g, hg⟩
theorem place_spec {H : AH} {v : Value} {X : List Int} {n a : Nat} (hX : SlV (fun b => b < H.next) H v X) (hn : n ≤ 100) (hf : n - a < 10) (ha : a ≤ n) : AFn Try.prog F_brute_place [.int .i64 n, .int .i64 a, v] H fun u H' => u = maskV (placeO n a X) ∧ Keep [] H H' := by
  obtain ⟨va, vc, rfl⟩ := hX.slice
  have hXm := hX.max
  refine AFn.enter mixed ir_brute_place_eq (by simp [ir_brute_place]) fun hw => ?_
  by_cases hl : X.length = n
  · subst hl
    obtain ⟨x1, sl1, hx1⟩ := hX.sl (m := a) (by omega)
    simp only [sz_int] at sl1
    simp (disch := omega) [-getElem?_pos, if_pos, if_neg, decide_eq_true, decide_eq_false, ir_brute_place, ↓ieval_slhi, ↓ieval_sllo, sl1]
    refine AFnD.from (rest_spec (a := 0) (n := a) (by omega)) fun w H1 w1 ⟨S, hA, k1, hS⟩ => ⟨keep_grow hw k1, ?_⟩
    simp (disch := omega) [-getElem?_pos, if_pos, if_neg, decide_eq_true, decide_eq_false, ]
    refine AFnD.of (Equal_spec (hx1.kept hw k1).any (hA.slv (q := fun _ => True) (fun _ _ => trivial) (fun _ _ => trivial) (by rw [restL_len]; omega))) ?_
    by_cases he : X.take a = restL 0 a
    · simp (disch := omega) [-getElem?_pos, if_pos, if_neg, decide_eq_true, decide_eq_false, he]
      refine (rest_spec (a := a) (n := X.length) (by omega)).mono' fun w H2 w2 ⟨T, hB, k2, hT⟩ => ?_
      have k12 := k1.trans' k2
      have hX2 := hX.kept hw k12
      obtain ⟨x2, sl2, hx2⟩ := hX2.dr (m := a) (by omega)
      obtain ⟨wa, wc, rfl⟩ := hB.slice
      obtain ⟨xa, xc, rfl⟩ := hx2.slice
      have hn1 := k1.next
      simp only [sz_int] at sl2
      have hpO : placeO X.length a X = placeL (restL a X.length) (X.drop a) := by unfold placeO; rw [if_pos ⟨rfl, he⟩]
      have hdl : (X.drop a).length = X.length - a := by rw [List.length_drop]
      simp (disch := omega) [-getElem?_pos, if_pos, if_neg, decide_eq_true, decide_eq_false, ↓ieval_sllo, sl2]
      rw [hpO]
      generalize hR : placeL (restL a X.length) (X.drop a) = R
      generalize hY : X.drop a = Y at *
      refine wpC_use (loop_upto Y.length (PlI H Y.length (.slice xa Y.length xc) Y (restL a X.length) R) (Q := fun e env H' => (e = .exit 0 ∧ ∃ o : Nat, env 8 = some (.int .i64 o) ∧ R = some o ∧ Keep [] H H') ∨ (e = .ret ∧ R = none ∧ env 6 = some (.int .i64 0) ∧ env 7 = some (.bool false) ∧ Keep [] H H')) ⟨by simp [hdl], by simp [hdl], by simp, w2, k12, _, restL a X.length, T, 0, by simp, by simp, hB, fun b hb => by have := hT b hb; omega, by rw [restL_len, hdl]; omega, by omega, by simp [hR]⟩ ?_) ?_
      · rintro k env H' hk ⟨e31, e32, e33, w', k', w, L, T, o, e8, e9, hL, hT, hlk, ho, hRR⟩
        obtain ⟨wa, wc, rfl⟩ := hL.slice
        have hx' := hx2.sub (H' := H') fun b hb cs hc => by
          unfold AH.cells at hc ⊢
          rw [k12.blk b hb (by simp)] at hc
          rw [k'.blk b hb (by simp)]; exact hc
        by_cases hkn : k < Y.length
        · obtain ⟨b, off, sp, cap, cs, ev, q1, q2⟩ := ints_rd hx' (by omega)
          obtain ⟨q3, q4⟩ := q2 k hkn
          cases ev
          rw [List.drop_eq_getElem_cons hkn] at hRR
          generalize Y[k] = y at *
          unfold placeL at hRR
          simp (disch := omega) [-getElem?_pos, if_pos, if_neg, decide_eq_true, decide_eq_false, ir_brute_place_l0, e31, e32, e33, e8, e9, q1, q3, IntWalk.i64_in]
          refine AFn.pure (Index_spec (hL.slv (q := fun _ => True) (fun _ _ => trivial) (fun _ _ => trivial) (by omega))) ?_
          unfold idxV
          by_cases hm : y ∈ L
          · have hi := List.idxOf_lt_length_of_mem hm
            rw [if_pos hm] at hRR
            obtain ⟨g, hg⟩ : ∃ g, L.length = g + 1 := ⟨L.length - 1, by omega⟩
            have hg10 : g < 10 := by omega
            generalize hiy : L.idxOf y = i at *
            simp (disch := omega) [-getElem?_pos, if_pos, if_neg, decide_eq_true, decide_eq_false, hm, e31, e32, e33, e8, e9, hg, IntWalk.i64_in]
            refine (upTo_spec _).mono' fun u H3 w3 hu => ?_
            simp (disch := omega) [-getElem?_pos, if_pos, if_neg, decide_eq_true, decide_eq_false, ]
            refine (part_spec (n := g) rfl hg10 hu).mono' fun u2 H4 w4 ⟨hu2, hk2⟩ => ?_
            subst hu2
            have hL4 := hL.kept w' hk2
            have hFl := fac_le hg10
            rw [hg, Nat.add_sub_cancel] at hRR
            generalize fac g = F at *
            have hP : i * F ≤ 10 * 362880 := Nat.mul_le_mul (by omega) hFl
            have hmul : abin .mul (.int .i64 (i : Int)) (.int .i64 (F : Int)) = some (.int .i64 ((i * F : Nat) : Int)) := by
              simp only [abin]
              rw [if_neg (by simp), show (i : Int) * (F : Int) = ((i * F : Nat) : Int) by norm_cast, IntWalk.i64_in _ (by omega)]
            generalize i * F = P at *
            simp (disch := omega) [-getElem?_pos, if_pos, if_neg, decide_eq_true, decide_eq_false, hu.1, ↓hmul, e8, e9, IntWalk.i64_in]
            rw [← hg]
            refine (Delete_spec hL4 (k := i) (by omega) (by omega)).mono' fun u H5 w5 ⟨hL5, k5⟩ => ?_
            have hel : (L.eraseIdx i).length = g := by rw [List.length_eraseIdx_of_lt (by omega)]; omega
            simp (disch := omega) [-getElem?_pos, if_pos, if_neg, decide_eq_true, decide_eq_false, e31, e32, e33, IntWalk.i64_in]
            refine ⟨hkn, by simp [e31], by simp [e32], by simp, w5, (k'.trans' hk2).trans k5 (fun b hb hlt => by have := hT b hb; omega), _, L.eraseIdx i, T, o + P, by simp, by simp, hL5, hT, by omega, by omega, ?_⟩
            rw [← hRR, Option.map_map]
            congr 1
            funext z
            simp; omega
          · rw [if_neg hm] at hRR
            simp (disch := omega) [-getElem?_pos, if_pos, if_neg, decide_eq_true, decide_eq_false, hm]
            exact ⟨by rw [← hRR]; rfl, k'⟩
        · obtain rfl : k = Y.length := by omega
          simp (disch := omega) [-getElem?_pos, if_pos, if_neg, decide_eq_true, decide_eq_false, ir_brute_place_l0, e31, e32, e33, e8, e9]
          rw [List.drop_length] at hRR
          exact ⟨o, rfl, by rw [← hRR]; rfl, k'⟩
      · rintro e env2 H' (⟨rfl, o, e8, rfl, k'⟩ | ⟨rfl, rfl, e6, e7, k'⟩) hu
        · simp (disch := omega) [-getElem?_pos, if_pos, if_neg, decide_eq_true, decide_eq_false, e8]
          exact ⟨rfl, k'⟩
        · simp (disch := omega) [-getElem?_pos, if_pos, if_neg, decide_eq_true, decide_eq_false, e6, e7]
          exact ⟨rfl, k'⟩
    · simp (disch := omega) [-getElem?_pos, if_pos, if_neg, decide_eq_true, decide_eq_false, he]
      have : placeO X.length a X = none := by unfold placeO; rw [if_neg (fun h => he h.2)]
      rw [this]
      exact ⟨rfl, k1⟩
  · simp (disch := omega) [-getElem?_pos, if_pos, if_neg, decide_eq_true, decide_eq_false, ir_brute_place, hl]
    have : placeO n a X = none := by unfold placeO; rw [if_neg (fun h => hl h.1)]
    rw [this]
    exact ⟨rfl, .refl⟩
end Go.Proofs.Ytlcddhgfkkjhkaa

set_option maxRecDepth 100000
namespace Go.Proofs.Ytlcddhgfkkjhkaa
open Go Go.Abs
noncomputable def _root_.Go.Abs.InstD.rank (x : InstD) (Y : List Int) : Option Nat :=
  if x.kind = 0 ∨ x.kind = 3 then maskL x.n (-1) Y else placeO x.cost.length (fix1 x.kind) Y
theorem Rank_spec {H : AH} {v w : Value} {x : InstD} {Y : List Int} (hx : InstV (fun b => b < H.next) H v x) (hY : SlV (fun b => b < H.next) H w Y) (hc : x.countE = 0) : AFn Try.prog F_brute_Rank [v, w] H fun u H' => u = maskV (x.rank Y) ∧ Keep [] H H' := by
  obtain ⟨iv, cv, sv, rfl, i1, i2, i3, h1, h2, h3⟩ := id hx
  obtain ⟨ya, yc, rfl⟩ := hY.slice
  refine AFn.enter mixed ir_brute_Rank_eq (by simp [ir_brute_Rank]) fun hw => ?_
  have bc : (H.alloc (.row (instC x iv cv sv) T_inst_Inst true)).cells H.next = some (instC x iv cv sv) := AH.cells_alloc_new
  have k1 : Keep [] H (H.alloc (.row (instC x iv cv sv) T_inst_Inst true)) := .alloc
  have hx1 := (hx.kept hw k1).any
  have hY1 := hY.kept hw k1
  have w1 := WF.alloc hw (B := .row (instC x iv cv sv) T_inst_Inst true)
  generalize hq : H.next = q at *
  simp (disch := omega) [-getElem?_pos, if_pos, if_neg, decide_eq_true, decide_eq_false, ir_brute_Rank, hq, inst_cut]
  generalize H.alloc (.row (instC x iv cv sv) T_inst_Inst true) = H1 at *
  have hn1 := k1.next
  refine AFn.pure (Count_spec hx1) ?_
  simp (disch := omega) [-getElem?_pos, if_pos, if_neg, decide_eq_true, decide_eq_false, hc, bc, inst_cut]
  refine AFn.pure (subsets_spec _) ?_
  by_cases hs : x.kind = 0 ∨ x.kind = 3
  · obtain ⟨hok, N, hN, hn, hcn⟩ := count_sub hc hs
    have hr : x.rank Y = maskL N (-1) Y := by unfold InstD.rank; rw [if_pos hs, hn]
    simp (disch := omega) [-getElem?_pos, if_pos, if_neg, decide_eq_true, decide_eq_false, hs, bc, inst_cut]
    refine AFn.pure (N_spec hx1) ?_
    rw [hn]
    simp (disch := omega) [-getElem?_pos, if_pos, if_neg, decide_eq_true, decide_eq_false, ]
    refine AFn.pure (mask_spec hY1 (by omega)) ?_
    rw [hr]
    simp (disch := omega) [-getElem?_pos, if_pos, if_neg, decide_eq_true, decide_eq_false, maskV]
    exact k1
  · obtain ⟨hok, hf1, hf2, hcn, hcl⟩ := count_ord hc hs
    have hr : x.rank Y = placeO x.cost.length (fix1 x.kind) Y := by unfold InstD.rank; rw [if_neg hs]
    obtain ⟨ca, cc, rfl⟩ := h2.slice
    simp (disch := omega) [-getElem?_pos, if_pos, if_neg, decide_eq_true, decide_eq_false, hs, bc]
    refine AFnD.of (fixed_spec _) ?_
    simp (disch := omega) [-getElem?_pos, if_pos, if_neg, decide_eq_true, decide_eq_false, ]
    refine AFnD.from (place_spec (n := x.cost.length) (a := fix1 x.kind) (hY1.mono fun b hb => by omega) (by omega) hf2 hf1) fun u H2 w2 ⟨hu, k2⟩ => ?_
    refine ⟨keep_grow w1 k2, ?_⟩
    subst hu
    rw [hr]
    simp (disch := omega) [-getElem?_pos, if_pos, if_neg, decide_eq_true, decide_eq_false, maskV]
    exact k1.trans' k2
theorem restL_nodup {a n : Nat} : (restL a n).Nodup := by
  unfold restL
  rw [List.nodup_iff_pairwise_ne, List.pairwise_map]
  exact List.nodup_range.imp fun {x y} h e => h (by omega)
theorem at_len {x : InstD} {k : Nat} (hc : x.countE = 0) (hk : (k : Int) < x.count) (hs : ¬ (x.kind = 0 ∨ x.kind = 3)) : (x.at k).length = x.cost.length := by
  obtain ⟨hok, hf1, hf2, hcn, hcl⟩ := count_ord hc hs
  rw [hcn] at hk
  unfold InstD.at
  rw [if_neg hs, List.length_append, restL_len, order_len _ restL_len (by rw [restL_len]; omega)]
  omega
theorem rank_at {x : InstD} {k : Nat} (hc : x.countE = 0) (hk : (k : Int) < x.count) : x.rank (x.at k) = some k := by
  by_cases hs : x.kind = 0 ∨ x.kind = 3
  · obtain ⟨hok, N, hN, hn, hcn⟩ := count_sub hc hs
    rw [hcn] at hk
    have hp : (2 : Nat) ^ N ≤ 2 ^ 20 := Nat.pow_le_pow_right (by omega) (by omega)
    unfold InstD.rank InstD.at
    rw [if_pos hs, if_pos hs, hn]
    have := mask_chosen (n := N) 20 (k := 0) (m := k) (last := -1) (by omega) (by omega) (by rw [Nat.pow_zero, Nat.mul_one]; omega)
    rw [Nat.pow_zero, Nat.mul_one] at this
    exact this
  · obtain ⟨hok, hf1, hf2, hcn, hcl⟩ := count_ord hc hs
    have hl := at_len hc hk hs
    rw [hcn] at hk
    have e : x.at k = restL 0 (fix1 x.kind) ++ orderL (x.cost.length - fix1 x.kind) (restL (fix1 x.kind) x.cost.length) k := by unfold InstD.at; rw [if_neg hs]
    have ht : (x.at k).take (fix1 x.kind) = restL 0 (fix1 x.kind) := by rw [e, List.take_left' (by rw [restL_len]; omega)]
    unfold InstD.rank placeO
    rw [if_neg hs, if_pos ⟨hl, ht⟩, e, List.drop_left' (by rw [restL_len]; omega)]
    exact place_order _ restL_len restL_nodup (by rw [restL_len]; omega)
end Go.Proofs.Ytlcddhgfkkjhkaa
