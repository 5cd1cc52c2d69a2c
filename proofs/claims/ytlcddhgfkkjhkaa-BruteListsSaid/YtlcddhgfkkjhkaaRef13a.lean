/-
  The document's brute: All.
-/
import Derived.Test.YtlcddhgfkkjhkaaRef13o
set_option maxRecDepth 100000
set_option linter.unusedSimpArgs false
set_option linter.unusedVariables false
namespace Go.Proofs.Ytlcddhgfkkjhkaa
open Go Go.Abs
open Go.Abs.Ren (R)

theorem chosen_le : ∀ (f : Nat) {k m : Nat}, (chosenL f k m).length ≤ f
  | 0, k, m => by simp [chosenL]
  | f + 1, k, m => by
    have ih := chosen_le f (k := k + 1) (m := m / 2)
    unfold chosenL
    split
    · simp
    · rw [List.length_append]
      split <;> simp <;> omega
def A0I (H : AH) (m : Nat) (k : Nat) (env : Env) (H' : AH) : Prop :=
  env 8 = some (.int .i64 (m / 2 ^ k : Nat)) ∧ env 9 = some (.int .i64 k) ∧ ∃ v S L, env 7 = some v ∧ WF H' ∧ OwnL (fun _ => False) H' T_int v L S ∧ L.length ≤ k ∧ L ++ chosenL (20 - k) k (m / 2 ^ k) = chosenL 20 0 m ∧ Keep [] H H' ∧ ∀ b ∈ S, H.next ≤ b
def A0Q (H : AH) (m : Nat) (e : AExit) (env : Env) (H' : AH) : Prop := e = .exit 2 ∧ WF H' ∧ ∃ v, env 7 = some v ∧ NewL H v (chosenL 20 0 m) H'
theorem all13_l0 {H : AH} {m : Nat} (hm : m < 2 ^ 20) {env : Env} (h : A0I H m 0 env H) : wpC Try.prog 56 (.loop ir_ref13_All_l0) (A0Q H m) env H := by
  refine loop_upto 20 (A0I H m) (Q := A0Q H m) h ?_
  rintro k env H' hk ⟨e8, e9, v, S, L, e7, hw', hA, hl, hL, hK, hS⟩
  have hle : m / 2 ^ k ≤ m := Nat.div_le_self _ _
  have hd : m / 2 ^ k / 2 = m / 2 ^ (k + 1) := by rw [Nat.div_div_eq_div_mul, Nat.pow_succ]
  have hx20 : k = 20 → m / 2 ^ k = 0 := fun h => by rw [h]; exact Nat.div_eq_of_lt hm
  generalize hx : m / 2 ^ k = x at *
  by_cases h0 : x = 0
  · subst h0
    simp (disch := omega) [-getElem?_pos, if_pos, if_neg, decide_eq_true, decide_eq_false, ir_ref13_All_l0, e7, e8, e9]
    have : chosenL (20 - k) k 0 = [] := by cases 20 - k <;> rfl
    rw [this, List.append_nil] at hL
    exact ⟨rfl, hw', v, e7, by rw [← hL]; exact ⟨S, hA, hK, hS⟩⟩
  · have hkf : k < 20 := by
      have : k ≠ 20 := fun h => h0 (hx20 h)
      omega
    obtain ⟨g, hg⟩ : ∃ g, 20 - k = g + 1 := ⟨20 - k - 1, by omega⟩
    have hch : chosenL (20 - k) k x = (if x % 2 = 1 then [(k : Int)] else []) ++ chosenL (20 - (k + 1)) (k + 1) (x / 2) := by
      rw [hg, show 20 - (k + 1) = g by omega]
      show (if x = 0 then [] else _) = _
      rw [if_neg h0]
    have hxp : 0 < x := by omega
    have ha1 : abin .rem (.int .i64 (x : Int)) (.int .i64 2) = some (.int .i64 ((x % 2 : Nat) : Int)) := i64_rem_nat (a := x) (b := 2) (by omega)
    have ha2 : abin .quo (.int .i64 (x : Int)) (.int .i64 2) = some (.int .i64 ((x / 2 : Nat) : Int)) := i64_quo_nat (a := x) (b := 2) (by omega) (by omega)
    by_cases h1 : x % 2 = 1
    · obtain ⟨va, vc, H2, S', p1, w2, hA', k2, hS', _⟩ := push_int hw' hA hK hS (a := (k : Int)) (by unfold I64; omega) (by omega)
      have pE : elemsA (H'.alloc (.row [.int .i64 (k : Int)] T_int true)) 1 (.slice (some ⟨H'.next, 0, none⟩) 1 1) = some [.int .i64 (k : Int)] := elems_one rfl
      rw [h1] at ha1
      simp (disch := omega) [-getElem?_pos, if_pos, if_neg, decide_eq_true, decide_eq_false, ir_ref13_All_l0, e7, e8, e9, ↓ha1, ↓ha2, pE, p1, hxp, IntWalk.i64_in]
      refine ⟨hkf, by simp [← hd], by simp, .slice va (L.length + 1) vc, S', L ++ [(k : Int)], by simp, w2, hA', by simp; omega, ?_, k2, hS'⟩
      rw [← hL, hch, if_pos h1, ← hd, List.append_assoc]
    · rw [show x % 2 = 0 by omega] at ha1
      simp (disch := omega) [-getElem?_pos, if_pos, if_neg, decide_eq_true, decide_eq_false, ir_ref13_All_l0, e7, e8, e9, ↓ha1, ↓ha2, hxp, IntWalk.i64_in]
      refine ⟨hkf, by simp [← hd], by simp, v, S, L, by simp [e7], hw', hA, by omega, ?_, hK, hS⟩
      rw [← hL, hch, if_neg h1, ← hd, List.nil_append]

def NewLL (H : AH) (u : Value) (M : List (List Int)) (H' : AH) : Prop := ∃ S, OwnL (fun b => H.next ≤ b ∧ b < H'.next ∧ b ∉ S) H' T_Lint u M S ∧ Keep [] H H' ∧ ∀ b ∈ S, H.next ≤ b
def A1I (H : AH) (C : Nat) (k : Nat) (env : Env) (H' : AH) : Prop :=
  env 3 = some (.int .i64 C) ∧ env 6 = some (.int .i64 k) ∧ WF H' ∧ ∃ v, env 5 = some v ∧ NewLL H v ((List.range k).map (chosenL 20 0)) H'
def A1Q (H : AH) (C : Nat) (e : AExit) (env : Env) (H' : AH) : Prop := e = .exit 0 ∧ ∃ v, env 5 = some v ∧ NewLL H v ((List.range C).map (chosenL 20 0)) H'
theorem all13_l1 {H H1 : AH} {C : Nat} (hC : C ≤ 2 ^ 20) {env : Env} (h : A1I H C 0 env H1) : wpC Try.prog 56 (.loop ir_ref13_All_l1) (A1Q H C) env H1 := by
  refine loop_upto C (A1I H C) (Q := A1Q H C) h ?_
  rintro k env H' hk ⟨e3, e6, w', out, e5, S, hM, k', hS⟩
  have hn1 := k'.next
  have hMn := hM.lt w'
  by_cases hkn : k < C
  · simp (disch := omega) [-getElem?_pos, if_pos, if_neg, decide_eq_true, decide_eq_false, ir_ref13_All_l1, e3, e6, hkn]
    refine wpC_use (all13_l0 (H := H') (m := k) (by omega) ⟨by simp, by simp, .slice none 0 0, [], [], by simp, w', .nil, by simp, by simp, .refl, by simp⟩) ?_
    rintro e env2 H2 ⟨rfl, w2, v, e7, S2, hA2, k2, hS2⟩ hu
    have u3 := hu 3 (by decide)
    have u5 := hu 5 (by decide)
    have u6 := hu 6 (by decide)
    have n2 := k2.next
    have hA2n := hA2.lt w2
    have hcl := chosen_le 20 (k := 0) (m := k)
    have hc := hA2.cell
    have hM2 := hM.kept w' k2
    have hl : ((List.range k).map (chosenL 20 0)).length = k := by simp
    have hsl : SlV (fun b => b ∈ S2) H2 v (chosenL 20 0 k) := hA2.slv (fun _ h => h.elim) (fun b hb => hb) (by omega)
    have pE : elemsA (H2.alloc (.row [v] T_Lint true)) 1 (.slice (some ⟨H2.next, 0, none⟩) 1 1) = some [v] := elems_one rfl
    obtain ⟨va, vc, H3, S3, p3, hA3, k3, w3, i3⟩ := hM2.push (q := fun b => H.next ≤ b ∧ b < H2.next ∧ b ∉ S) w2 (cs := [v]) (a := chosenL 20 0 k) ⟨v, rfl, hsl.mono fun b hb => ⟨by have := hS2 b hb; omega, hA2n b hb, fun hs => by have := hMn b hs; have := hS2 b hb; omega⟩⟩ T_Lint 24 (fun b h => ⟨h.1, by have := h.2.1; omega, h.2.2⟩) (fun b h => h.2.1) (fun b hb h => h.2.2 hb) (by omega) (by omega)
    simp only [sz_list] at p3
    have n3 := k3.next
    rw [hl] at p3
    simp (disch := omega) [-getElem?_pos, if_pos, if_neg, decide_eq_true, decide_eq_false, e7, hc.1, hc.2, u3, u5, u6, e3, e5, e6, pE, p3, IntWalk.i64_in]
    refine ⟨hkn, by simp [u3, e3], by simp, w3, .slice va (k + 1) vc, by simp, S3, ?_, (k'.trans' k2).trans k3 (fun b hb hlt => by have := hS b hb; omega), fun b hb => ?_⟩
    · rw [List.range_succ, List.map_append]
      rw [hl] at hA3
      refine hA3.up (fun b h => ⟨h.1, by have := h.2.1; omega, fun hs => ?_⟩) .refl (fun _ _ => rfl) (fun b hb h => h.2.2 hb)
      rcases i3 b hs with g1 | g1
      · exact h.2.2 g1
      · have := h.2.1; omega
    · rcases i3 b hb with g1 | g1
      · exact hS b g1
      · omega
  · obtain rfl : k = C := by omega
    simp (disch := omega) [-getElem?_pos, if_pos, if_neg, decide_eq_true, decide_eq_false, ir_ref13_All_l1, e3, e6]
    exact ⟨rfl, out, e5, S, hM, k', hS⟩

theorem leftL_nil {n : Nat} : leftL n [] = restL 0 n := by
  unfold leftL
  rw [List.filter_eq_self]
  intro a _; simp
theorem leftL_zero {n : Nat} (hn : 1 ≤ n) : leftL n [0] = restL 1 n := by
  unfold leftL restL
  obtain ⟨m, rfl⟩ : ∃ m, n = m + 1 := ⟨n - 1, by omega⟩
  simp only [Nat.sub_zero, Nat.add_sub_cancel, Nat.zero_add]
  rw [List.range_succ_eq_map, List.map_cons, List.filter_cons, if_neg (by simp), List.map_map, List.filter_eq_self.2]
  · apply List.map_congr_left
    intro a _; simp; omega
  · intro a ha
    simp at ha
    obtain ⟨b, _, rfl⟩ := ha
    simp; omega

theorem All13_spec {H : AH} {v : Value} {x : InstD} {C : Nat} (hx : InstV (fun b => b < H.next) H v x) (hE : x.countE = 0) (hC : x.count = (C : Int)) : AFn Try.prog F_ref13_All [v] H fun u H' => NewLL H u ((List.range C).map x.at) H' := by
  obtain ⟨iv, cv, sv, rfl, i1, i2, i3, h1, h2, h3⟩ := id hx
  refine AFn.enter mixed ir_ref13_All_eq (by simp [ir_ref13_All]) fun hw => ?_
  have bc : (H.alloc (.row (instC x iv cv sv) T_secateurref09_Inst true)).cells H.next = some (instC x iv cv sv) := AH.cells_alloc_new
  have k1 : Keep [] H (H.alloc (.row (instC x iv cv sv) T_secateurref09_Inst true)) := .alloc
  have hx1 := (hx.kept hw k1).any
  have w1 := WF.alloc hw (B := .row (instC x iv cv sv) T_secateurref09_Inst true)
  obtain ⟨ca, cc, rfl⟩ := h2.slice
  have hm2 := h2.max
  generalize hq : H.next = q at *
  simp (disch := omega) [-getElem?_pos, if_pos, if_neg, decide_eq_true, decide_eq_false, ir_ref13_All, hq, inst_cut]
  generalize H.alloc (.row (instC x iv (.slice ca x.cost.length cc) sv) T_secateurref09_Inst true) = H1 at *
  have n1 := k1.next
  refine AFn.pure (Count13_spec hx1) ?_
  have post : ∀ {u : Value} {M : List (List Int)} {H2 : AH}, NewLL H1 u M H2 → NewLL H u M H2 := fun ⟨S, hA, k2, hS⟩ => ⟨S, hA.up (fun b h => ⟨by have := h.1; omega, h.2⟩) .refl (fun _ _ => rfl) (fun b hb h => h.2.2 hb), k1.trans' k2, fun b hb => by have := hS b hb; omega⟩
  by_cases hs : x.kind = 0 ∨ x.kind = 3
  · obtain ⟨hok, N, hN, hn, hcn⟩ := count_sub hE hs
    have hCN : C = 2 ^ N := by rw [hC] at hcn; omega
    have hp : (2 : Nat) ^ N ≤ 2 ^ 20 := Nat.pow_le_pow_right (by omega) (by omega)
    have hk1 : (x.kind = 1) = False := eq_false (by omega)
    have hk2 : (x.kind = 2) = False := eq_false (by omega)
    have hat : (List.range C).map x.at = (List.range C).map (chosenL 20 0) := by
      congr 1; funext k; unfold InstD.at; rw [if_pos hs]
    rw [hat]
    simp (disch := omega) [-getElem?_pos, if_pos, if_neg, decide_eq_true, decide_eq_false, hE, hC, bc, hk1, hk2]
    refine wpC_use (all13_l1 (H := H1) (C := C) (by omega) ⟨by simp, by simp, w1, .slice none 0 0, by simp, [], .nil, .refl, by simp⟩) ?_
    rintro e env2 H2 ⟨rfl, u, e5, hP⟩ hu
    obtain ⟨S, hA, _⟩ := id hP
    have hc := hA.cell
    simp (disch := omega) [-getElem?_pos, if_pos, if_neg, decide_eq_true, decide_eq_false, e5, hc]
    exact post hP
  · obtain ⟨hok, hf1, hf2, hcn, hcl⟩ := count_ord hE hs
    have hCF : C = fac (x.cost.length - fix1 x.kind) := by rw [hC] at hcn; omega
    have hat : (List.range C).map x.at = (List.range C).map fun k => restL 0 (fix1 x.kind) ++ orderL (x.cost.length - fix1 x.kind) (restL (fix1 x.kind) x.cost.length) k := by
      congr 1; funext k; unfold InstD.at; rw [if_neg hs]
    rw [hat, hCF]
    have k0 := hok.kind0
    have k4 := hok.kind4
    by_cases hk1 : x.kind = 1
    · have hk1T := eq_true hk1
      have hfx : fix1 x.kind = 0 := by unfold fix1; rw [if_neg (by omega)]
      rw [hfx] at hf2 ⊢
      simp (disch := omega) [-getElem?_pos, if_pos, if_neg, decide_eq_true, decide_eq_false, hE, hC, bc, hk1T]
      refine (orders13_spec (x.cost.length - 0) hf2 (p0 := fun _ => False) (H := H1) (head := []) (n := x.cost.length) (fun b h => h.elim) .nil (by rw [leftL_nil, restL_len]) (by simp) (by omega)).mono' fun u H2 w2 ⟨S, hA, k2, hS⟩ => ?_
      have hc := hA.cell
      rw [leftL_nil, orders_eq _ restL_len restL_nodup] at hA
      simp (disch := omega) [-getElem?_pos, if_pos, if_neg, decide_eq_true, decide_eq_false, hc]
      refine post ⟨S, hA.up (fun b h => ⟨by rcases h.1 with h | h; exact h.elim; exact h, h.2⟩) .refl (fun _ _ => rfl) (fun b hb h => h.2.2 hb), k2, hS⟩
    · have hk2 : x.kind = 2 := by omega
      have hk2T := eq_true hk2
      have hfx : fix1 x.kind = 1 := by unfold fix1; rw [if_pos hk2]
      rw [hfx] at hf1 hf2 ⊢
      have hqn := cells_lt w1 bc
      have hqne : ¬ q = H1.next := by omega
      simp (disch := omega) [-getElem?_pos, if_pos, if_neg, decide_eq_true, decide_eq_false, hE, hC, bc, hk1, hk2T, hqne]
      generalize hH2 : AH.alloc H1 _ = H2
      have w2 : WF H2 := by rw [← hH2]; exact WF.alloc w1
      have k2 : Keep [] H1 H2 := by rw [← hH2]; exact .alloc
      have n2 : H2.next = H1.next + 1 := by rw [← hH2]; simp
      have c2 : H2.cells H1.next = some [.int .i64 0] := by rw [← hH2]; exact AH.cells_alloc_new
      clear hH2
      have hsl : SlV (fun b => b = H1.next) H2 (.slice (some ⟨H1.next, 0, none⟩) 1 1) [(0 : Int)] := by
        refine ⟨⟨by simp, .of (.inl rfl)⟩, [.int .i64 0], ⟨by simp, .inr ⟨H1.next, 0, none, 1, _, rfl, by simp, .inl rfl, c2, rfl, rfl⟩⟩, fun i hi => ?_⟩
        obtain rfl : i = 0 := by simpa using hi
        exact ⟨rfl, by simp [I64]⟩
      refine (orders13_spec (x.cost.length - 1) hf2 (p0 := fun b => b = H1.next) (H := H2) (head := [0]) (n := x.cost.length) (fun b h => by omega) hsl (by rw [leftL_zero hf1, restL_len]) (by simp; omega) (by omega)).mono' fun u H3 w3 ⟨S, hA, k3, hS⟩ => ?_
      have hc := hA.cell
      rw [leftL_zero hf1, orders_eq _ restL_len restL_nodup] at hA
      simp (disch := omega) [-getElem?_pos, if_pos, if_neg, decide_eq_true, decide_eq_false, hc]
      refine post ⟨S, hA.up (fun b h => ⟨by rcases h.1 with h | h <;> omega, h.2⟩) .refl (fun _ _ => rfl) (fun b hb h => h.2.2 hb), k2.trans' k3, fun b hb => by have := hS b hb; omega⟩
end Go.Proofs.Ytlcddhgfkkjhkaa
