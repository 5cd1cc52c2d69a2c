/-
  Contracts of package brute (1): times, upTo, twos, Count.
-/
import Derived.Test.YtlcddhgfkkjhkaaInst
set_option maxRecDepth 100000
set_option linter.unusedSimpArgs false
set_option linter.unusedVariables false
namespace Go.Abs
open Go
theorem wpC_range {P : Program} {n : Nat} {f : Operand} {ps : List Nat} {a b : ACode} {Q : AExit → Env → AH → Prop} {env : Env} {H : AH} {g : FuncId} {p q : Array Value} (hf : aval env f = some (.func (.func g) p q)) (hgood : goodFunc P g = true)
    (h : AFn P g (p.toList ++ [.func (.yield H.next) #[] #[]] ++ q.toList) (H.alloc (.loop { state := .ready, pending := none, env, params := ps, assign := a, body := b, n })) fun _ H' => rangeK H.next Q env H') : wpC P n (.rangeFunc f ps a b) Q env H := by
  simp only [wpC, hf]
  rw [ACall_clo hgood]
  exact ⟨good_ext hgood, h⟩
theorem ACall_yield_of {P : Program} {l : Nat} {vs : List Value} {H : AH} {Q Q' : Value → AH → Prop} (h : AYield P l vs H Q) (hq : ∀ u H', Q u H' → Q' u H') : ACall P (.func (.yield l) #[] #[]) vs H Q' :=
  ⟨rfl, rfl, h.mono hq⟩
theorem loopA_eq {L : LoopA} (h1 : L.state = .ready) (h2 : L.pending = none) : ({ L with state := .ready, pending := none } : LoopA) = L := by
  cases L; simp at h1 h2; subst h1; subst h2; rfl
theorem AH.set_self {H : AH} {b : Nat} {B : Blk} (h : H.blk b = some B) : H.set b B = H := by
  cases H with
  | mk blk next =>
    simp only [AH.set, AH.mk.injEq, and_true]
    funext i
    by_cases hi : i = b
    · subst hi; simpa using h.symm
    · simp [hi]
theorem AH.set_comm {H : AH} {a b : Nat} {A B : Blk} (h : a ≠ b) : (H.set a A).set b B = (H.set b B).set a A := by
  simp only [AH.set, AH.mk.injEq, and_true]
  funext i
  by_cases hi : i = a
  · subst hi; simp [h]
  · simp [hi]
end Go.Abs
namespace Go.Proofs.Ytlcddhgfkkjhkaa
open Go Go.Abs
def prodI (f : Nat → Int) : Nat → Int
  | 0 => 1
  | k + 1 => if prodI f k * f k < 1048577 then prodI f k * f k else 1048577
theorem prodI_le (f : Nat → Int) : ∀ k, prodI f k ≤ 1048577
  | 0 => by simp [prodI]
  | k + 1 => by simp only [prodI]; split <;> omega
theorem prodI_ge (f : Nat → Int) (hf : ∀ k, 1 ≤ f k) : ∀ k, 1 ≤ prodI f k
  | 0 => by simp [prodI]
  | k + 1 => by
    have h1 := prodI_ge f hf k
    have h2 := hf k
    simp only [prodI]
    split
    · have := Int.mul_le_mul h1 h2 (by omega) (by omega); omega
    · omega
def timesAssign : ACode := .region [⟨some 4, .mv (.tmp 6), none⟩] false
def timesBody : ACode := .block 1 (.region [⟨some 7, .load1 (.tmp 3), none⟩, ⟨some 8, .mv (.tmp 4), none⟩, ⟨some 9, .bin .mul (.tmp 7) (.tmp 8), none⟩, ⟨some 10, .mn (.tmp 9) (.const (.int .i64 1048577)), none⟩, ⟨none, .store1 (.tmp 3) (.tmp 10), none⟩] false)
structure TimesL (L0 : LoopA) (r : Nat) : Prop where
  st : L0.state = .ready
  pe : L0.pending = none
  pa : L0.params = [6]
  asg : L0.assign = timesAssign
  bo : L0.body = timesBody
  n : L0.n = 12
  e3 : L0.env 3 = some (.pointer (some ⟨r, 0, none⟩))
theorem times_round {H : AH} {l r : Nat} {L0 : LoopA} (h : TimesL L0 r) (hl : H.blk l = some (.loop L0)) (hlr : l ≠ r) {a k : Int} (hr : H.blk r = some (.row [.int .i64 a] T_int true)) (hak : I64 (a * k)) :
    AYield Try.prog l [.int .i64 k] H fun u H' => u = .bool true ∧ H' = H.set r (.row [.int .i64 (if a * k < 1048577 then a * k else 1048577)] T_int true) := by
  have hI : IntKind.i64.wrap (a * k) = a * k := IntWalk.i64_in _ hak
  refine AYield.intro mixed hl (by rw [h.pa]; rfl) ?_
  rw [h.pa, show wpC Try.prog L0.n L0.assign = wpC Try.prog 12 timesAssign by rw [h.asg, h.n], show wpC Try.prog L0.n = wpC Try.prog 12 by rw [h.n]]
  simp (disch := omega) [-getElem?_pos, if_pos, if_neg, decide_eq_true, decide_eq_false, timesAssign, putAll]
  refine ⟨_, hl, h.st, ?_⟩
  rw [show wpC Try.prog 12 L0.body = wpC Try.prog 12 timesBody by rw [h.bo]]
  have e3 := h.e3
  have hc := AH.cells_of hr
  have hmn : (if 1048577 < a * k then (1048577 : Int) else a * k) = (if a * k < 1048577 then a * k else 1048577) := by split <;> split <;> omega
  simp (disch := omega) [-getElem?_pos, if_pos, if_neg, decide_eq_true, decide_eq_false, timesBody, e3, hc, hI, hmn, writeA, hr, over, hlr.symm, AH.set_blk_ne, AH.cells_set_ne]
  refine ⟨_, by rw [AH.set_blk_ne hlr, AH.set_blk_same], ?_⟩
  refine ⟨rfl, ?_⟩
  rw [AH.set_comm hlr, AH.set_set, loopA_eq h.st h.pe, AH.set_comm hlr.symm, AH.set_self hl]
def TimesW (g : Nat) (q : Nat) (N : Nat) (f : Nat → Int) : Prop := ∀ {H : AH} {l r : Nat} {L0 : LoopA}, TimesL L0 r → H.blk l = some (.loop L0) → l ≠ r → H.cells q = some [.int .i64 N] → q ≠ r → H.blk r = some (.row [.int .i64 1] T_int true) →
    AFn Try.prog g [.func (.yield l) #[] #[], .pointer (some ⟨q, 0, none⟩)] H fun _ H' => H' = H.set r (.row [.int .i64 (prodI f N)] T_int true)
def UpI (H1 : AH) (l r : Nat) (f : Nat → Int) (N : Nat) (tN tk : Nat) (k : Nat) (env : Env) (H' : AH) : Prop :=
  env 0 = some (.func (.yield l) #[] #[]) ∧ env tN = some (.int .i64 N) ∧ env tk = some (.int .i64 k) ∧ H' = H1.set r (.row [.int .i64 (prodI f k)] T_int true)
theorem upTo_walk {q N : Nat} (hN : N ≤ 9223372036) : TimesW F_brute_upTo_1 q N (fun k => (k : Int) + 1) := by
  intro H l r L0 h hl hlr hq hqr hr
  refine AFn.enter mixed ir_brute_upTo_1_eq (by simp [ir_brute_upTo_1]) fun hw => ?_
  simp (disch := omega) [-getElem?_pos, if_pos, if_neg, decide_eq_true, decide_eq_false, ir_brute_upTo_1, hq]
  refine wpC_use (loop_upto N (UpI H l r (fun k => (k : Int) + 1) N 4 5) (Q := fun e _ H' => e = .exit 0 ∧ H' = H.set r (.row [.int .i64 (prodI (fun k => (k : Int) + 1) N)] T_int true)) ⟨by simp, by simp, by simp, by rw [show prodI (fun k => (k : Int) + 1) 0 = 1 from rfl, AH.set_self hr]⟩ ?_) ?_
  · rintro k env H' hk ⟨e0, e4, e5, rfl⟩
    by_cases hkn : k < N
    · have hp := prodI_le (fun k => (k : Int) + 1) k
      have hp1 := prodI_ge (fun k => (k : Int) + 1) (fun k => by omega) k
      have hb : I64 (prodI (fun k => (k : Int) + 1) k * ((k : Int) + 1)) := by
        have h1 : prodI (fun k => (k : Int) + 1) k * ((k : Int) + 1) ≤ 1048577 * ((k : Int) + 1) := Int.mul_le_mul_of_nonneg_right hp (by omega)
        have h2 : 0 ≤ prodI (fun k => (k : Int) + 1) k * ((k : Int) + 1) := Int.mul_nonneg (by omega) (by omega)
        exact ⟨by omega, by have := Int.mul_le_mul_of_nonneg_left (show (k : Int) + 1 ≤ 9223372036 by omega) (show (0 : Int) ≤ 1048577 by omega); omega⟩
      simp (disch := omega) [-getElem?_pos, if_pos, if_neg, decide_eq_true, decide_eq_false, ir_brute_upTo_1_l0, e0, e4, e5, IntWalk.i64_in]
      refine ACall_yield_of (times_round (H := H.set r (.row [.int .i64 (prodI (fun k => (k : Int) + 1) k)] T_int true)) h (by rw [AH.set_blk_ne hlr, hl]) hlr AH.set_blk_same hb) fun u H2 ⟨hu, hH⟩ => ?_
      subst hu hH
      simp (disch := omega) [-getElem?_pos, if_pos, if_neg, decide_eq_true, decide_eq_false, e0, e4, e5, IntWalk.i64_in]
      refine ⟨hkn, by simp [e0], by simp [e4], by simp, ?_⟩
      rfl
    · obtain rfl : k = N := by omega
      simp (disch := omega) [-getElem?_pos, if_pos, if_neg, decide_eq_true, decide_eq_false, ir_brute_upTo_1_l0, e0, e4, e5]
  · rintro e env2 H2 ⟨rfl, rfl⟩ _
    simp (disch := omega) [-getElem?_pos, if_pos, if_neg, decide_eq_true, decide_eq_false, ]
theorem twos_walk {q N : Nat} (hN : N ≤ 9223372036) : TimesW F_brute_twos_1 q N (fun _ => 2) := by
  intro H l r L0 h hl hlr hq hqr hr
  refine AFn.enter mixed ir_brute_twos_1_eq (by simp [ir_brute_twos_1]) fun hw => ?_
  simp (disch := omega) [-getElem?_pos, if_pos, if_neg, decide_eq_true, decide_eq_false, ir_brute_twos_1, hq]
  refine wpC_use (loop_upto N (UpI H l r (fun _ => 2) N 3 4) (Q := fun e _ H' => e = .exit 0 ∧ H' = H.set r (.row [.int .i64 (prodI (fun _ => 2) N)] T_int true)) ⟨by simp, by simp, by simp, by rw [show prodI (fun _ => 2) 0 = 1 from rfl, AH.set_self hr]⟩ ?_) ?_
  · rintro k env H' hk ⟨e0, e4, e5, rfl⟩
    by_cases hkn : k < N
    · have hp := prodI_le (fun _ => 2) k
      have hp1 := prodI_ge (fun _ => 2) (fun k => by omega) k
      have hb : I64 (prodI (fun _ => 2) k * 2) := ⟨by omega, by omega⟩
      simp (disch := omega) [-getElem?_pos, if_pos, if_neg, decide_eq_true, decide_eq_false, ir_brute_twos_1_l0, e0, e4, e5, IntWalk.i64_in]
      refine ACall_yield_of (times_round (H := H.set r (.row [.int .i64 (prodI (fun _ => 2) k)] T_int true)) h (by rw [AH.set_blk_ne hlr, hl]) hlr AH.set_blk_same hb) fun u H2 ⟨hu, hH⟩ => ?_
      subst hu hH
      simp (disch := omega) [-getElem?_pos, if_pos, if_neg, decide_eq_true, decide_eq_false, e0, e4, e5, IntWalk.i64_in]
      refine ⟨hkn, by simp [e0], by simp [e4], by simp, ?_⟩
      rfl
    · obtain rfl : k = N := by omega
      simp (disch := omega) [-getElem?_pos, if_pos, if_neg, decide_eq_true, decide_eq_false, ir_brute_twos_1_l0, e0, e4, e5]
  · rintro e env2 H2 ⟨rfl, rfl⟩ _
    simp (disch := omega) [-getElem?_pos, if_pos, if_neg, decide_eq_true, decide_eq_false, ]
theorem times_spec {H : AH} {g q N : Nat} {f : Nat → Int} (hgood : goodFunc Try.prog g = true) (hW : TimesW g q N f) (hq : H.cells q = some [.int .i64 N]) :
    AFn Try.prog F_brute_times [.func (.func g) #[] #[.pointer (some ⟨q, 0, none⟩)]] H fun u H' => u = .int .i64 (prodI f N) ∧ Keep [] H H' := by
  refine AFn.enter mixed ir_brute_times_eq (by simp [ir_brute_times]) fun hw => ?_
  have hqn := cells_lt hw hq
  simp (disch := omega) [-getElem?_pos, if_pos, if_neg, decide_eq_true, decide_eq_false, ir_brute_times, writeA, over]
  refine wpC_range (p := #[]) (q := #[.pointer (some ⟨q, 0, none⟩)]) (by simp) hgood ?_
  generalize hL : (LoopA.mk _ _ _ _ _ _ _ : LoopA) = L0
  have hT : TimesL L0 H.next := by
    rw [← hL]
    exact ⟨rfl, rfl, rfl, rfl, rfl, rfl, by simp⟩
  clear hL
  have hk1 : Keep [] H ((H.alloc (.row [.int .i64 1] T_int true)).alloc (.loop L0)) := .trans' .alloc .alloc
  have hr1 : ((H.alloc (.row [.int .i64 1] T_int true)).alloc (.loop L0)).blk H.next = some (.row [.int .i64 1] T_int true) := by simp
  have hl1 : ((H.alloc (.row [.int .i64 1] T_int true)).alloc (.loop L0)).blk (H.next + 1) = some (.loop L0) := by simp
  have hq1 := cells_kept hw hk1 hq
  have hn1 : ((H.alloc (.row [.int .i64 1] T_int true)).alloc (.loop L0)).next = H.next + 2 := by simp
  generalize (H.alloc (.row [.int .i64 1] T_int true)).alloc (.loop L0) = H1 at *
  refine (hW hT hl1 (by omega) hq1 (by omega) hr1).mono' fun u H2 w2 hH2 => ?_
  subst hH2
  unfold rangeK
  simp only [AH.alloc_next]
  rw [AH.set_blk_ne (by omega), hl1]
  simp only [hT.st, hT.pe]
  refine ⟨by simp, ?_⟩
  simp (disch := omega) [-getElem?_pos, if_pos, if_neg, decide_eq_true, decide_eq_false, AH.cells_set_ne]
  exact Keep.new_set (by omega) (Keep.new_set (by omega) hk1)
theorem upTo_spec {H : AH} (n : Int) : AFn Try.prog F_brute_upTo [.int .i64 n] H fun u H' => u = .func (.func F_brute_upTo_1) #[] #[.pointer (some ⟨H.next, 0, none⟩)] ∧ H' = H.alloc (.row [.int .i64 n] T_int true) := by
  refine AFn.enter mixed ir_brute_upTo_eq (by simp [ir_brute_upTo]) fun hw => ?_
  simp (disch := omega) [-getElem?_pos, if_pos, if_neg, decide_eq_true, decide_eq_false, ir_brute_upTo]
theorem twos_spec {H : AH} (n : Int) : AFn Try.prog F_brute_twos [.int .i64 n] H fun u H' => u = .func (.func F_brute_twos_1) #[] #[.pointer (some ⟨H.next, 0, none⟩)] ∧ H' = H.alloc (.row [.int .i64 n] T_int true) := by
  refine AFn.enter mixed ir_brute_twos_eq (by simp [ir_brute_twos]) fun hw => ?_
  simp (disch := omega) [-getElem?_pos, if_pos, if_neg, decide_eq_true, decide_eq_false, ir_brute_twos]
theorem subsets_spec {H : AH} (k : Int) : AFn Try.prog F_brute_subsets [.int .i64 k] H fun u H' => u = .bool (decide (k = 0 ∨ k = 3)) ∧ H' = H := by
  refine AFn.enter mixed ir_brute_subsets_eq (by simp [ir_brute_subsets]) fun hw => ?_
  by_cases h : k = 0 <;> by_cases h2 : k = 3 <;> simp (disch := omega) [-getElem?_pos, if_pos, if_neg, decide_eq_true, decide_eq_false, ir_brute_subsets, h, h2]
noncomputable def _root_.Go.Abs.InstD.many (x : InstD) : Int := prodI (fun k => if x.kind = 0 ∨ x.kind = 3 then 2 else (k : Int) + 1) x.n.toNat
noncomputable def _root_.Go.Abs.InstD.count (x : InstD) : Int := if x.check = 0 then (if x.many > 1048576 then 0 else x.many) else 0
noncomputable def _root_.Go.Abs.InstD.countE (x : InstD) : Int := if x.check = 0 then (if x.many > 1048576 then 24 else 0) else x.check
theorem _root_.Go.Abs.InstD.n_range {x : InstD} (h : x.Ok) : 0 ≤ x.n ∧ x.n ≤ 4096 := by
  have hc := InstD.check_ok.2 h
  have h1 := h.few.items
  have h2 := h.few.sets
  unfold InstD.n
  rw [if_pos hc]
  by_cases k1 : x.kind = 1
  · have := h.few.sq (.inl k1)
    simp [k1]; omega
  · by_cases k2 : x.kind = 2
    · have := h.few.sq (.inr k2)
      simp [k2]; omega
    · by_cases k0 : x.kind = 0
      · simp [k0]; omega
      · simp [k0, k1, k2]; omega
theorem Count_spec {p : Nat → Prop} {H : AH} {v : Value} {x : InstD} (hx : InstV p H v x) : AFn Try.prog F_brute_Count [v] H fun u H' => u = .tuple #[.int .i64 x.count, .int .i64 x.countE] ∧ H' = H := by
  refine AFn.calm (fun H0 hs => ?_) rfl
  have hx0 := hx.same hs
  obtain ⟨iv, cv, sv, rfl, i1, i2, i3, h1, h2, h3⟩ := id hx0
  refine AFn.enter mixed ir_brute_Count_eq (by simp [ir_brute_Count]) fun hw => ?_
  have bc : (H0.alloc (.row (instC x iv cv sv) T_inst_Inst true)).cells H0.next = some (instC x iv cv sv) := AH.cells_alloc_new
  have hx1 := (hx0.kept hw (.alloc (B := .row (instC x iv cv sv) T_inst_Inst true))).any
  have w1 := WF.alloc hw (B := .row (instC x iv cv sv) T_inst_Inst true)
  generalize hq : H0.next = q at *
  simp (disch := omega) [-getElem?_pos, if_pos, if_neg, decide_eq_true, decide_eq_false, ir_brute_Count, hq, inst_cut]
  generalize H0.alloc (.row (instC x iv cv sv) T_inst_Inst true) = H1 at *
  refine AFn.pure (Check_spec hx1) ?_
  unfold InstD.count InstD.countE
  by_cases hc : x.check = 0
  · obtain ⟨n0, n1⟩ := InstD.n_range (InstD.check_ok.1 hc)
    obtain ⟨N, hN⟩ : ∃ N : Nat, x.n = (N : Int) := ⟨x.n.toNat, by omega⟩
    have hNl : N ≤ 4096 := by omega
    simp (disch := omega) [-getElem?_pos, if_pos, if_neg, decide_eq_true, decide_eq_false, hc, bc, inst_cut]
    refine AFn.pure (N_spec hx1) ?_
    simp (disch := omega) [-getElem?_pos, if_pos, if_neg, decide_eq_true, decide_eq_false, ]
    refine (upTo_spec x.n).mono' fun u H2 w2 ⟨hu, hH⟩ => ?_
    have k2 : Keep [] H1 H2 := by rw [hH]; exact .alloc
    have hc2 : H2.cells H1.next = some [.int .i64 (N : Int)] := by rw [hH, ← hN]; exact AH.cells_alloc_new
    subst hu
    clear hH
    have hx2 := hx1.kept w1 k2
    have bc2 := cells_kept w1 k2 bc
    simp (disch := omega) [-getElem?_pos, if_pos, if_neg, decide_eq_true, decide_eq_false, bc2]
    refine AFn.pure (subsets_spec _) ?_
    by_cases hk : x.kind = 0 ∨ x.kind = 3
    · have hm : x.many = prodI (fun _ => 2) N := by unfold InstD.many; simp only [hk, if_true, hN, Int.toNat_natCast]
      simp (disch := omega) [-getElem?_pos, if_pos, if_neg, decide_eq_true, decide_eq_false, hk, bc2, inst_cut]
      refine AFn.pure (N_spec hx2) ?_
      simp (disch := omega) [-getElem?_pos, if_pos, if_neg, decide_eq_true, decide_eq_false, ]
      refine (twos_spec x.n).mono' fun u H3 w3 ⟨hu, hH⟩ => ?_
      have hc3 : H3.cells H2.next = some [.int .i64 (N : Int)] := by rw [hH, ← hN]; exact AH.cells_alloc_new
      subst hu
      clear hH
      simp (disch := omega) [-getElem?_pos, if_pos, if_neg, decide_eq_true, decide_eq_false, ]
      refine (times_spec good_brute_twos_1 (twos_walk (by omega)) hc3).mono' fun u H4 w4 ⟨hu, _⟩ => ?_
      subst hu
      rw [hm]
      by_cases hmm : prodI (fun _ => 2) N > 1048576
      · simp (disch := omega) [-getElem?_pos, if_pos, if_neg, decide_eq_true, decide_eq_false, hmm]
      · simp (disch := omega) [-getElem?_pos, if_pos, if_neg, decide_eq_true, decide_eq_false, hmm]
    · have hm : x.many = prodI (fun k => (k : Int) + 1) N := by unfold InstD.many; simp only [hk, if_false, hN, Int.toNat_natCast]
      simp (disch := omega) [-getElem?_pos, if_pos, if_neg, decide_eq_true, decide_eq_false, hk]
      refine (times_spec good_brute_upTo_1 (upTo_walk (by omega)) hc2).mono' fun u H4 w4 ⟨hu, _⟩ => ?_
      subst hu
      rw [hm]
      by_cases hmm : prodI (fun k => (k : Int) + 1) N > 1048576
      · simp (disch := omega) [-getElem?_pos, if_pos, if_neg, decide_eq_true, decide_eq_false, hmm]
      · simp (disch := omega) [-getElem?_pos, if_pos, if_neg, decide_eq_true, decide_eq_false, hmm]
  · simp (disch := omega) [-getElem?_pos, if_pos, if_neg, decide_eq_true, decide_eq_false, hc]
end Go.Proofs.Ytlcddhgfkkjhkaa
