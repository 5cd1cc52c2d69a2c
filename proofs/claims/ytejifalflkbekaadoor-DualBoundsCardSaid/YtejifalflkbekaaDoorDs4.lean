/-
  The document's Prices.
-/
import Derived.Test.YtejifalflkbekaaDoorDs3
import Derived.Test.YtejifalflkbekaaDoorNumB
set_option maxRecDepth 100000
set_option linter.unusedSimpArgs false
set_option linter.unusedVariables false
namespace Go.Abs
open Go Go.Proofs.YtejifalflkbekaaDoor.Bs
theorem minL_take {L : List SetD} {P : List Int} {e k : Nat} (h : k < L.length) : minL (leftP (L.take (k + 1)) P e) = if hasE L[k] e then minStep (minL (leftP (L.take k) P e)) (L[k].cost - spentP P L[k].elems) else minL (leftP (L.take k) P e) := by
  rw [leftP_take h]; split
  · rw [minL_snoc]
  · rfl
theorem prOk_big {L : List SetD} {n : Nat} {P : List Int} (h : PrOk L n P) : ∀ i, -4611686018427387904 ≤ P.getD i 0 * 1000000 ∧ P.getD i 0 * 1000000 ≤ 4611686018427387904 := fun i => by have := h.pos i; omega
theorem prOk_mem {L : List SetD} {n : Nat} {P : List Int} (h : PrOk L n P) : ∀ x ∈ P, I64 x := fun x hx => by
  obtain ⟨i, hi, rfl⟩ := List.getElem_of_mem hx
  have := h.pos i
  rw [List.getD_eq_getElem?_getD, List.getElem?_eq_getElem hi] at this
  simp at this
  unfold I64; omega
theorem prA_len {L : List SetD} {T : List Bool} : ((prA L T).getD []).length ≤ T.length := by
  unfold prA
  split
  · rename_i hm
    cases hp : prL L T.length (idxs T) with
    | none => simp
    | some P => have := (prL_ok (mayD_ok hm) (idxs T) (idxs_nodup T _) (fun e he => (idxs_mem.1 he).1) P hp).1.len; simp; omega
  · simp
theorem prA_pos {L : List SetD} {T : List Bool} : ∀ x ∈ (prA L T).getD [], 0 ≤ x ∧ x ≤ 2147483648 := by
  unfold prA
  split
  · rename_i hm
    cases hp : prL L T.length (idxs T) with
    | none => simp
    | some P =>
      have h := (prL_ok (mayD_ok hm) (idxs T) (idxs_nodup T _) (fun e he => (idxs_mem.1 he).1) P hp).1.pos
      intro x hx
      obtain ⟨i, hi, rfl⟩ := List.getElem_of_mem (show x ∈ P by simpa using hx)
      have := h i
      rw [List.getD_eq_getElem?_getD, List.getElem?_eq_getElem hi] at this
      simpa using this
  · simp
theorem idx_step {T : List Bool} {e : Nat} : idxTo T (e + 1) = if T.getD e false then idxTo T e ++ [e] else idxTo T e := by
  cases h : T.getD e false with
  | true => rw [if_pos rfl, idxTo_take h]
  | false => rw [if_neg (by simp)]; unfold idxTo; rw [List.range_succ, List.filter_append, List.filter_cons_of_neg (by rw [h]; simp)]; simp
end Go.Abs
namespace Go.Proofs.YtejifalflkbekaaDoor
open Go Go.Abs Go.Proofs.YtejifalflkbekaaDoor.Bs
def RpI (H1 : AH) (tv lv pv : Value) (L : List SetD) (P : List Int) (e : Nat) (k : Nat) (env : Env) (H' : AH) : Prop :=
  H' = H1 ∧ env 0 = some tv ∧ env 1 = some lv ∧ env 7 = some pv ∧ env 8 = some (.int .i64 e) ∧ env 11 = some (.int .i64 k) ∧ env 9 = some (.bool (minL (leftP (L.take k) P e)).isSome) ∧ env 10 = some (.int .i64 ((minL (leftP (L.take k) P e)).getD 0))
def RpQ (H1 : AH) (tv lv pv : Value) (L : List SetD) (P : List Int) (e : Nat) (x : AExit) (env : Env) (H' : AH) : Prop := x = .exit 2 ∧ RpI H1 tv lv pv L P e L.length env H'
theorem pricesR_l0 {p q : Nat → Prop} {H1 : AH} {tv lv pv : Value} {L : List SetD} {P : List Int} {n e : Nat} (hL : SlV p H1 lv L) (hP : SlV q H1 pv P) (hD : DOk n L) (hok : PrOk L n P) (he : e < n) (hl : L.length ≤ 30) (hel : ∀ s ∈ L, s.elems.length ≤ 30) {env : Env} (h : RpI H1 tv lv pv L P e 0 env H1) :
    wpC Tryd.prog 81 (.loop ir_ref18_Prices_l0) (RpQ H1 tv lv pv L P e) env H1 := by
  refine loop_upto L.length (RpI H1 tv lv pv L P e) (Q := RpQ H1 tv lv pv L P e) h ?_
  rintro k env H' hk ⟨rfl, e0, e1, e7, e8, e11, e9, e10⟩
  obtain ⟨va, vc, hve⟩ := hL.slice
  obtain ⟨pa, pc, hpe⟩ := hP.slice
  by_cases hkn : k < L.length
  · obtain ⟨b0, off, sp, cap, cs, hv, q1, q2⟩ := sets_rd hL (by omega)
    obtain ⟨w, q3, q4, q5, q6, q7⟩ := q2 k hkn
    have hsl := hel L[k] (List.getElem_mem hkn)
    have hin := rises_mem (hD.rise L[k] (List.getElem_mem hkn))
    have hst := minL_take (L := L) (P := P) (e := e) hkn
    have hlf := hok.left L[k] (List.getElem_mem hkn)
    have hcs := hD.cost L[k] (List.getElem_mem hkn)
    have hsp0 := spent_pos (fun i => (hok.pos i).1) L[k].elems
    have hh := hasR_spec (c := L[k].cost) (e := (e : Int)) q7 (by omega)
    have hsp := spentR_spec (c := L[k].cost) q7 hP (by omega) (fun x hx => by have := hin x hx; rw [hok.len]; omega) (prOk_big hok)
    have hhe : hasE L[k] e = decide ((e : Int) ∈ L[k].elems) := rfl
    have hall : ∀ m, minL (leftP (L.take k) P e) = some m → 0 ≤ m ∧ m ≤ 2147483648 := fun m hm => by
      have := pr_min (L := L.take k) (n := n) (e := e) ⟨fun s hs => hD.rise s (List.mem_of_mem_take hs), fun s hs => hD.cost s (List.mem_of_mem_take hs), by rw [List.length_take]; omega⟩ ⟨hok.len, hok.pos, fun s hs => hok.left s (List.mem_of_mem_take hs)⟩ hm
      exact ⟨this.1, this.2.1⟩
    rw [hpe] at hsp e7
    rw [hhe] at hst
    subst hv
    cases hb : decide ((e : Int) ∈ L[k].elems) with
    | false =>
      rw [hb] at hh hst
      rw [if_neg (by simp)] at hst
      generalize L[k].cost = c0 at *
      simp (disch := omega) [-getElem?_pos, if_pos, if_neg, decide_eq_true, decide_eq_false, ir_ref18_Prices_l0, e0, e1, e7, e8, e11, hkn, q1, q3]
      refine AFn.pure hh ?_
      simp (disch := omega) [-getElem?_pos, if_pos, if_neg, decide_eq_true, decide_eq_false, e11, IntWalk.i64_in]
      exact ⟨hkn, rfl, by simp [e0], by simp [e1], by simp [e7, hpe], by simp [e8], by simp, by rw [hst]; simp [e9], by rw [hst]; simp [e10]⟩
    | true =>
      rw [hb] at hh hst
      rw [if_pos rfl] at hst
      generalize hs0 : spentP P L[k].elems = s0 at *
      generalize L[k].cost = c0 at *
      have hws : IntKind.i64.wrap (c0 - s0) = c0 - s0 := IntWalk.i64_in _ (by omega)
      cases ho : minL (leftP (L.take k) P e) with
      | none =>
        rw [ho] at e9 e10 hst
        simp only [Option.isSome_none, Option.getD_none] at e9 e10
        simp (disch := omega) [-getElem?_pos, if_pos, if_neg, decide_eq_true, decide_eq_false, ir_ref18_Prices_l0, e0, e1, e7, e8, e9, e10, e11, hkn, q1, q3]
        refine AFn.pure hh ?_
        simp (disch := omega) [-getElem?_pos, if_pos, if_neg, decide_eq_true, decide_eq_false, q1, q3, q4, e0, e1, e7, e8, e9, e10, e11, hkn]
        refine AFn.pure hsp ?_
        simp (disch := omega) [-getElem?_pos, if_pos, if_neg, decide_eq_true, decide_eq_false, q1, q3, q4, e0, e1, e7, e8, e9, e10, e11, hkn, hws, IntWalk.i64_in]
        exact ⟨rfl, by simp [e0], by simp [e1], by simp [e7, hpe], by simp [e8], by simp, by rw [hst]; simp [minStep], by rw [hst]; simp [minStep]⟩
      | some m =>
        have hm := hall m ho
        rw [ho] at e9 e10 hst
        simp only [Option.isSome_some, Option.getD_some] at e9 e10
        simp (disch := omega) [-getElem?_pos, if_pos, if_neg, decide_eq_true, decide_eq_false, ir_ref18_Prices_l0, e0, e1, e7, e8, e9, e10, e11, hkn, q1, q3]
        refine AFn.pure hh ?_
        simp (disch := omega) [-getElem?_pos, if_pos, if_neg, decide_eq_true, decide_eq_false, q1, q3, q4, e0, e1, e7, e8, e9, e10, e11, hkn]
        refine AFn.pure hsp ?_
        by_cases hx : c0 - s0 < m
        · simp (disch := omega) [-getElem?_pos, if_pos, if_neg, decide_eq_true, decide_eq_false, q1, q3, q4, e0, e1, e7, e8, e9, e10, e11, hkn, hws, hx, IntWalk.i64_in]
          exact ⟨rfl, by simp [e0], by simp [e1], by simp [e7, hpe], by simp [e8], by simp, by rw [hst]; simp [minStep], by rw [hst]; simp [minStep, hx]⟩
        · simp (disch := omega) [-getElem?_pos, if_pos, if_neg, decide_eq_true, decide_eq_false, q1, q3, q4, e0, e1, e7, e8, e9, e10, e11, hkn, hws, hx, IntWalk.i64_in]
          exact ⟨rfl, by simp [e0], by simp [e1], by simp [e7, hpe], by simp [e8], by simp, by rw [hst]; simp [minStep, e9], by rw [hst]; simp [minStep, hx, e10]⟩
  · obtain rfl : k = L.length := by omega
    subst hve
    simp (disch := omega) [-getElem?_pos, if_pos, if_neg, decide_eq_true, decide_eq_false, ir_ref18_Prices_l0, e1, e11]
    exact ⟨rfl, rfl, e0, e1, e7, e8, e11, e9, e10⟩
def RqI (H1 : AH) (tv lv : Value) (b n : Nat) (L : List SetD) (T : List Bool) (k : Nat) (env : Env) (H' : AH) : Prop :=
  env 0 = some tv ∧ env 1 = some lv ∧ env 7 = some (.slice (some ⟨b, 0, none⟩) n n) ∧ env 8 = some (.int .i64 k) ∧ ∃ P, H' = dI H1 b P ∧ prL L n (idxTo T k) = some P
def RqQ (H1 : AH) (b n : Nat) (L : List SetD) (T : List Bool) (x : AExit) (env : Env) (H' : AH) : Prop :=
  (x = .exit 0 ∧ env 7 = some (.slice (some ⟨b, 0, none⟩) n n) ∧ ∃ P, H' = dI H1 b P ∧ prL L n (idxs T) = some P) ∨
  (x = .ret ∧ env 4 = some (.slice none 0 0) ∧ env 5 = some (.bool false) ∧ (∃ P, H' = dI H1 b P) ∧ prL L n (idxs T) = none)
theorem idxs_pre {T : List Bool} : ∀ k, k ≤ T.length → ∃ m, idxs T = idxTo T k ++ m := by
  intro k hk
  obtain ⟨d, hd⟩ : ∃ d, d = T.length - k := ⟨_, rfl⟩
  induction d generalizing k with
  | zero =>
    obtain rfl : k = T.length := by omega
    exact ⟨[], by simp [idxs]⟩
  | succ d ih =>
    obtain ⟨m, hm⟩ := ih (k + 1) (by omega) (by omega)
    rw [idx_step] at hm
    split at hm
    · exact ⟨k :: m, by rw [hm]; simp⟩
    · exact ⟨m, hm⟩
theorem pricesR_l1 {H1 : AH} {tv lv : Value} {b n : Nat} {L : List SetD} {T : List Bool} (hw : WF H1) (hb : b < H1.next) (hL : SlV (fun c => c ≠ b) H1 lv L) (hT : SlV (fun c => c ≠ b) H1 tv T) (hD : DOk n L) (hn : n = T.length) (hn2 : n ≤ 12) (hl : L.length ≤ 30) (hel : ∀ s ∈ L, s.elems.length ≤ 30) {H : AH} {env : Env} (h : RqI H1 tv lv b n L T 0 env H) :
    wpC Tryd.prog 81 (.loop ir_ref18_Prices_l1) (RqQ H1 b n L T) env H := by
  refine loop_upto T.length (RqI H1 tv lv b n L T) (Q := RqQ H1 b n L T) h ?_
  rintro k env H' hk ⟨e0, e1, e7, e8, P, rfl, hpr⟩
  obtain ⟨ta, tc, hte⟩ := hT.slice
  by_cases hkn : k < T.length
  · have hsub : ∀ (X : List Int) c, c ≠ b → ∀ cs, H1.cells c = some cs → (dI H1 b X).cells c = some cs := fun X c hc cs hcs => by rw [AH.cells_set_ne hc]; exact hcs
    have hL' : SlV (fun c => c ≠ b) (dI H1 b P) lv L := hL.sub (hsub P)
    have hT' : SlV (fun c => c ≠ b) (dI H1 b P) tv T := hT.sub (hsub P)
    obtain ⟨hok, hz⟩ := prL_ok hD (idxTo T k) (idxs_nodup T k) (fun e he => by have := (idxs_mem.1 he).1; omega) P hpr
    have hPs := slv_rI (H := dI H1 b P) (q := b) (X := P) dI_cells (prOk_mem hok) (by rw [hok.len]; omega)
    rw [hok.len] at hPs
    have hz0 := hz k fun hc => by have := (idxs_mem.1 hc).1; omega
    obtain ⟨b0, off, sp, cap, cs, hv, q1, q2⟩ := bools_rd hT' (by omega)
    have q3 := q2 k hkn
    have hg : T.getD k false = T[k] := by rw [List.getD_eq_getElem?_getD, List.getElem?_eq_getElem hkn]; rfl
    have hst := idx_step (T := T) (e := k)
    obtain ⟨mm, hmm⟩ := idxs_pre (T := T) (k + 1) (by omega)
    rw [hg] at hst
    subst hv
    have hkn2 : (k : Int) < (T.length : Int) := by omega
    cases hx : T[k] with
    | false =>
      rw [hx] at q3 hst
      rw [if_neg (by simp)] at hst
      simp (disch := omega) [-getElem?_pos, if_pos, if_neg, decide_eq_true, decide_eq_false, ir_ref18_Prices_l1, e0, e1, e7, e8, hkn, q1, q3, IntWalk.i64_in]
      exact ⟨by simp [e0], by simp [e1], by simp [e7], by simp, P, rfl, by rw [hst]; exact hpr⟩
    | true =>
      rw [hx] at q3 hst
      rw [if_pos rfl] at hst
      have hps := prL_snoc (L := L) (n := n) (e := k) (l := idxTo T k)
      rw [← hst, hpr] at hps
      simp (disch := omega) [-getElem?_pos, if_pos, if_neg, decide_eq_true, decide_eq_false, ir_ref18_Prices_l1, e0, e1, e7, e8, hkn, q1, q3, IntWalk.i64_in]
      refine wpC_use (pricesR_l0 (tv := .slice (some ⟨b0, off, sp⟩) T.length cap) (pv := .slice (some ⟨b, 0, none⟩) n n) (e := k) (n := n) (P := P) hL' hPs hD hok (by omega) hl hel ⟨rfl, by simp [e0], by simp [e1], by simp [e7], by simp [e8], by simp, by simp [leftP, minL_nil], by simp [leftP, minL_nil]⟩) ?_
      rintro x env2 H2 ⟨rfl, rfl, f0, f1, f7, f8, f11, f9, f10⟩ _
      rw [List.take_length] at f9 f10
      cases ho : minL (leftP L P k) with
      | none =>
        rw [ho] at f9 f10
        simp only [Option.isSome_none] at f9
        simp (disch := omega) [-getElem?_pos, if_pos, if_neg, decide_eq_true, decide_eq_false, f9]
        refine .inr ⟨rfl, by simp, by simp, ⟨P, rfl⟩, ?_⟩
        rw [hmm]
        refine prL_none ?_
        rw [hps]; simp [prStep, ho]
      | some m =>
        rw [ho] at f9 f10
        simp only [Option.isSome_some, Option.getD_some] at f9 f10
        have hwr := dI_write (H0 := H1) (b := b) (i := k) (X := P) (a := m) (by rw [hok.len]; omega)
        have hkn3 : k < n := by omega
        have hkn4 : (k : Int) < (n : Int) := by omega
        simp (disch := omega) [-getElem?_pos, if_pos, if_neg, decide_eq_true, decide_eq_false, f0, f1, f7, f8, f9, f10, hkn3, hkn4, hwr, IntWalk.i64_in]
        exact ⟨hkn, by simp [f0], by simp [f1], by simp [f7], by simp, P.set k m, rfl, by rw [hps]; simp [prStep, ho]⟩
  · obtain rfl : k = T.length := by omega
    subst hte
    simp (disch := omega) [-getElem?_pos, if_pos, if_neg, decide_eq_true, decide_eq_false, ir_ref18_Prices_l1, e0, e8]
    exact .inl ⟨rfl, e7, P, rfl, hpr⟩
def PrV (H : AH) (o : Option (List Int)) (u : Value) (H' : AH) : Prop := ∃ pv, u = .tuple #[pv, .bool o.isSome] ∧ SlV (fun b => H.next ≤ b ∧ b < H'.next) H' pv (o.getD []) ∧ Keep [] H H'
def PrO (H : AH) (o : Option (List Int)) (u : Value) (H' : AH) : Prop := ∃ pv S, u = .tuple #[pv, .bool o.isSome] ∧ OwnL (fun _ => False) H' T_int64 pv (o.getD []) S ∧ (∀ c ∈ S, H.next ≤ c) ∧ Keep [] H H'
theorem PricesR_own {H : AH} {tv lv : Value} {L : List SetD} {T : List Bool} (hL : SlV (fun b => b < H.next) H lv L) (hT : SlV (fun b => b < H.next) H tv T) (hn : T.length ≤ 12) (hl : L.length ≤ 30) (hel : ∀ s ∈ L, s.elems.length ≤ 30) : AFn Tryd.prog F_ref18_Prices [tv, lv] H (PrO H (prA L T)) := by
  refine AFn.enter mixed ir_ref18_Prices_eq (by simp [ir_ref18_Prices]) fun hw => ?_
  obtain ⟨ta, tc, rfl⟩ := hT.slice
  obtain ⟨la, lc, rfl⟩ := hL.slice
  simp (disch := omega) [-getElem?_pos, if_pos, if_neg, decide_eq_true, decide_eq_false, ir_ref18_Prices]
  refine AFn.pure (mayR_spec (n := (T.length : Int)) (by unfold I64; omega) hL) ?_
  have hpa : prA L T = if mayD T.length L then prL L T.length (idxs T) else none := rfl
  rw [hpa]
  cases hm : mayD T.length L with
  | false =>
    simp (disch := omega) [-getElem?_pos, if_pos, if_neg, decide_eq_true, decide_eq_false, ]
    exact ⟨_, [], rfl, .nil, by simp, .refl⟩
  | true =>
    have hD := mayD_ok hm
    rw [if_pos rfl]
    have hz := rI_zero T.length
    simp (disch := omega) [-getElem?_pos, if_pos, if_neg, decide_eq_true, decide_eq_false, ← hz]
    obtain ⟨b, hb⟩ : ∃ b, b = H.next := ⟨_, rfl⟩
    obtain ⟨H2, hH2⟩ : ∃ H2, H2 = H.alloc (.row (rI (List.replicate T.length 0)) T_int64 true) := ⟨_, rfl⟩
    have b2 : H2.blk b = some (.row (rI (List.replicate T.length 0)) T_int64 true) := by rw [hH2, hb]; exact AH.alloc_blk_new
    have k2 : Keep [] H H2 := by rw [hH2]; exact .alloc
    have w2 : WF H2 := by rw [hH2]; exact hw.alloc
    have n2 : H2.next = H.next + 1 := by rw [hH2]; rfl
    rw [← hH2, ← hb]
    have hself : H2 = dI H2 b (List.replicate T.length 0) := (AH.set_selfK b2).symm
    refine wpC_use (pricesR_l1 (H1 := H2) (b := b) (n := T.length) (T := T) w2 (by omega) ((hL.kept hw k2).mono fun c hc => by omega) ((hT.kept hw k2).mono fun c hc => by omega) hD rfl hn hl hel ⟨by simp, by simp, by simp, by simp, _, hself, rfl⟩) ?_
    rintro x env2 H3 (⟨rfl, f7, P, rfl, hpr⟩ | ⟨rfl, f4, f5, ⟨P, rfl⟩, hpr⟩) _
    · obtain ⟨hok, _⟩ := prL_ok hD (idxs T) (idxs_nodup T _) (fun e he => (idxs_mem.1 he).1) P hpr
      simp (disch := omega) [-getElem?_pos, if_pos, if_neg, decide_eq_true, decide_eq_false, f7]
      rw [hpr]
      have hPs := own_rI (H := dI H2 b P) (q := b) (X := P) (ty := T_int64) AH.set_blk_same (prOk_mem hok)
      rw [hok.len] at hPs
      refine ⟨_, [b], rfl, hPs, fun c hc => by simp at hc; omega, ⟨by show H.next ≤ H2.next; omega, fun c hc _ => by rw [AH.set_blk_ne (by omega), k2.blk c hc (by simp)]⟩⟩
    · simp (disch := omega) [-getElem?_pos, if_pos, if_neg, decide_eq_true, decide_eq_false, f4, f5]
      rw [hpr]
      exact ⟨_, [], rfl, .nil, by simp, ⟨by show H.next ≤ H2.next; omega, fun c hc _ => by rw [AH.set_blk_ne (by omega), k2.blk c hc (by simp)]⟩⟩
theorem PricesR_spec {H : AH} {tv lv : Value} {L : List SetD} {T : List Bool} (hL : SlV (fun b => b < H.next) H lv L) (hT : SlV (fun b => b < H.next) H tv T) (hn : T.length ≤ 12) (hl : L.length ≤ 30) (hel : ∀ s ∈ L, s.elems.length ≤ 30) : AFn Tryd.prog F_ref18_Prices [tv, lv] H (PrV H (prA L T)) :=
  (PricesR_own hL hT hn hl hel).mono' fun u H' w' ⟨pv, S, hu, hO, hS, k⟩ => ⟨pv, hu, hO.slv (fun _ h => h.elim) (fun c hc => ⟨hS c hc, hO.lt w' c hc⟩) (by
    obtain ⟨cells, h1, _⟩ := hO
    rcases h1 with ⟨_, h, _⟩ | ⟨b, off, sp, cap, cs, _, _, _, h, h2, _⟩
    · rw [h]; omega
    · have := prA_len (L := L) (T := T); omega), k⟩
end Go.Proofs.YtejifalflkbekaaDoor
