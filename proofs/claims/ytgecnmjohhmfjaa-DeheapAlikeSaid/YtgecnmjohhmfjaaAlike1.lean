/-
  DeheapAlike (1): two heaps of unlike kinds.
-/
import Derived.Test.YtgecnmjohhmfjaaIrL
import Derived.Test.YtgecnmjohhmfjaaAct7
set_option maxRecDepth 100000
set_option linter.unusedSimpArgs false
set_option linter.unusedVariables false
namespace Go.Proofs.Ytgecnmjohhmfjaa
open Go Go.Abs
def AlS (H0 H : AH) (d1 d2 : Nat) (M : List Ent) (S T : List Nat) : Prop :=
  WF H ∧ Keep [] H0 H ∧ (∀ b ∈ S, H0.next ≤ b) ∧ (∀ b ∈ T, H0.next ≤ b) ∧ DeH H d1 false 30 M S ∧ DeH H d2 true 30 M T ∧ (∀ b ∈ S, b ∉ T) ∧ Srt Ent.lt M
theorem AlS.kept {H0 H H' : AH} {d1 d2 : Nat} {M : List Ent} {S T : List Nat} (h : AlS H0 H d1 d2 M S T) (hw : WF H') (hk : Keep [] H H') : AlS H0 H' d1 d2 M S T := by
  obtain ⟨h1, h2, h3, h4, h5, h6, h7, h8⟩ := h
  exact ⟨hw, h2.trans' hk, h3, h4, h5.kept h1 hk, h6.kept h1 hk, h7, h8⟩
theorem AlS.second {H0 H H2 : AH} {d1 d2 : Nat} {M : List Ent} {S T : List Nat} (h : AlS H0 H d1 d2 M S T) (k2 : Keep S H H2) : DeH H2 d2 true 30 M T := by
  obtain ⟨h1, h2, h3, h4, h5, h6, h7, h8⟩ := h
  exact h6.keep fun b hb => k2.blk b (h6.lt h1 b hb) fun hs => h7 b hs hb
theorem AlS.both {H0 H H2 H3 : AH} {d1 d2 : Nat} {M M1 : List Ent} {S T S' T' : List Nat} (h : AlS H0 H d1 d2 M S T) (w2 : WF H2) (k2 : Keep S H H2) (hS' : ∀ b ∈ S', b ∈ S ∨ H.next ≤ b) (hD1 : DeH H2 d1 false 30 M1 S')
    (w3 : WF H3) (k3 : Keep T H2 H3) (hT' : ∀ b ∈ T', b ∈ T ∨ H2.next ≤ b) (hD2 : DeH H3 d2 true 30 M1 T') (hs : Srt Ent.lt M1) : AlS H0 H3 d1 d2 M1 S' T' := by
  obtain ⟨h1, h2, h3, h4, h5, h6, h7, h8⟩ := h
  have n2 := k2.next
  have n0 := h2.next
  have hT : ∀ b ∈ S', b ∉ T := fun b hb ht => (hS' b hb).elim (fun h => h7 b h ht) fun h => by have := h6.lt h1 b ht; omega
  refine ⟨w3, (h2.trans k2 fun b hb _ => by have := h3 b hb; omega).trans k3 fun b hb _ => by have := h4 b hb; omega, fun b hb => (hS' b hb).elim (h3 b) fun h => by omega, fun b hb => (hT' b hb).elim (h4 b) fun h => by omega,
    hD1.keep fun b hb => k3.blk b (hD1.lt w2 b hb) (hT b hb), hD2, fun b hb ht => (hT' b ht).elim (hT b hb) fun h => by have := hD1.lt w2 b hb; omega, hs⟩
def A3I (H0 : AH) (d1 d2 : Nat) (sv : Value) (n i : Nat) (env : Env) (H' : AH) : Prop :=
  env 5 = some (pV d1) ∧ env 7 = some (pV d2) ∧ env 53 = some sv ∧ env 54 = some (.int .i64 n) ∧ env 55 = some (.int .i64 i) ∧ ∃ M S T, AlS H0 H' d1 d2 M S T
def A3Q (H0 : AH) (d1 d2 : Nat) (e : AExit) (env : Env) (H' : AH) : Prop := e = .exit 0 ∧ env 5 = some (pV d1) ∧ env 7 = some (pV d2) ∧ ∃ M S T, AlS H0 H' d1 d2 M S T
theorem alike_l3 {H0 H : AH} (hw : WF H0) {d1 d2 : Nat} {sv : Value} {L : List Ent} (hL : EntsV (fun _ => True) H0 sv L) (hl : L.length ≤ 30) {env : Env} (h : A3I H0 d1 d2 sv L.length 0 env H) : wpC Try.prog 182 (.loop ir_law07_DeheapAlike_l3) (A3Q H0 d1 d2) env H := by
  refine loop_upto L.length (A3I H0 d1 d2 sv L.length) (Q := A3Q H0 d1 d2) h ?_
  rintro i env H' hi ⟨e5, e7, e53, e54, e55, M, S, T, hS⟩
  by_cases hin : i < L.length
  · obtain ⟨w', k', _⟩ := id hS
    obtain ⟨b0, off, sp, cap, cs, rfl, q1, q2⟩ := ents_at (hL.1.kept hw k') (by omega)
    have q3 := q2 i hin
    generalize getE L i = x at *
    have hcx : cut [Value.int .i64 x.b, .int .i64 x.d, .int .i64 x.s, .int .i64 x.i] 0 4 = some [Value.int .i64 x.b, .int .i64 x.d, .int .i64 x.s, .int .i64 x.i] := rfl
    have hbn := blk0 H' T_secateurlaw07_Entry
    simp only [Ent.cells] at q3
    clear q2
    simp (disch := omega) [-getElem?_pos, if_pos, if_neg, decide_eq_true, decide_eq_false, ir_law07_DeheapAlike_l3, ir_law07_DeheapAlike_b1, e5, e7, e53, e54, e55, q1, q3, hin, writeA_row hbn, over, hcx, IntWalk.i64_in]
    refine callM_use (of7_calm x) ?_
    have hS1 := hS.kept (H' := (H'.alloc (.row [.int .i64 x.b, .int .i64 x.d, .int .i64 x.s, .int .i64 x.i] T_secateurlaw07_Entry true)).room 9) w'.alloc.room (.trans' .alloc .room)
    simp (disch := omega) [-getElem?_pos, if_pos, if_neg, decide_eq_true, decide_eq_false, hcx, e5, e7]
    have hn1 : ((H'.alloc (.row [.int .i64 x.b, .int .i64 x.d, .int .i64 x.s, .int .i64 x.i] T_secateurlaw07_Entry true)).room 9).next = H'.next + 10 := by simp
    generalize (H'.alloc (.row [.int .i64 x.b, .int .i64 x.d, .int .i64 x.s, .int .i64 x.i] T_secateurlaw07_Entry true)).room 9 = H1 at *
    have hnew : ∀ b ∈ S, b < H'.next := hS.2.2.2.2.1.lt w'
    refine callM_write [H'.next] good_deheap_Heap_Push rfl (by unfold mind; simp) ((DPush_spec hS1.2.2.2.2.1 ⟨by omega, by omega⟩ x).mono fun u H2 hq w2 hle => ?_)
    rcases hq with ⟨hf, rfl, S', hDa, k2, hS'⟩ | ⟨hf, rfl, S', hDa, k2, hS'⟩
    · refine ⟨fun b hb => by simp at hb; subst hb; exact k2.blk _ (by omega) fun h => by have := hnew _ h; omega, ?_⟩
      simp (disch := omega) [-getElem?_pos, if_pos, if_neg, decide_eq_true, decide_eq_false, e5, e7]
      refine callM_use (of7_calm x) ?_
      simp (disch := omega) [-getElem?_pos, if_pos, if_neg, decide_eq_true, decide_eq_false, e5, e7]
      refine callM_write [] good_deheap_Heap_Push rfl (by unfold mind; simp) ((DPush_spec (hS1.second k2) ⟨by omega, by omega⟩ x).mono fun u H3 hq w3 hle3 => ?_)
      rcases hq with ⟨hf3, rfl, T', hDb, k3, hT'⟩ | ⟨hf3, rfl, T', hDb, k3, hT'⟩
      · refine ⟨by simp, ?_⟩
        simp (disch := omega) [-getElem?_pos, if_pos, if_neg, decide_eq_true, decide_eq_false, e5, e7, e53, e54, e55, IntWalk.i64_in]
        exact ⟨hin, by simp [e5], by simp [e7], by simp [e53], by simp [e54], by simp, M, S', T', hS1.both w2 k2 hS' hDa w3 k3 hT' hDb hS1.2.2.2.2.2.2.2⟩
      · exact absurd hf hf3
    · refine ⟨fun b hb => by simp at hb; subst hb; exact k2.blk _ (by omega) fun h => by have := hnew _ h; omega, ?_⟩
      simp (disch := omega) [-getElem?_pos, if_pos, if_neg, decide_eq_true, decide_eq_false, e5, e7]
      refine callM_use (of7_calm x) ?_
      simp (disch := omega) [-getElem?_pos, if_pos, if_neg, decide_eq_true, decide_eq_false, e5, e7]
      refine callM_write [] good_deheap_Heap_Push rfl (by unfold mind; simp) ((DPush_spec (hS1.second k2) ⟨by omega, by omega⟩ x).mono fun u H3 hq w3 hle3 => ?_)
      rcases hq with ⟨hf3, rfl, T', hDb, k3, hT'⟩ | ⟨hf3, rfl, T', hDb, k3, hT'⟩
      · exact absurd hf3 hf
      · refine ⟨by simp, ?_⟩
        simp (disch := omega) [-getElem?_pos, if_pos, if_neg, decide_eq_true, decide_eq_false, e5, e7, e53, e54, e55, IntWalk.i64_in]
        exact ⟨hin, by simp [e5], by simp [e7], by simp [e53], by simp [e54], by simp, insL Ent.lt M x, S', T', hS1.both w2 k2 hS' hDa w3 k3 hT' hDb (insL_srt isOrd hS1.2.2.2.2.2.2.2 x)⟩
  · obtain rfl : i = L.length := by omega
    simp (disch := omega) [-getElem?_pos, if_pos, if_neg, decide_eq_true, decide_eq_false, ir_law07_DeheapAlike_l3, e54, e55]
    exact ⟨rfl, e5, e7, M, S, T, hS⟩
def ACI (H : AH) (ta tb tn tk : Nat) (v w : Value) (n : Nat) (k : Nat) (env : Env) (H' : AH) : Prop := H' = H ∧ env ta = some v ∧ env tb = some w ∧ env tn = some (.int .i64 n) ∧ env tk = some (.int .i64 k)
theorem alike_l1 {p q : Nat → Prop} {H : AH} {v w : Value} {X : List Ent} (hv : EntsV p H v X) (hw : EntsV q H w X) {env : Env} (h : ACI H 13 14 143 144 v w X.length 0 env H) : wpC Try.prog 182 (.loop ir_law07_DeheapAlike_l1) (fun e _ H' => e = .exit 5 ∧ H' = H) env H := by
  refine loop_upto X.length (ACI H 13 14 143 144 v w X.length) (Q := fun e _ H' => e = .exit 5 ∧ H' = H) h ?_
  rintro k env H' hk ⟨rfl, ea, eb, en, ek⟩
  have hX := hv.2
  by_cases hkn : k < X.length
  · obtain ⟨b0, off, sp, cap, cs, rfl, q1, q2⟩ := ents_at hv.1 (by omega)
    obtain ⟨b1, off1, sp1, cap1, cs1, rfl, r1, r2⟩ := ents_at hw.1 (by omega)
    have q3 := q2 k hkn
    have r3 := r2 k hkn
    generalize getE X k = x at *
    simp only [Ent.cells] at q3 r3
    clear q2 r2
    simp (disch := omega) [-getElem?_pos, if_pos, if_neg, decide_eq_true, decide_eq_false, ir_law07_DeheapAlike_l1, ir_law07_DeheapAlike_b6, ea, eb, en, ek, q1, q3, r1, r3, hkn, eqE_key, IntWalk.i64_in]
    exact ⟨rfl, by simp [ea], by simp [eb], by simp [en], by simp⟩
  · obtain rfl : k = X.length := by omega
    simp (disch := omega) [-getElem?_pos, if_pos, if_neg, decide_eq_true, decide_eq_false, ir_law07_DeheapAlike_l1, ea, eb, en, ek]
theorem alike_l0 {p q : Nat → Prop} {H : AH} {v w : Value} {X : List Ent} (hv : EntsV p H v X) (hw : EntsV q H w X) {env : Env} (h : ACI H 20 21 168 169 v w X.length 0 env H) : wpC Try.prog 182 (.loop ir_law07_DeheapAlike_l0) (fun e _ H' => e = .exit 7 ∧ H' = H) env H := by
  refine loop_upto X.length (ACI H 20 21 168 169 v w X.length) (Q := fun e _ H' => e = .exit 7 ∧ H' = H) h ?_
  rintro k env H' hk ⟨rfl, ea, eb, en, ek⟩
  have hX := hv.2
  by_cases hkn : k < X.length
  · obtain ⟨b0, off, sp, cap, cs, rfl, q1, q2⟩ := ents_at hv.1 (by omega)
    obtain ⟨b1, off1, sp1, cap1, cs1, rfl, r1, r2⟩ := ents_at hw.1 (by omega)
    have q3 := q2 k hkn
    have r3 := r2 k hkn
    generalize getE X k = x at *
    simp only [Ent.cells] at q3 r3
    clear q2 r2
    simp (disch := omega) [-getElem?_pos, if_pos, if_neg, decide_eq_true, decide_eq_false, ir_law07_DeheapAlike_l0, ir_law07_DeheapAlike_b8, ea, eb, en, ek, q1, q3, r1, r3, hkn, eqE_key, IntWalk.i64_in]
    exact ⟨rfl, by simp [ea], by simp [eb], by simp [en], by simp⟩
  · obtain rfl : k = X.length := by omega
    simp (disch := omega) [-getElem?_pos, if_pos, if_neg, decide_eq_true, decide_eq_false, ir_law07_DeheapAlike_l0, ea, eb, en, ek]
end Go.Proofs.Ytgecnmjohhmfjaa
