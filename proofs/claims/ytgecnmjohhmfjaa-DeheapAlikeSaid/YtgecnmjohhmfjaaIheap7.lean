/-
  Contracts of package iheap (7): Build.
-/
import Derived.Test.YtgecnmjohhmfjaaIheap6
set_option maxRecDepth 100000
set_option linter.unusedSimpArgs false
set_option linter.unusedVariables false
namespace Go.Proofs.Ytgecnmjohhmfjaa
open Go Go.Abs
def buildL (l : List Ent) : List Ent := l.foldl pushL []
theorem riseL_len2 (L : List Ent) (x : Ent) : (pushL L x).length = L.length + 1 := by
  unfold pushL
  simp only
  split
  · simp [riseL_length, swapL_length]
  · split <;> simp [riseL_length]
theorem foldl_push_length : ∀ (l L : List Ent), (l.foldl pushL L).length = L.length + l.length
  | [], L => by simp
  | x :: l, L => by rw [List.foldl_cons, foldl_push_length l, riseL_len2]; simp; omega
def BuildI (H : AH) (a : Option Addr) (c : Nat) (l : List Ent) (q : Nat) (k : Nat) (env : Env) (H' : AH) : Prop :=
  env 11 = some (.slice a l.length c) ∧ env 12 = some (.int .i64 l.length) ∧ env 13 = some (.int .i64 k) ∧ env 3 = some (.pointer (some ⟨q, 0, none⟩)) ∧ WF H' ∧ Keep [] H H' ∧ H.next ≤ q ∧ ∃ S, HeapAt H' q (buildL (l.take k)) S ∧ ∀ b ∈ S, H.next ≤ b
theorem Build_spec {p : Nat → Prop} {H : AH} {v : Value} {l : List Ent} (h : Vw p H 4 v l.length (cellsE l)) (hl : l.length < 100000) : AFn Try.prog F_iheap_Build [v] H fun u H' => ∃ q S, u = .pointer (some ⟨q, 0, none⟩) ∧ HeapAt H' q (buildL l) S ∧ Keep [] H H' ∧ H.next ≤ q ∧ ∀ b ∈ S, H.next ≤ b := by
  obtain ⟨a, c, rfl⟩ := h.slice
  refine AFn.enter mixed ir_iheap_Build_eq (by simp [ir_iheap_Build]) fun hw => ?_
  simp (disch := omega) [-getElem?_pos, if_pos, if_neg, decide_eq_true, decide_eq_false, ir_iheap_Build, IntWalk.i64_in]
  have hz : (zeros [Value.int .i64 0, .int .i64 0, .int .i64 0, .int .i64 0] l.length).length = l.length * 4 := by
    induction l.length with
    | zero => rfl
    | succ n ih => simp [zeros, List.replicate_succ] at ih ⊢; omega
  generalize zeros [Value.int .i64 0, .int .i64 0, .int .i64 0, .int .i64 0] l.length = zs at *
  have hb0 : ((H.alloc (.row zs T_key_Entry true)).alloc (.row [.slice (some ⟨H.next, 0, none⟩) 0 l.length] T_iheap_Heap true)).blk H.next = some (.row zs T_key_Entry true) := by rw [AH.alloc_blk_ne (by simp), AH.alloc_blk_new]
  have hs : HeapAt ((H.alloc (.row zs T_key_Entry true)).alloc (.row [.slice (some ⟨H.next, 0, none⟩) 0 l.length] T_iheap_Heap true)) (H.next + 1) [] [H.next] :=
    ⟨_, by simp, .inr ⟨H.next, 0, none, l.length, zs, rfl, rfl, hb0, by omega, by simp, by simp [cellsE], .inl rfl⟩, by simp, by simp⟩
  refine wpC_use (loop_upto l.length (BuildI H a c l (H.next + 1)) (Q := fun ex env H' => ex = .exit 0 ∧ BuildI H a c l (H.next + 1) l.length env H') ⟨by simp, by simp, by simp, by simp, hw.alloc.alloc, .new_alloc .alloc, by omega, [H.next], by simpa [buildL] using hs, by simp⟩ ?_) fun ex env2 H2 ⟨hex, hq⟩ _ => ?_
  · rintro k env H1 hk ⟨f11, f12, f13, f3, w1, k1, hq, S, hS, hSn⟩
    by_cases hkl : k < l.length
    · have h1 := h.kept hw k1
      obtain ⟨b, off, sp, cap, cs, he, h4, h5⟩ := entries_at h1 (by omega)
      cases he
      have g1 := h5 k hkl
      have ht : buildL (l.take (k + 1)) = pushL (buildL (l.take k)) l[k] := by unfold buildL; rw [List.take_succ_eq_append_getElem hkl, List.foldl_append]; rfl
      generalize l[k] = x at *
      have hbn : (H1.alloc zeroB).blk H1.next = some zeroB := by simp
      have k2 : Keep [] H1 (H1.alloc (entB x)) := .alloc
      have hS2 := hS.kept w1 k2
      have hbl : (buildL (l.take k)).length < 100000 := by unfold buildL; rw [foldl_push_length, List.length_take]; simp; omega
      have hcx : cut [Value.int .i64 x.b, .int .i64 x.d, .int .i64 x.s, .int .i64 x.i] 0 4 = some [Value.int .i64 x.b, .int .i64 x.d, .int .i64 x.s, .int .i64 x.i] := rfl
      simp (disch := omega) [-getElem?_pos, if_pos, if_neg, decide_eq_true, decide_eq_false, ir_iheap_Build_l0, f11, f12, f13, f3, h4, g1, Ent.cells, writeA_row hbn, over, hcx, IntWalk.i64_in, show (k:Int) < l.length by omega]
      refine (Push_spec hS2 x hbl).mono' fun u H3 w3 ⟨S', h6, k6, hS'⟩ => ?_
      simp (disch := omega) [-getElem?_pos, if_pos, if_neg, decide_eq_true, decide_eq_false, f11, f12, f13, f3, IntWalk.i64_in]
      have hn1 := k1.next
      exact ⟨by omega, by simp [f11], by simp [f12], by simp, by simp [f3], w3, (k1.trans' k2).trans k6 (fun b hb hlt => by rcases List.mem_cons.1 hb with h | h; omega; have := hSn _ h; omega), hq, S', by rw [ht]; exact h6, fun b hb => by rcases hS' b hb with h | h; exact hSn _ h; simp at h; omega⟩
    · obtain rfl : k = l.length := by omega
      simp (disch := omega) [-getElem?_pos, if_pos, if_neg, decide_eq_true, decide_eq_false, ir_iheap_Build_l0, f11, f12, f13, f3]
      exact ⟨f11, f12, f13, f3, w1, k1, hq, S, hS, hSn⟩
  · subst hex
    obtain ⟨f11, f12, f13, f3, w1, k1, hq, S, hS, hSn⟩ := hq
    simp (disch := omega) [-getElem?_pos, if_pos, if_neg, decide_eq_true, decide_eq_false, f3]
    first | exact ⟨S, by simpa using hS, k1, hSn⟩ | exact ⟨S, by simpa using hS, k1, hq, hSn⟩
end Go.Proofs.Ytgecnmjohhmfjaa
