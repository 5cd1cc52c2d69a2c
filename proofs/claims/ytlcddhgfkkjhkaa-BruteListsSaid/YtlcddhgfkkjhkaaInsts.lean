/-
  The program's and the document's instance, made of plain data.
-/
import Derived.Test.YtlcddhgfkkjhkaaInst3
import Derived.Test.YtlcddhgfkkjhkaaBuild2
import Derived.Test.YtlcddhgfkkjhkaaIrR
set_option maxRecDepth 100000
set_option linter.unusedSimpArgs false
set_option linter.unusedVariables false
namespace Go.Proofs.Ytlcddhgfkkjhkaa
open Go Go.Abs
open Go.Abs.Ren (R)

def nilS : Value := .slice none 0 0
/-- Both instances, while they are made. -/
structure TwoL (H0 H' : AH) (n : Nat) (x : InstD) (ia ca sa ib cb sb : Value) : Prop where
  wf : WF H'
  keep : Keep [] H0 H'
  b2 : H'.blk (n + 1) = some (.row [.int .i64 0, .int .i64 0, nilS, nilS, .int .i64 0, nilS] T_inst_Inst true)
  b3 : H'.blk (n + 2) = some (.row [.int .i64 0, .int .i64 0, nilS, nilS, .int .i64 0, nilS] T_secateurref09_Inst true)
  b4 : H'.blk (n + 3) = some (.row (instC x ia ca sa) T_inst_Inst true)
  b5 : H'.blk (n + 4) = some (.row (instC x ib cb sb) T_secateurref09_Inst true)
  hn : n + 5 ≤ H'.next
/-- Blocks behind some numbers. -/
abbrev From (m : Nat) : Nat → Prop := fun b => m ≤ b

def ItI (H0 H1 : AH) (n : Nat) (x : InstD) (iv : Value) (L : List (Int × Int)) (k : Nat) (env : Env) (H' : AH) : Prop :=
  env 4 = some (.pointer (some ⟨n + 3, 0, none⟩)) ∧ env 5 = some (.pointer (some ⟨n + 4, 0, none⟩)) ∧ env 33 = some iv ∧ env 34 = some (.int .i64 L.length) ∧ env 35 = some (.int .i64 k) ∧ Keep [n + 3, n + 4] H1 H' ∧
    ∃ ia ib S T, TwoL H0 H' n x ia nilS nilS ib nilS nilS ∧ OwnL (fun _ => False) H' T_inst_Item ia (L.take k) S ∧ OwnL (fun _ => False) H' T_2_int64 ib (L.take k) T ∧ (∀ b ∈ S, H1.next ≤ b) ∧ (∀ b ∈ T, H1.next ≤ b) ∧ ∀ b ∈ S, b ∉ T
def ItQ (H0 H1 : AH) (n : Nat) (x : InstD) (L : List (Int × Int)) (e : AExit) (env : Env) (H' : AH) : Prop :=
  e = .exit 0 ∧ Keep [n + 3, n + 4] H1 H' ∧ ∃ ia ib S T, TwoL H0 H' n x ia nilS nilS ib nilS nilS ∧ OwnL (fun _ => False) H' T_inst_Item ia L S ∧ OwnL (fun _ => False) H' T_2_int64 ib L T ∧ (∀ b ∈ S, H1.next ≤ b) ∧ (∀ b ∈ T, H1.next ≤ b) ∧ ∀ b ∈ S, b ∉ T

theorem take_snoc {α : Type} {L : List α} {k : Nat} (h : k < L.length) : L.take (k + 1) = L.take k ++ [L[k]] := by rw [List.take_succ_eq_append_getElem h]

theorem insts_l2 {H0 H1 : AH} {n : Nat} {x : InstD} {iv : Value} {L : List (Int × Int)} (hw : WF H1) (h0 : H0.next = n) (h1 : n + 5 ≤ H1.next) (hL : SlV (fun b => b < n) H1 iv L) (hl : L.length ≤ 100) {env : Env} (h : ItI H0 H1 n x iv L 0 env H1) :
    wpC Try.prog 130 (.loop ir_law13_insts_l2) (ItQ H0 H1 n x L) env H1 := by
  refine loop_upto L.length (ItI H0 H1 n x iv L) (Q := ItQ H0 H1 n x L) h ?_
  rintro k env H' hk ⟨e4, e5, e33, e34, e35, k', ia, ib, S, T, hT, hA, hB, hS, hTT, hST⟩
  have hn1 := k'.next
  by_cases hkn : k < L.length
  · have hL' : SlV (fun b => b < n) H' iv L := hL.sub (.keep hw k' (fun b hb => by simp at hb; omega))
    obtain ⟨b0, off, sp, cap, cs, rfl, q1, q2⟩ := pairs_rd hL' (by omega)
    obtain ⟨q3, q4, q5, q6, q7⟩ := q2 k hkn
    have hsn := take_snoc hkn
    have hlk : (L.take k).length = k := by rw [List.length_take]; omega
    generalize L[k] = y at *
    obtain ⟨y1, y2⟩ := y
    simp only at q3 q4 q5 q6 q7
    have hAb := hA.blkOf
    have hBb := hB.blkOf
    have hAn := hA.lt hT.wf
    have hBn := hB.lt hT.wf
    have hbz : (H'.alloc (.row [.int .i64 0, .int .i64 0] T_2_int64 true)).blk H'.next = some (.row [.int .i64 0, .int .i64 0] T_2_int64 true) := AH.alloc_blk_new
    have c4 := AH.cells_of hT.b4
    have c5 := AH.cells_of hT.b5
    have hn := hT.hn
    have hcx : cut [Value.int .i64 y1, .int .i64 y2] 0 2 = some [Value.int .i64 y1, .int .i64 y2] := rfl
    simp (disch := omega) [-getElem?_pos, if_pos, if_neg, decide_eq_true, decide_eq_false, ir_law13_insts_l2, e4, e5, e33, e34, e35, q1, q3, writeA_row hbz, over, hcx, c4, c5, IntWalk.i64_in]
    have hS1 : S = [] ∨ ∃ b, S = [b] ∧ b < H'.next ∧ H1.next ≤ b := by
      rcases hA.nil_or with h | ⟨b, h⟩
      · exact .inl h
      · exact .inr ⟨b, h, hAn b (by rw [h]; simp), hS b (by rw [h]; simp)⟩
    generalize hHb : AH.set (AH.room _ _) _ _ = Hb
    have kb : Keep [] H' Hb := by rw [← hHb]; exact .new_set (by omega) (.trans' .alloc .room)
    have wb : WF Hb := by rw [← hHb]; refine WF.set (WF.room (WF.alloc hT.wf)) ?_; simp
    have nb : Hb.next = H'.next + 19 := by rw [← hHb]; simp
    have cb7 : Hb.cells (H'.next + 1 + 7) = some [.int .i64 y1, .int .i64 y2] := by rw [← hHb]; exact AH.cells_set_same
    clear hHb
    have hy : R (fun _ => False) Hb [.int .i64 y1, .int .i64 y2] (y1, y2) := ⟨rfl, q6, q7⟩
    obtain ⟨b1, o1, s1, c1, Hc, p1, hA', n1, f1, i1⟩ := (hA.kept hT.wf kb).pushAt (id := H'.next + 1 + 8) (by omega) hy 16 (fun _ h => h) (fun b h => h.elim) (by omega) (by omega)
    have wc : WF Hc := wb.at n1 (by omega) (fun b hb => by have := hAn b hb; omega) f1
    obtain ⟨He, hHe⟩ : ∃ He, He = Hc.set (H'.next + 1 + 12) (.row [.int .i64 y1, .int .i64 y2] T_2_int64 true) := ⟨_, rfl⟩
    have we : WF He := by rw [hHe]; exact wc.set (by omega)
    have ne : He.next = H'.next + 19 := by rw [hHe]; show Hc.next = _; omega
    have fe : ∀ b, b < H'.next → b ∉ S → He.blk b = H'.blk b := fun b hb hs => by
      rw [hHe, AH.set_blk_ne (by omega), f1 b (by omega) hs, kb.blk b hb (by simp)]
    have ce12 : He.cells (H'.next + 1 + 12) = some [.int .i64 y1, .int .i64 y2] := by rw [hHe]; exact AH.cells_set_same
    have hBe : OwnL (fun _ => False) He T_2_int64 ib (L.take k) T := hB.over (fun b h => h.elim) fun b hb => fe b (hBn b hb) fun h => hST b h hb
    have hy2 : R (fun _ => False) He [.int .i64 y1, .int .i64 y2] (y1, y2) := ⟨rfl, q6, q7⟩
    obtain ⟨b2, o2, s2, c2, Hd, p2, hB', n2, f2, i2⟩ := hBe.pushAt (id := H'.next + 1 + 13) (by omega) hy2 16 (fun _ h => h) (fun b h => h.elim) (by omega) (by omega)
    have wd : WF Hd := we.at n2 (by omega) (fun b hb => by have := hBn b hb; omega) f2
    have hb1 : b1 = H'.next + 1 + 8 ∨ S = [b1] := i1.symm
    have hb2 : b2 = H'.next + 1 + 13 ∨ T = [b2] := i2.symm
    have b1l : b1 < Hd.next ∧ H1.next ≤ b1 := by
      rcases hb1 with h | h
      · omega
      · have := hAn b1 (by rw [h]; simp); have := hS b1 (by rw [h]; simp); omega
    have b2l : b2 < Hd.next ∧ H1.next ≤ b2 := by
      rcases hb2 with h | h
      · omega
      · have := hBn b2 (by rw [h]; simp); have := hTT b2 (by rw [h]; simp); omega
    have b1n : b1 ∉ T ∧ b1 ≠ H'.next + 1 + 13 ∧ b1 ≠ H'.next + 1 + 12 := by
      rcases hb1 with rfl | h
      · exact ⟨fun h => by have := hBn _ h; omega, by omega, by omega⟩
      · have := hAn b1 (by rw [h]; simp); exact ⟨hST b1 (by rw [h]; simp), by omega, by omega⟩
    have b12 : b1 ≠ b2 := by
      rcases hb2 with h | h
      · rw [h]; exact b1n.2.1
      · exact fun e => b1n.1 (by rw [h, e]; simp)
    have fd : ∀ b, b < H'.next → b ∉ S → b ∉ T → Hd.blk b = H'.blk b := fun b hb hs ht => by rw [f2 b (by omega) ht, fe b hb hs]
    have hvar : ∀ b, b < n + 5 → b ∉ S ∧ b ∉ T := fun b hb => ⟨fun h => by have := hS b h; omega, fun h => by have := hTT b h; omega⟩
    have d4 : Hd.blk (n + 3) = some (.row (instC x ia nilS nilS) T_inst_Inst true) := by rw [fd _ (by omega) (hvar _ (by omega)).1 (hvar _ (by omega)).2]; exact hT.b4
    have d5 : Hd.blk (n + 4) = some (.row (instC x ib nilS nilS) T_secateurref09_Inst true) := by rw [fd _ (by omega) (hvar _ (by omega)).1 (hvar _ (by omega)).2]; exact hT.b5
    have hAd : OwnL (fun _ => False) Hd T_inst_Item (.slice (some ⟨b1, o1, s1⟩) ((L.take k).length + 1) c1) (L.take k ++ [(y1, y2)]) [b1] := hA'.over (fun b h => h.elim) fun b hb => by
      simp at hb; subst hb
      rw [f2 b b1n.2.1 b1n.1, hHe, AH.set_blk_ne b1n.2.2]
    rw [← hsn] at hAd hB'
    rw [hlk] at hAd hB' p1 p2
    obtain ⟨Hf, hHf⟩ : ∃ Hf, Hf = (Hd.set (n + 3) (.row (instC x (.slice (some ⟨b1, o1, s1⟩) (k + 1) c1) nilS nilS) T_inst_Inst true)).set (n + 4) (.row (instC x (.slice (some ⟨b2, o2, s2⟩) (k + 1) c2) nilS nilS) T_secateurref09_Inst true) := ⟨_, rfl⟩
    have ff : ∀ b, b ≠ n + 3 → b ≠ n + 4 → Hf.blk b = Hd.blk b := fun b h3 h4 => by rw [hHf, AH.set_blk_ne h4, AH.set_blk_ne h3]
    have wf' : WF Hf := by rw [hHf]; exact (wd.set (by omega)).set (by simp; omega)
    have nf : Hf.next = H'.next + 19 := by rw [hHf]; show Hd.next = _; omega
    have hTf : TwoL H0 Hf n x (.slice (some ⟨b1, o1, s1⟩) (k + 1) c1) nilS nilS (.slice (some ⟨b2, o2, s2⟩) (k + 1) c2) nilS nilS := by
      refine ⟨wf', ⟨by omega, fun b hb _ => ?_⟩, ?_, ?_, ?_, by rw [hHf]; exact AH.set_blk_same, by omega⟩
      · rw [ff b (by omega) (by omega), fd b (by omega) (hvar _ (by omega)).1 (hvar _ (by omega)).2, hT.keep.blk b hb (by simp)]
      · rw [ff _ (by omega) (by omega), fd _ (by omega) (hvar _ (by omega)).1 (hvar _ (by omega)).2, hT.b2]
      · rw [ff _ (by omega) (by omega), fd _ (by omega) (hvar _ (by omega)).1 (hvar _ (by omega)).2, hT.b3]
      · rw [hHf, AH.set_blk_ne (by omega), AH.set_blk_same]
    have hAf : OwnL (fun _ => False) Hf T_inst_Item (.slice (some ⟨b1, o1, s1⟩) (k + 1) c1) (L.take (k + 1)) [b1] := hAd.over (fun b h => h.elim) fun b hb => by simp at hb; subst hb; exact ff b (by omega) (by omega)
    have hBf : OwnL (fun _ => False) Hf T_2_int64 (.slice (some ⟨b2, o2, s2⟩) (k + 1) c2) (L.take (k + 1)) [b2] := hB'.over (fun b h => h.elim) fun b hb => by simp at hb; subst hb; exact ff b (by omega) (by omega)
    have hKf : Keep [n + 3, n + 4] H1 Hf := by
      refine ⟨by omega, fun b hb hs => ?_⟩
      simp at hs
      rw [ff b hs.1 hs.2, fd b (by omega) (fun h => by have := hS b h; omega) (fun h => by have := hTT b h; omega), k'.blk b hb (by simp; omega)]
    simp only [sz_pair] at p1 p2
    have hx1 : (1 : Nat) * 2 = 2 := rfl
    have hc12 : Hc.next = H'.next + 19 := by omega
    have w4 := writeA_row (off := 2) (news := [Value.slice (some ⟨b1, o1, s1⟩) (k + 1) c1]) d4
    have d5' : (Hd.set (n + 3) (.row (instC x (.slice (some ⟨b1, o1, s1⟩) (k + 1) c1) nilS nilS) T_inst_Inst true)).blk (n + 4) = some (.row (instC x ib nilS nilS) T_secateurref09_Inst true) := by rw [AH.set_blk_ne (by omega)]; exact d5
    have w5 := writeA_row (off := 2) (news := [Value.slice (some ⟨b2, o2, s2⟩) (k + 1) c2]) d5'
    simp only [over, List.take_succ_cons, List.take_zero, List.drop_succ_cons, List.drop_zero, List.length_cons, List.length_nil, List.cons_append, List.nil_append] at w4 w5
    rcases hS1 with rfl | ⟨bs, rfl, hbs, hbs2⟩
    all_goals
      simp (disch := omega) [-getElem?_pos, if_pos, if_neg, decide_eq_true, decide_eq_false, elemsA, cb7, hcx, hx1, p1, hAb, hBb, hc12, ← hHe, ce12, p2, w4, w5, e4, e5, e33, e34, e35, IntWalk.i64_in]
      rw [← hHf]
      exact ⟨hkn, by simp [e4], by simp [e5], by simp [e33], by simp [e34], by simp, hKf, _, _, [b1], [b2], hTf, hAf, hBf, by simp; exact b1l.2, by simp; exact b2l.2, by simpa using b12⟩
  · obtain rfl : k = L.length := by omega
    simp (disch := omega) [-getElem?_pos, if_pos, if_neg, decide_eq_true, decide_eq_false, ir_law13_insts_l2, e34, e35]
    rw [List.take_length] at hA hB
    exact ⟨rfl, k', ia, ib, S, T, hT, hA, hB, hS, hTT, hST⟩

/-- Both variables are written. -/
theorem two_fin {H0 H1 H' Hd : AH} {n c : Nat} {x : InstD} {ia ca sa ib cb sb va vb : Value} {S T : List Nat} {ia' ca' sa' ib' cb' sb' : Value} (h0 : H0.next = n) (h1 : n + 5 ≤ H1.next) (hT : TwoL H0 H' n x ia ca sa ib cb sb) (k' : Keep [n + 3, n + 4] H1 H')
    (wd : WF Hd) (nd : H'.next ≤ Hd.next) (hS : ∀ b ∈ S, H1.next ≤ b) (hTT : ∀ b ∈ T, H1.next ≤ b) (fd : ∀ b, b < H'.next → b ∉ S → b ∉ T → Hd.blk b = H'.blk b)
    (hc : over (instC x ia ca sa) c [va] = instC x ia' ca' sa') (hc' : over (instC x ib cb sb) c [vb] = instC x ib' cb' sb') (hc6 : c < 6) :
    ∃ Hx Hf, writeA Hd (n + 3) c [va] = some Hx ∧ writeA Hx (n + 4) c [vb] = some Hf ∧ TwoL H0 Hf n x ia' ca' sa' ib' cb' sb' ∧ Keep [n + 3, n + 4] H1 Hf ∧ Hf.next = Hd.next ∧ ∀ b, b ≠ n + 3 → b ≠ n + 4 → Hf.blk b = Hd.blk b := by
  have hn1 := k'.next
  have hvar : ∀ b, b < n + 5 → b ∉ S ∧ b ∉ T := fun b hb => ⟨fun h => by have := hS b h; omega, fun h => by have := hTT b h; omega⟩
  have hn := hT.hn
  have d4 : Hd.blk (n + 3) = some (.row (instC x ia ca sa) T_inst_Inst true) := by rw [fd _ (by omega) (hvar _ (by omega)).1 (hvar _ (by omega)).2]; exact hT.b4
  have d5 : Hd.blk (n + 4) = some (.row (instC x ib cb sb) T_secateurref09_Inst true) := by rw [fd _ (by omega) (hvar _ (by omega)).1 (hvar _ (by omega)).2]; exact hT.b5
  have w4 := writeA_row (off := c) (news := [va]) d4
  rw [if_pos (by simp; omega), hc] at w4
  have d5' : (Hd.set (n + 3) (.row (instC x ia' ca' sa') T_inst_Inst true)).blk (n + 4) = some (.row (instC x ib cb sb) T_secateurref09_Inst true) := by rw [AH.set_blk_ne (by omega)]; exact d5
  have w5 := writeA_row (off := c) (news := [vb]) d5'
  rw [if_pos (by simp; omega), hc'] at w5
  have ff : ∀ b, b ≠ n + 3 → b ≠ n + 4 → ((Hd.set (n + 3) (.row (instC x ia' ca' sa') T_inst_Inst true)).set (n + 4) (.row (instC x ib' cb' sb') T_secateurref09_Inst true)).blk b = Hd.blk b := fun b h3 h4 => by rw [AH.set_blk_ne h4, AH.set_blk_ne h3]
  refine ⟨_, _, w4, w5, ⟨(wd.set (by omega)).set (by simp; omega), ⟨?_, fun b hb _ => ?_⟩, ?_, ?_, ?_, AH.set_blk_same, ?_⟩, ⟨?_, fun b hb hs => ?_⟩, rfl, ff⟩
  · have := hT.keep.next; simp; omega
  · rw [ff b (by omega) (by omega), fd b (by omega) (hvar _ (by omega)).1 (hvar _ (by omega)).2, hT.keep.blk b hb (by simp)]
  · rw [ff _ (by omega) (by omega), fd _ (by omega) (hvar _ (by omega)).1 (hvar _ (by omega)).2, hT.b2]
  · rw [ff _ (by omega) (by omega), fd _ (by omega) (hvar _ (by omega)).1 (hvar _ (by omega)).2, hT.b3]
  · rw [AH.set_blk_ne (by omega), AH.set_blk_same]
  · simp; omega
  · simp; omega
  · simp at hs
    rw [ff b hs.1 hs.2, fd b (by omega) (fun h => by have := hS b h; omega) (fun h => by have := hTT b h; omega), k'.blk b hb (by simp; omega)]

/-! ### rows -/
/-- Where the elements' own blocks are. -/
def EB (m : Nat) (H' : AH) (S T : List Nat) : Nat → Prop := fun b => m ≤ b ∧ b < H'.next ∧ b ∉ S ∧ b ∉ T
def RoI (H0 H1 : AH) (n : Nat) (x : InstD) (ia ib : Value) (cv : Value) (L : List (List Int)) (k : Nat) (env : Env) (H' : AH) : Prop :=
  env 4 = some (.pointer (some ⟨n + 3, 0, none⟩)) ∧ env 5 = some (.pointer (some ⟨n + 4, 0, none⟩)) ∧ env 62 = some cv ∧ env 63 = some (.int .i64 L.length) ∧ env 64 = some (.int .i64 k) ∧ Keep [n + 3, n + 4] H1 H' ∧
    ∃ ca cb S T, TwoL H0 H' n x ia ca nilS ib cb nilS ∧ OwnL (EB H1.next H' S T) H' T_Lint64 ca ((L.map (·.take 70)).take k) S ∧ OwnL (EB H1.next H' S T) H' T_Lint64 cb ((L.map (·.take 70)).take k) T ∧ (∀ b ∈ S, H1.next ≤ b) ∧ (∀ b ∈ T, H1.next ≤ b) ∧ ∀ b ∈ S, b ∉ T
def RoQ (H0 H1 : AH) (n : Nat) (x : InstD) (ia ib : Value) (L : List (List Int)) (e : AExit) (env : Env) (H' : AH) : Prop :=
  e = .exit 2 ∧ Keep [n + 3, n + 4] H1 H' ∧ ∃ ca cb S T, TwoL H0 H' n x ia ca nilS ib cb nilS ∧ OwnL (EB H1.next H' S T) H' T_Lint64 ca (L.map (·.take 70)) S ∧ OwnL (EB H1.next H' S T) H' T_Lint64 cb (L.map (·.take 70)) T ∧ (∀ b ∈ S, H1.next ≤ b) ∧ (∀ b ∈ T, H1.next ≤ b) ∧ ∀ b ∈ S, b ∉ T

theorem insts_l1 {H0 H1 : AH} {n : Nat} {x : InstD} {ia ib cv : Value} {L : List (List Int)} (hw : WF H1) (h0 : H0.next = n) (h1 : n + 5 ≤ H1.next) (hL : SlV (fun b => b < n) H1 cv L) (hl : L.length ≤ 100) {env : Env} (h : RoI H0 H1 n x ia ib cv L 0 env H1) :
    wpC Try.prog 130 (.loop ir_law13_insts_l1) (RoQ H0 H1 n x ia ib L) env H1 := by
  refine loop_upto L.length (RoI H0 H1 n x ia ib cv L) (Q := RoQ H0 H1 n x ia ib L) h ?_
  rintro k env H' hk ⟨e4, e5, e62, e63, e64, k', ca, cb, S, T, hT, hA, hB, hS, hTT, hST⟩
  have hn1 := k'.next
  by_cases hkn : k < L.length
  · have hL' : SlV (fun b => b < n) H' cv L := hL.sub (.keep hw k' (fun b hb => by simp at hb; omega))
    obtain ⟨b0, off, sp, cap, cs, rfl, q1, q2⟩ := rows_rd hL' (by omega)
    obtain ⟨yv, q3, q4⟩ := q2 k hkn
    have hsn : (L.map (·.take 70)).take (k + 1) = (L.map (·.take 70)).take k ++ [L[k].take 70] := by rw [take_snoc (by simpa using hkn), List.getElem_map]
    have hlk : ((L.map (·.take 70)).take k).length = k := by rw [List.length_take, List.length_map]; omega
    generalize L[k] = y at *
    obtain ⟨m, hm⟩ : ∃ m : Nat, m = min y.length 70 := ⟨_, rfl⟩
    obtain ⟨zv, hsl, hz⟩ := q4.sl (m := m) (by omega)
    have hym : y.take m = y.take 70 := by
      by_cases hc : 70 ≤ y.length
      · rw [show m = 70 by omega]
      · rw [List.take_of_length_le (by omega), List.take_of_length_le (by omega)]
    rw [hym] at hz
    have hzl : (y.take 70).length = m := by rw [List.length_take]; omega
    generalize y.take 70 = z at *
    obtain ⟨ya, yc, rfl⟩ := q4.slice
    have hmm : (if (70 : Int) < (y.length : Int) then (70 : Int) else (y.length : Int)) = (m : Int) := by split <;> omega
    have hAb := hA.blkOf
    have hBb := hB.blkOf
    have hAn := hA.lt hT.wf
    have hBn := hB.lt hT.wf
    have c4 := AH.cells_of hT.b4
    have c5 := AH.cells_of hT.b5
    have hn := hT.hn
    obtain ⟨za, zc, w1, Ha, rfl, hze, hp1, hw1, hna, hfa, hwc1⟩ := copyAt (hz.kept hT.wf (.room (m := 16))) (id := H'.next + 3) (by simp) (ty := T_int64) (by omega)
    simp only [sz_int] at hsl
    simp (disch := omega) [-getElem?_pos, if_pos, if_neg, decide_eq_true, decide_eq_false, ir_law13_insts_l1, e4, e5, e62, e63, e64, q1, q3, ↓ieval_slhi, hmm, hsl, c4, c5, hze, hp1, IntWalk.i64_in]
    have han : Ha.next = H'.next + 16 := by simpa using hna
    have hN : ∀ j, j < 16 → H'.next + j < Ha.next := fun j hj => by omega
    have wa : WF Ha := (WF.room hT.wf (m := 16)).at (S := []) hna (by simp) (by simp) fun b hb _ => hfa b hb
    obtain ⟨Hb, hHb⟩ : ∃ Hb, Hb = Ha.set (H'.next + 4) (.row [w1] T_Lint64 true) := ⟨_, rfl⟩
    have wb : WF Hb := by rw [hHb]; exact wa.set (hN 4 (by omega))
    have nb : Hb.next = H'.next + 16 := by rw [hHb]; simpa using hna
    have fb : ∀ b, b < H'.next → Hb.blk b = H'.blk b := fun b hb => by rw [hHb, AH.set_blk_ne (by omega), hfa b (by omega)]; rfl
    have cb4 : Hb.cells (H'.next + 4) = some [w1] := by rw [hHb]; exact AH.cells_set_same
    have hw1b : SlV (fun b => b = H'.next + 3) Hb w1 z := hw1.sub fun b hb cs hc => by
      subst hb
      rw [hHb, AH.cells_set_ne (by omega)]; exact hc
    have hEB : ∀ b, EB H1.next H' S T b → b < H'.next := fun b h => h.2.1
    have hAb' : OwnL (EB H1.next H' S T) Hb T_Lint64 ca ((L.map (·.take 70)).take k) S := hA.over (fun b hb => fb b (hEB b hb)) fun b hb => fb b (hAn b hb)
    obtain ⟨b1, o1, s1, c1, Hc, p1, hA', n1, f1, i1⟩ := hAb'.pushAt (id := H'.next + 5) (q := fun b => EB H1.next H' S T b ∨ b = H'.next + 3) (by omega) (cs := [w1]) (a := z) ⟨w1, rfl, hw1b.mono fun b hb => .inr hb⟩ 24 (fun b hb => .inl hb)
      (fun b hb => by rcases hb with hb | hb; exact ⟨by have := hEB b hb; omega, hb.2.2.1⟩; exact ⟨by omega, fun h => by have := hAn b h; omega⟩) (by omega) (by omega)
    have wc : WF Hc := wb.at n1 (by omega) (fun b hb => by have := hAn b hb; omega) f1
    have fc : ∀ b, b < H'.next → b ∉ S → Hc.blk b = H'.blk b := fun b hb hs => by rw [f1 b (by omega) hs, fb b hb]
    have hzc : SlV (fun b => b < n) Hc (.slice za z.length zc) z := hz.sub fun b hb cs hc => by
      unfold AH.cells at hc ⊢
      rw [fc b (by omega) (fun h => by have := hS b h; omega)]; exact hc
    obtain ⟨za', zc', w2, Hd, hzz, hze2, hp2, hw2, hnd, hfd, hwc2⟩ := copyAt hzc (id := H'.next + 9) (by omega) (ty := T_int64) (by omega)
    cases hzz
    have wd : WF Hd := wc.at (S := []) hnd (by omega) (by simp) fun b hb _ => hfd b hb
    obtain ⟨He, hHe⟩ : ∃ He, He = Hd.set (H'.next + 10) (.row [w2] T_Lint64 true) := ⟨_, rfl⟩
    have we : WF He := by rw [hHe]; exact wd.set (by omega)
    have ne : He.next = H'.next + 16 := by rw [hHe]; show Hd.next = _; omega
    have ce10 : He.cells (H'.next + 10) = some [w2] := by rw [hHe]; exact AH.cells_set_same
    have fe : ∀ b, b ≠ H'.next + 9 → b ≠ H'.next + 10 → He.blk b = Hc.blk b := fun b h1 h2 => by rw [hHe, AH.set_blk_ne h2, hfd b h1]
    have hw2e : SlV (fun b => b = H'.next + 9) He w2 z := hw2.sub fun b hb cs hc => by
      subst hb
      rw [hHe, AH.cells_set_ne (by omega)]; exact hc
    have hBe : OwnL (EB H1.next H' S T) He T_Lint64 cb ((L.map (·.take 70)).take k) T := hB.over (fun b hb => by rw [fe b (by have := hEB b hb; omega) (by have := hEB b hb; omega), fc b (hEB b hb) hb.2.2.1])
      fun b hb => by rw [fe b (by have := hBn b hb; omega) (by have := hBn b hb; omega), fc b (hBn b hb) fun h => hST b h hb]
    obtain ⟨b2, o2, s2, c2, Hg, p2, hB', n2, f2, i2⟩ := hBe.pushAt (id := H'.next + 11) (q := fun b => EB H1.next H' S T b ∨ b = H'.next + 9) (by omega) (cs := [w2]) (a := z) ⟨w2, rfl, hw2e.mono fun b hb => .inr hb⟩ 24 (fun b hb => .inl hb)
      (fun b hb => by rcases hb with hb | hb; exact ⟨by have := hEB b hb; omega, hb.2.2.2⟩; exact ⟨by omega, fun h => by have := hBn b h; omega⟩) (by omega) (by omega)
    have wg : WF Hg := we.at n2 (by omega) (fun b hb => by have := hBn b hb; omega) f2
    have ng : Hg.next = H'.next + 16 := by omega
    have fg : ∀ b, b < H'.next → b ∉ S → b ∉ T → Hg.blk b = H'.blk b := fun b hb hs ht => by rw [f2 b (by omega) ht, fe b (by omega) (by omega), fc b hb hs]
    rw [← hsn] at hA' hB'
    rw [hlk] at hA' hB' p1 p2
    obtain ⟨Hx, Hf, w4, w5, hTf, hKf, nf, ff⟩ := two_fin (c := 3) (va := .slice (some ⟨b1, o1, s1⟩) (k + 1) c1) (vb := .slice (some ⟨b2, o2, s2⟩) (k + 1) c2) (ia' := ia) (ca' := .slice (some ⟨b1, o1, s1⟩) (k + 1) c1) (sa' := nilS) (ib' := ib) (cb' := .slice (some ⟨b2, o2, s2⟩) (k + 1) c2) (sb' := nilS) h0 h1 hT k' wg (by omega) hS hTT fg rfl rfl (by omega)
    have hb1 : b1 = H'.next + 5 ∨ S = [b1] := i1.symm
    have hb2 : b2 = H'.next + 11 ∨ T = [b2] := i2.symm
    have b1l : (b1 < H'.next ∨ b1 = H'.next + 5) ∧ H1.next ≤ b1 ∧ b1 ∉ T := by
      rcases hb1 with h | h
      · exact ⟨.inr h, by omega, fun h' => by have := hBn _ h'; omega⟩
      · have := hAn b1 (by rw [h]; simp)
        exact ⟨.inl this, hS b1 (by rw [h]; simp), hST b1 (by rw [h]; simp)⟩
    have b2l : (b2 < H'.next ∨ b2 = H'.next + 11) ∧ H1.next ≤ b2 ∧ b2 ∉ S := by
      rcases hb2 with h | h
      · exact ⟨.inr h, by omega, fun h' => by have := hAn _ h'; omega⟩
      · have := hBn b2 (by rw [h]; simp)
        exact ⟨.inl this, hTT b2 (by rw [h]; simp), fun h' => hST b2 h' (by rw [h]; simp)⟩
    have b12 : b1 ≠ b2 := by
      rcases hb2 with h | h
      · rcases b1l.1 with h' | h' <;> omega
      · exact fun e => b1l.2.2 (by rw [h, e]; simp)
    have hq1 : ∀ b, (EB H1.next H' S T b ∨ b = H'.next + 3) → EB H1.next Hf [b1] [b2] b := fun b hb => by
      rcases hb with hb | hb
      · refine ⟨hb.1, by have := hb.2.1; omega, ?_, ?_⟩
        · simp; intro e; rcases hb1 with h | h
          · have := hb.2.1; omega
          · exact hb.2.2.1 (by rw [h, e]; simp)
        · simp; intro e; rcases hb2 with h | h
          · have := hb.2.1; omega
          · exact hb.2.2.2 (by rw [h, e]; simp)
      · refine ⟨by omega, by omega, ?_, ?_⟩
        · simp; rcases b1l.1 with h | h <;> omega
        · simp; rcases b2l.1 with h | h <;> omega
    have hq2 : ∀ b, (EB H1.next H' S T b ∨ b = H'.next + 9) → EB H1.next Hf [b1] [b2] b := fun b hb => by
      rcases hb with hb | hb
      · exact hq1 b (.inl hb)
      · refine ⟨by omega, by omega, ?_, ?_⟩
        · simp; rcases b1l.1 with h | h <;> omega
        · simp; rcases b2l.1 with h | h <;> omega
    have fgc : ∀ b, b ≠ H'.next + 9 → b ≠ H'.next + 10 → b ≠ H'.next + 11 → b ∉ T → Hf.blk b = Hc.blk b ∨ b = n + 3 ∨ b = n + 4 := fun b g1 g2 g3 g4 => by
      by_cases e3 : b = n + 3
      · exact .inr (.inl e3)
      · by_cases e4 : b = n + 4
        · exact .inr (.inr e4)
        · exact .inl (by rw [ff b e3 e4, f2 b g3 g4, fe b g1 g2])
    have hAf : OwnL (EB H1.next Hf [b1] [b2]) Hf T_Lint64 (.slice (some ⟨b1, o1, s1⟩) (k + 1) c1) ((L.map (·.take 70)).take (k + 1)) [b1] := by
      refine hA'.up hq1 (fun b hb cs hc => ?_) (fun b hb => ?_) (fun b hb => by simp at hb; subst hb; exact fun h => h.2.2.1 (by simp))
      · unfold AH.cells at hc ⊢
        have g : Hf.blk b = Hc.blk b := by
          have hbl : b < H'.next + 4 ∧ H1.next ≤ b ∧ b ∉ T := by
            rcases hb with hb | hb
            · exact ⟨by have := hb.2.1; omega, hb.1, hb.2.2.2⟩
            · exact ⟨by omega, by omega, fun h => by have := hBn b h; omega⟩
          rcases fgc b (by omega) (by omega) (by omega) hbl.2.2 with g | g | g
          · exact g
          · omega
          · omega
        rw [g]; exact hc
      · simp at hb; subst hb
        rcases fgc b (by rcases b1l.1 with h | h <;> omega) (by rcases b1l.1 with h | h <;> omega) (by rcases b1l.1 with h | h <;> omega) b1l.2.2 with g | g | g
        · exact g
        · omega
        · omega
    have hBf : OwnL (EB H1.next Hf [b1] [b2]) Hf T_Lint64 (.slice (some ⟨b2, o2, s2⟩) (k + 1) c2) ((L.map (·.take 70)).take (k + 1)) [b2] := by
      refine hB'.up hq2 (fun b hb cs hc => ?_) (fun b hb => ?_) (fun b hb => by simp at hb; subst hb; exact fun h => h.2.2.2 (by simp))
      · unfold AH.cells at hc ⊢
        have hbl : H1.next ≤ b := by
          rcases hb with hb | hb
          · exact hb.1
          · omega
        rw [ff b (by omega) (by omega)]; exact hc
      · simp at hb; subst hb
        exact ff b (by omega) (by omega)
    have hS1 : S = [] ∨ ∃ b, S = [b] ∧ b < H'.next ∧ H1.next ≤ b := by
      rcases hA.nil_or with h | ⟨b, h⟩
      · exact .inl h
      · exact .inr ⟨b, h, hAn b (by rw [h]; simp), hS b (by rw [h]; simp)⟩
    simp only [sz_list] at p1 p2
    have hcn : Hc.next = H'.next + 16 := by omega
    have hdn : Hd.next = H'.next + 16 := by omega
    have hE4 : elemsA Hb 1 (.slice (some ⟨H'.next + 4, 0, none⟩) 1 1) = some [w1] := by simp [elemsA, cb4, cut]
    have hE10 : elemsA He 1 (.slice (some ⟨H'.next + 10, 0, none⟩) 1 1) = some [w2] := by simp [elemsA, ce10, cut]
    rcases hS1 with rfl | ⟨bs, rfl, hbs, hbs2⟩
    all_goals
      simp (disch := omega) [-getElem?_pos, if_pos, if_neg, decide_eq_true, decide_eq_false, hwc1.2, hwc2.2, hwc1.1, hwc2.1, over, hN, han, ← hHb, hE4, p1, hAb, hBb, hcn, hze2, hp2, hdn, ← hHe, hE10, p2, w4, w5, e4, e5, e62, e63, e64, IntWalk.i64_in]
      exact ⟨hkn, by simp [e4], by simp [e5], by simp [e62], by simp [e63], by simp, hKf, _, _, [b1], [b2], hTf, hAf, hBf, by simp; exact b1l.2.1, by simp; exact b2l.2.1, by simpa using b12⟩
  · obtain rfl : k = L.length := by omega
    simp (disch := omega) [-getElem?_pos, if_pos, if_neg, decide_eq_true, decide_eq_false, ir_law13_insts_l1, e63, e64]
    rw [List.take_of_length_le (by simp)] at hA hB
    exact ⟨rfl, k', ca, cb, S, T, hT, hA, hB, hS, hTT, hST⟩

theorem TwoL.kept {H0 H' H2 : AH} {n : Nat} {x : InstD} {ia ca sa ib cb sb : Value} (h : TwoL H0 H' n x ia ca sa ib cb sb) (hk : Keep [] H' H2) (hw : WF H2) : TwoL H0 H2 n x ia ca sa ib cb sb := by
  have hn := h.hn
  have hk' := hk.next
  refine ⟨hw, h.keep.trans' hk, ?_, ?_, ?_, ?_, by omega⟩
  · rw [hk.blk _ (by omega) (by simp)]; exact h.b2
  · rw [hk.blk _ (by omega) (by simp)]; exact h.b3
  · rw [hk.blk _ (by omega) (by simp)]; exact h.b4
  · rw [hk.blk _ (by omega) (by simp)]; exact h.b5

/-! ### sets -/
def clipS (s : SetD) : SetD := ⟨s.cost, s.elems.take 40⟩
def SeI (H0 H1 : AH) (n : Nat) (x : InstD) (ia ca ib cb : Value) (sv : Value) (L : List SetD) (k : Nat) (env : Env) (H' : AH) : Prop :=
  env 4 = some (.pointer (some ⟨n + 3, 0, none⟩)) ∧ env 5 = some (.pointer (some ⟨n + 4, 0, none⟩)) ∧ env 94 = some sv ∧ env 95 = some (.int .i64 L.length) ∧ env 96 = some (.int .i64 k) ∧ Keep [n + 3, n + 4] H1 H' ∧
    ∃ sa sb S T, TwoL H0 H' n x ia ca sa ib cb sb ∧ OwnL (EB H1.next H' S T) H' T_inst_Set sa ((L.map clipS).take k) S ∧ OwnL (EB H1.next H' S T) H' T_secateurref09_Set sb ((L.map clipS).take k) T ∧ (∀ b ∈ S, H1.next ≤ b) ∧ (∀ b ∈ T, H1.next ≤ b) ∧ ∀ b ∈ S, b ∉ T
def SeQ (H0 H1 : AH) (n : Nat) (x : InstD) (ia ca ib cb : Value) (L : List SetD) (e : AExit) (env : Env) (H' : AH) : Prop :=
  e = .exit 4 ∧ Keep [n + 3, n + 4] H1 H' ∧ ∃ sa sb S T, TwoL H0 H' n x ia ca sa ib cb sb ∧ OwnL (EB H1.next H' S T) H' T_inst_Set sa (L.map clipS) S ∧ OwnL (EB H1.next H' S T) H' T_secateurref09_Set sb (L.map clipS) T ∧ (∀ b ∈ S, H1.next ≤ b) ∧ (∀ b ∈ T, H1.next ≤ b) ∧ ∀ b ∈ S, b ∉ T

theorem insts_l0 {H0 H1 : AH} {n : Nat} {x : InstD} {ia ca ib cb sv : Value} {L : List SetD} (hw : WF H1) (h0 : H0.next = n) (h1 : n + 5 ≤ H1.next) (hL : SlV (fun b => b < n) H1 sv L) (hl : L.length ≤ 100) {env : Env} (h : SeI H0 H1 n x ia ca ib cb sv L 0 env H1) :
    wpC Try.prog 130 (.loop ir_law13_insts_l0) (SeQ H0 H1 n x ia ca ib cb L) env H1 := by
  refine loop_upto L.length (SeI H0 H1 n x ia ca ib cb sv L) (Q := SeQ H0 H1 n x ia ca ib cb L) h ?_
  rintro k env H' hk ⟨e4, e5, e94, e95, e96, k', sa, sb, S, T, hT, hA, hB, hS, hTT, hST⟩
  have hn1 := k'.next
  by_cases hkn : k < L.length
  · have hL' : SlV (fun b => b < n) H' sv L := hL.sub (.keep hw k' (fun b hb => by simp at hb; omega))
    obtain ⟨b0, off, sp, cap, cs, rfl, q1, q2⟩ := sets_rd hL' (by omega)
    obtain ⟨yv, q3, q3a, q3b, qc, q4⟩ := q2 k hkn
    have hsn : (L.map clipS).take (k + 1) = (L.map clipS).take k ++ [clipS L[k]] := by rw [take_snoc (by simpa using hkn), List.getElem_map]
    have hlk : ((L.map clipS).take k).length = k := by rw [List.length_take, List.length_map]; omega
    generalize L[k] = ys at *
    obtain ⟨cost, y⟩ := ys
    simp only [clipS] at *
    obtain ⟨ya, yc, rfl⟩ := q4.slice
    obtain ⟨G, hG⟩ : ∃ G, G = H'.alloc (.row [.int .i64 cost, .slice ya y.length yc] T_secateurlaw13_Set true) := ⟨_, rfl⟩
    have kG : Keep [] H' G := by rw [hG]; exact .alloc
    have nG : G.next = H'.next + 1 := by rw [hG]; rfl
    have cG : G.cells H'.next = some [.int .i64 cost, .slice ya y.length yc] := by rw [hG]; exact AH.cells_alloc_new
    have hbz : (H'.alloc (.row [.int .i64 0, .slice none 0 0] T_secateurlaw13_Set true)).blk H'.next = some (.row [.int .i64 0, .slice none 0 0] T_secateurlaw13_Set true) := AH.alloc_blk_new
    have hcx : cut [Value.int .i64 cost, .slice ya y.length yc] 0 2 = some [Value.int .i64 cost, .slice ya y.length yc] := rfl
    have hGs : (H'.alloc (.row [.int .i64 0, .slice none 0 0] T_secateurlaw13_Set true)).set H'.next (.row [.int .i64 cost, .slice ya y.length yc] T_secateurlaw13_Set true) = G := by rw [AH.alloc_set, hG]
    replace q4 := q4.kept hT.wf kG
    have hAn0 : ∀ b ∈ S, b < H'.next := hA.lt hT.wf
    have hAm : ∀ b ∈ S, ¬ EB H1.next G S T b := fun b hb h => h.2.2.1 hb
    have hBm : ∀ b ∈ T, ¬ EB H1.next G S T b := fun b hb h => h.2.2.2 hb
    replace hA := (hA.kept hT.wf kG).mono (q := EB H1.next G S T) (fun b hb => ⟨hb.1, by have := hb.2.1; omega, hb.2.2⟩) hAm
    replace hB := (hB.kept hT.wf kG).mono (q := EB H1.next G S T) (fun b hb => ⟨hb.1, by have := hb.2.1; omega, hb.2.2⟩) hBm
    have hq0n : H1.next ≤ H'.next := hn1
    replace k' := k'.trans' (kG.mono (S' := [n + 3, n + 4]) fun b hb => by simp at hb)
    replace hT := hT.kept kG (by rw [hG]; exact hT.wf.alloc)
    replace hn1 := k'.next
    have hq0 : H'.next < G.next := by omega
    generalize hq0e : H'.next = q0 at *
    obtain ⟨m, hm⟩ : ∃ m : Nat, m = min y.length 40 := ⟨_, rfl⟩
    obtain ⟨zv, hsl, hz⟩ := q4.sl (m := m) (by omega)
    have hym : y.take m = y.take 40 := by
      by_cases hc : 40 ≤ y.length
      · rw [show m = 40 by omega]
      · rw [List.take_of_length_le (by omega), List.take_of_length_le (by omega)]
    rw [hym] at hz
    have hzl : (y.take 40).length = m := by rw [List.length_take]; omega
    generalize y.take 40 = z at *
    have hmm : (if (40 : Int) < (y.length : Int) then (40 : Int) else (y.length : Int)) = (m : Int) := by split <;> omega
    have hAb := hA.blkOf
    have hBb := hB.blkOf
    have hAn := hA.lt hT.wf
    have hBn := hB.lt hT.wf
    have c4 := AH.cells_of hT.b4
    have c5 := AH.cells_of hT.b5
    have hn := hT.hn
    obtain ⟨za, zc, w1, Ha, rfl, hze, hp1, hw1, hna, hfa, hwc1⟩ := copyAt (hz.kept hT.wf (.room (m := 22))) (id := G.next + 5) (by simp) (ty := T_int) (by omega)
    simp only [sz_int] at hsl
    simp (disch := omega) [-getElem?_pos, if_pos, if_neg, decide_eq_true, decide_eq_false, ir_law13_insts_l0, e4, e5, e94, e95, e96, q1, q3, hq0e, writeA_row hbz, hcx, over, hGs, cG, ↓ieval_slhi, hmm, hsl, c4, c5, hze, hp1, IntWalk.i64_in]
    have han : Ha.next = G.next + 22 := by simpa using hna
    have hN : ∀ j, j < 22 → G.next + j < Ha.next := fun j hj => by omega
    have wa : WF Ha := (WF.room hT.wf (m := 22)).at (S := []) hna (by simp) (by simp) fun b hb _ => hfa b hb
    obtain ⟨Hb, hHb⟩ : ∃ Hb, Hb = Ha.set (G.next + 7) (.row [.int .i64 cost, w1] T_inst_Set true) := ⟨_, rfl⟩
    have wb : WF Hb := by rw [hHb]; exact wa.set (hN 7 (by omega))
    have nb : Hb.next = G.next + 22 := by rw [hHb]; simpa using hna
    have fb : ∀ b, b < G.next → Hb.blk b = G.blk b := fun b hb => by rw [hHb, AH.set_blk_ne (by omega), hfa b (by omega)]; rfl
    have cb4 : Hb.cells (G.next + 7) = some [.int .i64 cost, w1] := by rw [hHb]; exact AH.cells_set_same
    have hw1b : SlV (fun b => b = G.next + 5) Hb w1 z := hw1.sub fun b hb cs hc => by
      subst hb
      rw [hHb, AH.cells_set_ne (by omega)]; exact hc
    have hEB : ∀ b, EB H1.next G S T b → b < G.next := fun b h => h.2.1
    have hAb' : OwnL (EB H1.next G S T) Hb T_inst_Set sa ((L.map clipS).take k) S := hA.over (fun b hb => fb b (hEB b hb)) fun b hb => fb b (hAn b hb)
    obtain ⟨b1, o1, s1, c1, Hc, p1, hA', n1, f1, i1⟩ := hAb'.pushAt (id := G.next + 8) (q := fun b => EB H1.next G S T b ∨ b = G.next + 5) (by omega) (cs := [.int .i64 cost, w1]) (a := ⟨cost, z⟩) ⟨w1, rfl, qc, hw1b.mono fun b hb => .inr hb⟩ 32 (fun b hb => .inl hb)
      (fun b hb => by rcases hb with hb | hb; exact ⟨by have := hEB b hb; omega, hb.2.2.1⟩; exact ⟨by omega, fun h => by have := hAn b h; omega⟩) (by omega) (by omega)
    have wc : WF Hc := wb.at n1 (by omega) (fun b hb => by have := hAn b hb; omega) f1
    have fc : ∀ b, b < G.next → b ∉ S → Hc.blk b = G.blk b := fun b hb hs => by rw [f1 b (by omega) hs, fb b hb]
    have hzc : SlV (fun b => b < n) Hc (.slice za z.length zc) z := hz.sub fun b hb cs hc => by
      unfold AH.cells at hc ⊢
      rw [fc b (by omega) (fun h => by have := hS b h; omega)]; exact hc
    obtain ⟨za', zc', w2, Hd, hzz, hze2, hp2, hw2, hnd, hfd, hwc2⟩ := copyAt hzc (id := G.next + 14) (by omega) (ty := T_int) (by omega)
    cases hzz
    have wd : WF Hd := wc.at (S := []) hnd (by omega) (by simp) fun b hb _ => hfd b hb
    obtain ⟨He, hHe⟩ : ∃ He, He = Hd.set (G.next + 16) (.row [.int .i64 cost, w2] T_secateurref09_Set true) := ⟨_, rfl⟩
    have we : WF He := by rw [hHe]; exact wd.set (by omega)
    have ne : He.next = G.next + 22 := by rw [hHe]; show Hd.next = _; omega
    have ce10 : He.cells (G.next + 16) = some [.int .i64 cost, w2] := by rw [hHe]; exact AH.cells_set_same
    have fe : ∀ b, b ≠ G.next + 14 → b ≠ G.next + 16 → He.blk b = Hc.blk b := fun b h1 h2 => by rw [hHe, AH.set_blk_ne h2, hfd b h1]
    have hw2e : SlV (fun b => b = G.next + 14) He w2 z := hw2.sub fun b hb cs hc => by
      subst hb
      rw [hHe, AH.cells_set_ne (by omega)]; exact hc
    have hBe : OwnL (EB H1.next G S T) He T_secateurref09_Set sb ((L.map clipS).take k) T := hB.over (fun b hb => by rw [fe b (by have := hEB b hb; omega) (by have := hEB b hb; omega), fc b (hEB b hb) hb.2.2.1])
      fun b hb => by rw [fe b (by have := hBn b hb; omega) (by have := hBn b hb; omega), fc b (hBn b hb) fun h => hST b h hb]
    obtain ⟨b2, o2, s2, c2, Hg, p2, hB', n2, f2, i2⟩ := hBe.pushAt (id := G.next + 17) (q := fun b => EB H1.next G S T b ∨ b = G.next + 14) (by omega) (cs := [.int .i64 cost, w2]) (a := ⟨cost, z⟩) ⟨w2, rfl, qc, hw2e.mono fun b hb => .inr hb⟩ 32 (fun b hb => .inl hb)
      (fun b hb => by rcases hb with hb | hb; exact ⟨by have := hEB b hb; omega, hb.2.2.2⟩; exact ⟨by omega, fun h => by have := hBn b h; omega⟩) (by omega) (by omega)
    have wg : WF Hg := we.at n2 (by omega) (fun b hb => by have := hBn b hb; omega) f2
    have ng : Hg.next = G.next + 22 := by omega
    have fg : ∀ b, b < G.next → b ∉ S → b ∉ T → Hg.blk b = G.blk b := fun b hb hs ht => by rw [f2 b (by omega) ht, fe b (by omega) (by omega), fc b hb hs]
    rw [← hsn] at hA' hB'
    rw [hlk] at hA' hB' p1 p2
    obtain ⟨Hx, Hf, w4, w5, hTf, hKf, nf, ff⟩ := two_fin (c := 5) (va := .slice (some ⟨b1, o1, s1⟩) (k + 1) c1) (vb := .slice (some ⟨b2, o2, s2⟩) (k + 1) c2) (ia' := ia) (ca' := ca) (sa' := .slice (some ⟨b1, o1, s1⟩) (k + 1) c1) (ib' := ib) (cb' := cb) (sb' := .slice (some ⟨b2, o2, s2⟩) (k + 1) c2) h0 h1 hT k' wg (by omega) hS hTT fg rfl rfl (by omega)
    have hb1 : b1 = G.next + 8 ∨ S = [b1] := i1.symm
    have hb2 : b2 = G.next + 17 ∨ T = [b2] := i2.symm
    have b1l : (b1 < G.next ∨ b1 = G.next + 8) ∧ H1.next ≤ b1 ∧ b1 ∉ T := by
      rcases hb1 with h | h
      · exact ⟨.inr h, by omega, fun h' => by have := hBn _ h'; omega⟩
      · have := hAn b1 (by rw [h]; simp)
        exact ⟨.inl this, hS b1 (by rw [h]; simp), hST b1 (by rw [h]; simp)⟩
    have b2l : (b2 < G.next ∨ b2 = G.next + 17) ∧ H1.next ≤ b2 ∧ b2 ∉ S := by
      rcases hb2 with h | h
      · exact ⟨.inr h, by omega, fun h' => by have := hAn _ h'; omega⟩
      · have := hBn b2 (by rw [h]; simp)
        exact ⟨.inl this, hTT b2 (by rw [h]; simp), fun h' => hST b2 h' (by rw [h]; simp)⟩
    have b12 : b1 ≠ b2 := by
      rcases hb2 with h | h
      · rcases b1l.1 with h' | h' <;> omega
      · exact fun e => b1l.2.2 (by rw [h, e]; simp)
    have hq1 : ∀ b, (EB H1.next G S T b ∨ b = G.next + 5) → EB H1.next Hf [b1] [b2] b := fun b hb => by
      rcases hb with hb | hb
      · refine ⟨hb.1, by have := hb.2.1; omega, ?_, ?_⟩
        · simp; intro e; rcases hb1 with h | h
          · have := hb.2.1; omega
          · exact hb.2.2.1 (by rw [h, e]; simp)
        · simp; intro e; rcases hb2 with h | h
          · have := hb.2.1; omega
          · exact hb.2.2.2 (by rw [h, e]; simp)
      · refine ⟨by omega, by omega, ?_, ?_⟩
        · simp; rcases b1l.1 with h | h <;> omega
        · simp; rcases b2l.1 with h | h <;> omega
    have hq2 : ∀ b, (EB H1.next G S T b ∨ b = G.next + 14) → EB H1.next Hf [b1] [b2] b := fun b hb => by
      rcases hb with hb | hb
      · exact hq1 b (.inl hb)
      · refine ⟨by omega, by omega, ?_, ?_⟩
        · simp; rcases b1l.1 with h | h <;> omega
        · simp; rcases b2l.1 with h | h <;> omega
    have fgc : ∀ b, b ≠ G.next + 14 → b ≠ G.next + 16 → b ≠ G.next + 17 → b ∉ T → Hf.blk b = Hc.blk b ∨ b = n + 3 ∨ b = n + 4 := fun b g1 g2 g3 g4 => by
      by_cases e3 : b = n + 3
      · exact .inr (.inl e3)
      · by_cases e4 : b = n + 4
        · exact .inr (.inr e4)
        · exact .inl (by rw [ff b e3 e4, f2 b g3 g4, fe b g1 g2])
    have hAf : OwnL (EB H1.next Hf [b1] [b2]) Hf T_inst_Set (.slice (some ⟨b1, o1, s1⟩) (k + 1) c1) ((L.map clipS).take (k + 1)) [b1] := by
      refine hA'.up hq1 (fun b hb cs hc => ?_) (fun b hb => ?_) (fun b hb => by simp at hb; subst hb; exact fun h => h.2.2.1 (by simp))
      · unfold AH.cells at hc ⊢
        have g : Hf.blk b = Hc.blk b := by
          have hbl : b < G.next + 6 ∧ H1.next ≤ b ∧ b ∉ T := by
            rcases hb with hb | hb
            · exact ⟨by have := hb.2.1; omega, hb.1, hb.2.2.2⟩
            · exact ⟨by omega, by omega, fun h => by have := hBn b h; omega⟩
          rcases fgc b (by omega) (by omega) (by omega) hbl.2.2 with g | g | g
          · exact g
          · omega
          · omega
        rw [g]; exact hc
      · simp at hb; subst hb
        rcases fgc b (by rcases b1l.1 with h | h <;> omega) (by rcases b1l.1 with h | h <;> omega) (by rcases b1l.1 with h | h <;> omega) b1l.2.2 with g | g | g
        · exact g
        · omega
        · omega
    have hBf : OwnL (EB H1.next Hf [b1] [b2]) Hf T_secateurref09_Set (.slice (some ⟨b2, o2, s2⟩) (k + 1) c2) ((L.map clipS).take (k + 1)) [b2] := by
      refine hB'.up hq2 (fun b hb cs hc => ?_) (fun b hb => ?_) (fun b hb => by simp at hb; subst hb; exact fun h => h.2.2.2 (by simp))
      · unfold AH.cells at hc ⊢
        have hbl : H1.next ≤ b := by
          rcases hb with hb | hb
          · exact hb.1
          · omega
        rw [ff b (by omega) (by omega)]; exact hc
      · simp at hb; subst hb
        exact ff b (by omega) (by omega)
    have hS1 : S = [] ∨ ∃ b, S = [b] ∧ b < q0 ∧ H1.next ≤ b := by
      rcases hA.nil_or with h | ⟨b, h⟩
      · exact .inl h
      · exact .inr ⟨b, h, hAn0 b (by rw [h]; simp), hS b (by rw [h]; simp)⟩
    simp only [sz_set] at p1 p2
    have hcn : Hc.next = G.next + 22 := by omega
    have hdn : Hd.next = G.next + 22 := by omega
    have hE4 : elemsA Hb 2 (.slice (some ⟨G.next + 7, 0, none⟩) 1 1) = some [.int .i64 cost, w1] := by simp [elemsA, cb4, cut]
    have hE10 : elemsA He 2 (.slice (some ⟨G.next + 16, 0, none⟩) 1 1) = some [.int .i64 cost, w2] := by simp [elemsA, ce10, cut]
    rcases hS1 with rfl | ⟨bs, rfl, hbs, hbs2⟩
    all_goals
      simp (disch := omega) [-getElem?_pos, if_pos, if_neg, decide_eq_true, decide_eq_false, hwc1.2, hwc2.2, hwc1.1, hwc2.1, over, hN, han, ← hHb, hE4, p1, hAb, hBb, hcn, hze2, hp2, hdn, ← hHe, hE10, p2, w4, w5, e4, e5, e94, e95, e96, IntWalk.i64_in]
      exact ⟨hkn, by simp [e4], by simp [e5], by simp [e94], by simp [e95], by simp, hKf, _, _, [b1], [b2], hTf, hAf, hBf, by simp; exact b1l.2.1, by simp; exact b2l.2.1, by simpa using b12⟩
  · obtain rfl : k = L.length := by omega
    simp (disch := omega) [-getElem?_pos, if_pos, if_neg, decide_eq_true, decide_eq_false, ir_law13_insts_l0, e95, e96]
    rw [List.take_of_length_le (by simp)] at hA hB
    exact ⟨rfl, k', sa, sb, S, T, hT, hA, hB, hS, hTT, hST⟩
end Go.Proofs.Ytlcddhgfkkjhkaa
