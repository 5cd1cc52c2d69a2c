/-
  The program's and the document's instance, made of plain data (2): the whole.
-/
import Derived.Test.YtlcddhgfkkjhkaaInsts
set_option maxRecDepth 100000
set_option linter.unusedSimpArgs false
set_option linter.unusedVariables false
namespace Go.Proofs.Ytlcddhgfkkjhkaa
open Go Go.Abs

/-- What is taken of an instance. -/
def clipI (x : InstD) : InstD := ⟨x.kind, x.cap, x.items.take 40, (x.cost.take 70).map (·.take 70), x.size, (x.sets.take 40).map clipS⟩

theorem min_if (a m : Nat) : (if (m : Int) < (a : Int) then (m : Int) else (a : Int)) = ((min a m : Nat) : Int) := by split <;> omega
theorem take_min {α : Type} (l : List α) (m : Nat) : l.take (min l.length m) = l.take m := by
  by_cases h : m ≤ l.length
  · rw [Nat.min_eq_right h]
  · rw [List.take_of_length_le (by omega), List.take_of_length_le (by omega)]
/-- New blocks. -/
abbrev New (H H' : AH) : Nat → Prop := fun b => H.next ≤ b ∧ b < H'.next

theorem insts_spec {H : AH} {v : Value} {x : InstD} (hx : InstV (fun b => b < H.next) H v x) : AFn Try.prog F_law13_insts [v] H fun u H' => ∃ a b, u = .tuple #[a, b] ∧ InstV (New H H') H' a (clipI x) ∧ InstV (New H H') H' b (clipI x) ∧ Keep [] H H' := by
  obtain ⟨iv, cv, sv, rfl, i1, i2, i3, h1, h2, h3⟩ := hx
  refine AFn.enter mixed ir_law13_insts_eq (by simp [ir_law13_insts]) fun hw => ?_
  obtain ⟨n, hn⟩ : ∃ n, n = H.next := ⟨_, rfl⟩
  rw [← hn] at h1 h2 h3
  obtain ⟨ia0, ic0, rfl⟩ := h1.slice
  obtain ⟨ca0, cc0, rfl⟩ := h2.slice
  obtain ⟨sa0, sc0, rfl⟩ := h3.slice
  have m40 : (if (40 : Int) < (x.items.length : Int) then (40 : Int) else (x.items.length : Int)) = ((min x.items.length 40 : Nat) : Int) := by split <;> omega
  have m70 : (if (70 : Int) < (x.cost.length : Int) then (70 : Int) else (x.cost.length : Int)) = ((min x.cost.length 70 : Nat) : Int) := by split <;> omega
  have m41 : (if (40 : Int) < (x.sets.length : Int) then (40 : Int) else (x.sets.length : Int)) = ((min x.sets.length 40 : Nat) : Int) := by split <;> omega
  simp (disch := omega) [-getElem?_pos, if_pos, if_neg, decide_eq_true, decide_eq_false, ir_law13_insts, over, writeA, ↓ieval_slhi]
  generalize hH1 : AH.set (AH.alloc _ _) _ _ = H1
  have w1 : WF H1 := by
    rw [← hH1]
    refine WF.set (WF.alloc (WF.set (WF.alloc (WF.alloc (WF.alloc (WF.alloc hw)))) ?_)) ?_ <;> simp
  have n1 : H1.next = n + 5 := by rw [← hH1, hn]; simp
  have k1 : Keep [] H H1 := by
    rw [← hH1]
    exact .new_set (by omega) (.new_alloc (.new_set (by omega) (.new_alloc (.new_alloc (.new_alloc .alloc)))))
  have c1 : H1.cells n = some (instC x (.slice ia0 x.items.length ic0) (.slice ca0 x.cost.length cc0) (.slice sa0 x.sets.length sc0)) := by rw [← hH1, hn]; simp (disch := omega) [if_neg, if_pos]
  have hT1 : TwoL H H1 n x nilS nilS nilS nilS nilS nilS := by
    refine ⟨w1, k1, ?_, ?_, ?_, ?_, by omega⟩ <;> (rw [← hH1, hn]; simp (disch := omega) [nilS, if_neg, if_pos])
  clear hH1
  have a1 := h1.kept hw k1
  have a2 := h2.kept hw k1
  have a3 := h3.kept hw k1
  obtain ⟨w, hsl, hz⟩ := a1.sl (m := min x.items.length 40) (by omega)
  rw [take_min] at hz
  have hlw : (x.items.take 40).length = min x.items.length 40 := by rw [List.length_take]; omega
  obtain ⟨wa, wc, rfl⟩ := hz.slice
  simp only [sz_pair] at hsl
  rw [← hn]
  simp (disch := omega) [-getElem?_pos, if_pos, if_neg, decide_eq_true, decide_eq_false, m40, hsl]
  refine wpC_use (insts_l2 (H0 := H) w1 hn.symm (by omega) hz (by omega) ⟨by simp, by simp, by simp, by simp, by simp, .refl, nilS, nilS, [], [], hT1, .nil, .nil, by simp, by simp, by simp⟩) ?_
  rintro e env2 H2 ⟨rfl, k2, ia, ib, S2, T2, hT2, hA2, hB2, hS2, hTT2, _⟩ hu2
  have w2 := hT2.wf
  have n2 := k2.next
  have P2 : ∀ {S : List Nat} {ty : Nat} {v : Value}, OwnL (fun _ => False) H2 ty v (x.items.take 40) S → (∀ b ∈ S, H1.next ≤ b) → SlV (fun b => n + 5 ≤ b ∧ b < H2.next) H2 v (x.items.take 40) := fun h hS =>
    h.slv (fun b hb => hb.elim) (fun b hb => ⟨by have := hS b hb; omega, h.lt w2 b hb⟩) (by omega)
  have sA := P2 hA2 hS2
  have sB := P2 hB2 hTT2
  have old : ∀ {α : Type} [Ren α] {w : Value} {l : List α}, SlV (fun b => b < n) H1 w l → SlV (fun b => b < n) H2 w l := fun h => h.sub (.keep w1 k2 fun b hb => by simp at hb; omega)
  replace a2 := old a2
  replace a3 := old a3
  have c2 : H2.cells n = some _ := cells_keep w1 k2 (by simp) c1
  obtain ⟨w, hsl, hz⟩ := a2.sl (m := min x.cost.length 70) (by omega)
  rw [take_min] at hz
  have hlw2 : (x.cost.take 70).length = min x.cost.length 70 := by rw [List.length_take]; omega
  obtain ⟨wa2, wc2, rfl⟩ := hz.slice
  simp only [sz_list] at hsl
  have u1 := hu2 1 (by decide)
  have u2 := hu2 2 (by decide)
  have u3 := hu2 3 (by decide)
  have u4 := hu2 4 (by decide)
  have u5 := hu2 5 (by decide)
  simp (disch := omega) [-getElem?_pos, if_pos, if_neg, decide_eq_true, decide_eq_false, u1, c2, ↓ieval_slhi, m70, hsl]
  refine wpC_use (insts_l1 (H0 := H) w2 hn.symm (by omega) hz (by omega) ⟨by simp [u4], by simp [u5], by simp, by simp, by simp, .refl, nilS, nilS, [], [], hT2, .nil, .nil, by simp, by simp, by simp⟩) ?_
  rintro e env3 H3 ⟨rfl, k3, ca, cb, S3, T3, hT3, hA3, hB3, hS3, hTT3, hST3⟩ hu3
  have w3 := hT3.wf
  have n3 := k3.next
  have P3 : ∀ {S : List Nat} {ty : Nat} {v : Value} {l : List (List Int)}, l.length ≤ 100 → OwnL (EB H2.next H3 S3 T3) H3 ty v l S → (∀ b ∈ S, H2.next ≤ b) → SlV (fun b => n + 5 ≤ b ∧ b < H3.next) H3 v l := fun hl h hS =>
    h.slv (fun b hb => ⟨by have := hb.1; omega, hb.2.1⟩) (fun b hb => ⟨by have := hS b hb; omega, h.lt w3 b hb⟩) (by omega)
  have hml : ((x.cost.take 70).map (·.take 70)).length ≤ 100 := by rw [List.length_map]; omega
  have sA3 := P3 hml hA3 hS3
  have sB3 := P3 hml hB3 hTT3
  have mv3 : ∀ {α : Type} [Ren α] {w : Value} {l : List α}, SlV (fun b => n + 5 ≤ b ∧ b < H2.next) H2 w l → SlV (fun b => n + 5 ≤ b ∧ b < H3.next) H3 w l := fun h => h.up (fun b hb => ⟨hb.1, by omega⟩) (.keep w2 k3 fun b hb hc => by simp at hb; omega)
  replace sA := mv3 sA
  replace sB := mv3 sB
  have old3 : ∀ {α : Type} [Ren α] {w : Value} {l : List α}, SlV (fun b => b < n) H2 w l → SlV (fun b => b < n) H3 w l := fun h => h.sub (.keep w2 k3 fun b hb => by simp at hb; omega)
  replace a3 := old3 a3
  have c3 : H3.cells n = some _ := cells_keep w2 k3 (by simp) c2
  obtain ⟨w, hsl, hz⟩ := a3.sl (m := min x.sets.length 40) (by omega)
  rw [take_min] at hz
  have hlw3 : (x.sets.take 40).length = min x.sets.length 40 := by rw [List.length_take]; omega
  obtain ⟨wa3, wc3, rfl⟩ := hz.slice
  simp only [sz_set] at hsl
  have v1 := hu3 1 (by decide)
  have v2 := hu3 2 (by decide)
  have v3 := hu3 3 (by decide)
  have v4 := hu3 4 (by decide)
  have v5 := hu3 5 (by decide)
  simp (disch := omega) [-getElem?_pos, if_pos, if_neg, decide_eq_true, decide_eq_false, u1, v1, c3, ↓ieval_slhi, m41, hsl]
  refine wpC_use (insts_l0 (H0 := H) w3 hn.symm (by omega) hz (by omega) ⟨by simp [v4, u4], by simp [v5, u5], by simp, by simp, by simp, .refl, nilS, nilS, [], [], hT3, .nil, .nil, by simp, by simp, by simp⟩) ?_
  rintro e env4 H4 ⟨rfl, k4, sa, sb, S4, T4, hT4, hA4, hB4, hS4, hTT4, hST4⟩ hu4
  have w4 := hT4.wf
  have n4 := k4.next
  have P4 : ∀ {S : List Nat} {ty : Nat} {v : Value} {l : List SetD}, l.length ≤ 100 → OwnL (EB H3.next H4 S4 T4) H4 ty v l S → (∀ b ∈ S, H3.next ≤ b) → SlV (fun b => n + 5 ≤ b ∧ b < H4.next) H4 v l := fun hl h hS =>
    h.slv (fun b hb => ⟨by have := hb.1; omega, hb.2.1⟩) (fun b hb => ⟨by have := hS b hb; omega, h.lt w4 b hb⟩) (by omega)
  have hml4 : ((x.sets.take 40).map clipS).length ≤ 100 := by rw [List.length_map]; omega
  have sA4 := P4 hml4 hA4 hS4
  have sB4 := P4 hml4 hB4 hTT4
  have mv4 : ∀ {α : Type} [Ren α] {w : Value} {l : List α}, SlV (fun b => n + 5 ≤ b ∧ b < H3.next) H3 w l → SlV (fun b => n + 5 ≤ b ∧ b < H4.next) H4 w l := fun h => h.up (fun b hb => ⟨hb.1, by omega⟩) (.keep w3 k4 fun b hb hc => by simp at hb; omega)
  replace sA := mv4 sA
  replace sB := mv4 sB
  replace sA3 := mv4 sA3
  replace sB3 := mv4 sB3
  have x2 := hu4 2 (by decide)
  have x3 := hu4 3 (by decide)
  have x4 := hu4 4 (by decide)
  have x5 := hu4 5 (by decide)
  have d4 := AH.cells_of hT4.b4
  have d5 := AH.cells_of hT4.b5
  have cx : ∀ (y : InstD) (i c s : Value), cut (instC y i c s) 0 6 = some (instC y i c s) := fun _ _ _ _ => rfl
  have wr2 := writeA_row (off := 0) (news := instC x ia ca sa) (show (H4.room 4).blk (n + 1) = some (.row [.int .i64 0, .int .i64 0, nilS, nilS, .int .i64 0, nilS] T_inst_Inst true) from hT4.b2)
  have hn4 := hT4.hn
  have b3' : ((H4.room 4).set (n + 1) (.row (instC x ia ca sa) T_inst_Inst true)).blk (n + 2) = some (.row [.int .i64 0, .int .i64 0, nilS, nilS, .int .i64 0, nilS] T_secateurref09_Inst true) := by rw [AH.set_blk_ne (by omega)]; exact hT4.b3
  have wr3 := writeA_row (off := 0) (news := instC x ib cb sb) b3'
  simp only [over, List.take_zero, List.length_cons, List.length_nil, List.nil_append, List.drop_succ_cons, List.drop_zero, List.append_nil, Nat.zero_add, Nat.le_refl, if_true] at wr2 wr3
  simp (disch := omega) [-getElem?_pos, if_pos, if_neg, decide_eq_true, decide_eq_false, u2, u3, u4, u5, v2, v3, v4, v5, x2, x3, x4, x5, d4, d5, cx, wr2, wr3, AH.cells_set_ne]
  obtain ⟨Hf, hHf⟩ : ∃ Hf, Hf = ((H4.room 4).set (n + 1) (.row (instC x ia ca sa) T_inst_Inst true)).set (n + 2) (.row (instC x ib cb sb) T_secateurref09_Inst true) := ⟨_, rfl⟩
  rw [← hHf]
  have ff : ∀ b, b ≠ n + 1 → b ≠ n + 2 → Hf.cells b = H4.cells b := fun b g1 g2 => by rw [hHf, AH.cells_set_ne g2, AH.cells_set_ne g1]; rfl
  have nf : Hf.next = H4.next + 4 := by rw [hHf]; rfl
  have mv : ∀ {α : Type} [Ren α] {w : Value} {l : List α}, SlV (fun b => n + 5 ≤ b ∧ b < H4.next) H4 w l → SlV (New H Hf) Hf w l := fun h => h.up (fun b hb => ⟨by omega, by omega⟩) fun b hb cs hc => by rw [ff b (by omega) (by omega)]; exact hc
  have e1 : Hf.cells (n + 1) = some (instC x ia ca sa) := by rw [hHf, AH.cells_set_ne (by omega), AH.cells_set_same]
  have e2 : Hf.cells (n + 2) = some (instC x ib cb sb) := by rw [hHf, AH.cells_set_same]
  refine ⟨_, _, ⟨rfl, rfl⟩, ⟨ia, ca, sa, rfl, i1, i2, i3, mv sA, mv sA3, mv sA4⟩, ⟨ib, cb, sb, rfl, i1, i2, i3, mv sB, mv sB3, mv sB4⟩, ?_⟩
  rw [hHf]
  exact .new_set (by omega) (.new_set (by omega) (hT4.keep.trans' .room))
end Go.Proofs.Ytlcddhgfkkjhkaa
