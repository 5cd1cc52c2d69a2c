/-
  KeySorts: the walk.
-/
import Derived.Test.YtjcncbejnplakaaDoorLaw04r
import Derived.Test.YtjcncbejnplakaaDoorAppAt
import Derived.Test.YtjcncbejnplakaaDoorRen
set_option maxRecDepth 100000
set_option linter.unusedSimpArgs false
set_option linter.unusedVariables false
namespace Go.Proofs.YtjcncbejnplakaaDoor
open Go Go.Abs

theorem DatY.lt {ty : Nat} {H : AH} {v : Value} {L : List Ent} {S : List Nat} (h : DatY ty H v L S) (hw : WF H) : ∀ b ∈ S, b < H.next := h.1.lt hw
/-- append of an entry under a kept number. -/
theorem DatY.pushAt {ty : Nat} {H : AH} {v : Value} {L : List Ent} {S : List Nat} (h : DatY ty H v L S) {id : Nat} (hid : id < H.next) (x : Ent) (hl : L.length < 1000000) :
    ∃ b' off' sp' c' H', appendAt id H ty 4 32 v 1 x.cells = some (.slice (some ⟨b', off', sp'⟩) (L.length + 1) c', H') ∧ DatY ty H' (.slice (some ⟨b', off', sp'⟩) (L.length + 1) c') (L ++ [x]) [b'] ∧ H'.next = H.next ∧ (∀ b, b ≠ id → b ∉ S → H'.blk b = H.blk b) ∧ (S = [b'] ∨ b' = id) := by
  obtain ⟨b', off', sp', c', H', q1, q2, q3, q4, q5⟩ := h.1.pushAt hid (bytes := 32) (m := 1) (news := x.cells) (by simp [Ent.cells]) (by omega) (by omega) (by omega)
  refine ⟨b', off', sp', c', H', q1, ⟨?_, by simp; omega⟩, q3, q4, q5⟩
  rw [List.length_append, cellsE_append]
  simpa [cellsE, Ent.cells] using q2
/-- Which block a slice lies in. -/
theorem DatY.blk {ty : Nat} {H : AH} {v : Value} {L : List Ent} {S : List Nat} (h : DatY ty H v L S) : blkOf (some v) = S := by
  rcases h.1 with ⟨rfl, _, _, rfl⟩ | ⟨b, off, sp, cap, cs, rfl, rfl, _⟩ <;> rfl

def KsI (H0 : AH) (lv : Value) (L : List Ent) (k : Nat) (env : Env) (H' : AH) : Prop :=
  env 15 = some lv ∧ env 16 = some (.int .i64 L.length) ∧ env 17 = some (.int .i64 k) ∧ WF H' ∧ Keep [] H0 H' ∧ ∃ av bv S T, env 3 = some av ∧ env 4 = some bv ∧ DatY T_key_Entry H' av (L.take k) S ∧ DatY T_secateurref04_Entry H' bv (L.take k) T ∧ (∀ b ∈ S, H0.next ≤ b) ∧ (∀ b ∈ T, H0.next ≤ b) ∧ ∀ b ∈ S, b ∉ T
def KsQ (H0 : AH) (L : List Ent) (e : AExit) (env : Env) (H' : AH) : Prop :=
  e = .exit 0 ∧ WF H' ∧ Keep [] H0 H' ∧ ∃ av bv S T, env 3 = some av ∧ env 4 = some bv ∧ DatY T_key_Entry H' av L S ∧ DatY T_secateurref04_Entry H' bv L T ∧ (∀ b ∈ S, H0.next ≤ b) ∧ (∀ b ∈ T, H0.next ≤ b) ∧ ∀ b ∈ S, b ∉ T

theorem ks_l1 {H0 : AH} {lv : Value} {L : List Ent} (hw : WF H0) (hL : EntsV (fun _ => True) H0 lv L) (hl : L.length ≤ 60) {env : Env} (h : KsI H0 lv L 0 env H0) : wpC Tryd.prog 69 (.loop ir_law04_KeySorts_l1) (KsQ H0 L) env H0 := by
  refine loop_upto L.length (KsI H0 lv L) (Q := KsQ H0 L) h ?_
  rintro k env H' hk ⟨e15, e16, e17, w', k', av, bv, S, T, e3, e4, hA, hB, hS, hT, hST⟩
  by_cases hkn : k < L.length
  · obtain ⟨b0, off, sp, cap, cs, rfl, q1, q2⟩ := ents_at (hL.1.kept hw k') (by omega)
    have q3 := q2 k hkn
    have hsn : L.take (k + 1) = L.take k ++ [getE L k] := by rw [List.take_succ_eq_append_getElem hkn, getE_eq hkn]
    have hlt : (L.take k).length = k := by rw [List.length_take]; omega
    have hAb := hA.blk
    have hBb := hB.blk
    have hAn := hA.lt w'
    have hBn := hB.lt w'
    generalize getE L k = x at *
    have hcx : cut [Value.int .i64 x.b, .int .i64 x.d, .int .i64 x.s, .int .i64 x.i] 0 4 = some [Value.int .i64 x.b, .int .i64 x.d, .int .i64 x.s, .int .i64 x.i] := rfl
    have hbn : (H'.alloc (.row [.int .i64 0, .int .i64 0, .int .i64 0, .int .i64 0] T_secateurlaw04_Entry true)).blk H'.next = some (.row [.int .i64 0, .int .i64 0, .int .i64 0, .int .i64 0] T_secateurlaw04_Entry true) := by simp
    simp only [Ent.cells] at q3
    simp (disch := omega) [-getElem?_pos, if_pos, if_neg, decide_eq_true, decide_eq_false, ir_law04_KeySorts_l1, e3, e4, e15, e16, e17, q1, q3, writeA_row hbn, over, hcx, IntWalk.i64_in]
    refine callM_use (of4_calm x) ?_
    have hS1 : S = [] ∨ ∃ b, S = [b] ∧ b < H'.next := by
      rcases hA.1 with ⟨_, _, _, h⟩ | ⟨b, _, _, _, _, _, h, _⟩
      · exact .inl h
      · exact .inr ⟨b, h, hAn b (by rw [h]; simp)⟩
    simp (disch := omega) [-getElem?_pos, if_pos, if_neg, decide_eq_true, decide_eq_false, hcx, elemsA, e3, e4, AH.cells_set_ne]
    generalize hHb : AH.set (AH.set _ _ _) _ _ = Hb
    have wb : WF Hb := by
      rw [← hHb]
      refine WF.set (WF.set (WF.room (WF.alloc w')) ?_) ?_ <;> simp
    have kb : Keep [] H' Hb := by rw [← hHb]; exact .new_set (by omega) (.new_set (by omega) (.trans' .alloc .room))
    have nb : Hb.next = H'.next + 12 := by rw [← hHb]; simp
    have c3 : Hb.cells (H'.next + 1 + 3) = some x.cells := by rw [← hHb, AH.cells_set_same]; rfl
    have c7 : Hb.cells (H'.next + 1 + 7) = some x.cells := by rw [← hHb, AH.cells_set_ne (by omega), AH.cells_set_same]; rfl
    obtain ⟨b1, off1, sp1, c1, Hc, p1, hA', n1, f1, i1⟩ := (hA.kept w' kb).pushAt (id := H'.next + 1 + 4) (by omega) x (by omega)
    have wc : WF Hc := by
      intro b B hb
      by_cases h1 : b = H'.next + 1 + 4
      · omega
      · by_cases h2 : b ∈ S
        · have := hAn b h2; omega
        · rw [f1 b h1 h2] at hb
          have := wb b B hb; omega
    have hBc : DatY T_secateurref04_Entry Hc bv (L.take k) T := by
      have := hB.kept w' kb
      exact ⟨this.1.keep fun b hb => f1 b (by have := hBn b hb; omega) fun h => hST b h hb, this.2⟩
    have c7c : Hc.cells (H'.next + 1 + 7) = some x.cells := by
      unfold AH.cells at c7 ⊢
      rw [f1 _ (by omega) (fun h => by have := hAn _ h; omega)]; exact c7
    obtain ⟨b2, off2, sp2, c2, Hd, p2, hB', n2, f2, i2⟩ := hBc.pushAt (id := H'.next + 1 + 8) (by omega) x (by omega)
    have hb1 : b1 = H'.next + 1 + 4 ∨ S = [b1] := i1.symm
    have hb2 : b2 = H'.next + 1 + 8 ∨ T = [b2] := i2.symm
    have b1n : b1 ∉ T ∧ b1 ≠ H'.next + 1 + 8 := by
      rcases hb1 with rfl | rfl
      · exact ⟨fun h => by have := hBn _ h; omega, by omega⟩
      · exact ⟨hST b1 (by simp), by have := hAn b1 (by simp); omega⟩
    have hA2 : DatY T_key_Entry Hd (.slice (some ⟨b1, off1, sp1⟩) ((L.take k).length + 1) c1) (L.take k ++ [x]) [b1] :=
      ⟨hA'.1.keep fun b hb => by simp at hb; subst hb; exact f2 b b1n.2 b1n.1, hA'.2⟩
    have wd : WF Hd := by
      intro b B hb
      by_cases h1 : b = H'.next + 1 + 8
      · omega
      · by_cases h2 : b ∈ T
        · have := hBn b h2; omega
        · rw [f2 b h1 h2] at hb
          have := wc b B hb; omega
    have kd : Keep [] H0 Hd := by
      have hn := k'.next
      refine ⟨by omega, fun b hb _ => ?_⟩
      rw [f2 b (by omega) (fun h => by have := hT b h; omega), f1 b (by omega) (fun h => by have := hS b h; omega), kb.blk b (by omega) (by simp), k'.blk b hb (by simp)]
    have hS' : ∀ b ∈ [b1], H0.next ≤ b := fun b hb => by
      have hn := k'.next
      simp at hb; subst hb
      rcases hb1 with rfl | rfl
      · omega
      · exact hS b (by simp)
    have hT' : ∀ b ∈ [b2], H0.next ≤ b := fun b hb => by
      have hn := k'.next
      simp at hb; subst hb
      rcases hb2 with rfl | rfl
      · omega
      · exact hT b (by simp)
    have hST' : ∀ b ∈ [b1], b ∉ [b2] := fun b hb => by
      simp at hb; subst hb
      simp
      rcases hb2 with rfl | rfl
      · exact b1n.2
      · exact fun h => b1n.1 (by rw [h]; simp)
    rw [← hsn] at hA2 hB'
    rw [hlt] at hA2 hB' p1 p2
    simp only [Ent.cells] at c3 c7c p1 p2
    have hcx1 : cut [Value.int .i64 x.b, .int .i64 x.d, .int .i64 x.s, .int .i64 x.i] 0 4 = some [Value.int .i64 x.b, .int .i64 x.d, .int .i64 x.s, .int .i64 x.i] := rfl
    rcases hS1 with rfl | ⟨bs, rfl, hbs⟩
    · simp (disch := omega) [-getElem?_pos, if_pos, if_neg, decide_eq_true, decide_eq_false, elemsA, c3, c7c, hcx1, p1, p2, hAb, hBb, e3, e4, e15, e16, e17, IntWalk.i64_in]
      exact ⟨hkn, by simp [e15], by simp [e16], by simp, wd, kd, .slice (some ⟨b1, off1, sp1⟩) (k + 1) c1, .slice (some ⟨b2, off2, sp2⟩) (k + 1) c2, [b1], [b2], (by simp), (by simp), hA2, hB', hS', hT', hST'⟩
    · simp (disch := omega) [-getElem?_pos, if_pos, if_neg, decide_eq_true, decide_eq_false, elemsA, c3, c7c, hcx1, p1, p2, hAb, hBb, e3, e4, e15, e16, e17, IntWalk.i64_in]
      exact ⟨hkn, by simp [e15], by simp [e16], by simp, wd, kd, .slice (some ⟨b1, off1, sp1⟩) (k + 1) c1, .slice (some ⟨b2, off2, sp2⟩) (k + 1) c2, [b1], [b2], (by simp), (by simp), hA2, hB', hS', hT', hST'⟩
  · obtain rfl : k = L.length := by omega
    simp (disch := omega) [-getElem?_pos, if_pos, if_neg, decide_eq_true, decide_eq_false, ir_law04_KeySorts_l1, e15, e16, e17]
    rw [List.take_length] at hA hB
    exact ⟨rfl, w', k', av, bv, S, T, e3, e4, hA, hB, hS, hT, hST⟩

theorem eq_ent (x : Ent) : eqAll [(0, some 3, .node [(0, none, .int), (1, none, .int), (2, none, .int)]), (3, none, .int)] [.int .i64 x.b, .int .i64 x.d, .int .i64 x.s, .int .i64 x.i] [.int .i64 x.b, .int .i64 x.d, .int .i64 x.s, .int .i64 x.i] = some true := by
  rw [eqE_key]; simp

/-- All is read as it was. -/
def KsR (H2 : AH) (gv wv av lv : Value) (n : Nat) (k : Nat) (env : Env) (H' : AH) : Prop :=
  H' = H2 ∧ env 7 = some gv ∧ env 8 = some wv ∧ env 3 = some av ∧ env 0 = some lv ∧ env 41 = some (.int .i64 n) ∧ env 42 = some (.int .i64 k)
theorem ks_l0 {H2 : AH} {gv wv av lv : Value} {L M : List Ent} (hM : M.length = L.length) (hl : L.length ≤ 60) (hg : EntsV (fun _ => True) H2 gv M) (hwv : EntsV (fun _ => True) H2 wv M) (ha : EntsV (fun _ => True) H2 av L) (hL : EntsV (fun _ => True) H2 lv L)
    {env : Env} (h : KsR H2 gv wv av lv L.length 0 env H2) : wpC Tryd.prog 69 (.loop ir_law04_KeySorts_l0) (fun e _ H' => e = .exit 2 ∧ H' = H2) env H2 := by
  refine loop_upto L.length (KsR H2 gv wv av lv L.length) (Q := fun e _ H' => e = .exit 2 ∧ H' = H2) h ?_
  rintro k env H' hk ⟨rfl, e7, e8, e3, e0, e41, e42⟩
  by_cases hkn : k < L.length
  · obtain ⟨b1, o1, s1, c1, cs1, rfl, q1, p1⟩ := ents_at hg.1 (by omega)
    obtain ⟨b2, o2, s2, c2, cs2, rfl, q2, p2⟩ := ents_at hwv.1 (by omega)
    obtain ⟨b3, o3, s3, c3, cs3, rfl, q3, p3⟩ := ents_at ha.1 (by omega)
    obtain ⟨b4, o4, s4, c4, cs4, rfl, q4, p4⟩ := ents_at hL.1 (by omega)
    have r1 := p1 k (by omega)
    have r2 := p2 k (by omega)
    have r3 := p3 k hkn
    have r4 := p4 k hkn
    generalize getE M k = y at *
    generalize getE L k = x at *
    have ex := eq_ent x
    have ey := eq_ent y
    simp only [Ent.cells] at r1 r2 r3 r4
    simp (disch := omega) [-getElem?_pos, if_pos, if_neg, decide_eq_true, decide_eq_false, ir_law04_KeySorts_l0, e0, e3, e7, e8, e41, e42, q1, q2, q3, q4, r1, r2, r3, r4, IntWalk.i64_in]
    refine AFnD.of (of4_spec y) ?_
    simp (disch := omega) [-getElem?_pos, if_pos, if_neg, decide_eq_true, decide_eq_false, ey, e0, e3, e7, e8, e41, e42, q1, q2, q3, q4, r1, r2, r3, r4, IntWalk.i64_in]
    refine AFnD.of (of4_spec x) ?_
    simp (disch := omega) [-getElem?_pos, if_pos, if_neg, decide_eq_true, decide_eq_false, ex, e0, e3, e7, e8, e41, e42, IntWalk.i64_in]
    exact ⟨hkn, rfl, by simp [e7], by simp [e8], by simp [e3], by simp [e0], by simp [e41], by simp⟩
  · obtain rfl : k = L.length := by omega
    simp (disch := omega) [-getElem?_pos, if_pos, if_neg, decide_eq_true, decide_eq_false, ir_law04_KeySorts_l0, e41, e42]

theorem DatY.ents {ty : Nat} {H : AH} {v : Value} {L : List Ent} {S : List Nat} (h : DatY ty H v L S) : EntsV (fun _ => True) H v L := ⟨h.1.vw fun _ _ => trivial, h.2⟩

theorem KeySorts_abs {H : AH} {v : Value} {L : List Ent} (h : Rd H 4 v L.length (cellsE L)) : AFn Tryd.prog F_law04_KeySorts [v] H fun u H' => u = .bool true ∧ H' = H := by
  refine AFn.calm (fun H0 hs => ?_) rfl
  refine AFn.enter mixed ir_law04_KeySorts_eq (by simp [ir_law04_KeySorts]) fun hw => ?_
  obtain ⟨m, hm⟩ : ∃ m : Nat, m = min L.length 60 := ⟨_, rfl⟩
  obtain ⟨lv, hsl, hv, _⟩ := (h.vw'.same hs).sl h.spOk (m := m) (by omega)
  obtain ⟨A, hA⟩ : ∃ A, A = L.take m := ⟨_, rfl⟩
  have hAm : A.length = m := by rw [hA, List.length_take]; omega
  rw [cellsE_take, ← hA, ← hAm] at hv
  have hAl : A.length ≤ 60 := by omega
  have hL : EntsV (fun _ => True) H0 lv A := ⟨hv, by omega⟩
  obtain ⟨a, c, rfl⟩ := h.slice
  obtain ⟨la, lc, rfl⟩ := hv.slice
  have hmm : (if (60 : Int) < (L.length : Int) then (60 : Int) else (L.length : Int)) = (m : Int) := by split <;> omega
  clear hm hA
  simp (disch := omega) [-getElem?_pos, if_pos, if_neg, decide_eq_true, decide_eq_false, ir_law04_KeySorts, ↓ieval_slhi, hmm, hsl]
  refine wpC_use (ks_l1 hw hL hAl ⟨by simp, by simp, by simp, hw, .refl, .slice none 0 0, .slice none 0 0, [], [], by simp, by simp, ⟨by simpa [cellsE] using Own.nil, by simp⟩, ⟨by simpa [cellsE] using Own.nil, by simp⟩, by simp, by simp, by simp⟩) ?_
  rintro e env2 H1 ⟨rfl, w1, k1, av, bv, S, T, e3, e4, hA1, hB1, hS, hT, hST⟩ hu
  have u0 := hu 0 (by decide)
  simp (disch := omega) [-getElem?_pos, if_pos, if_neg, decide_eq_true, decide_eq_false, e3, e4, u0]
  refine (Sort_spec hA1.ents).mono' fun u2 H2 w2 ⟨S2, hD2, k2, hS2⟩ => ?_
  simp (disch := omega) [-getElem?_pos, if_pos, if_neg, decide_eq_true, decide_eq_false, e3, e4, u0]
  refine (Sort4_spec (hB1.kept w1 k2).ents).mono' fun u3 H3 w3 ⟨S3, hD3, k3, hS3⟩ => ?_
  have hD2' : DatY T_key_Entry H2 u2 (sortL Ent.lt A) S2 := hD2
  obtain ⟨a2, c2, rfl⟩ := hD2'.1.slice
  obtain ⟨a3, c3, rfl⟩ := hD3.1.slice
  have hlen := (sortL_perm isOrd A).length_eq
  simp (disch := omega) [-getElem?_pos, if_pos, if_neg, decide_eq_true, decide_eq_false, e3, e4, u0, hlen]
  have hg := (hD2'.kept w2 k3).ents
  have hwv := hD3.ents
  have ha := ((hA1.kept w1 k2).kept w2 k3).ents
  have hL3 := hL.kept hw ((k1.trans' k2).trans' k3)
  rw [hlen] at hg hwv
  refine wpC_use (ks_l0 hlen hAl hg hwv ha hL3 ⟨rfl, by simp, by simp, by simp [e3], by simp [u0], by simp, by simp⟩) ?_
  rintro e env3 H4 ⟨rfl, rfl⟩ _
  simp (disch := omega) [-getElem?_pos, if_pos, if_neg, decide_eq_true, decide_eq_false, ]
  refine AFn.pure wakes4_spec ?_
  simp (disch := omega) [-getElem?_pos, if_pos, if_neg, decide_eq_true, decide_eq_false, ]
end Go.Proofs.YtjcncbejnplakaaDoor
