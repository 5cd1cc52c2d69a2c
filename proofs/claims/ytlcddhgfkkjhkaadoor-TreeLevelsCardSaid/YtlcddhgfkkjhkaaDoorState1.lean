/-
  package state (1): what stands for a state; Start, Done, free, Moves.
-/
import Derived.Test.YtlcddhgfkkjhkaaDoorState0
import Derived.Test.YtlcddhgfkkjhkaaDoorLs
import Derived.Test.YtlcddhgfkkjhkaaDoorBs
import Derived.Test.YtlcddhgfkkjhkaaDoorWakes
import Derived.Test.YtlcddhgfkkjhkaaDoorIrS
set_option maxRecDepth 100000
set_option linter.unusedSimpArgs false
set_option linter.unusedVariables false
namespace Go.Proofs.YtlcddhgfkkjhkaaDoor
open Go Go.Abs
def stC (s : StD) (pv uv : Value) : List Value := [pv, .int .i64 s.cost, .int .i64 s.left, .int .i64 s.pos, .int .i64 s.used.length, uv]
def StV (p : Nat → Prop) (H : AH) (v : Value) (s : StD) : Prop :=
  ∃ pv uv, v = .agg #[pv, .int .i64 s.cost, .int .i64 s.left, .int .i64 s.pos, .int .i64 s.used.length, uv] ∧ SlV p H pv s.path ∧ Bs.SetB p H (.agg #[.int .i64 s.used.length, uv]) s.used
theorem st_cut (s : StD) (pv uv : Value) : cut (stC s pv uv) 0 6 = some (stC s pv uv) := by simp [cut, stC]
theorem st_cut4 (s : StD) (pv uv : Value) : cut (stC s pv uv) 4 2 = some [.int .i64 s.used.length, uv] := by simp [cut, stC]
theorem SetB_sub {p q : Nat → Prop} {H H' : AH} {v : Value} {B : List Bool} (h : Bs.SetB p H v B) (hpq : ∀ b, p b → q b) (hs : Sub p H H') : Bs.SetB q H' v B := by
  obtain ⟨sl, h1, h2, h3⟩ := h
  exact ⟨sl, h1, h2.sub hpq hs, h3⟩
theorem SetB_cell {p : Nat → Prop} {H : AH} {n : Int} {uv : Value} {B : List Bool} (h : Bs.SetB p H (.agg #[.int .i64 n, uv]) B) : one uv = true ∧ cellsOf uv = some [uv] := by
  obtain ⟨sl, h1, h2, _⟩ := h
  simp at h1
  obtain ⟨_, rfl⟩ := h1
  obtain ⟨a, c, rfl⟩ := h2.slice
  exact ⟨rfl, rfl⟩
theorem SetB_lt {p : Nat → Prop} {H : AH} {v : Value} {B : List Bool} (h : Bs.SetB p H v B) (hw : WF H) : Bs.SetB (fun b => p b ∧ b < H.next) H v B := by
  obtain ⟨sl, h1, ⟨h2, h4⟩, h3⟩ := h
  refine ⟨sl, h1, ⟨h2, ?_⟩, h3⟩
  rcases h4 with h4 | ⟨b, off, sp, cap, cs, e, q1, q2, q3, q4, q5⟩
  · exact .inl h4
  · exact .inr ⟨b, off, sp, cap, cs, e, q1, q2, q3, q4, q5, cells_lt hw q3⟩
section
variable {p q : Nat → Prop} {H H' : AH} {v : Value} {s : StD}
theorem StV.up (h : StV p H v s) (hpq : ∀ b, p b → q b) (hs : Sub p H H') : StV q H' v s := by
  obtain ⟨pv, uv, h1, h2, h3⟩ := h
  exact ⟨pv, uv, h1, h2.up hpq hs, SetB_sub h3 hpq hs⟩
theorem StV.kept (h : StV p H v s) (hw : WF H) (hk : Keep [] H H') : StV p H' v s := h.up (fun _ h => h) (.kept hw hk)
theorem StV.same (h : StV p H v s) (hs : SameC H H') : StV p H' v s := h.up (fun _ h => h) (.same hs)
theorem StV.any (h : StV p H v s) : StV (fun _ => True) H v s := h.up (fun _ _ => trivial) .refl
theorem stv_zero : StV p H (.agg #[.slice none 0 0, .int .i64 0, .int .i64 0, .int .i64 0, .int .i64 0, .slice none 0 0]) zeroSt :=
  ⟨_, _, rfl, .nil, .slice none 0 0, rfl, ⟨by simp [words, zeroSt, nw], .inl ⟨rfl, none, 0, rfl, fun _ => rfl⟩⟩, by simp [zeroSt]⟩
end
theorem setT_eq {B : List Bool} {i : Int} : Bs.setB B i true = setT B i := rfl
theorem Start_spec {p : Nat → Prop} {H : AH} {v : Value} {x : InstD} (hx : InstV p H v x) : AFn Tryd.prog F_state_Start [v] H fun u H' => ∃ sv, u = .tuple #[sv, .int .i64 x.check] ∧ StV (fun b => H.next ≤ b ∧ b < H'.next) H' sv (if x.check = 0 then x.start else zeroSt) ∧ Keep [] H H' := by
  obtain ⟨iv, cv, sv, rfl, i1, i2, i3, h1, h2, h3⟩ := id hx
  obtain ⟨ca, cc, rfl⟩ := h2.slice
  refine AFn.enter mixed ir_state_Start_eq (by simp [ir_state_Start]) fun hw => ?_
  generalize hq : H.next = q at *
  have nH := hq
  simp (disch := omega) [-getElem?_pos, if_pos, if_neg, decide_eq_true, decide_eq_false, ir_state_Start, hq, inst_cut]
  generalize hH1 : AH.alloc (AH.alloc H _) _ = H1
  have k1 : Keep [] H H1 := by rw [← hH1]; exact .new_alloc .alloc
  have w1 : WF H1 := by rw [← hH1]; exact hw.alloc.alloc
  have n1 : H1.next = q + 2 := by rw [← hH1]; simp [hq]
  have c1 : H1.cells q = some (instC x iv (.slice ca x.cost.length cc) sv) := by rw [← hH1, ← hq]; simp
  have b2 : H1.blk (q + 1) = some (.row [.slice none 0 0, .int .i64 0, .int .i64 0, .int .i64 0, .int .i64 0, .slice none 0 0] T_state_State true) := by rw [← hH1, ← hq]; exact AH.alloc_blk_new
  clear hH1
  have hx1 := hx.kept hw k1
  refine AFn.pure (Check_spec hx1) ?_
  by_cases hc : x.check = 0
  · have hok := InstD.check_ok.1 hc
    obtain ⟨n, hn⟩ : ∃ n : Nat, n = x.cost.length + x.size.toNat := ⟨_, rfl⟩
    have hs0 := hok.few.size0
    have hn4 := slots_le hok
    have hni : (x.cost.length : Int) + x.size = (n : Int) := by omega
    have hwr : IntKind.i64.wrap ((x.cost.length : Int) + x.size) = (n : Int) := by rw [hni]; exact IntWalk.i64_in _ (by omega)
    have hso : Bs.sizeOk n = true := by unfold Bs.sizeOk; simp; omega
    have hno : Bs.nOk n = n := by unfold Bs.nOk; rw [hso]; simp
    have heo : Bs.eOk n = 0 := by unfold Bs.eOk; rw [hso]; rfl
    have c1' := c1
    simp only [instC] at c1'
    simp (disch := omega) [-getElem?_pos, if_pos, if_neg, decide_eq_true, decide_eq_false, hc, c1', writeA, over]
    generalize hH2 : AH.alloc H1 _ = H2
    have k2 : Keep [] H1 H2 := by rw [← hH2]; exact .alloc
    have w2 : WF H2 := by rw [← hH2]; exact w1.alloc
    have n2 : H2.next = q + 3 := by rw [← hH2]; simp [n1]
    have b3 : H2.blk (q + 2) = some (.row [.slice none 0 0, .int .i64 0, .int .i64 x.cap, .int .i64 0, .int .i64 0, .slice none 0 0] T_state_State true) := by rw [← hH2, ← n1]; exact AH.alloc_blk_new
    clear hH2
    have c2 := cells_kept w1 k2 c1'
    have b22 := (k2.blk (q + 1) (by omega) (by simp)).trans b2
    rw [n1]
    simp (disch := omega) [-getElem?_pos, if_pos, if_neg, decide_eq_true, decide_eq_false, c2, hwr]
    refine (Bs.New_spec (n : Int) ⟨by omega, by omega⟩).mono' fun u H3 w3 ⟨sl, S, hu, ho, k3, hS⟩ => ?_
    rw [hno, heo] at hu
    rw [hno] at ho
    subst hu
    have n3 := k3.next
    have hone := Bs.Own.one ho
    have hsc : cellsOf sl = some [sl] := by obtain ⟨a, c, rfl⟩ := ho.slice; simp
    have hset : Bs.SetB (fun b => q + 3 ≤ b ∧ b < H3.next) H3 (.agg #[.int .i64 n, sl]) (List.replicate n false) := by
      have h0 : Bs.SetO H3 (.agg #[.int .i64 n, sl]) n (words (List.replicate n false)) S := ⟨sl, rfl, ho, hone⟩
      exact h0.setB (by simp) rfl (by omega) fun b hb => ⟨by have := hS b hb; omega, ho.lt w3 b hb⟩
    have b33 := (k3.blk (q + 2) (by omega) (by simp)).trans b3
    have b23 := (k3.blk (q + 1) (by omega) (by simp)).trans b22
    have c3 := cells_kept w2 k3 c2
    have wr := writeA_of (off := 4) (news := [Value.int .i64 n, sl]) b33 (by simp)
    simp only [over, List.take_succ_cons, List.take_zero, List.drop_succ_cons, List.drop_zero, List.cons_append, List.nil_append, List.length_cons, List.length_nil, Nat.add_zero, Nat.zero_add, Nat.reduceAdd, List.append_nil] at wr
    simp (disch := omega) [-getElem?_pos, if_pos, if_neg, decide_eq_true, decide_eq_false, hone, wr, c3]
    generalize hH4 : AH.set H3 _ _ = H4
    have w4 : WF H4 := by rw [← hH4]; exact w3.set (by omega)
    have n4 : H4.next = H3.next := by rw [← hH4]; rfl
    have k4 : Keep [] H H4 := by rw [← hH4]; exact .new_set (by omega) ((k1.trans' k2).trans' k3)
    have b34 : H4.blk (q + 2) = some (.row [.slice none 0 0, .int .i64 0, .int .i64 x.cap, .int .i64 0, .int .i64 n, sl] T_state_State true) := by rw [← hH4, AH.set_blk_same]
    have b24 : H4.blk (q + 1) = H3.blk (q + 1) := by rw [← hH4, AH.set_blk_ne (by omega)]
    replace b24 := b24.trans b23
    have c4 : H4.cells q = H3.cells q := by rw [← hH4, AH.cells_set_ne (by omega)]
    replace c4 := c4.trans c3
    have hset4 : Bs.SetB (fun b => q + 3 ≤ b ∧ b < H4.next) H4 (.agg #[.int .i64 n, sl]) (List.replicate n false) := SetB_sub hset (fun b hb => by omega) (by rw [← hH4]; exact .set (by omega))
    clear hH4
    have cut6 : ∀ uv : Value, cut [Value.slice none 0 0, .int .i64 0, .int .i64 x.cap, .int .i64 0, .int .i64 n, uv] 0 6 = some [Value.slice none 0 0, .int .i64 0, .int .i64 x.cap, .int .i64 0, .int .i64 n, uv] := fun uv => by simp [cut]
    have cut4 : ∀ uv : Value, cut [Value.slice none 0 0, .int .i64 0, .int .i64 x.cap, .int .i64 0, .int .i64 n, uv] 4 2 = some [.int .i64 n, uv] := fun uv => by simp [cut]
    have c34 := AH.cells_of b34
    -- what is told at the end
    have fin : ∀ (H5 : AH) (sl2 : Value) (B : List Bool), Keep [] H H5 → x.start.used = B → B.length = n → Bs.SetB (fun b => q + 3 ≤ b ∧ b < H5.next) H5 (.agg #[.int .i64 n, sl2]) B → ∀ X Y, Keep [] H ((H5.set (q + 2) X).set (q + 1) Y) ∧ Keep [] H (H5.set (q + 1) Y) ∧
        StV (fun b => q ≤ b ∧ b < H5.next) ((H5.set (q + 2) X).set (q + 1) Y) (.agg #[.slice none 0 0, .int .i64 0, .int .i64 x.cap, .int .i64 0, .int .i64 n, sl2]) x.start ∧ StV (fun b => q ≤ b ∧ b < H5.next) (H5.set (q + 1) Y) (.agg #[.slice none 0 0, .int .i64 0, .int .i64 x.cap, .int .i64 0, .int .i64 n, sl2]) x.start := fun H5 sl2 B k5 hB hBl hs5 X Y => by
      have hlen : x.start.used.length = n := by rw [hB, hBl]
      have mk : ∀ H', Sub (fun b => q + 3 ≤ b ∧ b < H5.next) H5 H' → StV (fun b => q ≤ b ∧ b < H5.next) H' (.agg #[.slice none 0 0, .int .i64 0, .int .i64 x.cap, .int .i64 0, .int .i64 n, sl2]) x.start := fun H' hsub => by
        refine ⟨.slice none 0 0, sl2, by rw [hlen]; rfl, .nil, ?_⟩
        rw [hlen, hB]
        exact SetB_sub hs5 (fun b hb => ⟨by omega, hb.2⟩) hsub
      exact ⟨.new_set (by omega) (.new_set (by omega) k5), .new_set (by omega) k5, mk _ (.trans (.set (by omega)) (.set (by omega))), mk _ (.set (by omega))⟩
    by_cases hk : x.kind = 2
    · have hkT := eq_true hk
      simp (disch := omega) [-getElem?_pos, if_pos, if_neg, decide_eq_true, decide_eq_false, c4, hkT, c34, cut4]
      refine (Bs.With_spec hset4 0).mono' fun u H5 w5 ⟨hu, k5⟩ => ?_
      rw [setT_eq] at hu
      obtain ⟨sl2, rfl, v2, l2⟩ := id hu
      have hlen : (setT (List.replicate n false) 0).length = n := by rw [setT_len]; simp
      rw [hlen] at hu
      have hone2 := (SetB_cell hu)
      have n5 := k5.next
      have b35 := (k5.blk (q + 2) (by omega) (by simp)).trans b34
      have b25 := (k5.blk (q + 1) (by omega) (by simp)).trans b24
      have hlenI : ((setT (List.replicate n false) 0).length : Int) = (n : Int) := by rw [hlen]
      have e : x.start.used = setT (List.replicate n false) 0 := by unfold InstD.start; simp only; rw [if_pos hk, ← hn]
      have hf := fin H5 sl2 (setT (List.replicate n false) 0) (k4.trans' k5) e hlen ((SetB_lt hu w5).mono fun b hb => by rcases hb with ⟨h | h, h2⟩ <;> exact ⟨by omega, h2⟩)
      clear fin
      simp (disch := omega) [-getElem?_pos, if_pos, if_neg, decide_eq_true, decide_eq_false, hlenI, hone2.1, b35, b25, writeA, over, cut6]
      exact ⟨(hf _ _).2.2.1, (hf _ _).1⟩
    · have hkF := eq_false hk
      have e : x.start.used = List.replicate n false := by unfold InstD.start; simp only; rw [if_neg hk, ← hn]
      have hf := fin H4 sl (List.replicate n false) k4 e (by simp) hset4
      clear fin
      simp (disch := omega) [-getElem?_pos, if_pos, if_neg, decide_eq_true, decide_eq_false, c4, hkF, c34, cut6, b24, writeA, over]
      exact ⟨(hf (.row [] 0 true) _).2.2.2, (hf (.row [] 0 true) _).2.1⟩
  · simp (disch := omega) [-getElem?_pos, if_pos, if_neg, decide_eq_true, decide_eq_false, hc, writeA, b2, over]
    exact ⟨_, rfl, stv_zero, .new_set (by omega) k1⟩
end Go.Proofs.YtlcddhgfkkjhkaaDoor
