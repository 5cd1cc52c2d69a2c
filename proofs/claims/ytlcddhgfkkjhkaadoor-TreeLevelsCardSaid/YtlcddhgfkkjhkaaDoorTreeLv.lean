/-
  package tree (3): Levels.
-/
import Derived.Test.YtlcddhgfkkjhkaaDoorTree2
import Derived.Test.YtlcddhgfkkjhkaaDoorTreeP
set_option maxRecDepth 100000
set_option linter.unusedSimpArgs false
set_option linter.unusedVariables false
namespace Go.Abs
open Go
def padL (L : List Nat) (d : Nat) : List Nat := L ++ List.replicate (d + 1 - L.length) 0
def addLv (L : List Nat) (d : Nat) : List Nat := (padL L d).set d ((padL L d).getD d 0 + 1)
def lvs (T : List Nat) : List Nat := T.foldl addLv []
theorem padL_len (L : List Nat) (d : Nat) : (padL L d).length = max L.length (d + 1) := by unfold padL; simp; omega
theorem addLv_len (L : List Nat) (d : Nat) : (addLv L d).length = max L.length (d + 1) := by unfold addLv; rw [List.length_set, padL_len]
theorem padL_get (L : List Nat) (d i : Nat) : (padL L d).getD i 0 = L.getD i 0 := by
  unfold padL
  rw [List.getD_eq_getElem?_getD, List.getD_eq_getElem?_getD, List.getElem?_append]
  split
  · rfl
  · rw [List.getElem?_replicate, List.getElem?_eq_none (by omega)]
    split <;> rfl
theorem addLv_get (L : List Nat) (d i : Nat) : (addLv L d).getD i 0 = L.getD i 0 + (if d = i then 1 else 0) := by
  unfold addLv
  rw [List.getD_eq_getElem?_getD, List.getElem?_set]
  have hl := padL_len L d
  by_cases h : d = i
  · subst h
    rw [if_pos rfl, if_pos (by omega), if_pos rfl, padL_get]; rfl
  · rw [if_neg h, if_neg h, ← List.getD_eq_getElem?_getD, padL_get]; rfl
theorem lvs_get (T : List Nat) : ∀ (L : List Nat) (i : Nat), (T.foldl addLv L).getD i 0 = L.getD i 0 + T.count i := by
  induction T with
  | nil => intro L i; simp
  | cons d T ih =>
    intro L i
    rw [List.foldl_cons, ih, addLv_get, List.count_cons]
    by_cases h : d = i
    · subst h; simp; omega
    · simp [h]
theorem lvs_len (T : List Nat) : ∀ (L : List Nat), (T.foldl addLv L).length = T.foldl (fun a d => max a (d + 1)) L.length := by
  induction T with
  | nil => intro L; rfl
  | cons d T ih => intro L; rw [List.foldl_cons, List.foldl_cons, ih, addLv_len]
theorem fold_le (c : Nat) : ∀ (T : List Nat) (a : Nat), a ≤ c → (∀ d ∈ T, d + 1 ≤ c) → T.foldl (fun a d => max a (d + 1)) a ≤ c
  | [], a, h, _ => h
  | d :: T, a, h, hT => fold_le c T _ (by
      have := hT d (by simp)
      show max a (d + 1) ≤ c
      omega) fun e he => hT e (by simp [he])
theorem lvs_snoc (T : List Nat) (d : Nat) : lvs (T ++ [d]) = addLv (lvs T) d := by unfold lvs; rw [List.foldl_append]; rfl
def lvK (x : InstD) (k : Nat) : List Nat := lvs (((allS x).take k).map fun s => s.path.length)
theorem lvK_succ {x : InstD} {k : Nat} (h : k < (allS x).length) : lvK x (k + 1) = addLv (lvK x k) (allS x)[k].path.length := by
  unfold lvK
  rw [List.take_succ_eq_append_getElem h, List.map_append, List.map_singleton, lvs_snoc]
def nI (L : List Nat) : List Int := L.map fun (n : Nat) => (n : Int)
theorem nI_len (L : List Nat) : (nI L).length = L.length := by simp [nI]
theorem nI_append (A B : List Nat) : nI (A ++ B) = nI A ++ nI B := by simp [nI]
theorem nI_set (L : List Nat) (i n : Nat) : nI (L.set i n) = (nI L).set i (n : Int) := by simp [nI, List.map_set]
theorem nI_get {L : List Nat} {i : Nat} (h : i < (nI L).length) : (nI L)[i] = ((L.getD i 0 : Nat) : Int) := by
  have h' : i < L.length := by simpa [nI_len] using h
  simp [nI, h']
theorem lvK_len {x : InstD} (hok : x.Ok) (k : Nat) : (lvK x k).length ≤ 4200 := by
  unfold lvK lvs
  rw [lvs_len]
  refine fold_le 4200 _ _ (by simp) fun d hd => ?_
  obtain ⟨s, hs, rfl⟩ := List.mem_map.1 hd
  have h1 := (all_ok hok (List.mem_of_mem_take hs)).1
  have := Go.Proofs.YtlcddhgfkkjhkaaDoor.path_max hok h1
  omega
end Go.Abs
namespace Go.Proofs.YtlcddhgfkkjhkaaDoor
open Go Go.Abs
-- (.tmp 16) [17]
def tree_LevelsAsg : ACode := (.region [⟨some 9, .new T_state_State [(.slice none 0 0), (.int .i64 0), (.int .i64 0), (.int .i64 0), (.int .i64 0), (.slice none 0 0)], none⟩, ⟨none, .storeN 6 (.tmp 9) (.tmp 17), none⟩] false)
def tree_LevelsBody : ACode := (.block 1 (.seq (.seq (.region [⟨some 18, .load1 (.tmp 8), none⟩, ⟨some 19, .load1 (.tmp 3), none⟩, ⟨some 20, .mn (.tmp 19) (.const (.int .i64 1048576)), none⟩, ⟨some 21, .bin .geq (.tmp 18) (.tmp 20), none⟩] false) (.cond (.tmp 21) (.seq (.region [⟨none, .store1 (.tmp 4) (.const (.slice none 0 0)), none⟩, ⟨none, .store1 (.tmp 5) (.const (.int .i64 24)), none⟩] false) .ret) .skip)) (.seq (.region [⟨some 22, .load1 (.tmp 8), none⟩, ⟨some 23, .bin .add (.tmp 22) (.const (.int .i64 1)), none⟩, ⟨none, .store1 (.tmp 8) (.tmp 23), none⟩] false) (.seq (.block 2 (ACode.loop ir_tree_Levels_l0)) (.region [⟨some 33, .load1 (.tmp 7), none⟩, ⟨some 34, .faddr 0 (.tmp 9), none⟩, ⟨some 35, .load1 (.tmp 34), none⟩, ⟨some 36, .len (.tmp 35), none⟩, ⟨some 37, .idxS 1 (.tmp 33) (.tmp 36), none⟩, ⟨some 38, .load1 (.tmp 37), none⟩, ⟨some 39, .bin .add (.tmp 38) (.const (.int .i64 1)), none⟩, ⟨some 40, .idxS 1 (.tmp 33) (.tmp 36), none⟩, ⟨none, .store1 (.tmp 40) (.tmp 39), none⟩] false)))))
def LpJ (Hb : AH) (r7 q9 : Nat) (S0 : List Nat) (L : List Nat) (j : Nat) (env : Env) (H' : AH) : Prop :=
  env 7 = some (.pointer (some ⟨r7, 0, none⟩)) ∧ env 9 = some (.pointer (some ⟨q9, 0, none⟩)) ∧ WF H' ∧ Hb.next ≤ H'.next ∧
  ∃ ov S, H'.blk r7 = some (.row [ov] T_Lint true) ∧ OwnL (fun _ => False) H' T_int ov (nI (L ++ List.replicate j 0)) S ∧ (∀ b ∈ S, b ∈ S0 ∨ Hb.next ≤ b) ∧ (∀ b, b < Hb.next → b ≠ r7 → b ∉ S0 → H'.blk b = Hb.blk b)
theorem levels_l0 {Hb : AH} {r7 q9 d : Nat} {S0 : List Nat} {L : List Nat} {a : Option Addr} {c : Nat} {cs : List Value} (hd : d ≤ 4200) (hL : L.length ≤ 4200) (h7 : r7 < Hb.next) (h9 : q9 < Hb.next) (h79 : q9 ≠ r7) (h9S : q9 ∉ S0) (h7S : r7 ∉ S0) (c9 : Hb.cells q9 = some (.slice a d c :: cs)) {env : Env} (h : LpJ Hb r7 q9 S0 L 0 env Hb) :
    wpC Tryd.prog 42 (.loop ir_tree_Levels_l0) (fun e env' H' => e = .exit 2 ∧ LpJ Hb r7 q9 S0 L (d + 1 - L.length) env' H') env Hb := by
  refine loop_upto (d + 1 - L.length) (LpJ Hb r7 q9 S0 L) (Q := fun e env' H' => e = .exit 2 ∧ LpJ Hb r7 q9 S0 L (d + 1 - L.length) env' H') h ?_
  rintro j env H' hj ⟨e7, e9, w', n', ov, S, b7, hO, hS, hfr⟩
  have c7 := AH.cells_of b7
  have c9' : H'.cells q9 = some (.slice a d c :: cs) := by
    unfold AH.cells at c9 ⊢
    rw [hfr q9 h9 h79 h9S]; exact c9
  have hll : (nI (L ++ List.replicate j 0)).length = L.length + j := by rw [nI_len]; simp
  obtain ⟨oa, oc, rfl⟩ := hO.slice
  rw [hll] at b7 c7
  have hO' := hO
  rw [hll] at hO'
  have g0 : (Value.slice a d c :: cs)[0]? = some (.slice a d c) := rfl
  by_cases hjn : j < d + 1 - L.length
  · have hle : L.length + j ≤ d := by omega
    have hle' : (L.length : Int) + j ≤ d := by omega
    have hr7 : r7 ∉ S := fun h => by rcases hS _ h with h | h; exact h7S h; omega
    obtain ⟨va, vc, H2, S', p1, hO2, kd, w2, hS'⟩ := hO'.push (q := fun _ => False) w' (cs := [.int .i64 0]) (a := (0 : Int)) ⟨rfl, by unfold I64; omega⟩ T_int 8 (fun _ h => h) (fun _ h => h.elim) (by simp) (by rw [hll]; omega) (by rw [hll]; omega)
    rw [hll] at p1 hO2
    simp only [sz_int] at p1
    have pE : elemsA (H'.alloc (.row [.int .i64 0] T_int true)) 1 (.slice (some ⟨H'.next, 0, none⟩) 1 1) = some [.int .i64 0] := elems_one rfl
    have b72 := (kd.blk r7 (by omega) hr7).trans b7
    have wr7 := writeA_of (off := 0) (news := [Value.slice va (L.length + j + 1) vc]) b72 (by simp)
    simp only [over, List.take_zero, List.nil_append, List.length_cons, List.length_nil, Nat.zero_add, List.drop_succ_cons, List.drop_zero, List.append_nil] at wr7
    have hcat : nI (L ++ List.replicate (j + 1) 0) = nI (L ++ List.replicate j 0) ++ [0] := by
      rw [List.replicate_succ', ← List.append_assoc, nI_append]; rfl
    have n2 := kd.next
    simp (disch := omega) [-getElem?_pos, if_pos, if_neg, decide_eq_true, decide_eq_false, ir_tree_Levels_l0, e7, e9, c7, c9', hle, hle', pE, p1, wr7]
    refine ⟨hjn, by simp [e7], by simp [e9], w2.set (by omega), by simp; omega, _, S', AH.set_blk_same, ?_, fun b hb => ?_, fun b hb h1 h2 => ?_⟩
    · rw [hcat]
      refine hO2.up (fun _ h => h) (fun _ h => h.elim) (fun b hb => AH.set_blk_ne fun h => ?_) (fun _ _ h => h)
      subst h
      rcases hS' _ hb with h | h
      · exact hr7 h
      · omega
    · rcases hS' b hb with h | h
      · exact hS b h
      · exact .inr (by omega)
    · rw [AH.set_blk_ne h1, kd.blk b (by omega) (fun h => by rcases hS b h with h | h; exact h2 h; omega), hfr b hb h1 h2]
  · obtain rfl : j = d + 1 - L.length := by omega
    have hle : ¬ (L.length : Int) + ((d + 1 - L.length : Nat) : Int) ≤ d := by omega
    have hle2 : ¬ L.length + (d + 1 - L.length) ≤ d := by omega
    simp (disch := omega) [-getElem?_pos, if_pos, if_neg, decide_eq_true, decide_eq_false, ir_tree_Levels_l0, e7, e9, c7, c9', hle, hle2]
    exact ⟨by simp [e7], by simp [e9], w', n', _, S, by rw [hll]; exact b7, hO, hS, hfr⟩
def LvI (H0 : AH) (n0 r7 r8 M : Nat) (x : InstD) (p : Nat → Prop) (k : Nat) (H' : AH) : Prop :=
  k ≤ M ∧ n0 ≤ H'.next ∧ (∀ b, b < n0 → b ≠ r7 → b ≠ r8 → H'.blk b = H0.blk b) ∧ H'.blk r8 = some (.row [.int .i64 k] T_int true) ∧
  ∃ ov S, H'.blk r7 = some (.row [ov] T_Lint true) ∧ OwnL (fun _ => False) H' T_int ov (nI (lvK x k)) S ∧ ∀ b ∈ S, n0 ≤ b ∧ ¬ p b
def LvF (H0 : AH) (n0 r4 r5 r7 r8 l M C : Nat) (H' : AH) : Prop :=
  M < C ∧ n0 ≤ H'.next ∧ (∀ b, b < n0 → b ≠ r4 → b ≠ r5 → b ≠ r7 → b ≠ r8 → b ≠ l → H'.blk b = H0.blk b) ∧ H'.blk r4 = some (.row [.slice none 0 0] T_Lint true) ∧ H'.blk r5 = some (.row [.int .i64 24] T_api_Errno true) ∧ ∃ L, H'.blk l = some (.loop L) ∧ L.state = .done ∧ L.pending = some .ret
theorem levels_yst {H0 : AH} {l n0 q r3 r4 r5 r7 r8 C M : Nat} {most : Int} {x : InstD} {iv cv sv : Value} {L0 : LoopA} (hw0 : WF H0) (hn0 : H0.next = n0) (hok : x.Ok) (hg : GroundA G H0) (hCT : C ≤ (allS x).length)
    (hM : M = (if most < 1048576 then most else 1048576).toNat)
    (hl : H0.blk l = some (.loop L0)) (hq : H0.cells q = some (instC x iv cv sv)) (b3 : H0.cells r3 = some [.int .i64 most]) (b4 : ∃ v, H0.blk r4 = some (.row [v] T_Lint true)) (b5 : ∃ v, H0.blk r5 = some (.row [v] T_api_Errno true)) (b7 : ∃ v, H0.blk r7 = some (.row [v] T_Lint true)) (b8 : ∃ v, H0.blk r8 = some (.row [v] T_int true))
    (d : l ≠ r3 ∧ l ≠ r4 ∧ l ≠ r5 ∧ l ≠ r7 ∧ l ≠ r8 ∧ q ≠ r7 ∧ q ≠ r8 ∧ r3 ≠ r7 ∧ r3 ≠ r8 ∧ r4 ≠ r5 ∧ r4 ≠ r7 ∧ r4 ≠ r8 ∧ r5 ≠ r7 ∧ r5 ≠ r8 ∧ r7 ≠ r8) (hgd : ∀ p ∈ G, p.1 ≠ r7 ∧ p.1 ≠ r8)
    (hx : InstV (fun b => b < n0 ∧ b ≠ r7 ∧ b ≠ r8) H0 (.agg (instC x iv cv sv).toArray) x)
    (hst : L0.state = .ready) (hpe : L0.pending = none) (hpa : L0.params = [17]) (hasg : L0.assign = tree_LevelsAsg) (hbo : L0.body = tree_LevelsBody) (hn : L0.n = 42)
    (e3 : L0.env 3 = some (.pointer (some ⟨r3, 0, none⟩))) (e4 : L0.env 4 = some (.pointer (some ⟨r4, 0, none⟩))) (e5 : L0.env 5 = some (.pointer (some ⟨r5, 0, none⟩))) (e7 : L0.env 7 = some (.pointer (some ⟨r7, 0, none⟩))) (e8 : L0.env 8 = some (.pointer (some ⟨r8, 0, none⟩))) :
    Yst l n0 C q x iv cv sv (atN x) (LvI H0 n0 r7 r8 M x) (LvF H0 n0 r4 r5 r7 r8 l M C) := by
  obtain ⟨d1, d2, d3, d4, d5, d6, d7, d8, d9, d10, d11, d12, d13, d14, d15⟩ := d
  obtain ⟨v4, b4⟩ := b4
  obtain ⟨v5, b5⟩ := b5
  obtain ⟨_, b7⟩ := b7
  obtain ⟨_, b8⟩ := b8
  have hl0 := hw0.lt hl
  have hq0 := cells_lt hw0 hq
  have h3n := cells_lt hw0 b3
  have h4n := hw0.lt b4
  have h5n := hw0.lt b5
  have h7n := hw0.lt b7
  have h8n := hw0.lt b8
  refine ⟨fun p p' k H H' ⟨q0, q1, q2, q3, ov, S, q4, q5, q6⟩ hw hw' hp hn' hfr hpp => ?_, fun p k H ⟨q0, q1, q2, q3, ov, S, q4, q5, q6⟩ => ?_, fun p k H v hk ⟨q0, q1, q2, q3, ov, S, q4, q5, q6⟩ hw hp hv => ?_⟩
  · have same : ∀ b, b < n0 → H'.blk b = H.blk b := fun b hb => hfr b (by omega) fun h => by have := hp b h; omega
    refine ⟨q0, by omega, fun b hb h1 h2 => by rw [same b hb, q2 b hb h1 h2], by rw [same r8 (by omega), q3], ov, S, by rw [same r7 (by omega), q4], q5.up (fun _ h => h) (fun _ h => h.elim) (fun b hb => hfr b (q5.lt hw b hb) (q6 b hb).2) (fun _ _ h => h), fun b hb => ⟨(q6 b hb).1, fun h => ?_⟩⟩
    rcases hpp b h with h | h
    · exact (q6 b hb).2 h
    · have := q5.lt hw b hb; omega
  · refine ⟨q1, fun z hz => ?_, ?_, ?_⟩
    · have h1 := hg z hz
      have := cells_lt hw0 h1
      have h2 := hgd z hz
      unfold AH.cells at h1 ⊢
      rw [q2 z.1 (by omega) h2.1 h2.2]; exact h1
    · unfold AH.cells at hq ⊢
      rw [q2 q (by omega) d6 d7]; exact hq
    · refine hx.up (fun b hb => hb.1) fun b hb cs hc => ?_
      unfold AH.cells at hc ⊢
      rw [q2 b hb.1 hb.2.1 hb.2.2]; exact hc
  · have hkT : k < (allS x).length := by omega
    have bl : H.blk l = some (.loop L0) := by rw [q2 l (by omega) d4 d5]; exact hl
    have b3H : H.cells r3 = some [.int .i64 most] := by unfold AH.cells at b3 ⊢; rw [q2 r3 (by omega) d8 d9]; exact b3
    have b4H : H.blk r4 = some (.row [v4] T_Lint true) := by rw [q2 r4 (by omega) d11 d12]; exact b4
    have b5H : H.blk r5 = some (.row [v5] T_api_Errno true) := by rw [q2 r5 (by omega) d13 d14]; exact b5
    have hso := (all_ok hok (List.getElem_mem hkT)).1
    have hpm := path_max hok hso
    have hlk := lvK_succ hkT
    have hll := lvK_len hok k
    have hll2 := lvK_len hok (k + 1)
    rw [at_all hok hkT] at hv
    generalize (allS x)[k] = s at *
    obtain ⟨pv, uv', rfl, s1, s2⟩ := id hv
    have huc := SetB_cell s2
    obtain ⟨pa, pc, rfl⟩ := s1.slice
    have hpc := s1.cell
    refine AYield.intro mixed bl (by rw [hpa]; rfl) ?_
    rw [hpa, show wpC Tryd.prog L0.n L0.assign = wpC Tryd.prog 42 tree_LevelsAsg by rw [hasg, hn], show wpC Tryd.prog L0.n = wpC Tryd.prog 42 by rw [hn]]
    simp (disch := omega) [-getElem?_pos, if_pos, if_neg, decide_eq_true, decide_eq_false, tree_LevelsAsg, putAll, huc.1, huc.2, writeA, over]
    obtain ⟨HA, hHA⟩ : ∃ HA, HA = H.alloc (.row [.slice pa s.path.length pc, .int .i64 s.cost, .int .i64 s.left, .int .i64 s.pos, .int .i64 s.used.length, uv'] T_state_State true) := ⟨_, rfl⟩
    have blA : HA.blk l = some (.loop L0) := by rw [hHA, AH.alloc_blk_ne (by omega)]; exact bl
    rw [← hHA]
    refine ⟨_, bl, hst, ?_⟩
    rw [show wpC Tryd.prog 42 L0.body = wpC Tryd.prog 42 tree_LevelsBody by rw [hbo]]
    show wpC _ _ _ _ _ (HA.set l (.loop (busyL L0)))
    obtain ⟨Hb, hHb⟩ : ∃ Hb, Hb = HA.set l (.loop (busyL L0)) := ⟨_, rfl⟩
    have wb : WF Hb := by rw [hHb, hHA]; exact hw.alloc.set (by simp; omega)
    have nb : Hb.next = H.next + 1 := by rw [hHb, hHA]; simp
    have far : ∀ b, b < H.next → b ≠ l → Hb.blk b = H.blk b := fun b h1 h2 => by rw [hHb, AH.set_blk_ne h2, hHA, AH.alloc_blk_ne (by omega)]
    have blb : Hb.blk l = some (.loop (busyL L0)) := by rw [hHb]; exact AH.set_blk_same
    have c9 : Hb.cells H.next = some [.slice pa s.path.length pc, .int .i64 s.cost, .int .i64 s.left, .int .i64 s.pos, .int .i64 s.used.length, uv'] := by rw [hHb, AH.cells_set_ne (by omega), hHA]; simp
    rw [← hHb]
    clear hHb hHA blA
    have b8b := (far r8 (by omega) (Ne.symm d5)).trans q3
    have b7b := (far r7 (by omega) (Ne.symm d4)).trans q4
    have b4b := (far r4 (by omega) (Ne.symm d2)).trans b4H
    have b5b := (far r5 (by omega) (Ne.symm d3)).trans b5H
    have c3b : Hb.cells r3 = some [.int .i64 most] := by unfold AH.cells at b3H ⊢; rw [far r3 (by omega) (Ne.symm d1)]; exact b3H
    have c8b := AH.cells_of b8b
    have hmin : ∀ z : Int, (if most < 1048576 then most else 1048576) = z → (z ≤ (k : Int) ↔ M ≤ k) := fun z hz => by rw [hM, hz]; omega
    have hmn : (if (1048576 : Int) < most then (1048576 : Int) else most) = (if most < 1048576 then most else 1048576) := by split <;> split <;> omega
    generalize hz : (if most < 1048576 then most else 1048576) = z at *
    have hmin' := hmin z rfl
    by_cases hMk : M ≤ k
    · have hge := hmin'.2 hMk
      have wr4 := writeA_of (off := 0) (news := [Value.slice none 0 0]) b4b (by simp)
      have wr5 := writeA_of (H := Hb.set r4 (.row [.slice none 0 0] T_Lint true)) (off := 0) (news := [Value.int .i64 24]) (by rw [AH.set_blk_ne (Ne.symm d10)]; exact b5b) (by simp)
      simp only [over, List.take_zero, List.nil_append, List.length_cons, List.length_nil, Nat.zero_add, List.drop_succ_cons, List.drop_zero, List.append_nil] at wr4 wr5
      simp (disch := omega) [-getElem?_pos, if_pos, if_neg, decide_eq_true, decide_eq_false, tree_LevelsBody, e3, e4, e5, e8, c8b, c3b, hmn, hge, wr4, wr5]
      have blr : ((Hb.set r4 (.row [.slice none 0 0] T_Lint true)).set r5 (.row [.int .i64 24] T_api_Errno true)).blk l = some (.loop (busyL L0)) := by rw [AH.set_blk_ne d3, AH.set_blk_ne d2]; exact blb
      refine ⟨_, blr, by simp; omega, fun b hb => ?_, .inr ⟨rfl, by omega, by simp; omega, fun b hb h4 h5 h7 h8 hbl => ?_, ?_, ?_, _, AH.set_blk_same, rfl, rfl⟩⟩
      · have := hp b hb
        rw [AH.set_blk_ne (by omega), AH.set_blk_ne (by omega), AH.set_blk_ne (by omega), far b (by omega) (by omega)]
      · rw [AH.set_blk_ne hbl, AH.set_blk_ne h5, AH.set_blk_ne h4, far b (by omega) hbl, q2 b hb h7 h8]
      · rw [AH.set_blk_ne (Ne.symm d2), AH.set_blk_ne d10, AH.set_blk_same]
      · rw [AH.set_blk_ne (Ne.symm d3), AH.set_blk_same]
    · have hge : ¬ z ≤ (k : Int) := fun h => hMk (hmin'.1 h)
      have wr8 := writeA_of (off := 0) (news := [Value.int .i64 ((k : Int) + 1)]) b8b (by simp)
      simp only [over, List.take_zero, List.nil_append, List.length_cons, List.length_nil, Nat.zero_add, List.drop_succ_cons, List.drop_zero, List.append_nil] at wr8
      simp (disch := omega) [-getElem?_pos, if_pos, if_neg, decide_eq_true, decide_eq_false, tree_LevelsBody, e3, e8, c8b, c3b, hmn, hge, wr8, IntWalk.i64_in]
      obtain ⟨Hc, hHc⟩ : ∃ Hc, Hc = Hb.set r8 (.row [.int .i64 ((k : Int) + 1)] T_int true) := ⟨_, rfl⟩
      have wc : WF Hc := by rw [hHc]; exact wb.set (by omega)
      have nc : Hc.next = H.next + 1 := by rw [hHc]; exact nb
      have farc : ∀ b, b ≠ r8 → Hc.blk b = Hb.blk b := fun b h => by rw [hHc, AH.set_blk_ne h]
      have b8c : Hc.blk r8 = some (.row [.int .i64 ((k : Int) + 1)] T_int true) := by rw [hHc]; exact AH.set_blk_same
      have c9c : Hc.cells H.next = some [.slice pa s.path.length pc, .int .i64 s.cost, .int .i64 s.left, .int .i64 s.pos, .int .i64 s.used.length, uv'] := by
        unfold AH.cells at c9 ⊢; rw [farc _ (by omega)]; exact c9
      rw [← hHc]
      clear hHc wr8
      have hSn := q5.lt hw
      have hOc : OwnL (fun _ => False) Hc T_int ov (nI (lvK x k)) S := q5.up (fun _ h => h) (fun _ h => h.elim) (fun b hb => by
        have := (q6 b hb).1
        rw [farc b (by omega), far b (hSn b hb) (by omega)]) (fun _ _ h => h)
      refine wpC_use (levels_l0 (Hb := Hc) (r7 := r7) (q9 := H.next) (d := s.path.length) (S0 := S) (L := lvK x k) (by omega) hll (by omega) (by omega) (by omega) (fun h => by have := hSn _ h; omega) (fun h => by have := (q6 _ h).1; omega) c9c ⟨by simp [e7], by simp, wc, Nat.le_refl _, ov, S, by rw [farc r7 d15]; exact b7b, by simpa using hOc, fun b hb => .inl hb, fun b _ _ _ => rfl⟩) ?_
      rintro e env2 H5 ⟨rfl, f7, f9, w5, n5, ov5, S5, b75, hO5, hS5, hfr5⟩ hu
      have hpe2 : lvK x k ++ List.replicate (s.path.length + 1 - (lvK x k).length) 0 = padL (lvK x k) s.path.length := rfl
      rw [hpe2] at hO5
      have hpl := padL_len (lvK x k) s.path.length
      have hnl : (nI (padL (lvK x k) s.path.length)).length = max (lvK x k).length (s.path.length + 1) := by rw [nI_len, hpl]
      have hdl : s.path.length < (nI (padL (lvK x k) s.path.length)).length := by rw [hnl]; omega
      obtain ⟨b, off, sp, cap, cs, hov, hSb, hbb, hcb, hcap, hsp, hoff, hel⟩ := hO5.at (by omega)
      obtain ⟨c, hc1, hc2, hc3⟩ := hel s.path.length hdl
      subst hov
      obtain ⟨_, _, _, hc4⟩ := cut_spec hc1
      rw [hc2] at hc4
      have hc5 := hc4 0 (by simp)
      rw [nI_get hdl, padL_get] at hc5
      simp only [sz_int, Nat.mul_one, Nat.add_zero, List.getElem?_cons_zero] at hc5
      have hcnt : (lvK x k).getD s.path.length 0 ≤ k := by
        unfold lvK lvs
        rw [lvs_get]
        have := List.count_le_length (a := s.path.length) (l := ((allS x).take k).map fun s => s.path.length)
        simp at this ⊢
        omega
      have hkM : k ≤ 1048576 := by
        have : (z : Int) ≤ 1048576 := by rw [← hz]; split <;> omega
        omega
      obtain ⟨hw1, hw2, hw3⟩ := hO5.write hbb hdl (c := [.int .i64 (((lvK x k).getD s.path.length 0 : Nat) + 1 : Int)]) (a := (((lvK x k).getD s.path.length 0 : Nat) + 1 : Int)) ⟨rfl, by unfold I64; omega⟩
      simp only [sz_int, Nat.mul_one] at hw1 hw2
      have hset : (nI (padL (lvK x k) s.path.length)).set s.path.length (((lvK x k).getD s.path.length 0 : Nat) + 1 : Int) = nI (lvK x (k + 1)) := by
        rw [hlk]
        unfold addLv
        rw [nI_set, padL_get]
        simp
      rw [hset] at hw2
      clear hset hc4 hel hc1 hc2 hc3
      have c75 := AH.cells_of b75
      have c95 : H5.cells H.next = some [.slice pa s.path.length pc, .int .i64 s.cost, .int .i64 s.left, .int .i64 s.pos, .int .i64 s.used.length, uv'] := by
        unfold AH.cells at c9c ⊢
        rw [hfr5 H.next (by omega) (by omega) (fun h => by have := hSn _ h; omega)]; exact c9c
      generalize hLn : (nI (padL (lvK x k) s.path.length)).length = Ln at *
      generalize (lvK x k).getD s.path.length 0 = cn at *
      have hdl' : (s.path.length : Int) < (Ln : Int) := by omega
      have hbS5 : b ∈ S5 := by rw [hSb]; simp
      have hbn0 : n0 ≤ b := by
        rcases hS5 b hbS5 with h | h
        · exact (q6 b h).1
        · omega
      have hbnp : ¬ p b := by
        rcases hS5 b hbS5 with h | h
        · exact (q6 b h).2
        · intro h2; have := hp b h2; omega
      obtain ⟨H6, hH6⟩ : ∃ H6, H6 = H5.set b (.row (over cs (off + s.path.length) [.int .i64 ((cn : Int) + 1)]) T_int true) := ⟨_, rfl⟩
      have far5 : ∀ y, y < H.next → y ≠ l → y ≠ r7 → y ≠ r8 → y ∉ S → H5.blk y = H.blk y := fun y h1 h2 h3 h4 h5 => by rw [hfr5 y (by omega) h3 h5, farc y h4, far y h1 h2]
      have bl5 : H5.blk l = some (.loop (busyL L0)) := by rw [hfr5 l (by omega) d4 (fun h => by have := (q6 _ h).1; omega), farc l d5]; exact blb
      have b85 : H5.blk r8 = some (.row [.int .i64 ((k : Int) + 1)] T_int true) := by rw [hfr5 r8 (by omega) (Ne.symm d15) (fun h => by have := (q6 _ h).1; omega)]; exact b8c
      have far6 : ∀ y, y ≠ b → H6.blk y = H5.blk y := fun y h => by rw [hH6, AH.set_blk_ne h]
      rw [← hH6] at hw1 hw2
      have n6 : H6.next = H5.next := by rw [hH6]; rfl
      clear hH6 hu
      simp (disch := omega) [-getElem?_pos, if_pos, if_neg, decide_eq_true, decide_eq_false, f7, f9, c75, c95, hdl, hdl', hcb, hc5, hw1, IntWalk.i64_in]
      have fin : ∀ B : Blk, B = .loop L0 → H.next ≤ (H6.set l B).next ∧ (∀ y, p y → (H6.set l B).blk y = H.blk y) ∧ LvI H0 n0 r7 r8 M x p (k + 1) (H6.set l B) := by
        rintro B rfl
        refine ⟨by simp; omega, fun y hy => ?_, by omega, by simp; omega, fun y hy h7 h8 => ?_, ?_, _, S5, ?_, hw2.up (fun _ h => h) (fun _ h => h.elim) (fun y hy => ?_) (fun _ _ h => h), fun y hy => ?_⟩
        · have := hp y hy
          rw [AH.set_blk_ne (by omega), far6 y (fun h => by subst h; exact hbnp hy), far5 y this.2 (by omega) (by omega) (by omega) (fun h => (q6 y h).2 hy)]
        · by_cases hyl : y = l
          · subst hyl; rw [AH.set_blk_same]; exact hl.symm
          · rw [AH.set_blk_ne hyl, far6 y (by omega), far5 y (by omega) hyl h7 h8 (fun h => by have := (q6 y h).1; omega), q2 y hy h7 h8]
        · rw [AH.set_blk_ne (Ne.symm d5), far6 r8 (by omega), b85]; simp
        · rw [AH.set_blk_ne (Ne.symm d4), far6 r7 (by omega), b75]
        · have : n0 ≤ y := by
            rcases hS5 y hy with h | h
            · exact (q6 y h).1
            · omega
          exact AH.set_blk_ne (by omega)
        · rcases hS5 y hy with h | h
          · exact q6 y h
          · exact ⟨by omega, fun h2 => by have := hp y h2; omega⟩
      obtain ⟨r1, r2, r3'⟩ := fin _ rfl
      refine ⟨_, by rw [far6 l (by omega)]; exact bl5, ?_⟩
      rw [busy_back hst hpe]
      exact ⟨r1, r2, .inl ⟨rfl, r3'⟩⟩
end Go.Proofs.YtlcddhgfkkjhkaaDoor
