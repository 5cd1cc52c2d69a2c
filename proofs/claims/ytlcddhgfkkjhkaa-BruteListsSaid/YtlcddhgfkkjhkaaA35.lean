/-
  THE ABSTRACT LAYER (32): a call that tells a plain value and needs to write nothing old leaves all as it was.
-/
import Derived.Test.YtlcddhgfkkjhkaaA31
import Derived.LaidMore
import Derived.OpenShut
set_option linter.unusedSimpArgs false
set_option linter.unusedVariables false
namespace Go.Abs
open Go Go.RowKit

/-- The rows, to be read alone. -/
def AH.ro (H : AH) : AH := { H with blk := fun b => match H.blk b with
  | some (.row cs e _) => some (.row cs e false)
  | _ => none }

/-- The same cells stand there. -/
def SameC (H H0 : AH) : Prop := H0.next = H.next ∧ ∀ b, H0.cells b = H.cells b

theorem AH.ro_same (H : AH) : SameC H H.ro := by
  refine ⟨rfl, fun b => ?_⟩
  unfold AH.cells AH.ro
  simp only
  cases h : H.blk b with
  | none => rfl
  | some B => cases B <;> rfl

theorem Sim.ro {P : Program} {B0 : Nat} {ρ : Rho} {H : AH} {w : World} (h : Sim P B0 ρ H w) : Sim P w.heap.size ρ H.ro w := by
  have hro : ∀ b B, H.ro.blk b = some B → ∃ cs e wr, H.blk b = some (.row cs e wr) ∧ B = .row cs e false := by
    intro b B hB
    unfold AH.ro at hB
    simp only at hB
    split at hB
    · rename_i cs e wr hb; cases hB; exact ⟨_, _, _, hb, rfl⟩
    · cases hB
  refine ⟨h.fresh, ?_, ?_, h.glob, Nat.le_refl _⟩
  · intro b B hB
    obtain ⟨cs, e, wr, hb, rfl⟩ := hro b B hB
    obtain ⟨em, he, c, t, fr, cells', h1, h2, h3, h4, h5⟩ := h.live _ _ hb
    exact ⟨em, he, c, t, fr, cells', h1, h2, h3, h4, fun h => by cases h⟩
  · intro b b' B B' e e' hB hB' _ _ _
    obtain ⟨_, _, _, _, rfl⟩ := hro b B hB
    obtain ⟨_, _, _, _, rfl⟩ := hro b' B' hB'
    exact .inr ⟨rfl, rfl⟩

theorem VR.plainC_eq {ρ : Rho} {v v' : Value} (hp : plainC v = true) (h : VR ρ v v') : v' = v := by
  cases v with
  | agg cs =>
    cases h with
    | agg _ p' hp' h1 _ =>
      simp only [plainC, List.all_eq_true] at hp
      congr 1
      refine (Array.ext (by omega) fun i a b => ?_).symm
      exact ((h1 i a b).plain_eq (hp _ (by simp))).symm
  | tuple cs =>
    cases h with
    | tuple _ p' hp' h1 =>
      simp only [plainC, List.all_eq_true] at hp
      congr 1
      refine (Array.ext (by omega) fun i a b => ?_).symm
      exact ((h1 i a b).plain_eq (hp _ (by simp))).symm
  | _ => exact h.plain_eq hp

/-- A CALL THAT ONLY READS. -/
theorem AFn.calm {P : Program} {f : FuncId} {args : List Value} {H : AH} {v0 : Value} (h : ∀ H0, SameC H H0 → AFn P f args H0 fun u _ => u = v0) (hv : plainC v0 = true) :
    AFn P f args H fun u H' => u = v0 ∧ H' = H := by
  intro B0 ρ w args' hs hargs
  refine (h H.ro H.ro_same _ _ _ _ hs.ro hargs).mono ?_
  rintro e w' ⟨v', v, H', ρ', rfl, hst, hr, rfl⟩
  obtain rfl := hr.plainC_eq hv
  have hsz : w.heap.size ≤ w'.heap.size := hst.ext.below.size
  refine ⟨v', v', H, ρ, rfl, ⟨⟨?_, ?_, hs.inj, hs.glob, Nat.le_trans hs.base hsz⟩, Rho.le_refl _, ⟨below_mono hst.ext.below hs.base, hst.ext.defd, hst.ext.loopd⟩⟩, VR.of_plainC hv, rfl, rfl⟩
  · intro b e he; have := hs.fresh b e he; exact ⟨this.1, by omega⟩
  · intro b B hB
    obtain ⟨e, he, hh⟩ := hs.live b B hB
    exact ⟨e, he, hh.keep (Rho.le_refl _) (hst.ext.below.block _ (hs.fresh b e he).2)⟩

theorem CalmAt.of {P : Program} {f : FuncId} {args : List Value} {H : AH} {v0 : Value} (h : AFn P f args H.ro fun u _ => u = v0) (hv : plainC v0 = true) : CalmAt P f args H v0 := by
  intro B0 ρ w args' hs hargs
  refine (h _ _ _ _ hs.ro hargs).mono ?_
  rintro e w' ⟨v', v, H', ρ', rfl, hst, hr, rfl⟩
  obtain rfl := hr.plainC_eq hv
  have hsz : w.heap.size ≤ w'.heap.size := hst.ext.below.size
  refine ⟨v', rfl, ⟨⟨?_, ?_, hs.inj, hs.glob, Nat.le_trans hs.base hsz⟩, Rho.le_refl _, ⟨below_mono hst.ext.below hs.base, hst.ext.defd, hst.ext.loopd⟩⟩, VR.of_plainC hv⟩
  · intro b e he; have := hs.fresh b e he; exact ⟨this.1, by omega⟩
  · intro b B hB
    obtain ⟨e, he, hh⟩ := hs.live b B hB
    exact ⟨e, he, hh.keep (Rho.le_refl _) (hst.ext.below.block _ (hs.fresh b e he).2)⟩
/-- A call in a region whose operations may be done in any order: it reads the blocks R alone. -/
theorem CalmCall.of {P : Program} {f : FuncId} {args : List Value} {R : List Nat} {H : AH} {v0 : Value} (hg : goodFunc P f = true) (h : ∀ H1 : AH, (∀ b ∈ R, H1.blk b = H.blk b) → AFn P f args H1.ro fun u _ => u = v0) (hv : plainC v0 = true) :
    CalmCall P (.func (.func f) #[] #[]) args R H v0 := ⟨hg, fun H1 hb => by simpa using CalmAt.of (h H1 hb) hv⟩
/-- .. it reads nothing. -/
theorem CalmCall.pure {P : Program} {f : FuncId} {args : List Value} {H : AH} {v0 : Value} (hg : goodFunc P f = true) (h : ∀ H1 : AH, AFn P f args H1 fun u H' => u = v0 ∧ H' = H1) (hv : plainC v0 = true) :
    CalmCall P (.func (.func f) #[] #[]) args [] H v0 := .of hg (fun H1 _ => (h H1.ro).mono fun _ _ h => h.1) hv

theorem Vw.same {p : Nat → Prop} {H H0 : AH} {sz n : Nat} {v : Value} {cells : List Value} (h : Vw p H sz v n cells) (hs : SameC H H0) : Vw p H0 sz v n cells := by
  refine ⟨h.1, ?_⟩
  rcases h.2 with h | ⟨b, off, sp, cap, cs, h1, h2, h3, h4, h5, hp⟩
  · exact .inl h
  · exact .inr ⟨b, off, sp, cap, cs, h1, h2, h3, by rw [hs.2, h4], h5, hp⟩


theorem Keep.new_set {H H' : AH} {b : Nat} {B : Blk} (hb : H.next ≤ b) (h : Keep [] H H') : Keep [] H (H'.set b B) :=
  ⟨h.next, fun a ha hn => by rw [AH.set_blk_ne (by omega)]; exact h.blk a ha hn⟩
theorem Keep.new_alloc {H H' : AH} {B : Blk} (h : Keep [] H H') : Keep [] H (H'.alloc B) := h.trans' .alloc
theorem Own.fresh {H H' : AH} {elem sz n : Nat} {v : Value} {cells : List Value} {S : List Nat} (h : Own H elem sz v n cells S) (hk : ∀ b ∈ S, H'.blk b = H.blk b) : Own H' elem sz v n cells S := h.keep hk
/-- A slice of one's own that isn't empty. -/
theorem Own.pos {H : AH} {elem sz n : Nat} {v : Value} {cells : List Value} {S : List Nat} (h : Own H elem sz v n cells S) (hn : 0 < n) :
    ∃ b off sp cap cs, v = .slice (some ⟨b, off, sp⟩) n cap ∧ S = [b] ∧ H.blk b = some (.row cs elem true) ∧ H.cells b = some cs ∧ (sp = none ∨ sp = some sz) ∧ ∀ k, k < n * sz → cs[off + k]? = cells[k]? := by
  obtain ⟨b, off, sp, cap, cs, h1, h2, h3, h4, _, _, h7, h8, _⟩ := h.at hn
  exact ⟨b, off, sp, cap, cs, h1, h2, h3, h4, h7, h8⟩
theorem over_one {cells : List Value} {k : Nat} {v : Value} (h : k < cells.length) : over cells k [v] = cells.set k v := by
  rw [List.set_eq_take_append_cons_drop, if_pos h]
  simp [over]

end Go.Abs

/-
  THE ABSTRACT LAYER (33): a list that is built up by appends.
-/
set_option linter.unusedSimpArgs false
set_option linter.unusedVariables false
namespace Go.Abs
open Go

/-- The first k of some elements stand in a slice of one's own; all that was there is as it was. -/
def Acc (H : AH) (ty sz : Nat) (cells : List Value) (k : Nat) (out : Value) (H' : AH) : Prop :=
  WF H' ∧ Keep [] H H' ∧ ∃ S, Own H' ty sz out k (cells.take (k * sz)) S ∧ ∀ b ∈ S, H.next ≤ b

theorem Acc.start {H : AH} {ty sz : Nat} {cells : List Value} (hw : WF H) : Acc H ty sz cells 0 (.slice none 0 0) H := ⟨hw, .refl, [], by simpa using Own.nil, by simp⟩
theorem Acc.start' {H H' : AH} {ty sz : Nat} {cells : List Value} (hw : WF H') (hk : Keep [] H H') : Acc H ty sz cells 0 (.slice none 0 0) H' := ⟨hw, hk, [], by simpa using Own.nil, by simp⟩
theorem Acc.slice {H H' : AH} {ty sz k : Nat} {cells : List Value} {out : Value} (h : Acc H ty sz cells k out H') : ∃ a c, out = .slice a k c := by
  obtain ⟨_, _, S, h, _⟩ := h
  exact h.slice
/-- Another heap behind it. -/
theorem Acc.kept {H H' H'' : AH} {ty sz k : Nat} {cells : List Value} {out : Value} (h : Acc H ty sz cells k out H') (hw : WF H'') (hk : Keep [] H' H'') : Acc H ty sz cells k out H'' := by
  obtain ⟨w, k1, S, o, hS⟩ := h
  exact ⟨hw, k1.trans' hk, S, o.kept w hk (by simp), hS⟩
theorem Acc.push {H H' : AH} {ty sz k bytes : Nat} {cells : List Value} {out : Value} (h : Acc H ty sz cells k out H') (news : List Value) (hn : (cells.drop (k * sz)).take sz = news) (hl : news.length = sz) (hroom : (k + 1) * bytes ≤ 140737488355328) (hmax : k + 1 ≤ 9223372036854775807) :
    ∃ a c a' c' H5, out = .slice a k c ∧ appendA (H'.alloc (.row news ty true)) ty sz bytes out 1 news = some (.slice a' (k + 1) c', H5) ∧ Acc H ty sz cells (k + 1) (.slice a' (k + 1) c') H5 ∧ Keep [] H H5 ∧ WF H5 := by
  obtain ⟨w, k1, S, o, hS⟩ := h
  obtain ⟨a, c, rfl⟩ := o.slice
  obtain ⟨a', c', H5, S5, p1, p2, p3, p4, p5⟩ := o.push w ty bytes 1 news (by omega) hroom hmax
  have hk5 : Keep [] H H5 := k1.trans p3 fun b hb hlt => by have := hS b hb; omega
  refine ⟨a, c, a', c', H5, rfl, p1, ⟨p4, hk5, S5, ?_, fun b hb => ?_⟩, hk5, p4⟩
  · rw [Nat.add_mul, Nat.one_mul, List.take_add, hn]
    exact p2
  · rcases p5 b hb with h | h
    · exact hS b h
    · have := k1.next; omega
theorem Acc.done {H H' : AH} {ty sz n : Nat} {cells : List Value} {out : Value} (h : Acc H ty sz cells n out H') (hn : cells.length = n * sz) : ∃ S, Own H' ty sz out n cells S ∧ Keep [] H H' ∧ ∀ b ∈ S, H.next ≤ b := by
  obtain ⟨w, k1, S, o, hS⟩ := h
  rw [List.take_of_length_le (by omega)] at o
  exact ⟨S, o, k1, hS⟩

end Go.Abs

/-
  THE ABSTRACT LAYER (34): a statement that lists package-level variables: where its walk starts.
-/
set_option linter.unusedSimpArgs false
set_option linter.unusedVariables false
namespace Go.Abs
open Go Go.RowKit Go.ChangeShapes

/-- The variables' rows in a world. -/
def GroundW (G : GTab) (w : World) : Prop := ∀ p ∈ G, ∃ c t fr, w.heap[p.1]? = some (.cells c t fr) ∧ ∀ i, i < p.2.length → c[i]? = p.2[i]?

theorem Sim.startG (P : Program) (W : World) {G : GTab} (hg : P.globals.size ≤ W.heap.size) (hG : goodG P.globals.size G = true) (hw : GroundW G W) : Sim P W.heap.size (startR P.globals.size) (groundH P.globals.size G) W := by
  simp only [goodG, List.all_eq_true, Bool.and_eq_true, decide_eq_true_eq] at hG
  refine ⟨?_, ?_, ?_, ?_, Nat.le_refl _⟩
  · intro b e he
    simp only [startR] at he
    split at he
    · cases he; rename_i h; exact ⟨h, by show b < _; omega⟩
    · cases he
  · intro b B hB
    obtain ⟨cs, hm, rfl⟩ := lookG_mem hB
    obtain ⟨c, t, fr, h1, h2⟩ := hw _ hm
    have hb := hG _ hm
    have hp : cs.all plain = true := by simpa using hb.2
    exact ⟨⟨b, 0, 0, 0⟩, by simp [startR, hb.1], c, t, fr, cs, h1, VRs.of_plain hp, ones_of_plain hp, fun i hi => by simpa using h2 i hi, fun h => by cases h⟩
  · intro b b' B B' e e' hB hB' _ _ _
    obtain ⟨_, _, rfl⟩ := lookG_mem hB
    obtain ⟨_, _, rfl⟩ := lookG_mem hB'
    exact .inr ⟨rfl, rfl⟩
  · intro g hgl
    exact ⟨_, by simp only [startR, hgl, if_true]; rfl, rfl, rfl⟩

theorem groundA_start {n : Nat} {G : GTab} (h : ∀ p ∈ G, lookG G p.1 = some (.row p.2 0 false)) : GroundA G (groundH n G) := fun p hp => AH.cells_of (h p hp)

/-- A listed array of numbers. -/
theorem laid_first {P : Program} {W : World} {name : String} {g : Nat} {t e : TypeId} {k : IntKind} {n : Nat} {zs : List Int} (hgn : P.globalNamed name = some g) (ht : (P.globals[g]?).map (·.type) = some t) (hu : P.underlying t = some (.array n e)) (hue : P.underlying e = some (.int k))
    (hce : P.cellsOf e = 1) (hlen : zs.length = n) (h0 : 0 < n) {rest : List (String × DataW Unit)} {ps : List MemPlace} (h : DataW.LaidVars P W ((name, .agg (zs.map fun z => .lit (.int k z))) :: rest) ps) : (∃ c t fr, W.heap[g]? = some (.cells c t fr) ∧ ∀ i, i < (zs.map (Value.int k)).length → c[i]? = (zs.map (Value.int k))[i]?) ∧ ∃ q, DataW.LaidVars P W rest q := by
  obtain ⟨g0, t0, cs0, f0, p0, q0, hg0, ht0, hv0, hd0, hrest, _⟩ := h
  refine ⟨?_, q0, hrest⟩
  obtain rfl := Option.some.inj (hgn.symm.trans hg0)
  obtain rfl := Option.some.inj (ht.symm.trans ht0)
  obtain ⟨xs, m1, rfl, hx1, hl, hn3, hel⟩ := DataW.trod_array hu hd0
  simp only [Prod.mk.injEq, DataW.agg.injEq] at hx1
  have hcell : ∀ i (hi : i < n), cs0.toList[i]? = some (.int k (zs[i]'(by omega))) := by
    intro i hi
    have h1 := hel i hi
    rw [hce, Nat.mul_one, List.getElem?_eq_getElem (by omega)] at h1
    obtain ⟨z, e1, e2, _⟩ := DataW.trod_int hue h1
    have h2 : (zs.map fun z => (DataW.lit (.int k z) : DataW Unit))[i]? = (xs.map (·.1))[i]? := by rw [hx1.1]
    rw [List.getElem?_map, List.getElem?_map, List.getElem?_eq_getElem (by omega), List.getElem?_eq_getElem (by omega), e2] at h2
    simp only [Option.map_some, Option.some.injEq, DataW.lit.injEq, Lit.int.injEq, true_and] at h2
    rw [h2]
    have h3 : (cs0.toList.drop i).take 1 = [.int k z] := e1
    have h4 : ((cs0.toList.drop i).take 1)[0]? = some (.int k z) := by rw [h3]; rfl
    rw [List.getElem?_take_of_lt (by omega), List.getElem?_drop] at h4
    exact h4
  have hW := World.var?_cell hgn hv0
  have h00 := hW 0
  rw [← Array.getElem?_toList, hcell 0 h0] at h00
  unfold World.cell? at h00
  split at h00
  · rename_i c t fr hb
    refine ⟨c, t, fr, hb, fun i hi => ?_⟩
    have hi' : i < n := by simpa [hlen] using hi
    have hWi := hW i
    rw [← Array.getElem?_toList, hcell i hi'] at hWi
    unfold World.cell? at hWi
    simp only at hb hWi
    rw [hb] at hWi
    simp only [Option.isSome_none, Bool.false_eq_true, if_false] at hWi
    rw [hWi, List.getElem?_map, List.getElem?_eq_getElem (by omega)]
    rfl
  · cases h00

theorem laid_one {P : Program} {W : World} {name : String} {g : Nat} {t e : TypeId} {k : IntKind} {n : Nat} {zs : List Int} (hgn : P.globalNamed name = some g) (ht : (P.globals[g]?).map (·.type) = some t) (hu : P.underlying t = some (.array n e)) (hue : P.underlying e = some (.int k))
    (hce : P.cellsOf e = 1) (hlen : zs.length = n) (h0 : 0 < n) (h : laidMet P [(name, .agg (zs.map fun z => .lit (.int k z)))] W) : ∃ c t fr, W.heap[g]? = some (.cells c t fr) ∧ ∀ i, i < (zs.map (Value.int k)).length → c[i]? = (zs.map (Value.int k))[i]? := by
  obtain ⟨ps, h, _⟩ := h
  exact (laid_first hgn ht hu hue hce hlen h0 h).1

section
variable {T : Type} {enc : TypeId × Value → T} {P : Program} {w : World}
theorem groundH_ro {n : Nat} {G : GTab} : RO (groundH n G) := by
  intro b B hB
  obtain ⟨_, _, rfl⟩ := lookG_mem hB
  rfl
/-- The walk of a statement's function, the listed variables at hand. -/
theorem walk_allG {f : FuncId} {ss : List Sh} {ts : List TypeId} {args : Array Value} {ds : List (DataW T)} {p : List MemPlace} {n b : Nat} {G : GTab} {Q : AH → AH → Prop} (hg : P.globals.size ≤ w.heap.size) (hG : goodG P.globals.size G = true) (hgs : ∀ p ∈ G, lookG G p.1 = some (.row p.2 0 false)) (hGW : GroundW G w)
    (ho : okArgs P n ss ts = true) (hA : DataW.TrodAll enc P w 0 (fun _ => true) true ts args.toList ds p)
    (hval : ∀ (j : Nat) t v, ts[j]? = some t → args.toList[j]? = some v → Value.okWide P w .any b t v) (hlaw : ∀ (avs : List Value) (H : AH), GroundA G H → IsAll H ss avs → AFn P f avs H fun v H' => v = .bool true ∧ Q H H') :
    Calls P f args w fun e w' => e = .returned (.bool true) ∧ Below w.heap.size w w' := by
  obtain ⟨ρ, H, avs, s1, s2, s3, s4, s5, s7⟩ := open_args (B0 := w.heap.size) n b ss ts args.toList ds p ho hA hval _ _ (Sim.startG P w hg hG hGW) groundH_ro
  exact AFn.tells (hlaw avs H ((groundA_start hgs).kept (groundH_wf hG) s4) s7) s1 s5
end
end Go.Abs

/-
  THE ABSTRACT LAYER (35): slices of numbers and of truths among the arguments.
-/
set_option linter.unusedSimpArgs false
set_option linter.unusedVariables false
namespace Go.Abs
open Go

theorem wf_i64 {n : Int} (h : (Lit.int .i64 n).wf = true) : -9223372036854775808 ≤ n ∧ n ≤ 9223372036854775807 := by
  simpa [Lit.wf, IntKind.min, IntKind.max, IntKind.signed, IntKind.bits] using h

theorem ints_of {H : AH} {k : IntKind} : ∀ (n : Nat) (cells : List Value), cells.length = n * 1 → (∀ i, i < n → Is H (.int k) ((cells.drop (i * 1)).take 1)) → ∃ l : List Int, cells = l.map (.int k) ∧ ∀ z ∈ l, (Lit.int k z).wf = true
  | 0, cells, hl, _ => ⟨[], by simpa using hl, by simp⟩
  | n + 1, [], hl, _ => by simp at hl
  | n + 1, c :: cells, hl, h => by
    obtain ⟨l, h1, h2⟩ := ints_of n cells (by simp at hl ⊢; omega) fun i hi => by
      have := h (i + 1) (by omega)
      rw [show (i + 1) * 1 = i * 1 + 1 by omega, List.drop_succ_cons] at this
      exact this
    obtain ⟨z, e, hz⟩ := h 0 (by omega)
    have e' : c = .int k z := by simpa using e
    exact ⟨z :: l, by simp [e', h1], by simpa using ⟨hz, h2⟩⟩
theorem bools_of {H : AH} : ∀ (n : Nat) (cells : List Value), cells.length = n * 1 → (∀ i, i < n → Is H .bool ((cells.drop (i * 1)).take 1)) → ∃ l : List Bool, cells = l.map .bool
  | 0, cells, hl, _ => ⟨[], by simpa using hl⟩
  | n + 1, [], hl, _ => by simp at hl
  | n + 1, c :: cells, hl, h => by
    obtain ⟨l, h1⟩ := bools_of n cells (by simp at hl ⊢; omega) fun i hi => by
      have := h (i + 1) (by omega)
      rw [show (i + 1) * 1 = i * 1 + 1 by omega, List.drop_succ_cons] at this
      exact this
    obtain ⟨z, e⟩ := h 0 (by omega)
    have e' : c = .bool z := by simpa using e
    exact ⟨z :: l, by simp [e', h1]⟩

theorem IsArg.ints_inv {H : AH} {k : IntKind} {v : Value} (h : IsArg H (.slice (.int k) 1) v) : ∃ n, ∃ l : List Int, Rd H 1 v n (l.map (.int k)) ∧ n ≤ 9223372036854775807 ∧ ∀ z ∈ l, (Lit.int k z).wf = true := by
  obtain ⟨n, cells, hrd, hn, hall⟩ := h.slice_inv
  obtain ⟨l, rfl, hz⟩ := ints_of n cells hrd.len hall
  exact ⟨n, l, hrd, hn, hz⟩
theorem IsArg.bools_inv {H : AH} {v : Value} (h : IsArg H (.slice .bool 1) v) : ∃ n, ∃ l : List Bool, Rd H 1 v n (l.map .bool) ∧ n ≤ 9223372036854775807 := by
  obtain ⟨n, cells, hrd, hn, hall⟩ := h.slice_inv
  obtain ⟨l, rfl⟩ := bools_of n cells hrd.len hall
  exact ⟨n, l, hrd, hn⟩
/-- Two numbers in an array. -/
theorem IsArg.two_inv {H : AH} {k : IntKind} {v : Value} (h : IsArg H (.cons 1 (.int k) (.cons 1 (.int k) .nil)) v) : ∃ x y, v = .agg #[.int k x, .int k y] ∧ (Lit.int k x).wf = true ∧ (Lit.int k y).wf = true := by
  unfold IsArg at h
  rw [if_neg (by simp [Sh.single])] at h
  obtain ⟨⟨cs⟩, rfl, h1, ⟨x, e1, w1⟩, h2, ⟨y, e2, w2⟩, h3⟩ := h
  match cs, e1, e2, h3 with
  | [a, b], e1, e2, _ =>
    simp at e1 e2
    subst e1 e2
    exact ⟨x, y, rfl, w1, w2⟩
  | [], e1, _, _ => simp at e1
  | [_], _, e2, _ => simp at e2
  | _ :: _ :: _ :: _, _, _, h3 => simp [Is] at h3
end Go.Abs
