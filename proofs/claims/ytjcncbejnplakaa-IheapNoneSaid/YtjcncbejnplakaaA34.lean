/-
  THE ABSTRACT LAYER (34): a statement that lists package-level variables: where its walk starts.
-/
import Derived.Test.YtjcncbejnplakaaA33
import Derived.LaidMore
import Derived.OpenShut
set_option linter.unusedSimpArgs false
set_option linter.unusedVariables false
namespace Go.Abs
open Go Go.RowKit Go.ChangeShapes

/-- The variables' rows in a world. -/
def GroundW (G : GTab) (w : World) : Prop := ∀ p ∈ G, ∃ c t fr, w.heap[p.1]? = some (.cells c t fr) ∧ ∀ i, i < p.2.length → c[i]? = p.2[i]?

theorem Sim.startG (P : Program) (W : World) {G : GTab} (hg : P.globals.size ≤ W.heap.size) (hG : goodG P.globals.size G = true) (hw : GroundW G W) : Sim P W.heap.size (startR P.globals.size) (groundH P.globals.size G) W := by
  simp only [goodG, List.all_eq_true, Bool.and_eq_true, decide_eq_true_eq] at hG
  refine ⟨?_, ?_, ?_, ?_, Nat.le_refl _⟩
  · intro b e he
    simp only [startR] at he
    split at he
    · cases he; rename_i h; exact ⟨h, by show b < _; omega⟩
    · cases he
  · intro b B hB
    obtain ⟨cs, hm, rfl⟩ := lookG_mem hB
    obtain ⟨c, t, fr, h1, h2⟩ := hw _ hm
    have hb := hG _ hm
    have hp : cs.all plain = true := by simpa using hb.2
    exact ⟨⟨b, 0, 0, 0⟩, by simp [startR, hb.1], c, t, fr, cs, h1, VRs.of_plain hp, ones_of_plain hp, fun i hi => by simpa using h2 i hi, fun h => by cases h⟩
  · intro b b' B B' e e' hB hB' _ _ _
    obtain ⟨_, _, rfl⟩ := lookG_mem hB
    obtain ⟨_, _, rfl⟩ := lookG_mem hB'
    exact .inr ⟨rfl, rfl⟩
  · intro g hgl
    exact ⟨_, by simp only [startR, hgl, if_true]; rfl, rfl, rfl⟩

theorem groundA_start {n : Nat} {G : GTab} (h : ∀ p ∈ G, lookG G p.1 = some (.row p.2 0 false)) : GroundA G (groundH n G) := fun p hp => AH.cells_of (h p hp)

/-- A listed array of numbers. -/
theorem laid_one {P : Program} {W : World} {name : String} {g : Nat} {t e : TypeId} {k : IntKind} {n : Nat} {zs : List Int} (hgn : P.globalNamed name = some g) (ht : (P.globals[g]?).map (·.type) = some t) (hu : P.underlying t = some (.array n e)) (hue : P.underlying e = some (.int k))
    (hce : P.cellsOf e = 1) (hlen : zs.length = n) (h0 : 0 < n) (h : laidMet P [(name, .agg (zs.map fun z => .lit (.int k z)))] W) : ∃ c t fr, W.heap[g]? = some (.cells c t fr) ∧ ∀ i, i < (zs.map (Value.int k)).length → c[i]? = (zs.map (Value.int k))[i]? := by
  obtain ⟨ps, ⟨g0, t0, cs0, f0, p0, q0, hg0, ht0, hv0, hd0, _, _⟩, _, _⟩ := h
  obtain rfl := Option.some.inj (hgn.symm.trans hg0)
  obtain rfl := Option.some.inj (ht.symm.trans ht0)
  obtain ⟨xs, m1, rfl, hx1, hl, hn3, hel⟩ := DataW.trod_array hu hd0
  simp only [Prod.mk.injEq, DataW.agg.injEq] at hx1
  have hcell : ∀ i (hi : i < n), cs0.toList[i]? = some (.int k (zs[i]'(by omega))) := by
    intro i hi
    have h1 := hel i hi
    rw [hce, Nat.mul_one, List.getElem?_eq_getElem (by omega)] at h1
    obtain ⟨z, e1, e2, _⟩ := DataW.trod_int hue h1
    have h2 : (zs.map fun z => (DataW.lit (.int k z) : DataW Unit))[i]? = (xs.map (·.1))[i]? := by rw [hx1.1]
    rw [List.getElem?_map, List.getElem?_map, List.getElem?_eq_getElem (by omega), List.getElem?_eq_getElem (by omega), e2] at h2
    simp only [Option.map_some, Option.some.injEq, DataW.lit.injEq, Lit.int.injEq, true_and] at h2
    rw [h2]
    have h3 : (cs0.toList.drop i).take 1 = [.int k z] := e1
    have h4 : ((cs0.toList.drop i).take 1)[0]? = some (.int k z) := by rw [h3]; rfl
    rw [List.getElem?_take_of_lt (by omega), List.getElem?_drop] at h4
    exact h4
  have hW := World.var?_cell hgn hv0
  have h00 := hW 0
  rw [← Array.getElem?_toList, hcell 0 h0] at h00
  unfold World.cell? at h00
  split at h00
  · rename_i c t fr hb
    refine ⟨c, t, fr, hb, fun i hi => ?_⟩
    have hi' : i < n := by simpa [hlen] using hi
    have hWi := hW i
    rw [← Array.getElem?_toList, hcell i hi'] at hWi
    unfold World.cell? at hWi
    simp only at hb hWi
    rw [hb] at hWi
    simp only [Option.isSome_none, Bool.false_eq_true, if_false] at hWi
    rw [hWi, List.getElem?_map, List.getElem?_eq_getElem (by omega)]
    rfl
  · cases h00

section
variable {T : Type} {enc : TypeId × Value → T} {P : Program} {w : World}
theorem groundH_ro {n : Nat} {G : GTab} : RO (groundH n G) := by
  intro b B hB
  obtain ⟨_, _, rfl⟩ := lookG_mem hB
  rfl
/-- The walk of a statement's function, the listed variables at hand. -/
theorem walk_allG {f : FuncId} {ss : List Sh} {ts : List TypeId} {args : Array Value} {ds : List (DataW T)} {p : List MemPlace} {n b : Nat} {G : GTab} {Q : AH → AH → Prop} (hg : P.globals.size ≤ w.heap.size) (hG : goodG P.globals.size G = true) (hgs : ∀ p ∈ G, lookG G p.1 = some (.row p.2 0 false)) (hGW : GroundW G w)
    (ho : okArgs P n ss ts = true) (hA : DataW.TrodAll enc P w 0 (fun _ => true) true ts args.toList ds p)
    (hval : ∀ (j : Nat) t v, ts[j]? = some t → args.toList[j]? = some v → Value.okWide P w .any b t v) (hlaw : ∀ (avs : List Value) (H : AH), GroundA G H → IsAll H ss avs → AFn P f avs H fun v H' => v = .bool true ∧ Q H H') :
    Calls P f args w fun e w' => e = .returned (.bool true) ∧ Below w.heap.size w w' := by
  obtain ⟨ρ, H, avs, s1, s2, s3, s4, s5, s7⟩ := open_args (B0 := w.heap.size) n b ss ts args.toList ds p ho hA hval _ _ (Sim.startG P w hg hG hGW) groundH_ro
  exact AFn.tells (hlaw avs H ((groundA_start hgs).kept (groundH_wf hG) s4) s7) s1 s5
end
end Go.Abs
