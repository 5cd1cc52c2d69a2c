/-
  IheapNone: nothing of it depends on the entry: reckoned.
-/
import Derived.Test.YtjcncbejnplakaaWakes
set_option maxRecDepth 100000
namespace Go.Abs

theorem VRs.plainC_eq {ρ : Rho} : ∀ {vs vs' : List Value}, vs.all plainC = true → VRs ρ vs vs' → vs' = vs
  | _, _, _, .nil => rfl
  | _, _, hp, .cons h t => by
    simp only [List.all_cons, Bool.and_eq_true] at hp
    rw [VR.plainC_eq hp.1 h, VRs.plainC_eq hp.2 t]
theorem VRs.of_plainC {ρ : Rho} : ∀ {vs : List Value}, vs.all plainC = true → VRs ρ vs vs
  | [], _ => .nil
  | v :: vs, h => by
    simp only [List.all_cons, Bool.and_eq_true] at h
    exact .cons (VR.of_plainC h.1) (VRs.of_plainC h.2)

theorem AFn.closedC {P : Program} {f : FuncId} {args : List Value} {H : AH} {G : GTab} {v0 : Value} (h : AFn P f args (groundH P.globals.size G) fun u _ => u = v0) (ha : args.all plainC = true) (hv : plain v0 = true)
    (hG : goodG P.globals.size G = true) (hg : GroundA G H) : AFn P f args H fun u H' => u = v0 ∧ H' = H := by
  intro B0 ρ w args' hs hargs
  have hs2 := hs.ground hg hG
  have ha2 : VRs (fun b => if b < P.globals.size then ρ b else none) args args'.toList := by rw [hargs.plainC_eq ha]; exact VRs.of_plainC ha
  refine (h _ _ _ _ hs2 ha2).mono ?_
  rintro e w' ⟨v', v, H', ρ', rfl, hst, hr, rfl⟩
  obtain rfl := hr.plain_eq hv
  have hsz : w.heap.size ≤ w'.heap.size := hst.ext.below.size
  refine ⟨v', v', H, ρ, rfl, ⟨⟨?_, ?_, hs.inj, hs.glob, Nat.le_trans hs.base hsz⟩, Rho.le_refl _, ⟨below_mono hst.ext.below hs.base, hst.ext.defd, hst.ext.loopd⟩⟩, VR.of_plain hv, rfl, rfl⟩
  · intro b e he; have := hs.fresh b e he; exact ⟨this.1, by omega⟩
  · intro b B hB
    obtain ⟨e, he, hh⟩ := hs.live b B hB
    exact ⟨e, he, hh.keep (Rho.le_refl _) (hst.ext.below.block _ (hs.fresh b e he).2)⟩

/-- What is reckoned, of arguments without addresses. -/
theorem AFn.reckonC {P : Program} (hm : P.follows .mixedOrders = true) {T : List (Nat × AFunc)} (hT : TabOk P T) {G : GTab} (k d : Nat) {f : FuncId} {args : List Value} {v0 : Value} {H : AH}
    (hG : goodG P.globals.size G = true) (h : (evF T k d f args (groundH P.globals.size G) 0).map (·.1) = some v0) (ha : args.all plainC = true) (hv : plain v0 = true) (hg : GroundA G H) :
    AFn P f args H fun u H' => u = v0 ∧ H' = H := by
  obtain ⟨⟨v, H', lo'⟩, h1, rfl⟩ := opt_map_some h
  obtain ⟨_, _, h2⟩ := evF_sound hm hT d _ _ _ _ _ _ _ (groundH_wf hG) h1
  exact AFn.closedC (h2.mono fun u H2 hu => hu.1) ha hv hG hg
end Go.Abs

namespace Go.Proofs.Ytjcncbejnplakaa
open Go Go.Abs

theorem IheapNone_abs {H : AH} (b d s i : Int) : AFn Try.prog F_law06_IheapNone [.agg #[.int .i64 b, .int .i64 d, .int .i64 s, .int .i64 i]] H fun u H' => u = .bool true ∧ H' = H :=
  AFn.reckonC mixed tab_ok 200 30 goodG_ok (by kernel_rfl) rfl rfl ground_nil
end Go.Proofs.Ytjcncbejnplakaa
