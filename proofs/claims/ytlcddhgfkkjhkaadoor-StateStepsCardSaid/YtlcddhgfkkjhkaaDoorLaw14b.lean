/-
  Layer 14: ways; StateReplays.
-/
import Derived.Test.YtlcddhgfkkjhkaaDoorLaw14a
import Derived.Test.YtlcddhgfkkjhkaaDoorState7
import Derived.Test.YtlcddhgfkkjhkaaDoorWak14
import Derived.Test.YtlcddhgfkkjhkaaDoorT14
import Derived.Test.YtlcddhgfkkjhkaaDoorRef09
set_option maxRecDepth 100000
set_option linter.unusedSimpArgs false
set_option linter.unusedVariables false
namespace Go.Proofs.YtlcddhgfkkjhkaaDoor
open Go Go.Abs
theorem min20 {n : Nat} : (if (20 : Int) < (n : Int) then (20 : Int) else (n : Int)) = ((min n 20 : Nat) : Int) := by split <;> omega
theorem way_spec {H : AH} {v kv : Value} {x : InstD} {K : List Int} (hx : InstV (fun b => b < H.next) H v x) (hok : x.Ok) (hK : SlV (fun b => b < H.next) H kv K) : AFn Tryd.prog F_law14_way [v, kv] H fun u H' => ∃ P, NewL H u P H' ∧ P.length ≤ 20 := by
  obtain ⟨iv, cv, sv, rfl, i1, i2, i3, h1, h2, h3⟩ := id hx
  have hcc := h2.cell
  have hci := h1.cell
  have hcs := h3.cell
  refine AFn.enter mixed ir_law14_way_eq (by simp [ir_law14_way]) fun hw => ?_
  have k1 : Keep [] H (H.alloc (.row [.int .i64 x.kind, .int .i64 x.cap, iv, cv, .int .i64 x.size, sv] T_secateurref09_Inst true)) := .alloc
  obtain ⟨w, hsl, hz⟩ := (hK.kept hw k1).sl (m := min K.length 20) (by omega)
  simp only [sz_int] at hsl
  have hlm : (K.take (min K.length 20)).length = min K.length 20 := by rw [List.length_take]; omega
  have hlt : (K.take (min K.length 20)).length ≤ 20 := by omega
  have m20 := min20 (n := K.length)
  rw [← hlm] at m20
  rw [show (Value.int .i64 ((min K.length 20 : Nat) : Int)) = .int .i64 ((K.take (min K.length 20)).length : Nat) from by rw [hlm]] at hsl
  clear hlm
  generalize K.take (min K.length 20) = L at *
  obtain ⟨ka, kc, rfl⟩ := hK.slice
  obtain ⟨wa, wc, rfl⟩ := hz.slice
  have hwc := hz.cell
  simp (disch := omega) [-getElem?_pos, if_pos, if_neg, decide_eq_true, decide_eq_false, ir_law14_way, cut6', ↓ieval_slhi, m20, hsl, hwc.1, hwc.2]
  generalize hH1 : AH.alloc H _ = H1 at *
  have w1 : WF H1 := by rw [← hH1]; exact hw.alloc
  have n1 : H1.next = H.next + 1 := by rw [← hH1]; simp
  have d0 : H1.cells H.next = some [.int .i64 x.kind, .int .i64 x.cap, iv, cv, .int .i64 x.size, sv] := by rw [← hH1]; simp
  clear hH1
  have hx1 := (hx.kept hw k1).up (q := fun b => b < H1.next) (fun b hb => by omega) .refl
  refine wpC_use (way_l0 (p := fun b => b < H.next) (H0 := H1) (q := H.next) w1 d0 hx1 hok hz hlt ⟨by simp, by simp, by simp, by simp, w1, .slice none 0 0, [], x.start, by simp, ⟨[], .nil, .refl, by simp⟩, rfl, rfl⟩) ?_
  rintro e env2 H2 ⟨rfl, pv, P, e5, ⟨S, hP, kP, hS⟩, hPl⟩ hu
  have hpc := hP.cell
  simp (disch := omega) [-getElem?_pos, if_pos, if_neg, decide_eq_true, decide_eq_false, e5, hpc.1, hpc.2]
  exact ⟨P, ⟨S, hP, k1.trans' kP, fun b hb => by have := hS b hb; omega⟩, hPl⟩
end Go.Proofs.YtlcddhgfkkjhkaaDoor
