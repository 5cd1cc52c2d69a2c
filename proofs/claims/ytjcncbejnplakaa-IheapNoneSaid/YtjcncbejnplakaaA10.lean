/-
  THE ABSTRACT LAYER (10): slicing, appending, copying, clearing.
-/
import Derived.Test.YtjcncbejnplakaaA9
set_option linter.unusedSimpArgs false
set_option linter.unusedVariables false
namespace Go.Abs
open Go Go.RowKit

section
variable {P : Program} {B0 n : Nat} {ρ : Rho} {H H' : AH} {w : World} {env : Env} {a : Act} {v : Value}
variable {ty : TypeId} {pos : String} {dst : Option Nat} {after : Array Edge} {g : Option (Nat × Bool)}

/-- A bound that is met. -/
theorem boundA_sound (hs : Sim P B0 ρ H w) (he : EnvR n ρ env a.tmps) {y r : Nat} {x : Operand} {d : Nat} (hk : okOpd P x = true) (h : boundA env y (some x) d = some r) (y' : Nat) (hy : y ≤ y') (code : BoundsCode) :
    (Instr.sliceBound (a.eval x) y' code).run P w = .ok r w ∧ r ≤ y := by
  simp only [boundA] at h
  split at h
  · rename_i k i hv
    split at h
    · rename_i hi
      cases h
      have := (aval_sound hs he hk hv).int_inv
      refine ⟨?_, by omega⟩
      have h2 : 0 ≤ i ∧ i ≤ (y' : Int) := ⟨hi.1, by omega⟩
      simp [Instr.sliceBound, this, asIntOf, h2]
    · cases h
  · cases h

def okO (P : Program) (o : Option Operand) : Prop := ∀ x, o = some x → okOpd P x = true

theorem boundsA_sound (hs : Sim P B0 ρ H w) (he : EnvR n ρ env a.tmps) {len cap cap' l h m : Nat} {lo hi mx : Option Operand} (k1 : okO P lo) (k2 : okO P hi) (k3 : okO P mx) (hc : cap ≤ cap') (hl : len ≤ cap)
    (hb : boundsA env len cap lo hi mx = some (l, h, m)) (isSlice : Bool) :
    (Instr.sliceBounds isSlice len cap' (lo.map a.eval) (hi.map a.eval) (mx.map a.eval)).run P w = .ok (l, h, if mx.isSome then m else cap') w ∧ l ≤ h ∧ h ≤ m ∧ m ≤ cap ∧ (mx = none → m = cap) := by
  unfold boundsA at hb
  split at hb
  · cases hb
  · rename_i m1 hm
    split at hb
    · cases hb
    · rename_i hmh
      split at hb
      · cases hb
      · rename_i h1 hh
        split at hb
        · cases hb
        rename_i l1 hlo
        simp only [Option.some.injEq, Prod.mk.injEq] at hb
        obtain ⟨rfl, rfl, rfl⟩ := hb
        cases mx with
        | none =>
          simp only [boundA, Option.some.injEq] at hm
          subst hm
          cases hi with
          | none =>
            simp only [boundA, Option.some.injEq] at hh
            subst hh
            cases lo with
            | none =>
              simp only [boundA, Option.some.injEq] at hlo
              subst hlo
              refine ⟨by simp [Instr.sliceBounds], by omega, by omega, by omega, fun _ => rfl⟩
            | some x =>
              obtain ⟨r1, r2⟩ := boundA_sound hs he (k1 x rfl) hlo len (Nat.le_refl _) .sliceB
              refine ⟨by simp [Instr.sliceBounds, r1], by omega, by omega, by omega, fun _ => rfl⟩
          | some y =>
            obtain ⟨q1, q2⟩ := boundA_sound hs he (k2 y rfl) hh cap' hc (if isSlice then .sliceAcap else .sliceAlen)
            cases lo with
            | none =>
              simp only [boundA, Option.some.injEq] at hlo
              subst hlo
              refine ⟨by simp [Instr.sliceBounds, q1], by omega, by omega, by omega, fun _ => rfl⟩
            | some x =>
              obtain ⟨r1, r2⟩ := boundA_sound hs he (k1 x rfl) hlo h1 (Nat.le_refl _) .sliceB
              refine ⟨by simp [Instr.sliceBounds, q1, r1], by omega, by omega, by omega, fun _ => rfl⟩
        | some z =>
          obtain ⟨p1, p2⟩ := boundA_sound hs he (k3 z rfl) hm cap' hc (if isSlice then .slice3Acap else .slice3Alen)
          cases hi with
          | none => simp at hmh
          | some y =>
            obtain ⟨q1, q2⟩ := boundA_sound hs he (k2 y rfl) hh m1 (Nat.le_refl _) .slice3B
            cases lo with
            | none =>
              simp only [boundA, Option.some.injEq] at hlo
              subst hlo
              refine ⟨by simp [Instr.sliceBounds, p1, q1], by omega, by omega, by omega, fun h => by cases h⟩
            | some x =>
              obtain ⟨r1, r2⟩ := boundA_sound hs he (k1 x rfl) hlo h1 (Nat.le_refl _) .slice3C
              refine ⟨by simp [Instr.sliceBounds, p1, q1, r1], by omega, by omega, by omega, fun h => by cases h⟩


theorem size_of {t : TypeId} {m : Nat} (h : sizeB P t = some m) : (sizeOf t).run P w = .ok m w := by
  unfold sizeB at h
  cases hi : P.info? t with
  | none => simp [hi] at h
  | some i => simp [hi] at h; simp [sizeOf, typeInfo, hi, h]

theorem sound_slT {t : TypeId} {s : ByteArray} {x : Operand} {lo hi : Option Operand} {l h m : Nat} (hs : Sim P B0 ρ H w) (he : EnvR n ρ env a.tmps) (hu : P.underlying t = some .string) (k1 : okO P lo) (k2 : okO P hi)
    (h1 : VR ρ (.string s) (a.eval x)) (hb : boundsA env s.size s.size lo hi none = some (l, h, m)) :
    Fine P B0 ρ w ((execOp a.eval { dst, op := .slice t x lo hi none, type := ty, pos, after, guard := g }).run P w) (.string (s.extract l h)) H := by
  obtain ⟨r, _⟩ := boundsA_sound hs he k1 k2 (by intro x hx; cases hx) (Nat.le_refl _) (Nat.le_refl _) hb false
  refine .pure hs (v' := .string (s.extract l h)) ?_ (.string _)
  simp only [Option.map_none] at r
  simp [execOp, Instr.sliceAt, Instr.slice, run_underlying hu, h1.string_inv, r]

theorem sound_slP {t el : TypeId} {k b off sz : Nat} {x : Operand} {lo hi mx : Option Operand} {l h m : Nat} (hs : Sim P B0 ρ H w) (he : EnvR n ρ env a.tmps)
    (hu : P.underlying t = some (.array k el) ∨ ∃ arr, P.underlying t = some (.pointer arr) ∧ P.underlying arr = some (.array k el)) (hz : sizeB P el = some sz) (k1 : okO P lo) (k2 : okO P hi) (k3 : okO P mx)
    (h1 : VR ρ (.pointer (some ⟨b, off, none⟩)) (a.eval x)) (hb : boundsA env k k lo hi mx = some (l, h, m)) :
    Fine P B0 ρ w ((execOp a.eval { dst, op := .slice t x lo hi mx, type := ty, pos, after, guard := g }).run P w) (.slice (some ⟨b, if m = l then off else off + l * sz, none⟩) (h - l) (m - l)) H := by
  obtain ⟨r, q1, q2, q3, q4⟩ := boundsA_sound hs he k1 k2 k3 (Nat.le_refl _) (Nat.le_refl _) hb false
  obtain ⟨e, hbe, hx⟩ := h1.ptr_inv
  have hm : (if mx.isSome then m else k) = m := by
    cases mx with
    | none => simp [q4 rfl]
    | some y => rfl
  rw [hm] at r
  refine .pure hs (v' := .slice (some ⟨e.blk, e.base + (if m = l then off else off + l * sz), none⟩) (h - l) (m - l)) ?_ (.slice _ _ _ _ _ hbe (by omega))
  have hadd : (if m = l then (⟨e.blk, e.base + off, none⟩ : Addr) else (⟨e.blk, e.base + off, none⟩ : Addr).add (l * sz)) = ⟨e.blk, e.base + (if m = l then off else off + l * sz), none⟩ := by
    split
    · rfl
    · rw [add_zero_addr, Nat.add_assoc]
  rcases hu with hu | ⟨arr, hu, hu2⟩
  · simp only [execOp, Instr.sliceAt, Sem.run_bind, run_underlying hu, Result.andThen_ok, hx, Instr.sureAddr, Sem.run_pure, r, size_of hz, hadd]
  · simp only [execOp, Instr.sliceAt, Instr.slice, Sem.run_bind, run_underlying hu, run_underlying hu2, Result.andThen_ok, hx, asAddr, Sem.run_pure, r, size_of hz, hadd]

theorem sound_slN {t el : TypeId} {sz : Nat} {x : Operand} {lo hi mx : Option Operand} {r3 : Nat × Nat × Nat} (hs : Sim P B0 ρ H w) (he : EnvR n ρ env a.tmps)
    (hu : P.underlying t = some (.slice el)) (hz : sizeB P el = some sz) (k1 : okO P lo) (k2 : okO P hi) (k3 : okO P mx)
    (h1 : VR ρ (.slice none 0 0) (a.eval x)) (hb : boundsA env 0 0 lo hi mx = some r3) :
    Fine P B0 ρ w ((execOp a.eval { dst, op := .slice t x lo hi mx, type := ty, pos, after, guard := g }).run P w) (.slice none 0 0) H := by
  obtain ⟨l, h, m⟩ := r3
  obtain ⟨r, q1, q2, q3, q4⟩ := boundsA_sound hs he k1 k2 k3 (Nat.le_refl _) (Nat.le_refl _) hb true
  have hx : a.eval x = .slice none 0 0 := by generalize a.eval x = vx at *; cases h1; rfl
  refine .pure hs (v' := .slice none 0 0) ?_ .nilSlice
  have hm : (if mx.isSome then m else 0) = 0 := by split <;> omega
  have hl0 : l = 0 := by omega
  have hh0 : h = 0 := by omega
  rw [hm, hl0, hh0] at r
  simp only [execOp, Instr.sliceAt, Instr.slice, Sem.run_bind, run_underlying hu, Result.andThen_ok, hx, Sem.run_pure, r, size_of hz]
  rfl

theorem sound_sl {t el : TypeId} {sz b off len cap : Nat} {sp : Option Nat} {x : Operand} {lo hi mx : Option Operand} {l h m : Nat} {r : Value} (hs : Sim P B0 ρ H w) (he : EnvR n ρ env a.tmps)
    (hu : P.underlying t = some (.slice el)) (hz : sizeB P el = some sz) (k1 : okO P lo) (k2 : okO P hi) (k3 : okO P mx)
    (h1 : VR ρ (.slice (some ⟨b, off, sp⟩) len cap) (a.eval x)) (hb : boundsA env len cap lo hi mx = some (l, h, m))
    (hr : (∃ t', sp = some t' ∧ mx = none ∧ t' = sz ∧ r = .slice (some ⟨b, off + l * sz, some t'⟩) (h - l) (m - l)) ∨
      ((sp = none ∨ mx.isSome) ∧ r = .slice (some ⟨b, if m = l then off else off + l * sz, none⟩) (h - l) (m - l))) :
    Fine P B0 ρ w ((execOp a.eval { dst, op := .slice t x lo hi mx, type := ty, pos, after, guard := g }).run P w) r H := by
  obtain ⟨ad, cap', hx, hc⟩ := h1.sl_inv
  have hcap : cap ≤ cap' ∧ len ≤ cap := by
    rcases hc with ⟨_, _, _⟩ | ⟨_, e, _, _, ⟨_, _⟩ | ⟨_, _, _⟩⟩ <;> omega
  obtain ⟨rb, q1, q2, q3, q4⟩ := boundsA_sound hs he k1 k2 k3 hcap.1 hcap.2 hb true
  generalize hM : (if mx.isSome then m else cap') = M at rb
  have hrun : (execOp a.eval { dst, op := .slice t x lo hi mx, type := ty, pos, after, guard := g }).run P w = .ok (.value (.slice (some (if M = l then ad else ad.add (l * sz))) (h - l) (M - l))) w := by
    simp only [execOp, Instr.sliceAt, Instr.slice, Sem.run_bind, run_underlying hu, Result.andThen_ok, hx, Sem.run_pure, rb, size_of hz, Option.map_some]
    split <;> rfl
  refine .pure hs hrun ?_
  rcases hc with ⟨h0, h2, h3⟩ | ⟨_, e, hbe, had, hcc⟩
  · have hM0 : M = 0 := by rw [← hM]; split <;> omega
    have e1 : l = 0 := by omega
    have e2 : h = 0 := by omega
    have e3 : m = 0 := by omega
    subst e1 e2 e3 hM0
    rcases hr with ⟨t', _, _, _, rfl⟩ | ⟨_, rfl⟩ <;> exact .zslice _ _
  · subst had
    rcases hr with ⟨t', rfl, rfl, rfl, rfl⟩ | ⟨hsm, rfl⟩
    · rcases hcc with ⟨hcc, _⟩ | ⟨hsp, hc1, hc2⟩
      · cases hcc
      · cases hsp
        simp only [Option.isSome_none, Bool.false_eq_true, if_false] at hM
        subst hM
        have hmc := q4 rfl
        by_cases hl : cap' = l
        · have e1 : h - l = 0 := by omega
          have e2 : m - l = 0 := by omega
          have e3 : cap' - l = 0 := by omega
          rw [e1, e2, e3]
          exact .zslice _ _
        · rw [if_neg hl, add_zero_addr, Nat.add_assoc]
          refine .opn _ _ e _ _ _ hbe (by omega) (by omega) ?_
          rw [← hc2, Nat.add_assoc, ← Nat.add_mul]
          congr 2; omega
    · have hMm : M = m := by
        rw [← hM]
        rcases hsm with rfl | hsm
        · rcases hcc with ⟨_, hcc⟩ | ⟨hcc, _⟩
          · cases mx with
            | none => simp [q4 rfl, hcc]
            | some y => rfl
          · cases hcc
        · simp [hsm]
      subst hMm
      have hadd : (if M = l then (⟨e.blk, e.base + off, none⟩ : Addr) else (⟨e.blk, e.base + off, none⟩ : Addr).add (l * sz)) = ⟨e.blk, e.base + (if M = l then off else off + l * sz), none⟩ := by
        split
        · rfl
        · rw [add_zero_addr, Nat.add_assoc]
      rw [hadd]
      exact .slice _ _ _ _ _ hbe (by omega)

end
end Go.Abs
