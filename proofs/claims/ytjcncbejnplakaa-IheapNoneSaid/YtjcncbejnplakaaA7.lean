/-
  THE ABSTRACT LAYER (7): the operations that touch no memory, and those that build.
-/
import Derived.Test.YtjcncbejnplakaaA6
set_option linter.unusedSimpArgs false
set_option linter.unusedVariables false
namespace Go.Abs
open Go Go.RowKit

theorem foldl_set (off : Nat) : ∀ (vs : List Value) (k : Nat) (cells : Array Value), off + k + vs.length ≤ cells.size →
    ((vs.zipIdx k).foldl (fun cs (c : Value × Nat) => cs.setIfInBounds (off + c.2) c.1) cells).toList = over cells.toList (off + k) vs
  | [], k, cells, _ => by simp [over]
  | v :: vs, k, cells, h => by
    simp only [List.zipIdx_cons, List.foldl_cons]
    rw [foldl_set off vs (k + 1) _ (by simp at h ⊢; omega)]
    simp only [List.length_cons] at h
    apply List.ext_getElem?
    intro i
    have h1 : off + (k + 1) + vs.length ≤ (cells.setIfInBounds (off + k) v).toList.length := by simp; omega
    have h2 : off + k + (v :: vs).length ≤ cells.toList.length := by simp; omega
    rw [over_get h1, over_get h2]
    simp only [Array.toList_setIfInBounds, List.length_cons]
    by_cases a1 : i < off + k
    · rw [if_pos (by omega), if_pos a1, List.getElem?_set_ne (by omega)]
    · rw [if_neg a1]
      by_cases a2 : i = off + k
      · subst a2
        rw [if_pos (by omega), if_pos (by omega)]
        have : off + k < cells.size := by omega
        simp [this]
      · rw [if_neg (by omega)]
        by_cases a3 : i < off + (k + 1) + vs.length
        · rw [if_pos a3, if_pos (by omega)]
          have : i - (off + k) = (i - (off + (k + 1))) + 1 := by omega
          rw [this]; rfl
        · rw [if_neg a3, if_neg (by omega), List.getElem?_set_ne (by omega)]

section
variable {P : Program} {B0 n : Nat} {ρ : Rho} {H H' : AH} {w : World} {env : Env} {a : Act} {v : Value}

theorem fill_sound (hs : Sim P B0 ρ H w) (he : EnvR n ρ env a.tmps) (place : Nat → Option (Nat × Nat)) : ∀ (parts : List (Nat × Operand)) (ps : List (Nat × Nat × Operand)) (cells r : List Value) (cells' : Array Value),
    partsOf P place parts = some ps → parts.all (fun p => okOpd P p.2) = true → fillA env cells ps = some r → VRs ρ cells cells'.toList → ones cells →
    ∃ r' : Array Value, Instr.fill place cells' (parts.map fun p => (p.1, a.eval p.2)) = some r' ∧ VRs ρ r r'.toList ∧ ones r
  | [], ps, cells, r, cells', hp, _, hf, hv, ho => by
    simp [partsOf] at hp
    subst hp
    simp [fillA] at hf
    subst hf
    exact ⟨cells', rfl, hv, ho⟩
  | (i, x) :: rest, ps, cells, r, cells', hp, hk, hf, hv, ho => by
    simp only [List.all_cons, Bool.and_eq_true] at hk
    simp only [partsOf] at hp
    split at hp
    · rename_i off m r1 hpl hr1
      cases hp
      simp only [fillA] at hf
      split at hf
      · rename_i u hu
        split at hf
        · rename_i cs hcs
          split at hf
          · rename_i hl
            obtain ⟨h1, h2⟩ := cellsOf_rel (aval_sound hs he hk.1 hu) hcs
            have hl1 := h1.length
            have hl2 := hv.length
            simp only [Array.length_toList] at hl1 hl2
            have hfold := foldl_set off (a.eval x).cells.toList 0 cells' (by simp; omega)
            generalize hc2 : (List.foldl (fun cs (c : Value × Nat) => cs.setIfInBounds (off + c.2) c.1) cells' ((a.eval x).cells.toList.zipIdx 0)) = c2 at hfold
            obtain ⟨r', k1, k2, k3⟩ := fill_sound hs he place rest r1 _ r c2 hr1 hk.2 hf (by rw [hfold]; exact hv.over h1 off) (ones_over ho h2 off)
            refine ⟨r', ?_, k2, k3⟩
            have hz : (a.eval x).cells.zipIdx.foldl (fun cs (c : Value × Nat) => cs.setIfInBounds (off + c.2) c.1) cells' = c2 := by
              rw [← hc2, ← Array.foldl_toList]
              simp
            simp only [List.map_cons, Instr.fill, hpl]
            rw [if_neg (by simp; omega)]
            have : (fun (cs : Array Value) (x : Value × Nat) => match x with | (c, j) => cs.setIfInBounds (off + j) c) = (fun (cs : Array Value) (c : Value × Nat) => cs.setIfInBounds (off + c.2) c.1) := by
              funext cs x; rfl
            rw [this, hz]
            exact k1
          · cases hf
        · cases hf
      · cases hf
    · cases hp

theorem fields_run (fields : Array Field) (h : fields.all (fun f => (P.info? f.type).isSome) = true) :
    (fields.mapM fun f => (do pure (f.offset, ← sizeOf f.type) : Sem (Nat × Nat))).run P w = .ok (fields.map fun f => (f.offset, P.cellsOf f.type)) w := by
  have key : ∀ (l : List Field), (∀ f ∈ l, (P.info? f.type).isSome) → (l.mapM fun f => (do pure (f.offset, ← sizeOf f.type) : Sem (Nat × Nat))).run P w = .ok (l.map fun f => (f.offset, P.cellsOf f.type)) w := by
    intro l
    induction l with
    | nil => intro _; simp
    | cons f l ih =>
      intro hl
      obtain ⟨i, hi⟩ := Option.isSome_iff_exists.1 (hl f (by simp))
      have := ih (fun g hg => hl g (by simp [hg]))
      simp only [List.mapM_cons, Sem.run_bind, sizeOf, typeInfo, run_program, Result.andThen_ok, hi, Sem.run_pure, List.map_cons, Program.cellsOf, Option.map_some, Option.getD_some] at this ⊢
      rw [this]
      rfl
  rw [Array.mapM_eq_mapM_toList]
  simp only [Sem.run_map]
  rw [key fields.toList (fun f hf => by
    have := (Array.all_eq_true_iff_forall_mem.1 h) f (by simpa using hf)
    exact this)]
  simp only [Result.andThen_ok]
  congr 1
  apply Array.ext'
  simp

theorem sound_buildS {t : TypeId} {fields : Array Field} {z r : List Value} {parts : Array (Nat × Operand)} {ps : List (Nat × Nat × Operand)} {ty : TypeId} {pos : String} {dst : Option Nat} {after : Array Edge} {g : Option (Nat × Bool)}
    (hs : Sim P B0 ρ H w) (he : EnvR n ρ env a.tmps) (hu : P.underlying t = some (.struct fields)) (hz : zeroOf P t = some z) (hi : fields.all (fun f => (P.info? f.type).isSome) = true)
    (hp : partsOf P (placeS P fields) parts.toList = some ps) (hk : parts.toList.all (fun p => okOpd P p.2) = true) (hf : fillA env z ps = some r) :
    Fine P B0 ρ w ((execOp a.eval { dst, op := .build t parts, type := ty, pos, after, guard := g }).run P w) (.agg r.toArray) H := by
  obtain ⟨i, zv, h1, h2, h3, h4, h5⟩ := zeroOf_spec hz
  have hpl : placeS P fields = (fun i => (fields.map fun (f : Field) => (f.offset, P.cellsOf f.type))[i]?) := by
    funext i
    simp only [placeS, Array.getElem?_map]
    cases hq : fields[i]? with
    | none => rfl
    | some f =>
      have hm : f ∈ fields := Array.mem_of_getElem? hq
      obtain ⟨j, hj⟩ := Option.isSome_iff_exists.1 ((Array.all_eq_true_iff_forall_mem.1 hi) f hm)
      simp [sizeB, hj, Program.cellsOf]
  rw [hpl] at hp
  obtain ⟨r', k1, k2, k3⟩ := fill_sound (cells' := zv.cells) hs he _ parts.toList ps z r hp hk hf (by rw [h3]; exact VRs.of_plain h4) (ones_of_plain h4)
  refine .pure hs (v' := .agg r') ?_ (by have := VR.mk_agg k2 k3; simpa using this)
  have hfr := fields_run (P := P) (w := w) fields hi
  have hpm : (parts.map fun p => (p.1, a.eval p.2)).toList = parts.toList.map fun p => (p.1, a.eval p.2) := by simp
  simp only [execOp, Instr.build, Sem.run_bind, zeroValue, typeInfo, run_program, h1, h2, Sem.run_pure, Result.andThen_ok, run_underlying hu]
  have hfr' := hfr
  simp only [sizeOf, typeInfo] at hfr'
  simp only [sizeOf, typeInfo, hfr', Result.andThen_ok, Array.toList_map]
  have k1' : Instr.fill (fun i => (fields.map fun (f : Field) => (f.offset, P.cellsOf f.type))[i]?) zv.cells (List.map (fun (x : Nat × Operand) => match x with | (i, x) => (i, a.eval x)) parts.toList) = some r' := k1
  rw [k1']
  rfl

theorem sound_buildA {t el : TypeId} {len m : Nat} {z r : List Value} {parts : Array (Nat × Operand)} {ps : List (Nat × Nat × Operand)} {ty : TypeId} {pos : String} {dst : Option Nat} {after : Array Edge} {g : Option (Nat × Bool)}
    (hs : Sim P B0 ρ H w) (he : EnvR n ρ env a.tmps) (hu : P.underlying t = some (.array len el)) (hz : zeroOf P t = some z) (hm : sizeB P el = some m)
    (hp : partsOf P (fun i => some (i * m, m)) parts.toList = some ps) (hk : parts.toList.all (fun p => okOpd P p.2) = true) (hf : fillA env z ps = some r) :
    Fine P B0 ρ w ((execOp a.eval { dst, op := .build t parts, type := ty, pos, after, guard := g }).run P w) (.agg r.toArray) H := by
  obtain ⟨i, zv, h1, h2, h3, h4, h5⟩ := zeroOf_spec hz
  obtain ⟨r', k1, k2, k3⟩ := fill_sound (cells' := zv.cells) hs he _ parts.toList ps z r hp hk hf (by rw [h3]; exact VRs.of_plain h4) (ones_of_plain h4)
  refine .pure hs (v' := .agg r') ?_ (by have := VR.mk_agg k2 k3; simpa using this)
  unfold sizeB at hm
  cases hi : P.info? el with
  | none => simp [hi] at hm
  | some j =>
    simp [hi] at hm
    simp only [execOp, Instr.build, Sem.run_bind, zeroValue, sizeOf, typeInfo, run_program, h1, h2, hi, hm, Sem.run_pure, Result.andThen_ok, run_underlying hu, Array.toList_map]
    have k1' : Instr.fill (fun i => some (i * m, m)) zv.cells (List.map (fun (x : Nat × Operand) => match x with | (i, x) => (i, a.eval x)) parts.toList) = some r' := k1
    rw [k1']
    rfl

theorem zeros_length (z : List Value) : ∀ k, (zeros z k).length = k * z.length
  | 0 => by simp [zeros]
  | k + 1 => by simp [zeros, zeros_length z k, Nat.succ_mul]; omega

theorem zeros_get (z : List Value) : ∀ (k i : Nat), i < k * z.length → (zeros z k)[i]? = z[i % z.length]?
  | 0, i, h => by simp at h
  | k + 1, i, h => by
    simp only [zeros]
    have hz : 0 < z.length := by
      rcases Nat.eq_zero_or_pos z.length with h0 | h0
      · rw [h0] at h; simp at h
      · exact h0
    by_cases hi : i < z.length
    · rw [List.getElem?_append_left hi, Nat.mod_eq_of_lt hi]
    · rw [List.getElem?_append_right (by omega), zeros_get z k (i - z.length) (by rw [Nat.succ_mul] at h; omega)]
      congr 1
      rw [← Nat.mod_eq_sub_mod (by omega)]

theorem zeros_range (zc : Array Value) (k : Nat) (hz : 0 < zc.size) : ((Array.range (k * zc.size)).map (zc[· % zc.size]!)).toList = zeros zc.toList k := by
  apply List.ext_getElem?
  intro i
  simp only [Array.toList_map, Array.toList_range, List.getElem?_map]
  by_cases hi : i < k * zc.size
  · rw [List.getElem?_range hi, zeros_get _ _ _ (by simpa using hi)]
    have hm : i % zc.size < zc.size := Nat.mod_lt _ hz
    simp [hm]
  · rw [List.getElem?_eq_none (by simp; omega), List.getElem?_eq_none (by simp [zeros_length]; omega)]
    rfl

theorem ones_zeros {z : List Value} (h : ones z) : ∀ k, ones (zeros z k)
  | 0 => fun v hv => by simp [zeros] at hv
  | k + 1 => fun v hv => by
    simp only [zeros, List.mem_append] at hv
    rcases hv with hv | hv
    · exact h v hv
    · exact ones_zeros h k v hv

theorem VRs.zeros {z z' : List Value} (h : VRs ρ z z') : ∀ k, VRs ρ (Abs.zeros z k) (Abs.zeros z' k)
  | 0 => .nil
  | k + 1 => h.append (VRs.zeros h k)

theorem sound_bslice {t el : TypeId} {len m : Nat} {z r : List Value} {parts : Array (Nat × Operand)} {ps : List (Nat × Nat × Operand)} {ty : TypeId} {pos : String} {dst : Option Nat} {after : Array Edge} {g : Option (Nat × Bool)}
    (hs : Sim P B0 ρ H w) (he : EnvR n ρ env a.tmps) (hu : P.underlying t = some (.slice el)) (hz : zeroOf P el = some z) (hm : sizeB P el = some m) (hm0 : 0 < m) (hb : len * m ≤ 16777216)
    (hp : partsOf P (fun i => some (i * m, m)) parts.toList = some ps) (hk : parts.toList.all (fun p => okOpd P p.2) = true) (hf : fillA env (zeros z len) ps = some r) :
    Fine P B0 ρ w ((execOp a.eval { dst, op := .buildSlice t len parts, type := ty, pos, after, guard := g }).run P w) (.slice (some ⟨H.next, 0, none⟩) len len) (H.alloc (.row r el true)) := by
  obtain ⟨i, zv, h1, h2, h3, h4, h5⟩ := zeroOf_spec hz
  unfold sizeB at hm
  simp [h1] at hm
  have hzs : zv.cells.size = m := by have := congrArg List.length h3; simp at this; omega
  have hzr := zeros_range zv.cells len (by omega)
  rw [hzs] at hzr
  generalize hc0 : (Array.range (len * m)).map (zv.cells[· % m]!) = c0 at hzr
  obtain ⟨r', k1, k2, k3⟩ := fill_sound (cells' := c0) hs he _ parts.toList ps _ r hp hk hf (by rw [hzr, h3]; exact (VRs.of_plain h4).zeros len) (ones_zeros (ones_of_plain h4) len)
  have hst := hs.push_row (w' := { w with heap := w.heap.push (.cells r' el) }) el r r'.toList [] k2 k3 (by simp) rfl rfl rfl
  refine ⟨.slice (some ⟨w.heap.size, 0, none⟩) len len, _, _, .inl ?_, hst, ?_⟩
  · have hb' : ¬ len * m > 2 ^ 24 := by omega
    have hk1 : Instr.fill (fun i => some (i * m, m)) c0 (List.map (fun (x : Nat × Operand) => match x with | (i, x) => (i, a.eval x)) parts.toList) = some r' := k1
    simp only [execOp, Instr.buildSlice, Sem.run_bind, run_underlying hu, Result.andThen_ok, sizeOf, typeInfo, run_program, h1, Sem.run_pure, hm, if_neg hb', Array.toList_map]
    by_cases hl0 : len * m = 0
    · have hc0' : c0 = #[] := by rw [← hc0, hl0]; simp
      simp only [hl0, if_true, Sem.run_pure, Result.andThen_ok]
      rw [hc0'] at hk1
      have h00 : ∀ zero : Array Value, (Array.map (fun x => zero[x % zero.size]!) (Array.range 0)) = #[] := by intro zero; simp
      simp only [Sem.run_bind, Sem.run_pure, Result.andThen_ok, h00]
      rw [hk1]
      simp [newRow]
    · simp only [if_neg hl0, Sem.run_bind, zeroValue, typeInfo, run_program, h1, h2, Sem.run_pure, Result.andThen_ok, hzs, hc0]
      rw [hk1]
      simp [newRow]
  · exact .slice _ 0 ⟨w.heap.size, 0, (r'.toList ++ []).length, P.cellsOf el⟩ len len (by simp [Rho.add]) (Nat.le_refl _)

theorem sound_mks {t el : TypeId} {z : List Value} {j : TypeInfo} {x y : Operand} {l c : Int} {ty : TypeId} {pos : String} {dst : Option Nat} {after : Array Edge} {g : Option (Nat × Bool)}
    (hs : Sim P B0 ρ H w) (ρv : Operand → Value) (hu : P.underlying t = some (.slice el)) (hi : P.info? el = some j) (hz : zeroOf P el = some z) (hm0 : 0 < j.size)
    (hl : VR ρ (.int .i64 l) (ρv x)) (hc : VR ρ (.int .i64 c) (ρv y)) (hb : 0 ≤ l ∧ l ≤ c ∧ c ≤ 9223372036854775807 ∧ (j.bytes : Int) * c ≤ 281474976710656) :
    Fine P B0 ρ w ((execOp ρv { dst, op := .makeSlice t x y, type := ty, pos, after, guard := g }).run P w) (.slice (some ⟨H.next, 0, none⟩) l.toNat c.toNat) (H.alloc (.row (zeros z c.toNat) el true)) := by
  obtain ⟨i, zv, h1, h2, h3, h4, h5⟩ := zeroOf_spec hz
  rw [hi] at h1
  cases h1
  have hzs : zv.cells.size = j.size := by have := congrArg List.length h3; simp at this; omega
  have hzr := zeros_range zv.cells c.toNat (by omega)
  rw [hzs] at hzr
  generalize hc0 : (Array.range (c.toNat * j.size)).map (zv.cells[· % j.size]!) = c0 at hzr
  have hv : VRs ρ (zeros z c.toNat) c0.toList := by rw [hzr, h3]; exact (VRs.of_plain h4).zeros _
  have hst := hs.push_row (w' := { w with heap := w.heap.push (.cells c0 el) }) el _ _ [] hv (ones_zeros (ones_of_plain h4) _) (by simp) rfl rfl rfl
  obtain ⟨b1, b2, b3, b4⟩ := hb
  refine ⟨.slice (some ⟨w.heap.size, 0, none⟩) l.toNat c.toNat, _, _, .inl ?_, hst, ?_⟩
  · have w1 : IntKind.i64.wrap l = l := by simp [IntKind.wrap, IntKind.bits, IntKind.signed]; omega
    have w2 : IntKind.i64.wrap c = c := by simp [IntKind.wrap, IntKind.bits, IntKind.signed]; omega
    have c1 : ¬ c < 0 := by omega
    have c2 : ¬ l < 0 := by omega
    have c3 : ¬ c < l := by omega
    have c4 : ¬ (281474976710656 < (j.bytes : Int) * c) := by omega
    simp only [execOp, Instr.makeSlice, Sem.run_bind, run_underlying hu, Result.andThen_ok, hl.int_inv, hc.int_inv, asInt, asIntOf, Sem.run_pure, typeInfo, run_program, hi, w1, w2]
    by_cases hl0 : c.toNat * j.size = 0
    · have hc0' : c0 = #[] := by rw [← hc0, hl0]; simp
      have h00 : ∀ zero : Array Value, (Array.map (fun x => zero[x % zero.size]!) (Array.range 0)) = #[] := by intro zero; simp
      simp [c1, c2, c3, c4, sizeOf, typeInfo, hi, hl0, newRow, hc0']
      simp [Array.range_zero']
    · have hl0' : ¬ (c.toNat = 0 ∨ j.size = 0) := by
        intro h
        rcases h with h | h <;> simp [h] at hl0
      simp [c1, c2, c3, c4, sizeOf, typeInfo, hi, zeroValue, h2, newRow, hzs, hl0', hc0]
      intro h
      exact absurd h hl0
  · exact .slice _ 0 ⟨w.heap.size, 0, (c0.toList ++ []).length, P.cellsOf el⟩ _ _ (by simp [Rho.add]) (by omega)

end
end Go.Abs
