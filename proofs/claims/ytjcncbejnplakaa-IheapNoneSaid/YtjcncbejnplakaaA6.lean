/-
  THE ABSTRACT LAYER (6): each small operation is what the model's does: one lemma an operation.
-/
import Derived.Test.YtjcncbejnplakaaA5
set_option linter.unusedSimpArgs false
set_option linter.unusedVariables false
namespace Go.Abs
open Go Go.RowKit

section
variable {P : Program} {B0 n : Nat} {ρ : Rho} {H H' : AH} {w : World} {env : Env} {a : Act} {v : Value}

theorem VR.ptr_inv {b off : Nat} {v' : Value} (h : VR ρ (.pointer (some ⟨b, off, none⟩)) v') : ∃ e, ρ b = some e ∧ v' = .pointer (some ⟨e.blk, e.base + off, none⟩) := by
  cases h with
  | ptr _ _ e h => exact ⟨e, h, rfl⟩

theorem cellsOf_rel {v v' : Value} {cs : List Value} (h : VR ρ v v') (hc : cellsOf v = some cs) : VRs ρ cs v'.cells.toList ∧ ones cs := by
  cases v with
  | agg p =>
    cases hc
    obtain ⟨p', rfl, h1, h2⟩ := h.agg_list
    exact ⟨h1, h2⟩
  | tuple p => cases hc
  | _ =>
    cases hc
    have ho := h.one
    refine ⟨?_, ?_⟩
    · cases v' <;> first | (simp [one] at ho; done) | exact .cons h .nil
    · intro x hx
      simp at hx
      subst hx
      rfl

theorem zeroOf_spec {t : TypeId} {z : List Value} (h : zeroOf P t = some z) : ∃ i zv, P.info? t = some i ∧ i.zero = some zv ∧ zv.cells.toList = z ∧ z.all plain = true ∧ z.length = i.size := by
  unfold zeroOf at h
  split at h
  · rename_i i hi
    split at h
    · rename_i zv hz
      split at h
      · rename_i hc
        cases h
        simp only [Bool.and_eq_true, beq_iff_eq] at hc
        exact ⟨i, zv, hi, hz, rfl, hc.1, by simpa using hc.2⟩
      · cases h
    · cases h
  · cases h

theorem ones_of_plain {z : List Value} (h : z.all plain = true) : ones z := fun v hv => one_of_plain (by simpa using (List.all_eq_true.1 h) v hv)

theorem sound_new {e : TypeId} {z : List Value} {ty : TypeId} {pos : String} {dst : Option Nat} {after : Array Edge} {g : Option (Nat × Bool)} (hs : Sim P B0 ρ H w) (hz : zeroOf P e = some z) (ρv : Operand → Value) :
    Fine P B0 ρ w ((execOp ρv { dst, op := .alloc e, type := ty, pos, after, guard := g }).run P w) (.pointer (some ⟨H.next, 0, none⟩)) (H.alloc (.row z e true)) := by
  obtain ⟨i, zv, h1, h2, h3, h4, h5⟩ := zeroOf_spec hz
  have hst := hs.push_row (w' := { w with heap := w.heap.push (.cells zv.cells e) }) e z z [] (VRs.of_plain h4) (ones_of_plain h4) (by simp [← h3]) rfl rfl rfl
  refine ⟨.pointer (some ⟨w.heap.size, 0, none⟩), _, _, .inl ?_, hst, ?_⟩
  · simp [execOp, Instr.alloc, zeroValue, typeInfo, h1, h2, newVar, newRow]
  · exact .ptr _ 0 ⟨w.heap.size, 0, (z ++ []).length, P.cellsOf e⟩ (by simp [Rho.add])

theorem sound_box {e : TypeId} {cs : List Value} {x : Operand} {u : Value} {ty : TypeId} {pos : String} {dst : Option Nat} {after : Array Edge} {g : Option (Nat × Bool)} (hs : Sim P B0 ρ H w) (ρv : Operand → Value)
    (hv : VR ρ u (ρv x)) (hc : cellsOf u = some cs) :
    Fine P B0 ρ w ((execOp ρv { dst, op := .box e x, type := ty, pos, after, guard := g }).run P w) (.pointer (some ⟨H.next, 0, none⟩)) (H.alloc (.row cs e true)) := by
  obtain ⟨h1, h2⟩ := cellsOf_rel hv hc
  have hst := hs.push_row (w' := { w with heap := w.heap.push (.cells (ρv x).cells e) }) e cs _ [] h1 h2 (by simp) rfl rfl rfl
  refine ⟨.pointer (some ⟨w.heap.size, 0, none⟩), _, _, .inl ?_, hst, ?_⟩
  · simp [execOp, Instr.box, newVar, newRow]
  · exact .ptr _ 0 ⟨w.heap.size, 0, ((ρv x).cells.toList ++ []).length, P.cellsOf e⟩ (by simp [Rho.add])

theorem sound_load1 {t : TypeId} {x : Operand} {b off : Nat} {cs : List Value} {u : Value} {ty : TypeId} {pos : String} {dst : Option Nat} {after : Array Edge} {g : Option (Nat × Bool)} (hs : Sim P B0 ρ H w) (ρv : Operand → Value)
    (hag : isAggB P t = false) (hu : (P.underlying t).isSome) (hv : VR ρ (.pointer (some ⟨b, off, none⟩)) (ρv x)) (hc : H.cells b = some cs) (hg : cs[off]? = some u) :
    Fine P B0 ρ w ((execOp ρv { dst, op := .load t x, type := ty, pos, after, guard := g }).run P w) u H := by
  obtain ⟨e, he, hx⟩ := hv.ptr_inv
  obtain ⟨cs', h1, h2, h3⟩ := hs.read he hc
  obtain ⟨u', h4, h5⟩ := h1.get off u hg
  have hlt := (List.getElem?_eq_some_iff.1 hg).1
  have hcell := h3 off hlt
  rw [h4] at hcell
  obtain ⟨d, hd⟩ := Option.isSome_iff_exists.1 hu
  refine .pure hs (v' := u') ?_ h5
  have hld : (load ⟨e.blk, e.base + off, none⟩ : Sem Value).run P w = .ok u' w := by rw [run_load, hcell]
  have hlv : (loadVar t ⟨e.blk, e.base + off, none⟩).run P w = .ok u' w := by
    unfold isAggB at hag
    rw [hd] at hag
    cases d <;> simp at hag <;> simp [loadVar, isAgg, run_underlying hd, hcell]
  simp [execOp, Instr.loadAt, Instr.sureAddr, hx, hlv]

theorem add_zero_addr (b off i : Nat) : (⟨b, off, none⟩ : Addr).add i = ⟨b, off + i, none⟩ := by unfold Addr.add; split <;> simp_all

theorem sound_loadN {t : TypeId} {m : Nat} {x : Operand} {b off : Nat} {cs r : List Value} {ty : TypeId} {pos : String} {dst : Option Nat} {after : Array Edge} {g : Option (Nat × Bool)} (hs : Sim P B0 ρ H w) (ρv : Operand → Value)
    (hag : isAggB P t = true) (hm : sizeB P t = some m) (hv : VR ρ (.pointer (some ⟨b, off, none⟩)) (ρv x)) (hc : H.cells b = some cs) (hg : cut cs off m = some r) :
    Fine P B0 ρ w ((execOp ρv { dst, op := .load t x, type := ty, pos, after, guard := g }).run P w) (.agg r.toArray) H := by
  obtain ⟨e, he, hx⟩ := hv.ptr_inv
  obtain ⟨cs', h1, h2, h3⟩ := hs.read he hc
  obtain ⟨hl, rfl, hrl⟩ := cut_some hg
  have hr := (h1.drop off).take m
  refine .pure hs (v' := .agg ((cs'.drop off).take m).toArray) ?_ (VR.mk_agg hr fun u hu => h2 u (List.mem_of_mem_drop (List.mem_of_mem_take hu)))
  have hcl := h1.length
  have hlen : ((cs'.drop off).take m).length = m := by simp; omega
  have hld := run_loadCells_list (P := P) w ⟨e.blk, e.base + off, none⟩ ((cs'.drop off).take m) (fun j u hj => by
    have hj' : j < m := by have := (List.getElem?_eq_some_iff.1 hj).1; omega
    rw [add_zero_addr, Nat.add_assoc, h3 (off + j) (by omega)]
    rw [List.getElem?_take_of_lt hj', List.getElem?_drop] at hj
    exact hj)
  rw [hlen] at hld
  unfold sizeB at hm
  cases hi : P.info? t with
  | none => simp [hi] at hm
  | some i =>
    simp [hi] at hm
    cases hd : P.underlying t with
    | none => simp [isAggB, hd] at hag
    | some d =>
      have hlv : (loadVar t ⟨e.blk, e.base + off, none⟩).run P w = .ok (.agg ((cs'.drop off).take m).toArray) w := by
        unfold isAggB at hag
        rw [hd] at hag
        cases d <;> simp at hag <;> simp [loadVar, isAgg, run_underlying hd, sizeOf, typeInfo, hi, hm, hld]
      simp only [execOp, Instr.loadAt, Instr.sureAddr, hx, Sem.run_bind, Sem.run_pure, Result.andThen_ok, hlv]

theorem sound_store {t : TypeId} {m : Nat} {x y : Operand} {b off : Nat} {u : Value} {news : List Value} {ty : TypeId} {pos : String} {dst : Option Nat} {after : Array Edge} {g : Option (Nat × Bool)} (hs : Sim P B0 ρ H w) (ρv : Operand → Value)
    (hm : sizeB P t = some m) (hv : VR ρ (.pointer (some ⟨b, off, none⟩)) (ρv x)) (hu : VR ρ u (ρv y)) (hc : cellsOf u = some news) (hl : news.length = m) (hw : writeA H b off news = some H') :
    Fine P B0 ρ w ((execOp ρv { dst, op := .store t x y, type := ty, pos, after, guard := g }).run P w) undef H' := by
  obtain ⟨e, he, hx⟩ := hv.ptr_inv
  obtain ⟨h1, h2⟩ := cellsOf_rel hu hc
  obtain ⟨w', hr, hst⟩ := hs.write he hw h1 h2
  refine ⟨undef, w', ρ, .inr ⟨?_, rfl⟩, hst, .tuple _ _ rfl (fun i h => by simp at h)⟩
  have hsz : (ρv y).cells.size = m := by have := h1.length; simp at this; omega
  unfold sizeB at hm
  cases hi : P.info? t with
  | none => simp [hi] at hm
  | some i =>
    simp [hi] at hm
    simp [execOp, Instr.storeAt, Instr.sureAddr, hx, storeVar, sizeOf, typeInfo, hi, hsz, hm, hr]

end
end Go.Abs
