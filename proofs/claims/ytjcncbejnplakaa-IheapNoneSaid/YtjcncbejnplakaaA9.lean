/-
  THE ABSTRACT LAYER (9): the other operations that touch no memory.
-/
import Derived.Test.YtjcncbejnplakaaA8
set_option linter.unusedSimpArgs false
set_option linter.unusedVariables false
namespace Go.Abs
open Go Go.RowKit

section
variable {P : Program} {B0 n : Nat} {ρ : Rho} {H H' : AH} {w : World} {env : Env} {a : Act} {v : Value}
variable {ty : TypeId} {pos : String} {dst : Option Nat} {after : Array Edge} {g : Option (Nat × Bool)} {ρv : Operand → Value}

theorem sound_nilChk {x : Operand} {u : Value} (hs : Sim P B0 ρ H w) (h1 : VR ρ u (ρv x))
    (hu : (∃ q, u = .pointer (some q)) ∨ (∃ f p q, u = .func (.func f) p q) ∨ (∃ f p q, u = .func (.yield f) p q) ∨ (∃ t q, u = .iface t q)) :
    Fine P B0 ρ w ((execOp ρv { dst, op := .nilCheck x, type := ty, pos, after, guard := g }).run P w) u H := by
  refine .pure hs (v' := ρv x) ?_ h1
  rcases hu with ⟨q, rfl⟩ | ⟨f, p, q, rfl⟩ | ⟨f, p, q, rfl⟩ | ⟨t, q, rfl⟩
  · generalize hx : ρv x = vx at *; cases h1; simp [execOp, hx]
  · generalize hx : ρv x = vx at *; cases h1; simp [execOp, hx]
  · generalize hx : ρv x = vx at *
    cases h1 with
    | yield l e h => simp [execOp, hx]
    | func _ _ p' _ q' hfn => exact absurd rfl (hfn f)
  · generalize hx : ρv x = vx at *; cases h1; simp [execOp, hx]

theorem sound_pick {c x y : Operand} {t : Bool} {u : Value} (hs : Sim P B0 ρ H w) (hc : VR ρ (.bool t) (ρv c)) (h1 : VR ρ u (ρv (if t then x else y))) :
    Fine P B0 ρ w ((execOp ρv { dst, op := .pick c x y, type := ty, pos, after, guard := g }).run P w) u H := by
  refine .pure hs (v' := ρv (if t then x else y)) ?_ h1
  cases t <;> simp [execOp, hc.bool_inv, asBool]

theorem sound_conv {s d : TypeId} {k : IntKind} {k0 : IntKind} {m : Int} {x : Operand} {sd : TypeDesc} (hs : Sim P B0 ρ H w) (hsd : P.underlying s = some sd) (hd : P.underlying d = some (.int k)) (h1 : VR ρ (.int k0 m) (ρv x)) :
    Fine P B0 ρ w ((execOp ρv { dst, op := .convert s d x, type := ty, pos, after, guard := g }).run P w) (.int k (k.wrap m)) H := by
  refine .pure hs (v' := .int k (k.wrap m)) ?_ (.int _ _)
  simp [execOp, convert, run_underlying hsd, run_underlying hd, h1.int_inv, Conv.intToInt]

theorem sound_convS {s d : TypeId} {b : ByteArray} {x : Operand} (hs : Sim P B0 ρ H w) (hsd : P.underlying s = some .string) (hd : P.underlying d = some .string) (h1 : VR ρ (.string b) (ρv x)) :
    Fine P B0 ρ w ((execOp ρv { dst, op := .convert s d x, type := ty, pos, after, guard := g }).run P w) (.string b) H := by
  refine .pure hs (v' := .string b) ?_ (.string _)
  simp [execOp, convert, run_underlying hsd, run_underlying hd, h1.string_inv]

theorem sound_faddr {s : TypeId} {fields : Array Field} {f : Nat} {fd : Field} {m b off : Nat} {x : Operand} (hs : Sim P B0 ρ H w) (hu : P.underlying s = some (.struct fields)) (hf : fields[f]? = some fd)
    (hm : sizeB P fd.type = some m) (hm0 : 0 < m) (h1 : VR ρ (.pointer (some ⟨b, off, none⟩)) (ρv x)) :
    Fine P B0 ρ w ((execOp ρv { dst, op := .fieldAddr s x f, type := ty, pos, after, guard := g }).run P w) (.pointer (some ⟨b, off + fd.offset, none⟩)) H := by
  obtain ⟨e, he, hx⟩ := h1.ptr_inv
  refine .pure hs (v' := .pointer (some ⟨e.blk, e.base + (off + fd.offset), none⟩)) ?_ (.ptr _ _ _ he)
  unfold sizeB at hm
  cases hi : P.info? fd.type with
  | none => simp [hi] at hm
  | some i =>
    simp [hi] at hm
    have : i.size ≠ 0 := by omega
    simp [execOp, Instr.fieldAt, run_underlying hu, hf, hx, Instr.sureAddr, fieldPlace, sizeOf, typeInfo, hi, this, add_zero_addr, Nat.add_assoc]

theorem isAgg_run {t : TypeId} {d : TypeDesc} (hd : P.underlying t = some d) : (isAgg t).run P w = .ok (isAggB P t) w := by
  unfold isAggB
  rw [hd]
  cases d <;> simp [isAgg, run_underlying hd]

theorem part1_run {t : TypeId} {cs : Array Value} {off : Nat} {u : Value} (hag : isAggB P t = false) (hd : (P.underlying t).isSome) (hg : cs[off]? = some u) : (part t cs off).run P w = .ok u w := by
  obtain ⟨d, hd⟩ := Option.isSome_iff_exists.1 hd
  simp [part, isAgg_run hd, hag, hg]

theorem partN_run {t : TypeId} {cs : Array Value} {off m : Nat} (hag : isAggB P t = true) (hm : sizeB P t = some m) : (part t cs off).run P w = .ok (.agg (cs.extract off (off + m))) w := by
  cases hd : P.underlying t with
  | none => simp [isAggB, hd] at hag
  | some d =>
    unfold sizeB at hm
    cases hi : P.info? t with
    | none => simp [hi] at hm
    | some i =>
      simp [hi] at hm
      simp [part, isAgg_run hd, hag, sizeOf, typeInfo, hi, hm]

theorem agg_extract {cs cs' : Array Value} (hr : VRs ρ cs.toList cs'.toList) (ho : ones cs.toList) (x y : Nat) : VR ρ (.agg (cs.extract x y)) (.agg (cs'.extract x y)) := by
  have := VR.mk_agg ((hr.drop x).take (y - x)) (fun u hu => ho u (List.mem_of_mem_drop (List.mem_of_mem_take hu)))
  have e : ∀ c : Array Value, c.extract x y = ((c.toList.drop x).take (y - x)).toArray := by
    intro c; apply Array.ext'; simp
  rw [e cs, e cs']
  exact this

theorem sound_fld1 {t : TypeId} {fields : Array Field} {f : Nat} {fd : Field} {cs : Array Value} {u : Value} {x : Operand} (hs : Sim P B0 ρ H w) (hu : P.underlying t = some (.struct fields)) (hf : fields[f]? = some fd)
    (hag : isAggB P fd.type = false) (hd : (P.underlying fd.type).isSome) (h1 : VR ρ (.agg cs) (ρv x)) (hg : cs[fd.offset]? = some u) :
    Fine P B0 ρ w ((execOp ρv { dst, op := .field t x f, type := ty, pos, after, guard := g }).run P w) u H := by
  obtain ⟨cs', hx, h2, h3⟩ := h1.agg_list
  obtain ⟨u', h4, h5⟩ := h2.get fd.offset u (by simpa using hg)
  refine .pure hs (v' := u') ?_ h5
  have := part1_run (P := P) (w := w) (cs := cs') hag hd (by simpa using h4)
  simp only [execOp, Instr.field, Sem.run_bind, run_underlying hu, Result.andThen_ok, hf, hx, asAgg, Sem.run_pure, this]

theorem sound_fldN {t : TypeId} {fields : Array Field} {f m : Nat} {fd : Field} {cs : Array Value} {x : Operand} (hs : Sim P B0 ρ H w) (hu : P.underlying t = some (.struct fields)) (hf : fields[f]? = some fd)
    (hag : isAggB P fd.type = true) (hm : sizeB P fd.type = some m) (h1 : VR ρ (.agg cs) (ρv x)) :
    Fine P B0 ρ w ((execOp ρv { dst, op := .field t x f, type := ty, pos, after, guard := g }).run P w) (.agg (cs.extract fd.offset (fd.offset + m))) H := by
  obtain ⟨cs', hx, h2, h3⟩ := h1.agg_list
  refine .pure hs (v' := .agg (cs'.extract fd.offset (fd.offset + m))) ?_ (agg_extract h2 h3 _ _)
  have := partN_run (P := P) (w := w) (cs := cs') (off := fd.offset) hag hm
  simp only [execOp, Instr.field, Sem.run_bind, run_underlying hu, Result.andThen_ok, hf, hx, asAgg, Sem.run_pure, this]

theorem VR.sl_inv {b off len cap : Nat} {sp : Option Nat} {v' : Value} (h : VR ρ (.slice (some ⟨b, off, sp⟩) len cap) v') :
    ∃ ad cap', v' = .slice (some ad) len cap' ∧ ((len = 0 ∧ cap = 0 ∧ cap' = 0) ∨ (len ≤ cap ∧ ∃ e, ρ b = some e ∧ ad = ⟨e.blk, e.base + off, none⟩ ∧
      ((sp = none ∧ cap' = cap) ∨ (sp = some e.sz ∧ cap ≤ cap' ∧ off + cap' * e.sz = e.fin)))) := by
  cases h with
  | slice _ _ e _ _ h hl => exact ⟨_, _, rfl, .inr ⟨hl, e, h, rfl, .inl ⟨rfl, rfl⟩⟩⟩
  | opn _ _ e _ _ cap' h hl hc hf => exact ⟨_, _, rfl, .inr ⟨hl, e, h, rfl, .inr ⟨rfl, hc, hf⟩⟩⟩
  | zslice _ a' => exact ⟨_, _, rfl, .inl ⟨rfl, rfl, rfl⟩⟩

theorem sound_idxS {t el : TypeId} {m b off len cap : Nat} {sp : Option Nat} {k : IntKind} {i : Int} {x y : Operand} (hs : Sim P B0 ρ H w) (hu : P.underlying t = some (.slice el)) (hm : sizeB P el = some m)
    (h1 : VR ρ (.slice (some ⟨b, off, sp⟩) len cap) (ρv x)) (h2 : VR ρ (.int k i) (ρv y)) (hi : 0 ≤ i ∧ i < len) :
    Fine P B0 ρ w ((execOp ρv { dst, op := .indexAddr t x y, type := ty, pos, after, guard := g }).run P w) (.pointer (some ⟨b, off + i.toNat * m, none⟩)) H := by
  obtain ⟨ad, cap', hx, hc⟩ := h1.sl_inv
  rcases hc with ⟨h0, _⟩ | ⟨_, e, he, had, _⟩
  · omega
  · refine .pure hs (v' := .pointer (some ⟨e.blk, e.base + (off + i.toNat * m), none⟩)) ?_ (.ptr _ _ _ he)
    unfold sizeB at hm
    cases hj : P.info? el with
    | none => simp [hj] at hm
    | some j =>
      simp [hj] at hm
      simp [execOp, Instr.indexAt, run_underlying hu, hx, h2.int_inv, asIntOf, hi, sizeOf, typeInfo, hj, hm, had, add_zero_addr, Nat.add_assoc]

theorem sound_idxP {t el : TypeId} {m b off len : Nat} {k : IntKind} {i : Int} {x y : Operand} (hs : Sim P B0 ρ H w) (hu : P.underlying t = some (.array len el)) (hm : sizeB P el = some m)
    (h1 : VR ρ (.pointer (some ⟨b, off, none⟩)) (ρv x)) (h2 : VR ρ (.int k i) (ρv y)) (hi : 0 ≤ i ∧ i < len) :
    Fine P B0 ρ w ((execOp ρv { dst, op := .indexAddr t x y, type := ty, pos, after, guard := g }).run P w) (.pointer (some ⟨b, off + i.toNat * m, none⟩)) H := by
  obtain ⟨e, he, hx⟩ := h1.ptr_inv
  refine .pure hs (v' := .pointer (some ⟨e.blk, e.base + (off + i.toNat * m), none⟩)) ?_ (.ptr _ _ _ he)
  unfold sizeB at hm
  cases hj : P.info? el with
  | none => simp [hj] at hm
  | some j =>
    simp [hj] at hm
    simp [execOp, Instr.indexAt, run_underlying hu, hx, h2.int_inv, asIntOf, hi, sizeOf, typeInfo, hj, hm, add_zero_addr, Instr.sureAddr, Nat.add_assoc]

theorem sound_idx1 {t el : TypeId} {m len : Nat} {cs : Array Value} {k : IntKind} {i : Int} {x y : Operand} {u : Value} (hs : Sim P B0 ρ H w) (hu : P.underlying t = some (.array len el)) (hm : sizeB P el = some m)
    (hag : isAggB P el = false) (hd : (P.underlying el).isSome) (h1 : VR ρ (.agg cs) (ρv x)) (h2 : VR ρ (.int k i) (ρv y)) (hi : 0 ≤ i ∧ i < len) (hg : cs[i.toNat * m]? = some u) :
    Fine P B0 ρ w ((execOp ρv { dst, op := .index t x y, type := ty, pos, after, guard := g }).run P w) u H := by
  obtain ⟨cs', hx, h3, h4⟩ := h1.agg_list
  obtain ⟨u', h5, h6⟩ := h3.get _ u (by simpa using hg)
  refine .pure hs (v' := u') ?_ h6
  have := part1_run (P := P) (w := w) (cs := cs') hag hd (by simpa using h5)
  unfold sizeB at hm
  cases hj : P.info? el with
  | none => simp [hj] at hm
  | some j =>
    simp [hj] at hm
    simp [execOp, Instr.index, run_underlying hu, hx, h2.int_inv, asIntOf, hi, sizeOf, typeInfo, hj, hm, this]

theorem sound_idxN {t el : TypeId} {m len : Nat} {cs : Array Value} {k : IntKind} {i : Int} {x y : Operand} (hs : Sim P B0 ρ H w) (hu : P.underlying t = some (.array len el)) (hm : sizeB P el = some m)
    (hag : isAggB P el = true) (h1 : VR ρ (.agg cs) (ρv x)) (h2 : VR ρ (.int k i) (ρv y)) (hi : 0 ≤ i ∧ i < len) :
    Fine P B0 ρ w ((execOp ρv { dst, op := .index t x y, type := ty, pos, after, guard := g }).run P w) (.agg (cs.extract (i.toNat * m) (i.toNat * m + m))) H := by
  obtain ⟨cs', hx, h3, h4⟩ := h1.agg_list
  refine .pure hs (v' := .agg (cs'.extract (i.toNat * m) (i.toNat * m + m))) ?_ (agg_extract h3 h4 _ _)
  have := partN_run (P := P) (w := w) (cs := cs') (off := i.toNat * m) hag hm
  unfold sizeB at hm
  cases hj : P.info? el with
  | none => simp [hj] at hm
  | some j =>
    simp [hj] at hm
    simp [execOp, Instr.index, run_underlying hu, hx, h2.int_inv, asIntOf, hi, sizeOf, typeInfo, hj, hm, this]

theorem sound_idxT {t : TypeId} {s : ByteArray} {k : IntKind} {i : Int} {b : UInt8} {x y : Operand} (hs : Sim P B0 ρ H w) (hu : P.underlying t = some .string)
    (h1 : VR ρ (.string s) (ρv x)) (h2 : VR ρ (.int k i) (ρv y)) (hi : 0 ≤ i) (hg : s[i.toNat]? = some b) :
    Fine P B0 ρ w ((execOp ρv { dst, op := .index t x y, type := ty, pos, after, guard := g }).run P w) (.int .u8 b.toNat) H := by
  refine .pure hs (v' := .int .u8 b.toNat) ?_ (.int _ _)
  simp [execOp, Instr.index, run_underlying hu, h1.string_inv, h2.int_inv, asIntOf, hi, hg]

theorem sound_iface {t : TypeId} {d : TypeDesc} {u : Value} {x : Operand} (hs : Sim P B0 ρ H w) (hu : P.underlying t = some d) (hni : ∀ ms, d ≠ .interface ms) (h1 : VR ρ u (ρv x)) :
    Fine P B0 ρ w ((execOp ρv { dst, op := .makeInterface t x, type := ty, pos, after, guard := g }).run P w) (.iface t u) H := by
  refine .pure hs (v' := .iface t (ρv x)) ?_ (.iface _ _ _ h1)
  simp only [execOp, Instr.makeInterface, Sem.run_bind, run_underlying hu, Result.andThen_ok]
  cases d <;> first | exact absurd rfl (hni _) | rfl

theorem sound_fn {f : Fn} {first cap : Array Operand} {p q : List Value} (hs : Sim P B0 ρ H w) (hf : ∀ l, f ≠ .yield l) (h1 : VRs ρ p (first.toList.map ρv)) (h2 : VRs ρ q (cap.toList.map ρv)) :
    Fine P B0 ρ w ((execOp ρv { dst, op := .makeFunc f first cap, type := ty, pos, after, guard := g }).run P w) (.func f p.toArray q.toArray) H := by
  refine .pure hs (v' := .func f (first.map ρv) (cap.map ρv)) rfl ?_
  refine .func f _ _ _ _ hf (by have := h1.length; simp at this ⊢; omega) (by have := h2.length; simp at this ⊢; omega) ?_ ?_
  · intro i h h'
    have := h1.toGet i (by simpa using h) (by simpa using h')
    simpa using this
  · intro i h h'
    have := h2.toGet i (by simpa using h) (by simpa using h')
    simpa using this

theorem sound_ext {x : Operand} {vs : Array Value} {i : Nat} {u : Value} (hs : Sim P B0 ρ H w) (h1 : VR ρ (.tuple vs) (ρv x)) (hg : vs[i]? = some u) :
    Fine P B0 ρ w ((execOp ρv { dst, op := .extract x i, type := ty, pos, after, guard := g }).run P w) u H := by
  generalize hx : ρv x = vx at *
  cases h1 with
  | tuple _ p' hp h =>
    obtain ⟨hlt, hv⟩ := Array.getElem?_eq_some_iff.1 hg
    have hlt' : i < p'.size := by omega
    refine .pure hs (v' := p'[i]) ?_ (hv ▸ h i hlt hlt')
    simp [execOp, Instr.extract, hx, hlt']

theorem sound_mx {x y : Operand} {ats : Array TypeId} {k k' : IntKind} {m m' : Int} (hs : Sim P B0 ρ H w) (h1 : VR ρ (.int k m) (ρv x)) (h2 : VR ρ (.int k' m') (ρv y)) :
    Fine P B0 ρ w ((execOp ρv { dst, op := .call { callee := .builtin .max, args := #[x, y], argTypes := ats }, type := ty, pos, after, guard := g }).run P w) (.int k (if m' > m then m' else m)) H := by
  refine .pure hs (v' := .int k (if m' > m then m' else m)) ?_ (.int _ _)
  simp [execOp, resolve, invoke, builtin, Builtin.max_, h1.int_inv, h2.int_inv, Builtin.max2]

theorem sound_mn {x y : Operand} {ats : Array TypeId} {k k' : IntKind} {m m' : Int} (hs : Sim P B0 ρ H w) (h1 : VR ρ (.int k m) (ρv x)) (h2 : VR ρ (.int k' m') (ρv y)) :
    Fine P B0 ρ w ((execOp ρv { dst, op := .call { callee := .builtin .min, args := #[x, y], argTypes := ats }, type := ty, pos, after, guard := g }).run P w) (.int k (if m' < m then m' else m)) H := by
  refine .pure hs (v' := .int k (if m' < m then m' else m)) ?_ (.int _ _)
  simp [execOp, resolve, invoke, builtin, Builtin.min_, h1.int_inv, h2.int_inv, Builtin.min2]

theorem sound_lenT {x : Operand} {t : TypeId} {s : ByteArray} (hs : Sim P B0 ρ H w) (hu : P.underlying t = some .string) (h1 : VR ρ (.string s) (ρv x)) :
    Fine P B0 ρ w ((execOp ρv { dst, op := .call { callee := .builtin .len, args := #[x], argTypes := #[t] }, type := ty, pos, after, guard := g }).run P w) (.int .i64 s.size) H := by
  refine .pure hs (v' := .int .i64 s.size) ?_ (.int _ _)
  simp [execOp, resolve, invoke, builtin, Builtin.len_, run_underlying hu, h1.string_inv, goInt]

theorem VR.slice_len {ad : Option Addr} {m c : Nat} {v' : Value} (h : VR ρ (.slice ad m c) v') : ∃ ad' c', v' = .slice ad' m c' ∧ ad'.isNone = ad.isNone := by
  cases h <;> exact ⟨_, _, rfl, rfl⟩

theorem sound_lenS {x : Operand} {t el : TypeId} {ad : Option Addr} {m c : Nat} (hs : Sim P B0 ρ H w) (hu : P.underlying t = some (.slice el)) (h1 : VR ρ (.slice ad m c) (ρv x)) :
    Fine P B0 ρ w ((execOp ρv { dst, op := .call { callee := .builtin .len, args := #[x], argTypes := #[t] }, type := ty, pos, after, guard := g }).run P w) (.int .i64 m) H := by
  refine .pure hs (v' := .int .i64 m) ?_ (.int _ _)
  obtain ⟨ad', c', hx, _⟩ := h1.slice_len
  simp [execOp, resolve, invoke, builtin, Builtin.len_, run_underlying hu, hx, goInt]

theorem sound_lenK {x : Operand} {t el : TypeId} {m : Nat} (hs : Sim P B0 ρ H w) (hu : P.underlying t = some (.array m el)) :
    Fine P B0 ρ w ((execOp ρv { dst, op := .call { callee := .builtin .len, args := #[x], argTypes := #[t] }, type := ty, pos, after, guard := g }).run P w) (.int .i64 m) H := by
  refine .pure hs (v' := .int .i64 m) ?_ (.int _ _)
  simp [execOp, resolve, invoke, builtin, Builtin.len_, run_underlying hu, goInt]

theorem sound_cap {x : Operand} {t el : TypeId} {ad : Option Addr} {m c : Nat} (hs : Sim P B0 ρ H w) (hu : P.underlying t = some (.slice el)) (h1 : VR ρ (.slice ad m c) (ρv x)) (hsp : ∀ q, ad = some q → q.spot = none) :
    Fine P B0 ρ w ((execOp ρv { dst, op := .call { callee := .builtin .cap, args := #[x], argTypes := #[t] }, type := ty, pos, after, guard := g }).run P w) (.int .i64 c) H := by
  refine .pure hs (v' := .int .i64 c) ?_ (.int _ _)
  generalize hx : ρv x = vx at *
  cases h1 with
  | opn _ _ _ _ _ _ => exact absurd (hsp _ rfl) (by simp)
  | _ => simp [execOp, resolve, invoke, builtin, Builtin.cap_, run_underlying hu, hx, goInt]

theorem sound_assertT {t s : TypeId} {d : TypeDesc} {zero : Value} {ok : Bool} {u : Value} {x : Operand} (hs : Sim P B0 ρ H w) (hu : P.underlying t = some d) (hni : ∀ ms, d ≠ .interface ms) (hz : zeroVal P t = some zero)
    (h1 : VR ρ u (ρv x)) {r : Value} (hr : (∃ q, u = .iface t q ∧ r = if ok then .tuple #[q, .bool true] else q) ∨ ((u = .nilIface ∨ ∃ t' q, t' ≠ t ∧ u = .iface t' q) ∧ ok = true ∧ r = .tuple #[zero, .bool false])) :
    Fine P B0 ρ w ((execOp ρv { dst, op := .typeAssert x s t ok, type := ty, pos, after, guard := g }).run P w) r H := by
  generalize hx : ρv x = vx at *
  have hzr : (zeroValue t).run P w = .ok zero w ∧ plainC zero = true := by
    unfold zeroVal at hz
    split at hz
    · rename_i i hi
      split at hz
      · rename_i z hz'
        split at hz
        · cases hz; exact ⟨by simp [zeroValue, typeInfo, hi, hz'], ‹_›⟩
        · cases hz
      · cases hz
    · cases hz
  have tup : ∀ {q q' : Value} (b : Bool), VR ρ q q' → VR ρ (.tuple #[q, .bool b]) (.tuple #[q', .bool b]) := by
    intro q q' b hq
    refine .tuple _ _ rfl (fun i h h' => ?_)
    rcases i with _ | _ | i
    · exact hq
    · exact .bool b
    · simp at h; omega
  have open' : ∀ {f : Value → Sem Value}, (Instr.typeAssert vx s t ok).run P w = (Instr.typeAssert vx s t ok).run P w := rfl
  rcases hr with ⟨q, rfl, rfl⟩ | ⟨hq, rfl, rfl⟩
  · cases h1 with
    | iface _ _ q' hq =>
      refine .pure hs (v' := if ok then .tuple #[q', .bool true] else q') ?_ (by cases ok; exact hq; exact tup true hq)
      simp only [execOp, Instr.typeAssert, Sem.run_bind, run_underlying hu, Result.andThen_ok, hx]
      cases d <;> first | exact absurd rfl (hni _) | simp
  · refine .pure hs (v' := .tuple #[zero, .bool false]) ?_ (tup false (VR.of_plainC hzr.2))
    rcases hq with rfl | ⟨t', q, hne, rfl⟩
    · cases h1
      simp only [execOp, Instr.typeAssert, Sem.run_bind, run_underlying hu, Result.andThen_ok, hx]
      cases d <;> first | exact absurd rfl (hni _) | simp [hzr.1]
    · cases h1 with
      | iface _ _ q' hq =>
        simp only [execOp, Instr.typeAssert, Sem.run_bind, run_underlying hu, Result.andThen_ok, hx]
        cases d <;> first | exact absurd rfl (hni _) | simp [hne, hzr.1]

end
end Go.Abs
