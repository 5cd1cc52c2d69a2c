/-
  THE ABSTRACT LAYER (26): a statement's arguments, opened: numbers, truths, texts, structs and slices of them, slices of slices.
-/
import Derived.Test.YtjcncbejnplakaaA23
import Derived.Test.YtjcncbejnplakaaA25
import Derived.ChangeArms
set_option linter.unusedSimpArgs false
set_option linter.unusedVariables false
namespace Go.Abs
open Go Go.RowKit Go.ChangeShapes

/-- The shapes of arguments; a struct is told field by field. -/
inductive Sh where
  | int (k : IntKind) | bool | str
  | slice (e : Sh) (sz : Nat)
  | nil
  | cons (m : Nat) (h t : Sh)

def okFs (P : Program) (f : Sh → TypeId → Bool) (tot : Nat) : List Field → Nat → Sh → Bool
  | [], off, .nil => off == tot
  | fd :: fs, off, .cons m s t => fd.offset == off && P.cellsOf fd.type == m && f s fd.type && okFs P f tot fs (off + m) t
  | _, _, _ => false

/-- The elements of an array, as fields. -/
def repFs (e : TypeId) (m len : Nat) : List Field := (List.range len).map fun i => { name := "", type := e, offset := i * m, embedded := false, tag := "", pkgPath := "", byteOffset := 0 }

def okSh (P : Program) : Nat → Sh → TypeId → Bool
  | 0, _, _ => false
  | n + 1, s, t => match P.underlying t, s with
    | some (.int k'), .int k => decide (k = k')
    | some .bool, .bool => true
    | some .string, .str => true
    | some (.slice e), .slice s sz => P.cellsOf e == sz && decide (0 < sz) && okSh P n s e
    | some (.struct fs), s => okFs P (okSh P n) (P.cellsOf t) fs.toList 0 s
    | some (.array len e), s => okFs P (okSh P n) (P.cellsOf t) (repFs e (P.cellsOf e) len) 0 s
    | _, _ => false

/-- What cells of a shape are. -/
def Is (H : AH) : Sh → List Value → Prop
  | .int k, cs => ∃ n, cs = [.int k n] ∧ (Lit.int k n).wf = true
  | .bool, cs => ∃ b, cs = [.bool b]
  | .str, cs => ∃ s, cs = [.string s] ∧ s.size ≤ maxLen
  | .nil, cs => cs = []
  | .cons m h t, cs => m ≤ cs.length ∧ Is H h (cs.take m) ∧ Is H t (cs.drop m)
  | .slice e sz, cs => ∃ v n cells, cs = [v] ∧ Rd H sz v n cells ∧ n ≤ maxLen ∧ ∀ i, i < n → Is H e ((cells.drop (i * sz)).take sz)

theorem Is.kept {H H' : AH} (hw : WF H) (hk : Keep [] H H') : ∀ (s : Sh) {cs : List Value}, Is H s cs → Is H' s cs
  | .int _, _, h => h
  | .bool, _, h => h
  | .str, _, h => h
  | .nil, _, h => h
  | .cons m a b, _, h => ⟨h.1, Is.kept hw hk a h.2.1, Is.kept hw hk b h.2.2⟩
  | .slice e sz, _, ⟨v, n, cells, h1, h2, h3, h4⟩ => ⟨v, n, cells, h1, h2.kept hw hk, h3, fun i hi => Is.kept hw hk e (h4 i hi)⟩

def RO (H : AH) : Prop := ∀ b B, H.blk b = some B → B.mine = false

/-- What opening cells leaves. -/
def Opened (P : Program) (B0 : Nat) (w : World) (ρ : Rho) (H : AH) (cs : List Value) (K : AH → List Value → Prop) : Prop :=
  ∃ ρ' H' avs, Sim P B0 ρ' H' w ∧ RO H' ∧ ρ.le ρ' ∧ Keep [] H H' ∧ VRs ρ' avs cs ∧ ones avs ∧ K H' avs

section
variable {T : Type} {enc : TypeId × Value → T} {P : Program} {B0 : Nat} {w : World}

theorem Sim.arg {ρ : Rho} {H : AH} (h : Sim P B0 ρ H w) (hro : RO H) {blk base : Nat} {c : Array Value} {t : TypeId} {fr : Nat × Nat} (hb : w.heap[blk]? = some (.cells c t fr)) {cells cells' : List Value} (hv : VRs ρ cells cells') (ho : ones cells) (hc : ∀ i, i < cells.length → c[base + i]? = cells'[i]?) :
    Sim P B0 (ρ.add H.next ⟨blk, base, 0, 0⟩) (H.alloc (.row cells 0 false)) w ∧ ρ.le (ρ.add H.next ⟨blk, base, 0, 0⟩) ∧ RO (H.alloc (.row cells 0 false)) := by
  have hle : ρ.le (ρ.add H.next ⟨blk, base, 0, 0⟩) := Rho.le_add h.new_none
  have hbl := (Array.getElem?_eq_some_iff.1 hb).1
  have hro' : RO (H.alloc (.row cells 0 false)) := by
    intro b B hB
    simp only [AH.alloc] at hB
    split at hB
    · cases hB; rfl
    · exact hro b B hB
  refine ⟨⟨?_, ?_, ?_, ?_, h.base⟩, hle, hro'⟩
  · intro b e he
    simp only [Rho.add] at he
    split at he
    · rename_i hb; cases he; subst hb; exact ⟨Nat.lt_succ_self _, hbl⟩
    · have := h.fresh b e he; exact ⟨Nat.lt_succ_of_lt this.1, this.2⟩
  · intro b B hB
    simp only [AH.alloc] at hB
    split at hB
    · rename_i hb'
      cases hB; subst hb'
      exact ⟨⟨blk, base, 0, 0⟩, by simp [Rho.add], c, t, fr, cells', hb, hv.mono hle, ho, hc, fun h => by cases h⟩
    · obtain ⟨e, he, hr⟩ := h.live b B hB
      exact ⟨e, hle _ _ he, hr.keep hle rfl⟩
  · intro b b' B B' e e' hB hB' _ _ _
    exact .inr ⟨hro' b B hB, hro' b' B' hB'⟩
  · intro g hg
    obtain ⟨e, he, h1, h2⟩ := h.glob g hg
    exact ⟨e, hle _ _ he, h1, h2⟩

theorem add_add (a : Addr) (i j : Nat) : (a.add i).add j = a.add (i + j) := by
  obtain ⟨b, o, sp⟩ := a
  simp only [Addr.add]
  by_cases h1 : i = 0 <;> by_cases h2 : j = 0 <;> simp [h1, h2, Nat.add_assoc]

theorem VRs.split {ρ : Rho} {a b c : List Value} (h : VRs ρ (a ++ b) c) : VRs ρ a (c.take a.length) ∧ VRs ρ b (c.drop a.length) := by
  have h1 := h.take a.length
  have h2 := h.drop a.length
  simp at h1 h2
  exact ⟨h1, h2⟩

theorem open_sh (n : Nat) : ∀ (s : Sh) (t : TypeId), okSh P n s t = true → ∀ (fuel : Nat) (cs : List Value) (x : DataW T × List MemPlace), DataW.trod enc P w 0 (fun _ => true) true fuel t cs = some x →
    ∀ (ρ : Rho) (H : AH), Sim P B0 ρ H w → RO H → Opened P B0 w ρ H cs fun H' avs => Is H' s avs := by
  induction n with
  | zero => intro s t h; cases h
  | succ n ih =>
    intro s t hs fuel cs x hx ρ H hsim hro
    -- the fields, one after the other
    have low : ∀ (tot : Nat) (l : List Field) (off : Nat) (sh : Sh), okFs P (okSh P n) tot l off sh = true → off ≤ tot := by
      intro tot l
      induction l with
      | nil => intro off sh h; cases sh <;> simp [okFs] at h; omega
      | cons fd l ihl =>
        intro off sh h
        cases sh <;> simp only [okFs, Bool.and_eq_true, Bool.false_eq_true] at h
        have := ihl _ _ h.2
        omega
    have key : ∀ (tot m : Nat), cs.length = tot → ∀ (l : List Field) (off : Nat) (sh : Sh), okFs P (okSh P n) tot l off sh = true → (∀ f ∈ l, ∃ y, DataW.trod enc P w 0 (fun _ => true) true m f.type ((cs.drop f.offset).take (P.cellsOf f.type)) = some y) →
        ∀ (ρ : Rho) (H : AH), Sim P B0 ρ H w → RO H → Opened P B0 w ρ H (cs.drop off) fun H' avs => Is H' sh avs := by
      intro tot m hcl l
      induction l with
      | nil =>
        intro off sh h _ ρ H hsim hro
        cases sh <;> simp [okFs] at h
        subst h
        rw [List.drop_of_length_le (by omega)]
        exact ⟨ρ, H, [], hsim, hro, Rho.le_refl _, .refl, .nil, (by intro u hu; cases hu), rfl⟩
      | cons fd l ihl =>
        intro off sh h hall ρ H hsim hro
        cases sh <;> simp only [okFs, Bool.and_eq_true, beq_iff_eq, Bool.false_eq_true] at h
        rename_i m' s' t'
        obtain ⟨⟨⟨h1, h2⟩, h3⟩, h4⟩ := h
        have hlow := low _ _ _ _ h4
        obtain ⟨y, hy⟩ := hall fd (by simp)
        rw [h1, h2] at hy
        obtain ⟨ρ1, H1, avs, s1, s2, s3, s4, s5, s6, s7⟩ := ih s' fd.type h3 m _ y hy ρ H hsim hro
        obtain ⟨ρ2, H2, avs2, t1, t2, t3, t4, t5, t6, t7⟩ := ihl (off + m') t' h4 (fun f hf => hall f (by simp [hf])) ρ1 H1 s1 s2
        have l1 := s5.length
        have hl1 : avs.length = m' := by rw [← l1]; simp; omega
        have hcs : cs.drop off = (cs.drop off).take m' ++ cs.drop (off + m') := by rw [← List.drop_drop, List.take_append_drop]
        rw [hcs]
        refine ⟨ρ2, H2, avs ++ avs2, t1, t2, Rho.le_trans s3 t3, s4.trans' t4, (s5.mono t3).append t5, ?_, by simp; omega, ?_, ?_⟩
        · intro u hu
          rcases List.mem_append.1 hu with h | h
          · exact s6 u h
          · exact t6 u h
        · rw [← hl1, List.take_left]; exact Is.kept s1.wf t4 s' s7
        · rw [← hl1, List.drop_left]; exact t7
    unfold okSh at hs
    split at hs
    · rename_i k' k ht
      have hk : k = k' := by simpa using hs
      subst hk
      obtain ⟨z, rfl, _, hwf⟩ := DataW.trod_int ht hx
      exact ⟨ρ, H, [.int k z], hsim, hro, Rho.le_refl _, .refl, .cons (.int _ _) .nil, by intro u hu; simp at hu; subst hu; rfl, z, rfl, hwf⟩
    · rename_i ht
      obtain ⟨z, rfl, _⟩ := DataW.trod_bool ht hx
      exact ⟨ρ, H, [.bool z], hsim, hro, Rho.le_refl _, .refl, .cons (.bool _) .nil, by intro u hu; simp at hu; subst hu; rfl, z, rfl⟩
    · rename_i ht
      obtain ⟨z, rfl, _, hz⟩ := DataW.trod_string ht hx
      exact ⟨ρ, H, [.string z], hsim, hro, Rho.le_refl _, .refl, .cons (.string _) .nil, by intro u hu; simp at hu; subst hu; rfl, z, rfl, hz⟩
    · rename_i e s sz ht
      simp only [Bool.and_eq_true, beq_iff_eq, decide_eq_true_eq] at hs
      obtain ⟨⟨hsz, hpos⟩, hse⟩ := hs
      rcases DataW.trod_slice ht hx with ⟨rfl, _⟩ | ⟨a, len, cap, elems, rest, m, _, rfl, _, hb, hl, hm, hlen, hel, hsp, hns⟩
      · exact ⟨ρ, H, [.slice none 0 0], hsim, hro, Rho.le_refl _, .refl, .cons .nilSlice .nil, by intro u hu; simp at hu; subst hu; rfl, _, 0, [], rfl, .nil, Nat.zero_le _, fun i hi => by omega⟩
      rw [hsz] at hel hsp
      by_cases hc0 : cap = 0
      · obtain rfl : len = 0 := by omega
        subst hc0
        exact ⟨ρ, H, [.slice (some ⟨0, 0, none⟩) 0 0], hsim, hro, Rho.le_refl _, .refl, .cons (.zslice _ _) .nil, by intro u hu; simp at hu; subst hu; rfl, _, 0, [], rfl, .inr (.inl ⟨rfl, rfl, rfl⟩), Nat.zero_le _, fun i hi => by omega⟩
      -- the elements, one after the other
      have each : ∀ k, k ≤ len → ∃ acs : List Value, acs.length = k * sz ∧ (∀ j, j < k * sz → w.cell? (a.add j) = acs[j]?) ∧
          Opened P B0 w ρ H acs fun H' avs => ∀ i, i < k → Is H' s ((avs.drop (i * sz)).take sz) := by
        intro k
        induction k with
        | zero => intro _; exact ⟨[], by simp, fun j hj => by omega, ρ, H, [], hsim, hro, Rho.le_refl _, .refl, .nil, (by intro u hu; cases hu), fun i hi => by omega⟩
        | succ k ihk =>
          intro hk
          obtain ⟨acs, h1, h2, ρ1, H1, avs, s1, s2, s3, s4, s5, s6, s7⟩ := ihk (by omega)
          have hget := hel k (by omega)
          rw [List.getElem?_eq_getElem (show k < elems.length by omega), Option.bind_eq_some_iff] at hget
          obtain ⟨cs', hcs', htr⟩ := hget
          obtain ⟨_, hcl, hcc⟩ := World.cells?_some hcs'
          obtain ⟨ρ2, H2, avs2, t1, t2, t3, t4, t5, t6, t7⟩ := ih s e hse m cs' _ htr ρ1 H1 s1 s2
          have l1 := s5.length
          have l2 := t5.length
          refine ⟨acs ++ cs', by simp [h1, hcl, Nat.add_mul], ?_, ρ2, H2, avs ++ avs2, t1, t2, Rho.le_trans s3 t3, s4.trans' t4, (s5.mono t3).append t5, ?_, ?_⟩
          · intro j hj
            by_cases hj2 : j < k * sz
            · rw [List.getElem?_append_left (show j < acs.length by omega)]; exact h2 j hj2
            · rw [List.getElem?_append_right (show acs.length ≤ j by omega), h1]
              have hj3 : j < k * sz + sz := by rw [Nat.add_mul] at hj; omega
              have := hcc (j - k * sz) (by omega)
              rw [← this, add_add]
              congr 2
              omega
          · intro u hu
            rcases List.mem_append.1 hu with h | h
            · exact s6 u h
            · exact t6 u h
          · intro i hi
            by_cases hik : i < k
            · have hmul : (i + 1) * sz ≤ k * sz := Nat.mul_le_mul_right _ hik
              rw [Nat.add_mul] at hmul
              rw [List.drop_append_of_le_length (by omega), List.take_append_of_le_length (by simp; omega)]
              exact Is.kept s1.wf t4 s (s7 i hik)
            · obtain rfl : i = k := by omega
              have hal : avs.length = i * sz := by omega
              rw [← hal, List.drop_left, List.take_of_length_le (by omega)]
              exact t7
      obtain ⟨acs, h1, h2, ρ1, H1, avs, s1, s2, s3, s4, s5, s6, s7⟩ := each len (Nat.le_refl _)
      -- the block
      have hblk : ∃ v, w.cell? a = some v := by
        have hz : ∀ (cs' : List Value), w.cells? 0 a sz = some cs' → ∃ v, w.cell? a = some v := by
          intro cs' hcs'
          obtain ⟨_, hcl, hcc⟩ := World.cells?_some hcs'
          have := hcc 0 hpos
          have ha : a.add 0 = a := by cases a; rfl
          rw [ha] at this
          exact ⟨_, this.trans (List.getElem?_eq_getElem (by omega))⟩
        by_cases hl0 : len = 0
        · obtain ⟨q1, q2⟩ := hsp rfl
          have := q2 0 (by omega)
          rw [List.getElem?_eq_getElem (show 0 < rest.length by omega), Option.bind_eq_some_iff] at this
          obtain ⟨cs', hcs', _⟩ := this
          have ha : a.add ((len + 0) * sz) = a := by subst hl0; cases a; simp [Addr.add]
          rw [ha] at hcs'
          exact hz cs' hcs'
        · have := hel 0 (by omega)
          rw [List.getElem?_eq_getElem (show 0 < elems.length by omega), Option.bind_eq_some_iff] at this
          obtain ⟨cs', hcs', _⟩ := this
          have ha : a.add (0 * sz) = a := by cases a; simp [Addr.add]
          rw [ha] at hcs'
          exact hz cs' hcs'
      obtain ⟨blk, off, spot⟩ := a
      obtain ⟨v0, hv0⟩ := hblk
      have hspot : spot = none := by simpa using World.cell?_spot hv0
      subst hspot
      cases hheap : w.heap[blk]? with
      | none => simp [World.cell?, hheap] at hv0
      | some o =>
        cases o with
        | cells c tt fr =>
          have l1 := s5.length
          obtain ⟨u1, u2, u3⟩ := s1.arg s2 hheap (base := off) s5 s6 (fun i hi => by
            have := h2 i (by omega)
            rw [Go.WideShapes.add_plain] at this
            simpa [World.cell?, hheap] using this)
          refine ⟨_, _, [.slice (some ⟨H1.next, 0, none⟩) len cap], u1, u3, Rho.le_trans s3 u2, s4.trans' .alloc, ?_, by intro u hu; simp at hu; subst hu; rfl, _, len, avs, rfl, ?_, by omega, fun i hi => Is.kept s1.wf .alloc s (s7 i hi)⟩
          · refine .cons ?_ .nil
            have := VR.slice (ρ := ρ1.add H1.next ⟨blk, off, 0, 0⟩) H1.next 0 ⟨blk, off, 0, 0⟩ len cap (by simp [Rho.add]) hl
            simpa using this
          · exact .inr (.inr ⟨H1.next, 0, cap, avs, rfl, hl, by simp, by rw [cut_eq (show 0 + len * sz ≤ avs.length by omega), List.drop_zero, List.take_of_length_le (by omega)]⟩)
        | _ => simp [World.cell?, hheap] at hv0
    · rename_i _ fs ht
      obtain ⟨xs, m, _, _, hcl, hxl, hf⟩ := DataW.trod_struct ht hx
      have hall : ∀ f ∈ fs.toList, ∃ y, DataW.trod enc P w 0 (fun _ => true) true m f.type ((cs.drop f.offset).take (P.cellsOf f.type)) = some y := by
        intro f hf'
        obtain ⟨i, hi⟩ := List.getElem?_of_mem hf'
        have hi' : fs[i]? = some f := by simpa using hi
        have := hf i f hi'
        have hlt : i < xs.length := by rw [hxl]; exact (Array.getElem?_eq_some_iff.1 hi').1
        exact ⟨_, this.trans (List.getElem?_eq_getElem hlt)⟩
      have := key _ m hcl fs.toList 0 _ hs hall ρ H hsim hro
      simpa using this
    · rename_i _ len e ht
      obtain ⟨xs, m, _, _, hcl, hxl, hel⟩ := DataW.trod_array ht hx
      have hall : ∀ f ∈ repFs e (P.cellsOf e) len, ∃ y, DataW.trod enc P w 0 (fun _ => true) true m f.type ((cs.drop f.offset).take (P.cellsOf f.type)) = some y := by
        intro f hf
        obtain ⟨i, hi, rfl⟩ := List.mem_map.1 hf
        have hi' : i < len := by simpa using hi
        exact ⟨_, (hel i hi').trans (List.getElem?_eq_getElem (by omega))⟩
      have := key _ m hcl (repFs e (P.cellsOf e) len) 0 _ hs hall ρ H hsim hro
      simpa using this
    · cases hs

end
end Go.Abs
