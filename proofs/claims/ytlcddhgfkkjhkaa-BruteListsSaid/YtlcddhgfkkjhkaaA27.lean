/-
  THE ABSTRACT LAYER (23): from a contract on the abstract side to the statement's row: where a call starts, and what it leaves.
-/
import Derived.Test.YtlcddhgfkkjhkaaA22
import Derived.WalkKit
import Derived.ProofKit
import Derived.OpenShut
import Derived.Carry
import Derived.ChangeArms
set_option linter.unusedSimpArgs false
set_option linter.unusedVariables false
namespace Go.Abs
open Go Go.RowKit Go.ChangeShapes

def startR (n : Nat) : Rho := fun b => if b < n then some ⟨b, 0, 0, 0⟩ else none
def startH (n : Nat) : AH := ⟨fun _ => none, n⟩

theorem Sim.start (P : Program) (W : World) (hg : P.globals.size ≤ W.heap.size) : Sim P W.heap.size (startR P.globals.size) (startH P.globals.size) W where
  fresh := fun b e he => by
    simp only [startR] at he
    split at he
    · cases he; rename_i h; exact ⟨h, by show b < _; omega⟩
    · cases he
  live := fun b B hB => by simp [startH] at hB
  inj := fun b b' B B' e e' hB => by simp [startH] at hB
  glob := fun g hg => ⟨_, by simp only [startR, hg, if_true]; rfl, rfl, rfl⟩
  base := Nat.le_refl _

section
variable {H : Type} {enc : TypeId × Value → H} {P : Program}

/-- What a function that turns nothing old leaves. -/
theorem post_below {f : Func} {s : ChangeSpec} {apart fresh handsOn again : Bool} {W W' : World} {args : Array Value} {v : Value} {ds gs : List (DataW H)} {before pa pv : List MemPlace}
    (hW : DataW.Whole enc P f.params.toList s.vars apart W args.toList ds gs before)
    (hres : ∀ (b : Nat) (sp : Nat → Bool) (hd : Bool), DataW.TrodAll enc P W' b sp hd f.resultTypes.toList (v.resultList f.resultTypes.size) (s.fn H (ds ++ gs)).results [])
    (hargs : ∀ sp : Nat → Bool, (∀ p ∈ before, sp p.block = true) → DataW.TrodAll enc P W' 0 sp true f.params.toList args.toList (s.fn H (ds ++ gs)).args pa)
    (hvars : ∀ sp : Nat → Bool, (∀ p ∈ before, sp p.block = true) → DataW.TrodVars enc P W' sp s.vars (s.fn H (ds ++ gs)).vars pv)
    (hps : before = pa ++ pv) (hb : Below W.heap.size W W')
    (hok : ∀ (j : Nat) (t : TypeId) (r : Value), f.resultTypes[j]? = some t → (v.resultList f.resultTypes.size)[j]? = some r → Value.okWide P W' .any 0 t r) :
    s.post enc P f apart fresh handsOn again W args v W' := by
  have hold : ∀ p ∈ before, (fun b => decide (b < W.heap.size)) p.block = true := fun p hp => by simpa using hW.lt p hp
  have hlt : ∀ p ∈ before, p.block < W.heap.size := fun p hp => by simpa using hW.lt p hp
  refine ⟨ds, gs, before, [], pa, pv, hW, hres _ _ _, hargs _ hold, hvars _ hold, World.keptBut_mono (fun p hp => ⟨hp, ?_⟩) (hb.frame (· ∈ before)), fun _ => ?_⟩
  · rw [hps, List.mem_append] at hp
    exact Or.inr hp
  · obtain ⟨_, _, _, _, _, hz, hn⟩ := hW
    refine ⟨hok, _, _, ([] ++ pa) ++ pv, ⟨[] ++ pa, pv, trodAll_append (hargs _ (fun _ _ => rfl)) (hres _ _ _), hvars _ (fun _ _ => rfl), rfl, ?_, ?_⟩, ?_⟩
    · intro b off hp
      have hp' : MemPlace.cell b off ∈ before := by rw [hps]; simpa using hp
      rw [hb.frozen (hlt _ hp')]
      exact hz b off hp'
    · intro ha
      have := hn ha
      rw [hps] at this
      simpa using this
    · intro p hp _
      rw [hps]
      simpa using hp

end

/-- The walk of a statement's function that tells true. -/
theorem AFn.tells {P : Program} {f : FuncId} {args : List Value} {H : AH} {Q : AH → Prop} (h : AFn P f args H fun v H' => v = .bool true ∧ Q H') {ρ : Rho} {w : World} {args' : Array Value} (hs : Sim P w.heap.size ρ H w) (ha : VRs ρ args args'.toList) :
    Calls P f args' w fun e w' => e = .returned (.bool true) ∧ Below w.heap.size w w' :=
  (h.calls hs ha).mono fun e w' ⟨v', v, H', ρ', he, hs', hb, hv, hq, _⟩ => by
    subst hq
    cases hv
    exact ⟨he, hb⟩

end Go.Abs

/-
  THE ABSTRACT LAYER (24): loops that count up; slices of numbers.
-/
set_option linter.unusedSimpArgs false
set_option linter.unusedVariables false
namespace Go.Abs
open Go

/-- What is asked behind round k of N. -/
def roundsK (k N : Nat) (I : Nat → Env → AH → Prop) (Q : AExit → Env → AH → Prop) (e : AExit) (env : Env) (H : AH) : Prop :=
  match e with
  | .normal => k < N ∧ I (k + 1) env H
  | e => Q e env H
section
variable {P : Program} {n : Nat} {k N : Nat} {I : Nat → Env → AH → Prop} {Q : AExit → Env → AH → Prop} {env : Env} {H : AH}
@[simp] theorem roundsK_normal : roundsK k N I Q .normal env H = (k < N ∧ I (k + 1) env H) := Eq.trans rfl rfl
@[simp] theorem roundsK_exit {i : Nat} : roundsK k N I Q (.exit i) env H = Q (.exit i) env H := Eq.trans rfl rfl
@[simp] theorem roundsK_ret : roundsK k N I Q .ret env H = Q .ret env H := Eq.trans rfl rfl

/-- A loop that counts up to N. -/
theorem loop_upto {body : ACode} (N : Nat) (I : Nat → Env → AH → Prop) (h : I 0 env H)
    (hs : ∀ k env H, k ≤ N → I k env H → wpC P n body (roundsK k N I Q) env H) : wpC P n (.loop body) Q env H := by
  refine loop_rule (fun j env H => ∃ k, k ≤ N ∧ j = N - k ∧ I k env H) ?_ (j := N) ⟨0, by omega, by omega, h⟩
  rintro j env H ⟨k, hk, rfl, hI⟩
  refine wpC_mono body (fun e env H h => ?_) (hs k env H hk hI)
  cases e with
  | normal => exact ⟨N - (k + 1), by have := h.1; omega, k + 1, h.1, rfl, h.2⟩
  | exit i => exact h
  | ret => exact h
end

/-- The numbers of a slice, one by one. -/
theorem Own.ints {H : AH} {elem n : Nat} {a : Option Addr} {c : Nat} {ik : IntKind} {l : List Int} {S : List Nat} (h : Own H elem 1 (.slice a n c) n (l.map (.int ik)) S) (hn : 0 < n) :
    ∃ b off sp cs, a = some ⟨b, off, sp⟩ ∧ S = [b] ∧ H.blk b = some (.row cs elem true) ∧ H.cells b = some cs ∧ (sp = none ∨ sp = some 1) ∧ l.length = n ∧ n ≤ c ∧ ∀ k (hk : k < l.length), cs[off + k]? = some (.int ik l[k]) := by
  have hl := h.len
  simp at hl
  obtain ⟨b, off, sp, cap, cs, he, rfl, q1, q2, q3, q4, q5, q6, q7⟩ := h.at hn
  cases he
  refine ⟨b, off, sp, cs, rfl, rfl, q1, q2, q5, hl, q4, fun k hk => ?_⟩
  rw [q6 k (by omega)]
  simp [hk]

theorem Own.n_eq {H : AH} {elem n : Nat} {v : Value} {ik : IntKind} {l : List Int} {S : List Nat} (h : Own H elem 1 v n (l.map (.int ik)) S) : n = l.length := by
  have := h.len; simp at this; omega

end Go.Abs

/-
  THE ABSTRACT LAYER (25): slices that are only read.
-/
set_option linter.unusedSimpArgs false
set_option linter.unusedVariables false
namespace Go.Abs
open Go

/-- A slice that may be read: nil, or cells of a block. -/
def Rd (H : AH) (sz : Nat) (v : Value) (n : Nat) (cells : List Value) : Prop :=
  (v = .slice none 0 0 ∧ n = 0 ∧ cells = []) ∨ (v = .slice (some ⟨0, 0, none⟩) 0 0 ∧ n = 0 ∧ cells = []) ∨ ∃ b off cap cs, v = .slice (some ⟨b, off, none⟩) n cap ∧ n ≤ cap ∧ H.cells b = some cs ∧ cut cs off (n * sz) = some cells

theorem Rd.nil {H : AH} {sz : Nat} : Rd H sz (.slice none 0 0) 0 [] := .inl ⟨rfl, rfl, rfl⟩
theorem Rd.slice {H : AH} {sz n : Nat} {v : Value} {cells : List Value} (h : Rd H sz v n cells) : ∃ a c, v = .slice a n c := by
  rcases h with ⟨rfl, rfl, _⟩ | ⟨rfl, rfl, _⟩ | ⟨b, off, cap, cs, rfl, _⟩
  · exact ⟨_, _, rfl⟩
  · exact ⟨_, _, rfl⟩
  · exact ⟨_, _, rfl⟩
theorem Rd.len {H : AH} {sz n : Nat} {v : Value} {cells : List Value} (h : Rd H sz v n cells) : cells.length = n * sz := by
  rcases h with ⟨rfl, rfl, rfl⟩ | ⟨rfl, rfl, rfl⟩ | ⟨b, off, cap, cs, rfl, _, _, h⟩
  · simp
  · simp
  · exact (cut_spec h).2.2.1
theorem Rd.kept {H H' : AH} {sz n : Nat} {v : Value} {cells : List Value} (h : Rd H sz v n cells) (hw : WF H) (hk : Keep [] H H') : Rd H' sz v n cells := by
  rcases h with h | h | ⟨b, off, cap, cs, h1, h2, h3, h4⟩
  · exact .inl h
  · exact .inr (.inl h)
  · refine .inr <| .inr ⟨b, off, cap, cs, h1, h2, ?_, h4⟩
    have : H.blk b ≠ none := fun hn => by simp [AH.cells, hn] at h3
    obtain ⟨B, hB⟩ := Option.ne_none_iff_exists'.1 this
    simp only [AH.cells, hk.blk b (hw.lt hB) (by simp)]
    exact h3
theorem Rd.at {H : AH} {sz n : Nat} {v : Value} {cells : List Value} (h : Rd H sz v n cells) (hn : 0 < n) :
    ∃ b off cap cs, v = .slice (some ⟨b, off, none⟩) n cap ∧ n ≤ cap ∧ H.cells b = some cs ∧ off + n * sz ≤ cs.length ∧ (∀ k, k < n * sz → cs[off + k]? = cells[k]?) ∧ cut cs off (n * sz) = some cells := by
  rcases h with ⟨_, h, _⟩ | ⟨_, h, _⟩ | ⟨b, off, cap, cs, h1, h2, h3, h4⟩
  · omega
  · omega
  · obtain ⟨q1, q2, q3, q4⟩ := cut_spec h4
    exact ⟨b, off, cap, cs, h1, h2, h3, q1, q4, h4⟩
theorem Own.rd {H : AH} {elem sz n : Nat} {a : Option Addr} {c : Nat} {cells : List Value} {S : List Nat} (h : Own H elem sz (.slice a n c) n cells S) (hs : ∀ x, a = some x → x.spot = none) : Rd H sz (.slice a n c) n cells := by
  rcases h with ⟨h0, rfl, rfl, _⟩ | ⟨b, off, sp, cap, cs, h0, h1, h2, h3, h4, h5, h6⟩
  · cases h0; exact .nil
  · cases h0
    have := hs _ rfl
    simp only at this
    subst this
    have hl := Nat.mul_le_mul_right sz h4
    exact .inr <| .inr ⟨b, off, c, cs, rfl, h4, AH.cells_of h2, by rw [cut_eq (by omega), h5]⟩
theorem Rd.first {H : AH} {sz n b off cap : Nat} {cells : List Value} (h : Rd H sz (.slice (some ⟨b, off, none⟩) n cap) n cells) {k : Nat} (hk : k ≤ n) : Rd H sz (.slice (some ⟨b, off, none⟩) k cap) k (cells.take (k * sz)) := by
  rcases h with ⟨h, _⟩ | ⟨h, rfl, rfl⟩ | ⟨b', off', cap', cs, h1, h2, h3, h4⟩
  · cases h
  · cases h
    obtain rfl : k = 0 := by omega
    exact .inr (.inl ⟨rfl, rfl, by simp⟩)
  · cases h1
    obtain ⟨q1, q2, q3, q4⟩ := cut_spec h4
    have hm := Nat.mul_le_mul_right sz hk
    refine .inr <| .inr ⟨b, off, cap, cs, rfl, by omega, h3, ?_⟩
    rw [cut_eq (by omega), q2, List.take_take, Nat.min_eq_left hm]

end Go.Abs

/-
  THE ABSTRACT LAYER (26): a statement's arguments, opened: numbers, truths, texts, structs and slices of them, slices of slices.
-/
set_option linter.unusedSimpArgs false
set_option linter.unusedVariables false
namespace Go.Abs
open Go Go.RowKit Go.ChangeShapes

/-- The shapes of arguments; a struct is told field by field. -/
inductive Sh where
  | int (k : IntKind) | bool | str
  | slice (e : Sh) (sz : Nat)
  | nil
  | cons (m : Nat) (h t : Sh)

def okFs (P : Program) (f : Sh → TypeId → Bool) (tot : Nat) : List Field → Nat → Sh → Bool
  | [], off, .nil => off == tot
  | fd :: fs, off, .cons m s t => fd.offset == off && P.cellsOf fd.type == m && f s fd.type && okFs P f tot fs (off + m) t
  | _, _, _ => false

/-- The elements of an array, as fields. -/
def repFs (e : TypeId) (m len : Nat) : List Field := (List.range len).map fun i => { name := "", type := e, offset := i * m, embedded := false, tag := "", pkgPath := "", byteOffset := 0 }

def okSh (P : Program) : Nat → Sh → TypeId → Bool
  | 0, _, _ => false
  | n + 1, s, t => match P.underlying t, s with
    | some (.int k'), .int k => decide (k = k')
    | some .bool, .bool => true
    | some .string, .str => true
    | some (.slice e), .slice s sz => P.cellsOf e == sz && decide (0 < sz) && okSh P n s e
    | some (.struct fs), s => okFs P (okSh P n) (P.cellsOf t) fs.toList 0 s
    | some (.array len e), s => okFs P (okSh P n) (P.cellsOf t) (repFs e (P.cellsOf e) len) 0 s
    | _, _ => false

/-- What cells of a shape are. -/
def Is (H : AH) : Sh → List Value → Prop
  | .int k, cs => ∃ n, cs = [.int k n] ∧ (Lit.int k n).wf = true
  | .bool, cs => ∃ b, cs = [.bool b]
  | .str, cs => ∃ s, cs = [.string s] ∧ s.size ≤ maxLen
  | .nil, cs => cs = []
  | .cons m h t, cs => m ≤ cs.length ∧ Is H h (cs.take m) ∧ Is H t (cs.drop m)
  | .slice e sz, cs => ∃ v n cells, cs = [v] ∧ Rd H sz v n cells ∧ n ≤ maxLen ∧ ∀ i, i < n → Is H e ((cells.drop (i * sz)).take sz)

theorem Is.kept {H H' : AH} (hw : WF H) (hk : Keep [] H H') : ∀ (s : Sh) {cs : List Value}, Is H s cs → Is H' s cs
  | .int _, _, h => h
  | .bool, _, h => h
  | .str, _, h => h
  | .nil, _, h => h
  | .cons m a b, _, h => ⟨h.1, Is.kept hw hk a h.2.1, Is.kept hw hk b h.2.2⟩
  | .slice e sz, _, ⟨v, n, cells, h1, h2, h3, h4⟩ => ⟨v, n, cells, h1, h2.kept hw hk, h3, fun i hi => Is.kept hw hk e (h4 i hi)⟩

def RO (H : AH) : Prop := ∀ b B, H.blk b = some B → B.mine = false

/-- What opening cells leaves. -/
def Opened (P : Program) (B0 : Nat) (w : World) (ρ : Rho) (H : AH) (cs : List Value) (K : AH → List Value → Prop) : Prop :=
  ∃ ρ' H' avs, Sim P B0 ρ' H' w ∧ RO H' ∧ ρ.le ρ' ∧ Keep [] H H' ∧ VRs ρ' avs cs ∧ ones avs ∧ K H' avs

section
variable {T : Type} {enc : TypeId × Value → T} {P : Program} {B0 : Nat} {w : World}

theorem Sim.arg {ρ : Rho} {H : AH} (h : Sim P B0 ρ H w) (hro : RO H) {blk base : Nat} {c : Array Value} {t : TypeId} {fr : Nat × Nat} (hb : w.heap[blk]? = some (.cells c t fr)) {cells cells' : List Value} (hv : VRs ρ cells cells') (ho : ones cells) (hc : ∀ i, i < cells.length → c[base + i]? = cells'[i]?) :
    Sim P B0 (ρ.add H.next ⟨blk, base, 0, 0⟩) (H.alloc (.row cells 0 false)) w ∧ ρ.le (ρ.add H.next ⟨blk, base, 0, 0⟩) ∧ RO (H.alloc (.row cells 0 false)) := by
  have hle : ρ.le (ρ.add H.next ⟨blk, base, 0, 0⟩) := Rho.le_add h.new_none
  have hbl := (Array.getElem?_eq_some_iff.1 hb).1
  have hro' : RO (H.alloc (.row cells 0 false)) := by
    intro b B hB
    simp only [AH.alloc] at hB
    split at hB
    · cases hB; rfl
    · exact hro b B hB
  refine ⟨⟨?_, ?_, ?_, ?_, h.base⟩, hle, hro'⟩
  · intro b e he
    simp only [Rho.add] at he
    split at he
    · rename_i hb; cases he; subst hb; exact ⟨Nat.lt_succ_self _, hbl⟩
    · have := h.fresh b e he; exact ⟨Nat.lt_succ_of_lt this.1, this.2⟩
  · intro b B hB
    simp only [AH.alloc] at hB
    split at hB
    · rename_i hb'
      cases hB; subst hb'
      exact ⟨⟨blk, base, 0, 0⟩, by simp [Rho.add], c, t, fr, cells', hb, hv.mono hle, ho, hc, fun h => by cases h⟩
    · obtain ⟨e, he, hr⟩ := h.live b B hB
      exact ⟨e, hle _ _ he, hr.keep hle rfl⟩
  · intro b b' B B' e e' hB hB' _ _ _
    exact .inr ⟨hro' b B hB, hro' b' B' hB'⟩
  · intro g hg
    obtain ⟨e, he, h1, h2⟩ := h.glob g hg
    exact ⟨e, hle _ _ he, h1, h2⟩

theorem add_add (a : Addr) (i j : Nat) : (a.add i).add j = a.add (i + j) := by
  obtain ⟨b, o, sp⟩ := a
  simp only [Addr.add]
  by_cases h1 : i = 0 <;> by_cases h2 : j = 0 <;> simp [h1, h2, Nat.add_assoc]

theorem VRs.split {ρ : Rho} {a b c : List Value} (h : VRs ρ (a ++ b) c) : VRs ρ a (c.take a.length) ∧ VRs ρ b (c.drop a.length) := by
  have h1 := h.take a.length
  have h2 := h.drop a.length
  simp at h1 h2
  exact ⟨h1, h2⟩

theorem open_sh (n : Nat) : ∀ (s : Sh) (t : TypeId), okSh P n s t = true → ∀ (fuel : Nat) (cs : List Value) (x : DataW T × List MemPlace), DataW.trod enc P w 0 (fun _ => true) true fuel t cs = some x →
    ∀ (ρ : Rho) (H : AH), Sim P B0 ρ H w → RO H → Opened P B0 w ρ H cs fun H' avs => Is H' s avs := by
  induction n with
  | zero => intro s t h; cases h
  | succ n ih =>
    intro s t hs fuel cs x hx ρ H hsim hro
    -- the fields, one after the other
    have low : ∀ (tot : Nat) (l : List Field) (off : Nat) (sh : Sh), okFs P (okSh P n) tot l off sh = true → off ≤ tot := by
      intro tot l
      induction l with
      | nil => intro off sh h; cases sh <;> simp [okFs] at h; omega
      | cons fd l ihl =>
        intro off sh h
        cases sh <;> simp only [okFs, Bool.and_eq_true, Bool.false_eq_true] at h
        have := ihl _ _ h.2
        omega
    have key : ∀ (tot m : Nat), cs.length = tot → ∀ (l : List Field) (off : Nat) (sh : Sh), okFs P (okSh P n) tot l off sh = true → (∀ f ∈ l, ∃ y, DataW.trod enc P w 0 (fun _ => true) true m f.type ((cs.drop f.offset).take (P.cellsOf f.type)) = some y) →
        ∀ (ρ : Rho) (H : AH), Sim P B0 ρ H w → RO H → Opened P B0 w ρ H (cs.drop off) fun H' avs => Is H' sh avs := by
      intro tot m hcl l
      induction l with
      | nil =>
        intro off sh h _ ρ H hsim hro
        cases sh <;> simp [okFs] at h
        subst h
        rw [List.drop_of_length_le (by omega)]
        exact ⟨ρ, H, [], hsim, hro, Rho.le_refl _, .refl, .nil, (by intro u hu; cases hu), rfl⟩
      | cons fd l ihl =>
        intro off sh h hall ρ H hsim hro
        cases sh <;> simp only [okFs, Bool.and_eq_true, beq_iff_eq, Bool.false_eq_true] at h
        rename_i m' s' t'
        obtain ⟨⟨⟨h1, h2⟩, h3⟩, h4⟩ := h
        have hlow := low _ _ _ _ h4
        obtain ⟨y, hy⟩ := hall fd (by simp)
        rw [h1, h2] at hy
        obtain ⟨ρ1, H1, avs, s1, s2, s3, s4, s5, s6, s7⟩ := ih s' fd.type h3 m _ y hy ρ H hsim hro
        obtain ⟨ρ2, H2, avs2, t1, t2, t3, t4, t5, t6, t7⟩ := ihl (off + m') t' h4 (fun f hf => hall f (by simp [hf])) ρ1 H1 s1 s2
        have l1 := s5.length
        have hl1 : avs.length = m' := by rw [← l1]; simp; omega
        have hcs : cs.drop off = (cs.drop off).take m' ++ cs.drop (off + m') := by rw [← List.drop_drop, List.take_append_drop]
        rw [hcs]
        refine ⟨ρ2, H2, avs ++ avs2, t1, t2, Rho.le_trans s3 t3, s4.trans' t4, (s5.mono t3).append t5, ?_, by simp; omega, ?_, ?_⟩
        · intro u hu
          rcases List.mem_append.1 hu with h | h
          · exact s6 u h
          · exact t6 u h
        · rw [← hl1, List.take_left]; exact Is.kept s1.wf t4 s' s7
        · rw [← hl1, List.drop_left]; exact t7
    unfold okSh at hs
    split at hs
    · rename_i k' k ht
      have hk : k = k' := by simpa using hs
      subst hk
      obtain ⟨z, rfl, _, hwf⟩ := DataW.trod_int ht hx
      exact ⟨ρ, H, [.int k z], hsim, hro, Rho.le_refl _, .refl, .cons (.int _ _) .nil, by intro u hu; simp at hu; subst hu; rfl, z, rfl, hwf⟩
    · rename_i ht
      obtain ⟨z, rfl, _⟩ := DataW.trod_bool ht hx
      exact ⟨ρ, H, [.bool z], hsim, hro, Rho.le_refl _, .refl, .cons (.bool _) .nil, by intro u hu; simp at hu; subst hu; rfl, z, rfl⟩
    · rename_i ht
      obtain ⟨z, rfl, _, hz⟩ := DataW.trod_string ht hx
      exact ⟨ρ, H, [.string z], hsim, hro, Rho.le_refl _, .refl, .cons (.string _) .nil, by intro u hu; simp at hu; subst hu; rfl, z, rfl, hz⟩
    · rename_i e s sz ht
      simp only [Bool.and_eq_true, beq_iff_eq, decide_eq_true_eq] at hs
      obtain ⟨⟨hsz, hpos⟩, hse⟩ := hs
      rcases DataW.trod_slice ht hx with ⟨rfl, _⟩ | ⟨a, len, cap, elems, rest, m, _, rfl, _, hb, hl, hm, hlen, hel, hsp, hns⟩
      · exact ⟨ρ, H, [.slice none 0 0], hsim, hro, Rho.le_refl _, .refl, .cons .nilSlice .nil, by intro u hu; simp at hu; subst hu; rfl, _, 0, [], rfl, .nil, Nat.zero_le _, fun i hi => by omega⟩
      rw [hsz] at hel hsp
      by_cases hc0 : cap = 0
      · obtain rfl : len = 0 := by omega
        subst hc0
        exact ⟨ρ, H, [.slice (some ⟨0, 0, none⟩) 0 0], hsim, hro, Rho.le_refl _, .refl, .cons (.zslice _ _) .nil, by intro u hu; simp at hu; subst hu; rfl, _, 0, [], rfl, .inr (.inl ⟨rfl, rfl, rfl⟩), Nat.zero_le _, fun i hi => by omega⟩
      -- the elements, one after the other
      have each : ∀ k, k ≤ len → ∃ acs : List Value, acs.length = k * sz ∧ (∀ j, j < k * sz → w.cell? (a.add j) = acs[j]?) ∧
          Opened P B0 w ρ H acs fun H' avs => ∀ i, i < k → Is H' s ((avs.drop (i * sz)).take sz) := by
        intro k
        induction k with
        | zero => intro _; exact ⟨[], by simp, fun j hj => by omega, ρ, H, [], hsim, hro, Rho.le_refl _, .refl, .nil, (by intro u hu; cases hu), fun i hi => by omega⟩
        | succ k ihk =>
          intro hk
          obtain ⟨acs, h1, h2, ρ1, H1, avs, s1, s2, s3, s4, s5, s6, s7⟩ := ihk (by omega)
          have hget := hel k (by omega)
          rw [List.getElem?_eq_getElem (show k < elems.length by omega), Option.bind_eq_some_iff] at hget
          obtain ⟨cs', hcs', htr⟩ := hget
          obtain ⟨_, hcl, hcc⟩ := World.cells?_some hcs'
          obtain ⟨ρ2, H2, avs2, t1, t2, t3, t4, t5, t6, t7⟩ := ih s e hse m cs' _ htr ρ1 H1 s1 s2
          have l1 := s5.length
          have l2 := t5.length
          refine ⟨acs ++ cs', by simp [h1, hcl, Nat.add_mul], ?_, ρ2, H2, avs ++ avs2, t1, t2, Rho.le_trans s3 t3, s4.trans' t4, (s5.mono t3).append t5, ?_, ?_⟩
          · intro j hj
            by_cases hj2 : j < k * sz
            · rw [List.getElem?_append_left (show j < acs.length by omega)]; exact h2 j hj2
            · rw [List.getElem?_append_right (show acs.length ≤ j by omega), h1]
              have hj3 : j < k * sz + sz := by rw [Nat.add_mul] at hj; omega
              have := hcc (j - k * sz) (by omega)
              rw [← this, add_add]
              congr 2
              omega
          · intro u hu
            rcases List.mem_append.1 hu with h | h
            · exact s6 u h
            · exact t6 u h
          · intro i hi
            by_cases hik : i < k
            · have hmul : (i + 1) * sz ≤ k * sz := Nat.mul_le_mul_right _ hik
              rw [Nat.add_mul] at hmul
              rw [List.drop_append_of_le_length (by omega), List.take_append_of_le_length (by simp; omega)]
              exact Is.kept s1.wf t4 s (s7 i hik)
            · obtain rfl : i = k := by omega
              have hal : avs.length = i * sz := by omega
              rw [← hal, List.drop_left, List.take_of_length_le (by omega)]
              exact t7
      obtain ⟨acs, h1, h2, ρ1, H1, avs, s1, s2, s3, s4, s5, s6, s7⟩ := each len (Nat.le_refl _)
      -- the block
      have hblk : ∃ v, w.cell? a = some v := by
        have hz : ∀ (cs' : List Value), w.cells? 0 a sz = some cs' → ∃ v, w.cell? a = some v := by
          intro cs' hcs'
          obtain ⟨_, hcl, hcc⟩ := World.cells?_some hcs'
          have := hcc 0 hpos
          have ha : a.add 0 = a := by cases a; rfl
          rw [ha] at this
          exact ⟨_, this.trans (List.getElem?_eq_getElem (by omega))⟩
        by_cases hl0 : len = 0
        · obtain ⟨q1, q2⟩ := hsp rfl
          have := q2 0 (by omega)
          rw [List.getElem?_eq_getElem (show 0 < rest.length by omega), Option.bind_eq_some_iff] at this
          obtain ⟨cs', hcs', _⟩ := this
          have ha : a.add ((len + 0) * sz) = a := by subst hl0; cases a; simp [Addr.add]
          rw [ha] at hcs'
          exact hz cs' hcs'
        · have := hel 0 (by omega)
          rw [List.getElem?_eq_getElem (show 0 < elems.length by omega), Option.bind_eq_some_iff] at this
          obtain ⟨cs', hcs', _⟩ := this
          have ha : a.add (0 * sz) = a := by cases a; simp [Addr.add]
          rw [ha] at hcs'
          exact hz cs' hcs'
      obtain ⟨blk, off, spot⟩ := a
      obtain ⟨v0, hv0⟩ := hblk
      have hspot : spot = none := by simpa using World.cell?_spot hv0
      subst hspot
      cases hheap : w.heap[blk]? with
      | none => simp [World.cell?, hheap] at hv0
      | some o =>
        cases o with
        | cells c tt fr =>
          have l1 := s5.length
          obtain ⟨u1, u2, u3⟩ := s1.arg s2 hheap (base := off) s5 s6 (fun i hi => by
            have := h2 i (by omega)
            rw [Go.WideShapes.add_plain] at this
            simpa [World.cell?, hheap] using this)
          refine ⟨_, _, [.slice (some ⟨H1.next, 0, none⟩) len cap], u1, u3, Rho.le_trans s3 u2, s4.trans' .alloc, ?_, by intro u hu; simp at hu; subst hu; rfl, _, len, avs, rfl, ?_, by omega, fun i hi => Is.kept s1.wf .alloc s (s7 i hi)⟩
          · refine .cons ?_ .nil
            have := VR.slice (ρ := ρ1.add H1.next ⟨blk, off, 0, 0⟩) H1.next 0 ⟨blk, off, 0, 0⟩ len cap (by simp [Rho.add]) hl
            simpa using this
          · exact .inr (.inr ⟨H1.next, 0, cap, avs, rfl, hl, by simp, by rw [cut_eq (show 0 + len * sz ≤ avs.length by omega), List.drop_zero, List.take_of_length_le (by omega)]⟩)
        | _ => simp [World.cell?, hheap] at hv0
    · rename_i _ fs ht
      obtain ⟨xs, m, _, _, hcl, hxl, hf⟩ := DataW.trod_struct ht hx
      have hall : ∀ f ∈ fs.toList, ∃ y, DataW.trod enc P w 0 (fun _ => true) true m f.type ((cs.drop f.offset).take (P.cellsOf f.type)) = some y := by
        intro f hf'
        obtain ⟨i, hi⟩ := List.getElem?_of_mem hf'
        have hi' : fs[i]? = some f := by simpa using hi
        have := hf i f hi'
        have hlt : i < xs.length := by rw [hxl]; exact (Array.getElem?_eq_some_iff.1 hi').1
        exact ⟨_, this.trans (List.getElem?_eq_getElem hlt)⟩
      have := key _ m hcl fs.toList 0 _ hs hall ρ H hsim hro
      simpa using this
    · rename_i _ len e ht
      obtain ⟨xs, m, _, _, hcl, hxl, hel⟩ := DataW.trod_array ht hx
      have hall : ∀ f ∈ repFs e (P.cellsOf e) len, ∃ y, DataW.trod enc P w 0 (fun _ => true) true m f.type ((cs.drop f.offset).take (P.cellsOf f.type)) = some y := by
        intro f hf
        obtain ⟨i, hi, rfl⟩ := List.mem_map.1 hf
        have hi' : i < len := by simpa using hi
        exact ⟨_, (hel i hi').trans (List.getElem?_eq_getElem (by omega))⟩
      have := key _ m hcl (repFs e (P.cellsOf e) len) 0 _ hs hall ρ H hsim hro
      simpa using this
    · cases hs

end
end Go.Abs

/-
  THE ABSTRACT LAYER (27): all arguments of a statement's function; the row's last step.
-/
set_option linter.unusedSimpArgs false
set_option linter.unusedVariables false
namespace Go.Abs
open Go Go.RowKit Go.ChangeShapes

section
variable {T : Type} {enc : TypeId × Value → T} {P : Program} {B0 : Nat} {w : World}

/-- The shape of one argument that is no struct. -/
def Sh.single : Sh → Bool
  | .nil | .cons _ _ _ => false
  | _ => true

def okArgs (P : Program) (n : Nat) : List Sh → List TypeId → Bool
  | [], [] => true
  | s :: ss, t :: ts => okSh P n s t && okArgs P n ss ts
  | _, _ => false

/-- One argument: a cell, or a struct or an array by its cells. -/
def IsArg (H : AH) (s : Sh) (v : Value) : Prop := if s.single then Is H s [v] else ∃ cs, v = .agg cs ∧ Is H s cs.toList
theorem IsArg.kept {H H' : AH} (hw : WF H) (hk : Keep [] H H') {s : Sh} {v : Value} (h : IsArg H s v) : IsArg H' s v := by
  unfold IsArg at *
  split
  · rename_i hs; rw [if_pos hs] at h; exact Is.kept hw hk s h
  · rename_i hs; rw [if_neg hs] at h; obtain ⟨cs, h1, h2⟩ := h; exact ⟨cs, h1, Is.kept hw hk s h2⟩

def IsAll (H : AH) : List Sh → List Value → Prop
  | [], [] => True
  | s :: ss, v :: vs => IsArg H s v ∧ IsAll H ss vs
  | _, _ => False

theorem IsAll.kept {H H' : AH} (hw : WF H) (hk : Keep [] H H') : ∀ {ss : List Sh} {vs : List Value}, IsAll H ss vs → IsAll H' ss vs
  | [], [], _ => trivial
  | s :: ss, v :: vs, h => ⟨h.1.kept hw hk, IsAll.kept hw hk h.2⟩
  | [], _ :: _, h => h.elim
  | _ :: _, [], h => h.elim

theorem IsAll.cons_inv {H : AH} {s : Sh} {ss : List Sh} {vs : List Value} (h : IsAll H (s :: ss) vs) : ∃ v l, vs = v :: l ∧ IsArg H s v ∧ IsAll H ss l := by
  cases vs with
  | nil => exact h.elim
  | cons v l => exact ⟨v, l, rfl, h.1, h.2⟩
theorem IsAll.nil_inv {H : AH} {vs : List Value} (h : IsAll H [] vs) : vs = [] := by
  cases vs with
  | nil => rfl
  | cons v l => exact h.elim

theorem IsArg.int_inv {H : AH} {k : IntKind} {v : Value} (h : IsArg H (.int k) v) : ∃ n, v = .int k n ∧ (Lit.int k n).wf = true := by
  obtain ⟨n, h1, h2⟩ := h
  exact ⟨n, by simpa using h1, h2⟩
theorem IsArg.bool_inv {H : AH} {v : Value} (h : IsArg H .bool v) : ∃ b, v = .bool b := by
  obtain ⟨n, h1⟩ := h
  exact ⟨n, by simpa using h1⟩
theorem IsArg.str_inv {H : AH} {v : Value} (h : IsArg H .str v) : ∃ s, v = .string s ∧ s.size ≤ maxLen := by
  obtain ⟨n, h1, h2⟩ := h
  exact ⟨n, by simpa using h1, h2⟩
theorem IsArg.slice_inv {H : AH} {e : Sh} {sz : Nat} {v : Value} (h : IsArg H (.slice e sz) v) : ∃ n cells, Rd H sz v n cells ∧ n ≤ 9223372036854775807 ∧ ∀ i, i < n → Is H e ((cells.drop (i * sz)).take sz) := by
  obtain ⟨u, n, cells, h1, h2, h3, h4⟩ := h
  have : v = u := by simpa using h1
  subst this
  exact ⟨n, cells, h2, by unfold maxLen at h3; omega, h4⟩

theorem okFs_single {f : Sh → TypeId → Bool} {tot off : Nat} {l : List Field} {s : Sh} (hs : s.single = true) : okFs P f tot l off s = false := by
  cases s <;> cases l <;> simp [Sh.single, okFs] at hs ⊢

theorem okWide_single {n : Nat} {s : Sh} {t : TypeId} {r : Reach} {b : Nat} {v : Value} (hs : s.single = true) (ho : okSh P n s t = true) (h : Value.okWide P w r b t v) : v.cells.toList = [v] := by
  cases v with
  | agg cs =>
    exfalso
    cases n with
    | zero => cases ho
    | succ n =>
      unfold okSh at ho
      split at ho
      · rename_i hu; simp [Value.okWide, hu, Cell.okWide, Cell.ok] at h
      · rename_i hu; simp [Value.okWide, hu, Cell.okWide, Cell.ok] at h
      · rename_i hu; simp [Value.okWide, hu, Cell.okWide, Cell.ok] at h
      · rename_i hu; simp [Value.okWide, hu, Cell.okWide, Cell.ok] at h
      · rw [okFs_single hs] at ho; cases ho
      · rw [okFs_single hs] at ho; cases ho
      · cases ho
  | _ => rfl

theorem okWide_agg {n : Nat} {s : Sh} {t : TypeId} {r : Reach} {b : Nat} {v : Value} (hs : s.single = false) (ho : okSh P n s t = true) (h : Value.okWide P w r b t v) : ∃ cs, v = .agg cs := by
  cases n with
  | zero => cases ho
  | succ n =>
    unfold okSh at ho
    split at ho
    · cases hs
    · cases hs
    · cases hs
    · cases hs
    · rename_i fs _ hu
      cases v with
      | agg cs => exact ⟨cs, rfl⟩
      | _ => exfalso; simp [Value.okWide, hu, Cell.okWide, Cell.ok] at h
    · rename_i len e _ hu
      cases v with
      | agg cs => exact ⟨cs, rfl⟩
      | _ => exfalso; simp [Value.okWide, hu, Cell.okWide, Cell.ok] at h
    · cases ho

/-- What opening arguments leaves. -/
def OpenedA (P : Program) (B0 : Nat) (w : World) (ρ : Rho) (H : AH) (vs : List Value) (K : AH → List Value → Prop) : Prop :=
  ∃ ρ' H' avs, Sim P B0 ρ' H' w ∧ RO H' ∧ ρ.le ρ' ∧ Keep [] H H' ∧ VRs ρ' avs vs ∧ K H' avs

theorem open_args (n : Nat) (b : Nat) : ∀ (ss : List Sh) (ts : List TypeId) (vs : List Value) (ds : List (DataW T)) (p : List MemPlace), okArgs P n ss ts = true → DataW.TrodAll enc P w 0 (fun _ => true) true ts vs ds p →
    (∀ (j : Nat) t v, ts[j]? = some t → vs[j]? = some v → Value.okWide P w .any b t v) → ∀ (ρ : Rho) (H : AH), Sim P B0 ρ H w → RO H → OpenedA P B0 w ρ H vs fun H' avs => IsAll H' ss avs
  | [], [], vs, ds, p, _, h, _, ρ, H, hs, hro => by
    cases vs <;> cases ds <;> simp [DataW.TrodAll] at h
    exact ⟨ρ, H, [], hs, hro, Rho.le_refl _, .refl, .nil, trivial⟩
  | s :: ss, t :: ts, vs, ds, p, ho, h, hval, ρ, H, hs, hro => by
    obtain ⟨v, vs', d, ds', p', q', rfl, rfl, rfl, h1, h2⟩ := trodAll_cons h
    simp only [okArgs, Bool.and_eq_true] at ho
    obtain ⟨ho2, ho3⟩ := ho
    obtain ⟨fuel, hf⟩ := h1
    cases hsg : s.single with
    | true =>
      rw [okWide_single hsg ho2 (hval 0 t v rfl rfl)] at hf
      obtain ⟨ρ1, H1, avs, s1, s2, s3, s4, s5, s6, s7⟩ := open_sh n s t ho2 fuel [v] _ hf ρ H hs hro
      obtain ⟨ρ2, H2, avs2, t1, t2, t3, t4, t5, t7⟩ := open_args n b ss ts vs' ds' q' ho3 h2 (fun j t v hj hv => hval (j + 1) t v hj hv) ρ1 H1 s1 s2
      have l1 := s5.length
      match avs, l1, s5, s6, s7 with
      | [a], _, s5, s6, s7 =>
        exact ⟨ρ2, H2, a :: avs2, t1, t2, Rho.le_trans s3 t3, s4.trans' t4, (s5.mono t3).append t5, IsArg.kept s1.wf t4 (by unfold IsArg; rw [if_pos hsg]; exact s7), t7⟩
    | false =>
      obtain ⟨cs, rfl⟩ := okWide_agg hsg ho2 (hval 0 t v rfl rfl)
      obtain ⟨ρ1, H1, avs, s1, s2, s3, s4, s5, s6, s7⟩ := open_sh n s t ho2 fuel cs.toList _ hf ρ H hs hro
      obtain ⟨ρ2, H2, avs2, t1, t2, t3, t4, t5, t7⟩ := open_args n b ss ts vs' ds' q' ho3 h2 (fun j t v hj hv => hval (j + 1) t v hj hv) ρ1 H1 s1 s2
      have hagg : VR ρ1 (.agg avs.toArray) (.agg cs) := by simpa using VR.mk_agg s5 s6
      exact ⟨ρ2, H2, .agg avs.toArray :: avs2, t1, t2, Rho.le_trans s3 t3, s4.trans' t4, .cons (hagg.mono t3) t5, IsArg.kept s1.wf t4 (by unfold IsArg; rw [if_neg (by simp [hsg])]; exact ⟨_, rfl, by simpa using s7⟩), t7⟩
  | [], _ :: _, _, _, _, ho, _, _, _, _, _, _ => by cases ho
  | _ :: _, [], _, _, _, ho, _, _, _, _, _, _ => by cases ho

/-- The walk of a statement's function: of arguments of these shapes it tells true. -/
theorem walk_all {f : FuncId} {ss : List Sh} {ts : List TypeId} {args : Array Value} {ds : List (DataW T)} {p : List MemPlace} {n b : Nat} {Q : AH → AH → Prop} (hg : P.globals.size ≤ w.heap.size) (ho : okArgs P n ss ts = true) (hA : DataW.TrodAll enc P w 0 (fun _ => true) true ts args.toList ds p)
    (hval : ∀ (j : Nat) t v, ts[j]? = some t → args.toList[j]? = some v → Value.okWide P w .any b t v) (hlaw : ∀ (avs : List Value) (H : AH), IsAll H ss avs → AFn P f avs H fun v H' => v = .bool true ∧ Q H H') :
    Calls P f args w fun e w' => e = .returned (.bool true) ∧ Below w.heap.size w w' := by
  obtain ⟨ρ, H, avs, s1, s2, s3, s4, s5, s7⟩ := open_args (B0 := w.heap.size) n b ss ts args.toList ds p ho hA hval _ _ (Sim.start P w hg) (fun b B h => by simp [startH] at h)
  exact AFn.tells (hlaw avs H s7) s1 s5

theorem stays_all (hl : laidOutB P = true) {W W' : World} (hb : Below W.heap.size W W') {sp : Nat → Bool} : ∀ (ts : List TypeId) (vs : List Value) (ds : List (DataW T)) (p : List MemPlace), (ts.all fun t => P.readableRec t && decide (t < P.types.size)) = true →
    DataW.TrodAll enc P W 0 (fun _ => true) true ts vs ds p → (∀ x ∈ p, x.block < W.heap.size) → (∀ x ∈ p, sp x.block = true) → DataW.TrodAll enc P W' 0 sp true ts vs ds p
  | [], vs, ds, p, _, h, _, _ => by
    cases vs <;> cases ds <;> simp [DataW.TrodAll] at h
    subst h
    exact rfl
  | t :: ts, vs, ds, p, hr, h, hlt, hsp => by
    obtain ⟨v, vs', d, ds', p', q', rfl, rfl, rfl, h1, h2⟩ := trodAll_cons h
    simp only [List.all_cons, Bool.and_eq_true, decide_eq_true_eq] at hr
    obtain ⟨⟨hr1, hr2⟩, hr3⟩ := hr
    refine ⟨p', q', WideElems.Trod_stays hl hr1 hr2 h1 (fun x hx => hb.same (hlt x (List.mem_append_left _ hx))) (fun x hx => hsp x (List.mem_append_left _ hx)), ?_, rfl⟩
    exact stays_all hl hb ts vs' ds' q' (by simpa using hr3) h2 (fun x hx => hlt x (List.mem_append_right _ hx)) (fun x hx => hsp x (List.mem_append_right _ hx))
end
end Go.Abs
