/-
  THE ABSTRACT LAYER (2): how an abstract state stands for a world of the model.
-/
import Derived.Test.YtjcncbejnplakaaA1
import Derived.Below
namespace Go.Abs
open Go Go.RowKit

/-- Where an abstract block lies: the model's block, the place of its first cell, how many cells from there on are its own, the cells of an element. -/
structure Emb where
  blk : Nat
  base : Nat
  fin : Nat
  sz : Nat

abbrev Rho := Nat → Option Emb

/-- What an abstract value stands for. -/
inductive VR (ρ : Rho) : Value → Value → Prop
  | bool (b : Bool) : VR ρ (.bool b) (.bool b)
  | int (k : IntKind) (n : Int) : VR ρ (.int k n) (.int k n)
  | string (s : ByteArray) : VR ρ (.string s) (.string s)
  | nilPtr : VR ρ (.pointer none) (.pointer none)
  | ptr (b off : Nat) (e : Emb) (h : ρ b = some e) : VR ρ (.pointer (some ⟨b, off, none⟩)) (.pointer (some ⟨e.blk, e.base + off, none⟩))
  | nilSlice : VR ρ (.slice none 0 0) (.slice none 0 0)
  | slice (b off : Nat) (e : Emb) (len cap : Nat) (h : ρ b = some e) (hl : len ≤ cap) : VR ρ (.slice (some ⟨b, off, none⟩) len cap) (.slice (some ⟨e.blk, e.base + off, none⟩) len cap)
  | opn (b off : Nat) (e : Emb) (len cap cap' : Nat) (h : ρ b = some e) (hl : len ≤ cap) (hc : cap ≤ cap') (hf : off + cap' * e.sz = e.fin) :
      VR ρ (.slice (some ⟨b, off, some e.sz⟩) len cap) (.slice (some ⟨e.blk, e.base + off, none⟩) len cap')
  | zslice (a a' : Addr) : VR ρ (.slice (some a) 0 0) (.slice (some a') 0 0)
  | nilFunc : VR ρ .nilFunc .nilFunc
  | func (fn : Fn) (p p' q q' : Array Value) (hfn : ∀ l, fn ≠ .yield l) (hp : p.size = p'.size) (hq : q.size = q'.size)
      (h1 : ∀ i (h : i < p.size) (h' : i < p'.size), VR ρ p[i] p'[i]) (h2 : ∀ i (h : i < q.size) (h' : i < q'.size), VR ρ q[i] q'[i]) : VR ρ (.func fn p q) (.func fn p' q')
  | yield (l : Nat) (e : Emb) (h : ρ l = some e) : VR ρ (.func (.yield l) #[] #[]) (.func (.yield e.blk) #[] #[])
  | iface (t : TypeId) (v v' : Value) (h : VR ρ v v') : VR ρ (.iface t v) (.iface t v')
  | nilIface : VR ρ .nilIface .nilIface
  | agg (p p' : Array Value) (hp : p.size = p'.size) (h1 : ∀ i (h : i < p.size) (h' : i < p'.size), VR ρ p[i] p'[i]) (ho : ∀ i (h : i < p.size), one p[i] = true) : VR ρ (.agg p) (.agg p')
  | tuple (p p' : Array Value) (hp : p.size = p'.size) (h1 : ∀ i (h : i < p.size) (h' : i < p'.size), VR ρ p[i] p'[i]) : VR ρ (.tuple p) (.tuple p')
  | nilMap : VR ρ (.map none) (.map none)

def Rho.le (ρ ρ' : Rho) : Prop := ∀ b e, ρ b = some e → ρ' b = some e
theorem Rho.le_refl (ρ : Rho) : ρ.le ρ := fun _ _ h => h
theorem Rho.le_trans {a b c : Rho} (h : a.le b) (k : b.le c) : a.le c := fun x e hx => k x e (h x e hx)

theorem VR.mono {ρ ρ' : Rho} (hle : ρ.le ρ') {v v' : Value} (h : VR ρ v v') : VR ρ' v v' := by
  induction h with
  | bool b => exact .bool b
  | int k n => exact .int k n
  | string s => exact .string s
  | nilPtr => exact .nilPtr
  | ptr b off e h => exact .ptr b off e (hle _ _ h)
  | nilSlice => exact .nilSlice
  | slice b off e len cap h hl => exact .slice b off e len cap (hle _ _ h) hl
  | opn b off e len cap cap' h hl hc hf => exact .opn b off e len cap cap' (hle _ _ h) hl hc hf
  | zslice a a' => exact .zslice a a'
  | nilFunc => exact .nilFunc
  | func fn p p' q q' hfn hp hq _ _ ih1 ih2 => exact .func fn p p' q q' hfn hp hq ih1 ih2
  | yield l e h => exact .yield l e (hle _ _ h)
  | iface t v v' _ ih => exact .iface t v v' ih
  | nilIface => exact .nilIface
  | agg p p' hp _ ho ih => exact .agg p p' hp ih ho
  | tuple p p' hp _ ih => exact .tuple p p' hp ih
  | nilMap => exact .nilMap

theorem VR.one {ρ : Rho} {v v' : Value} (h : VR ρ v v') : one v' = one v := by
  cases h <;> rfl

theorem oneCell'_eq (v : Value) : v.oneCell' = one v := by cases v <;> rfl

theorem VR.of_plain {ρ : Rho} {v : Value} (h : plain v = true) : VR ρ v v := by
  cases v with
  | bool b => exact .bool b
  | int k n => exact .int k n
  | string s => exact .string s
  | pointer a => cases a with
    | none => exact .nilPtr
    | some a => simp [plain] at h
  | slice a l c =>
    cases a with
    | some a => simp [plain] at h
    | none =>
      cases l <;> cases c <;> simp [plain] at h
      exact .nilSlice
  | map r => cases r with
    | none => exact .nilMap
    | some r => simp [plain] at h
  | nilFunc => exact .nilFunc
  | nilIface => exact .nilIface
  | _ => simp [plain] at h

theorem one_of_plain {v : Value} (h : plain v = true) : one v = true := by
  cases v <;> simp_all [plain, one]

theorem VR.of_plainC {ρ : Rho} {v : Value} (h : plainC v = true) : VR ρ v v := by
  cases v with
  | agg cs =>
    simp only [plainC, List.all_eq_true] at h
    refine .agg cs cs rfl (fun i h1 _ => VR.of_plain (h _ ?_)) (fun i h1 => one_of_plain (h _ ?_)) <;> simp
  | tuple cs =>
    simp only [plainC, List.all_eq_true] at h
    refine .tuple cs cs rfl (fun i h1 _ => VR.of_plain (h _ ?_)); simp
  | _ => exact VR.of_plain h

/-- Lists of values. -/
inductive VRs (ρ : Rho) : List Value → List Value → Prop
  | nil : VRs ρ [] []
  | cons {v v' : Value} {vs vs' : List Value} (h : VR ρ v v') (t : VRs ρ vs vs') : VRs ρ (v :: vs) (v' :: vs')

theorem VRs.mono {ρ ρ' : Rho} (hle : ρ.le ρ') {vs vs' : List Value} (h : VRs ρ vs vs') : VRs ρ' vs vs' := by
  induction h with
  | nil => exact .nil
  | cons h _ ih => exact .cons (h.mono hle) ih

theorem VRs.length {ρ : Rho} {vs vs' : List Value} (h : VRs ρ vs vs') : vs'.length = vs.length := by
  induction h with
  | nil => rfl
  | cons _ _ ih => simp [ih]

theorem VRs.get {ρ : Rho} {vs vs' : List Value} (h : VRs ρ vs vs') : ∀ (i : Nat) (v : Value), vs[i]? = some v → ∃ v', vs'[i]? = some v' ∧ VR ρ v v' := by
  induction h with
  | nil => intro i v hv; simp at hv
  | cons h _ ih =>
    intro i v hv
    cases i with
    | zero => simp at hv; subst hv; exact ⟨_, rfl, h⟩
    | succ i => simpa using ih i v (by simpa using hv)

theorem VRs.of_get {ρ : Rho} : ∀ {vs vs' : List Value}, vs.length = vs'.length → (∀ i (h : i < vs.length) (h' : i < vs'.length), VR ρ vs[i] vs'[i]) → VRs ρ vs vs'
  | [], [], _, _ => .nil
  | [], _ :: _, h, _ => by simp at h
  | _ :: _, [], h, _ => by simp at h
  | v :: vs, v' :: vs', h, hg => .cons (hg 0 (by simp) (by simp)) (VRs.of_get (by simpa using h) fun i h1 h2 => hg (i + 1) (by simpa using h1) (by simpa using h2))

theorem VRs.toGet {ρ : Rho} {vs vs' : List Value} (h : VRs ρ vs vs') : ∀ i (h1 : i < vs.length) (h2 : i < vs'.length), VR ρ vs[i] vs'[i] := by
  intro i h1 h2
  obtain ⟨v', hv', hr⟩ := h.get i vs[i] (by simp)
  rw [List.getElem?_eq_getElem h2] at hv'
  cases hv'
  exact hr

theorem VRs.append {ρ : Rho} {a a' b b' : List Value} (h : VRs ρ a a') (k : VRs ρ b b') : VRs ρ (a ++ b) (a' ++ b') := by
  induction h with
  | nil => exact k
  | cons h _ ih => exact .cons h ih

theorem VRs.take {ρ : Rho} {a a' : List Value} (h : VRs ρ a a') : ∀ n, VRs ρ (a.take n) (a'.take n) := by
  induction h with
  | nil => intro n; simp; exact .nil
  | cons h _ ih => intro n; cases n with
    | zero => exact .nil
    | succ n => exact .cons h (ih n)

theorem VRs.drop {ρ : Rho} {a a' : List Value} (h : VRs ρ a a') : ∀ n, VRs ρ (a.drop n) (a'.drop n) := by
  induction h with
  | nil => intro n; simp; exact .nil
  | cons h t ih => intro n; cases n with
    | zero => exact .cons h t
    | succ n => exact ih n

theorem VRs.of_plain {ρ : Rho} : ∀ {vs : List Value}, vs.all plain = true → VRs ρ vs vs
  | [], _ => .nil
  | v :: vs, h => by
    simp only [List.all_cons, Bool.and_eq_true] at h
    exact .cons (VR.of_plain h.1) (VRs.of_plain h.2)

/-- All of one cell. -/
def ones (vs : List Value) : Prop := ∀ v ∈ vs, one v = true

theorem VRs.ones {ρ : Rho} {vs vs' : List Value} (h : VRs ρ vs vs') (ho : ones vs) : Abs.ones vs' := by
  induction h with
  | nil => exact ho
  | cons h _ ih =>
    intro x hx
    rcases List.mem_cons.1 hx with rfl | hx
    · rw [h.one]; exact ho _ (by simp)
    · exact ih (fun y hy => ho y (by simp [hy])) x hx

theorem VR.agg_list {ρ : Rho} {p : Array Value} {v' : Value} (h : VR ρ (.agg p) v') : ∃ p' : Array Value, v' = .agg p' ∧ VRs ρ p.toList p'.toList ∧ ones p.toList := by
  cases h with
  | agg _ p' hp h1 ho =>
    refine ⟨p', rfl, VRs.of_get (by simpa using hp) (fun i h2 h3 => by simpa using h1 i (by simpa using h2) (by simpa using h3)), ?_⟩
    intro v hv
    obtain ⟨i, hi, rfl⟩ := List.getElem_of_mem hv
    simpa using ho i (by simpa using hi)

theorem VR.mk_agg {ρ : Rho} {l l' : List Value} (h : VRs ρ l l') (ho : ones l) : VR ρ (.agg l.toArray) (.agg l'.toArray) := by
  refine .agg _ _ (by simpa using h.length.symm) (fun i h1 h2 => ?_) (fun i h1 => ho _ ?_)
  · simpa using h.toGet i (by simpa using h1) (by simpa using h2)
  · simp

/-- What holds of each slot. -/
def EnvR (n : Nat) (ρ : Rho) (env : Env) (tmps : Array Value) : Prop :=
  tmps.size = n ∧ ∀ t v, env t = some v → ∃ v', tmps[t]? = some v' ∧ VR ρ v v'

theorem EnvR.mono {n : Nat} {ρ ρ' : Rho} (hle : ρ.le ρ') {env : Env} {tmps : Array Value} (h : EnvR n ρ env tmps) : EnvR n ρ' env tmps :=
  ⟨h.1, fun t v hv => let ⟨v', h1, h2⟩ := h.2 t v hv; ⟨v', h1, h2.mono hle⟩⟩

theorem EnvR.put {n : Nat} {ρ : Rho} {env : Env} {a : Act} {dst : Option Nat} {v v' : Value} (h : EnvR n ρ env a.tmps) (hd : ∀ d, dst = some d → d < n) (hv : VR ρ v v') :
    EnvR n ρ (put env dst v) (a.put dst v').tmps := by
  cases dst with
  | none => exact h
  | some d =>
    have hdn := hd d rfl
    refine ⟨by simpa [Act.put] using h.1, fun t u hu => ?_⟩
    simp only [Abs.put, upd] at hu
    by_cases ht : t = d
    · subst ht
      simp at hu
      subst hu
      exact ⟨v', by simp [Act.put, h.1, hdn], hv⟩
    · simp only [ht, if_false] at hu
      obtain ⟨u', h1, h2⟩ := h.2 t u hu
      exact ⟨u', by simp [Act.put, Array.getElem?_setIfInBounds_ne (Ne.symm ht), h1], h2⟩

def exitOf : AExit → Option Code
  | .normal => none
  | .exit id => some (.exit id)
  | .ret => some .ret

end Go.Abs
