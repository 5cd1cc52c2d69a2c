/-
  PLAIN LAW: which instances may be.
-/
import Derived.Test.YtejifalflkbekaaDoorRen
set_option linter.unusedSimpArgs false
set_option linter.unusedVariables false
namespace Go.Abs
open Go
noncomputable def tr (P : Prop) : Bool:=@decide P (Classical.propDecidable P)
theorem tr_true {P : Prop} (h : P) : tr P = true:=by simp [tr,h]
theorem tr_false {P : Prop} (h : ¬ P) : tr P = false:=by simp [tr,h]
theorem tr_iff {P : Prop} : tr P = true ↔ P:=by simp [tr]
theorem tr_eq {P : Prop} {b : Bool} (h : b = true ↔ P) : tr P = b:=by
 cases b
 ·exact tr_false fun hp => by simpa using h.2 hp
 ·exact tr_true (h.1 rfl)
def Mag (lo n : Int) : Prop:=lo ≤ n ∧ n ≤ 2147483648
instance (lo n : Int) : Decidable (Mag lo n):=by unfold Mag; infer_instance
def Rises (last n : Int) : List Int → Prop
 | [] => True
 | x :: l => last < x ∧ x < n ∧ Rises x n l
structure InstD.Lean (x : InstD) : Prop where
 knap : x.kind = 0 ∨ (x.cap = 0 ∧ x.items.length = 0)
 sq : x.kind = 1 ∨ x.kind = 2 ∨ x.cost.length = 0
 cov : x.kind = 3 ∨ (x.size = 0 ∧ x.sets.length = 0)
structure InstD.Few (x : InstD) : Prop where
 sq : x.kind = 1 ∨ x.kind = 2 → 1 ≤ x.cost.length ∧ x.cost.length ≤ 64
 items : x.items.length ≤ 4096
 sets : x.sets.length ≤ 4096
 size0 : 0 ≤ x.size
 size : x.size ≤ 4096
structure InstD.Shaped (x : InstD) : Prop where
 rows : ∀ k (h : k < x.cost.length),x.cost[k].length = x.cost.length
 sets : ∀ k (h : k < x.sets.length),Rises (-1) x.size x.sets[k].elems
structure InstD.Small (x : InstD) : Prop where
 cap : Mag 0 x.cap
 items : ∀ k (h : k < x.items.length),Mag 0 x.items[k].1 ∧ Mag 0 x.items[k].2
 rows : ∀ k (h : k < x.cost.length),∀ j (h : j < x.cost[k].length),Mag (-2147483648) x.cost[k][j]
 sets : ∀ k (h : k < x.sets.length),Mag 0 x.sets[k].cost
def InstD.Bare (x : InstD) : Prop:=x.kind = 2 → ∀ k (h : k < x.cost.length),x.cost[k].getD k 0 = 0
noncomputable def InstD.check (x : InstD) : Int :=
 if tr (0 ≤ x.kind ∧ x.kind < 4) then
  if tr x.Lean then
   if tr x.Few then
    if tr x.Shaped then
     if tr x.Small then
      if tr x.Bare then 0 else 4
     else 22
    else 4
   else 22
  else 4
 else 25
structure InstD.Ok (x : InstD) : Prop where
 kind0 : 0 ≤ x.kind
 kind4 : x.kind < 4
 lean : x.Lean
 few : x.Few
 shaped : x.Shaped
 small : x.Small
 bare : x.Bare
theorem InstD.check_ok {x : InstD} : x.check = 0 ↔ x.Ok:=by
 unfold InstD.check
 constructor
 ·intro h
  repeat' split at h
  all_goals first | (exact absurd h (by decide)) | skip
  rename_i h1 h2 h3 h4 h5 h6
  rw [tr_iff] at *
  exact ⟨h1.1,h1.2,h2,h3,h4,h5,h6⟩
 ·intro h
  rw [tr_true ⟨h.kind0,h.kind4⟩,tr_true h.lean,tr_true h.few,tr_true h.shaped,tr_true h.small,tr_true h.bare]
  rfl
theorem rises_get {last n : Int} : ∀ {l : List Int},Rises last n l ↔ ∀ k (h : k < l.length),(if k = 0 then last else l.getD (k - 1) 0) < l[k] ∧ l[k] < n
 | [] => by simp [Rises]
 | x :: l => by
  rw [Rises,rises_get (l:=l)]
  constructor
  ·rintro ⟨h1,h2,h3⟩ k hk
   cases k with
   | zero => simpa using ⟨h1,h2⟩
   | succ k =>
    have:=h3 k (by simpa using hk)
    cases k with
    | zero => simpa using this
    | succ k => simpa using this
  ·intro h
   have h0:=h 0 (by simp)
   refine ⟨by simpa using h0.1,by simpa using h0.2,fun k hk => ?_⟩
   have:=h (k + 1) (by simpa using hk)
   cases k with
   | zero => simpa using this
   | succ k => simpa using this
end Go.Abs
