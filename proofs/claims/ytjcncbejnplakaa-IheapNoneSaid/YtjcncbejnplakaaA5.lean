/-
  THE ABSTRACT LAYER (5): each small operation is what the model's does: those that touch no memory.
-/
import Derived.Test.YtjcncbejnplakaaA4
import Derived.Laws.Entries
set_option linter.unusedSimpArgs false
set_option linter.unusedVariables false
namespace Go.Abs
open Go Go.RowKit

theorem aval_sound {P : Program} {B0 n : Nat} {ρ : Rho} {H : AH} {w : World} {env : Env} {a : Act} (hs : Sim P B0 ρ H w) (he : EnvR n ρ env a.tmps) {x : Operand} (hk : okOpd P x = true) {v : Value}
    (hv : aval env x = some v) : VR ρ v (a.eval x) := by
  cases x with
  | tmp t =>
    obtain ⟨v', h1, h2⟩ := he.2 t v hv
    simpa [Act.eval, h1] using h2
  | const u => cases hv; exact VR.of_plainC hk
  | global g =>
    cases hv
    obtain ⟨e, h1, h2, h3⟩ := hs.glob g (by simpa [okOpd] using hk)
    have := VR.ptr (ρ := ρ) g 0 e h1
    rw [h2, h3] at this
    exact this
  | func f => cases hv; exact .func _ _ _ _ _ (fun l h => by cases h) rfl rfl (fun i h => by simp at h) (fun i h => by simp at h)

theorem avals_sound {P : Program} {B0 n : Nat} {ρ : Rho} {H : AH} {w : World} {env : Env} {a : Act} (hs : Sim P B0 ρ H w) (he : EnvR n ρ env a.tmps) :
    ∀ {xs : List Operand}, xs.all (okOpd P) = true → ∀ {vs : List Value}, avals env xs = some vs → VRs ρ vs (xs.map a.eval)
  | [], _, vs, h => by simp [avals] at h; subst h; exact .nil
  | x :: xs, hk, vs, h => by
    simp only [List.all_cons, Bool.and_eq_true] at hk
    simp only [avals] at h
    split at h
    · rename_i v us h1 h2
      cases h
      exact .cons (aval_sound hs he hk.1 h1) (avals_sound hs he hk.2 h2)
    · cases h

/-- The model's operation ends as the abstract one does. -/
def Fine (P : Program) (B0 : Nat) (ρ : Rho) (w : World) (r : Result Next) (v : Value) (H' : AH) : Prop :=
  ∃ v' w' ρ', (r = .ok (.value v') w' ∨ (r = .ok .skip w' ∧ v' = undef)) ∧ Stp P B0 ρ w ρ' H' w' ∧ VR ρ' v v'

theorem Fine.pure {P : Program} {B0 : Nat} {ρ : Rho} {H : AH} {w : World} {r : Result Next} {v v' : Value} (hs : Sim P B0 ρ H w) (hr : r = .ok (.value v') w) (hv : VR ρ v v') : Fine P B0 ρ w r v H :=
  ⟨v', w, ρ, .inl hr, Stp.refl hs, hv⟩

/-! ### numbers, bools, strings -/

theorem abin_sound {P : Program} {w : World} {op : BinOp} {t : TypeId} {x y r : Value} (h : abin op x y = some r) :
    (binOp op t x y).run P w = .ok r w ∧ plain r = true := by
  unfold abin at h
  split at h
  · rename_i k a k' b
    cases op <;> simp only at h
    case shl => split at h <;> cases h; simp [binOp, Op.shift, *, plain]
    case shr => split at h <;> cases h; simp [binOp, Op.shift, *, plain]
    all_goals
      split at h
      · cases h
      · rename_i hk
        have hk' : k = k' := by simpa using hk
        subst hk'
        first
          | (cases h; simp [binOp, Op.intArith, Op.intBits, Op.intCmp, plain]; done)
          | (split at h <;> cases h; simp [binOp, Op.intDiv, *, plain])
  · rename_i a b
    cases op <;> simp only at h
    all_goals
      first
        | (cases h; simp [binOp, Op.stringOp, plain]; done)
        | cases h
        | (split at h
           · cases h
           · rename_i hl; cases h
             simp [binOp, Op.stringOp, plain]
             omega)
  · cases h

theorem aun_sound {P : Program} {w : World} {op : UnOp} {x r : Value} (h : aun op x = some r) : (Op.unary op x).run P w = .ok r w ∧ plain r = true := by
  unfold aun at h
  split at h
  · cases op <;> simp only at h <;> cases h <;> simp [Op.unary, Op.intArith, Op.intBits, plain]
  · cases op <;> simp only at h <;> cases h <;> simp [Op.unary, plain]
  · cases h

/-- Scalars stand for themselves. -/
theorem VR.int_inv {ρ : Rho} {k : IntKind} {m : Int} {v' : Value} (h : VR ρ (.int k m) v') : v' = .int k m := by cases h; rfl
theorem VR.bool_inv {ρ : Rho} {b : Bool} {v' : Value} (h : VR ρ (.bool b) v') : v' = .bool b := by cases h; rfl
theorem VR.string_inv {ρ : Rho} {s : ByteArray} {v' : Value} (h : VR ρ (.string s) v') : v' = .string s := by cases h; rfl

theorem abin_args {op : BinOp} {x y r : Value} (h : abin op x y = some r) : (∃ k a k' b, x = .int k a ∧ y = .int k' b) ∨ (∃ a b, x = .string a ∧ y = .string b) := by
  unfold abin at h
  split at h
  · exact .inl ⟨_, _, _, _, rfl, rfl⟩
  · exact .inr ⟨_, _, rfl, rfl⟩
  · cases h

theorem abin_rel {ρ : Rho} {P : Program} {w : World} {op : BinOp} {t : TypeId} {x y x' y' r : Value} (h : abin op x y = some r) (hx : VR ρ x x') (hy : VR ρ y y') :
    (binOp op t x' y').run P w = .ok r w ∧ VR ρ r r := by
  have hp := abin_sound (P := P) (w := w) (t := t) h
  have : x' = x ∧ y' = y := by
    rcases abin_args h with ⟨k, a, k', b, rfl, rfl⟩ | ⟨a, b, rfl, rfl⟩
    · exact ⟨hx.int_inv, hy.int_inv⟩
    · exact ⟨hx.string_inv, hy.string_inv⟩
  rw [this.1, this.2]
  exact ⟨hp.1, VR.of_plain hp.2⟩

theorem eqGuard_scalar {P : Program} {w : World} {op : BinOp} {t : TypeId} {ox oy : Operand} {x y : Value}
    (h : (∃ k a k' b, x = .int k a ∧ y = .int k' b) ∨ (∃ a b, x = .string a ∧ y = .string b)) : (eqGuard op t ox oy x y).run P w = .ok () w := by
  rcases h with ⟨k, a, k', b, rfl, rfl⟩ | ⟨a, b, rfl, rfl⟩ <;> simp [eqGuard] <;> split <;> rfl

/-! ### comparing by a plan -/

theorem eq_none_of_isNone {α : Type} {o : Option α} : o.isNone = true ↔ o = none := by cases o <;> simp

theorem part_rel {P : Program} {ρ : Rho} {w : World} {t : TypeId} {cs cs' : Array Value} {off : Nat} {n : Option Nat} {v : Value}
    (hr : VRs ρ cs.toList cs'.toList) (ho : ones cs.toList) (hp : partA cs.toList off n = some v)
    (hn : n = if isAggB P t then (sizeB P t) else none) (hs : isAggB P t = true → (sizeB P t).isSome) (ht : (P.underlying t).isSome) :
    ∃ v', (part t cs' off).run P w = .ok v' w ∧ VR ρ v v' := by
  obtain ⟨d, hd⟩ := Option.isSome_iff_exists.1 ht
  by_cases hag : isAggB P t = true
  · rw [hag] at hn
    obtain ⟨m, hm⟩ := Option.isSome_iff_exists.1 (hs hag)
    simp only [if_true, hm] at hn
    subst hn
    simp only [partA, Option.some.injEq] at hp
    subst hp
    unfold sizeB at hm
    cases hi : P.info? t with
    | none => simp [hi] at hm
    | some i =>
      simp [hi] at hm
      refine ⟨.agg (cs'.extract off (off + m)), ?_, ?_⟩
      · unfold isAggB at hag
        rw [hd] at hag
        cases d <;> simp at hag <;> simp [part, isAgg, run_underlying hd, sizeOf, typeInfo, hi, hm]
      · have := VR.mk_agg ((hr.drop off).take m) (fun u hu => ho u (List.mem_of_mem_drop (List.mem_of_mem_take hu)))
        have he : cs'.extract off (off + m) = ((cs'.toList.drop off).take m).toArray := by
          apply Array.ext'
          simp
        rw [he]
        exact this
  · simp only [hag] at hn
    subst hn
    simp only [partA] at hp
    obtain ⟨v', h1, h2⟩ := hr.get off v hp
    refine ⟨v', ?_, h2⟩
    have h1' : cs'[off]? = some v' := by simpa using h1
    unfold isAggB at hag
    rw [hd] at hag
    cases d <;> simp at hag <;> simp [part, isAgg, run_underlying hd, h1']

theorem eqA_bool {x y : Value} {r : Bool} (h : eqA .bool x y = some r) : ∃ a b, x = .bool a ∧ y = .bool b ∧ r = (a == b) := by
  unfold eqA at h; split at h <;> first | contradiction | (cases h; exact ⟨_, _, rfl, rfl, rfl⟩)
theorem eqA_str {x y : Value} {r : Bool} (h : eqA .str x y = some r) : ∃ a b, x = .string a ∧ y = .string b ∧ r = (a == b) := by
  unfold eqA at h; split at h <;> first | contradiction | (cases h; exact ⟨_, _, rfl, rfl, rfl⟩)
theorem eqA_int {x y : Value} {r : Bool} (h : eqA .int x y = some r) : ∃ k a b, x = .int k a ∧ y = .int k b ∧ r = (a == b) := by
  unfold eqA at h
  split at h <;> first | contradiction | (split at h <;> first | contradiction | (rename_i hk; subst hk; cases h; exact ⟨_, _, _, rfl, rfl, rfl⟩))
theorem eqA_ptr {x y : Value} {r : Bool} (h : eqA .ptr x y = some r) : (∃ b, x = .pointer none ∧ y = .pointer b ∧ r = b.isNone) ∨ (∃ a, x = .pointer (some a) ∧ y = .pointer none ∧ r = false) := by
  unfold eqA at h; split at h <;> first | contradiction | (cases h; first | exact .inl ⟨_, rfl, rfl, rfl⟩ | exact .inr ⟨_, rfl, rfl, rfl⟩)
theorem eqA_slice {x y : Value} {r : Bool} (h : eqA .nilSlice x y = some r) : (∃ l c b m d, x = .slice none l c ∧ y = .slice b m d ∧ r = b.isNone) ∨ (∃ a l c m d, x = .slice (some a) l c ∧ y = .slice none m d ∧ r = false) := by
  unfold eqA at h; split at h <;> first | contradiction | (cases h; first | exact .inl ⟨_, _, _, _, _, rfl, rfl, rfl⟩ | exact .inr ⟨_, _, _, _, _, rfl, rfl, rfl⟩)
theorem eqA_map {x y : Value} {r : Bool} (h : eqA .nilMap x y = some r) : (∃ b, x = .map none ∧ y = .map b ∧ r = b.isNone) ∨ (∃ a, x = .map (some a) ∧ y = .map none ∧ r = false) := by
  unfold eqA at h; split at h <;> first | contradiction | (cases h; first | exact .inl ⟨_, rfl, rfl, rfl⟩ | exact .inr ⟨_, rfl, rfl, rfl⟩)
theorem eqA_func {x y : Value} {r : Bool} (h : eqA .nilFunc x y = some r) : (x = .nilFunc ∧ y = .nilFunc ∧ r = true) ∨ (∃ f p q, x = .nilFunc ∧ y = .func f p q ∧ r = false) ∨ (∃ f p q, x = .func f p q ∧ y = .nilFunc ∧ r = false) := by
  unfold eqA at h; split at h <;> first | contradiction | (cases h; first | exact .inl ⟨rfl, rfl, rfl⟩ | exact .inr (.inl ⟨_, _, _, rfl, rfl, rfl⟩) | exact .inr (.inr ⟨_, _, _, rfl, rfl, rfl⟩))
theorem eqA_iface {x y : Value} {r : Bool} (h : eqA .iface x y = some r) : (x = .nilIface ∧ y = .nilIface ∧ r = true) ∨ (∃ f p, x = .nilIface ∧ y = .iface f p ∧ r = false) ∨ (∃ f p, x = .iface f p ∧ y = .nilIface ∧ r = false) := by
  unfold eqA at h; split at h <;> first | contradiction | (cases h; first | exact .inl ⟨rfl, rfl, rfl⟩ | exact .inr (.inl ⟨_, _, rfl, rfl, rfl⟩) | exact .inr (.inr ⟨_, _, rfl, rfl, rfl⟩))
theorem eqA_node {ps : List (Nat × Option Nat × Plan)} {x y : Value} {r : Bool} (h : eqA (.node ps) x y = some r) : ∃ xs ys, x = .agg xs ∧ y = .agg ys ∧ eqAll ps xs.toList ys.toList = some r := by
  unfold eqA at h
  split at h <;> first | contradiction | (rename_i hp; cases hp; exact ⟨_, _, rfl, rfl, h⟩) | (cases h)

section
variable {P : Program} {t : TypeId} (w : World) (D : Nat)
theorem req_bool (hu : P.underlying t = some .bool) (a b : Bool) : (Op.equalIn (D + 1) t (.bool a) (.bool b)).run P w = .ok (a == b) w := by
  unfold Op.equalIn; rw [Sem.run_bind, run_underlying hu]; rfl
theorem req_str (hu : P.underlying t = some .string) (a b : ByteArray) : (Op.equalIn (D + 1) t (.string a) (.string b)).run P w = .ok (a == b) w := by
  unfold Op.equalIn; rw [Sem.run_bind, run_underlying hu]; rfl
theorem req_int {k' : IntKind} (hu : P.underlying t = some (.int k')) (k : IntKind) (a b : Int) : (Op.equalIn (D + 1) t (.int k a) (.int k b)).run P w = .ok (a == b) w := by
  unfold Op.equalIn; rw [Sem.run_bind, run_underlying hu, Result.andThen_ok]
  show (if k = k then (Pure.pure (a == b) : Sem Bool) else _).run P w = _
  rw [if_pos rfl]; rfl
theorem req_ptr1 {el : TypeId} (hu : P.underlying t = some (.pointer el)) (b : Option Addr) : (Op.equalIn (D + 1) t (.pointer none) (.pointer b)).run P w = .ok b.isNone w := by
  unfold Op.equalIn; rw [Sem.run_bind, run_underlying hu]; cases b <;> rfl
theorem req_ptr2 {el : TypeId} (hu : P.underlying t = some (.pointer el)) (a : Addr) : (Op.equalIn (D + 1) t (.pointer (some a)) (.pointer none)).run P w = .ok false w := by
  unfold Op.equalIn; rw [Sem.run_bind, run_underlying hu]; rfl
theorem req_sl1 {el : TypeId} (hu : P.underlying t = some (.slice el)) (l c : Nat) (b : Option Addr) (m d : Nat) : (Op.equalIn (D + 1) t (.slice none l c) (.slice b m d)).run P w = .ok b.isNone w := by
  unfold Op.equalIn; rw [Sem.run_bind, run_underlying hu]; cases b <;> rfl
theorem req_sl2 {el : TypeId} (hu : P.underlying t = some (.slice el)) (a : Addr) (l c m d : Nat) : (Op.equalIn (D + 1) t (.slice (some a) l c) (.slice none m d)).run P w = .ok false w := by
  unfold Op.equalIn; rw [Sem.run_bind, run_underlying hu]; rfl
theorem req_map1 {k el : TypeId} (hu : P.underlying t = some (.map k el)) (b : Option Nat) : (Op.equalIn (D + 1) t (.map none) (.map b)).run P w = .ok b.isNone w := by
  unfold Op.equalIn; rw [Sem.run_bind, run_underlying hu]; cases b <;> rfl
theorem req_fn1 {a b : Array TypeId} {c : Bool} (hu : P.underlying t = some (.func a b c)) : (Op.equalIn (D + 1) t .nilFunc .nilFunc).run P w = .ok true w := by
  unfold Op.equalIn; rw [Sem.run_bind, run_underlying hu]; rfl
theorem req_fn2 {a b : Array TypeId} {c : Bool} (hu : P.underlying t = some (.func a b c)) (f : Fn) (p q : Array Value) : (Op.equalIn (D + 1) t .nilFunc (.func f p q)).run P w = .ok false w := by
  unfold Op.equalIn; rw [Sem.run_bind, run_underlying hu]; rfl
theorem req_fn3 {a b : Array TypeId} {c : Bool} (hu : P.underlying t = some (.func a b c)) (f : Fn) (p q : Array Value) : (Op.equalIn (D + 1) t (.func f p q) .nilFunc).run P w = .ok false w := by
  unfold Op.equalIn; rw [Sem.run_bind, run_underlying hu]; rfl
theorem req_if1 {ms : Array (String × TypeId)} (hu : P.underlying t = some (.interface ms)) : (Op.equalIn (D + 1) t .nilIface .nilIface).run P w = .ok true w := by
  unfold Op.equalIn; rw [Sem.run_bind, run_underlying hu]; rfl
theorem req_if2 {ms : Array (String × TypeId)} (hu : P.underlying t = some (.interface ms)) (u : TypeId) (v : Value) : (Op.equalIn (D + 1) t .nilIface (.iface u v)).run P w = .ok false w := by
  unfold Op.equalIn; rw [Sem.run_bind, run_underlying hu]; rfl
theorem req_if3 {ms : Array (String × TypeId)} (hu : P.underlying t = some (.interface ms)) (u : TypeId) (v : Value) : (Op.equalIn (D + 1) t (.iface u v) .nilIface).run P w = .ok false w := by
  unfold Op.equalIn; rw [Sem.run_bind, run_underlying hu]; rfl
end

theorem eqA_sound {P : Program} {ρ : Rho} {w : World} : ∀ (d : Nat) (t : TypeId) (pl : Plan) (D : Nat), planOf P d t = some pl → d ≤ D → ∀ {x y x' y' : Value} {r : Bool}, VR ρ x x' → VR ρ y y' → eqA pl x y = some r →
    (Op.equalIn D t x' y').run P w = .ok r w := by
  intro d
  induction d with
  | zero => intro t pl D h; simp [planOf] at h
  | succ d ih =>
    intro t pl D h hD x y x' y' r hx hy he
    obtain ⟨D, rfl⟩ : ∃ m, D = m + 1 := ⟨D - 1, by omega⟩
    simp only [planOf] at h
    cases hu : P.underlying t with
    | none => simp [hu] at h
    | some desc =>
      rw [hu] at h
      cases desc <;> simp only at h
      case bool =>
        cases h
        obtain ⟨a, b, rfl, rfl, rfl⟩ := eqA_bool he
        rw [hx.bool_inv, hy.bool_inv]
        exact req_bool w D hu a b
      case int k =>
        cases h
        obtain ⟨k, a, b, rfl, rfl, rfl⟩ := eqA_int he
        rw [hx.int_inv, hy.int_inv]
        exact req_int w D hu k a b
      case string =>
        cases h
        obtain ⟨a, b, rfl, rfl, rfl⟩ := eqA_str he
        rw [hx.string_inv, hy.string_inv]
        exact req_str w D hu a b
      case pointer el =>
        cases h
        rcases eqA_ptr he with ⟨b, rfl, rfl, rfl⟩ | ⟨a, rfl, rfl, rfl⟩
        · cases hx
          cases hy <;> exact req_ptr1 w D hu _
        · cases hy
          cases hx <;> exact req_ptr2 w D hu _
      case slice el =>
        cases h
        rcases eqA_slice he with ⟨l, c, b, m, d, rfl, rfl, rfl⟩ | ⟨a, l, c, m, d, rfl, rfl, rfl⟩
        · cases hx
          cases hy <;> exact req_sl1 w D hu _ _ _ _ _
        · cases hy
          cases hx <;> exact req_sl2 w D hu _ _ _ _ _
      case map k el =>
        cases h
        rcases eqA_map he with ⟨b, rfl, rfl, rfl⟩ | ⟨a, rfl, rfl, rfl⟩
        · cases hx
          cases hy <;> exact req_map1 w D hu _
        · cases hx
      case func a b c =>
        cases h
        rcases eqA_func he with ⟨rfl, rfl, rfl⟩ | ⟨f, p, q, rfl, rfl, rfl⟩ | ⟨f, p, q, rfl, rfl, rfl⟩
        · cases hx; cases hy; exact req_fn1 w D hu
        · cases hx; cases hy <;> exact req_fn2 w D hu _ _ _
        · cases hy; cases hx <;> exact req_fn3 w D hu _ _ _
      case interface ms =>
        cases h
        rcases eqA_iface he with ⟨rfl, rfl, rfl⟩ | ⟨f, p, rfl, rfl, rfl⟩ | ⟨f, p, rfl, rfl, rfl⟩
        · cases hx; cases hy; exact req_if1 w D hu
        · cases hx; cases hy; exact req_if2 w D hu _ _
        · cases hy; cases hx; exact req_if3 w D hu _ _
      case struct fs =>
        split at h
        · cases h
        · rename_i hst
          have hst' : P.stoodInHeld t = false := by simpa using hst
          cases hp : plansOf P (planOf P d) fs.toList with
          | none => simp [hp] at h
          | some ps =>
            rw [hp] at h
            cases h
            obtain ⟨xs, ys, rfl, rfl, he2⟩ := eqA_node he
            clear he
            have he := he2
            clear he2
            obtain ⟨xs', rfl, hxs, hox⟩ := hx.agg_list
            obtain ⟨ys', rfl, hys, hoy⟩ := hy.agg_list
            have hfo : P.fieldsOf t = fs := by simp [Program.fieldsOf, hu]
            rw [run_equalIn_struct w D t xs' ys' (by rw [hfo]; exact hu) hst', hfo]
            clear hu hfo hst hst'
            generalize fs.toList = l at hp ⊢
            revert he
            revert hp
            revert ps
            induction l with
            | nil =>
              intro ps hp he
              simp [plansOf] at hp
              subst hp
              simp [eqAll] at he
              subst he
              simp [Op.eqFields]
            | cons f fs ihl =>
              intro ps hp he
              simp only [plansOf] at hp
              split at hp
              · rename_i hnm
                simp only [Op.eqFields, hnm, ne_eq, not_true_eq_false, if_false]
                exact ihl ps hp he
              · rename_i hnm
                split at hp
                · rename_i p rest h1 h2
                  have key : ∀ n, ps = (f.offset, n, p) :: rest → n = (if isAggB P f.type then sizeB P f.type else none) → (isAggB P f.type = true → (sizeB P f.type).isSome) → (Op.eqFields D xs' ys' (f :: fs)).run P w = .ok r w := by
                    intro n hps hn hsz
                    subst hps
                    simp only [eqAll] at he
                    have hut : (P.underlying f.type).isSome := by
                      cases hq : P.underlying f.type with
                      | none => cases d <;> simp [planOf, hq] at h1
                      | some _ => rfl
                    split at he
                    · rename_i u v hu hv
                      obtain ⟨u', hu1, hu2⟩ := part_rel (P := P) (w := w) (t := f.type) hxs hox hu hn hsz hut
                      obtain ⟨v', hv1, hv2⟩ := part_rel (P := P) (w := w) (t := f.type) hys hoy hv hn hsz hut
                      split at he
                      · rename_i hq
                        have := ih f.type p D h1 (by omega) hu2 hv2 hq
                        simp only [Op.eqFields, ne_eq, hnm, not_false_eq_true, if_true, Sem.run_bind, hu1, hv1, this, Result.andThen_ok]
                        simpa using ihl rest h2 he
                      · rename_i hq
                        cases he
                        have := ih f.type p D h1 (by omega) hu2 hv2 hq
                        simp [Op.eqFields, hnm, hu1, hv1, this]
                      · cases he
                    · cases he
                  split at hp
                  · rename_i hag
                    cases hz : sizeB P f.type with
                    | none => simp [hz] at hp
                    | some m =>
                      simp [hz] at hp
                      exact key (some m) hp.symm (by simp [hag, hz]) (by simp [hz])
                  · rename_i hag
                    simp at hp
                    exact key none hp.symm (by simp [hag]) (fun h => absurd h hag)
                · cases hp
      all_goals cases h

end Go.Abs
