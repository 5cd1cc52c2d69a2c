/-
  THE ABSTRACT LAYER (12): every small operation (but a call of a function) is what the model's does.
-/
import Derived.Test.YtjcncbejnplakaaA11
set_option linter.unusedSimpArgs false
set_option linter.unusedVariables false
namespace Go.Abs
open Go Go.RowKit

section
variable {P : Program} {B0 n : Nat} {ρ : Rho} {H H' : AH} {w : World} {env : Env} {a : Act} {v : Value}

theorem okO_of {o : Option Operand} (h : ∀ x ∈ o.toArray, okOpd P x = true) : okO P o := fun x hx => h x (by subst hx; simp)

theorem opt_map_some {α β : Type} {o : Option α} {f : α → β} {b : β} (h : o.map f = some b) : ∃ x, o = some x ∧ f x = b := by
  cases o with
  | none => cases h
  | some x => exact ⟨x, rfl, by simpa using h⟩

theorem builtin_sound {b : Builtin} {args : Array Operand} {ats : Array TypeId} {i : IOp} {ty : TypeId} {pos : String} {dst : Option Nat} {after : Array Edge} {g : Option (Nat × Bool)}
    (hc : compCall P { callee := .builtin b, args, argTypes := ats } = some i) (hk : args.toList.all (okOpd P) = true)
    (hs : Sim P B0 ρ H w) (he : EnvR n ρ env a.tmps) (hv : ieval i env H = some (v, H')) :
    Fine P B0 ρ w ((execOp a.eval { dst, op := .call { callee := .builtin b, args, argTypes := ats }, type := ty, pos, after, guard := g }).run P w) v H' := by
  have hA : args = args.toList.toArray := by simp
  have hT : ats = ats.toList.toArray := by simp
  generalize args.toList = la at *
  generalize ats.toList = lt at *
  subst hA hT
  have ev : ∀ {x u}, okOpd P x = true → aval env x = some u → VR ρ u (a.eval x) := fun h1 h2 => aval_sound hs he h1 h2
  simp only [compCall] at hc
  split at hc
  · -- len
    rename_i x t
    simp only [List.all_cons, List.all_nil, Bool.and_true] at hk
    split at hc
    · rename_i hu
      cases hc
      simp only [ieval] at hv
      split at hv
      · rename_i s hx; cases hv; exact sound_lenT hs hu (ev hk hx)
      · cases hv
    · rename_i el hu
      cases hc
      simp only [ieval] at hv
      split at hv
      · rename_i ad m c hx; cases hv; exact sound_lenS hs hu (ev hk hx)
      · cases hv
    · rename_i m el hu
      cases hc
      simp only [ieval] at hv
      cases hv
      exact sound_lenK hs hu
    · cases hc
  · -- cap
    rename_i x t
    simp only [List.all_cons, List.all_nil, Bool.and_true] at hk
    split at hc
    · rename_i el hu
      cases hc
      simp only [ieval] at hv
      split at hv
      · rename_i b off m c hx; cases hv; exact sound_cap hs hu (ev hk hx) (fun q hq => by cases hq; rfl)
      · rename_i m c hx; cases hv; exact sound_cap hs hu (ev hk hx) (fun q hq => by cases hq)
      · cases hv
    · cases hc
  · -- append
    rename_i s x t u
    simp only [List.all_cons, List.all_nil, Bool.and_true, Bool.and_eq_true] at hk
    split at hc
    · rename_i el el2 ht hu
      split at hc
      · rename_i i z hi hz
        split at hc
        · rename_i hsz
          cases hc
          simp only [ieval] at hv
          split at hv
          · rename_i sv ad m c hx hy
            split at hv
            · rename_i news hn
              exact sound_app hs ht hu (fun k => by simp) hi hz hsz (ev hk.1 hx) (ev hk.2 hy) hn hv
            · cases hv
          · cases hv
        · cases hc
      · cases hc
    · cases hc
  · -- copy
    rename_i d s t u
    simp only [List.all_cons, List.all_nil, Bool.and_true, Bool.and_eq_true] at hk
    split at hc
    · rename_i el ht
      split at hc
      · rename_i i hi
        split at hc
        · rename_i hsz
          cases hc
          simp only [ieval] at hv
          split at hv
          · rename_i hx hy; cases hv; exact sound_copyN hs ht hi (ev hk.1 hx) (ev hk.2 hy)
          · rename_i b off sp len cap ad m c hx hy
            split at hv
            · rename_i h0
              cases hv
              have := sound_copy (H' := H) (news := []) (u := u) (ty := ty) (pos := pos) (dst := dst) (after := after) (g := g) hs ht hi (ev hk.1 hx) (ev hk.2 hy) (.inl ⟨h0, rfl⟩)
              rw [h0] at this
              exact this
            · rename_i h0
              split at hv
              · rename_i news hn
                obtain ⟨H2, hw, hq⟩ := opt_map_some hv
                cases hq
                exact sound_copy hs ht hi (ev hk.1 hx) (ev hk.2 hy) (.inr ⟨h0, hn, hw⟩)
              · cases hv
          · cases hv
        · cases hc
      · cases hc
    · cases hc
  · -- clear
    rename_i x t
    simp only [List.all_cons, List.all_nil, Bool.and_true] at hk
    split at hc
    · rename_i el ht
      split at hc
      · rename_i z hz
        split at hc
        · rename_i hz0
          cases hc
          simp only [ieval] at hv
          split at hv
          · rename_i l c hx
            cases hv
            have hvx := ev hk hx
            have hx' : ∃ l c, a.eval x = .slice none l c := by generalize a.eval x = vx at *; cases hvx; exact ⟨_, _, rfl⟩
            obtain ⟨l', c', hx'⟩ := hx'
            refine .pure hs (v' := undef) ?_ (.tuple _ _ rfl (fun i h => by simp at h))
            simp [execOp, resolve, invoke, builtin, Builtin.clear_, run_underlying ht, hx', undef]
          · rename_i b off sp len cap hx
            split at hv
            · rename_i h0; cases hv; exact sound_clear hs ht hz hz0 (ev hk hx) (.inl ⟨h0, rfl⟩)
            · rename_i h0
              obtain ⟨H2, hw, hq⟩ := opt_map_some hv
              cases hq
              exact sound_clear hs ht hz hz0 (ev hk hx) (.inr ⟨h0, hw⟩)
          · cases hv
        · cases hc
      · cases hc
    · cases hc
  · -- max
    rename_i x y
    simp only [List.all_cons, List.all_nil, Bool.and_true, Bool.and_eq_true] at hk
    cases hc
    simp only [ieval] at hv
    split at hv
    · rename_i k p k' q hx hy; cases hv; exact sound_mx hs (ev hk.1 hx) (ev hk.2 hy)
    · cases hv
  · -- min
    rename_i x y
    simp only [List.all_cons, List.all_nil, Bool.and_true, Bool.and_eq_true] at hk
    cases hc
    simp only [ieval] at hv
    split at hv
    · rename_i k p k' q hx hy; cases hv; exact sound_mn hs (ev hk.1 hx) (ev hk.2 hy)
    · cases hv
  · cases hc

theorem partsOf_ok {place : Nat → Option (Nat × Nat)} {parts : Array (Nat × Operand)} (h : (Op.operands (.build 0 parts)).toList.all (okOpd P) = true) : parts.toList.all (fun p => okOpd P p.2) = true := by
  simp only [Op.operands] at h
  simpa [List.all_map] using h

theorem eqGuard_eqv {bop : BinOp} {t : TypeId} {x y : Operand} {pl : Plan} {p q vx vy : Value} {r : Bool} (hop : bop = .eql ∨ bop = .neq) (h1 : VR ρ p vx) (h2 : VR ρ q vy) (hr : eqA pl p q = some r)
    (hi : pl = .iface → (isConstB x || isConstB y) = true) (hn : ∀ ps, pl = .node ps → P.eqGuardType P.depth t = false) : (eqGuard bop t x y vx vy).run P w = .ok () w := by
  cases pl with
  | bool => obtain ⟨_, _, rfl, rfl, _⟩ := eqA_bool hr; rw [h1.bool_inv, eqGuard_at_bool]; rfl
  | int => obtain ⟨_, _, _, rfl, rfl, _⟩ := eqA_int hr; rw [h1.int_inv, eqGuard_at_int]; rfl
  | str => obtain ⟨_, _, rfl, rfl, _⟩ := eqA_str hr; rw [h1.string_inv, eqGuard_at_string]; rfl
  | ptr =>
    rcases eqA_ptr hr with ⟨_, rfl, _⟩ | ⟨_, rfl, _⟩ <;> cases h1 <;> rw [eqGuard_at_pointer] <;> rfl
  | nilSlice =>
    rcases eqA_slice hr with ⟨_, _, _, _, _, rfl, _⟩ | ⟨_, _, _, _, _, rfl, _⟩ <;> cases h1 <;> rw [eqGuard_at_slice] <;> rfl
  | nilMap =>
    rcases eqA_map hr with ⟨_, rfl, _⟩ | ⟨_, rfl, _⟩ <;> cases h1 <;> rw [eqGuard_at_map] <;> rfl
  | nilFunc =>
    rcases eqA_func hr with ⟨rfl, _⟩ | ⟨_, _, _, rfl, _⟩ | ⟨_, _, _, rfl, _⟩ <;> cases h1 <;> first | (rw [eqGuard_at_nilFunc]; rfl) | (rw [eqGuard_at_func]; rfl)
  | iface =>
    rcases eqA_iface hr with ⟨rfl, rfl, _⟩ | ⟨_, _, rfl, rfl, _⟩ | ⟨_, _, rfl, rfl, _⟩
    · cases h1; cases h2
      have := hi rfl
      cases x <;> cases y <;> simp [isConstB] at this <;> first | (rw [eqGuard_nil_constR]; rfl) | (rw [eqGuard_nil_constL]; rfl)
    · cases h1; cases h2; rw [eqGuard_nil_iface]; rfl
    · cases h1; cases h2; rw [eqGuard_at_iface]; rfl
  | node ps =>
    obtain ⟨xs, ys, rfl, rfl, _⟩ := eqA_node hr
    obtain ⟨xs', rfl, _⟩ := h1.agg_list
    obtain ⟨ys', rfl, _⟩ := h2.agg_list
    have := hn ps rfl
    rcases hop with rfl | rfl <;> simp [eqGuard, this]

theorem op_sound {o : Oper} {i : IOp} (hc : compOp P o.op = some i) (hk : o.op.operands.toList.all (okOpd P) = true) (hs : Sim P B0 ρ H w) (he : EnvR n ρ env a.tmps) (hv : ieval i env H = some (v, H')) :
    Fine P B0 ρ w ((execOp a.eval o).run P w) v H' := by
  obtain ⟨dst, op, ty, pos, after, g⟩ := o
  have ev : ∀ {x u}, okOpd P x = true → aval env x = some u → VR ρ u (a.eval x) := fun h1 h2 => aval_sound hs he h1 h2
  simp only at hc hk
  replace hc := compOp_0 hc
  cases op <;> simp only [compOp0] at hc <;> try (cases hc; done)
  case move x =>
    cases hc
    simp only [Op.operands, List.all_cons, List.all_nil, Bool.and_true] at hk
    simp only [ieval] at hv
    obtain ⟨u, hu, hq⟩ := opt_map_some hv
    cases hq
    exact .pure hs rfl (ev hk hu)
  case assign x =>
    cases hc
    simp only [Op.operands, List.all_cons, List.all_nil, Bool.and_true] at hk
    simp only [ieval] at hv
    obtain ⟨u, hu, hq⟩ := opt_map_some hv
    cases hq
    exact .pure hs rfl (ev hk hu)
  case pick c x y =>
    cases hc
    simp only [Op.operands, List.all_cons, List.all_nil, Bool.and_true, Bool.and_eq_true] at hk
    simp only [ieval] at hv
    split at hv
    · rename_i t hct
      obtain ⟨u, hu, hq⟩ := opt_map_some hv
      cases hq
      refine sound_pick hs (ev hk.1 hct) (ev ?_ hu)
      cases t <;> simp [hk.2.1, hk.2.2]
    · cases hv
  case alloc el =>
    obtain ⟨z, hz, rfl⟩ := opt_map_some hc
    simp only [ieval] at hv
    cases hv
    exact sound_new hs hz _
  case box el x =>
    cases hc
    simp only [Op.operands, List.all_cons, List.all_nil, Bool.and_true] at hk
    simp only [ieval] at hv
    split at hv
    · rename_i u hu
      obtain ⟨cs, hcs, hq⟩ := opt_map_some hv
      cases hq
      exact sound_box hs _ (ev hk hu) hcs
    · cases hv
  case build t parts =>
    split at hc
    · rename_i fields z hu hz
      split at hc
      · rename_i hi
        obtain ⟨ps, hps, rfl⟩ := opt_map_some hc
        simp only [ieval] at hv
        obtain ⟨r, hr, hq⟩ := opt_map_some hv
        cases hq
        exact sound_buildS hs he hu hz hi hps (partsOf_ok (place := fun _ => none) hk) hr
      · cases hc
    · rename_i len el z hu hz
      split at hc
      · rename_i m hm
        obtain ⟨ps, hps, rfl⟩ := opt_map_some hc
        simp only [ieval] at hv
        obtain ⟨r, hr, hq⟩ := opt_map_some hv
        cases hq
        exact sound_buildA hs he hu hz hm hps (partsOf_ok (place := fun _ => none) hk) hr
      · cases hc
    · cases hc
  case buildSlice t len parts =>
    split at hc
    · rename_i el hu
      split at hc
      · rename_i z m hz hm
        split at hc
        · rename_i hb
          obtain ⟨ps, hps, rfl⟩ := opt_map_some hc
          simp only [ieval] at hv
          obtain ⟨r, hr, hq⟩ := opt_map_some hv
          cases hq
          exact sound_bslice hs he hu hz hm hb.1 hb.2 hps (partsOf_ok (place := fun _ => none) hk) hr
        · cases hc
      · cases hc
    · cases hc
  case load t x =>
    simp only [Op.operands, List.all_cons, List.all_nil, Bool.and_true] at hk
    split at hc
    · rename_i hag
      obtain ⟨m, hm, rfl⟩ := opt_map_some hc
      simp only [ieval] at hv
      split at hv
      · rename_i b off hx
        obtain ⟨r, hr, hq⟩ := opt_map_some hv
        cases hq
        obtain ⟨cs, hcs, hcut⟩ := Option.bind_eq_some_iff.1 hr
        exact sound_loadN hs _ hag hm (ev hk hx) hcs hcut
      · cases hv
    · rename_i hag
      split at hc
      · rename_i hd
        cases hc
        simp only [ieval] at hv
        split at hv
        · rename_i b off hx
          obtain ⟨r, hr, hq⟩ := opt_map_some hv
          cases hq
          obtain ⟨cs, hcs, hg⟩ := Option.bind_eq_some_iff.1 hr
          exact sound_load1 hs _ (by simpa using hag) hd (ev hk hx) hcs hg
        · cases hv
      · cases hc
  case store t x y =>
    simp only [Op.operands, List.all_cons, List.all_nil, Bool.and_true, Bool.and_eq_true] at hk
    split at hc
    · rename_i m hm
      split at hc
      · cases hc
        simp only [ieval] at hv
        split at hv
        · rename_i b off cs hx hy
          split at hv
          · rename_i hl
            obtain ⟨H2, hw, hq⟩ := opt_map_some hv
            cases hq
            exact sound_store hs _ hm (ev hk.1 hx) (ev hk.2 hy) rfl (by simpa using hl) hw
          · cases hv
        · cases hv
      · split at hc
        · rename_i hm1
          cases hc
          simp only [ieval] at hv
          split at hv
          · rename_i b off u hx hy
            split at hv
            · rename_i ho
              obtain ⟨H2, hw, hq⟩ := opt_map_some hv
              cases hq
              refine sound_store hs _ hm (ev hk.1 hx) (ev hk.2 hy) (news := [u]) ?_ (by simp [hm1]) hw
              cases u <;> first | (simp [one] at ho; done) | rfl
            · cases hv
          · cases hv
        · cases hc
    · cases hc
  case nilCheck x =>
    cases hc
    simp only [Op.operands, List.all_cons, List.all_nil, Bool.and_true] at hk
    simp only [ieval] at hv
    split at hv <;> cases hv <;> rename_i hx
    · exact sound_nilChk hs (ev hk hx) (.inl ⟨_, rfl⟩)
    · exact sound_nilChk hs (ev hk hx) (.inr (.inl ⟨_, _, _, rfl⟩))
    · exact sound_nilChk hs (ev hk hx) (.inr (.inr (.inl ⟨_, _, _, rfl⟩)))
    · exact sound_nilChk hs (ev hk hx) (.inr (.inr (.inr ⟨_, _, rfl⟩)))
  case binOp bop t x y yt =>
    simp only [Op.operands, List.all_cons, List.all_nil, Bool.and_true, Bool.and_eq_true] at hk
    have scal : ∀ {r}, ieval (.bin bop x y) env H = some (r, H') → Fine P B0 ρ w ((execOp a.eval { dst, op := .binOp bop t x y yt, type := ty, pos, after, guard := g }).run P w) r H' := by
      intro r hr
      simp only [ieval] at hr
      split at hr
      · rename_i p q hx hy
        obtain ⟨u, hu, hq⟩ := opt_map_some hr
        cases hq
        have hrel := abin_rel (P := P) (w := w) (t := t) hu (ev hk.1 hx) (ev hk.2 hy)
        have hgd : (eqGuard bop t x y (a.eval x) (a.eval y)).run P w = .ok () w := by
          refine eqGuard_scalar ?_
          rcases abin_args hu with ⟨k, i, k', j, rfl, rfl⟩ | ⟨s, s', rfl, rfl⟩
          · exact .inl ⟨_, _, _, _, (ev hk.1 hx).int_inv, (ev hk.2 hy).int_inv⟩
          · exact .inr ⟨_, _, (ev hk.1 hx).string_inv, (ev hk.2 hy).string_inv⟩
        refine .pure hs (v' := r) ?_ hrel.2
        simp only [execOp, Sem.run_bind, hgd, Result.andThen_ok, hrel.1, Sem.run_pure]
      · cases hr
    have eqs : ∀ {pl}, (bop = .eql ∨ bop = .neq) → planOf P 8 t = some pl → (∀ k, P.underlying t ≠ some (.int k)) → P.underlying t ≠ some .string →
        ((pl = .iface → isConstB x || isConstB y) ∧ (∀ fs, P.underlying t = some (.struct fs) → P.eqGuardType P.depth t = false)) → ieval (.eqv (bop == .neq) pl x y) env H = some (v, H') →
        Fine P B0 ρ w ((execOp a.eval { dst, op := .binOp bop t x y yt, type := ty, pos, after, guard := g }).run P w) v H' := by
      intro pl hop hpl hni hns hgd hr
      simp only [ieval] at hr
      split at hr
      · rename_i p q hx hy
        obtain ⟨r, hr', hq⟩ := opt_map_some hr
        cases hq
        have h1 := ev hk.1 hx
        have h2 := ev hk.2 hy
        refine sound_eqv hs hop hpl hni hns ?_ h1 h2 hr'
        exact eqGuard_eqv hop h1 h2 hr' hgd.1 (fun ps hps => by
          subst hps
          simp only [planOf] at hpl
          split at hpl <;> first | (cases hpl; done) | exact hgd.2 _ ‹_›)
      · cases hr
    have eqop : bop = .eql ∨ bop = .neq → compOp0 P (.binOp bop t x y yt) = some i → Fine P B0 ρ w ((execOp a.eval { dst, op := .binOp bop t x y yt, type := ty, pos, after, guard := g }).run P w) v H' := by
      intro hop hc2
      have hc3 : (match P.underlying t with
        | some (.int _) | some .string => some (IOp.bin bop x y)
        | some (.interface _) => if isConstB x || isConstB y then some (.eqv (bop == .neq) .iface x y) else none
        | some (.struct _) => if P.eqGuardType P.depth t then none else (planOf P 8 t).map fun pl => .eqv (bop == .neq) pl x y
        | some _ => (planOf P 8 t).map fun pl => .eqv (bop == .neq) pl x y
        | none => none) = some i := by
        rcases hop with rfl | rfl <;> exact hc2
      clear hc2
      split at hc3
      · cases hc3; exact scal hv
      · cases hc3; exact scal hv
      · rename_i ms hu
        split at hc3
        · rename_i hcc
          cases hc3
          refine eqs hop ?_ (fun k => by rw [hu]; simp) (by rw [hu]; simp) ⟨fun _ => hcc, fun fs hfs => by rw [hu] at hfs; cases hfs⟩ hv
          simp [planOf, hu]
        · cases hc3
      · rename_i fs hu
        split at hc3
        · cases hc3
        · rename_i hgt
          obtain ⟨pl, hpl, rfl⟩ := opt_map_some hc3
          refine eqs hop hpl (fun k => by rw [hu]; simp) (by rw [hu]; simp) ⟨fun hpi => ?_, fun _ _ => by simpa using hgt⟩ hv
          subst hpi
          simp only [planOf, hu] at hpl
          split at hpl
          · cases hpl
          · obtain ⟨_, _, hq⟩ := opt_map_some hpl; cases hq
      · rename_i d hd1 hd2 hd3 hd4 hu
        obtain ⟨pl, hpl, rfl⟩ := opt_map_some hc3
        refine eqs hop hpl (fun k hk' => ?_) (fun hk' => ?_) ⟨fun hpi => ?_, fun fs hfs => ?_⟩ hv
        · rw [hu] at hk'; cases hk'; exact hd1 k rfl
        · rw [hu] at hk'; cases hk'; exact hd2 rfl
        · subst hpi
          simp only [planOf] at hpl
          rw [hu] at hpl
          cases d <;> simp only at hpl <;> first | (cases hpl; done) | skip
          · split at hpl
            · cases hpl
            · obtain ⟨_, _, hq⟩ := opt_map_some hpl; cases hq
          · exact absurd rfl (hd3 _)
        · rw [hu] at hfs; cases hfs; exact absurd rfl (hd4 fs)
      · cases hc3
    cases bop <;> first
      | exact eqop (.inl rfl) hc
      | exact eqop (.inr rfl) hc
      | (simp only at hc; cases hc; exact scal hv)
  case unOp uop t x =>
    cases hc
    simp only [Op.operands, List.all_cons, List.all_nil, Bool.and_true] at hk
    simp only [ieval] at hv
    split at hv
    · rename_i u hu
      obtain ⟨r, hr, hq⟩ := opt_map_some hv
      cases hq
      have h1 := aun_sound (P := P) (w := w) hr
      have h2 := ev hk hu
      refine .pure hs (v' := v) ?_ (VR.of_plain h1.2)
      have hx : a.eval x = u := by
        unfold aun at hr
        split at hr
        · exact h2.int_inv
        · exact h2.bool_inv
        · cases hr
      simp only [execOp, hx, Sem.run_bind, h1.1, Result.andThen_ok, Sem.run_pure]
    · cases hv
  case convert s d x =>
    simp only [Op.operands, List.all_cons, List.all_nil, Bool.and_true] at hk
    split at hc
    · rename_i sd k h1 h2
      cases hc
      simp only [ieval] at hv
      split at hv
      · rename_i k0 m hx; cases hv; exact sound_conv hs h1 h2 (ev hk hx)
      · cases hv
    · rename_i h1 h2
      cases hc
      simp only [ieval] at hv
      split at hv
      · rename_i b hx; cases hv; exact sound_convS hs h1 h2 (ev hk hx)
      · cases hv
    · cases hc
  case makeInterface t x =>
    simp only [Op.operands, List.all_cons, List.all_nil, Bool.and_true] at hk
    split at hc
    · cases hc
    · rename_i d hni hu
      cases hc
      simp only [ieval] at hv
      obtain ⟨u, hx, hq⟩ := opt_map_some hv
      cases hq
      exact sound_iface hs hu (fun ms h => hni ms h) (ev hk hx)
    · cases hc
  case makeFunc f first cap =>
    have hfc : (∀ l, f ≠ .yield l) ∧ i = .fn f first.toList cap.toList := by
      cases f <;> simp only at hc <;> first | (cases hc; done) | (cases hc; exact ⟨fun l h => (by cases h), rfl⟩)
    obtain ⟨hfy, rfl⟩ := hfc
    simp only [Op.operands, Array.toList_append, List.all_append, Bool.and_eq_true] at hk
    simp only [ieval] at hv
    split at hv
    · rename_i p q h1 h2
      cases hv
      exact sound_fn hs hfy (avals_sound hs he hk.1 h1) (avals_sound hs he hk.2 h2)
    · cases hv
  case makeSlice t l c =>
    simp only [Op.operands, List.all_cons, List.all_nil, Bool.and_true, Bool.and_eq_true] at hk
    split at hc
    · rename_i el hu
      split at hc
      · rename_i j z hj hz
        split at hc
        · rename_i hsz
          cases hc
          simp only [ieval] at hv
          split at hv
          · rename_i p q hx hy
            split at hv
            · rename_i hb
              cases hv
              exact sound_mks hs _ hu hj hz hsz (ev hk.1 hx) (ev hk.2 hy) hb
            · cases hv
          · cases hv
        · cases hc
      · cases hc
    · cases hc
  case slice t x lo hi mx =>
    have hkx : okOpd P x = true ∧ okO P lo ∧ okO P hi ∧ okO P mx := by
      simp only [Op.operands, List.all_eq_true] at hk
      refine ⟨hk x (by simp), fun y hy => hk y ?_, fun y hy => hk y ?_, fun y hy => hk y ?_⟩ <;> subst hy <;> simp
    obtain ⟨k0, k1, k2, k3⟩ := hkx
    have arr : ∀ {m el sz}, (P.underlying t = some (.array m el) ∨ ∃ ar, P.underlying t = some (.pointer ar) ∧ P.underlying ar = some (.array m el)) → sizeB P el = some sz → ieval (.slP m sz x lo hi mx) env H = some (v, H') →
        Fine P B0 ρ w ((execOp a.eval { dst, op := .slice t x lo hi mx, type := ty, pos, after, guard := g }).run P w) v H' := by
      intro m el sz hu hz hr
      simp only [ieval] at hr
      split at hr
      · rename_i b off hx
        split at hr
        · rename_i l h mm hb
          cases hr
          exact sound_slP hs he hu hz k1 k2 k3 (ev k0 hx) hb
        · cases hr
      · cases hr
    split at hc
    · rename_i m el hu
      obtain ⟨sz, hz, rfl⟩ := opt_map_some hc
      exact arr (.inl hu) hz hv
    · rename_i hu
      split at hc
      · rename_i hmx
        have hmx' : mx = none := by simpa using hmx
        subst hmx'
        cases hc
        simp only [ieval] at hv
        split at hv
        · rename_i s hx
          split at hv
          · rename_i l h mm hb; cases hv; exact sound_slT hs he hu k1 k2 (ev k0 hx) hb
          · cases hv
        · cases hv
      · cases hc
    · rename_i el hu
      obtain ⟨sz, hz, rfl⟩ := opt_map_some hc
      simp only [ieval] at hv
      split at hv
      · rename_i hx
        split at hv
        · rename_i r3 hb; cases hv; exact sound_slN hs he hu hz k1 k2 k3 (ev k0 hx) hb
        · cases hv
      · rename_i b off sp len cap hx
        split at hv
        · rename_i l h mm hb
          split at hv
          · rename_i tg
            split at hv
            · rename_i htg
              cases hv
              exact sound_sl hs he hu hz k1 k2 k3 (ev k0 hx) hb (.inl ⟨_, rfl, rfl, htg, rfl⟩)
            · cases hv
          · rename_i hnot
            cases hv
            refine sound_sl hs he hu hz k1 k2 k3 (ev k0 hx) hb (.inr ⟨?_, rfl⟩)
            cases sp with
            | none => exact .inl rfl
            | some tg => cases mx with
              | none => exact absurd rfl (hnot tg rfl)
              | some y => exact .inr rfl
        · cases hv
      · cases hv
    · rename_i ar hu
      split at hc
      · rename_i m el hu2
        obtain ⟨sz, hz, rfl⟩ := opt_map_some hc
        exact arr (.inr ⟨ar, hu, hu2⟩) hz hv
      · cases hc
    · cases hc
  case fieldAddr s x f =>
    simp only [Op.operands, List.all_cons, List.all_nil, Bool.and_true] at hk
    split at hc
    · rename_i fields hu
      split at hc
      · rename_i fd hf
        split at hc
        · rename_i m hm
          split at hc
          · rename_i hm0
            cases hc
            simp only [ieval] at hv
            split at hv
            · rename_i b off hx; cases hv; exact sound_faddr hs hu hf hm hm0 (ev hk hx)
            · cases hv
          · cases hc
        · cases hc
      · cases hc
    · cases hc
  case field t x f =>
    simp only [Op.operands, List.all_cons, List.all_nil, Bool.and_true] at hk
    split at hc
    · rename_i fields hu
      split at hc
      · rename_i fd hf
        split at hc
        · rename_i hag
          obtain ⟨m, hm, rfl⟩ := opt_map_some hc
          simp only [ieval] at hv
          split at hv
          · rename_i cs hx; cases hv; exact sound_fldN hs hu hf hag hm (ev hk hx)
          · cases hv
        · rename_i hag
          split at hc
          · rename_i hd
            cases hc
            simp only [ieval] at hv
            split at hv
            · rename_i cs hx
              obtain ⟨u, hu2, hq⟩ := opt_map_some hv
              cases hq
              exact sound_fld1 hs hu hf (by simpa using hag) hd (ev hk hx) hu2
            · cases hv
          · cases hc
      · cases hc
    · cases hc
  case indexAddr t x y =>
    simp only [Op.operands, List.all_cons, List.all_nil, Bool.and_true, Bool.and_eq_true] at hk
    split at hc
    · rename_i el hu
      split at hc
      · rename_i m hm
        split at hc
        · cases hc
          simp only [ieval] at hv
          split at hv
          · rename_i b off sp len cap k j hx hy
            split at hv
            · rename_i hj; cases hv; exact sound_idxS hs hu hm (ev hk.1 hx) (ev hk.2 hy) hj
            · cases hv
          · cases hv
        · cases hc
      · cases hc
    · rename_i len el hu
      split at hc
      · rename_i m hm
        split at hc
        · cases hc
          simp only [ieval] at hv
          split at hv
          · rename_i b off k j hx hy
            split at hv
            · rename_i hj; cases hv; exact sound_idxP hs hu hm (ev hk.1 hx) (ev hk.2 hy) hj
            · cases hv
          · cases hv
        · cases hc
      · cases hc
    · cases hc
  case index t x y =>
    simp only [Op.operands, List.all_cons, List.all_nil, Bool.and_true, Bool.and_eq_true] at hk
    split at hc
    · rename_i len el hu
      split at hc
      · rename_i m hm
        split at hc
        · rename_i hag
          cases hc
          simp only [ieval] at hv
          split at hv
          · rename_i cs k j hx hy
            split at hv
            · rename_i hj; cases hv; exact sound_idxN hs hu hm hag (ev hk.1 hx) (ev hk.2 hy) hj
            · cases hv
          · cases hv
        · rename_i hag
          split at hc
          · rename_i hd
            cases hc
            simp only [ieval] at hv
            split at hv
            · rename_i cs k j hx hy
              split at hv
              · rename_i hj
                obtain ⟨u, hu2, hq⟩ := opt_map_some hv
                cases hq
                exact sound_idx1 hs hu hm (by simpa using hag) hd (ev hk.1 hx) (ev hk.2 hy) hj hu2
              · cases hv
            · cases hv
          · cases hc
      · cases hc
    · rename_i hu
      cases hc
      simp only [ieval] at hv
      split at hv
      · rename_i s k j hx hy
        split at hv
        · rename_i hj
          obtain ⟨u, hu2, hq⟩ := opt_map_some hv
          cases hq
          exact sound_idxT hs hu (ev hk.1 hx) (ev hk.2 hy) hj hu2
        · cases hv
      · cases hv
    · cases hc
  case extract x j =>
    cases hc
    simp only [Op.operands, List.all_cons, List.all_nil, Bool.and_true] at hk
    simp only [ieval] at hv
    split at hv
    · rename_i vs hx
      obtain ⟨u, hu, hq⟩ := opt_map_some hv
      cases hq
      exact sound_ext hs (ev hk hx) hu
    · cases hv
  case typeAssert x s t ok =>
    simp only [Op.operands, List.all_cons, List.all_nil, Bool.and_true] at hk
    split at hc
    · cases hc
    · rename_i d z hni hu hz
      cases hc
      simp only [ieval] at hv
      split at hv
      · rename_i t' q hx
        split at hv
        · rename_i htt
          cases hv
          subst htt
          exact sound_assertT hs hu (fun ms h => hni ms h) hz (ev hk hx) (.inl ⟨q, rfl, rfl⟩)
        · rename_i htt
          split at hv
          · rename_i hok
            cases hv
            exact sound_assertT hs hu (fun ms h => hni ms h) hz (ev hk hx) (.inr ⟨.inr ⟨t', q, htt, rfl⟩, hok, rfl⟩)
          · cases hv
      · rename_i hx
        split at hv
        · rename_i hok
          cases hv
          exact sound_assertT hs hu (fun ms h => hni ms h) hz (ev hk hx) (.inr ⟨.inl rfl, hok, rfl⟩)
        · cases hv
      · cases hv
    · cases hc
  case call c =>
    obtain ⟨callee, args, ats⟩ := c
    cases callee with
    | builtin b =>
      exact builtin_sound hc (by simpa [Op.operands, Call.operands] using hk) hs he hv
    | value f => simp only [compCall] at hc; cases hc; simp [ieval] at hv
    | invoke r m => simp only [compCall] at hc; cases hc; simp [ieval] at hv

end
end Go.Abs
