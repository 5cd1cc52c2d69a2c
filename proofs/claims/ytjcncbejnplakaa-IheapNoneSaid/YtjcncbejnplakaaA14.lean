/-
  THE ABSTRACT LAYER (14): one operation; a region in the text's order; a region that draws its order.
-/
import Derived.Test.YtjcncbejnplakaaA13
set_option linter.unusedSimpArgs false
set_option linter.unusedVariables false
namespace Go.Abs
open Go Go.RowKit

section
variable {P : Program} {B0 n lo : Nat} {ρ0 ρ : Rho} {w0 w : World} {env : Env} {H : AH} {a : Act} {ops : Array Oper} {Qx : Exit → Act → World → Prop} {r : Option Nat}

theorem guard_sound {o : Oper} {g : Option (Nat × Bool)} {b : Bool} (he : EnvR n ρ env a.tmps) (hg : guardOf ops o = some g) (hb : guardA env g = some b) : Region.wanted o (yielded ops a.tmps) = b := by
  unfold guardOf at hg
  unfold Region.wanted
  cases hq : o.guard with
  | none =>
    simp only [hq] at hg
    cases hg
    simp only [guardA] at hb
    cases hb
    rfl
  | some jw =>
    obtain ⟨j, want⟩ := jw
    simp only [hq] at hg ⊢
    split at hg
    · rename_i d hd
      cases hg
      simp only [guardA] at hb
      have hy : yielded ops a.tmps j = match a.tmps[d]? with | some (.bool b) => some b | _ => none := by
        unfold yielded
        rw [hd]
        rfl
      rw [hy]
      split at hb
      · rename_i x hx
        cases hb
        obtain ⟨v', h1, h2⟩ := he.2 d _ hx
        rw [h1, h2.bool_inv]
        cases x <;> cases want <;> rfl
      · rename_i u hnb hx
        cases hb
        obtain ⟨v', h1, h2⟩ := he.2 d _ hx
        rw [h1]
        have : ∀ b, v' ≠ .bool b := by
          intro b hb'
          subst hb'
          cases h2
          exact hnb _ rfl
        cases v' <;> first | exact absurd rfl (this _) | (cases want <;> rfl)
      · cases hb
    · cases hg

theorem Both.next {ρ' : Rho} {H' : AH} {w' : World} {v v' : Value} {dst : Option Nat} (hb : Both P B0 n lo ρ0 w0 ρ env H a w) (hs : Stp P B0 ρ w ρ' H' w') (hv : VR ρ' v v') (hd : ∀ d, dst = some d → d < n) :
    Both P B0 n lo ρ0 w0 ρ' (put env dst v) H' (a.put dst v') w' :=
  ⟨hb.stp.trans hs, (hb.env.mono hs.le).put hd hv, (hb.marks.ext hs.ext).put _ _⟩

theorem undef_rel {ρ : Rho} : VR ρ undef undef := .tuple _ _ rfl (fun i h => by simp at h)

theorem call_upon {o : Oper} {K' : Act → World → Prop} {nx : Next} {Q : Value → AH → Prop} (hd : ∀ d, o.dst = some d → d < n) (hb : Both P B0 n lo ρ0 w0 ρ env H a w)
    (hr : (∃ f as, nx = .enter f as ∧ CallsIn (Fr r) 0 P f as w (Post P B0 ρ w Q)) ∨
       (∃ l fn tmps assign body, nx = .round l fn tmps assign body ∧ RoundIn (Fr r) 0 P l fn tmps assign body w (Post P B0 ρ w Q)))
    (hK : ∀ ρ' v H' a' w', Both P B0 n lo ρ0 w0 ρ' (put env o.dst v) H' a' w' → Q v H' → K' a' w') :
    o.uponIn (Fr r) 0 P a K' Qx (.ok nx w) := by
  rcases hr with ⟨f, as, rfl, hc⟩ | ⟨l, fn, tmps, assign, body, rfl, hc⟩
  · refine ⟨fun h => by simp [Fr, Fence.wide] at h, hc.mono ?_⟩
    rintro e w' ⟨v', v, H', ρ', rfl, h1, h2, h3⟩
    exact hK ρ' v H' _ w' (hb.next h1 h2 hd) h3
  · refine ⟨fun h => by simp [Fr, Fence.wide] at h, hc.mono ?_⟩
    rintro e w' ⟨v', v, H', ρ', rfl, h1, h2, h3⟩
    exact hK ρ' v H' _ w' (hb.next h1 h2 hd) h3

theorem methodsOf_spec {name : String} : ∀ {t : TypeId} {f : FuncId} {l : List TypeId}, lookT (l.filterMap fun t =>
    match P.info? t with
    | some i => match i.methods.find? (·.name == name) with
      | some m => match m.path.isEmpty, m.func, P.underlying t with
        | true, some (f, true), some (.pointer _) => some (t, f)
        | _, _, _ => none
      | none => none
    | none => none) t = some f → ∃ i m el, P.info? t = some i ∧ i.methods.find? (·.name == name) = some m ∧ m.path.isEmpty = true ∧ m.func = some (f, true) ∧ P.underlying t = some (.pointer el) := by
  intro t f l
  induction l with
  | nil => intro h; simp [lookT] at h
  | cons u l ih =>
    intro h
    simp only [List.filterMap_cons] at h
    split at h
    · exact ih h
    · rename_i b hb
      split at hb
      · rename_i i hi
        split at hb
        · rename_i m hm
          split at hb
          · rename_i q1 f' q2 el' h1 h2 h3
            cases hb
            simp only [lookT] at h
            split at h
            · rename_i hut
              cases h
              subst hut
              exact ⟨i, m, _, hi, hm, h1, h2, h3⟩
            · exact ih h
          · cases hb
        · cases hb
      · cases hb

theorem AInv.runs {name : String} {recv : Value} {args : List Value} {Q : Value → AH → Prop} (h : AInv P recv (methodsOf P name) args H Q) {recv' : Value} {args' : Array Value}
    (hs : Sim P B0 ρ H w) (hf : VR ρ recv recv') (ha : VRs ρ args args'.toList) (r : Option Nat) :
    ∃ f as, (callMethod recv' name args').run P w = .ok (.enter f as) w ∧ CallsIn (Fr r) 0 P f as w (Post P B0 ρ w Q) := by
  unfold AInv at h
  split at h
  · rename_i t p
    split at h
    · rename_i f hl
      obtain ⟨hg, h⟩ := h
      cases hf with
      | iface _ _ v' hv =>
        obtain ⟨i, m, el, h1, h2, h3, h4, h5⟩ := methodsOf_spec hl
        refine ⟨f, #[v'] ++ args', ?_, h B0 ρ w _ hs (by simpa using VRs.cons hv ha)⟩
        have hmeth : (method (P.types.size + Made.depth) t v' name).run P w = .ok (f, v') w := by
          have hd : P.types.size + Made.depth = (P.types.size + Made.depth - 1) + 1 := by
            have : 0 < Made.depth := by decide
            omega
          have h3' : m.path = #[] := by simpa using h3
          rw [hd]
          simp [method, typeInfo, h1, h2, h3', follow, h4, receiverAt, run_underlying h5, Place.get]
        simp only [callMethod, Sem.run_bind, run_program, Result.andThen_ok, hmeth]
        exact goodFunc_spec hg _ w
    · exact h.elim
  · exact h.elim

theorem step_sound {o : Oper} {ao : AOper} {i : Nat} {draw : Bool} {K : Env → AH → Prop} {K' : Act → World → Prop} (ho : ops[i]? = some o) (hc : compOper P n ops o = some ao) (h : stepA P draw ao K env H)
    (hb : Both P B0 n lo ρ0 w0 ρ env H a w) (hK : ∀ ρ' env' H' a' w', Both P B0 n lo ρ0 w0 ρ' env' H' a' w' → K env' H' → K' a' w') : wpOpIn (Fr r) 0 P ops Qx i K' a w := by
  unfold compOper at hc
  split at hc
  · rename_i hcond
    simp only [Bool.and_eq_true] at hcond
    obtain ⟨hk, hdst⟩ := hcond
    have hd : ∀ d, o.dst = some d → d < n := by
      intro d hd
      rw [hd] at hdst
      simpa [dstOk] using hdst
    split at hc
    · rename_i iop g hop hgd
      cases hc
      unfold stepA at h
      simp only at h
      unfold wpOpIn
      rw [ho]
      simp only
      cases hga : guardA env g with
      | none => simp only [hga] at h
      | some b =>
        rw [guard_sound hb.env hgd hga]
        simp only [hga] at h
        cases b with
        | false =>
          simp only [Bool.false_eq_true, if_false]
          refine ⟨fun _ _ => trivial, hK ρ _ H _ w (hb.next (Stp.refl hb.stp.sim) undef_rel hd) h⟩
        | true =>
          simp only [if_true]
          refine ⟨fun _ _ => trivial, ?_⟩
          have hnd : ∀ c, o.op ≠ .defer c := by
            intro c hcc
            rw [hcc] at hop
            simp [compOp, compOp0] at hop
          rw [Oper.semAt_eq _ _ _ hnd]
          have plain_op : ∀ {v H'}, ieval iop env H = some (v, H') → K (put env o.dst v) H' → o.uponIn (Fr r) 0 P a K' Qx ((execOp a.eval o).run P w) := by
            intro v H' hv hk'
            obtain ⟨v', w', ρ', hr, hst, hvr⟩ := op_sound hop hk hb.stp.sim hb.env hv
            rcases hr with hr | ⟨hr, rfl⟩
            · rw [hr]; exact hK ρ' _ H' _ w' (hb.next hst hvr hd) hk'
            · rw [hr]; exact hK ρ' _ H' _ w' (hb.next hst hvr hd) hk'
          cases iop with
          | call f args =>
            simp only at h
            -- the operation is a call of a function value
            have hoc := compOp_call hop
            obtain ⟨c, hc1, hc2, hc3⟩ := hoc
            have hkk : okOpd P f = true ∧ args.all (okOpd P) = true := by
              rw [hc1] at hk
              simp only [Op.operands, Call.operands, hc2, Array.toList_append, List.all_append, Bool.and_eq_true] at hk
              exact ⟨by simpa using hk.1, by rw [← hc3]; exact hk.2⟩
            split at h
            · rename_i fv vs h1 h2
              have hvf := aval_sound hb.stp.sim hb.env hkk.1 h1
              have hva := avals_sound hb.stp.sim hb.env hkk.2 h2
              have hva' : VRs ρ vs (c.args.map a.eval).toList := by rw [Array.toList_map, hc3]; exact hva
              have go : ∀ {Q}, ACall P fv vs H Q → (∀ v H', Q v H' → K (put env o.dst v) H') → o.uponIn (Fr r) 0 P a K' Qx ((execOp a.eval o).run P w) := by
                intro Q hcall hq
                obtain ⟨d, nx, e1, e2, e3⟩ := hcall.runs hb.stp.sim hvf hva' r
                have hrun : (execOp a.eval o).run P w = .ok nx w := by
                  simp only [execOp, hc1, resolve, hc2, Sem.run_bind, e1, Result.andThen_ok, e2]
                rw [hrun]
                exact call_upon hd hb e3 fun ρ' v H' a' w' hb' hq' => hK ρ' _ H' a' w' hb' (hq v H' hq')
              cases draw with
              | true => exact go h fun _ _ hq => hq.2
              | false => exact go h fun _ _ hq => hq
            · exact h.elim
          | invoke rv tbl args =>
            simp only at h
            have hoc := compOp_invoke hop
            obtain ⟨c, name, hc1, hc2, rfl, hc3⟩ := hoc
            have hkk : okOpd P rv = true ∧ args.all (okOpd P) = true := by
              rw [hc1] at hk
              simp only [Op.operands, Call.operands, hc2, Array.toList_append, List.all_append, Bool.and_eq_true] at hk
              exact ⟨by simpa using hk.1, by rw [← hc3]; exact hk.2⟩
            split at h
            · rename_i fv vs h1 h2
              have hvf := aval_sound hb.stp.sim hb.env hkk.1 h1
              have hva := avals_sound hb.stp.sim hb.env hkk.2 h2
              have hva' : VRs ρ vs (c.args.map a.eval).toList := by rw [Array.toList_map, hc3]; exact hva
              have go : ∀ {Q}, AInv P fv (methodsOf P name) vs H Q → (∀ v H', Q v H' → K (put env o.dst v) H') → o.uponIn (Fr r) 0 P a K' Qx ((execOp a.eval o).run P w) := by
                intro Q hcall hq
                obtain ⟨f, as, e1, e3⟩ := hcall.runs hb.stp.sim hvf hva' r
                have hrun : (execOp a.eval o).run P w = .ok (.enter f as) w := by
                  generalize hm : c.args.map a.eval = am at *
                  have hx : (#[a.eval rv] ++ am)[0]? = some (a.eval rv) := by rw [Array.getElem?_append_left (by simp)]; rfl
                  have hy : (#[a.eval rv] ++ am).extract 1 (#[a.eval rv] ++ am).size = am := by
                    apply Array.ext'
                    simp
                  simp only [execOp, hc1, resolve, hc2, hm, Sem.run_bind, Sem.run_pure, Result.andThen_ok, invoke, hx, hy, e1]
                rw [hrun]
                exact call_upon hd hb (.inl ⟨f, as, rfl, e3⟩) fun ρ' v H' a' w' hb' hq' => hK ρ' _ H' a' w' hb' (hq v H' hq')
              cases draw with
              | true => exact go h fun _ _ hq => hq.2
              | false => exact go h fun _ _ hq => hq
            · exact h.elim
          | _ =>
            simp only at h
            split at h
            · rename_i v H' hv; exact plain_op hv h
            · exact h.elim
    · cases hc
  · cases hc

/-- A region in the text's order. -/
theorem region_sound {K : Env → AH → Prop} {Q' : Exit → Act → World → Prop} (hK : ∀ ρ' env' H' a' w', Both P B0 n lo ρ0 w0 ρ' env' H' a' w' → K env' H' → Q' .normal a' w') :
    ∀ (l : List Oper) (al : List AOper) (i : Nat), l = ops.toList.drop i → i + l.length = ops.size → compOpers P n ops l = some al → ∀ {ρ env H a w}, wpO P false K al env H → Both P B0 n lo ρ0 w0 ρ env H a w →
      wpOpsIn (Fr r) 0 P ops Q' (List.range' i l.length) a w
  | [], al, i, hl, hi, hc, ρ, env, H, a, w, h, hb => by
    simp [compOpers] at hc
    subst hc
    simp only [wpO] at h
    simp only [List.length_nil, List.range'_zero, wpOpsIn]
    exact hK ρ env H a w hb h
  | o :: l, al, i, hl, hi, hc, ρ, env, H, a, w, h, hb => by
    simp only [compOpers] at hc
    split at hc
    · rename_i ao al' h1 h2
      cases hc
      simp only [wpO] at h
      simp only [List.length_cons, List.range'_succ, wpOpsIn_cons]
      have ho : ops[i]? = some o := by
        have : (ops.toList.drop i)[0]? = some o := by rw [← hl]; rfl
        rw [List.getElem?_drop] at this
        simpa using this
      have hl' : l = ops.toList.drop (i + 1) := by
        have : (o :: l).drop 1 = (ops.toList.drop i).drop 1 := by rw [← hl]
        rw [List.drop_drop] at this
        simpa using this
      refine step_sound ho h1 h hb ?_
      intro ρ' env' H' a' w' hb' hk
      exact region_sound hK l al' (i + 1) hl' (by simp at hi; omega) h2 hk hb'
    · cases hc

end
end Go.Abs
