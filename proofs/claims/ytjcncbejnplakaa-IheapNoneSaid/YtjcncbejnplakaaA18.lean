/-
  THE ABSTRACT LAYER (18): a function's contract from its compiled body; a round of a range over a function; the model's call.
-/
import Derived.Test.YtjcncbejnplakaaA17
set_option linter.unusedSimpArgs false
set_option linter.unusedVariables false
namespace Go.Abs
open Go Go.RowKit

def resOf (env : Env) (H : AH) : ARes → Option Value
  | .tmp t => env t
  | .cell1 t => match env t with
    | some (.pointer (some ⟨b, off, none⟩)) => (H.cells b).bind fun cs => cs[off]?
    | _ => none
  | .cellN n t => match env t with
    | some (.pointer (some ⟨b, off, none⟩)) => ((H.cells b).bind fun cs => cut cs off n).map fun cs => .agg cs.toArray
    | _ => none

def ressOf (env : Env) (H : AH) : List ARes → Option (List Value)
  | [] => some []
  | r :: rs => match resOf env H r, ressOf env H rs with
    | some v, some vs => some (v :: vs)
    | _, _ => none

def retV : List Value → Value
  | [v] => v
  | vs => .tuple vs.toArray

/-- What is asked at a body's end. -/
def bodyK (rs : List ARes) (Q : Value → AH → Prop) : AExit → Env → AH → Prop
  | .exit _, _, _ => False
  | _, env, H => match ressOf env H rs with
    | some vs => Q (retV vs) H
    | none => False

section
variable {P : Program} {B0 n lo : Nat} {ρ : Rho} {env : Env} {H : AH} {w : World}

theorem load1_run (hs : Sim P B0 ρ H w) {t : TypeId} {b off : Nat} {e : Emb} {cs : List Value} {u : Value} (hag : isAggB P t = false) (hu : (P.underlying t).isSome) (he : ρ b = some e) (hc : H.cells b = some cs) (hg : cs[off]? = some u) :
    ∃ u', (loadVar t ⟨e.blk, e.base + off, none⟩).run P w = .ok u' w ∧ VR ρ u u' := by
  obtain ⟨cs', h1, h2, h3⟩ := hs.read he hc
  obtain ⟨u', h4, h5⟩ := h1.get off u hg
  have hlt := (List.getElem?_eq_some_iff.1 hg).1
  have hcell := h3 off hlt
  rw [h4] at hcell
  obtain ⟨d, hd⟩ := Option.isSome_iff_exists.1 hu
  refine ⟨u', ?_, h5⟩
  simp [loadVar, isAgg_run hd, hag, hcell]

theorem loadN_run (hs : Sim P B0 ρ H w) {t : TypeId} {b off m : Nat} {e : Emb} {cs r : List Value} (hag : isAggB P t = true) (hm : sizeB P t = some m) (he : ρ b = some e) (hc : H.cells b = some cs) (hg : cut cs off m = some r) :
    ∃ u', (loadVar t ⟨e.blk, e.base + off, none⟩).run P w = .ok u' w ∧ VR ρ (.agg r.toArray) u' := by
  obtain ⟨cs', h1, h2, h3⟩ := hs.read he hc
  obtain ⟨hl, rfl, hrl⟩ := cut_some hg
  have hr := (h1.drop off).take m
  refine ⟨.agg ((cs'.drop off).take m).toArray, ?_, VR.mk_agg hr fun u hu => h2 u (List.mem_of_mem_drop (List.mem_of_mem_take hu))⟩
  have hcl := h1.length
  have hlen : ((cs'.drop off).take m).length = m := by simp; omega
  have hld := run_loadCells_list (P := P) w ⟨e.blk, e.base + off, none⟩ ((cs'.drop off).take m) (fun j u hj => by
    have hj' : j < m := by have := (List.getElem?_eq_some_iff.1 hj).1; omega
    rw [add_zero_addr, Nat.add_assoc, h3 (off + j) (by omega)]
    rw [List.getElem?_take_of_lt hj', List.getElem?_drop] at hj
    exact hj)
  rw [hlen] at hld
  cases hd : P.underlying t with
  | none => simp [isAggB, hd] at hag
  | some d => simp [loadVar, isAgg_run hd, hag, size_of hm, hld]

theorem res_sound (hs : Sim P B0 ρ H w) {tmps : Array Value} (he : EnvR n ρ env tmps) {rv : ResultVar} {ar : ARes} {v : Value} (hc : compRes P rv = some ar) (hv : resOf env H ar = some v) :
    ∃ v', ((match rv with | .tmp t => pure (tmps.getD t undef) | .cell a t => do loadVar t (← asAddr (tmps.getD a undef)) : Sem Value)).run P w = .ok v' w ∧ VR ρ v v' := by
  have hx : ∀ {t u}, env t = some u → ∃ u', tmps.getD t undef = u' ∧ VR ρ u u' := by
    intro t u hu
    obtain ⟨u', h1, h2⟩ := he.2 t u hu
    exact ⟨u', by simp [h1], h2⟩
  cases rv with
  | tmp t =>
    cases hc
    obtain ⟨u', h1, h2⟩ := hx hv
    exact ⟨u', by simp only [h1, Sem.run_pure], h2⟩
  | cell a t =>
    simp only [compRes] at hc
    split at hc
    · rename_i hag
      obtain ⟨m, hm, rfl⟩ := opt_map_some hc
      simp only [resOf] at hv
      split at hv
      · rename_i b off hp
        obtain ⟨r, hr, rfl⟩ := opt_map_some hv
        obtain ⟨cs, hcs, hcut⟩ := Option.bind_eq_some_iff.1 hr
        obtain ⟨p', h1, h2⟩ := hx hp
        obtain ⟨e, hbe, rfl⟩ := h2.ptr_inv
        obtain ⟨u', q1, q2⟩ := loadN_run hs hag hm hbe hcs hcut
        exact ⟨u', by simp only [h1, asAddr, Sem.run_bind, Sem.run_pure, Result.andThen_ok, q1], q2⟩
      · cases hv
    · rename_i hag
      split at hc
      · rename_i hd
        cases hc
        simp only [resOf] at hv
        split at hv
        · rename_i b off hp
          obtain ⟨cs, hcs, hg⟩ := Option.bind_eq_some_iff.1 hv
          obtain ⟨p', h1, h2⟩ := hx hp
          obtain ⟨e, hbe, rfl⟩ := h2.ptr_inv
          obtain ⟨u', q1, q2⟩ := load1_run hs (by simpa using hag) hd hbe hcs hg
          exact ⟨u', by simp only [h1, asAddr, Sem.run_bind, Sem.run_pure, Result.andThen_ok, q1], q2⟩
        · cases hv
      · cases hc

theorem ress_sound (hs : Sim P B0 ρ H w) {tmps : Array Value} (he : EnvR n ρ env tmps) : ∀ {rvs : List ResultVar} {ars : List ARes} {vs : List Value}, compRess P rvs = some ars → ressOf env H ars = some vs →
    ∃ vs', (rvs.mapM fun (rv : ResultVar) => (match rv with | .tmp t => pure (tmps.getD t undef) | .cell a t => do loadVar t (← asAddr (tmps.getD a undef)) : Sem Value)).run P w = .ok vs' w ∧ VRs ρ vs vs'
  | [], ars, vs, hc, hv => by
    simp [compRess] at hc
    subst hc
    simp [ressOf] at hv
    subst hv
    exact ⟨[], by simp, .nil⟩
  | rv :: rvs, ars, vs, hc, hv => by
    simp only [compRess] at hc
    split at hc
    · rename_i ar ars' h1 h2
      cases hc
      simp only [ressOf] at hv
      split at hv
      · rename_i v vs1 h3 h4
        cases hv
        obtain ⟨v', q1, q2⟩ := res_sound hs he h1 h3
        obtain ⟨vs', q3, q4⟩ := ress_sound hs he h2 h4
        refine ⟨v' :: vs', ?_, .cons q2 q4⟩
        simp only [List.mapM_cons, Sem.run_bind, q1, Result.andThen_ok, q3, Sem.run_pure]
      · cases hv
    · cases hc

theorem results_sound (hs : Sim P B0 ρ H w) {tmps : Array Value} (he : EnvR n ρ env tmps) {fn : Func} {ars : List ARes} {vs : List Value} (hc : compRess P fn.results.toList = some ars) (hv : ressOf env H ars = some vs) :
    ∃ v', (results fn tmps).run P w = .ok v' w ∧ VR ρ (retV vs) v' := by
  obtain ⟨vs', h1, h2⟩ := ress_sound hs he hc hv
  have hlen := h2.length
  refine ⟨retV vs', ?_, ?_⟩
  · unfold results
    rw [Array.mapM_eq_mapM_toList]
    simp only [Sem.run_bind, Sem.run_map]
    refine Eq.trans (congrArg (fun (r : Result (List Value)) => (r.andThen fun a w' => Result.ok a.toArray w').andThen fun a w' => Sem.run P (pure (if h : a.size = 1 then a[0] else Value.tuple a)) w') h1) ?_
    simp only [Result.andThen_ok, Sem.run_pure]
    congr 1
    match vs' with
    | [] => rfl
    | [v] => rfl
    | a :: b :: c => simp [retV]
  · cases h2 with
    | nil => exact .tuple _ _ rfl (fun i h => by simp at h)
    | cons k1 ht =>
      cases ht with
      | nil => exact k1
      | cons k2 ht2 =>
        have hall := VRs.cons k1 (VRs.cons k2 ht2)
        refine .tuple _ _ (by simpa using hall.length.symm) (fun i a b => ?_)
        simpa using hall.toGet i (by simpa using a) (by simpa using b)

/-- A block that stands for nothing is turned. -/
theorem Sim.other (hs : Sim P B0 ρ H w) {w' : World} {r : Nat} {ds : Option (List Deferred)} (hr : w.heap[r]? = some (.deferred ds)) (hh : ∀ k, k ≠ r → w'.heap[k]? = w.heap[k]?) (hsz : w'.heap.size = w.heap.size) : Sim P B0 ρ H w' where
  fresh := fun b e he => by rw [hsz]; exact hs.fresh b e he
  live := fun b B hB => by
    obtain ⟨e, he, hq⟩ := hs.live b B hB
    refine ⟨e, he, hq.keep (Rho.le_refl _) (hh _ fun hk => ?_)⟩
    cases B with
    | row cells elem wr => obtain ⟨c, t, fr, _, h1, _⟩ := hq; rw [hk, hr] at h1; cases h1
    | loop L => obtain ⟨R, h1, _⟩ := hq; rw [hk, hr] at h1; cases h1
  inj := hs.inj
  glob := hs.glob
  base := by rw [hsz]; exact hs.base

theorem leave_sound {fn : Func} {ars : List ARes} {vs : List Value} {ρ0 : Rho} {w0 : World} {Q : Value → AH → Prop} {tmps : Array Value} (hc : compRess P fn.results.toList = some ars) (hv : ressOf env H ars = some vs) (hQ : Q (retV vs) H) (hle : ρ0.le ρ) (he : EnvR n ρ env tmps) :
    ∀ (rs : List Nat) (w : World), Sim P B0 ρ H w → Ext B0 w0 w → B0 ≤ w0.heap.size → rs.Nodup → (∀ r ∈ rs, w0.heap.size ≤ r ∧ w.heap[r]? = some (.deferred (some []))) →
      LeavesInM Fence.wide 0 P fn tmps (Post P B0 ρ0 w0 Q) (rs.map mark) .returning w
  | [], w, hs, hext, hB, hnd, hrs => by
    obtain ⟨v', h1, h2⟩ := results_sound hs he hc hv
    exact ⟨v', h1, v', retV vs, H, ρ, rfl, ⟨hs, hle, hext⟩, h2, hQ⟩
  | r :: rs, w, hs, hext, hB, hnd, hrs => by
    obtain ⟨hr1, hr2⟩ := hrs r (by simp)
    have hlt := (Array.getElem?_eq_some_iff.1 hr2).1
    have hoth : ∀ k, k ≠ r → (w.heap.setIfInBounds r (.deferred none))[k]? = w.heap[k]? := fun k hk => Array.getElem?_setIfInBounds_ne (Ne.symm hk)
    refine ⟨by simp, .inl ⟨r, { w with heap := w.heap.setIfInBounds r (.deferred none) }, rfl, ?_, ?_⟩⟩
    · simp [Instr.takeDeferred, getObj, setObj, Sem.run, hr2]
    · refine leave_sound hc hv hQ hle he rs _ (hs.other hr2 hoth (by simp)) ?_ hB (List.nodup_cons.1 hnd).2 ?_
      · refine ⟨hext.below.trans ⟨rfl, rfl, rfl, by simp, fun k hk => hoth k (by omega)⟩, fun k ds hk hd => ?_, fun k R hR => ?_⟩
        · show (w.heap.setIfInBounds r (.deferred none))[k]? = _
          rw [hoth k (by omega)]; exact hext.defd k ds hk hd
        · obtain ⟨R', h1⟩ := hext.loopd k R hR
          refine ⟨R', ?_⟩
          show (w.heap.setIfInBounds r (.deferred none))[k]? = _
          rw [hoth k (fun hk => by rw [hk, hr2] at h1; cases h1)]; exact h1
      · intro q hq
        have hqr : q ≠ r := fun h => (List.nodup_cons.1 hnd).1 (h ▸ hq)
        have := hrs q (by simp [hq])
        exact ⟨this.1, by show (w.heap.setIfInBounds r (.deferred none))[q]? = _; rw [hoth q hqr]; exact this.2⟩

/-- A FUNCTION's CONTRACT, from its compiled body. -/
theorem AFn.intro (hm : P.follows .mixedOrders = true) {f : FuncId} {F : AFunc} {args : List Value} {Q : Value → AH → Prop} (hF : compF P f = some F) (hl : args.length ≤ F.n)
    (h : wpC P F.n F.code (bodyK F.results Q) (fun t => args[t]?) H) : AFn P f args H Q := by
  intro B0 ρ w args' hs ha
  unfold compF at hF
  split at hF
  · rename_i fn hfn
    split at hF
    · cases hF
    · rename_i hgood
      split at hF
      · rename_i c rs hbody hrs
        obtain ⟨code, hcode, rfl⟩ := opt_map_some hF
        have hlen := ha.length
        simp only [Array.length_toList] at hlen
        refine callsIn_of_wp_marks (F := Fence.wide) hfn hbody trivial ?_ rfl
        have hboth : Both P B0 fn.ntmps w.heap.size ρ w ρ (fun t => args[t]?) H { tmps := args' ++ Array.replicate (fn.ntmps - args'.size) undef, defers := [] } w := by
          refine ⟨Stp.refl hs, ⟨?_, fun t v hv => ?_⟩, ⟨[], rfl, List.nodup_nil, fun r hr => by simp at hr⟩⟩
          · simp at hl ⊢; omega
          · obtain ⟨v', h1, h2⟩ := ha.get t v hv
            refine ⟨v', ?_, h2⟩
            have ht : t < args'.size := by have := (List.getElem?_eq_some_iff.1 h1).1; simpa using this
            rw [Array.getElem?_append_left ht]
            simpa using h1
        have hcs := code_sound (r := none) hm (Nat.le_refl w.heap.size) (fun l hl => by cases hl) c hcode h hboth
        refine wpIn_mono hcs ?_
        rintro e a1 w1 ⟨e', env1, H1, ρ1, rfl, hb1, hq⟩
        cases e' with
        | exit id => exact hq.elim
        | normal =>
          simp only [bodyK] at hq
          split at hq
          · rename_i vs hvs
            obtain ⟨rs1, m1, m2, m3⟩ := hb1.marks
            show LeavesInM _ _ _ _ _ _ a1.defers _ _
            rw [m1]
            exact leave_sound hrs hvs hq hb1.stp.le hb1.env rs1 w1 hb1.stp.sim hb1.stp.ext hs.base m2 m3
          · exact hq.elim
        | ret =>
          simp only [bodyK] at hq
          split at hq
          · rename_i vs hvs
            obtain ⟨rs1, m1, m2, m3⟩ := hb1.marks
            show LeavesInM _ _ _ _ _ _ a1.defers _ _
            rw [m1]
            exact leave_sound hrs hvs hq hb1.stp.le hb1.env rs1 w1 hb1.stp.sim hb1.stp.ext hs.base m2 m3
          · exact hq.elim
      · cases hF
  · cases hF

end
end Go.Abs
