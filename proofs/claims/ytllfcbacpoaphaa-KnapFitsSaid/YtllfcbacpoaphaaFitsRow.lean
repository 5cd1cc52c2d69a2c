/-
  The row of KnapFits.
-/
import Derived.Test.YtllfcbacpoaphaaRows
import Derived.Test.YtllfcbacpoaphaaKgC
import Derived.Test.YtllfcbacpoaphaaA31
import Derived.Test.YtllfcbacpoaphaaA22
import Derived.Test.YtllfcbacpoaphaaKnT
import Derived.WalkKit
import Derived.ProofKit
import Derived.OpenShut
import Derived.HandedShaped
namespace Go.Proofs.Ytllfcbacpoaphaa.knapFits
open Go.Abs Go.ChangeShapes Go.WideShapes Go.ChangeAt Go.RowKit
set_option linter.unusedVariables false      -- a walk need not use every 'w<i>' (that an integer argument fits its kind)
theorem own : ownKnob Try.prog.godebug = none:=by kernel_rfl
def shapes : List Sh:=[.slice (.cons 1 (.int .i64) (.cons 1 (.int .i64) .nil)) 2,.int .i64]
theorem walk_law (avs : List Value) (H : AH) (h : IsAll H shapes avs) (hr : ∀ a k c,avs[0]? = some (.slice a k c) → k * 16 ≤ 140737488351232) : AFn Try.prog 5 avs H fun v H' => v = .bool true ∧ Keep [] H H':=by
 refine AFn.wf fun hw => ?_
 obtain ⟨a,l,rfl,h1,h2⟩:=h.cons_inv
 obtain ⟨b,l,rfl,h3,h4⟩:=h2.cons_inv
 obtain rfl:=h4.nil_inv
 obtain ⟨L,hL⟩:=IsArg.pairs_ren hw h1
 obtain ⟨room,rfl,_⟩:=h3.int_inv
 obtain ⟨la,lc,rfl⟩:=hL.slice
 exact (KnapFits_abs hL (hr _ _ _ rfl)).mono fun v H' ⟨h1,h2⟩ => ⟨h1,h2 ▸ .refl⟩
/-! ### THE ROW's STEP -/
set_option maxRecDepth 100000 in
theorem lifted (os : Os) (started : os.Started) (H : Type) (enc : TypeId × Value → H) :
  ReturnsInHanded {} Try.checked os 5 .any (Rows.knapFitsSpec.pre6 enc Try.prog Try.f5 Rows.knapFitsRow.domain false) (Rows.knapFitsSpec.post enc Try.prog Try.f5 false true false false):=by
 refine returnsInHanded_of_change_shaped (C:=Try.checked) own started (by kernel_rfl) Try.func5
  (ChangeSpec.witness6 (enc:=enc) (C:=Try.checked) false ⟨#[],#[.slice none 0 0,.int .i64 0],[]⟩ 8 (by kernel_rfl) (by kernel_rfl) (by kernel_rfl) (by kernel_rfl)) ?_
 intro W base args ds gs before hval0 hW hcnd hsz hsh _
 have hW':=hW
 obtain ⟨p,q,hA0,hV,rfl,hfz,hnd⟩:=hW
 have hA : DataW.TrodAll enc Try.prog W 0 (fun _ => true) true Try.f5.params.toList args.toList ds p:=hA0
 obtain ⟨rfl,rfl⟩:=trodVars_none hV
 have hlt : ∀ x ∈ p,x.block < W.heap.size:=fun x hx => by simpa using hW'.lt x (by simpa using hx)
 have hlen : ∃ d1 d2,ds = [d1,d2]:=by
  rw [Try.params5] at hA
  obtain ⟨v0,vs0,d0',ds0,p0,q0,_,rfl,_,_,r0⟩:=trodAll_cons hA
  obtain ⟨v1,vs1,d1',ds1,p1,q1,_,rfl,_,_,r1⟩:=trodAll_cons r0
  obtain ⟨_,rfl,_⟩:=trodAll_nil r1
  exact ⟨_,_,rfl⟩
 obtain ⟨d1,d2,rfl⟩:=hlen
 have hg : Try.prog.globals.size ≤ W.heap.size:=globs_le hsh
 have hreach : ∀ a k c,args.toList[0]? = some (.slice a k c) → k * 16 ≤ 140737488351232:=by
  have hA2:=hA
  rw [Try.params5] at hA2
  obtain ⟨v0,vs0,d0,ds0,p0,q0,e0,e1,_,r1,_⟩:=trodAll_cons hA2
  obtain ⟨rfl,rfl⟩:=List.cons.inj e1
  intro a k c hv
  rw [e0] at hv
  have hv' : v0 = .slice a k c:=by simpa using hv
  rw [Try.params5] at hsz
  have hv0 : Value.okWide Try.prog W .any base 22 v0:=hval0 0 22 v0 (by rw [← Array.getElem?_toList,Try.params5]; rfl) (by rw [← Array.getElem?_toList,e0]; rfl)
  have r1' : DataW.Trod enc Try.prog W 0 (fun _ => true) true 22 v0 d1 p0:=r1
  have hk:=reach_first hu22 ho22 r1' hv0 hsz a k c hv'
  rwa [h16] at hk
 refine (walk_first (n:=10) (m:=16) hg (by kernel_rfl) hA (fun j t v hj hv => hval0 j t v (by simpa using hj) (by simpa using hv)) hreach walk_law).mono fun e W' ⟨he,hb⟩ => ?_
 subst he
 have hl : laidOutB Try.prog = true:=by kernel_rfl
 have hst : ∀ sp : Nat → Bool,(∀ x ∈ p,sp x.block = true) → DataW.TrodAll enc Try.prog W' 0 sp true Try.f5.params.toList args.toList [d1,d2] p :=
  fun sp hsp => stays_all hl hb _ _ _ _ (by kernel_rfl) hA hlt hsp
 exact ⟨_,rfl,post_below (pa:=p) (pv:=[]) hW' (fun _ _ _ => (trodAll_cons_mk (shut_bool Try.underlying4 _) trodAll_mk0)) (fun sp hsp => hst sp (fun x hx => hsp x (by simpa using hx))) (fun _ _ => rfl) (by simp)
  hb (ok_one (by kernel_rfl) rfl (okWide_bool_mk Try.underlying4 _))⟩
theorem over : Rows.knapFitsRow.holds Try.pinned (OpenSpec.ofChange Rows.knapFitsSpec) :=
 OpenClaim.holds_of_wide 5 Try.f5 rfl rfl rfl rfl rfl rfl rfl ⟨rfl,rfl,rfl,rfl,rfl⟩ rfl rfl rfl rfl rfl (by kernel_rfl) Try.func5 (by kernel_rfl)
  (of_decide_eq_true (by kernel_rfl)) (by unfold Func.isWrapper; first | (rw [if_pos (by decide +kernel)]; kernel_rfl) | (rw [if_neg (by decide +kernel)]; exact ⟨rfl,rfl⟩))
  (fun os started H enc _ => lifted os started H enc)
theorem proved : Rows.KnapFitsSaid :=
 over
#print axioms proved
end Go.Proofs.Ytllfcbacpoaphaa.knapFits
