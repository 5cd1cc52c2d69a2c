/-
  The row of DualLess, and its card.
-/
import Derived.Test.YtejifalflkbekaaDoorRows
import Derived.Test.YtejifalflkbekaaDoorCards
import Derived.Test.YtejifalflkbekaaDoorTie
import Derived.Test.YtejifalflkbekaaDoorDs28
import Derived.Test.YtejifalflkbekaaDoorA31
import Derived.WalkKit
import Derived.ProofKit
import Derived.OpenShut
import Derived.Stop.Joined
import Derived.SevenTiedAt
namespace Go.Proofs.YtejifalflkbekaaDoor.dualLess
open Go.Abs Go.ChangeShapes Go.WideShapes Go.ChangeAt Go.RowKit Go.WideElems
set_option linter.unusedVariables false
theorem own : ownKnob Tryd.prog.godebug = none:=by kernel_rfl
abbrev laidL : List (String × DataW Unit):=[("math/bits.deBruijn64tab",Rows.laid_math_bits_deBruijn64tab)]
theorem of_laid {W : World} (h : laidMetH Tryd.prog laidL W) : GroundW G W:=by
 rw [MakeChecks.laidMetH_plain _ _ _ (by kernel_rfl)] at h
 intro p hp
 obtain rfl:=G_mem hp
 obtain ⟨c,t,fr,h1,h2⟩:=laid_one (g:=0) (t:=T_64_uint8) (e:=T_uint8) (k:=.u8) (n:=64) (zs:=deB.map fun (n : Nat) => (n : Int)) (by kernel_rfl) (by kernel_rfl) (by kernel_rfl) (by kernel_rfl) (by kernel_rfl) (by kernel_rfl) (by decide) h
 refine ⟨c,t,fr,h1,fun i hi => ?_⟩
 rw [h2 i (by simpa using hi),List.map_map]
 rfl
def shapes : List Sh:=[.slice .bool 1,.slice shSet 2]
theorem walk_law (avs : List Value) (H : AH) (hg : GroundA G H) (h : IsAll H shapes avs) : AFn Tryd.prog 7 avs H fun v H' => v = .bool true ∧ Keep [] H H':=by
 refine AFn.wf fun hw => ?_
 obtain ⟨a,l,rfl,h1,h2⟩:=h.cons_inv
 obtain ⟨b,l,rfl,h3,h4⟩:=h2.cons_inv
 obtain rfl:=h4.nil_inv
 obtain ⟨T,hT⟩:=IsArg.bools_ren hw h1
 obtain ⟨L,hL⟩:=IsArg.sets_ren hw h3
 exact (DualLess_abs hg hT hL).mono fun v H' ⟨h1,h2⟩ => ⟨h1,h2 ▸ .refl⟩
theorem door_met (os : Os) (args : Array Value) : laidMetH Tryd.prog laidL ((World.doorLaid Tryd.prog 400 os).forCall (fun _ _ => 0) ⟨#[],args,[]⟩).memory :=
 laidMetH_of_parts3 (fuel:=8) (laidMet_of_run' 8 (by kernel_rfl) (by kernel_rfl)) (by kernel_rfl) (by kernel_rfl)
set_option maxRecDepth 100000 in
theorem lifted (os : Os) (started : os.Started) (H : Type) (enc : TypeId × Value → H) :
  ReturnsInHanded {} Tryd.checked os 7 .any (fun w args => (Rows.dualLessSpec.pre enc Tryd.prog Tryd.f7 [] false w args ∧ laidMetH Tryd.prog laidL w) ∧ sizedMet enc Tryd.prog Tryd.f7 (OpenSpec.ofChange Rows.dualLessSpec) false w args)
   (Rows.dualLessSpec.post enc Tryd.prog Tryd.f7 false true false false):=by
 refine returnsInHanded_of_change_and (C:=Tryd.checked) (X:=fun w _ => laidMetH Tryd.prog laidL w) (fun _ _ _ hh h => h.of_heap hh) own started (by kernel_rfl) Tryd.func7
  (ChangeSpec.witness_shaped (enc:=enc) (C:=Tryd.checked) (os:=os) (X:=fun w _ => laidMetH Tryd.prog laidL w) false (World.doorLaid Tryd.prog 400 os) #[.slice none 0 0,.slice none 0 0] 8 rfl (World.shaped_of_RefB (by kernel_rfl) (by kernel_rfl)) (by kernel_rfl) (by kernel_rfl) (by kernel_rfl) (door_met os _)) ?_
 intro W base args ds gs before hval0 hW _ _ hL _
 have hW':=hW
 obtain ⟨p,q,hA0,hV,rfl,hfz,hnd⟩:=hW
 have hA : DataW.TrodAll enc Tryd.prog W 0 (fun _ => true) true Tryd.f7.params.toList args.toList ds p:=hA0
 obtain ⟨rfl,rfl⟩:=trodVars_none hV
 have hlt : ∀ x ∈ p,x.block < W.heap.size:=fun x hx => by simpa using hW'.lt x (by simpa using hx)
 have hlen : ∃ d1 d2,ds = [d1,d2]:=by
  rw [Tryd.params7] at hA
  obtain ⟨v0,vs0,d0',ds0,p0,q0,_,rfl,_,_,r0⟩:=trodAll_cons hA
  obtain ⟨v1,vs1,d1',ds1,p1,q1,_,rfl,_,_,r1⟩:=trodAll_cons r0
  obtain ⟨_,rfl,_⟩:=trodAll_nil r1
  exact ⟨_,_,rfl⟩
 obtain ⟨d1,d2,rfl⟩:=hlen
 have hGW:=of_laid hL
 have hg : Tryd.prog.globals.size ≤ W.heap.size:=by
  rw [show Tryd.prog.globals.size = 1 by kernel_rfl]
  obtain ⟨c,t,fr,h1,_⟩:=hGW (0,deB.map fun (n : Nat) => (.int .u8 n : Value)) (by unfold G; exact List.mem_singleton.2 rfl)
  exact (Array.getElem?_eq_some_iff.1 h1).1
 refine (walk_allG (n:=10) (G:=G) hg goodG_ok G_look hGW (by kernel_rfl) hA (fun j t v hj hv => hval0 j t v (by simpa using hj) (by simpa using hv)) walk_law).mono fun e W' ⟨he,hb⟩ => ?_
 subst he
 have hl : laidOutB Tryd.prog = true:=by kernel_rfl
 have hst : ∀ sp : Nat → Bool,(∀ x ∈ p,sp x.block = true) → DataW.TrodAll enc Tryd.prog W' 0 sp true Tryd.f7.params.toList args.toList [d1,d2] p :=
  fun sp hsp => stays_all hl hb _ _ _ _ (by kernel_rfl) hA hlt hsp
 exact ⟨_,rfl,post_below (pa:=p) (pv:=[]) hW' (fun _ _ _ => (trodAll_cons_mk (shut_bool Tryd.underlying4 _) trodAll_mk0)) (fun sp hsp => hst sp (fun x hx => hsp x (by simpa using hx))) (fun _ _ => rfl) (by simp)
  hb (ok_one (by kernel_rfl) rfl (okWide_bool_mk Tryd.underlying4 _))⟩
theorem over : Rows.dualLessRow.holds Tryd.pinned (OpenSpec.ofChange Rows.dualLessSpec) :=
 OpenClaim.holds_of_wide 7 Tryd.f7 rfl rfl rfl rfl rfl rfl rfl ⟨rfl,rfl,rfl,rfl,rfl⟩ rfl rfl rfl rfl rfl (by kernel_rfl) Tryd.func7 (by kernel_rfl)
  (of_decide_eq_true (by kernel_rfl)) (by unfold Func.isWrapper; first | (rw [if_pos (by decide +kernel)]; kernel_rfl) | (rw [if_neg (by decide +kernel)]; exact ⟨rfl,rfl⟩))
  (fun os started H enc _ => lifted os started H enc)
theorem proved : Rows.DualLessCardSaid :=
 Claim7.holds_tied_plain_at .later [] [.data] true (true,"db3005a52d0a8e8ca1fb39d0094cb3f6467636a9e69ec929a8c919469b1ceddc") false
  over (fun _ h => by cases h) (by kernel_rfl) (fun _ h => by cases h) dualLess_row_tie rfl ⟨rfl,rfl⟩ (by kernel_rfl) rfl
  (fun f fn hf hfn => by
   obtain rfl : f = 7:=Option.some.inj ((show Tryd.prog.funcNamed "secateur/secateurlaw18.DualLess" = some 7 by kernel_rfl).symm.trans hf) |>.symm
   obtain rfl : fn = Tryd.f7:=(Option.some.inj (Tryd.func7.symm.trans hfn)).symm
   exact ⟨by kernel_rfl,fun j t ht => by
    have hm : t ∈ Tryd.f7.params.toList:=by simpa using Array.mem_of_getElem? ht
    have hall : (Tryd.f7.params.toList.all fun u => !Tryd.prog.wantsStandIn u) = true:=by kernel_rfl
    exact (show Tryd.prog.wantsStandIn t = false by simpa using List.all_eq_true.1 hall t hm)⟩)
  (by kernel_rfl)
#print axioms proved
end Go.Proofs.YtejifalflkbekaaDoor.dualLess
