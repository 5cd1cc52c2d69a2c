/-
  A slice that comes in is no longer than the form's reach.
-/
import Derived.Test.YtllfcbacpoaphaaA31
import Derived.Test.YtllfcbacpoaphaaRen
import Derived.WalkKit
import Derived.ProofKit
import Derived.OpenShut
namespace Go.Abs
open Go Go.ChangeShapes Go.WideShapes Go.ChangeAt Go.RowKit
section
variable {T : Type} {enc : TypeId × Value → T} {P : Program} {w : World}
theorem reach_first {s : Sh} {sz n b : Nat} {t e : TypeId} {ts xs : List TypeId} {v : Value} {d : DataW T} {ds gs : List (DataW T)} {p : List MemPlace} (hu : P.underlying t = some (.slice e)) (ho : okSh P n (.slice s sz) t = true)
  (h1 : DataW.Trod enc P w 0 (fun _ => true) true t v d p) (hval : Value.okWide P w .any b t v) (hw : (DataW.weightsEach P ((t :: ts) ++ xs) ((d :: ds) ++ gs)).all (· ≤ reachBytes) = true) :
  ∀ a k c,v = .slice a k c → k * P.bytesOf e ≤ 140737488351232:=by
 intro a k c hv
 obtain ⟨fuel,hf⟩:=h1
 rw [okWide_single (s:=.slice s sz) rfl ho hval] at hf
 rcases DataW.trod_slice hu hf with ⟨h0,_⟩ | ⟨a',len,cap,elems,rest,m,_,h0,hx,hb,hl,hm,hlen,_⟩
 ·rw [hv] at h0
  cases h0
  simp
 ·rw [hv] at h0
  simp only [List.cons.injEq,Value.slice.injEq,and_true] at h0
  obtain ⟨_,rfl,_⟩:=h0
  have hd : d = .slice (elems.map (·.1)) (rest.map (·.1)):=congrArg Prod.fst hx
  subst hd
  simp only [List.cons_append,DataW.weightsEach,DataW.weights,hu,List.all_cons,List.all_append,Bool.and_eq_true,decide_eq_true_eq,List.length_map] at hw
  have h3 : (elems.length + rest.length) * P.bytesOf e ≤ reachBytes:=hw.1
  rw [hlen] at h3
  have : k * P.bytesOf e ≤ (k + rest.length) * P.bytesOf e:=Nat.mul_le_mul_right _ (by omega)
  have h4 : reachBytes = 140737488351232:=rfl
  omega
theorem walk_first {f : FuncId} {ss : List Sh} {ts : List TypeId} {args : Array Value} {ds : List (DataW T)} {p : List MemPlace} {n b : Nat} {Q : AH → AH → Prop} (hg : P.globals.size ≤ w.heap.size) (ho : okArgs P n ss ts = true) (hA : DataW.TrodAll enc P w 0 (fun _ => true) true ts args.toList ds p)
  (hval : ∀ (j : Nat) t v,ts[j]? = some t → args.toList[j]? = some v → Value.okWide P w .any b t v) {m : Nat} (hlen : ∀ a k c,args.toList[0]? = some (.slice a k c) → k * m ≤ 140737488351232)
  (hlaw : ∀ (avs : List Value) (H : AH),IsAll H ss avs → (∀ a k c,avs[0]? = some (.slice a k c) → k * m ≤ 140737488351232) → AFn P f avs H fun v H' => v = .bool true ∧ Q H H') :
  Calls P f args w fun e w' => e = .returned (.bool true) ∧ Below w.heap.size w w':=by
 obtain ⟨ρ,H,avs,s1,s2,s3,s4,s5,s7⟩:=open_args (B0:=w.heap.size) n b ss ts args.toList ds p ho hA hval _ _ (Sim.start P w hg) (fun b B h => by simp [startH] at h)
 refine AFn.tells (hlaw avs H s7 fun a k c h => ?_) s1 s5
 obtain ⟨v',h1,h2⟩:=s5.get 0 _ h
 obtain ⟨a',c',rfl,_⟩:=h2.slice_len
 exact hlen a' k c' h1
theorem IsArg.pairs_ren {H : AH} (hw : WF H) {v : Value} (h : IsArg H (.slice (.cons 1 (.int .i64) (.cons 1 (.int .i64) .nil)) 2) v) : ∃ l : List (Int × Int),SlV (fun b => b < H.next) H v l:=by
 unfold IsArg at h
 rw [if_pos (by simp [Sh.single])] at h
 obtain ⟨l,w,e,h⟩:=Is.list (α:=Int × Int) hw rfl (fun _ => Is.pair_ren) h
 cases e
 exact ⟨l,h⟩
end
end Go.Abs
