/-
  An instance made, and made tame, by law15.
-/
import Derived.Test.YtlcddhgfkkjhkaaDoorAO
import Derived.Test.YtlcddhgfkkjhkaaDoorInst
import Derived.Test.YtlcddhgfkkjhkaaDoorIr15
set_option maxRecDepth 100000
set_option linter.unusedSimpArgs false
set_option linter.unusedVariables false
namespace Go.Proofs.YtlcddhgfkkjhkaaDoor.LAW15
open Go Go.Abs
open Go.Abs.Ren (R)
def nilS : Value:=.slice none 0 0
structure TwoL (H0 H' : AH) (n : Nat) (x : InstD) (ia ca sa ib cb sb : Value) : Prop where
 wf : WF H'
 keep : Keep [] H0 H'
 b2 : H'.blk (n + 1) = some (.row [.int .i64 0,.int .i64 0,nilS,nilS,.int .i64 0,nilS] T_inst_Inst true)
 b3 : H'.blk (n + 2) = some (.row [.int .i64 0,.int .i64 0,nilS,nilS,.int .i64 0,nilS] T_secateurref09_Inst true)
 b4 : H'.blk (n + 3) = some (.row (instC x ia ca sa) T_inst_Inst true)
 b5 : H'.blk (n + 4) = some (.row (instC x ib cb sb) T_secateurref09_Inst true)
 hn : n + 5 ≤ H'.next
def ItI (H0 H1 : AH) (n : Nat) (x : InstD) (iv : Value) (L : List (Int × Int)) (k : Nat) (env : Env) (H' : AH) : Prop :=
 env 4 = some (.pointer (some ⟨n + 3,0,none⟩)) ∧ env 5 = some (.pointer (some ⟨n + 4,0,none⟩)) ∧ env 33 = some iv ∧ env 34 = some (.int .i64 L.length) ∧ env 35 = some (.int .i64 k) ∧ Keep [n + 3,n + 4] H1 H' ∧
  ∃ ia ib S T,TwoL H0 H' n x ia nilS nilS ib nilS nilS ∧ OwnL (fun _ => False) H' T_inst_Item ia (L.take k) S ∧ OwnL (fun _ => False) H' T_2_int64 ib (L.take k) T ∧ (∀ b ∈ S,H1.next ≤ b) ∧ (∀ b ∈ T,H1.next ≤ b) ∧ ∀ b ∈ S,b ∉ T
def ItQ (H0 H1 : AH) (n : Nat) (x : InstD) (L : List (Int × Int)) (e : AExit) (env : Env) (H' : AH) : Prop :=
 e = .exit 0 ∧ Keep [n + 3,n + 4] H1 H' ∧ ∃ ia ib S T,TwoL H0 H' n x ia nilS nilS ib nilS nilS ∧ OwnL (fun _ => False) H' T_inst_Item ia L S ∧ OwnL (fun _ => False) H' T_2_int64 ib L T ∧ (∀ b ∈ S,H1.next ≤ b) ∧ (∀ b ∈ T,H1.next ≤ b) ∧ ∀ b ∈ S,b ∉ T
theorem take_snoc {α : Type} {L : List α} {k : Nat} (h : k < L.length) : L.take (k + 1) = L.take k ++ [L[k]]:=by rw [List.take_succ_eq_append_getElem h]
theorem insts_l2 {H0 H1 : AH} {n : Nat} {x : InstD} {iv : Value} {L : List (Int × Int)} (hw : WF H1) (h0 : H0.next = n) (h1 : n + 5 ≤ H1.next) (hL : SlV (fun b => b < n) H1 iv L) (hl : L.length ≤ 100) {env : Env} (h : ItI H0 H1 n x iv L 0 env H1) :
  wpC Tryd.prog 130 (.loop ir_law15_insts_l2) (ItQ H0 H1 n x L) env H1:=by
 refine loop_upto L.length (ItI H0 H1 n x iv L) (Q:=ItQ H0 H1 n x L) h ?_
 rintro k env H' hk ⟨e4,e5,e33,e34,e35,k',ia,ib,S,T,hT,hA,hB,hS,hTT,hST⟩
 have hn1:=k'.next
 by_cases hkn : k < L.length
 ·have hL' : SlV (fun b => b < n) H' iv L:=hL.sub (.keep hw k' (fun b hb => by simp at hb; omega))
  obtain ⟨b0,off,sp,cap,cs,rfl,q1,q2⟩:=pairs_rd hL' (by omega)
  obtain ⟨q3,q4,q5,q6,q7⟩:=q2 k hkn
  have hsn:=take_snoc hkn
  have hlk : (L.take k).length = k:=by rw [List.length_take]; omega
  generalize L[k] = y at *
  obtain ⟨y1,y2⟩:=y
  simp only at q3 q4 q5 q6 q7
  have hAb:=hA.blkOf
  have hBb:=hB.blkOf
  have hAn:=hA.lt hT.wf
  have hBn:=hB.lt hT.wf
  have hbz : (H'.alloc (.row [.int .i64 0,.int .i64 0] T_2_int64 true)).blk H'.next = some (.row [.int .i64 0,.int .i64 0] T_2_int64 true):=AH.alloc_blk_new
  have c4:=AH.cells_of hT.b4
  have c5:=AH.cells_of hT.b5
  have hn:=hT.hn
  have hcx : cut [Value.int .i64 y1,.int .i64 y2] 0 2 = some [Value.int .i64 y1,.int .i64 y2]:=rfl
  simp (disch:=omega) [-getElem?_pos,if_pos,if_neg,decide_eq_true,decide_eq_false,ir_law15_insts_l2,e4,e5,e33,e34,e35,q1,q3,writeA_row hbz,over,hcx,c4,c5,IntWalk.i64_in]
  have hS1 : S = [] ∨ ∃ b,S = [b] ∧ b < H'.next ∧ H1.next ≤ b:=by
   rcases hA.nil_or with h | ⟨b,h⟩
   ·exact .inl h
   ·exact .inr ⟨b,h,hAn b (by rw [h]; simp),hS b (by rw [h]; simp)⟩
  generalize hHb : AH.set (AH.room _ _) _ _ = Hb
  have kb : Keep [] H' Hb:=by rw [← hHb]; exact .new_set (by omega) (.trans' .alloc .room)
  have wb : WF Hb:=by rw [← hHb]; refine WF.set (WF.room (WF.alloc hT.wf)) ?_; simp
  have nb : Hb.next = H'.next + 19:=by rw [← hHb]; simp
  have cb7 : Hb.cells (H'.next + 1 + 7) = some [.int .i64 y1,.int .i64 y2]:=by rw [← hHb]; exact AH.cells_set_same
  clear hHb
  have hy : R (fun _ => False) Hb [.int .i64 y1,.int .i64 y2] (y1,y2):=⟨rfl,q6,q7⟩
  obtain ⟨b1,o1,s1,c1,Hc,p1,hA',n1,f1,i1⟩:=(hA.kept hT.wf kb).pushAt (id:=H'.next + 1 + 8) (by omega) hy 16 (fun _ h => h) (fun b h => h.elim) (by omega) (by omega)
  have wc : WF Hc:=wb.at n1 (by omega) (fun b hb => by have:=hAn b hb; omega) f1
  obtain ⟨He,hHe⟩ : ∃ He,He = Hc.set (H'.next + 1 + 12) (.row [.int .i64 y1,.int .i64 y2] T_2_int64 true):=⟨_,rfl⟩
  have we : WF He:=by rw [hHe]; exact wc.set (by omega)
  have ne : He.next = H'.next + 19:=by rw [hHe]; show Hc.next = _; omega
  have fe : ∀ b,b < H'.next → b ∉ S → He.blk b = H'.blk b:=fun b hb hs => by
   rw [hHe,AH.set_blk_ne (by omega),f1 b (by omega) hs,kb.blk b hb (by simp)]
  have ce12 : He.cells (H'.next + 1 + 12) = some [.int .i64 y1,.int .i64 y2]:=by rw [hHe]; exact AH.cells_set_same
  have hBe : OwnL (fun _ => False) He T_2_int64 ib (L.take k) T:=hB.over (fun b h => h.elim) fun b hb => fe b (hBn b hb) fun h => hST b h hb
  have hy2 : R (fun _ => False) He [.int .i64 y1,.int .i64 y2] (y1,y2):=⟨rfl,q6,q7⟩
  obtain ⟨b2,o2,s2,c2,Hd,p2,hB',n2,f2,i2⟩:=hBe.pushAt (id:=H'.next + 1 + 13) (by omega) hy2 16 (fun _ h => h) (fun b h => h.elim) (by omega) (by omega)
  have wd : WF Hd:=we.at n2 (by omega) (fun b hb => by have:=hBn b hb; omega) f2
  have hb1 : b1 = H'.next + 1 + 8 ∨ S = [b1]:=i1.symm
  have hb2 : b2 = H'.next + 1 + 13 ∨ T = [b2]:=i2.symm
  have b1l : b1 < Hd.next ∧ H1.next ≤ b1:=by
   rcases hb1 with h | h
   ·omega
   ·have:=hAn b1 (by rw [h]; simp); have:=hS b1 (by rw [h]; simp); omega
  have b2l : b2 < Hd.next ∧ H1.next ≤ b2:=by
   rcases hb2 with h | h
   ·omega
   ·have:=hBn b2 (by rw [h]; simp); have:=hTT b2 (by rw [h]; simp); omega
  have b1n : b1 ∉ T ∧ b1 ≠ H'.next + 1 + 13 ∧ b1 ≠ H'.next + 1 + 12:=by
   rcases hb1 with rfl | h
   ·exact ⟨fun h => by have:=hBn _ h; omega,by omega,by omega⟩
   ·have:=hAn b1 (by rw [h]; simp); exact ⟨hST b1 (by rw [h]; simp),by omega,by omega⟩
  have b12 : b1 ≠ b2:=by
   rcases hb2 with h | h
   ·rw [h]; exact b1n.2.1
   ·exact fun e => b1n.1 (by rw [h,e]; simp)
  have fd : ∀ b,b < H'.next → b ∉ S → b ∉ T → Hd.blk b = H'.blk b:=fun b hb hs ht => by rw [f2 b (by omega) ht,fe b hb hs]
  have hvar : ∀ b,b < n + 5 → b ∉ S ∧ b ∉ T:=fun b hb => ⟨fun h => by have:=hS b h; omega,fun h => by have:=hTT b h; omega⟩
  have d4 : Hd.blk (n + 3) = some (.row (instC x ia nilS nilS) T_inst_Inst true):=by rw [fd _ (by omega) (hvar _ (by omega)).1 (hvar _ (by omega)).2]; exact hT.b4
  have d5 : Hd.blk (n + 4) = some (.row (instC x ib nilS nilS) T_secateurref09_Inst true):=by rw [fd _ (by omega) (hvar _ (by omega)).1 (hvar _ (by omega)).2]; exact hT.b5
  have hAd : OwnL (fun _ => False) Hd T_inst_Item (.slice (some ⟨b1,o1,s1⟩) ((L.take k).length + 1) c1) (L.take k ++ [(y1,y2)]) [b1]:=hA'.over (fun b h => h.elim) fun b hb => by
   simp at hb; subst hb
   rw [f2 b b1n.2.1 b1n.1,hHe,AH.set_blk_ne b1n.2.2]
  rw [← hsn] at hAd hB'
  rw [hlk] at hAd hB' p1 p2
  obtain ⟨Hf,hHf⟩ : ∃ Hf,Hf = (Hd.set (n + 3) (.row (instC x (.slice (some ⟨b1,o1,s1⟩) (k + 1) c1) nilS nilS) T_inst_Inst true)).set (n + 4) (.row (instC x (.slice (some ⟨b2,o2,s2⟩) (k + 1) c2) nilS nilS) T_secateurref09_Inst true):=⟨_,rfl⟩
  have ff : ∀ b,b ≠ n + 3 → b ≠ n + 4 → Hf.blk b = Hd.blk b:=fun b h3 h4 => by rw [hHf,AH.set_blk_ne h4,AH.set_blk_ne h3]
  have wf' : WF Hf:=by rw [hHf]; exact (wd.set (by omega)).set (by simp; omega)
  have nf : Hf.next = H'.next + 19:=by rw [hHf]; show Hd.next = _; omega
  have hTf : TwoL H0 Hf n x (.slice (some ⟨b1,o1,s1⟩) (k + 1) c1) nilS nilS (.slice (some ⟨b2,o2,s2⟩) (k + 1) c2) nilS nilS:=by
   refine ⟨wf',⟨by omega,fun b hb _ => ?_⟩,?_,?_,?_,by rw [hHf]; exact AH.set_blk_same,by omega⟩
   ·rw [ff b (by omega) (by omega),fd b (by omega) (hvar _ (by omega)).1 (hvar _ (by omega)).2,hT.keep.blk b hb (by simp)]
   ·rw [ff _ (by omega) (by omega),fd _ (by omega) (hvar _ (by omega)).1 (hvar _ (by omega)).2,hT.b2]
   ·rw [ff _ (by omega) (by omega),fd _ (by omega) (hvar _ (by omega)).1 (hvar _ (by omega)).2,hT.b3]
   ·rw [hHf,AH.set_blk_ne (by omega),AH.set_blk_same]
  have hAf : OwnL (fun _ => False) Hf T_inst_Item (.slice (some ⟨b1,o1,s1⟩) (k + 1) c1) (L.take (k + 1)) [b1]:=hAd.over (fun b h => h.elim) fun b hb => by simp at hb; subst hb; exact ff b (by omega) (by omega)
  have hBf : OwnL (fun _ => False) Hf T_2_int64 (.slice (some ⟨b2,o2,s2⟩) (k + 1) c2) (L.take (k + 1)) [b2]:=hB'.over (fun b h => h.elim) fun b hb => by simp at hb; subst hb; exact ff b (by omega) (by omega)
  have hKf : Keep [n + 3,n + 4] H1 Hf:=by
   refine ⟨by omega,fun b hb hs => ?_⟩
   simp at hs
   rw [ff b hs.1 hs.2,fd b (by omega) (fun h => by have:=hS b h; omega) (fun h => by have:=hTT b h; omega),k'.blk b hb (by simp; omega)]
  simp only [sz_pair] at p1 p2
  have hx1 : (1 : Nat) * 2 = 2:=rfl
  have hc12 : Hc.next = H'.next + 19:=by omega
  have w4:=writeA_row (off:=2) (news:=[Value.slice (some ⟨b1,o1,s1⟩) (k + 1) c1]) d4
  have d5' : (Hd.set (n + 3) (.row (instC x (.slice (some ⟨b1,o1,s1⟩) (k + 1) c1) nilS nilS) T_inst_Inst true)).blk (n + 4) = some (.row (instC x ib nilS nilS) T_secateurref09_Inst true):=by rw [AH.set_blk_ne (by omega)]; exact d5
  have w5:=writeA_row (off:=2) (news:=[Value.slice (some ⟨b2,o2,s2⟩) (k + 1) c2]) d5'
  simp only [over,List.take_succ_cons,List.take_zero,List.drop_succ_cons,List.drop_zero,List.length_cons,List.length_nil,List.cons_append,List.nil_append] at w4 w5
  rcases hS1 with rfl | ⟨bs,rfl,hbs,hbs2⟩
  all_goals
   simp (disch:=omega) [-getElem?_pos,if_pos,if_neg,decide_eq_true,decide_eq_false,elemsA,cb7,hcx,hx1,p1,hAb,hBb,hc12,← hHe,ce12,p2,w4,w5,e4,e5,e33,e34,e35,IntWalk.i64_in]
   rw [← hHf]
   exact ⟨hkn,by simp [e4],by simp [e5],by simp [e33],by simp [e34],by simp,hKf,_,_,[b1],[b2],hTf,hAf,hBf,by simp; exact b1l.2,by simp; exact b2l.2,by simpa using b12⟩
 ·obtain rfl : k = L.length:=by omega
  simp (disch:=omega) [-getElem?_pos,if_pos,if_neg,decide_eq_true,decide_eq_false,ir_law15_insts_l2,e34,e35]
  rw [List.take_length] at hA hB
  exact ⟨rfl,k',ia,ib,S,T,hT,hA,hB,hS,hTT,hST⟩
theorem two_fin {H0 H1 H' Hd : AH} {n c : Nat} {x : InstD} {ia ca sa ib cb sb va vb : Value} {S T : List Nat} {ia' ca' sa' ib' cb' sb' : Value} (h0 : H0.next = n) (h1 : n + 5 ≤ H1.next) (hT : TwoL H0 H' n x ia ca sa ib cb sb) (k' : Keep [n + 3,n + 4] H1 H')
  (wd : WF Hd) (nd : H'.next ≤ Hd.next) (hS : ∀ b ∈ S,H1.next ≤ b) (hTT : ∀ b ∈ T,H1.next ≤ b) (fd : ∀ b,b < H'.next → b ∉ S → b ∉ T → Hd.blk b = H'.blk b)
  (hc : over (instC x ia ca sa) c [va] = instC x ia' ca' sa') (hc' : over (instC x ib cb sb) c [vb] = instC x ib' cb' sb') (hc6 : c < 6) :
  ∃ Hx Hf,writeA Hd (n + 3) c [va] = some Hx ∧ writeA Hx (n + 4) c [vb] = some Hf ∧ TwoL H0 Hf n x ia' ca' sa' ib' cb' sb' ∧ Keep [n + 3,n + 4] H1 Hf ∧ Hf.next = Hd.next ∧ ∀ b,b ≠ n + 3 → b ≠ n + 4 → Hf.blk b = Hd.blk b:=by
 have hn1:=k'.next
 have hvar : ∀ b,b < n + 5 → b ∉ S ∧ b ∉ T:=fun b hb => ⟨fun h => by have:=hS b h; omega,fun h => by have:=hTT b h; omega⟩
 have hn:=hT.hn
 have d4 : Hd.blk (n + 3) = some (.row (instC x ia ca sa) T_inst_Inst true):=by rw [fd _ (by omega) (hvar _ (by omega)).1 (hvar _ (by omega)).2]; exact hT.b4
 have d5 : Hd.blk (n + 4) = some (.row (instC x ib cb sb) T_secateurref09_Inst true):=by rw [fd _ (by omega) (hvar _ (by omega)).1 (hvar _ (by omega)).2]; exact hT.b5
 have w4:=writeA_row (off:=c) (news:=[va]) d4
 rw [if_pos (by simp; omega),hc] at w4
 have d5' : (Hd.set (n + 3) (.row (instC x ia' ca' sa') T_inst_Inst true)).blk (n + 4) = some (.row (instC x ib cb sb) T_secateurref09_Inst true):=by rw [AH.set_blk_ne (by omega)]; exact d5
 have w5:=writeA_row (off:=c) (news:=[vb]) d5'
 rw [if_pos (by simp; omega),hc'] at w5
 have ff : ∀ b,b ≠ n + 3 → b ≠ n + 4 → ((Hd.set (n + 3) (.row (instC x ia' ca' sa') T_inst_Inst true)).set (n + 4) (.row (instC x ib' cb' sb') T_secateurref09_Inst true)).blk b = Hd.blk b:=fun b h3 h4 => by rw [AH.set_blk_ne h4,AH.set_blk_ne h3]
 refine ⟨_,_,w4,w5,⟨(wd.set (by omega)).set (by simp; omega),⟨?_,fun b hb _ => ?_⟩,?_,?_,?_,AH.set_blk_same,?_⟩,⟨?_,fun b hb hs => ?_⟩,rfl,ff⟩
 ·have:=hT.keep.next; simp; omega
 ·rw [ff b (by omega) (by omega),fd b (by omega) (hvar _ (by omega)).1 (hvar _ (by omega)).2,hT.keep.blk b hb (by simp)]
 ·rw [ff _ (by omega) (by omega),fd _ (by omega) (hvar _ (by omega)).1 (hvar _ (by omega)).2,hT.b2]
 ·rw [ff _ (by omega) (by omega),fd _ (by omega) (hvar _ (by omega)).1 (hvar _ (by omega)).2,hT.b3]
 ·rw [AH.set_blk_ne (by omega),AH.set_blk_same]
 ·simp; omega
 ·simp; omega
 ·simp at hs
  rw [ff b hs.1 hs.2,fd b (by omega) (fun h => by have:=hS b h; omega) (fun h => by have:=hTT b h; omega),k'.blk b hb (by simp; omega)]
/-! ### rows -/
def EB (m : Nat) (H' : AH) (S T : List Nat) : Nat → Prop:=fun b => m ≤ b ∧ b < H'.next ∧ b ∉ S ∧ b ∉ T
def RoI (H0 H1 : AH) (n : Nat) (x : InstD) (ia ib : Value) (cv : Value) (L : List (List Int)) (k : Nat) (env : Env) (H' : AH) : Prop :=
 env 4 = some (.pointer (some ⟨n + 3,0,none⟩)) ∧ env 5 = some (.pointer (some ⟨n + 4,0,none⟩)) ∧ env 62 = some cv ∧ env 63 = some (.int .i64 L.length) ∧ env 64 = some (.int .i64 k) ∧ Keep [n + 3,n + 4] H1 H' ∧
  ∃ ca cb S T,TwoL H0 H' n x ia ca nilS ib cb nilS ∧ OwnL (EB H1.next H' S T) H' T_Lint64 ca ((L.map (·.take 70)).take k) S ∧ OwnL (EB H1.next H' S T) H' T_Lint64 cb ((L.map (·.take 70)).take k) T ∧ (∀ b ∈ S,H1.next ≤ b) ∧ (∀ b ∈ T,H1.next ≤ b) ∧ ∀ b ∈ S,b ∉ T
def RoQ (H0 H1 : AH) (n : Nat) (x : InstD) (ia ib : Value) (L : List (List Int)) (e : AExit) (env : Env) (H' : AH) : Prop :=
 e = .exit 2 ∧ Keep [n + 3,n + 4] H1 H' ∧ ∃ ca cb S T,TwoL H0 H' n x ia ca nilS ib cb nilS ∧ OwnL (EB H1.next H' S T) H' T_Lint64 ca (L.map (·.take 70)) S ∧ OwnL (EB H1.next H' S T) H' T_Lint64 cb (L.map (·.take 70)) T ∧ (∀ b ∈ S,H1.next ≤ b) ∧ (∀ b ∈ T,H1.next ≤ b) ∧ ∀ b ∈ S,b ∉ T
theorem insts_l1 {H0 H1 : AH} {n : Nat} {x : InstD} {ia ib cv : Value} {L : List (List Int)} (hw : WF H1) (h0 : H0.next = n) (h1 : n + 5 ≤ H1.next) (hL : SlV (fun b => b < n) H1 cv L) (hl : L.length ≤ 100) {env : Env} (h : RoI H0 H1 n x ia ib cv L 0 env H1) :
  wpC Tryd.prog 130 (.loop ir_law15_insts_l1) (RoQ H0 H1 n x ia ib L) env H1:=by
 refine loop_upto L.length (RoI H0 H1 n x ia ib cv L) (Q:=RoQ H0 H1 n x ia ib L) h ?_
 rintro k env H' hk ⟨e4,e5,e62,e63,e64,k',ca,cb,S,T,hT,hA,hB,hS,hTT,hST⟩
 have hn1:=k'.next
 by_cases hkn : k < L.length
 ·have hL' : SlV (fun b => b < n) H' cv L:=hL.sub (.keep hw k' (fun b hb => by simp at hb; omega))
  obtain ⟨b0,off,sp,cap,cs,rfl,q1,q2⟩:=rows_rd hL' (by omega)
  obtain ⟨yv,q3,q4⟩:=q2 k hkn
  have hsn : (L.map (·.take 70)).take (k + 1) = (L.map (·.take 70)).take k ++ [L[k].take 70]:=by rw [take_snoc (by simpa using hkn),List.getElem_map]
  have hlk : ((L.map (·.take 70)).take k).length = k:=by rw [List.length_take,List.length_map]; omega
  generalize L[k] = y at *
  obtain ⟨m,hm⟩ : ∃ m : Nat,m = min y.length 70:=⟨_,rfl⟩
  obtain ⟨zv,hsl,hz⟩:=q4.sl (m:=m) (by omega)
  have hym : y.take m = y.take 70:=by
   by_cases hc : 70 ≤ y.length
   ·rw [show m = 70 by omega]
   ·rw [List.take_of_length_le (by omega),List.take_of_length_le (by omega)]
  rw [hym] at hz
  have hzl : (y.take 70).length = m:=by rw [List.length_take]; omega
  generalize y.take 70 = z at *
  obtain ⟨ya,yc,rfl⟩:=q4.slice
  have hmm : (if (70 : Int) < (y.length : Int) then (70 : Int) else (y.length : Int)) = (m : Int):=by split <;> omega
  have hAb:=hA.blkOf
  have hBb:=hB.blkOf
  have hAn:=hA.lt hT.wf
  have hBn:=hB.lt hT.wf
  have c4:=AH.cells_of hT.b4
  have c5:=AH.cells_of hT.b5
  have hn:=hT.hn
  obtain ⟨za,zc,w1,Ha,rfl,hze,hp1,hw1,hna,hfa,hwc1⟩:=copyAt (hz.kept hT.wf (.room (m:=16))) (id:=H'.next + 3) (by simp) (ty:=T_int64) (by omega)
  simp only [sz_int] at hsl
  simp (disch:=omega) [-getElem?_pos,if_pos,if_neg,decide_eq_true,decide_eq_false,ir_law15_insts_l1,e4,e5,e62,e63,e64,q1,q3,↓ieval_slhi,hmm,hsl,c4,c5,hze,hp1,IntWalk.i64_in]
  have han : Ha.next = H'.next + 16:=by simpa using hna
  have hN : ∀ j,j < 16 → H'.next + j < Ha.next:=fun j hj => by omega
  have wa : WF Ha:=(WF.room hT.wf (m:=16)).at (S:=[]) hna (by simp) (by simp) fun b hb _ => hfa b hb
  obtain ⟨Hb,hHb⟩ : ∃ Hb,Hb = Ha.set (H'.next + 4) (.row [w1] T_Lint64 true):=⟨_,rfl⟩
  have wb : WF Hb:=by rw [hHb]; exact wa.set (hN 4 (by omega))
  have nb : Hb.next = H'.next + 16:=by rw [hHb]; simpa using hna
  have fb : ∀ b,b < H'.next → Hb.blk b = H'.blk b:=fun b hb => by rw [hHb,AH.set_blk_ne (by omega),hfa b (by omega)]; rfl
  have cb4 : Hb.cells (H'.next + 4) = some [w1]:=by rw [hHb]; exact AH.cells_set_same
  have hw1b : SlV (fun b => b = H'.next + 3) Hb w1 z:=hw1.sub fun b hb cs hc => by
   subst hb
   rw [hHb,AH.cells_set_ne (by omega)]; exact hc
  have hEB : ∀ b,EB H1.next H' S T b → b < H'.next:=fun b h => h.2.1
  have hAb' : OwnL (EB H1.next H' S T) Hb T_Lint64 ca ((L.map (·.take 70)).take k) S:=hA.over (fun b hb => fb b (hEB b hb)) fun b hb => fb b (hAn b hb)
  obtain ⟨b1,o1,s1,c1,Hc,p1,hA',n1,f1,i1⟩:=hAb'.pushAt (id:=H'.next + 5) (q:=fun b => EB H1.next H' S T b ∨ b = H'.next + 3) (by omega) (cs:=[w1]) (a:=z) ⟨w1,rfl,hw1b.mono fun b hb => .inr hb⟩ 24 (fun b hb => .inl hb)
   (fun b hb => by rcases hb with hb | hb; exact ⟨by have:=hEB b hb; omega,hb.2.2.1⟩; exact ⟨by omega,fun h => by have:=hAn b h; omega⟩) (by omega) (by omega)
  have wc : WF Hc:=wb.at n1 (by omega) (fun b hb => by have:=hAn b hb; omega) f1
  have fc : ∀ b,b < H'.next → b ∉ S → Hc.blk b = H'.blk b:=fun b hb hs => by rw [f1 b (by omega) hs,fb b hb]
  have hzc : SlV (fun b => b < n) Hc (.slice za z.length zc) z:=hz.sub fun b hb cs hc => by
   unfold AH.cells at hc ⊢
   rw [fc b (by omega) (fun h => by have:=hS b h; omega)]; exact hc
  obtain ⟨za',zc',w2,Hd,hzz,hze2,hp2,hw2,hnd,hfd,hwc2⟩:=copyAt hzc (id:=H'.next + 9) (by omega) (ty:=T_int64) (by omega)
  cases hzz
  have wd : WF Hd:=wc.at (S:=[]) hnd (by omega) (by simp) fun b hb _ => hfd b hb
  obtain ⟨He,hHe⟩ : ∃ He,He = Hd.set (H'.next + 10) (.row [w2] T_Lint64 true):=⟨_,rfl⟩
  have we : WF He:=by rw [hHe]; exact wd.set (by omega)
  have ne : He.next = H'.next + 16:=by rw [hHe]; show Hd.next = _; omega
  have ce10 : He.cells (H'.next + 10) = some [w2]:=by rw [hHe]; exact AH.cells_set_same
  have fe : ∀ b,b ≠ H'.next + 9 → b ≠ H'.next + 10 → He.blk b = Hc.blk b:=fun b h1 h2 => by rw [hHe,AH.set_blk_ne h2,hfd b h1]
  have hw2e : SlV (fun b => b = H'.next + 9) He w2 z:=hw2.sub fun b hb cs hc => by
   subst hb
   rw [hHe,AH.cells_set_ne (by omega)]; exact hc
  have hBe : OwnL (EB H1.next H' S T) He T_Lint64 cb ((L.map (·.take 70)).take k) T:=hB.over (fun b hb => by rw [fe b (by have:=hEB b hb; omega) (by have:=hEB b hb; omega),fc b (hEB b hb) hb.2.2.1])
   fun b hb => by rw [fe b (by have:=hBn b hb; omega) (by have:=hBn b hb; omega),fc b (hBn b hb) fun h => hST b h hb]
  obtain ⟨b2,o2,s2,c2,Hg,p2,hB',n2,f2,i2⟩:=hBe.pushAt (id:=H'.next + 11) (q:=fun b => EB H1.next H' S T b ∨ b = H'.next + 9) (by omega) (cs:=[w2]) (a:=z) ⟨w2,rfl,hw2e.mono fun b hb => .inr hb⟩ 24 (fun b hb => .inl hb)
   (fun b hb => by rcases hb with hb | hb; exact ⟨by have:=hEB b hb; omega,hb.2.2.2⟩; exact ⟨by omega,fun h => by have:=hBn b h; omega⟩) (by omega) (by omega)
  have wg : WF Hg:=we.at n2 (by omega) (fun b hb => by have:=hBn b hb; omega) f2
  have ng : Hg.next = H'.next + 16:=by omega
  have fg : ∀ b,b < H'.next → b ∉ S → b ∉ T → Hg.blk b = H'.blk b:=fun b hb hs ht => by rw [f2 b (by omega) ht,fe b (by omega) (by omega),fc b hb hs]
  rw [← hsn] at hA' hB'
  rw [hlk] at hA' hB' p1 p2
  obtain ⟨Hx,Hf,w4,w5,hTf,hKf,nf,ff⟩:=two_fin (c:=3) (va:=.slice (some ⟨b1,o1,s1⟩) (k + 1) c1) (vb:=.slice (some ⟨b2,o2,s2⟩) (k + 1) c2) (ia':=ia) (ca':=.slice (some ⟨b1,o1,s1⟩) (k + 1) c1) (sa':=nilS) (ib':=ib) (cb':=.slice (some ⟨b2,o2,s2⟩) (k + 1) c2) (sb':=nilS) h0 h1 hT k' wg (by omega) hS hTT fg rfl rfl (by omega)
  have hb1 : b1 = H'.next + 5 ∨ S = [b1]:=i1.symm
  have hb2 : b2 = H'.next + 11 ∨ T = [b2]:=i2.symm
  have b1l : (b1 < H'.next ∨ b1 = H'.next + 5) ∧ H1.next ≤ b1 ∧ b1 ∉ T:=by
   rcases hb1 with h | h
   ·exact ⟨.inr h,by omega,fun h' => by have:=hBn _ h'; omega⟩
   ·have:=hAn b1 (by rw [h]; simp)
    exact ⟨.inl this,hS b1 (by rw [h]; simp),hST b1 (by rw [h]; simp)⟩
  have b2l : (b2 < H'.next ∨ b2 = H'.next + 11) ∧ H1.next ≤ b2 ∧ b2 ∉ S:=by
   rcases hb2 with h | h
   ·exact ⟨.inr h,by omega,fun h' => by have:=hAn _ h'; omega⟩
   ·have:=hBn b2 (by rw [h]; simp)
    exact ⟨.inl this,hTT b2 (by rw [h]; simp),fun h' => hST b2 h' (by rw [h]; simp)⟩
  have b12 : b1 ≠ b2:=by
   rcases hb2 with h | h
   ·rcases b1l.1 with h' | h' <;> omega
   ·exact fun e => b1l.2.2 (by rw [h,e]; simp)
  have hq1 : ∀ b,(EB H1.next H' S T b ∨ b = H'.next + 3) → EB H1.next Hf [b1] [b2] b:=fun b hb => by
   rcases hb with hb | hb
   ·refine ⟨hb.1,by have:=hb.2.1; omega,?_,?_⟩
    ·simp; intro e; rcases hb1 with h | h
     ·have:=hb.2.1; omega
     ·exact hb.2.2.1 (by rw [h,e]; simp)
    ·simp; intro e; rcases hb2 with h | h
     ·have:=hb.2.1; omega
     ·exact hb.2.2.2 (by rw [h,e]; simp)
   ·refine ⟨by omega,by omega,?_,?_⟩
    ·simp; rcases b1l.1 with h | h <;> omega
    ·simp; rcases b2l.1 with h | h <;> omega
  have hq2 : ∀ b,(EB H1.next H' S T b ∨ b = H'.next + 9) → EB H1.next Hf [b1] [b2] b:=fun b hb => by
   rcases hb with hb | hb
   ·exact hq1 b (.inl hb)
   ·refine ⟨by omega,by omega,?_,?_⟩
    ·simp; rcases b1l.1 with h | h <;> omega
    ·simp; rcases b2l.1 with h | h <;> omega
  have fgc : ∀ b,b ≠ H'.next + 9 → b ≠ H'.next + 10 → b ≠ H'.next + 11 → b ∉ T → Hf.blk b = Hc.blk b ∨ b = n + 3 ∨ b = n + 4:=fun b g1 g2 g3 g4 => by
   by_cases e3 : b = n + 3
   ·exact .inr (.inl e3)
   ·by_cases e4 : b = n + 4
    ·exact .inr (.inr e4)
    ·exact .inl (by rw [ff b e3 e4,f2 b g3 g4,fe b g1 g2])
  have hAf : OwnL (EB H1.next Hf [b1] [b2]) Hf T_Lint64 (.slice (some ⟨b1,o1,s1⟩) (k + 1) c1) ((L.map (·.take 70)).take (k + 1)) [b1]:=by
   refine hA'.up hq1 (fun b hb cs hc => ?_) (fun b hb => ?_) (fun b hb => by simp at hb; subst hb; exact fun h => h.2.2.1 (by simp))
   ·unfold AH.cells at hc ⊢
    have g : Hf.blk b = Hc.blk b:=by
     have hbl : b < H'.next + 4 ∧ H1.next ≤ b ∧ b ∉ T:=by
      rcases hb with hb | hb
      ·exact ⟨by have:=hb.2.1; omega,hb.1,hb.2.2.2⟩
      ·exact ⟨by omega,by omega,fun h => by have:=hBn b h; omega⟩
     rcases fgc b (by omega) (by omega) (by omega) hbl.2.2 with g | g | g
     ·exact g
     ·omega
     ·omega
    rw [g]; exact hc
   ·simp at hb; subst hb
    rcases fgc b (by rcases b1l.1 with h | h <;> omega) (by rcases b1l.1 with h | h <;> omega) (by rcases b1l.1 with h | h <;> omega) b1l.2.2 with g | g | g
    ·exact g
    ·omega
    ·omega
  have hBf : OwnL (EB H1.next Hf [b1] [b2]) Hf T_Lint64 (.slice (some ⟨b2,o2,s2⟩) (k + 1) c2) ((L.map (·.take 70)).take (k + 1)) [b2]:=by
   refine hB'.up hq2 (fun b hb cs hc => ?_) (fun b hb => ?_) (fun b hb => by simp at hb; subst hb; exact fun h => h.2.2.2 (by simp))
   ·unfold AH.cells at hc ⊢
    have hbl : H1.next ≤ b:=by
     rcases hb with hb | hb
     ·exact hb.1
     ·omega
    rw [ff b (by omega) (by omega)]; exact hc
   ·simp at hb; subst hb
    exact ff b (by omega) (by omega)
  have hS1 : S = [] ∨ ∃ b,S = [b] ∧ b < H'.next ∧ H1.next ≤ b:=by
   rcases hA.nil_or with h | ⟨b,h⟩
   ·exact .inl h
   ·exact .inr ⟨b,h,hAn b (by rw [h]; simp),hS b (by rw [h]; simp)⟩
  simp only [sz_list] at p1 p2
  have hcn : Hc.next = H'.next + 16:=by omega
  have hdn : Hd.next = H'.next + 16:=by omega
  have hE4 : elemsA Hb 1 (.slice (some ⟨H'.next + 4,0,none⟩) 1 1) = some [w1]:=by simp [elemsA,cb4,cut]
  have hE10 : elemsA He 1 (.slice (some ⟨H'.next + 10,0,none⟩) 1 1) = some [w2]:=by simp [elemsA,ce10,cut]
  rcases hS1 with rfl | ⟨bs,rfl,hbs,hbs2⟩
  all_goals
   simp (disch:=omega) [-getElem?_pos,if_pos,if_neg,decide_eq_true,decide_eq_false,hwc1.2,hwc2.2,hwc1.1,hwc2.1,over,hN,han,← hHb,hE4,p1,hAb,hBb,hcn,hze2,hp2,hdn,← hHe,hE10,p2,w4,w5,e4,e5,e62,e63,e64,IntWalk.i64_in]
   exact ⟨hkn,by simp [e4],by simp [e5],by simp [e62],by simp [e63],by simp,hKf,_,_,[b1],[b2],hTf,hAf,hBf,by simp; exact b1l.2.1,by simp; exact b2l.2.1,by simpa using b12⟩
 ·obtain rfl : k = L.length:=by omega
  simp (disch:=omega) [-getElem?_pos,if_pos,if_neg,decide_eq_true,decide_eq_false,ir_law15_insts_l1,e63,e64]
  rw [List.take_of_length_le (by simp)] at hA hB
  exact ⟨rfl,k',ca,cb,S,T,hT,hA,hB,hS,hTT,hST⟩
theorem TwoL.kept {H0 H' H2 : AH} {n : Nat} {x : InstD} {ia ca sa ib cb sb : Value} (h : TwoL H0 H' n x ia ca sa ib cb sb) (hk : Keep [] H' H2) (hw : WF H2) : TwoL H0 H2 n x ia ca sa ib cb sb:=by
 have hn:=h.hn
 have hk':=hk.next
 refine ⟨hw,h.keep.trans' hk,?_,?_,?_,?_,by omega⟩
 ·rw [hk.blk _ (by omega) (by simp)]; exact h.b2
 ·rw [hk.blk _ (by omega) (by simp)]; exact h.b3
 ·rw [hk.blk _ (by omega) (by simp)]; exact h.b4
 ·rw [hk.blk _ (by omega) (by simp)]; exact h.b5
/-! ### sets -/
def clipS (s : SetD) : SetD:=⟨s.cost,s.elems.take 40⟩
def SeI (H0 H1 : AH) (n : Nat) (x : InstD) (ia ca ib cb : Value) (sv : Value) (L : List SetD) (k : Nat) (env : Env) (H' : AH) : Prop :=
 env 4 = some (.pointer (some ⟨n + 3,0,none⟩)) ∧ env 5 = some (.pointer (some ⟨n + 4,0,none⟩)) ∧ env 94 = some sv ∧ env 95 = some (.int .i64 L.length) ∧ env 96 = some (.int .i64 k) ∧ Keep [n + 3,n + 4] H1 H' ∧
  ∃ sa sb S T,TwoL H0 H' n x ia ca sa ib cb sb ∧ OwnL (EB H1.next H' S T) H' T_inst_Set sa ((L.map clipS).take k) S ∧ OwnL (EB H1.next H' S T) H' T_secateurref09_Set sb ((L.map clipS).take k) T ∧ (∀ b ∈ S,H1.next ≤ b) ∧ (∀ b ∈ T,H1.next ≤ b) ∧ ∀ b ∈ S,b ∉ T
def SeQ (H0 H1 : AH) (n : Nat) (x : InstD) (ia ca ib cb : Value) (L : List SetD) (e : AExit) (env : Env) (H' : AH) : Prop :=
 e = .exit 4 ∧ Keep [n + 3,n + 4] H1 H' ∧ ∃ sa sb S T,TwoL H0 H' n x ia ca sa ib cb sb ∧ OwnL (EB H1.next H' S T) H' T_inst_Set sa (L.map clipS) S ∧ OwnL (EB H1.next H' S T) H' T_secateurref09_Set sb (L.map clipS) T ∧ (∀ b ∈ S,H1.next ≤ b) ∧ (∀ b ∈ T,H1.next ≤ b) ∧ ∀ b ∈ S,b ∉ T
theorem insts_l0 {H0 H1 : AH} {n : Nat} {x : InstD} {ia ca ib cb sv : Value} {L : List SetD} (hw : WF H1) (h0 : H0.next = n) (h1 : n + 5 ≤ H1.next) (hL : SlV (fun b => b < n) H1 sv L) (hl : L.length ≤ 100) {env : Env} (h : SeI H0 H1 n x ia ca ib cb sv L 0 env H1) :
  wpC Tryd.prog 130 (.loop ir_law15_insts_l0) (SeQ H0 H1 n x ia ca ib cb L) env H1:=by
 refine loop_upto L.length (SeI H0 H1 n x ia ca ib cb sv L) (Q:=SeQ H0 H1 n x ia ca ib cb L) h ?_
 rintro k env H' hk ⟨e4,e5,e94,e95,e96,k',sa,sb,S,T,hT,hA,hB,hS,hTT,hST⟩
 have hn1:=k'.next
 by_cases hkn : k < L.length
 ·have hL' : SlV (fun b => b < n) H' sv L:=hL.sub (.keep hw k' (fun b hb => by simp at hb; omega))
  obtain ⟨b0,off,sp,cap,cs,rfl,q1,q2⟩:=sets_rd hL' (by omega)
  obtain ⟨yv,q3,q3a,q3b,qc,q4⟩:=q2 k hkn
  have hsn : (L.map clipS).take (k + 1) = (L.map clipS).take k ++ [clipS L[k]]:=by rw [take_snoc (by simpa using hkn),List.getElem_map]
  have hlk : ((L.map clipS).take k).length = k:=by rw [List.length_take,List.length_map]; omega
  generalize L[k] = ys at *
  obtain ⟨cost,y⟩:=ys
  simp only [clipS] at *
  obtain ⟨ya,yc,rfl⟩:=q4.slice
  obtain ⟨G,hG⟩ : ∃ G,G = H'.alloc (.row [.int .i64 cost,.slice ya y.length yc] T_secateurlaw15_Set true):=⟨_,rfl⟩
  have kG : Keep [] H' G:=by rw [hG]; exact .alloc
  have nG : G.next = H'.next + 1:=by rw [hG]; rfl
  have cG : G.cells H'.next = some [.int .i64 cost,.slice ya y.length yc]:=by rw [hG]; exact AH.cells_alloc_new
  have hbz : (H'.alloc (.row [.int .i64 0,.slice none 0 0] T_secateurlaw15_Set true)).blk H'.next = some (.row [.int .i64 0,.slice none 0 0] T_secateurlaw15_Set true):=AH.alloc_blk_new
  have hcx : cut [Value.int .i64 cost,.slice ya y.length yc] 0 2 = some [Value.int .i64 cost,.slice ya y.length yc]:=rfl
  have hGs : (H'.alloc (.row [.int .i64 0,.slice none 0 0] T_secateurlaw15_Set true)).set H'.next (.row [.int .i64 cost,.slice ya y.length yc] T_secateurlaw15_Set true) = G:=by rw [AH.alloc_set,hG]
  replace q4:=q4.kept hT.wf kG
  have hAn0 : ∀ b ∈ S,b < H'.next:=hA.lt hT.wf
  have hAm : ∀ b ∈ S,¬ EB H1.next G S T b:=fun b hb h => h.2.2.1 hb
  have hBm : ∀ b ∈ T,¬ EB H1.next G S T b:=fun b hb h => h.2.2.2 hb
  replace hA:=(hA.kept hT.wf kG).mono (q:=EB H1.next G S T) (fun b hb => ⟨hb.1,by have:=hb.2.1; omega,hb.2.2⟩) hAm
  replace hB:=(hB.kept hT.wf kG).mono (q:=EB H1.next G S T) (fun b hb => ⟨hb.1,by have:=hb.2.1; omega,hb.2.2⟩) hBm
  have hq0n : H1.next ≤ H'.next:=hn1
  replace k':=k'.trans' (kG.mono (S':=[n + 3,n + 4]) fun b hb => by simp at hb)
  replace hT:=hT.kept kG (by rw [hG]; exact hT.wf.alloc)
  replace hn1:=k'.next
  have hq0 : H'.next < G.next:=by omega
  generalize hq0e : H'.next = q0 at *
  obtain ⟨m,hm⟩ : ∃ m : Nat,m = min y.length 40:=⟨_,rfl⟩
  obtain ⟨zv,hsl,hz⟩:=q4.sl (m:=m) (by omega)
  have hym : y.take m = y.take 40:=by
   by_cases hc : 40 ≤ y.length
   ·rw [show m = 40 by omega]
   ·rw [List.take_of_length_le (by omega),List.take_of_length_le (by omega)]
  rw [hym] at hz
  have hzl : (y.take 40).length = m:=by rw [List.length_take]; omega
  generalize y.take 40 = z at *
  have hmm : (if (40 : Int) < (y.length : Int) then (40 : Int) else (y.length : Int)) = (m : Int):=by split <;> omega
  have hAb:=hA.blkOf
  have hBb:=hB.blkOf
  have hAn:=hA.lt hT.wf
  have hBn:=hB.lt hT.wf
  have c4:=AH.cells_of hT.b4
  have c5:=AH.cells_of hT.b5
  have hn:=hT.hn
  obtain ⟨za,zc,w1,Ha,rfl,hze,hp1,hw1,hna,hfa,hwc1⟩:=copyAt (hz.kept hT.wf (.room (m:=22))) (id:=G.next + 5) (by simp) (ty:=T_int) (by omega)
  simp only [sz_int] at hsl
  simp (disch:=omega) [-getElem?_pos,if_pos,if_neg,decide_eq_true,decide_eq_false,ir_law15_insts_l0,e4,e5,e94,e95,e96,q1,q3,hq0e,writeA_row hbz,hcx,over,hGs,cG,↓ieval_slhi,hmm,hsl,c4,c5,hze,hp1,IntWalk.i64_in]
  have han : Ha.next = G.next + 22:=by simpa using hna
  have hN : ∀ j,j < 22 → G.next + j < Ha.next:=fun j hj => by omega
  have wa : WF Ha:=(WF.room hT.wf (m:=22)).at (S:=[]) hna (by simp) (by simp) fun b hb _ => hfa b hb
  obtain ⟨Hb,hHb⟩ : ∃ Hb,Hb = Ha.set (G.next + 7) (.row [.int .i64 cost,w1] T_inst_Set true):=⟨_,rfl⟩
  have wb : WF Hb:=by rw [hHb]; exact wa.set (hN 7 (by omega))
  have nb : Hb.next = G.next + 22:=by rw [hHb]; simpa using hna
  have fb : ∀ b,b < G.next → Hb.blk b = G.blk b:=fun b hb => by rw [hHb,AH.set_blk_ne (by omega),hfa b (by omega)]; rfl
  have cb4 : Hb.cells (G.next + 7) = some [.int .i64 cost,w1]:=by rw [hHb]; exact AH.cells_set_same
  have hw1b : SlV (fun b => b = G.next + 5) Hb w1 z:=hw1.sub fun b hb cs hc => by
   subst hb
   rw [hHb,AH.cells_set_ne (by omega)]; exact hc
  have hEB : ∀ b,EB H1.next G S T b → b < G.next:=fun b h => h.2.1
  have hAb' : OwnL (EB H1.next G S T) Hb T_inst_Set sa ((L.map clipS).take k) S:=hA.over (fun b hb => fb b (hEB b hb)) fun b hb => fb b (hAn b hb)
  obtain ⟨b1,o1,s1,c1,Hc,p1,hA',n1,f1,i1⟩:=hAb'.pushAt (id:=G.next + 8) (q:=fun b => EB H1.next G S T b ∨ b = G.next + 5) (by omega) (cs:=[.int .i64 cost,w1]) (a:=⟨cost,z⟩) ⟨w1,rfl,qc,hw1b.mono fun b hb => .inr hb⟩ 32 (fun b hb => .inl hb)
   (fun b hb => by rcases hb with hb | hb; exact ⟨by have:=hEB b hb; omega,hb.2.2.1⟩; exact ⟨by omega,fun h => by have:=hAn b h; omega⟩) (by omega) (by omega)
  have wc : WF Hc:=wb.at n1 (by omega) (fun b hb => by have:=hAn b hb; omega) f1
  have fc : ∀ b,b < G.next → b ∉ S → Hc.blk b = G.blk b:=fun b hb hs => by rw [f1 b (by omega) hs,fb b hb]
  have hzc : SlV (fun b => b < n) Hc (.slice za z.length zc) z:=hz.sub fun b hb cs hc => by
   unfold AH.cells at hc ⊢
   rw [fc b (by omega) (fun h => by have:=hS b h; omega)]; exact hc
  obtain ⟨za',zc',w2,Hd,hzz,hze2,hp2,hw2,hnd,hfd,hwc2⟩:=copyAt hzc (id:=G.next + 14) (by omega) (ty:=T_int) (by omega)
  cases hzz
  have wd : WF Hd:=wc.at (S:=[]) hnd (by omega) (by simp) fun b hb _ => hfd b hb
  obtain ⟨He,hHe⟩ : ∃ He,He = Hd.set (G.next + 16) (.row [.int .i64 cost,w2] T_secateurref09_Set true):=⟨_,rfl⟩
  have we : WF He:=by rw [hHe]; exact wd.set (by omega)
  have ne : He.next = G.next + 22:=by rw [hHe]; show Hd.next = _; omega
  have ce10 : He.cells (G.next + 16) = some [.int .i64 cost,w2]:=by rw [hHe]; exact AH.cells_set_same
  have fe : ∀ b,b ≠ G.next + 14 → b ≠ G.next + 16 → He.blk b = Hc.blk b:=fun b h1 h2 => by rw [hHe,AH.set_blk_ne h2,hfd b h1]
  have hw2e : SlV (fun b => b = G.next + 14) He w2 z:=hw2.sub fun b hb cs hc => by
   subst hb
   rw [hHe,AH.cells_set_ne (by omega)]; exact hc
  have hBe : OwnL (EB H1.next G S T) He T_secateurref09_Set sb ((L.map clipS).take k) T:=hB.over (fun b hb => by rw [fe b (by have:=hEB b hb; omega) (by have:=hEB b hb; omega),fc b (hEB b hb) hb.2.2.1])
   fun b hb => by rw [fe b (by have:=hBn b hb; omega) (by have:=hBn b hb; omega),fc b (hBn b hb) fun h => hST b h hb]
  obtain ⟨b2,o2,s2,c2,Hg,p2,hB',n2,f2,i2⟩:=hBe.pushAt (id:=G.next + 17) (q:=fun b => EB H1.next G S T b ∨ b = G.next + 14) (by omega) (cs:=[.int .i64 cost,w2]) (a:=⟨cost,z⟩) ⟨w2,rfl,qc,hw2e.mono fun b hb => .inr hb⟩ 32 (fun b hb => .inl hb)
   (fun b hb => by rcases hb with hb | hb; exact ⟨by have:=hEB b hb; omega,hb.2.2.2⟩; exact ⟨by omega,fun h => by have:=hBn b h; omega⟩) (by omega) (by omega)
  have wg : WF Hg:=we.at n2 (by omega) (fun b hb => by have:=hBn b hb; omega) f2
  have ng : Hg.next = G.next + 22:=by omega
  have fg : ∀ b,b < G.next → b ∉ S → b ∉ T → Hg.blk b = G.blk b:=fun b hb hs ht => by rw [f2 b (by omega) ht,fe b (by omega) (by omega),fc b hb hs]
  rw [← hsn] at hA' hB'
  rw [hlk] at hA' hB' p1 p2
  obtain ⟨Hx,Hf,w4,w5,hTf,hKf,nf,ff⟩:=two_fin (c:=5) (va:=.slice (some ⟨b1,o1,s1⟩) (k + 1) c1) (vb:=.slice (some ⟨b2,o2,s2⟩) (k + 1) c2) (ia':=ia) (ca':=ca) (sa':=.slice (some ⟨b1,o1,s1⟩) (k + 1) c1) (ib':=ib) (cb':=cb) (sb':=.slice (some ⟨b2,o2,s2⟩) (k + 1) c2) h0 h1 hT k' wg (by omega) hS hTT fg rfl rfl (by omega)
  have hb1 : b1 = G.next + 8 ∨ S = [b1]:=i1.symm
  have hb2 : b2 = G.next + 17 ∨ T = [b2]:=i2.symm
  have b1l : (b1 < G.next ∨ b1 = G.next + 8) ∧ H1.next ≤ b1 ∧ b1 ∉ T:=by
   rcases hb1 with h | h
   ·exact ⟨.inr h,by omega,fun h' => by have:=hBn _ h'; omega⟩
   ·have:=hAn b1 (by rw [h]; simp)
    exact ⟨.inl this,hS b1 (by rw [h]; simp),hST b1 (by rw [h]; simp)⟩
  have b2l : (b2 < G.next ∨ b2 = G.next + 17) ∧ H1.next ≤ b2 ∧ b2 ∉ S:=by
   rcases hb2 with h | h
   ·exact ⟨.inr h,by omega,fun h' => by have:=hAn _ h'; omega⟩
   ·have:=hBn b2 (by rw [h]; simp)
    exact ⟨.inl this,hTT b2 (by rw [h]; simp),fun h' => hST b2 h' (by rw [h]; simp)⟩
  have b12 : b1 ≠ b2:=by
   rcases hb2 with h | h
   ·rcases b1l.1 with h' | h' <;> omega
   ·exact fun e => b1l.2.2 (by rw [h,e]; simp)
  have hq1 : ∀ b,(EB H1.next G S T b ∨ b = G.next + 5) → EB H1.next Hf [b1] [b2] b:=fun b hb => by
   rcases hb with hb | hb
   ·refine ⟨hb.1,by have:=hb.2.1; omega,?_,?_⟩
    ·simp; intro e; rcases hb1 with h | h
     ·have:=hb.2.1; omega
     ·exact hb.2.2.1 (by rw [h,e]; simp)
    ·simp; intro e; rcases hb2 with h | h
     ·have:=hb.2.1; omega
     ·exact hb.2.2.2 (by rw [h,e]; simp)
   ·refine ⟨by omega,by omega,?_,?_⟩
    ·simp; rcases b1l.1 with h | h <;> omega
    ·simp; rcases b2l.1 with h | h <;> omega
  have hq2 : ∀ b,(EB H1.next G S T b ∨ b = G.next + 14) → EB H1.next Hf [b1] [b2] b:=fun b hb => by
   rcases hb with hb | hb
   ·exact hq1 b (.inl hb)
   ·refine ⟨by omega,by omega,?_,?_⟩
    ·simp; rcases b1l.1 with h | h <;> omega
    ·simp; rcases b2l.1 with h | h <;> omega
  have fgc : ∀ b,b ≠ G.next + 14 → b ≠ G.next + 16 → b ≠ G.next + 17 → b ∉ T → Hf.blk b = Hc.blk b ∨ b = n + 3 ∨ b = n + 4:=fun b g1 g2 g3 g4 => by
   by_cases e3 : b = n + 3
   ·exact .inr (.inl e3)
   ·by_cases e4 : b = n + 4
    ·exact .inr (.inr e4)
    ·exact .inl (by rw [ff b e3 e4,f2 b g3 g4,fe b g1 g2])
  have hAf : OwnL (EB H1.next Hf [b1] [b2]) Hf T_inst_Set (.slice (some ⟨b1,o1,s1⟩) (k + 1) c1) ((L.map clipS).take (k + 1)) [b1]:=by
   refine hA'.up hq1 (fun b hb cs hc => ?_) (fun b hb => ?_) (fun b hb => by simp at hb; subst hb; exact fun h => h.2.2.1 (by simp))
   ·unfold AH.cells at hc ⊢
    have g : Hf.blk b = Hc.blk b:=by
     have hbl : b < G.next + 6 ∧ H1.next ≤ b ∧ b ∉ T:=by
      rcases hb with hb | hb
      ·exact ⟨by have:=hb.2.1; omega,hb.1,hb.2.2.2⟩
      ·exact ⟨by omega,by omega,fun h => by have:=hBn b h; omega⟩
     rcases fgc b (by omega) (by omega) (by omega) hbl.2.2 with g | g | g
     ·exact g
     ·omega
     ·omega
    rw [g]; exact hc
   ·simp at hb; subst hb
    rcases fgc b (by rcases b1l.1 with h | h <;> omega) (by rcases b1l.1 with h | h <;> omega) (by rcases b1l.1 with h | h <;> omega) b1l.2.2 with g | g | g
    ·exact g
    ·omega
    ·omega
  have hBf : OwnL (EB H1.next Hf [b1] [b2]) Hf T_secateurref09_Set (.slice (some ⟨b2,o2,s2⟩) (k + 1) c2) ((L.map clipS).take (k + 1)) [b2]:=by
   refine hB'.up hq2 (fun b hb cs hc => ?_) (fun b hb => ?_) (fun b hb => by simp at hb; subst hb; exact fun h => h.2.2.2 (by simp))
   ·unfold AH.cells at hc ⊢
    have hbl : H1.next ≤ b:=by
     rcases hb with hb | hb
     ·exact hb.1
     ·omega
    rw [ff b (by omega) (by omega)]; exact hc
   ·simp at hb; subst hb
    exact ff b (by omega) (by omega)
  have hS1 : S = [] ∨ ∃ b,S = [b] ∧ b < q0 ∧ H1.next ≤ b:=by
   rcases hA.nil_or with h | ⟨b,h⟩
   ·exact .inl h
   ·exact .inr ⟨b,h,hAn0 b (by rw [h]; simp),hS b (by rw [h]; simp)⟩
  simp only [sz_set] at p1 p2
  have hcn : Hc.next = G.next + 22:=by omega
  have hdn : Hd.next = G.next + 22:=by omega
  have hE4 : elemsA Hb 2 (.slice (some ⟨G.next + 7,0,none⟩) 1 1) = some [.int .i64 cost,w1]:=by simp [elemsA,cb4,cut]
  have hE10 : elemsA He 2 (.slice (some ⟨G.next + 16,0,none⟩) 1 1) = some [.int .i64 cost,w2]:=by simp [elemsA,ce10,cut]
  rcases hS1 with rfl | ⟨bs,rfl,hbs,hbs2⟩
  all_goals
   simp (disch:=omega) [-getElem?_pos,if_pos,if_neg,decide_eq_true,decide_eq_false,hwc1.2,hwc2.2,hwc1.1,hwc2.1,over,hN,han,← hHb,hE4,p1,hAb,hBb,hcn,hze2,hp2,hdn,← hHe,hE10,p2,w4,w5,e4,e5,e94,e95,e96,IntWalk.i64_in]
   exact ⟨hkn,by simp [e4],by simp [e5],by simp [e94],by simp [e95],by simp,hKf,_,_,[b1],[b2],hTf,hAf,hBf,by simp; exact b1l.2.1,by simp; exact b2l.2.1,by simpa using b12⟩
 ·obtain rfl : k = L.length:=by omega
  simp (disch:=omega) [-getElem?_pos,if_pos,if_neg,decide_eq_true,decide_eq_false,ir_law15_insts_l0,e95,e96]
  rw [List.take_of_length_le (by simp)] at hA hB
  exact ⟨rfl,k',sa,sb,S,T,hT,hA,hB,hS,hTT,hST⟩
end Go.Proofs.YtlcddhgfkkjhkaaDoor.LAW15
namespace Go.Proofs.YtlcddhgfkkjhkaaDoor.LAW15
open Go Go.Abs
def clipI (x : InstD) : InstD:=⟨x.kind,x.cap,x.items.take 40,(x.cost.take 70).map (·.take 70),x.size,(x.sets.take 40).map clipS⟩
theorem take_min {α : Type} (l : List α) (m : Nat) : l.take (min l.length m) = l.take m:=by
 by_cases h : m ≤ l.length
 ·rw [Nat.min_eq_right h]
 ·rw [List.take_of_length_le (by omega),List.take_of_length_le (by omega)]
abbrev New (H H' : AH) : Nat → Prop:=fun b => H.next ≤ b ∧ b < H'.next
theorem insts_spec {H : AH} {v : Value} {x : InstD} (hx : InstV (fun b => b < H.next) H v x) : AFn Tryd.prog F_law15_insts [v] H fun u H' => ∃ a b,u = .tuple #[a,b] ∧ InstV (New H H') H' a (clipI x) ∧ InstV (New H H') H' b (clipI x) ∧ Keep [] H H':=by
 obtain ⟨iv,cv,sv,rfl,i1,i2,i3,h1,h2,h3⟩:=hx
 refine AFn.enter mixed ir_law15_insts_eq (by simp [ir_law15_insts]) fun hw => ?_
 obtain ⟨n,hn⟩ : ∃ n,n = H.next:=⟨_,rfl⟩
 rw [← hn] at h1 h2 h3
 obtain ⟨ia0,ic0,rfl⟩:=h1.slice
 obtain ⟨ca0,cc0,rfl⟩:=h2.slice
 obtain ⟨sa0,sc0,rfl⟩:=h3.slice
 have m40 : (if (40 : Int) < (x.items.length : Int) then (40 : Int) else (x.items.length : Int)) = ((min x.items.length 40 : Nat) : Int):=by split <;> omega
 have m70 : (if (70 : Int) < (x.cost.length : Int) then (70 : Int) else (x.cost.length : Int)) = ((min x.cost.length 70 : Nat) : Int):=by split <;> omega
 have m41 : (if (40 : Int) < (x.sets.length : Int) then (40 : Int) else (x.sets.length : Int)) = ((min x.sets.length 40 : Nat) : Int):=by split <;> omega
 simp (disch:=omega) [-getElem?_pos,if_pos,if_neg,decide_eq_true,decide_eq_false,ir_law15_insts,over,writeA,↓ieval_slhi]
 generalize hH1 : AH.set (AH.alloc _ _) _ _ = H1
 have w1 : WF H1:=by
  rw [← hH1]
  refine WF.set (WF.alloc (WF.set (WF.alloc (WF.alloc (WF.alloc (WF.alloc hw)))) ?_)) ?_ <;> simp
 have n1 : H1.next = n + 5:=by rw [← hH1,hn]; simp
 have k1 : Keep [] H H1:=by
  rw [← hH1]
  exact .new_set (by omega) (.new_alloc (.new_set (by omega) (.new_alloc (.new_alloc (.new_alloc .alloc)))))
 have c1 : H1.cells n = some (instC x (.slice ia0 x.items.length ic0) (.slice ca0 x.cost.length cc0) (.slice sa0 x.sets.length sc0)):=by rw [← hH1,hn]; simp (disch:=omega) [if_neg,if_pos]
 have hT1 : TwoL H H1 n x nilS nilS nilS nilS nilS nilS:=by
  refine ⟨w1,k1,?_,?_,?_,?_,by omega⟩ <;> (rw [← hH1,hn]; simp (disch:=omega) [nilS,if_neg,if_pos])
 clear hH1
 have a1:=h1.kept hw k1
 have a2:=h2.kept hw k1
 have a3:=h3.kept hw k1
 obtain ⟨w,hsl,hz⟩:=a1.sl (m:=min x.items.length 40) (by omega)
 rw [take_min] at hz
 have hlw : (x.items.take 40).length = min x.items.length 40:=by rw [List.length_take]; omega
 obtain ⟨wa,wc,rfl⟩:=hz.slice
 simp only [sz_pair] at hsl
 rw [← hn]
 simp (disch:=omega) [-getElem?_pos,if_pos,if_neg,decide_eq_true,decide_eq_false,m40,hsl]
 refine wpC_use (insts_l2 (H0:=H) w1 hn.symm (by omega) hz (by omega) ⟨by simp,by simp,by simp,by simp,by simp,.refl,nilS,nilS,[],[],hT1,.nil,.nil,by simp,by simp,by simp⟩) ?_
 rintro e env2 H2 ⟨rfl,k2,ia,ib,S2,T2,hT2,hA2,hB2,hS2,hTT2,_⟩ hu2
 have w2:=hT2.wf
 have n2:=k2.next
 have P2 : ∀ {S : List Nat} {ty : Nat} {v : Value},OwnL (fun _ => False) H2 ty v (x.items.take 40) S → (∀ b ∈ S,H1.next ≤ b) → SlV (fun b => n + 5 ≤ b ∧ b < H2.next) H2 v (x.items.take 40):=fun h hS =>
  h.slv (fun b hb => hb.elim) (fun b hb => ⟨by have:=hS b hb; omega,h.lt w2 b hb⟩) (by omega)
 have sA:=P2 hA2 hS2
 have sB:=P2 hB2 hTT2
 have old : ∀ {α : Type} [Ren α] {w : Value} {l : List α},SlV (fun b => b < n) H1 w l → SlV (fun b => b < n) H2 w l:=fun h => h.sub (.keep w1 k2 fun b hb => by simp at hb; omega)
 replace a2:=old a2
 replace a3:=old a3
 have c2 : H2.cells n = some _:=cells_keep w1 k2 (by simp) c1
 obtain ⟨w,hsl,hz⟩:=a2.sl (m:=min x.cost.length 70) (by omega)
 rw [take_min] at hz
 have hlw2 : (x.cost.take 70).length = min x.cost.length 70:=by rw [List.length_take]; omega
 obtain ⟨wa2,wc2,rfl⟩:=hz.slice
 simp only [sz_list] at hsl
 have u1:=hu2 1 (by decide)
 have u2:=hu2 2 (by decide)
 have u3:=hu2 3 (by decide)
 have u4:=hu2 4 (by decide)
 have u5:=hu2 5 (by decide)
 simp (disch:=omega) [-getElem?_pos,if_pos,if_neg,decide_eq_true,decide_eq_false,u1,c2,↓ieval_slhi,m70,hsl]
 refine wpC_use (insts_l1 (H0:=H) w2 hn.symm (by omega) hz (by omega) ⟨by simp [u4],by simp [u5],by simp,by simp,by simp,.refl,nilS,nilS,[],[],hT2,.nil,.nil,by simp,by simp,by simp⟩) ?_
 rintro e env3 H3 ⟨rfl,k3,ca,cb,S3,T3,hT3,hA3,hB3,hS3,hTT3,hST3⟩ hu3
 have w3:=hT3.wf
 have n3:=k3.next
 have P3 : ∀ {S : List Nat} {ty : Nat} {v : Value} {l : List (List Int)},l.length ≤ 100 → OwnL (EB H2.next H3 S3 T3) H3 ty v l S → (∀ b ∈ S,H2.next ≤ b) → SlV (fun b => n + 5 ≤ b ∧ b < H3.next) H3 v l:=fun hl h hS =>
  h.slv (fun b hb => ⟨by have:=hb.1; omega,hb.2.1⟩) (fun b hb => ⟨by have:=hS b hb; omega,h.lt w3 b hb⟩) (by omega)
 have hml : ((x.cost.take 70).map (·.take 70)).length ≤ 100:=by rw [List.length_map]; omega
 have sA3:=P3 hml hA3 hS3
 have sB3:=P3 hml hB3 hTT3
 have mv3 : ∀ {α : Type} [Ren α] {w : Value} {l : List α},SlV (fun b => n + 5 ≤ b ∧ b < H2.next) H2 w l → SlV (fun b => n + 5 ≤ b ∧ b < H3.next) H3 w l:=fun h => h.up (fun b hb => ⟨hb.1,by omega⟩) (.keep w2 k3 fun b hb hc => by simp at hb; omega)
 replace sA:=mv3 sA
 replace sB:=mv3 sB
 have old3 : ∀ {α : Type} [Ren α] {w : Value} {l : List α},SlV (fun b => b < n) H2 w l → SlV (fun b => b < n) H3 w l:=fun h => h.sub (.keep w2 k3 fun b hb => by simp at hb; omega)
 replace a3:=old3 a3
 have c3 : H3.cells n = some _:=cells_keep w2 k3 (by simp) c2
 obtain ⟨w,hsl,hz⟩:=a3.sl (m:=min x.sets.length 40) (by omega)
 rw [take_min] at hz
 have hlw3 : (x.sets.take 40).length = min x.sets.length 40:=by rw [List.length_take]; omega
 obtain ⟨wa3,wc3,rfl⟩:=hz.slice
 simp only [sz_set] at hsl
 have v1:=hu3 1 (by decide)
 have v2:=hu3 2 (by decide)
 have v3:=hu3 3 (by decide)
 have v4:=hu3 4 (by decide)
 have v5:=hu3 5 (by decide)
 simp (disch:=omega) [-getElem?_pos,if_pos,if_neg,decide_eq_true,decide_eq_false,u1,v1,c3,↓ieval_slhi,m41,hsl]
 refine wpC_use (insts_l0 (H0:=H) w3 hn.symm (by omega) hz (by omega) ⟨by simp [v4,u4],by simp [v5,u5],by simp,by simp,by simp,.refl,nilS,nilS,[],[],hT3,.nil,.nil,by simp,by simp,by simp⟩) ?_
 rintro e env4 H4 ⟨rfl,k4,sa,sb,S4,T4,hT4,hA4,hB4,hS4,hTT4,hST4⟩ hu4
 have w4:=hT4.wf
 have n4:=k4.next
 have P4 : ∀ {S : List Nat} {ty : Nat} {v : Value} {l : List SetD},l.length ≤ 100 → OwnL (EB H3.next H4 S4 T4) H4 ty v l S → (∀ b ∈ S,H3.next ≤ b) → SlV (fun b => n + 5 ≤ b ∧ b < H4.next) H4 v l:=fun hl h hS =>
  h.slv (fun b hb => ⟨by have:=hb.1; omega,hb.2.1⟩) (fun b hb => ⟨by have:=hS b hb; omega,h.lt w4 b hb⟩) (by omega)
 have hml4 : ((x.sets.take 40).map clipS).length ≤ 100:=by rw [List.length_map]; omega
 have sA4:=P4 hml4 hA4 hS4
 have sB4:=P4 hml4 hB4 hTT4
 have mv4 : ∀ {α : Type} [Ren α] {w : Value} {l : List α},SlV (fun b => n + 5 ≤ b ∧ b < H3.next) H3 w l → SlV (fun b => n + 5 ≤ b ∧ b < H4.next) H4 w l:=fun h => h.up (fun b hb => ⟨hb.1,by omega⟩) (.keep w3 k4 fun b hb hc => by simp at hb; omega)
 replace sA:=mv4 sA
 replace sB:=mv4 sB
 replace sA3:=mv4 sA3
 replace sB3:=mv4 sB3
 have x2:=hu4 2 (by decide)
 have x3:=hu4 3 (by decide)
 have x4:=hu4 4 (by decide)
 have x5:=hu4 5 (by decide)
 have d4:=AH.cells_of hT4.b4
 have d5:=AH.cells_of hT4.b5
 have cx : ∀ (y : InstD) (i c s : Value),cut (instC y i c s) 0 6 = some (instC y i c s):=fun _ _ _ _ => rfl
 have wr2:=writeA_row (off:=0) (news:=instC x ia ca sa) (show (H4.room 4).blk (n + 1) = some (.row [.int .i64 0,.int .i64 0,nilS,nilS,.int .i64 0,nilS] T_inst_Inst true) from hT4.b2)
 have hn4:=hT4.hn
 have b3' : ((H4.room 4).set (n + 1) (.row (instC x ia ca sa) T_inst_Inst true)).blk (n + 2) = some (.row [.int .i64 0,.int .i64 0,nilS,nilS,.int .i64 0,nilS] T_secateurref09_Inst true):=by rw [AH.set_blk_ne (by omega)]; exact hT4.b3
 have wr3:=writeA_row (off:=0) (news:=instC x ib cb sb) b3'
 simp only [over,List.take_zero,List.length_cons,List.length_nil,List.nil_append,List.drop_succ_cons,List.drop_zero,List.append_nil,Nat.zero_add,Nat.le_refl,if_true] at wr2 wr3
 simp (disch:=omega) [-getElem?_pos,if_pos,if_neg,decide_eq_true,decide_eq_false,u2,u3,u4,u5,v2,v3,v4,v5,x2,x3,x4,x5,d4,d5,cx,wr2,wr3,AH.cells_set_ne]
 obtain ⟨Hf,hHf⟩ : ∃ Hf,Hf = ((H4.room 4).set (n + 1) (.row (instC x ia ca sa) T_inst_Inst true)).set (n + 2) (.row (instC x ib cb sb) T_secateurref09_Inst true):=⟨_,rfl⟩
 rw [← hHf]
 have ff : ∀ b,b ≠ n + 1 → b ≠ n + 2 → Hf.cells b = H4.cells b:=fun b g1 g2 => by rw [hHf,AH.cells_set_ne g2,AH.cells_set_ne g1]; rfl
 have nf : Hf.next = H4.next + 4:=by rw [hHf]; rfl
 have mv : ∀ {α : Type} [Ren α] {w : Value} {l : List α},SlV (fun b => n + 5 ≤ b ∧ b < H4.next) H4 w l → SlV (New H Hf) Hf w l:=fun h => h.up (fun b hb => ⟨by omega,by omega⟩) fun b hb cs hc => by rw [ff b (by omega) (by omega)]; exact hc
 have e1 : Hf.cells (n + 1) = some (instC x ia ca sa):=by rw [hHf,AH.cells_set_ne (by omega),AH.cells_set_same]
 have e2 : Hf.cells (n + 2) = some (instC x ib cb sb):=by rw [hHf,AH.cells_set_same]
 refine ⟨_,_,⟨rfl,rfl⟩,⟨ia,ca,sa,rfl,i1,i2,i3,mv sA,mv sA3,mv sA4⟩,⟨ib,cb,sb,rfl,i1,i2,i3,mv sB,mv sB3,mv sB4⟩,?_⟩
 rw [hHf]
 exact .new_set (by omega) (.new_set (by omega) (hT4.keep.trans' .room))
end Go.Proofs.YtlcddhgfkkjhkaaDoor.LAW15
namespace Go.Proofs.YtlcddhgfkkjhkaaDoor.LAW15
open Go Go.Abs
theorem mag_spec (n : Int) : ∃ z,Mag (-2147483648) z ∧ ∀ H : AH,AFn Tryd.prog F_law15_tame_1 [.int .i64 n] H fun u H' => u = .int .i64 z ∧ H' = H:=by
 refine ⟨if 2147483648 < (if n < -2147483648 then -2147483648 else n) then 2147483648 else (if n < -2147483648 then -2147483648 else n),?_,?_⟩
 ·unfold Mag; split <;> split <;> omega
 ·intro H
  refine AFn.enter mixed ir_law15_tame_1_eq (by simp [ir_law15_tame_1]) fun hw => ?_
  simp (disch:=omega) [-getElem?_pos,if_pos,if_neg,decide_eq_true,decide_eq_false,ir_law15_tame_1]
structure Tm (H0 H' : AH) (n : Nat) (xc out : List Value) : Prop where
 wf : WF H'
 keep : Keep [] H0 H'
 b0 : H'.blk n = some (.row xc T_secateurlaw15_Inst true)
 b1 : H'.blk (n + 1) = some (.row [.int .i64 0,.int .i64 0,nilS,nilS,.int .i64 0,nilS] T_secateurlaw15_Inst true)
 b2 : H'.blk (n + 2) = some (.row out T_secateurlaw15_Inst true)
 hn : n + 3 ≤ H'.next
theorem elems_new {H : AH} {cs : List Value} {t sz : Nat} (h : cs.length = sz) : elemsA (H.alloc (.row cs t true)) sz (.slice (some ⟨H.next,0,none⟩) 1 1) = some cs:=by
 have hc : (H.alloc (.row cs t true)).cells H.next = some cs:=AH.cells_of AH.alloc_blk_new
 simp [elemsA,hc,cut,h]
 rw [← h,List.take_length]
theorem tm_put {H0 H1 H' Hd : AH} {n c : Nat} {xc out out' : List Value} {va : Value} {S : List Nat} (h0 : H0.next = n) (h1 : n + 3 ≤ H1.next) (hT : Tm H0 H' n xc out) (k' : Keep [n + 2] H1 H')
  (wd : WF Hd) (kd : Keep S H' Hd) (hS : ∀ b ∈ S,H1.next ≤ b) (hc : over out c [va] = out') (hc6 : c < out.length) :
  ∃ Hf,writeA Hd (n + 2) c [va] = some Hf ∧ Tm H0 Hf n xc out' ∧ Keep [n + 2] H1 Hf ∧ Hf.next = Hd.next ∧ WF Hf ∧ ∀ b,b ≠ n + 2 → Hf.blk b = Hd.blk b:=by
 have hn1:=k'.next
 have hn2:=kd.next
 have hvar : ∀ b,b < n + 3 → b ∉ S:=fun b hb h => by have:=hS b h; omega
 have hn:=hT.hn
 have d2 : Hd.blk (n + 2) = some (.row out T_secateurlaw15_Inst true):=by rw [kd.blk _ (by omega) (hvar _ (by omega))]; exact hT.b2
 have w2:=writeA_row (off:=c) (news:=[va]) d2
 rw [if_pos (by simp; omega),hc] at w2
 have ff : ∀ b,b ≠ n + 2 → (Hd.set (n + 2) (.row out' T_secateurlaw15_Inst true)).blk b = Hd.blk b:=fun b h => AH.set_blk_ne h
 have wf : WF (Hd.set (n + 2) (.row out' T_secateurlaw15_Inst true)):=wd.set (by omega)
 refine ⟨_,w2,⟨wf,⟨?_,fun b hb _ => ?_⟩,?_,?_,AH.set_blk_same,?_⟩,⟨?_,fun b hb hs => ?_⟩,rfl,wf,ff⟩
 ·have:=hT.keep.next; simp; omega
 ·rw [ff b (by omega),kd.blk b (by omega) (hvar _ (by omega)),hT.keep.blk b hb (by simp)]
 ·rw [ff _ (by omega),kd.blk _ (by omega) (hvar _ (by omega)),hT.b0]
 ·rw [ff _ (by omega),kd.blk _ (by omega) (hvar _ (by omega)),hT.b1]
 ·simp; omega
 ·simp; omega
 ·simp at hs
  rw [ff b hs,kd.blk b (by omega) (fun h => by have:=hS b h; omega),k'.blk b hb (by simp; omega)]
def Fine (x : Int × Int) : Prop:=Mag 0 x.1 ∧ Mag 0 x.2
def TiI (H0 H1 : AH) (n : Nat) (xc : List Value) (y : InstD) (iv : Value) (N : Nat) (k : Nat) (env : Env) (H' : AH) : Prop :=
 env 5 = some (.func (.func F_law15_tame_1) #[] #[]) ∧ env 6 = some (.pointer (some ⟨n + 2,0,none⟩)) ∧ env 106 = some iv ∧ env 107 = some (.int .i64 N) ∧ env 108 = some (.int .i64 k) ∧ Keep [n + 2] H1 H' ∧
  ∃ ia M S,Tm H0 H' n xc (instC y ia nilS nilS) ∧ OwnL (fun _ => False) H' T_2_int64 ia M S ∧ M.length = k ∧ (∀ z ∈ M,Fine z) ∧ ∀ b ∈ S,H1.next ≤ b
def TiQ (H0 H1 : AH) (n : Nat) (xc : List Value) (y : InstD) (N : Nat) (e : AExit) (env : Env) (H' : AH) : Prop :=
 e = .exit 5 ∧ Keep [n + 2] H1 H' ∧ ∃ ia M S,Tm H0 H' n xc (instC y ia nilS nilS) ∧ OwnL (fun _ => False) H' T_2_int64 ia M S ∧ M.length = N ∧ (∀ z ∈ M,Fine z) ∧ ∀ b ∈ S,H1.next ≤ b
theorem tame_l5 {H0 H1 : AH} {n : Nat} {xc : List Value} {y : InstD} {iv : Value} {L : List (Int × Int)} (hw : WF H1) (h0 : H0.next = n) (h1 : n + 3 ≤ H1.next) (hL : SlV (fun b => b < n) H1 iv L) (hl : L.length ≤ 100) {env : Env} (h : TiI H0 H1 n xc y iv L.length 0 env H1) :
  wpC Tryd.prog 130 (.loop ir_law15_tame_l5) (TiQ H0 H1 n xc y L.length) env H1:=by
 refine loop_upto L.length (TiI H0 H1 n xc y iv L.length) (Q:=TiQ H0 H1 n xc y L.length) h ?_
 rintro k env H' hk ⟨e5,e6,e106,e107,e108,k',ia,M,S,hT,hA,hM,hF,hS⟩
 have hn1:=k'.next
 by_cases hkn : k < L.length
 ·have hL' : SlV (fun b => b < n) H' iv L:=hL.sub (.keep hw k' (fun b hb => by simp at hb; omega))
  obtain ⟨b0,off,sp,cap,cs,rfl,q1,q2⟩:=pairs_rd hL' (by omega)
  obtain ⟨q3,q4,q5,q6,q7⟩:=q2 k hkn
  generalize L[k] = y at *
  obtain ⟨y1,y2⟩:=y
  simp only at q3 q4 q5 q6 q7
  have hAn:=hA.lt hT.wf
  have c2:=AH.cells_of hT.b2
  have hn:=hT.hn
  have hz : (H'.alloc (.row [.int .i64 0,.int .i64 0] T_2_int64 true)).blk H'.next = some (.row [.int .i64 0,.int .i64 0] T_2_int64 true):=AH.alloc_blk_new
  simp (disch:=omega) [-getElem?_pos,if_pos,if_neg,decide_eq_true,decide_eq_false,ir_law15_tame_l5,e5,e6,e106,e107,e108,q1,q3,writeA_row hz,over,c2,IntWalk.i64_in]
  obtain ⟨z1,m1,s1⟩:=mag_spec y1
  obtain ⟨z2,m2,s2⟩:=mag_spec y2
  refine AFnD.of (s1 _) ?_
  simp (disch:=omega) [-getElem?_pos,if_pos,if_neg,decide_eq_true,decide_eq_false,]
  refine AFnD.of (s2 _) ?_
  simp (disch:=omega) [-getElem?_pos,if_pos,if_neg,decide_eq_true,decide_eq_false,]
  have f1 : Mag 0 (if 0 < z1 then z1 else 0):=by unfold Mag at *; split <;> omega
  have f2 : Mag 0 (if 0 < z2 then z2 else 0):=by unfold Mag at *; split <;> omega
  generalize (if 0 < z1 then z1 else 0) = z3 at *
  generalize (if 0 < z2 then z2 else 0) = z4 at *
  generalize hHb : AH.alloc H' _ = Hb
  have kb : Keep [] H' Hb:=by rw [← hHb]; exact .alloc
  have kb2 : Keep S H' Hb:=by rw [← hHb]; exact .alloc
  have wb : WF Hb:=by rw [← hHb]; exact WF.alloc hT.wf
  have nb : Hb.next = H'.next + 1:=by rw [← hHb]; simp
  obtain ⟨va,vc,Hc,S',p1,hA',kc,wc,i1⟩:=(hA.kept hT.wf kb).push (q:=fun _ => False) wb (cs:=[.int .i64 z3,.int .i64 z4]) (a:=(z3,z4)) ⟨rfl,by unfold Mag at f1; unfold I64; omega,by unfold Mag at f2; unfold I64; omega⟩ T_2_int64 16 (fun _ h => h) (fun _ h => h.elim) (by simp) (by omega) (by omega)
  have hHb1 : H'.next ≤ Hb.next:=kb.next
  have kc' : Keep S H' Hc:=kb2.trans' kc
  obtain ⟨Hf,w2,hTf,hKf,nf,wf,ff⟩:=tm_put (c:=2) (out':=instC y (.slice va (M.length + 1) vc) nilS nilS) h0 h1 hT k' wc kc' hS rfl (by simp)
  simp only [sz_pair] at p1
  have pE : elemsA (Hb.alloc (.row [.int .i64 z3,.int .i64 z4] T_2_int64 true)) 2 (.slice (some ⟨H'.next + 1,0,none⟩) 1 1) = some [.int .i64 z3,.int .i64 z4]:=by rw [← nb]; exact elems_new rfl
  simp (disch:=omega) [-getElem?_pos,if_pos,if_neg,decide_eq_true,decide_eq_false,pE,p1,w2,e5,e6,e106,e107,e108,IntWalk.i64_in]
  have hS' : ∀ b ∈ S',H1.next ≤ b:=fun b hb => by
   rcases i1 b hb with h | h
   ·exact hS b h
   ·omega
  exact ⟨hkn,by simp [e5],by simp [e6],by simp [e106],by simp [e107],by simp,hKf,_,_,S',hTf,hA'.over (fun b h => h.elim) fun b hb => ff b (by have:=hS' b hb; omega),by simp [hM],fun z hz => by
   rcases List.mem_append.1 hz with hz | hz
   ·exact hF z hz
   ·simp at hz; subst hz; exact ⟨f1,f2⟩,hS'⟩
 ·obtain rfl : k = L.length:=by omega
  simp (disch:=omega) [-getElem?_pos,if_pos,if_neg,decide_eq_true,decide_eq_false,ir_law15_tame_l5,e107,e108]
  exact ⟨rfl,k',ia,M,S,hT,hA,hM,hF,hS⟩
theorem Tm.kept {H0 H' Hd : AH} {n : Nat} {xc out : List Value} {S : List Nat} (hT : Tm H0 H' n xc out) (h0 : H0.next = n) (wd : WF Hd) (kd : Keep S H' Hd) (hS : ∀ b ∈ S,n + 3 ≤ b) : Tm H0 Hd n xc out:=by
 have hn:=hT.hn
 have hn2:=kd.next
 have ff : ∀ b,b < n + 3 → Hd.blk b = H'.blk b:=fun b hb => kd.blk b (by omega) fun h => by have:=hS b h; omega
 refine ⟨wd,⟨?_,fun b hb _ => ?_⟩,?_,?_,?_,by omega⟩
 ·have:=hT.keep.next; omega
 ·rw [ff b (by omega),hT.keep.blk b hb (by simp)]
 ·rw [ff _ (by omega),hT.b0]
 ·rw [ff _ (by omega),hT.b1]
 ·rw [ff _ (by omega),hT.b2]
theorem zeros_i64 (n : Nat) : zeros [Value.int .i64 0] n = List.replicate n (.int .i64 0):=by
 induction n with
 | zero => rfl
 | succ n ih => simp only [zeros,ih,List.replicate_succ]; rfl
/-! ### rows -/
def TrI (H0 H1 : AH) (n : Nat) (xc : List Value) (y : InstD) (ca : Value) (N i rb : Nat) (sp : Option Nat) (k : Nat) (env : Env) (H' : AH) : Prop :=
 env 2 = some (.pointer (some ⟨n,0,none⟩)) ∧ env 5 = some (.func (.func F_law15_tame_1) #[] #[]) ∧ env 6 = some (.pointer (some ⟨n + 2,0,none⟩)) ∧ env 16 = some (.int .i64 i) ∧ env 17 = some (.slice (some ⟨rb,0,sp⟩) N N) ∧ env 40 = some (.int .i64 N) ∧ env 41 = some (.int .i64 k) ∧ Keep [rb] H1 H' ∧
  ∃ R : List Int,Tm H0 H' n xc (instC y nilS ca nilS) ∧ OwnL (fun _ => False) H' T_int64 (.slice (some ⟨rb,0,sp⟩) N N) R [rb] ∧ R.length = N ∧ (∀ z ∈ R,Mag (-2147483648) z) ∧ (y.kind = 2 → R.getD i 0 = 0)
def TrQ (H0 H1 : AH) (n : Nat) (xc : List Value) (y : InstD) (ca : Value) (N i rb : Nat) (sp : Option Nat) (e : AExit) (env : Env) (H' : AH) : Prop :=
 e = .exit 3 ∧ Keep [rb] H1 H' ∧
  ∃ R : List Int,Tm H0 H' n xc (instC y nilS ca nilS) ∧ OwnL (fun _ => False) H' T_int64 (.slice (some ⟨rb,0,sp⟩) N N) R [rb] ∧ R.length = N ∧ (∀ z ∈ R,Mag (-2147483648) z) ∧ (y.kind = 2 → R.getD i 0 = 0)
theorem tame_l0 {H0 H1 : AH} {n : Nat} {x y : InstD} {iv cv sv ca : Value} {N i rb : Nat} {sp : Option Nat} (hw : WF H1) (h0 : H0.next = n) (h1 : n + 3 ≤ H1.next) (hrb : n + 3 ≤ rb) (hL : SlV (fun b => b < n) H1 cv x.cost) (hl : N ≤ 100) (hi : i < N) {env : Env} (h : TrI H0 H1 n (instC x iv cv sv) y ca N i rb sp 0 env H1) :
  wpC Tryd.prog 130 (.loop ir_law15_tame_l0) (TrQ H0 H1 n (instC x iv cv sv) y ca N i rb sp) env H1:=by
 refine loop_upto N (TrI H0 H1 n (instC x iv cv sv) y ca N i rb sp) (Q:=TrQ H0 H1 n (instC x iv cv sv) y ca N i rb sp) h ?_
 rintro k env H' hk ⟨e2,e5,e6,e16,e17,e40,e41,k',R,hT,hR,hN,hM,hD⟩
 have hn1:=k'.next
 by_cases hkn : k < N
 ·have hL' : SlV (fun b => b < n) H' cv x.cost:=hL.sub (.keep hw k' (fun b hb => by simp at hb; omega))
  have c0:=AH.cells_of hT.b0
  have c2:=AH.cells_of hT.b2
  obtain ⟨ca0,cc0,ecv⟩:=hL'.slice
  by_cases hi1 : i < x.cost.length
  ·obtain ⟨b0,off,sp0,cap,cs,ecv2,q1,q2⟩:=rows_rd hL' (by omega)
   obtain ⟨w,q3,q4⟩:=q2 i hi1
   obtain ⟨wa,wc,ew⟩:=q4.slice
   subst ecv2
   by_cases hj : k < x.cost[i].length
   ·obtain ⟨bw,ow,sw,capw,csw,ew2,r1,r2⟩:=ints_rd q4 (by omega)
    obtain ⟨r3,r4⟩:=r2 k hj
    subst ew2
    by_cases hkd : y.kind = 2 ∧ i = k
    ·obtain ⟨hk2,rfl⟩:=hkd
     simp (disch:=omega) [-getElem?_pos,if_pos,if_neg,decide_eq_true,decide_eq_false,ir_law15_tame_l0,e2,e5,e6,e16,e17,e40,e41,c0,c2,q1,q3,hi1,hj,hk2,r1,r3,IntWalk.i64_in]
     exact ⟨hkn,by simp [e2],by simp [e5],by simp [e6],by simp [e16],by simp [e17],by simp [e40],by simp,k',R,hT,hR,hN,hM,hD⟩
    ·obtain ⟨z,m1,s1⟩:=mag_spec x.cost[i][k]
     obtain ⟨b',o',sp',cap',cs',ev,q5,q6,_⟩:=hR.at (by omega)
     simp at q5 ev
     obtain ⟨rfl,rfl,rfl⟩:=ev.1
     obtain ⟨w1,w2,w3⟩:=hR.write (a:=z) (c:=[.int .i64 z]) q6 (k:=k) (by omega) ⟨rfl,by unfold Mag at m1; unfold I64; omega⟩
     simp only [sz_int,Nat.mul_one,Nat.zero_add] at w1 w2
     generalize hHf : AH.set H' rb _ = Hf at *
     have kf : Keep [rb] H' Hf:=by rw [← hHf]; exact ⟨Nat.le_refl _,fun b _ hb => AH.set_blk_ne (by simpa using hb)⟩
     have hrl:=hR.lt hT.wf rb (by simp)
     have wf : WF Hf:=by rw [← hHf]; exact hT.wf.set hrl
     have hTf:=hT.kept h0 wf kf (by simp; exact hrb)
     have fin : Keep [rb] H1 Hf ∧ ∃ R : List Int,Tm H0 Hf n (instC x iv (.slice (some ⟨b0,off,sp0⟩) x.cost.length cap) sv) (instC y nilS ca nilS) ∧ OwnL (fun _ => False) Hf T_int64 (.slice (some ⟨rb,0,sp⟩) N N) R [rb] ∧ R.length = N ∧ (∀ z ∈ R,Mag (-2147483648) z) ∧ (y.kind = 2 → R.getD i 0 = 0):=by
      refine ⟨k'.trans' kf,R.set k z,hTf,w2,by simp [hN],fun a ha => ?_,fun h2 => ?_⟩
      ·rcases List.mem_or_eq_of_mem_set ha with h | h
       ·exact hM a h
       ·rw [h]; exact m1
      ·rw [List.getD_eq_getElem?_getD,List.getElem?_set_ne (fun h => hkd ⟨h2,h.symm⟩),← List.getD_eq_getElem?_getD]; exact hD h2
     by_cases hk2 : y.kind = 2
     ·have hik : ¬ (i : Int) = k:=fun h => hkd ⟨hk2,by omega⟩
      simp (disch:=omega) [-getElem?_pos,if_pos,if_neg,decide_eq_true,decide_eq_false,ir_law15_tame_l0,e2,e5,e6,e16,e17,e40,e41,c0,c2,q1,q3,hi1,hj,hk2,hik,r1,r3,IntWalk.i64_in]
      refine AFn.pure (s1 _) ?_
      simp (disch:=omega) [-getElem?_pos,if_pos,if_neg,decide_eq_true,decide_eq_false,w1,e2,e5,e6,e16,e17,e40,e41,IntWalk.i64_in]
      exact ⟨hkn,by simp [e2],by simp [e5],by simp [e6],by simp [e16],by simp [e17],by simp [e40],by simp,fin⟩
     ·simp (disch:=omega) [-getElem?_pos,if_pos,if_neg,decide_eq_true,decide_eq_false,ir_law15_tame_l0,e2,e5,e6,e16,e17,e40,e41,c0,c2,q1,q3,hi1,hj,hk2,r1,r3,IntWalk.i64_in]
      refine AFn.pure (s1 _) ?_
      simp (disch:=omega) [-getElem?_pos,if_pos,if_neg,decide_eq_true,decide_eq_false,w1,e2,e5,e6,e16,e17,e40,e41,IntWalk.i64_in]
      exact ⟨hkn,by simp [e2],by simp [e5],by simp [e6],by simp [e16],by simp [e17],by simp [e40],by simp,fin⟩
   ·subst ew
    simp (disch:=omega) [-getElem?_pos,if_pos,if_neg,decide_eq_true,decide_eq_false,ir_law15_tame_l0,e2,e5,e6,e16,e17,e40,e41,c0,c2,q1,q3,hi1,hj,IntWalk.i64_in]
    exact ⟨hkn,by simp [e2],by simp [e5],by simp [e6],by simp [e16],by simp [e17],by simp [e40],by simp,k',R,hT,hR,hN,hM,hD⟩
  ·subst ecv
   simp (disch:=omega) [-getElem?_pos,if_pos,if_neg,decide_eq_true,decide_eq_false,ir_law15_tame_l0,e2,e5,e6,e16,e17,e40,e41,c0,c2,hi1,IntWalk.i64_in]
   exact ⟨hkn,by simp [e2],by simp [e5],by simp [e6],by simp [e16],by simp [e17],by simp [e40],by simp,k',R,hT,hR,hN,hM,hD⟩
 ·obtain rfl : k = N:=by omega
  simp (disch:=omega) [-getElem?_pos,if_pos,if_neg,decide_eq_true,decide_eq_false,ir_law15_tame_l0,e40,e41]
  exact ⟨rfl,k',R,hT,hR,hN,hM,hD⟩
def RB (m : Nat) (H' : AH) (S : List Nat) : Nat → Prop:=fun b => m ≤ b ∧ b < H'.next ∧ b ∉ S
def RowOk (y : InstD) (N : Nat) (M : List (List Int)) : Prop:=(∀ r ∈ M,r.length = N ∧ ∀ z ∈ r,Mag (-2147483648) z) ∧ (y.kind = 2 → ∀ k (h : k < M.length),M[k].getD k 0 = 0)
def TcI (H0 H1 : AH) (n : Nat) (xc : List Value) (y : InstD) (N : Nat) (k : Nat) (env : Env) (H' : AH) : Prop :=
 env 2 = some (.pointer (some ⟨n,0,none⟩)) ∧ env 5 = some (.func (.func F_law15_tame_1) #[] #[]) ∧ env 6 = some (.pointer (some ⟨n + 2,0,none⟩)) ∧ env 15 = some (.int .i64 N) ∧ env 34 = some (.int .i64 N) ∧ env 35 = some (.int .i64 k) ∧ Keep [n + 2] H1 H' ∧
  ∃ ca M S,Tm H0 H' n xc (instC y nilS ca nilS) ∧ OwnL (RB H1.next H' S) H' T_Lint64 ca M S ∧ M.length = k ∧ RowOk y N M ∧ ∀ b ∈ S,H1.next ≤ b
def TcQ (H0 H1 : AH) (n : Nat) (xc : List Value) (y : InstD) (N : Nat) (e : AExit) (env : Env) (H' : AH) : Prop :=
 e = .exit 1 ∧ Keep [n + 2] H1 H' ∧
  ∃ ca M S,Tm H0 H' n xc (instC y nilS ca nilS) ∧ OwnL (RB H1.next H' S) H' T_Lint64 ca M S ∧ M.length = N ∧ RowOk y N M ∧ ∀ b ∈ S,H1.next ≤ b
theorem tame_l1 {H0 H1 : AH} {n : Nat} {x y : InstD} {iv cv sv : Value} {N : Nat} (hw : WF H1) (h0 : H0.next = n) (h1 : n + 3 ≤ H1.next) (hL : SlV (fun b => b < n) H1 cv x.cost) (hl : N ≤ 100) {env : Env} (h : TcI H0 H1 n (instC x iv cv sv) y N 0 env H1) :
  wpC Tryd.prog 130 (.loop ir_law15_tame_l1) (TcQ H0 H1 n (instC x iv cv sv) y N) env H1:=by
 refine loop_upto N (TcI H0 H1 n (instC x iv cv sv) y N) (Q:=TcQ H0 H1 n (instC x iv cv sv) y N) h ?_
 rintro k env H' hk ⟨e2,e5,e6,e15,e34,e35,k',ca,M,S,hT,hA,hM,hF,hS⟩
 have hn1:=k'.next
 by_cases hkn : k < N
 ·have hL' : SlV (fun b => b < n) H' cv x.cost:=hL.sub (.keep hw k' (fun b hb => by simp at hb; omega))
  have hAn:=hA.lt hT.wf
  have hn:=hT.hn
  simp (disch:=omega) [-getElem?_pos,if_pos,if_neg,decide_eq_true,decide_eq_false,ir_law15_tame_l1,e2,e5,e6,e15,e34,e35,IntWalk.i64_in]
  generalize hHb : AH.alloc H' _ = Hb
  have kb : Keep [] H' Hb:=by rw [← hHb]; exact .alloc
  have wb : WF Hb:=by rw [← hHb]; exact WF.alloc hT.wf
  have nb : Hb.next = H'.next + 1:=by rw [← hHb]; simp
  have hR0 : OwnL (fun _ => False) Hb T_int64 (.slice (some ⟨H'.next,0,none⟩) N N) (List.replicate N (0 : Int)) [H'.next]:=by
   have hb : Hb.blk H'.next = some (.row (List.replicate N (.int .i64 0)) T_int64 true):=by rw [← hHb,AH.alloc_blk_new,← zeros_i64]
   refine ⟨List.replicate N (.int .i64 0),.inr ⟨H'.next,0,none,N,_,by simp,rfl,hb,by simp,by simp,by simp,.inl rfl⟩,fun i hi => ?_,by simp⟩
   simp at hi
   refine ⟨?_,by simp; unfold I64; omega⟩
   rw [List.getElem_replicate]
   unfold chunk
   show List.take 1 (List.drop (i * 1) _) = _
   rw [List.drop_replicate,List.take_replicate,show min 1 (N - i * 1) = 1 by omega]
   rfl
  refine wpC_use (tame_l0 (H0:=H0) (H1:=Hb) (N:=N) (i:=k) (rb:=H'.next) (sp:=none) wb h0 (by omega) (by omega) (hL'.kept hT.wf kb) hl hkn ⟨by simp [e2],by simp [e5],by simp [e6],by simp,by simp,by simp,by simp,.refl,_,hT.kept h0 wb kb (by simp),hR0,by simp,fun z hz => by rw [List.eq_of_mem_replicate hz]; unfold Mag; omega,fun _ => by simp [List.getD_eq_getElem?_getD,List.getElem?_replicate,hkn]⟩) ?_
  rintro e env2 Hc ⟨rfl,kc,R,hTc,hRc,hRN,hRM,hRD⟩ hu
  have u2:=hu 2 (by decide)
  have u5:=hu 5 (by decide)
  have u6:=hu 6 (by decide)
  have u15:=hu 15 (by decide)
  have u17:=hu 17 (by decide)
  have u34:=hu 34 (by decide)
  have u35:=hu 35 (by decide)
  have wc:=hTc.wf
  have nc:=kc.next
  have kbc : Keep [H'.next] H' Hc:=(kb.mono (by simp)).trans' kc
  have kc0 : Keep [] H' Hc:=kbc.mono (by simp)
  have c2:=AH.cells_of hTc.b2
  have hAc : OwnL (RB H1.next H' S) Hc T_Lint64 ca M S:=hA.kept hT.wf kc0
  have pE : elemsA (Hc.alloc (.row [.slice (some ⟨H'.next,0,none⟩) N N] T_Lint64 true)) 1 (.slice (some ⟨Hc.next,0,none⟩) 1 1) = some [.slice (some ⟨H'.next,0,none⟩) N N]:=elems_new rfl
  have hRs : SlV (fun b => b = H'.next) Hc (.slice (some ⟨H'.next,0,none⟩) N N) R:=hRc.slv (fun _ h => h.elim) (by simp) (by omega)
  obtain ⟨va,vc,Hd,S',p1,hA',kd,wd,i1⟩:=hAc.push (q:=fun b => RB H1.next H' S b ∨ b = H'.next) wc (cs:=[.slice (some ⟨H'.next,0,none⟩) N N]) (a:=R) ⟨_,rfl,hRs.mono fun b hb => .inr hb⟩ T_Lint64 24 (fun _ h => .inl h) (fun b hb => by rcases hb with h | h; have:=h.2.1; omega; omega)
   (fun b hb => by rintro (h | h); exact h.2.2 hb; have:=hAn b hb; omega) (by omega) (by omega)
  obtain ⟨Hf,w2,hTf,hKf,nf,wf,ff⟩:=tm_put (c:=3) (out':=instC y nilS (.slice va (M.length + 1) vc) nilS) h0 h1 hTc (k'.trans' (kc0.mono (by simp))) wd kd hS rfl (by simp)
  simp only [sz_list] at p1
  simp (disch:=omega) [-getElem?_pos,if_pos,if_neg,decide_eq_true,decide_eq_false,c2,u2,u5,u6,u15,u17,u34,u35,pE,p1,w2,e2,e5,e6,e15,e34,e35,IntWalk.i64_in]
  have hS' : ∀ b ∈ S',H1.next ≤ b:=fun b hb => by
   rcases i1 b hb with h | h
   ·exact hS b h
   ·omega
  have hA'n:=hA'.lt wd
  refine ⟨hkn,by simp [e2,u2],by simp [e5,u5],by simp [e6,u6],by simp [e15,u15],by simp [e34,u34],by simp,hKf,_,M ++ [R],S',hTf,?_,by rw [List.length_append,hM]; rfl,⟨fun r hr => ?_,fun h2 j hj => ?_⟩,hS'⟩
  ·refine hA'.up (fun b hb => ?_) (fun b hb cs hc => ?_) (fun b hb => ff b (by have:=hS' b hb; omega)) (fun b hb h => h.2.2 hb)
   ·have hd:=kd.next
    rcases hb with h | h
    ·refine ⟨h.1,by have:=h.2.1; omega,fun hs => ?_⟩
     rcases i1 b hs with g | g
     ·exact h.2.2 g
     ·have:=h.2.1; omega
    ·refine ⟨by omega,by omega,fun hs => ?_⟩
     rcases i1 b hs with g | g
     ·have:=hAn b g; omega
     ·omega
   ·have : b ≠ n + 2:=by
     rcases hb with h | h
     ·have:=h.1; omega
     ·omega
    unfold AH.cells at hc ⊢
    rw [ff b this]; exact hc
  ·rcases List.mem_append.1 hr with hr | hr
   ·exact hF.1 r hr
   ·simp at hr; subst hr; exact ⟨hRN,hRM⟩
  ·rw [List.getElem_append]
   split
   ·exact hF.2 h2 j _
   ·simp at hj
    obtain rfl : j = k:=by omega
    simpa using hRD h2
 ·obtain rfl : k = N:=by omega
  simp (disch:=omega) [-getElem?_pos,if_pos,if_neg,decide_eq_true,decide_eq_false,ir_law15_tame_l1,e34,e35]
  exact ⟨rfl,k',ca,M,S,hT,hA,hM,hF,hS⟩
/-! ### sets -/
theorem rises_up {l n m : Int} (h : n ≤ m) : ∀ {E : List Int},Rises l n E → Rises l m E
 | [],_ => trivial
 | x :: E,⟨h1,h2,h3⟩ => ⟨h1,by omega,rises_up h h3⟩
theorem rises_snoc {n : Int} : ∀ {E : List Int} {l : Int},l < n → Rises l n E → Rises l (n + 1) (E ++ [n])
 | [],l,h,_ => ⟨h,by omega,trivial⟩
 | x :: E,l,_,⟨h1,h2,h3⟩ => ⟨h1,by omega,rises_snoc h2 h3⟩
structure Sm (H1 H' : AH) (q : Nat) (c : Int) (E : List Int) : Prop where
 wf : WF H'
 keep : Keep [q] H1 H'
 own : ∃ ev S,H'.blk q = some (.row [.int .i64 c,ev] T_secateurlaw15_Set true) ∧ OwnL (fun _ => False) H' T_int ev E S ∧ ∀ b ∈ S,H1.next ≤ b
def TeI (H' : AH) (q : Nat) (e : Nat) (iv : Value) (N : Nat) (k : Nat) (env : Env) (H : AH) : Prop :=
 env 11 = some (.pointer (some ⟨q,0,none⟩)) ∧ env 12 = some (.int .i64 e) ∧ env 166 = some iv ∧ env 167 = some (.int .i64 N) ∧ env 168 = some (.int .i64 k) ∧ H = H'
def TeQ (H1 : AH) (q : Nat) (c : Int) (E : List Int) (e : Nat) (x : AExit) (env : Env) (H : AH) : Prop :=
 x = .exit 11 ∧ (Sm H1 H q c E ∨ Sm H1 H q c (E ++ [(e : Int)]))
theorem tame_l2 {H1 H' : AH} {q : Nat} {c : Int} {E : List Int} {e : Nat} {p : Nat → Prop} {iv : Value} {L : List Int} (hq : q < H1.next) (hS : Sm H1 H' q c E) (hE : E.length ≤ 100) (he : e ≤ 100) (hL : SlV p H' iv L) {env : Env} (h : TeI H' q e iv L.length 0 env H') :
  wpC Tryd.prog 130 (.loop ir_law15_tame_l2) (TeQ H1 q c E e) env H':=by
 refine loop_upto L.length (TeI H' q e iv L.length) (Q:=TeQ H1 q c E e) h ?_
 rintro k env H hk ⟨e11,e12,e166,e167,e168,rfl⟩
 have hLm:=hL.max
 by_cases hkn : k < L.length
 ·obtain ⟨b0,off,sp,cap,cs,rfl,q1,q2⟩:=ints_rd hL (by omega)
  obtain ⟨q3,q4⟩:=q2 k hkn
  obtain ⟨wf,keep,ev,S,hb,hA,hSn⟩:=hS
  have cq:=AH.cells_of hb
  generalize L[k] = z at *
  by_cases hz : (if 0 < z then z else 0).tmod 9 = e
  ·simp (disch:=omega) [-getElem?_pos,if_pos,if_neg,decide_eq_true,decide_eq_false,ir_law15_tame_l2,e11,e12,e166,e167,e168,q1,q3,cq,hz,IntWalk.i64_in]
   have pE : elemsA (H.alloc (.row [.int .i64 e] T_int true)) 1 (.slice (some ⟨H.next,0,none⟩) 1 1) = some [.int .i64 e]:=elems_new rfl
   obtain ⟨va,vc,Hd,S',p1,hA',kd,wd,i1⟩:=hA.push (q:=fun _ => False) wf (cs:=[.int .i64 e]) (a:=(e : Int)) ⟨rfl,by unfold I64; omega⟩ T_int 8 (fun _ h => h) (fun b hb => hb.elim) (by simp) (by omega) (by omega)
   have hn1:=keep.next
   have hn2:=kd.next
   have hd : Hd.blk q = some (.row [.int .i64 c,ev] T_secateurlaw15_Set true):=by rw [kd.blk q (by omega) (fun h => by have:=hSn q h; omega)]; exact hb
   have w2:=writeA_row (off:=1) (news:=[.slice va (E.length + 1) vc]) hd
   simp only [over,List.take_succ_cons,List.take_zero,List.drop_succ_cons,List.drop_zero,List.length_cons,List.length_nil,List.cons_append,List.nil_append] at w2
   simp only [sz_int] at p1
   simp (disch:=omega) [-getElem?_pos,if_pos,if_neg,decide_eq_true,decide_eq_false,pE,p1,w2,e11,e12,IntWalk.i64_in]
   have hS' : ∀ b ∈ S',H1.next ≤ b:=fun b hb => by
    rcases i1 b hb with h | h
    ·exact hSn b h
    ·omega
   refine ⟨rfl,.inr ⟨wd.set (by omega),⟨by simp; omega,fun b hb hs => ?_⟩,_,S',AH.set_blk_same,hA'.over (fun b h => h.elim) fun b hb => AH.set_blk_ne (by have:=hS' b hb; omega),hS'⟩⟩
   rw [AH.set_blk_ne (by simpa using hs),kd.blk b (by omega) (fun h => by have:=hSn b h; omega),keep.blk b hb hs]
  ·simp (disch:=omega) [-getElem?_pos,if_pos,if_neg,decide_eq_true,decide_eq_false,ir_law15_tame_l2,e11,e12,e166,e167,e168,q1,q3,cq,hz,IntWalk.i64_in]
   exact ⟨hkn,by simp [e11],by simp [e12],by simp [e166],by simp [e167],by simp,rfl⟩
 ·obtain rfl : k = L.length:=by omega
  simp (disch:=omega) [-getElem?_pos,if_pos,if_neg,decide_eq_true,decide_eq_false,ir_law15_tame_l2,e167,e168]
  exact ⟨rfl,.inl hS⟩
def TkI (H1 : AH) (q q10 : Nat) (c : Int) (xs : Value) (N : Nat) (k : Nat) (env : Env) (H : AH) : Prop :=
 env 10 = some (.pointer (some ⟨q10,0,none⟩)) ∧ env 11 = some (.pointer (some ⟨q,0,none⟩)) ∧ env 156 = some (.int .i64 N) ∧ env 157 = some (.int .i64 k) ∧ ∃ E : List Int,Sm H1 H q c E ∧ Rises (-1) k E ∧ E.length ≤ k
def TkQ (H1 : AH) (q : Nat) (c : Int) (N : Nat) (x : AExit) (env : Env) (H : AH) : Prop :=
 x = .exit 9 ∧ ∃ E : List Int,Sm H1 H q c E ∧ Rises (-1) N E ∧ E.length ≤ N
theorem tame_l3 {H1 : AH} {q q10 n : Nat} {c sc : Int} {N : Nat} {xs : Value} {L : List Int} (hw : WF H1) (hq : q < H1.next) (hq10 : q10 < H1.next) (hne : q10 ≠ q) (hnq : n ≤ q) (h10 : H1.cells q10 = some [.int .i64 sc,xs]) (hL : SlV (fun b => b < n) H1 xs L) (hN : N ≤ 100) {env : Env} (h : TkI H1 q q10 c xs N 0 env H1) :
  wpC Tryd.prog 130 (.loop ir_law15_tame_l3) (TkQ H1 q c N) env H1:=by
 refine loop_upto N (TkI H1 q q10 c xs N) (Q:=TkQ H1 q c N) h ?_
 rintro k env H hk ⟨e10,e11,e156,e157,E,hS,hE,hl⟩
 by_cases hkn : k < N
 ·have hL' : SlV (fun b => b < n) H xs L:=hL.sub (.keep hw hS.keep (fun b hb => by simp at hb; omega))
  have c10 : H.cells q10 = some [.int .i64 sc,xs]:=cells_keep hw hS.keep (by simpa using hne) h10
  obtain ⟨m,hm⟩ : ∃ m : Nat,m = min L.length 40:=⟨_,rfl⟩
  obtain ⟨w,hsl,hz⟩:=hL'.sl (m:=m) (by omega)
  have hmm : (if (40 : Int) < (L.length : Int) then (40 : Int) else (L.length : Int)) = (m : Int):=by split <;> omega
  obtain ⟨xa,xc,rfl⟩:=hL'.slice
  have hzl : (L.take m).length = m:=by rw [List.length_take]; omega
  generalize L.take m = Z at *
  obtain ⟨wa,wc,rfl⟩:=hz.slice
  simp only [sz_int] at hsl
  simp (disch:=omega) [-getElem?_pos,if_pos,if_neg,decide_eq_true,decide_eq_false,ir_law15_tame_l3,e10,e11,e156,e157,c10,↓ieval_slhi,hmm,hsl,IntWalk.i64_in]
  refine wpC_use (tame_l2 (e:=k) hq hS (by omega) (by omega) hz ⟨by simp [e11],by simp,by simp [hzl],by simp [hzl],by simp,rfl⟩) ?_
  rintro e env2 H' ⟨rfl,hS'⟩ hu
  have u10:=hu 10 (by decide)
  have u11:=hu 11 (by decide)
  have u156:=hu 156 (by decide)
  have u157:=hu 157 (by decide)
  simp (disch:=omega) [-getElem?_pos,if_pos,if_neg,decide_eq_true,decide_eq_false,u10,u11,u156,u157,e10,e11,e156,e157,IntWalk.i64_in]
  refine ⟨hkn,by simp [u10,e10],by simp [u11,e11],by simp [u156,e156],by simp,?_⟩
  rcases hS' with hS' | hS'
  ·exact ⟨E,hS',rises_up (by omega) hE,by omega⟩
  ·exact ⟨_,hS',by have:=rises_snoc (n:=k) (by omega) hE; simpa using this,by simp; omega⟩
 ·obtain rfl : k = N:=by omega
  simp (disch:=omega) [-getElem?_pos,if_pos,if_neg,decide_eq_true,decide_eq_false,ir_law15_tame_l3,e156,e157]
  exact ⟨rfl,E,hS,hE,hl⟩
def SetOk (N : Nat) (M : List SetD) : Prop:=∀ s ∈ M,Mag 0 s.cost ∧ Rises (-1) N s.elems ∧ s.elems.length ≤ N
def TsI (H0 H1 : AH) (n : Nat) (xc : List Value) (y : InstD) (iv : Value) (N : Nat) (k : Nat) (env : Env) (H' : AH) : Prop :=
 env 5 = some (.func (.func F_law15_tame_1) #[] #[]) ∧ env 6 = some (.pointer (some ⟨n + 2,0,none⟩)) ∧ env 143 = some iv ∧ env 144 = some (.int .i64 N) ∧ env 145 = some (.int .i64 k) ∧ Keep [n + 2] H1 H' ∧
  ∃ sa M S,Tm H0 H' n xc (instC y nilS nilS sa) ∧ OwnL (RB H1.next H' S) H' T_secateurlaw15_Set sa M S ∧ M.length = k ∧ SetOk y.size.toNat M ∧ ∀ b ∈ S,H1.next ≤ b
def TsQ (H0 H1 : AH) (n : Nat) (xc : List Value) (y : InstD) (N : Nat) (e : AExit) (env : Env) (H' : AH) : Prop :=
 e = .exit 7 ∧ Keep [n + 2] H1 H' ∧
  ∃ sa M S,Tm H0 H' n xc (instC y nilS nilS sa) ∧ OwnL (RB H1.next H' S) H' T_secateurlaw15_Set sa M S ∧ M.length = N ∧ SetOk y.size.toNat M ∧ ∀ b ∈ S,H1.next ≤ b
theorem tame_l4 {H0 H1 : AH} {n : Nat} {xc : List Value} {y : InstD} {iv : Value} {L : List SetD} {Z : Nat} (hw : WF H1) (h0 : H0.next = n) (h1 : n + 3 ≤ H1.next) (hZ : y.size = Z) (hZ9 : Z < 9) (hL : SlV (fun b => b < n) H1 iv L) (hl : L.length ≤ 100) {env : Env} (h : TsI H0 H1 n xc y iv L.length 0 env H1) :
  wpC Tryd.prog 130 (.loop ir_law15_tame_l4) (TsQ H0 H1 n xc y L.length) env H1:=by
 refine loop_upto L.length (TsI H0 H1 n xc y iv L.length) (Q:=TsQ H0 H1 n xc y L.length) h ?_
 rintro k env H' hk ⟨e5,e6,e143,e144,e145,k',sa,M,S,hT,hA,hM,hF,hS⟩
 have hn1:=k'.next
 by_cases hkn : k < L.length
 ·have hL' : SlV (fun b => b < n) H' iv L:=hL.sub (.keep hw k' (fun b hb => by simp at hb; omega))
  obtain ⟨b0,off,sp,cap,cs,rfl,q1,q2⟩:=sets_rd hL' (by omega)
  obtain ⟨xv,q3,q4,q5,q6,q7⟩:=q2 k hkn
  generalize L[k] = s at *
  have hAn:=hA.lt hT.wf
  have hn:=hT.hn
  obtain ⟨z1,m1,s1⟩:=mag_spec s.cost
  have hz : ∀ {H : AH},(H.alloc (.row [.int .i64 0,.slice none 0 0] T_secateurlaw15_Set true)).blk H.next = some (.row [.int .i64 0,.slice none 0 0] T_secateurlaw15_Set true):=fun {H} => AH.alloc_blk_new
  simp (disch:=omega) [-getElem?_pos,if_pos,if_neg,decide_eq_true,decide_eq_false,ir_law15_tame_l4,e5,e6,e143,e144,e145,q1,q3,writeA_row hz,over,IntWalk.i64_in]
  refine AFn.pure (s1 _) ?_
  have hz2 : ((H'.alloc (.row [.int .i64 s.cost,xv] T_secateurlaw15_Set true)).alloc (.row [.int .i64 0,.slice none 0 0] T_secateurlaw15_Set true)).blk (H'.next + 1) = some (.row [.int .i64 0,.slice none 0 0] T_secateurlaw15_Set true):=hz
  have c2:=AH.cells_of hT.b2
  have f1 : Mag 0 (if 0 < z1 then z1 else 0):=by unfold Mag at *; split <;> omega
  simp (disch:=omega) [-getElem?_pos,if_pos,if_neg,decide_eq_true,decide_eq_false,writeA_row hz2,over,c2,e5,e6,e143,e144,e145,hZ,IntWalk.i64_in]
  generalize (if 0 < z1 then z1 else 0) = z3 at *
  generalize hHb : AH.set _ _ _ = Hb
  have kb : Keep [] H' Hb:=by rw [← hHb]; exact .new_set (by omega) (.new_alloc .alloc)
  have wb : WF Hb:=by rw [← hHb]; refine WF.set (WF.alloc (WF.alloc hT.wf)) ?_; simp
  have nb : Hb.next = H'.next + 2:=by rw [← hHb]; simp
  have cb : Hb.cells H'.next = some [.int .i64 s.cost,xv]:=by rw [← hHb]; simp (disch:=omega) [if_neg,if_pos]
  have bb : Hb.blk (H'.next + 1) = some (.row [.int .i64 z3,nilS] T_secateurlaw15_Set true):=by rw [← hHb]; exact AH.set_blk_same
  clear hHb
  have hxv : SlV (fun b => b < n) Hb xv s.elems:=q7.kept hT.wf kb
  refine wpC_use (tame_l3 (H1:=Hb) (q:=H'.next + 1) (q10:=H'.next) (N:=Z) (c:=z3) (n:=n) wb (by omega) (by omega) (by omega) (by omega) cb hxv (by omega) ⟨by simp,by simp,by simp,by simp,[],⟨wb,.refl,_,[],bb,.nil,by simp⟩,trivial,by simp⟩) ?_
  rintro e env2 Hc ⟨rfl,E,⟨wc,kc,ev,Se,bc,hEo,hSe⟩,hE,hEl⟩ hu
  have u5:=hu 5 (by decide)
  have u6:=hu 6 (by decide)
  have u11:=hu 11 (by decide)
  have u143:=hu 143 (by decide)
  have u144:=hu 144 (by decide)
  have u145:=hu 145 (by decide)
  have nc:=kc.next
  have kc0 : Keep [] H' Hc:=((kb.mono (S':=[H'.next + 1]) (by simp)).trans' kc).mono (by simp)
  have hTc:=hT.kept h0 wc kc0 (by simp)
  have c2':=AH.cells_of hTc.b2
  have c11:=AH.cells_of bc
  have hAc : OwnL (RB H1.next H' S) Hc T_secateurlaw15_Set sa M S:=hA.kept hT.wf kc0
  have pE : elemsA (Hc.alloc (.row [.int .i64 z3,ev] T_secateurlaw15_Set true)) 2 (.slice (some ⟨Hc.next,0,none⟩) 1 1) = some [.int .i64 z3,ev]:=elems_new rfl
  have hEs : SlV (fun b => H'.next ≤ b ∧ b < Hc.next) Hc ev E:=hEo.slv (fun _ h => h.elim) (fun b hb => ⟨by have:=hSe b hb; omega,hEo.lt wc b hb⟩) (by omega)
  have hev:=hEs.cell
  obtain ⟨va,vc,Hd,S',p1,hA',kd,wd,i1⟩:=hAc.push (q:=fun b => RB H1.next H' S b ∨ (H'.next ≤ b ∧ b < Hc.next)) wc (cs:=[.int .i64 z3,ev]) (a:=(⟨z3,E⟩ : SetD)) ⟨ev,rfl,by unfold Mag at f1; unfold I64; simp; omega,hEs.mono fun b hb => .inr hb⟩ T_secateurlaw15_Set 32 (fun _ h => .inl h) (fun b hb => by rcases hb with h | h; have:=h.2.1; omega; omega)
   (fun b hb => by rintro (h | h); exact h.2.2 hb; have:=hAn b hb; omega) (by omega) (by omega)
  obtain ⟨Hf,w2,hTf,hKf,nf,wf,ff⟩:=tm_put (c:=5) (out':=instC y nilS nilS (.slice va (M.length + 1) vc)) h0 h1 hTc (k'.trans' (kc0.mono (by simp))) wd kd hS rfl (by simp)
  simp only [sz_set] at p1
  have hcx : cut [Value.int .i64 z3,ev] 0 2 = some [Value.int .i64 z3,ev]:=rfl
  simp (disch:=omega) [-getElem?_pos,if_pos,if_neg,decide_eq_true,decide_eq_false,c2',c11,hcx,over,u5,u6,u11,u143,u144,u145,hev.1,hev.2,pE,p1,w2,e5,e6,e143,e144,e145,IntWalk.i64_in]
  have hS' : ∀ b ∈ S',H1.next ≤ b:=fun b hb => by
   rcases i1 b hb with h | h
   ·exact hS b h
   ·omega
  refine ⟨hkn,by simp [e5,u5],by simp [e6,u6],by simp [e143,u143],by simp [e144,u144],by simp,hKf,_,M ++ [⟨z3,E⟩],S',hTf,?_,by rw [List.length_append,hM]; rfl,fun r hr => ?_,hS'⟩
  ·refine hA'.up (fun b hb => ?_) (fun b hb cs hc => ?_) (fun b hb => ff b (by have:=hS' b hb; omega)) (fun b hb h => h.2.2 hb)
   ·have hd:=kd.next
    rcases hb with h | h
    ·refine ⟨h.1,by have:=h.2.1; omega,fun hs => ?_⟩
     rcases i1 b hs with g | g
     ·exact h.2.2 g
     ·have:=h.2.1; omega
    ·refine ⟨by omega,by omega,fun hs => ?_⟩
     rcases i1 b hs with g | g
     ·have:=hAn b g; omega
     ·omega
   ·have : b ≠ n + 2:=by
     rcases hb with h | h
     ·have:=h.1; omega
     ·omega
    unfold AH.cells at hc ⊢
    rw [ff b this]; exact hc
  ·rcases List.mem_append.1 hr with hr | hr
   ·exact hF r hr
   ·simp at hr; subst hr
    rw [hZ]
    exact ⟨f1,by simpa using hE,by simpa using hEl⟩
 ·obtain rfl : k = L.length:=by omega
  simp (disch:=omega) [-getElem?_pos,if_pos,if_neg,decide_eq_true,decide_eq_false,ir_law15_tame_l4,e144,e145]
  exact ⟨rfl,k',sa,M,S,hT,hA,hM,hF,hS⟩
end Go.Proofs.YtlcddhgfkkjhkaaDoor.LAW15
namespace Go.Proofs.YtlcddhgfkkjhkaaDoor.LAW15
open Go Go.Abs
structure Tame (m : Nat) (y : InstD) : Prop where
 ok : y.Ok
 items : y.items.length ≤ m
 cost : y.cost.length < m
 sets : y.sets.length ≤ m
 size : y.size ≤ 8
 elems : ∀ s ∈ y.sets,s.elems.length ≤ 8
theorem mod4 (k : Int) : ∃ d,d = ((k.tmod 4 + 4).tmod 4) ∧ 0 ≤ d ∧ d < 4 ∧ -3 ≤ k.tmod 4 ∧ k.tmod 4 ≤ 3:=by
 refine ⟨_,rfl,?_⟩
 have h1 : -3 ≤ k.tmod 4 ∧ k.tmod 4 ≤ 3:=by
  have a:=Int.tmod_lt_of_pos k (show (0:Int) < 4 by omega)
  have b:=Int.lt_tmod_of_pos k (show (0:Int) < 4 by omega)
  omega
 have h2 : 0 ≤ k.tmod 4 + 4:=by omega
 rw [Int.tmod_eq_emod_of_nonneg h2]
 omega
theorem mod9 (k : Int) : ∃ Z : Nat,(if 0 < k then k else 0).tmod 9 = (Z : Int) ∧ Z < 9:=by
 have h : (0 : Int) ≤ if 0 < k then k else 0:=by split <;> omega
 rw [Int.tmod_eq_emod_of_nonneg h]
 exact ⟨((if 0 < k then k else 0) % 9).toNat,by omega,by omega⟩
theorem tm_start {H : AH} (hw : WF H) {xc o : List Value} : Tm H ((((H.alloc (.row xc T_secateurlaw15_Inst true)).alloc (.row [.int .i64 0,.int .i64 0,nilS,nilS,.int .i64 0,nilS] T_secateurlaw15_Inst true)).alloc (.row [.int .i64 0,.int .i64 0,nilS,nilS,.int .i64 0,nilS] T_secateurlaw15_Inst true)).set (H.next + 1 + 1) (.row o T_secateurlaw15_Inst true)) H.next xc o:=by
 refine ⟨?_,.new_set (by omega) (.new_alloc (.new_alloc .alloc)),?_,?_,?_,by simp⟩
 ·refine WF.set (WF.alloc (WF.alloc (WF.alloc hw))) ?_; simp
 all_goals simp (disch:=omega) [nilS,if_neg,if_pos]
theorem tm_end {H0 H2 : AH} {n : Nat} {xc : List Value} {y : InstD} {ia ca sa : Value} (h0 : H0.next = n) (hT : Tm H0 H2 n xc (instC y ia ca sa)) (j1 : I64 y.kind) (j2 : I64 y.cap) (j3 : I64 y.size)
  (h1 : SlV (fun b => n + 3 ≤ b ∧ b < H2.next) H2 ia y.items) (h2 : SlV (fun b => n + 3 ≤ b ∧ b < H2.next) H2 ca y.cost) (h3 : SlV (fun b => n + 3 ≤ b ∧ b < H2.next) H2 sa y.sets) :
  InstV (New H0 (H2.set (n + 1) (.row (instC y ia ca sa) T_secateurlaw15_Inst true))) (H2.set (n + 1) (.row (instC y ia ca sa) T_secateurlaw15_Inst true)) (.agg #[.int .i64 y.kind,.int .i64 y.cap,ia,ca,.int .i64 y.size,sa]) y ∧ Keep [] H0 (H2.set (n + 1) (.row (instC y ia ca sa) T_secateurlaw15_Inst true)):=by
 have mv : ∀ {α : Type} [Ren α] {w : Value} {l : List α},SlV (fun b => n + 3 ≤ b ∧ b < H2.next) H2 w l → SlV (New H0 (H2.set (n + 1) (.row (instC y ia ca sa) T_secateurlaw15_Inst true))) (H2.set (n + 1) (.row (instC y ia ca sa) T_secateurlaw15_Inst true)) w l:=fun h => h.up (fun b hb => ⟨by omega,by simp; omega⟩) (.set (by omega))
 exact ⟨⟨ia,ca,sa,rfl,j1,j2,j3,mv h1,mv h2,mv h3⟩,.new_set (by omega) hT.keep⟩
theorem mag_i64 {n : Int} (h : Mag 0 n) : I64 n:=by unfold Mag at h; unfold I64; omega
theorem tame_spec {H : AH} {v : Value} {x : InstD} {m : Nat} (hm2 : 2 ≤ m) (hm : m ≤ 40) (hx : InstV (fun b => b < H.next) H v x) : AFn Tryd.prog F_law15_tame [v,.int .i64 (m : Nat)] H fun u H' => ∃ y,InstV (New H H') H' u y ∧ Tame m y ∧ Keep [] H H':=by
 obtain ⟨iv,cv,sv,rfl,i1,i2,i3,h1,h2,h3⟩:=hx
 refine AFn.enter mixed ir_law15_tame_eq (by simp [ir_law15_tame]) fun hw => ?_
 obtain ⟨n,hn⟩ : ∃ n,n = H.next:=⟨_,rfl⟩
 rw [← hn] at h1 h2 h3
 obtain ⟨kd,hkd,kd0,kd4,kb1,kb2⟩:=mod4 x.kind
 obtain ⟨ia0,ic0,rfl⟩:=h1.slice
 obtain ⟨ca0,cc0,rfl⟩:=h2.slice
 obtain ⟨sa0,sc0,rfl⟩:=h3.slice
 have min_if' : ∀ a : Nat,(if m < a then (m : Int) else (a : Int)) = ((min a m : Nat) : Int):=fun a => by split <;> omega
 have hm1:=min_if' x.items.length
 have hm3:=min_if' x.sets.length
 have hz : ∀ {H : AH},(H.alloc (.row [.int .i64 0,.int .i64 0,nilS,nilS,.int .i64 0,nilS] T_secateurlaw15_Inst true)).blk H.next = some (.row [.int .i64 0,.int .i64 0,nilS,nilS,.int .i64 0,nilS] T_secateurlaw15_Inst true):=fun {H} => AH.alloc_blk_new
 rcases (show kd = 0 ∨ kd = 3 ∨ (kd ≠ 0 ∧ kd ≠ 3) by omega) with rfl | rfl | ⟨hk0,hk3⟩
 ·simp (disch:=omega) [-getElem?_pos,if_pos,if_neg,decide_eq_true,decide_eq_false,ir_law15_tame,← hkd,over,writeA,IntWalk.i64_in]
  obtain ⟨z1,m1,s1⟩:=mag_spec x.cap
  refine AFn.pure (s1 _) ?_
  have f1 : Mag 0 (if 0 < z1 then z1 else 0):=by unfold Mag at *; split <;> omega
  simp (disch:=omega) [-getElem?_pos,if_pos,if_neg,decide_eq_true,decide_eq_false,over,writeA,↓ieval_slhi,IntWalk.i64_in]
  generalize (if 0 < z1 then z1 else 0) = z3 at *
  generalize hHb : AH.set _ _ _ = Hb
  have hT : Tm H Hb n (instC x (.slice ia0 x.items.length ic0) (.slice ca0 x.cost.length cc0) (.slice sa0 x.sets.length sc0)) (instC ⟨0,z3,[],[],0,[]⟩ nilS nilS nilS):=by
   rw [← hHb,hn]; exact tm_start hw
  clear hHb
  have wb:=hT.wf
  have kb:=hT.keep
  have nb:=hT.hn
  obtain ⟨w,hsl,hz⟩:=(h1.kept hw kb).sl (m:=min x.items.length m) (by omega)
  have hlw : (x.items.take (min x.items.length m)).length = min x.items.length m:=by rw [List.length_take]; omega
  generalize x.items.take (min x.items.length m) = L at *
  obtain ⟨wa,wc,rfl⟩:=hz.slice
  simp only [sz_pair] at hsl
  rw [← hn]
  simp (disch:=omega) [-getElem?_pos,if_pos,if_neg,decide_eq_true,decide_eq_false,hm1,hsl,↓ieval_slhi]
  refine wpC_use (tame_l5 (H0:=H) (y:=⟨0,z3,[],[],0,[]⟩) wb hn.symm (by omega) hz (by omega) ⟨by simp,by simp,by simp,by simp,by simp,.refl,nilS,[],[],hT,.nil,rfl,by simp,by simp⟩) ?_
  rintro e env2 H2 ⟨rfl,k2,ia,M,S,hT2,hA2,hM2,hF2,hS2⟩ hu2
  have u4:=hu2 4 (by decide)
  have u6:=hu2 6 (by decide)
  have c2 : H2.cells (n + 1 + 1) = some (instC ⟨0,z3,[],[],0,[]⟩ ia nilS nilS):=AH.cells_of hT2.b2
  have hcx:=inst_cut ⟨0,z3,[],[],0,[]⟩ ia nilS nilS
  have w1:=writeA_row (off:=0) (news:=instC ⟨0,z3,[],[],0,[]⟩ ia nilS nilS) hT2.b1
  simp only [over,List.take_zero,List.length_cons,List.length_nil,List.nil_append,List.drop_succ_cons,List.drop_zero,List.append_nil,Nat.zero_add,Nat.le_refl,if_true] at w1
  obtain ⟨r1,r2⟩:=tm_end (y:=⟨0,z3,M,[],0,[]⟩) hn.symm hT2 (by unfold I64; simp) (mag_i64 f1) (by unfold I64; simp) (hA2.slv (fun _ h => h.elim) (fun b hb => ⟨by have:=hS2 b hb; omega,hA2.lt hT2.wf b hb⟩) (by omega)) .nil .nil
  simp (disch:=omega) [-getElem?_pos,if_pos,if_neg,decide_eq_true,decide_eq_false,u4,u6,c2,hcx,w1]
  refine ⟨⟨0,z3,M,[],0,[]⟩,r1,⟨⟨by simp,by simp,⟨.inl rfl,.inr (.inr rfl),.inr ⟨rfl,rfl⟩⟩,⟨by simp,by simp; omega,by simp,by simp,by simp⟩,⟨by simp,by simp⟩,⟨f1,fun k hk => hF2 _ (List.getElem_mem hk),by simp,by simp⟩,by intro h; simp at h⟩,by simp; omega,by simp; omega,by simp,by simp,by simp⟩,r2⟩
 ·obtain ⟨Z,hZ,hZ9⟩:=mod9 x.size
  simp (disch:=omega) [-getElem?_pos,if_pos,if_neg,decide_eq_true,decide_eq_false,ir_law15_tame,← hkd,over,writeA,↓ieval_slhi,hZ,IntWalk.i64_in]
  generalize hHb : AH.set _ _ _ = Hb
  have hT : Tm H Hb n (instC x (.slice ia0 x.items.length ic0) (.slice ca0 x.cost.length cc0) (.slice sa0 x.sets.length sc0)) (instC ⟨3,0,[],[],Z,[]⟩ nilS nilS nilS):=by
   rw [← hHb,hn]; exact tm_start hw
  clear hHb
  have wb:=hT.wf
  have kb:=hT.keep
  have nb:=hT.hn
  obtain ⟨w,hsl,hz⟩:=(h3.kept hw kb).sl (m:=min x.sets.length m) (by omega)
  have hlw : (x.sets.take (min x.sets.length m)).length = min x.sets.length m:=by rw [List.length_take]; omega
  generalize x.sets.take (min x.sets.length m) = L at *
  obtain ⟨wa,wc,rfl⟩:=hz.slice
  simp only [sz_set] at hsl
  rw [← hn]
  simp (disch:=omega) [-getElem?_pos,if_pos,if_neg,decide_eq_true,decide_eq_false,hm3,hsl,↓ieval_slhi]
  refine wpC_use (tame_l4 (H0:=H) (y:=⟨3,0,[],[],Z,[]⟩) (Z:=Z) wb hn.symm (by omega) rfl hZ9 hz (by omega) ⟨by simp,by simp,by simp,by simp,by simp,.refl,nilS,[],[],hT,.nil,rfl,fun s hs => by simp at hs,by simp⟩) ?_
  rintro e env2 H2 ⟨rfl,k2,sa,M,S,hT2,hA2,hM2,hF2,hS2⟩ hu2
  have u4:=hu2 4 (by decide)
  have u6:=hu2 6 (by decide)
  have c2 : H2.cells (n + 1 + 1) = some (instC ⟨3,0,[],[],Z,[]⟩ nilS nilS sa):=AH.cells_of hT2.b2
  have hcx:=inst_cut ⟨3,0,[],[],Z,[]⟩ nilS nilS sa
  have w1:=writeA_row (off:=0) (news:=instC ⟨3,0,[],[],Z,[]⟩ nilS nilS sa) hT2.b1
  simp only [over,List.take_zero,List.length_cons,List.length_nil,List.nil_append,List.drop_succ_cons,List.drop_zero,List.append_nil,Nat.zero_add,Nat.le_refl,if_true] at w1
  obtain ⟨r1,r2⟩:=tm_end (y:=⟨3,0,[],[],Z,M⟩) hn.symm hT2 (by unfold I64; simp) (by unfold I64; simp) (by unfold I64; simp; omega) .nil .nil (hA2.slv (fun b h => ⟨by have:=h.1; omega,h.2.1⟩) (fun b hb => ⟨by have:=hS2 b hb; omega,hA2.lt hT2.wf b hb⟩) (by omega))
  simp (disch:=omega) [-getElem?_pos,if_pos,if_neg,decide_eq_true,decide_eq_false,u4,u6,c2,hcx,w1]
  have hF3 : ∀ s ∈ M,Mag 0 s.cost ∧ Rises (-1) Z s.elems ∧ s.elems.length ≤ Z:=fun s hs => by simpa using hF2 s hs
  refine ⟨⟨3,0,[],[],Z,M⟩,r1,⟨⟨by simp,by simp,⟨.inr ⟨rfl,rfl⟩,.inr (.inr rfl),.inl rfl⟩,⟨by simp,by simp,by simp; omega,by simp,by simp; omega⟩,⟨by simp,fun k hk => (hF3 _ (List.getElem_mem hk)).2.1⟩,⟨by simp [Mag],by simp,by simp,fun k hk => (hF3 _ (List.getElem_mem hk)).1⟩,by intro h; simp at h⟩,by simp,by simp; omega,by simp; omega,by simp; omega,fun s hs => by have:=(hF3 s hs).2.2; omega⟩,r2⟩
 ·obtain ⟨N,hN⟩ : ∃ N : Nat,N = max 1 (min x.cost.length (m - 1)):=⟨_,rfl⟩
  simp (disch:=omega) [-getElem?_pos,if_pos,if_neg,decide_eq_true,decide_eq_false,ir_law15_tame,← hkd,over,writeA,hk0,hk3,IntWalk.i64_in]
  have hNN : (if 1 < (if (m : Int) - 1 < (x.cost.length : Int) then (m : Int) - 1 else (x.cost.length : Int)) then (if (m : Int) - 1 < (x.cost.length : Int) then (m : Int) - 1 else (x.cost.length : Int)) else 1) = (N : Int):=by (repeat' split) <;> omega
  generalize hHb : AH.set _ _ _ = Hb
  have hT : Tm H Hb n (instC x (.slice ia0 x.items.length ic0) (.slice ca0 x.cost.length cc0) (.slice sa0 x.sets.length sc0)) (instC ⟨kd,0,[],[],0,[]⟩ nilS nilS nilS):=by
   rw [← hHb,hn]; exact tm_start hw
  clear hHb
  have wb:=hT.wf
  have kb:=hT.keep
  have nb:=hT.hn
  rw [← hn]
  refine wpC_use (tame_l1 (H0:=H) (y:=⟨kd,0,[],[],0,[]⟩) (N:=N) wb hn.symm (by omega) (h2.kept hw kb) (by omega) ⟨by simp,by simp,by simp,by simp [hNN],by simp [hNN],by simp,.refl,nilS,[],[],hT,.nil,rfl,⟨by simp,by simp⟩,by simp⟩) ?_
  rintro e env2 H2 ⟨rfl,k2,ca,M,S,hT2,hA2,hM2,hF2,hS2⟩ hu2
  have u4:=hu2 4 (by decide)
  have u6:=hu2 6 (by decide)
  have c2 : H2.cells (n + 1 + 1) = some (instC ⟨kd,0,[],[],0,[]⟩ nilS ca nilS):=AH.cells_of hT2.b2
  have hcx:=inst_cut ⟨kd,0,[],[],0,[]⟩ nilS ca nilS
  have w1:=writeA_row (off:=0) (news:=instC ⟨kd,0,[],[],0,[]⟩ nilS ca nilS) hT2.b1
  simp only [over,List.take_zero,List.length_cons,List.length_nil,List.nil_append,List.drop_succ_cons,List.drop_zero,List.append_nil,Nat.zero_add,Nat.le_refl,if_true] at w1
  obtain ⟨r1,r2⟩:=tm_end (y:=⟨kd,0,[],M,0,[]⟩) hn.symm hT2 (by unfold I64; simp; omega) (by unfold I64; simp) (by unfold I64; simp) .nil (hA2.slv (fun b h => ⟨by have:=h.1; omega,h.2.1⟩) (fun b hb => ⟨by have:=hS2 b hb; omega,hA2.lt hT2.wf b hb⟩) (by omega)) .nil
  simp (disch:=omega) [-getElem?_pos,if_pos,if_neg,decide_eq_true,decide_eq_false,u4,u6,c2,hcx,w1]
  have hF3:=hF2.1
  refine ⟨⟨kd,0,[],M,0,[]⟩,r1,⟨⟨kd0,kd4,⟨.inr ⟨rfl,rfl⟩,by simp; omega,.inr ⟨rfl,rfl⟩⟩,⟨fun _ => ⟨by simp; omega,by simp; omega⟩,by simp,by simp,by simp,by simp⟩,⟨fun k hk => by rw [(hF3 _ (List.getElem_mem hk)).1]; exact hM2.symm,by simp⟩,⟨by simp [Mag],by simp,fun k hk j hj => (hF3 _ (List.getElem_mem hk)).2 _ (List.getElem_mem hj),by simp⟩,hF2.2⟩,by simp,by simp; omega,by simp,by simp,by simp⟩,r2⟩
end Go.Proofs.YtlcddhgfkkjhkaaDoor.LAW15
namespace Go.Proofs.YtlcddhgfkkjhkaaDoor.LAW15
open Go Go.Abs
theorem clip_tame {m : Nat} {y : InstD} (hm : m ≤ 40) (h : Tame m y) : clipI y = y:=by
 obtain ⟨kind,cap,items,cost,size,sets⟩:=y
 have h1:=h.items
 have h2:=h.cost
 have h3:=h.sets
 have h4:=h.elems
 have h5:=h.ok.shaped.rows
 unfold clipI
 simp only at h1 h2 h3 h4 h5 ⊢
 rw [List.take_of_length_le (show items.length ≤ 40 by omega),List.take_of_length_le (show cost.length ≤ 70 by omega),List.take_of_length_le (show sets.length ≤ 40 by omega)]
 congr 1
 ·conv => rhs; rw [← List.map_id cost]
  apply List.map_congr_left
  intro r hr
  obtain ⟨i,hi,rfl⟩:=List.getElem_of_mem hr
  exact List.take_of_length_le (by rw [h5 i hi]; omega)
 ·conv => rhs; rw [← List.map_id sets]
  apply List.map_congr_left
  intro s hs
  have:=h4 s hs
  obtain ⟨c,e⟩:=s
  show SetD.mk c (e.take 40) = ⟨c,e⟩
  rw [List.take_of_length_le (by simp only at this; omega)]
end Go.Proofs.YtlcddhgfkkjhkaaDoor.LAW15
