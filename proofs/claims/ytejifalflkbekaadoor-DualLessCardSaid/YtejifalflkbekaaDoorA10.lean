/-
  THE ABSTRACT LAYER (6): each small operation is what the model's does: one lemma an operation.
-/
import Derived.Test.YtejifalflkbekaaDoorA5
set_option linter.unusedSimpArgs false
set_option linter.unusedVariables false
namespace Go.Abs
open Go Go.RowKit
section
variable {id : Nat} {P : Program} {B0 n : Nat} {ρ : Rho} {H H' : AH} {w : World} {env : Env} {a : Act} {v : Value}
theorem VR.ptr_inv {b off : Nat} {v' : Value} (h : VR ρ (.pointer (some ⟨b,off,none⟩)) v') : ∃ e,ρ b = some e ∧ v' = .pointer (some ⟨e.blk,e.base + off,none⟩):=by
 cases h with
 | ptr _ _ e h => exact ⟨e,h,rfl⟩
theorem cellsOf_rel {v v' : Value} {cs : List Value} (h : VR ρ v v') (hc : cellsOf v = some cs) : VRs ρ cs v'.cells.toList ∧ ones cs:=by
 cases v with
 | agg p =>
  cases hc
  obtain ⟨p',rfl,h1,h2⟩:=h.agg_list
  exact ⟨h1,h2⟩
 | tuple p => cases hc
 | _ =>
  cases hc
  have ho:=h.one
  refine ⟨?_,?_⟩
  ·cases v' <;> first | (simp [one] at ho; done) | exact .cons h .nil
  ·intro x hx
   simp at hx
   subst hx
   rfl
theorem zeroOf_spec {t : TypeId} {z : List Value} (h : zeroOf P t = some z) : ∃ i zv,P.info? t = some i ∧ i.zero = some zv ∧ zv.cells.toList = z ∧ z.all plain = true ∧ z.length = i.size:=by
 unfold zeroOf at h
 split at h
 ·rename_i i hi
  split at h
  ·rename_i zv hz
   split at h
   ·rename_i hc
    cases h
    simp only [Bool.and_eq_true,beq_iff_eq] at hc
    exact ⟨i,zv,hi,hz,rfl,hc.1,by simpa using hc.2⟩
   ·cases h
  ·cases h
 ·cases h
theorem ones_of_plain {z : List Value} (h : z.all plain = true) : ones z:=fun v hv => one_of_plain (by simpa using (List.all_eq_true.1 h) v hv)
theorem sound_new {e : TypeId} {z : List Value} {ty : TypeId} {pos : String} {dst : Option Nat} {after : Array Edge} {g : Option (Nat × Bool)} (hid : ρ id = none) (hs : Sim P B0 ρ H w) (hz : zeroOf P e = some z) (ρv : Operand → Value) :
  Fine id P B0 ρ w ((execOp ρv { dst,op:=.alloc e,type:=ty,pos,after,guard:=g }).run P w) (.pointer (some ⟨id,0,none⟩)) (H.allocAt id (.row z e true)):=by
 obtain ⟨i,zv,h1,h2,h3,h4,h5⟩:=zeroOf_spec hz
 have hst:=hs.push_rowAt hid (w':={ w with heap:=w.heap.push (.cells zv.cells e) }) e z z [] (VRs.of_plain h4) (ones_of_plain h4) (by simp [← h3]) rfl rfl rfl
 refine ⟨.pointer (some ⟨w.heap.size,0,none⟩),_,_,.inl ?_,hst,?_,.add⟩
 ·simp [execOp,Instr.alloc,zeroValue,typeInfo,h1,h2,newVar,newRow]
 ·exact .ptr _ 0 ⟨w.heap.size,0,(z ++ []).length,P.cellsOf e⟩ (by simp [Rho.add])
theorem sound_box {e : TypeId} {cs : List Value} {x : Operand} {u : Value} {ty : TypeId} {pos : String} {dst : Option Nat} {after : Array Edge} {g : Option (Nat × Bool)} (hid : ρ id = none) (hs : Sim P B0 ρ H w) (ρv : Operand → Value)
  (hv : VR ρ u (ρv x)) (hc : cellsOf u = some cs) :
  Fine id P B0 ρ w ((execOp ρv { dst,op:=.box e x,type:=ty,pos,after,guard:=g }).run P w) (.pointer (some ⟨id,0,none⟩)) (H.allocAt id (.row cs e true)):=by
 obtain ⟨h1,h2⟩:=cellsOf_rel hv hc
 have hst:=hs.push_rowAt hid (w':={ w with heap:=w.heap.push (.cells (ρv x).cells e) }) e cs _ [] h1 h2 (by simp) rfl rfl rfl
 refine ⟨.pointer (some ⟨w.heap.size,0,none⟩),_,_,.inl ?_,hst,?_,.add⟩
 ·simp [execOp,Instr.box,newVar,newRow]
 ·exact .ptr _ 0 ⟨w.heap.size,0,((ρv x).cells.toList ++ []).length,P.cellsOf e⟩ (by simp [Rho.add])
theorem sound_load1 {t : TypeId} {x : Operand} {b off : Nat} {cs : List Value} {u : Value} {ty : TypeId} {pos : String} {dst : Option Nat} {after : Array Edge} {g : Option (Nat × Bool)} (hs : Sim P B0 ρ H w) (ρv : Operand → Value)
  (hag : isAggB P t = false) (hu : (P.underlying t).isSome) (hv : VR ρ (.pointer (some ⟨b,off,none⟩)) (ρv x)) (hc : H.cells b = some cs) (hg : cs[off]? = some u) :
  Fine id P B0 ρ w ((execOp ρv { dst,op:=.load t x,type:=ty,pos,after,guard:=g }).run P w) u H:=by
 obtain ⟨e,he,hx⟩:=hv.ptr_inv
 obtain ⟨cs',h1,h2,h3⟩:=hs.read he hc
 obtain ⟨u',h4,h5⟩:=h1.get off u hg
 have hlt:=(List.getElem?_eq_some_iff.1 hg).1
 have hcell:=h3 off hlt
 rw [h4] at hcell
 obtain ⟨d,hd⟩:=Option.isSome_iff_exists.1 hu
 refine .pure hs (v':=u') ?_ h5
 have hld : (load ⟨e.blk,e.base + off,none⟩ : Sem Value).run P w = .ok u' w:=by rw [run_load,hcell]
 have hlv : (loadVar t ⟨e.blk,e.base + off,none⟩).run P w = .ok u' w:=by
  unfold isAggB at hag
  rw [hd] at hag
  cases d <;> simp at hag <;> simp [loadVar,isAgg,run_underlying hd,hcell]
 simp [execOp,Instr.loadAt,Instr.sureAddr,hx,hlv]
theorem add_zero_addr (b off i : Nat) : (⟨b,off,none⟩ : Addr).add i = ⟨b,off + i,none⟩:=by unfold Addr.add; split <;> simp_all
theorem sound_loadN {t : TypeId} {m : Nat} {x : Operand} {b off : Nat} {cs r : List Value} {ty : TypeId} {pos : String} {dst : Option Nat} {after : Array Edge} {g : Option (Nat × Bool)} (hs : Sim P B0 ρ H w) (ρv : Operand → Value)
  (hag : isAggB P t = true) (hm : sizeB P t = some m) (hv : VR ρ (.pointer (some ⟨b,off,none⟩)) (ρv x)) (hc : H.cells b = some cs) (hg : cut cs off m = some r) :
  Fine id P B0 ρ w ((execOp ρv { dst,op:=.load t x,type:=ty,pos,after,guard:=g }).run P w) (.agg r.toArray) H:=by
 obtain ⟨e,he,hx⟩:=hv.ptr_inv
 obtain ⟨cs',h1,h2,h3⟩:=hs.read he hc
 obtain ⟨hl,rfl,hrl⟩:=cut_some hg
 have hr:=(h1.drop off).take m
 refine .pure hs (v':=.agg ((cs'.drop off).take m).toArray) ?_ (VR.mk_agg hr fun u hu => h2 u (List.mem_of_mem_drop (List.mem_of_mem_take hu)))
 have hcl:=h1.length
 have hlen : ((cs'.drop off).take m).length = m:=by simp; omega
 have hld:=run_loadCells_list (P:=P) w ⟨e.blk,e.base + off,none⟩ ((cs'.drop off).take m) (fun j u hj => by
  have hj' : j < m:=by have:=(List.getElem?_eq_some_iff.1 hj).1; omega
  rw [add_zero_addr,Nat.add_assoc,h3 (off + j) (by omega)]
  rw [List.getElem?_take_of_lt hj',List.getElem?_drop] at hj
  exact hj)
 rw [hlen] at hld
 unfold sizeB at hm
 cases hi : P.info? t with
 | none => simp [hi] at hm
 | some i =>
  simp [hi] at hm
  cases hd : P.underlying t with
  | none => simp [isAggB,hd] at hag
  | some d =>
   have hlv : (loadVar t ⟨e.blk,e.base + off,none⟩).run P w = .ok (.agg ((cs'.drop off).take m).toArray) w:=by
    unfold isAggB at hag
    rw [hd] at hag
    cases d <;> simp at hag <;> simp [loadVar,isAgg,run_underlying hd,sizeOf,typeInfo,hi,hm,hld]
   simp only [execOp,Instr.loadAt,Instr.sureAddr,hx,Sem.run_bind,Sem.run_pure,Result.andThen_ok,hlv]
theorem sound_store {t : TypeId} {m : Nat} {x y : Operand} {b off : Nat} {u : Value} {news : List Value} {ty : TypeId} {pos : String} {dst : Option Nat} {after : Array Edge} {g : Option (Nat × Bool)} (hs : Sim P B0 ρ H w) (ρv : Operand → Value)
  (hm : sizeB P t = some m) (hv : VR ρ (.pointer (some ⟨b,off,none⟩)) (ρv x)) (hu : VR ρ u (ρv y)) (hc : cellsOf u = some news) (hl : news.length = m) (hw : writeA H b off news = some H') :
  Fine id P B0 ρ w ((execOp ρv { dst,op:=.store t x y,type:=ty,pos,after,guard:=g }).run P w) undef H':=by
 obtain ⟨e,he,hx⟩:=hv.ptr_inv
 obtain ⟨h1,h2⟩:=cellsOf_rel hu hc
 obtain ⟨w',hr,hst⟩:=hs.write he hw h1 h2
 refine ⟨undef,w',ρ,.inr ⟨?_,rfl⟩,hst,.tuple _ _ rfl (fun i h => by simp at h),.refl⟩
 have hsz : (ρv y).cells.size = m:=by have:=h1.length; simp at this; omega
 unfold sizeB at hm
 cases hi : P.info? t with
 | none => simp [hi] at hm
 | some i =>
  simp [hi] at hm
  simp [execOp,Instr.storeAt,Instr.sureAddr,hx,storeVar,sizeOf,typeInfo,hi,hsz,hm,hr]
end
end Go.Abs
/-
 THE ABSTRACT LAYER (7): the operations that touch no memory,and those that build.
-/
set_option linter.unusedSimpArgs false
set_option linter.unusedVariables false
namespace Go.Abs
open Go Go.RowKit
theorem foldl_set (off : Nat) : ∀ (vs : List Value) (k : Nat) (cells : Array Value),off + k + vs.length ≤ cells.size →
  ((vs.zipIdx k).foldl (fun cs (c : Value × Nat) => cs.setIfInBounds (off + c.2) c.1) cells).toList = over cells.toList (off + k) vs
 | [],k,cells,_ => by simp [over]
 | v :: vs,k,cells,h => by
  simp only [List.zipIdx_cons,List.foldl_cons]
  rw [foldl_set off vs (k + 1) _ (by simp at h ⊢; omega)]
  simp only [List.length_cons] at h
  apply List.ext_getElem?
  intro i
  have h1 : off + (k + 1) + vs.length ≤ (cells.setIfInBounds (off + k) v).toList.length:=by simp; omega
  have h2 : off + k + (v :: vs).length ≤ cells.toList.length:=by simp; omega
  rw [over_get h1,over_get h2]
  simp only [Array.toList_setIfInBounds,List.length_cons]
  by_cases a1 : i < off + k
  ·rw [if_pos (by omega),if_pos a1,List.getElem?_set_ne (by omega)]
  ·rw [if_neg a1]
   by_cases a2 : i = off + k
   ·subst a2
    rw [if_pos (by omega),if_pos (by omega)]
    have : off + k < cells.size:=by omega
    simp [this]
   ·rw [if_neg (by omega)]
    by_cases a3 : i < off + (k + 1) + vs.length
    ·rw [if_pos a3,if_pos (by omega)]
     have : i - (off + k) = (i - (off + (k + 1))) + 1:=by omega
     rw [this]; rfl
    ·rw [if_neg a3,if_neg (by omega),List.getElem?_set_ne (by omega)]
section
variable {id : Nat} {P : Program} {B0 n : Nat} {ρ : Rho} {H H' : AH} {w : World} {env : Env} {a : Act} {v : Value}
theorem fill_sound (hs : Sim P B0 ρ H w) (he : EnvR n ρ env a.tmps) (place : Nat → Option (Nat × Nat)) : ∀ (parts : List (Nat × Operand)) (ps : List (Nat × Nat × Operand)) (cells r : List Value) (cells' : Array Value),
  partsOf P place parts = some ps → parts.all (fun p => okOpd P p.2) = true → fillA env cells ps = some r → VRs ρ cells cells'.toList → ones cells →
  ∃ r' : Array Value,Instr.fill place cells' (parts.map fun p => (p.1,a.eval p.2)) = some r' ∧ VRs ρ r r'.toList ∧ ones r
 | [],ps,cells,r,cells',hp,_,hf,hv,ho => by
  simp [partsOf] at hp
  subst hp
  simp [fillA] at hf
  subst hf
  exact ⟨cells',rfl,hv,ho⟩
 | (i,x) :: rest,ps,cells,r,cells',hp,hk,hf,hv,ho => by
  simp only [List.all_cons,Bool.and_eq_true] at hk
  simp only [partsOf] at hp
  split at hp
  ·rename_i off m r1 hpl hr1
   cases hp
   simp only [fillA] at hf
   split at hf
   ·rename_i u hu
    split at hf
    ·rename_i cs hcs
     split at hf
     ·rename_i hl
      obtain ⟨h1,h2⟩:=cellsOf_rel (aval_sound hs he hk.1 hu) hcs
      have hl1:=h1.length
      have hl2:=hv.length
      simp only [Array.length_toList] at hl1 hl2
      have hfold:=foldl_set off (a.eval x).cells.toList 0 cells' (by simp; omega)
      generalize hc2 : (List.foldl (fun cs (c : Value × Nat) => cs.setIfInBounds (off + c.2) c.1) cells' ((a.eval x).cells.toList.zipIdx 0)) = c2 at hfold
      obtain ⟨r',k1,k2,k3⟩:=fill_sound hs he place rest r1 _ r c2 hr1 hk.2 hf (by rw [hfold]; exact hv.over h1 off) (ones_over ho h2 off)
      refine ⟨r',?_,k2,k3⟩
      have hz : (a.eval x).cells.zipIdx.foldl (fun cs (c : Value × Nat) => cs.setIfInBounds (off + c.2) c.1) cells' = c2:=by
       rw [← hc2,← Array.foldl_toList]
       simp
      simp only [List.map_cons,Instr.fill,hpl]
      rw [if_neg (by simp; omega)]
      have : (fun (cs : Array Value) (x : Value × Nat) => match x with | (c,j) => cs.setIfInBounds (off + j) c) = (fun (cs : Array Value) (c : Value × Nat) => cs.setIfInBounds (off + c.2) c.1):=by
       funext cs x; rfl
      rw [this,hz]
      exact k1
     ·cases hf
    ·cases hf
   ·cases hf
  ·cases hp
theorem fields_run (fields : Array Field) (h : fields.all (fun f => (P.info? f.type).isSome) = true) :
  (fields.mapM fun f => (do pure (f.offset,← sizeOf f.type) : Sem (Nat × Nat))).run P w = .ok (fields.map fun f => (f.offset,P.cellsOf f.type)) w:=by
 have key : ∀ (l : List Field),(∀ f ∈ l,(P.info? f.type).isSome) → (l.mapM fun f => (do pure (f.offset,← sizeOf f.type) : Sem (Nat × Nat))).run P w = .ok (l.map fun f => (f.offset,P.cellsOf f.type)) w:=by
  intro l
  induction l with
  | nil => intro _; simp
  | cons f l ih =>
   intro hl
   obtain ⟨i,hi⟩:=Option.isSome_iff_exists.1 (hl f (by simp))
   have:=ih (fun g hg => hl g (by simp [hg]))
   simp only [List.mapM_cons,Sem.run_bind,sizeOf,typeInfo,run_program,Result.andThen_ok,hi,Sem.run_pure,List.map_cons,Program.cellsOf,Option.map_some,Option.getD_some] at this ⊢
   rw [this]
   rfl
 rw [Array.mapM_eq_mapM_toList]
 simp only [Sem.run_map]
 rw [key fields.toList (fun f hf => by
  have:=(Array.all_eq_true_iff_forall_mem.1 h) f (by simpa using hf)
  exact this)]
 simp only [Result.andThen_ok]
 congr 1
 apply Array.ext'
 simp
theorem sound_buildS {t : TypeId} {fields : Array Field} {z r : List Value} {parts : Array (Nat × Operand)} {ps : List (Nat × Nat × Operand)} {ty : TypeId} {pos : String} {dst : Option Nat} {after : Array Edge} {g : Option (Nat × Bool)}
  (hs : Sim P B0 ρ H w) (he : EnvR n ρ env a.tmps) (hu : P.underlying t = some (.struct fields)) (hz : zeroOf P t = some z) (hi : fields.all (fun f => (P.info? f.type).isSome) = true)
  (hp : partsOf P (placeS P fields) parts.toList = some ps) (hk : parts.toList.all (fun p => okOpd P p.2) = true) (hf : fillA env z ps = some r) :
  Fine id P B0 ρ w ((execOp a.eval { dst,op:=.build t parts,type:=ty,pos,after,guard:=g }).run P w) (.agg r.toArray) H:=by
 obtain ⟨i,zv,h1,h2,h3,h4,h5⟩:=zeroOf_spec hz
 have hpl : placeS P fields = (fun i => (fields.map fun (f : Field) => (f.offset,P.cellsOf f.type))[i]?):=by
  funext i
  simp only [placeS,Array.getElem?_map]
  cases hq : fields[i]? with
  | none => rfl
  | some f =>
   have hm : f ∈ fields:=Array.mem_of_getElem? hq
   obtain ⟨j,hj⟩:=Option.isSome_iff_exists.1 ((Array.all_eq_true_iff_forall_mem.1 hi) f hm)
   simp [sizeB,hj,Program.cellsOf]
 rw [hpl] at hp
 obtain ⟨r',k1,k2,k3⟩:=fill_sound (cells':=zv.cells) hs he _ parts.toList ps z r hp hk hf (by rw [h3]; exact VRs.of_plain h4) (ones_of_plain h4)
 refine .pure hs (v':=.agg r') ?_ (by have:=VR.mk_agg k2 k3; simpa using this)
 have hfr:=fields_run (P:=P) (w:=w) fields hi
 have hpm : (parts.map fun p => (p.1,a.eval p.2)).toList = parts.toList.map fun p => (p.1,a.eval p.2):=by simp
 simp only [execOp,Instr.build,Sem.run_bind,zeroValue,typeInfo,run_program,h1,h2,Sem.run_pure,Result.andThen_ok,run_underlying hu]
 have hfr':=hfr
 simp only [sizeOf,typeInfo] at hfr'
 simp only [sizeOf,typeInfo,hfr',Result.andThen_ok,Array.toList_map]
 have k1' : Instr.fill (fun i => (fields.map fun (f : Field) => (f.offset,P.cellsOf f.type))[i]?) zv.cells (List.map (fun (x : Nat × Operand) => match x with | (i,x) => (i,a.eval x)) parts.toList) = some r':=k1
 rw [k1']
 rfl
theorem sound_buildA {t el : TypeId} {len m : Nat} {z r : List Value} {parts : Array (Nat × Operand)} {ps : List (Nat × Nat × Operand)} {ty : TypeId} {pos : String} {dst : Option Nat} {after : Array Edge} {g : Option (Nat × Bool)}
  (hs : Sim P B0 ρ H w) (he : EnvR n ρ env a.tmps) (hu : P.underlying t = some (.array len el)) (hz : zeroOf P t = some z) (hm : sizeB P el = some m)
  (hp : partsOf P (fun i => some (i * m,m)) parts.toList = some ps) (hk : parts.toList.all (fun p => okOpd P p.2) = true) (hf : fillA env z ps = some r) :
  Fine id P B0 ρ w ((execOp a.eval { dst,op:=.build t parts,type:=ty,pos,after,guard:=g }).run P w) (.agg r.toArray) H:=by
 obtain ⟨i,zv,h1,h2,h3,h4,h5⟩:=zeroOf_spec hz
 obtain ⟨r',k1,k2,k3⟩:=fill_sound (cells':=zv.cells) hs he _ parts.toList ps z r hp hk hf (by rw [h3]; exact VRs.of_plain h4) (ones_of_plain h4)
 refine .pure hs (v':=.agg r') ?_ (by have:=VR.mk_agg k2 k3; simpa using this)
 unfold sizeB at hm
 cases hi : P.info? el with
 | none => simp [hi] at hm
 | some j =>
  simp [hi] at hm
  simp only [execOp,Instr.build,Sem.run_bind,zeroValue,sizeOf,typeInfo,run_program,h1,h2,hi,hm,Sem.run_pure,Result.andThen_ok,run_underlying hu,Array.toList_map]
  have k1' : Instr.fill (fun i => some (i * m,m)) zv.cells (List.map (fun (x : Nat × Operand) => match x with | (i,x) => (i,a.eval x)) parts.toList) = some r':=k1
  rw [k1']
  rfl
theorem zeros_length (z : List Value) : ∀ k,(zeros z k).length = k * z.length
 | 0 => by simp [zeros]
 | k + 1 => by simp [zeros,zeros_length z k,Nat.succ_mul]; omega
theorem zeros_get (z : List Value) : ∀ (k i : Nat),i < k * z.length → (zeros z k)[i]? = z[i % z.length]?
 | 0,i,h => by simp at h
 | k + 1,i,h => by
  simp only [zeros]
  have hz : 0 < z.length:=by
   rcases Nat.eq_zero_or_pos z.length with h0 | h0
   ·rw [h0] at h; simp at h
   ·exact h0
  by_cases hi : i < z.length
  ·rw [List.getElem?_append_left hi,Nat.mod_eq_of_lt hi]
  ·rw [List.getElem?_append_right (by omega),zeros_get z k (i - z.length) (by rw [Nat.succ_mul] at h; omega)]
   congr 1
   rw [← Nat.mod_eq_sub_mod (by omega)]
theorem zeros_range (zc : Array Value) (k : Nat) (hz : 0 < zc.size) : ((Array.range (k * zc.size)).map (zc[· % zc.size]!)).toList = zeros zc.toList k:=by
 apply List.ext_getElem?
 intro i
 simp only [Array.toList_map,Array.toList_range,List.getElem?_map]
 by_cases hi : i < k * zc.size
 ·rw [List.getElem?_range hi,zeros_get _ _ _ (by simpa using hi)]
  have hm : i % zc.size < zc.size:=Nat.mod_lt _ hz
  simp [hm]
 ·rw [List.getElem?_eq_none (by simp; omega),List.getElem?_eq_none (by simp [zeros_length]; omega)]
  rfl
theorem ones_zeros {z : List Value} (h : ones z) : ∀ k,ones (zeros z k)
 | 0 => fun v hv => by simp [zeros] at hv
 | k + 1 => fun v hv => by
  simp only [zeros,List.mem_append] at hv
  rcases hv with hv | hv
  ·exact h v hv
  ·exact ones_zeros h k v hv
theorem VRs.zeros {z z' : List Value} (h : VRs ρ z z') : ∀ k,VRs ρ (Abs.zeros z k) (Abs.zeros z' k)
 | 0 => .nil
 | k + 1 => h.append (VRs.zeros h k)
theorem sound_bslice {t el : TypeId} {len m : Nat} {z r : List Value} {parts : Array (Nat × Operand)} {ps : List (Nat × Nat × Operand)} {ty : TypeId} {pos : String} {dst : Option Nat} {after : Array Edge} {g : Option (Nat × Bool)}
  (hid : ρ id = none) (hs : Sim P B0 ρ H w) (he : EnvR n ρ env a.tmps) (hu : P.underlying t = some (.slice el)) (hz : zeroOf P el = some z) (hm : sizeB P el = some m) (hm0 : 0 < m) (hb : len * m ≤ 16777216)
  (hp : partsOf P (fun i => some (i * m,m)) parts.toList = some ps) (hk : parts.toList.all (fun p => okOpd P p.2) = true) (hf : fillA env (zeros z len) ps = some r) :
  Fine id P B0 ρ w ((execOp a.eval { dst,op:=.buildSlice t len parts,type:=ty,pos,after,guard:=g }).run P w) (.slice (some ⟨id,0,none⟩) len len) (H.allocAt id (.row r el true)):=by
 obtain ⟨i,zv,h1,h2,h3,h4,h5⟩:=zeroOf_spec hz
 unfold sizeB at hm
 simp [h1] at hm
 have hzs : zv.cells.size = m:=by have:=congrArg List.length h3; simp at this; omega
 have hzr:=zeros_range zv.cells len (by omega)
 rw [hzs] at hzr
 generalize hc0 : (Array.range (len * m)).map (zv.cells[· % m]!) = c0 at hzr
 obtain ⟨r',k1,k2,k3⟩:=fill_sound (cells':=c0) hs he _ parts.toList ps _ r hp hk hf (by rw [hzr,h3]; exact (VRs.of_plain h4).zeros len) (ones_zeros (ones_of_plain h4) len)
 have hst:=hs.push_rowAt hid (w':={ w with heap:=w.heap.push (.cells r' el) }) el r r'.toList [] k2 k3 (by simp) rfl rfl rfl
 refine ⟨.slice (some ⟨w.heap.size,0,none⟩) len len,_,_,.inl ?_,hst,?_,.add⟩
 ·have hb' : ¬ len * m > 2 ^ 24:=by omega
  have hk1 : Instr.fill (fun i => some (i * m,m)) c0 (List.map (fun (x : Nat × Operand) => match x with | (i,x) => (i,a.eval x)) parts.toList) = some r':=k1
  simp only [execOp,Instr.buildSlice,Sem.run_bind,run_underlying hu,Result.andThen_ok,sizeOf,typeInfo,run_program,h1,Sem.run_pure,hm,if_neg hb',Array.toList_map]
  by_cases hl0 : len * m = 0
  ·have hc0' : c0 = #[]:=by rw [← hc0,hl0]; simp
   simp only [hl0,if_true,Sem.run_pure,Result.andThen_ok]
   rw [hc0'] at hk1
   have h00 : ∀ zero : Array Value,(Array.map (fun x => zero[x % zero.size]!) (Array.range 0)) = #[]:=by intro zero; simp
   simp only [Sem.run_bind,Sem.run_pure,Result.andThen_ok,h00]
   rw [hk1]
   simp [newRow]
  ·simp only [if_neg hl0,Sem.run_bind,zeroValue,typeInfo,run_program,h1,h2,Sem.run_pure,Result.andThen_ok,hzs,hc0]
   rw [hk1]
   simp [newRow]
 ·exact .slice _ 0 ⟨w.heap.size,0,(r'.toList ++ []).length,P.cellsOf el⟩ len len (by simp [Rho.add]) (Nat.le_refl _)
theorem sound_mks {t el : TypeId} {z : List Value} {j : TypeInfo} {x y : Operand} {l c : Int} {ty : TypeId} {pos : String} {dst : Option Nat} {after : Array Edge} {g : Option (Nat × Bool)}
  (hid : ρ id = none) (hs : Sim P B0 ρ H w) (ρv : Operand → Value) (hu : P.underlying t = some (.slice el)) (hi : P.info? el = some j) (hz : zeroOf P el = some z) (hm0 : 0 < j.size)
  (hl : VR ρ (.int .i64 l) (ρv x)) (hc : VR ρ (.int .i64 c) (ρv y)) (hb : 0 ≤ l ∧ l ≤ c ∧ c ≤ 9223372036854775807 ∧ (j.bytes : Int) * c ≤ 281474976710656) :
  Fine id P B0 ρ w ((execOp ρv { dst,op:=.makeSlice t x y,type:=ty,pos,after,guard:=g }).run P w) (.slice (some ⟨id,0,none⟩) l.toNat c.toNat) (H.allocAt id (.row (zeros z c.toNat) el true)):=by
 obtain ⟨i,zv,h1,h2,h3,h4,h5⟩:=zeroOf_spec hz
 rw [hi] at h1
 cases h1
 have hzs : zv.cells.size = j.size:=by have:=congrArg List.length h3; simp at this; omega
 have hzr:=zeros_range zv.cells c.toNat (by omega)
 rw [hzs] at hzr
 generalize hc0 : (Array.range (c.toNat * j.size)).map (zv.cells[· % j.size]!) = c0 at hzr
 have hv : VRs ρ (zeros z c.toNat) c0.toList:=by rw [hzr,h3]; exact (VRs.of_plain h4).zeros _
 have hst:=hs.push_rowAt hid (w':={ w with heap:=w.heap.push (.cells c0 el) }) el _ _ [] hv (ones_zeros (ones_of_plain h4) _) (by simp) rfl rfl rfl
 obtain ⟨b1,b2,b3,b4⟩:=hb
 refine ⟨.slice (some ⟨w.heap.size,0,none⟩) l.toNat c.toNat,_,_,.inl ?_,hst,?_,.add⟩
 ·have w1 : IntKind.i64.wrap l = l:=by simp [IntKind.wrap,IntKind.bits,IntKind.signed]; omega
  have w2 : IntKind.i64.wrap c = c:=by simp [IntKind.wrap,IntKind.bits,IntKind.signed]; omega
  have c1 : ¬ c < 0:=by omega
  have c2 : ¬ l < 0:=by omega
  have c3 : ¬ c < l:=by omega
  have c4 : ¬ (281474976710656 < (j.bytes : Int) * c):=by omega
  simp only [execOp,Instr.makeSlice,Sem.run_bind,run_underlying hu,Result.andThen_ok,hl.int_inv,hc.int_inv,asInt,asIntOf,Sem.run_pure,typeInfo,run_program,hi,w1,w2]
  by_cases hl0 : c.toNat * j.size = 0
  ·have hc0' : c0 = #[]:=by rw [← hc0,hl0]; simp
   have h00 : ∀ zero : Array Value,(Array.map (fun x => zero[x % zero.size]!) (Array.range 0)) = #[]:=by intro zero; simp
   simp [c1,c2,c3,c4,sizeOf,typeInfo,hi,hl0,newRow,hc0']
   simp [Array.range_zero']
  ·have hl0' : ¬ (c.toNat = 0 ∨ j.size = 0):=by
    intro h
    rcases h with h | h <;> simp [h] at hl0
   simp [c1,c2,c3,c4,sizeOf,typeInfo,hi,zeroValue,h2,newRow,hzs,hl0',hc0]
   intro h
   exact absurd h hl0
 ·exact .slice _ 0 ⟨w.heap.size,0,(c0.toList ++ []).length,P.cellsOf el⟩ _ _ (by simp [Rho.add]) (by omega)
end
end Go.Abs
/-
 THE ABSTRACT LAYER (8): indexes,slices,parts,comparisons.
-/
set_option linter.unusedSimpArgs false
set_option linter.unusedVariables false
namespace Go.Abs
open Go Go.RowKit
theorem eqA_at_int {pl : Plan} {k : IntKind} {m : Int} {y : Value} {r : Bool} (h : eqA pl (.int k m) y = some r) : pl = .int:=by
 unfold eqA at h
 split at h <;> first | contradiction | rfl
theorem eqA_at_str {pl : Plan} {s : ByteArray} {y : Value} {r : Bool} (h : eqA pl (.string s) y = some r) : pl = .str:=by
 unfold eqA at h
 split at h <;> first | contradiction | rfl
theorem planOf_int {P : Program} {d : Nat} {t : TypeId} (h : planOf P (d + 1) t = some .int) : ∃ k,P.underlying t = some (.int k):=by
 simp only [planOf] at h
 split at h <;> first | (cases h; done) | exact ⟨_,‹_›⟩ | (split at h <;> first | (cases h; done) | (simp at h))
theorem planOf_str {P : Program} {d : Nat} {t : TypeId} (h : planOf P (d + 1) t = some .str) : P.underlying t = some .string:=by
 simp only [planOf] at h
 split at h <;> first | (cases h; done) | assumption | (split at h <;> first | (cases h; done) | (simp at h))
section
variable {id : Nat} {P : Program} {B0 n : Nat} {ρ : Rho} {H H' : AH} {w : World} {env : Env} {a : Act} {v : Value}
variable {ty : TypeId} {pos : String} {dst : Option Nat} {after : Array Edge} {g : Option (Nat × Bool)} {ρv : Operand → Value}
theorem sound_eqv {op : BinOp} {t yt : TypeId} {x y : Operand} {pl : Plan} {u1 u2 : Value} {r : Bool} (hs : Sim P B0 ρ H w) (hop : op = .eql ∨ op = .neq) (hpl : planOf P 8 t = some pl)
  (hni : ∀ k,P.underlying t ≠ some (.int k)) (hns : P.underlying t ≠ some .string)
  (hg : (eqGuard op t x y (ρv x) (ρv y)).run P w = .ok () w) (h1 : VR ρ u1 (ρv x)) (h2 : VR ρ u2 (ρv y)) (he : eqA pl u1 u2 = some r) :
  Fine id P B0 ρ w ((execOp ρv { dst,op:=.binOp op t x y yt,type:=ty,pos,after,guard:=g }).run P w) (.bool (if (op == .neq) then !r else r)) H:=by
 refine .pure hs (v':=.bool (if (op == .neq) then !r else r)) ?_ (.bool _)
 have heq:=eqA_sound (P:=P) (w:=w) 8 t pl Op.maxDepth hpl (by decide) h1 h2 he
 have hbin : (binOp op t (ρv x) (ρv y)).run P w = .ok (.bool (if (op == .neq) then !r else r)) w:=by
  -- the two values are neither two numbers nor two strings
  have hk : ∀ k m k' m',¬ (ρv x = .int k m ∧ ρv y = .int k' m'):=by
   rintro k m k' m' ⟨hx,hy⟩
   rw [hx] at h1
   cases h1
   have:=eqA_at_int he
   subst this
   obtain ⟨k,hk⟩:=planOf_int hpl
   exact hni k hk
  have hst : ∀ s s',¬ (ρv x = .string s ∧ ρv y = .string s'):=by
   rintro s s' ⟨hx,hy⟩
   rw [hx] at h1
   cases h1
   have:=eqA_at_str he
   subst this
   exact hns (planOf_str hpl)
  have hfl : ∀ k m k' m',¬ (ρv x = .float k m ∧ ρv y = .float k' m'):=by
   rintro k m k' m' ⟨hx,_⟩
   rw [hx] at h1
   cases h1
  have hcx : ∀ k m m2 k' m' m2',¬ (ρv x = .complex k m m2 ∧ ρv y = .complex k' m' m2'):=by
   rintro k m m2 k' m' m2' ⟨hx,_⟩
   rw [hx] at h1
   cases h1
  generalize ρv x = vx at *
  generalize ρv y = vy at *
  have hq : (Op.equal t vx vy).run P w = .ok r w:=heq
  rcases hop with rfl | rfl
  ·unfold binOp
   split <;> first
    | (exfalso; exact hk _ _ _ _ ⟨rfl,rfl⟩)
    | (exfalso; exact hst _ _ ⟨rfl,rfl⟩)
    | (exfalso; exact hfl _ _ _ _ ⟨rfl,rfl⟩)
    | (exfalso; exact hcx _ _ _ _ _ _ ⟨rfl,rfl⟩)
    | contradiction
    | (simp only [Sem.run_bind,hq,Result.andThen_ok]; rfl)
  ·unfold binOp
   split <;> first
    | (exfalso; exact hk _ _ _ _ ⟨rfl,rfl⟩)
    | (exfalso; exact hst _ _ ⟨rfl,rfl⟩)
    | (exfalso; exact hfl _ _ _ _ ⟨rfl,rfl⟩)
    | (exfalso; exact hcx _ _ _ _ _ _ ⟨rfl,rfl⟩)
    | contradiction
    | (simp only [Sem.run_bind,hq,Result.andThen_ok]; rfl)
 simp only [execOp,Sem.run_bind,hg,Result.andThen_ok,hbin,Sem.run_pure]
end
end Go.Abs
/-
 THE ABSTRACT LAYER (9): the other operations that touch no memory.
-/
set_option linter.unusedSimpArgs false
set_option linter.unusedVariables false
namespace Go.Abs
open Go Go.RowKit
section
variable {id : Nat} {P : Program} {B0 n : Nat} {ρ : Rho} {H H' : AH} {w : World} {env : Env} {a : Act} {v : Value}
variable {ty : TypeId} {pos : String} {dst : Option Nat} {after : Array Edge} {g : Option (Nat × Bool)} {ρv : Operand → Value}
theorem sound_nilChk {x : Operand} {u : Value} (hs : Sim P B0 ρ H w) (h1 : VR ρ u (ρv x))
  (hu : (∃ q,u = .pointer (some q)) ∨ (∃ f p q,u = .func (.func f) p q) ∨ (∃ f p q,u = .func (.yield f) p q) ∨ (∃ t q,u = .iface t q)) :
  Fine id P B0 ρ w ((execOp ρv { dst,op:=.nilCheck x,type:=ty,pos,after,guard:=g }).run P w) u H:=by
 refine .pure hs (v':=ρv x) ?_ h1
 rcases hu with ⟨q,rfl⟩ | ⟨f,p,q,rfl⟩ | ⟨f,p,q,rfl⟩ | ⟨t,q,rfl⟩
 ·generalize hx : ρv x = vx at *; cases h1; simp [execOp,hx]
 ·generalize hx : ρv x = vx at *; cases h1; simp [execOp,hx]
 ·generalize hx : ρv x = vx at *
  cases h1 with
  | yield l e h => simp [execOp,hx]
  | func _ _ p' _ q' hfn => exact absurd rfl (hfn f)
 ·generalize hx : ρv x = vx at *; cases h1; simp [execOp,hx]
theorem sound_pick {c x y : Operand} {t : Bool} {u : Value} (hs : Sim P B0 ρ H w) (hc : VR ρ (.bool t) (ρv c)) (h1 : VR ρ u (ρv (if t then x else y))) :
  Fine id P B0 ρ w ((execOp ρv { dst,op:=.pick c x y,type:=ty,pos,after,guard:=g }).run P w) u H:=by
 refine .pure hs (v':=ρv (if t then x else y)) ?_ h1
 cases t <;> simp [execOp,hc.bool_inv,asBool]
theorem sound_conv {s d : TypeId} {k : IntKind} {k0 : IntKind} {m : Int} {x : Operand} {sd : TypeDesc} (hs : Sim P B0 ρ H w) (hsd : P.underlying s = some sd) (hd : P.underlying d = some (.int k)) (h1 : VR ρ (.int k0 m) (ρv x)) :
  Fine id P B0 ρ w ((execOp ρv { dst,op:=.convert s d x,type:=ty,pos,after,guard:=g }).run P w) (.int k (k.wrap m)) H:=by
 refine .pure hs (v':=.int k (k.wrap m)) ?_ (.int _ _)
 simp [execOp,convert,run_underlying hsd,run_underlying hd,h1.int_inv,Conv.intToInt]
theorem sound_convS {s d : TypeId} {b : ByteArray} {x : Operand} (hs : Sim P B0 ρ H w) (hsd : P.underlying s = some .string) (hd : P.underlying d = some .string) (h1 : VR ρ (.string b) (ρv x)) :
  Fine id P B0 ρ w ((execOp ρv { dst,op:=.convert s d x,type:=ty,pos,after,guard:=g }).run P w) (.string b) H:=by
 refine .pure hs (v':=.string b) ?_ (.string _)
 simp [execOp,convert,run_underlying hsd,run_underlying hd,h1.string_inv]
theorem sound_faddr {s : TypeId} {fields : Array Field} {f : Nat} {fd : Field} {m b off : Nat} {x : Operand} (hs : Sim P B0 ρ H w) (hu : P.underlying s = some (.struct fields)) (hf : fields[f]? = some fd)
  (hm : sizeB P fd.type = some m) (hm0 : 0 < m) (h1 : VR ρ (.pointer (some ⟨b,off,none⟩)) (ρv x)) :
  Fine id P B0 ρ w ((execOp ρv { dst,op:=.fieldAddr s x f,type:=ty,pos,after,guard:=g }).run P w) (.pointer (some ⟨b,off + fd.offset,none⟩)) H:=by
 obtain ⟨e,he,hx⟩:=h1.ptr_inv
 refine .pure hs (v':=.pointer (some ⟨e.blk,e.base + (off + fd.offset),none⟩)) ?_ (.ptr _ _ _ he)
 unfold sizeB at hm
 cases hi : P.info? fd.type with
 | none => simp [hi] at hm
 | some i =>
  simp [hi] at hm
  have : i.size ≠ 0:=by omega
  simp [execOp,Instr.fieldAt,run_underlying hu,hf,hx,Instr.sureAddr,fieldPlace,sizeOf,typeInfo,hi,this,add_zero_addr,Nat.add_assoc]
theorem isAgg_run {t : TypeId} {d : TypeDesc} (hd : P.underlying t = some d) : (isAgg t).run P w = .ok (isAggB P t) w:=by
 unfold isAggB
 rw [hd]
 cases d <;> simp [isAgg,run_underlying hd]
theorem part1_run {t : TypeId} {cs : Array Value} {off : Nat} {u : Value} (hag : isAggB P t = false) (hd : (P.underlying t).isSome) (hg : cs[off]? = some u) : (part t cs off).run P w = .ok u w:=by
 obtain ⟨d,hd⟩:=Option.isSome_iff_exists.1 hd
 simp [part,isAgg_run hd,hag,hg]
theorem partN_run {t : TypeId} {cs : Array Value} {off m : Nat} (hag : isAggB P t = true) (hm : sizeB P t = some m) : (part t cs off).run P w = .ok (.agg (cs.extract off (off + m))) w:=by
 cases hd : P.underlying t with
 | none => simp [isAggB,hd] at hag
 | some d =>
  unfold sizeB at hm
  cases hi : P.info? t with
  | none => simp [hi] at hm
  | some i =>
   simp [hi] at hm
   simp [part,isAgg_run hd,hag,sizeOf,typeInfo,hi,hm]
theorem agg_extract {cs cs' : Array Value} (hr : VRs ρ cs.toList cs'.toList) (ho : ones cs.toList) (x y : Nat) : VR ρ (.agg (cs.extract x y)) (.agg (cs'.extract x y)):=by
 have:=VR.mk_agg ((hr.drop x).take (y - x)) (fun u hu => ho u (List.mem_of_mem_drop (List.mem_of_mem_take hu)))
 have e : ∀ c : Array Value,c.extract x y = ((c.toList.drop x).take (y - x)).toArray:=by
  intro c; apply Array.ext'; simp
 rw [e cs,e cs']
 exact this
theorem sound_fld1 {t : TypeId} {fields : Array Field} {f : Nat} {fd : Field} {cs : Array Value} {u : Value} {x : Operand} (hs : Sim P B0 ρ H w) (hu : P.underlying t = some (.struct fields)) (hf : fields[f]? = some fd)
  (hag : isAggB P fd.type = false) (hd : (P.underlying fd.type).isSome) (h1 : VR ρ (.agg cs) (ρv x)) (hg : cs[fd.offset]? = some u) :
  Fine id P B0 ρ w ((execOp ρv { dst,op:=.field t x f,type:=ty,pos,after,guard:=g }).run P w) u H:=by
 obtain ⟨cs',hx,h2,h3⟩:=h1.agg_list
 obtain ⟨u',h4,h5⟩:=h2.get fd.offset u (by simpa using hg)
 refine .pure hs (v':=u') ?_ h5
 have:=part1_run (P:=P) (w:=w) (cs:=cs') hag hd (by simpa using h4)
 simp only [execOp,Instr.field,Sem.run_bind,run_underlying hu,Result.andThen_ok,hf,hx,asAgg,Sem.run_pure,this]
theorem sound_fldN {t : TypeId} {fields : Array Field} {f m : Nat} {fd : Field} {cs : Array Value} {x : Operand} (hs : Sim P B0 ρ H w) (hu : P.underlying t = some (.struct fields)) (hf : fields[f]? = some fd)
  (hag : isAggB P fd.type = true) (hm : sizeB P fd.type = some m) (h1 : VR ρ (.agg cs) (ρv x)) :
  Fine id P B0 ρ w ((execOp ρv { dst,op:=.field t x f,type:=ty,pos,after,guard:=g }).run P w) (.agg (cs.extract fd.offset (fd.offset + m))) H:=by
 obtain ⟨cs',hx,h2,h3⟩:=h1.agg_list
 refine .pure hs (v':=.agg (cs'.extract fd.offset (fd.offset + m))) ?_ (agg_extract h2 h3 _ _)
 have:=partN_run (P:=P) (w:=w) (cs:=cs') (off:=fd.offset) hag hm
 simp only [execOp,Instr.field,Sem.run_bind,run_underlying hu,Result.andThen_ok,hf,hx,asAgg,Sem.run_pure,this]
theorem VR.sl_inv {b off len cap : Nat} {sp : Option Nat} {v' : Value} (h : VR ρ (.slice (some ⟨b,off,sp⟩) len cap) v') :
  ∃ ad cap',v' = .slice (some ad) len cap' ∧ ((len = 0 ∧ cap = 0 ∧ cap' = 0) ∨ (len ≤ cap ∧ ∃ e,ρ b = some e ∧ ad = ⟨e.blk,e.base + off,none⟩ ∧
   ((sp = none ∧ cap' = cap) ∨ (sp = some e.sz ∧ cap ≤ cap' ∧ off + cap' * e.sz = e.fin)))):=by
 cases h with
 | slice _ _ e _ _ h hl => exact ⟨_,_,rfl,.inr ⟨hl,e,h,rfl,.inl ⟨rfl,rfl⟩⟩⟩
 | opn _ _ e _ _ cap' h hl hc hf => exact ⟨_,_,rfl,.inr ⟨hl,e,h,rfl,.inr ⟨rfl,hc,hf⟩⟩⟩
 | zslice _ a' => exact ⟨_,_,rfl,.inl ⟨rfl,rfl,rfl⟩⟩
theorem sound_idxS {t el : TypeId} {m b off len cap : Nat} {sp : Option Nat} {k : IntKind} {i : Int} {x y : Operand} (hs : Sim P B0 ρ H w) (hu : P.underlying t = some (.slice el)) (hm : sizeB P el = some m)
  (h1 : VR ρ (.slice (some ⟨b,off,sp⟩) len cap) (ρv x)) (h2 : VR ρ (.int k i) (ρv y)) (hi : 0 ≤ i ∧ i < len) :
  Fine id P B0 ρ w ((execOp ρv { dst,op:=.indexAddr t x y,type:=ty,pos,after,guard:=g }).run P w) (.pointer (some ⟨b,off + i.toNat * m,none⟩)) H:=by
 obtain ⟨ad,cap',hx,hc⟩:=h1.sl_inv
 rcases hc with ⟨h0,_⟩ | ⟨_,e,he,had,_⟩
 ·omega
 ·refine .pure hs (v':=.pointer (some ⟨e.blk,e.base + (off + i.toNat * m),none⟩)) ?_ (.ptr _ _ _ he)
  unfold sizeB at hm
  cases hj : P.info? el with
  | none => simp [hj] at hm
  | some j =>
   simp [hj] at hm
   simp [execOp,Instr.indexAt,run_underlying hu,hx,h2.int_inv,asIntOf,hi,sizeOf,typeInfo,hj,hm,had,add_zero_addr,Nat.add_assoc]
theorem sound_idxP {t el : TypeId} {m b off len : Nat} {k : IntKind} {i : Int} {x y : Operand} (hs : Sim P B0 ρ H w) (hu : P.underlying t = some (.array len el)) (hm : sizeB P el = some m)
  (h1 : VR ρ (.pointer (some ⟨b,off,none⟩)) (ρv x)) (h2 : VR ρ (.int k i) (ρv y)) (hi : 0 ≤ i ∧ i < len) :
  Fine id P B0 ρ w ((execOp ρv { dst,op:=.indexAddr t x y,type:=ty,pos,after,guard:=g }).run P w) (.pointer (some ⟨b,off + i.toNat * m,none⟩)) H:=by
 obtain ⟨e,he,hx⟩:=h1.ptr_inv
 refine .pure hs (v':=.pointer (some ⟨e.blk,e.base + (off + i.toNat * m),none⟩)) ?_ (.ptr _ _ _ he)
 unfold sizeB at hm
 cases hj : P.info? el with
 | none => simp [hj] at hm
 | some j =>
  simp [hj] at hm
  simp [execOp,Instr.indexAt,run_underlying hu,hx,h2.int_inv,asIntOf,hi,sizeOf,typeInfo,hj,hm,add_zero_addr,Instr.sureAddr,Nat.add_assoc]
theorem sound_idx1 {t el : TypeId} {m len : Nat} {cs : Array Value} {k : IntKind} {i : Int} {x y : Operand} {u : Value} (hs : Sim P B0 ρ H w) (hu : P.underlying t = some (.array len el)) (hm : sizeB P el = some m)
  (hag : isAggB P el = false) (hd : (P.underlying el).isSome) (h1 : VR ρ (.agg cs) (ρv x)) (h2 : VR ρ (.int k i) (ρv y)) (hi : 0 ≤ i ∧ i < len) (hg : cs[i.toNat * m]? = some u) :
  Fine id P B0 ρ w ((execOp ρv { dst,op:=.index t x y,type:=ty,pos,after,guard:=g }).run P w) u H:=by
 obtain ⟨cs',hx,h3,h4⟩:=h1.agg_list
 obtain ⟨u',h5,h6⟩:=h3.get _ u (by simpa using hg)
 refine .pure hs (v':=u') ?_ h6
 have:=part1_run (P:=P) (w:=w) (cs:=cs') hag hd (by simpa using h5)
 unfold sizeB at hm
 cases hj : P.info? el with
 | none => simp [hj] at hm
 | some j =>
  simp [hj] at hm
  simp [execOp,Instr.index,run_underlying hu,hx,h2.int_inv,asIntOf,hi,sizeOf,typeInfo,hj,hm,this]
theorem sound_idxN {t el : TypeId} {m len : Nat} {cs : Array Value} {k : IntKind} {i : Int} {x y : Operand} (hs : Sim P B0 ρ H w) (hu : P.underlying t = some (.array len el)) (hm : sizeB P el = some m)
  (hag : isAggB P el = true) (h1 : VR ρ (.agg cs) (ρv x)) (h2 : VR ρ (.int k i) (ρv y)) (hi : 0 ≤ i ∧ i < len) :
  Fine id P B0 ρ w ((execOp ρv { dst,op:=.index t x y,type:=ty,pos,after,guard:=g }).run P w) (.agg (cs.extract (i.toNat * m) (i.toNat * m + m))) H:=by
 obtain ⟨cs',hx,h3,h4⟩:=h1.agg_list
 refine .pure hs (v':=.agg (cs'.extract (i.toNat * m) (i.toNat * m + m))) ?_ (agg_extract h3 h4 _ _)
 have:=partN_run (P:=P) (w:=w) (cs:=cs') (off:=i.toNat * m) hag hm
 unfold sizeB at hm
 cases hj : P.info? el with
 | none => simp [hj] at hm
 | some j =>
  simp [hj] at hm
  simp [execOp,Instr.index,run_underlying hu,hx,h2.int_inv,asIntOf,hi,sizeOf,typeInfo,hj,hm,this]
theorem sound_idxT {t : TypeId} {s : ByteArray} {k : IntKind} {i : Int} {b : UInt8} {x y : Operand} (hs : Sim P B0 ρ H w) (hu : P.underlying t = some .string)
  (h1 : VR ρ (.string s) (ρv x)) (h2 : VR ρ (.int k i) (ρv y)) (hi : 0 ≤ i) (hg : s[i.toNat]? = some b) :
  Fine id P B0 ρ w ((execOp ρv { dst,op:=.index t x y,type:=ty,pos,after,guard:=g }).run P w) (.int .u8 b.toNat) H:=by
 refine .pure hs (v':=.int .u8 b.toNat) ?_ (.int _ _)
 simp [execOp,Instr.index,run_underlying hu,h1.string_inv,h2.int_inv,asIntOf,hi,hg]
theorem sound_iface {t : TypeId} {d : TypeDesc} {u : Value} {x : Operand} (hs : Sim P B0 ρ H w) (hu : P.underlying t = some d) (hni : ∀ ms,d ≠ .interface ms) (h1 : VR ρ u (ρv x)) :
  Fine id P B0 ρ w ((execOp ρv { dst,op:=.makeInterface t x,type:=ty,pos,after,guard:=g }).run P w) (.iface t u) H:=by
 refine .pure hs (v':=.iface t (ρv x)) ?_ (.iface _ _ _ h1)
 simp only [execOp,Instr.makeInterface,Sem.run_bind,run_underlying hu,Result.andThen_ok]
 cases d <;> first | exact absurd rfl (hni _) | rfl
theorem sound_fn {f : Fn} {first cap : Array Operand} {p q : List Value} (hs : Sim P B0 ρ H w) (hf : ∀ l,f ≠ .yield l) (h1 : VRs ρ p (first.toList.map ρv)) (h2 : VRs ρ q (cap.toList.map ρv)) :
  Fine id P B0 ρ w ((execOp ρv { dst,op:=.makeFunc f first cap,type:=ty,pos,after,guard:=g }).run P w) (.func f p.toArray q.toArray) H:=by
 refine .pure hs (v':=.func f (first.map ρv) (cap.map ρv)) rfl ?_
 refine .func f _ _ _ _ hf (by have:=h1.length; simp at this ⊢; omega) (by have:=h2.length; simp at this ⊢; omega) ?_ ?_
 ·intro i h h'
  have:=h1.toGet i (by simpa using h) (by simpa using h')
  simpa using this
 ·intro i h h'
  have:=h2.toGet i (by simpa using h) (by simpa using h')
  simpa using this
theorem sound_ext {x : Operand} {vs : Array Value} {i : Nat} {u : Value} (hs : Sim P B0 ρ H w) (h1 : VR ρ (.tuple vs) (ρv x)) (hg : vs[i]? = some u) :
  Fine id P B0 ρ w ((execOp ρv { dst,op:=.extract x i,type:=ty,pos,after,guard:=g }).run P w) u H:=by
 generalize hx : ρv x = vx at *
 cases h1 with
 | tuple _ p' hp h =>
  obtain ⟨hlt,hv⟩:=Array.getElem?_eq_some_iff.1 hg
  have hlt' : i < p'.size:=by omega
  refine .pure hs (v':=p'[i]) ?_ (hv ▸ h i hlt hlt')
  simp [execOp,Instr.extract,hx,hlt']
theorem sound_mx {x y : Operand} {ats : Array TypeId} {k k' : IntKind} {m m' : Int} (hs : Sim P B0 ρ H w) (h1 : VR ρ (.int k m) (ρv x)) (h2 : VR ρ (.int k' m') (ρv y)) :
  Fine id P B0 ρ w ((execOp ρv { dst,op:=.call { callee:=.builtin .max,args:=#[x,y],argTypes:=ats },type:=ty,pos,after,guard:=g }).run P w) (.int k (if m' > m then m' else m)) H:=by
 refine .pure hs (v':=.int k (if m' > m then m' else m)) ?_ (.int _ _)
 simp [execOp,resolve,invoke,builtin,Builtin.max_,h1.int_inv,h2.int_inv,Builtin.max2]
theorem sound_mn {x y : Operand} {ats : Array TypeId} {k k' : IntKind} {m m' : Int} (hs : Sim P B0 ρ H w) (h1 : VR ρ (.int k m) (ρv x)) (h2 : VR ρ (.int k' m') (ρv y)) :
  Fine id P B0 ρ w ((execOp ρv { dst,op:=.call { callee:=.builtin .min,args:=#[x,y],argTypes:=ats },type:=ty,pos,after,guard:=g }).run P w) (.int k (if m' < m then m' else m)) H:=by
 refine .pure hs (v':=.int k (if m' < m then m' else m)) ?_ (.int _ _)
 simp [execOp,resolve,invoke,builtin,Builtin.min_,h1.int_inv,h2.int_inv,Builtin.min2]
theorem sound_lenT {x : Operand} {t : TypeId} {s : ByteArray} (hs : Sim P B0 ρ H w) (hu : P.underlying t = some .string) (h1 : VR ρ (.string s) (ρv x)) :
  Fine id P B0 ρ w ((execOp ρv { dst,op:=.call { callee:=.builtin .len,args:=#[x],argTypes:=#[t] },type:=ty,pos,after,guard:=g }).run P w) (.int .i64 s.size) H:=by
 refine .pure hs (v':=.int .i64 s.size) ?_ (.int _ _)
 simp [execOp,resolve,invoke,builtin,Builtin.len_,run_underlying hu,h1.string_inv,goInt]
theorem VR.slice_len {ad : Option Addr} {m c : Nat} {v' : Value} (h : VR ρ (.slice ad m c) v') : ∃ ad' c',v' = .slice ad' m c' ∧ ad'.isNone = ad.isNone:=by
 cases h <;> exact ⟨_,_,rfl,rfl⟩
theorem sound_lenS {x : Operand} {t el : TypeId} {ad : Option Addr} {m c : Nat} (hs : Sim P B0 ρ H w) (hu : P.underlying t = some (.slice el)) (h1 : VR ρ (.slice ad m c) (ρv x)) :
  Fine id P B0 ρ w ((execOp ρv { dst,op:=.call { callee:=.builtin .len,args:=#[x],argTypes:=#[t] },type:=ty,pos,after,guard:=g }).run P w) (.int .i64 m) H:=by
 refine .pure hs (v':=.int .i64 m) ?_ (.int _ _)
 obtain ⟨ad',c',hx,_⟩:=h1.slice_len
 simp [execOp,resolve,invoke,builtin,Builtin.len_,run_underlying hu,hx,goInt]
theorem sound_lenK {x : Operand} {t el : TypeId} {m : Nat} (hs : Sim P B0 ρ H w) (hu : P.underlying t = some (.array m el)) :
  Fine id P B0 ρ w ((execOp ρv { dst,op:=.call { callee:=.builtin .len,args:=#[x],argTypes:=#[t] },type:=ty,pos,after,guard:=g }).run P w) (.int .i64 m) H:=by
 refine .pure hs (v':=.int .i64 m) ?_ (.int _ _)
 simp [execOp,resolve,invoke,builtin,Builtin.len_,run_underlying hu,goInt]
theorem sound_cap {x : Operand} {t el : TypeId} {ad : Option Addr} {m c : Nat} (hs : Sim P B0 ρ H w) (hu : P.underlying t = some (.slice el)) (h1 : VR ρ (.slice ad m c) (ρv x)) (hsp : ∀ q,ad = some q → q.spot = none) :
  Fine id P B0 ρ w ((execOp ρv { dst,op:=.call { callee:=.builtin .cap,args:=#[x],argTypes:=#[t] },type:=ty,pos,after,guard:=g }).run P w) (.int .i64 c) H:=by
 refine .pure hs (v':=.int .i64 c) ?_ (.int _ _)
 generalize hx : ρv x = vx at *
 cases h1 with
 | opn _ _ _ _ _ _ => exact absurd (hsp _ rfl) (by simp)
 | _ => simp [execOp,resolve,invoke,builtin,Builtin.cap_,run_underlying hu,hx,goInt]
theorem sound_assertT {t s : TypeId} {d : TypeDesc} {zero : Value} {ok : Bool} {u : Value} {x : Operand} (hs : Sim P B0 ρ H w) (hu : P.underlying t = some d) (hni : ∀ ms,d ≠ .interface ms) (hz : zeroVal P t = some zero)
  (h1 : VR ρ u (ρv x)) {r : Value} (hr : (∃ q,u = .iface t q ∧ r = if ok then .tuple #[q,.bool true] else q) ∨ ((u = .nilIface ∨ ∃ t' q,t' ≠ t ∧ u = .iface t' q) ∧ ok = true ∧ r = .tuple #[zero,.bool false])) :
  Fine id P B0 ρ w ((execOp ρv { dst,op:=.typeAssert x s t ok,type:=ty,pos,after,guard:=g }).run P w) r H:=by
 generalize hx : ρv x = vx at *
 have hzr : (zeroValue t).run P w = .ok zero w ∧ plainC zero = true:=by
  unfold zeroVal at hz
  split at hz
  ·rename_i i hi
   split at hz
   ·rename_i z hz'
    split at hz
    ·cases hz; exact ⟨by simp [zeroValue,typeInfo,hi,hz'],‹_›⟩
    ·cases hz
   ·cases hz
  ·cases hz
 have tup : ∀ {q q' : Value} (b : Bool),VR ρ q q' → VR ρ (.tuple #[q,.bool b]) (.tuple #[q',.bool b]):=by
  intro q q' b hq
  refine .tuple _ _ rfl (fun i h h' => ?_)
  rcases i with _ | _ | i
  ·exact hq
  ·exact .bool b
  ·simp at h; omega
 have open' : ∀ {f : Value → Sem Value},(Instr.typeAssert vx s t ok).run P w = (Instr.typeAssert vx s t ok).run P w:=rfl
 rcases hr with ⟨q,rfl,rfl⟩ | ⟨hq,rfl,rfl⟩
 ·cases h1 with
  | iface _ _ q' hq =>
   refine .pure hs (v':=if ok then .tuple #[q',.bool true] else q') ?_ (by cases ok; exact hq; exact tup true hq)
   simp only [execOp,Instr.typeAssert,Sem.run_bind,run_underlying hu,Result.andThen_ok,hx]
   cases d <;> first | exact absurd rfl (hni _) | simp
 ·refine .pure hs (v':=.tuple #[zero,.bool false]) ?_ (tup false (VR.of_plainC hzr.2))
  rcases hq with rfl | ⟨t',q,hne,rfl⟩
  ·cases h1
   simp only [execOp,Instr.typeAssert,Sem.run_bind,run_underlying hu,Result.andThen_ok,hx]
   cases d <;> first | exact absurd rfl (hni _) | simp [hzr.1]
  ·cases h1 with
   | iface _ _ q' hq =>
    simp only [execOp,Instr.typeAssert,Sem.run_bind,run_underlying hu,Result.andThen_ok,hx]
    cases d <;> first | exact absurd rfl (hni _) | simp [hne,hzr.1]
end
end Go.Abs
/-
 THE ABSTRACT LAYER (10): slicing,appending,copying,clearing.
-/
set_option linter.unusedSimpArgs false
set_option linter.unusedVariables false
namespace Go.Abs
open Go Go.RowKit
section
variable {id : Nat} {P : Program} {B0 n : Nat} {ρ : Rho} {H H' : AH} {w : World} {env : Env} {a : Act} {v : Value}
variable {ty : TypeId} {pos : String} {dst : Option Nat} {after : Array Edge} {g : Option (Nat × Bool)}
theorem boundA_sound (hs : Sim P B0 ρ H w) (he : EnvR n ρ env a.tmps) {y r : Nat} {x : Operand} {d : Nat} (hk : okOpd P x = true) (h : boundA env y (some x) d = some r) (y' : Nat) (hy : y ≤ y') (code : BoundsCode) :
  (Instr.sliceBound (a.eval x) y' code).run P w = .ok r w ∧ r ≤ y:=by
 simp only [boundA] at h
 split at h
 ·rename_i k i hv
  split at h
  ·rename_i hi
   cases h
   have:=(aval_sound hs he hk hv).int_inv
   refine ⟨?_,by omega⟩
   have h2 : 0 ≤ i ∧ i ≤ (y' : Int):=⟨hi.1,by omega⟩
   simp [Instr.sliceBound,this,asIntOf,h2]
  ·cases h
 ·cases h
def okO (P : Program) (o : Option Operand) : Prop:=∀ x,o = some x → okOpd P x = true
theorem boundsA_sound (hs : Sim P B0 ρ H w) (he : EnvR n ρ env a.tmps) {len cap cap' l h m : Nat} {lo hi mx : Option Operand} (k1 : okO P lo) (k2 : okO P hi) (k3 : okO P mx) (hc : cap ≤ cap') (hl : len ≤ cap)
  (hb : boundsA env len cap lo hi mx = some (l,h,m)) (isSlice : Bool) :
  (Instr.sliceBounds isSlice len cap' (lo.map a.eval) (hi.map a.eval) (mx.map a.eval)).run P w = .ok (l,h,if mx.isSome then m else cap') w ∧ l ≤ h ∧ h ≤ m ∧ m ≤ cap ∧ (mx = none → m = cap):=by
 unfold boundsA at hb
 split at hb
 ·cases hb
 ·rename_i m1 hm
  split at hb
  ·cases hb
  ·rename_i hmh
   split at hb
   ·cases hb
   ·rename_i h1 hh
    split at hb
    ·cases hb
    rename_i l1 hlo
    simp only [Option.some.injEq,Prod.mk.injEq] at hb
    obtain ⟨rfl,rfl,rfl⟩:=hb
    cases mx with
    | none =>
     simp only [boundA,Option.some.injEq] at hm
     subst hm
     cases hi with
     | none =>
      simp only [boundA,Option.some.injEq] at hh
      subst hh
      cases lo with
      | none =>
       simp only [boundA,Option.some.injEq] at hlo
       subst hlo
       refine ⟨by simp [Instr.sliceBounds],by omega,by omega,by omega,fun _ => rfl⟩
      | some x =>
       obtain ⟨r1,r2⟩:=boundA_sound hs he (k1 x rfl) hlo len (Nat.le_refl _) .sliceB
       refine ⟨by simp [Instr.sliceBounds,r1],by omega,by omega,by omega,fun _ => rfl⟩
     | some y =>
      obtain ⟨q1,q2⟩:=boundA_sound hs he (k2 y rfl) hh cap' hc (if isSlice then .sliceAcap else .sliceAlen)
      cases lo with
      | none =>
       simp only [boundA,Option.some.injEq] at hlo
       subst hlo
       refine ⟨by simp [Instr.sliceBounds,q1],by omega,by omega,by omega,fun _ => rfl⟩
      | some x =>
       obtain ⟨r1,r2⟩:=boundA_sound hs he (k1 x rfl) hlo h1 (Nat.le_refl _) .sliceB
       refine ⟨by simp [Instr.sliceBounds,q1,r1],by omega,by omega,by omega,fun _ => rfl⟩
    | some z =>
     obtain ⟨p1,p2⟩:=boundA_sound hs he (k3 z rfl) hm cap' hc (if isSlice then .slice3Acap else .slice3Alen)
     cases hi with
     | none => simp at hmh
     | some y =>
      obtain ⟨q1,q2⟩:=boundA_sound hs he (k2 y rfl) hh m1 (Nat.le_refl _) .slice3B
      cases lo with
      | none =>
       simp only [boundA,Option.some.injEq] at hlo
       subst hlo
       refine ⟨by simp [Instr.sliceBounds,p1,q1],by omega,by omega,by omega,fun h => by cases h⟩
      | some x =>
       obtain ⟨r1,r2⟩:=boundA_sound hs he (k1 x rfl) hlo h1 (Nat.le_refl _) .slice3C
       refine ⟨by simp [Instr.sliceBounds,p1,q1,r1],by omega,by omega,by omega,fun h => by cases h⟩
theorem size_of {t : TypeId} {m : Nat} (h : sizeB P t = some m) : (sizeOf t).run P w = .ok m w:=by
 unfold sizeB at h
 cases hi : P.info? t with
 | none => simp [hi] at h
 | some i => simp [hi] at h; simp [sizeOf,typeInfo,hi,h]
theorem sound_slT {t : TypeId} {s : ByteArray} {x : Operand} {lo hi : Option Operand} {l h m : Nat} (hs : Sim P B0 ρ H w) (he : EnvR n ρ env a.tmps) (hu : P.underlying t = some .string) (k1 : okO P lo) (k2 : okO P hi)
  (h1 : VR ρ (.string s) (a.eval x)) (hb : boundsA env s.size s.size lo hi none = some (l,h,m)) :
  Fine id P B0 ρ w ((execOp a.eval { dst,op:=.slice t x lo hi none,type:=ty,pos,after,guard:=g }).run P w) (.string (s.extract l h)) H:=by
 obtain ⟨r,_⟩:=boundsA_sound hs he k1 k2 (by intro x hx; cases hx) (Nat.le_refl _) (Nat.le_refl _) hb false
 refine .pure hs (v':=.string (s.extract l h)) ?_ (.string _)
 simp only [Option.map_none] at r
 simp [execOp,Instr.sliceAt,Instr.slice,run_underlying hu,h1.string_inv,r]
theorem sound_slP {t el : TypeId} {k b off sz : Nat} {x : Operand} {lo hi mx : Option Operand} {l h m : Nat} (hs : Sim P B0 ρ H w) (he : EnvR n ρ env a.tmps)
  (hu : P.underlying t = some (.array k el) ∨ ∃ arr,P.underlying t = some (.pointer arr) ∧ P.underlying arr = some (.array k el)) (hz : sizeB P el = some sz) (k1 : okO P lo) (k2 : okO P hi) (k3 : okO P mx)
  (h1 : VR ρ (.pointer (some ⟨b,off,none⟩)) (a.eval x)) (hb : boundsA env k k lo hi mx = some (l,h,m)) :
  Fine id P B0 ρ w ((execOp a.eval { dst,op:=.slice t x lo hi mx,type:=ty,pos,after,guard:=g }).run P w) (.slice (some ⟨b,if m = l then off else off + l * sz,none⟩) (h - l) (m - l)) H:=by
 obtain ⟨r,q1,q2,q3,q4⟩:=boundsA_sound hs he k1 k2 k3 (Nat.le_refl _) (Nat.le_refl _) hb false
 obtain ⟨e,hbe,hx⟩:=h1.ptr_inv
 have hm : (if mx.isSome then m else k) = m:=by
  cases mx with
  | none => simp [q4 rfl]
  | some y => rfl
 rw [hm] at r
 refine .pure hs (v':=.slice (some ⟨e.blk,e.base + (if m = l then off else off + l * sz),none⟩) (h - l) (m - l)) ?_ (.slice _ _ _ _ _ hbe (by omega))
 have hadd : (if m = l then (⟨e.blk,e.base + off,none⟩ : Addr) else (⟨e.blk,e.base + off,none⟩ : Addr).add (l * sz)) = ⟨e.blk,e.base + (if m = l then off else off + l * sz),none⟩:=by
  split
  ·rfl
  ·rw [add_zero_addr,Nat.add_assoc]
 rcases hu with hu | ⟨arr,hu,hu2⟩
 ·simp only [execOp,Instr.sliceAt,Sem.run_bind,run_underlying hu,Result.andThen_ok,hx,Instr.sureAddr,Sem.run_pure,r,size_of hz,hadd]
 ·simp only [execOp,Instr.sliceAt,Instr.slice,Sem.run_bind,run_underlying hu,run_underlying hu2,Result.andThen_ok,hx,asAddr,Sem.run_pure,r,size_of hz,hadd]
theorem sound_slN {t el : TypeId} {sz : Nat} {x : Operand} {lo hi mx : Option Operand} {r3 : Nat × Nat × Nat} (hs : Sim P B0 ρ H w) (he : EnvR n ρ env a.tmps)
  (hu : P.underlying t = some (.slice el)) (hz : sizeB P el = some sz) (k1 : okO P lo) (k2 : okO P hi) (k3 : okO P mx)
  (h1 : VR ρ (.slice none 0 0) (a.eval x)) (hb : boundsA env 0 0 lo hi mx = some r3) :
  Fine id P B0 ρ w ((execOp a.eval { dst,op:=.slice t x lo hi mx,type:=ty,pos,after,guard:=g }).run P w) (.slice none 0 0) H:=by
 obtain ⟨l,h,m⟩:=r3
 obtain ⟨r,q1,q2,q3,q4⟩:=boundsA_sound hs he k1 k2 k3 (Nat.le_refl _) (Nat.le_refl _) hb true
 have hx : a.eval x = .slice none 0 0:=by generalize a.eval x = vx at *; cases h1; rfl
 refine .pure hs (v':=.slice none 0 0) ?_ .nilSlice
 have hm : (if mx.isSome then m else 0) = 0:=by split <;> omega
 have hl0 : l = 0:=by omega
 have hh0 : h = 0:=by omega
 rw [hm,hl0,hh0] at r
 simp only [execOp,Instr.sliceAt,Instr.slice,Sem.run_bind,run_underlying hu,Result.andThen_ok,hx,Sem.run_pure,r,size_of hz]
 rfl
theorem sound_sl {t el : TypeId} {sz b off len cap : Nat} {sp : Option Nat} {x : Operand} {lo hi mx : Option Operand} {l h m : Nat} {r : Value} (hs : Sim P B0 ρ H w) (he : EnvR n ρ env a.tmps)
  (hu : P.underlying t = some (.slice el)) (hz : sizeB P el = some sz) (k1 : okO P lo) (k2 : okO P hi) (k3 : okO P mx)
  (h1 : VR ρ (.slice (some ⟨b,off,sp⟩) len cap) (a.eval x)) (hb : boundsA env len cap lo hi mx = some (l,h,m))
  (hr : (∃ t',sp = some t' ∧ mx = none ∧ t' = sz ∧ r = .slice (some ⟨b,off + l * sz,some t'⟩) (h - l) (m - l)) ∨
   ((sp = none ∨ mx.isSome) ∧ r = .slice (some ⟨b,if m = l then off else off + l * sz,none⟩) (h - l) (m - l))) :
  Fine id P B0 ρ w ((execOp a.eval { dst,op:=.slice t x lo hi mx,type:=ty,pos,after,guard:=g }).run P w) r H:=by
 obtain ⟨ad,cap',hx,hc⟩:=h1.sl_inv
 have hcap : cap ≤ cap' ∧ len ≤ cap:=by
  rcases hc with ⟨_,_,_⟩ | ⟨_,e,_,_,⟨_,_⟩ | ⟨_,_,_⟩⟩ <;> omega
 obtain ⟨rb,q1,q2,q3,q4⟩:=boundsA_sound hs he k1 k2 k3 hcap.1 hcap.2 hb true
 generalize hM : (if mx.isSome then m else cap') = M at rb
 have hrun : (execOp a.eval { dst,op:=.slice t x lo hi mx,type:=ty,pos,after,guard:=g }).run P w = .ok (.value (.slice (some (if M = l then ad else ad.add (l * sz))) (h - l) (M - l))) w:=by
  simp only [execOp,Instr.sliceAt,Instr.slice,Sem.run_bind,run_underlying hu,Result.andThen_ok,hx,Sem.run_pure,rb,size_of hz,Option.map_some]
  split <;> rfl
 refine .pure hs hrun ?_
 rcases hc with ⟨h0,h2,h3⟩ | ⟨_,e,hbe,had,hcc⟩
 ·have hM0 : M = 0:=by rw [← hM]; split <;> omega
  have e1 : l = 0:=by omega
  have e2 : h = 0:=by omega
  have e3 : m = 0:=by omega
  subst e1 e2 e3 hM0
  rcases hr with ⟨t',_,_,_,rfl⟩ | ⟨_,rfl⟩ <;> exact .zslice _ _
 ·subst had
  rcases hr with ⟨t',rfl,rfl,rfl,rfl⟩ | ⟨hsm,rfl⟩
  ·rcases hcc with ⟨hcc,_⟩ | ⟨hsp,hc1,hc2⟩
   ·cases hcc
   ·cases hsp
    simp only [Option.isSome_none,Bool.false_eq_true,if_false] at hM
    subst hM
    have hmc:=q4 rfl
    by_cases hl : cap' = l
    ·have e1 : h - l = 0:=by omega
     have e2 : m - l = 0:=by omega
     have e3 : cap' - l = 0:=by omega
     rw [e1,e2,e3]
     exact .zslice _ _
    ·rw [if_neg hl,add_zero_addr,Nat.add_assoc]
     refine .opn _ _ e _ _ _ hbe (by omega) (by omega) ?_
     rw [← hc2,Nat.add_assoc,← Nat.add_mul]
     congr 2; omega
  ·have hMm : M = m:=by
    rw [← hM]
    rcases hsm with rfl | hsm
    ·rcases hcc with ⟨_,hcc⟩ | ⟨hcc,_⟩
     ·cases mx with
      | none => simp [q4 rfl,hcc]
      | some y => rfl
     ·cases hcc
    ·simp [hsm]
   subst hMm
   have hadd : (if M = l then (⟨e.blk,e.base + off,none⟩ : Addr) else (⟨e.blk,e.base + off,none⟩ : Addr).add (l * sz)) = ⟨e.blk,e.base + (if M = l then off else off + l * sz),none⟩:=by
    split
    ·rfl
    ·rw [add_zero_addr,Nat.add_assoc]
   rw [hadd]
   exact .slice _ _ _ _ _ hbe (by omega)
end
end Go.Abs
