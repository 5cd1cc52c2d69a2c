/-
  THE ABSTRACT LAYER (11): append, copy, clear.
-/
import Derived.Test.YtejifalflkbekaaDoorA10
import Derived.OrdersIn
import Derived.Laws.Externs
import Derived.KernelRfl
set_option linter.unusedSimpArgs false
set_option linter.unusedVariables false
namespace Go.Abs
open Go Go.RowKit
section
variable {id : Nat} {P : Program} {B0 n : Nat} {ρ : Rho} {H H' : AH} {w : World} {env : Env} {a : Act} {v : Value}
variable {ty : TypeId} {pos : String} {dst : Option Nat} {after : Array Edge} {g : Option (Nat × Bool)} {ρv : Operand → Value}
theorem elems_sound (hs : Sim P B0 ρ H w) {sz m c : Nat} {ad : Option Addr} {x' : Value} {news : List Value} (h1 : VR ρ (.slice ad m c) x') (he : elemsA H sz (.slice ad m c) = some news) :
  ∃ news' ad' c',x' = .slice ad' m c' ∧ VRs ρ news news' ∧ ones news ∧ news.length = m * sz ∧ (∀ w0 : World,w0.heap = w.heap → (Builtin.firstCells sz m x').run P w0 = .ok news'.toArray w0):=by
 cases ad with
 | none =>
  cases m with
  | succ m => cases h1
  | zero =>
   cases c with
   | succ c => cases h1
   | zero =>
    cases h1
    simp [elemsA] at he
    subst he
    exact ⟨[],none,0,rfl,.nil,fun v hv => by simp at hv,by simp,fun w0 _ => by simp [Builtin.firstCells]⟩
 | some ad =>
  obtain ⟨b,off,sp⟩:=ad
  obtain ⟨ad',c',hx,hc⟩:=h1.sl_inv
  simp only [elemsA] at he
  split at he
  ·rename_i hm
   cases he
   subst hm
   refine ⟨[],_,c',hx,.nil,fun v hv => by simp at hv,by simp,fun w0 _ => ?_⟩
   rw [hx]
   simp [Builtin.firstCells,loadCells,loadCellsFrom]
  ·rename_i hm
   rcases hc with ⟨h0,_⟩ | ⟨_,e,hbe,had,_⟩
   ·exact absurd h0 hm
   ·cases hcs : H.cells b with
    | none => simp [hcs] at he
    | some cs =>
     simp only [hcs,Option.bind_some] at he
     obtain ⟨hl,rfl,hrl⟩:=cut_some he
     obtain ⟨cs',r1,r2,r3⟩:=hs.read hbe hcs
     have hr:=(r1.drop off).take (m * sz)
     have hcl:=r1.length
     refine ⟨(cs'.drop off).take (m * sz),_,c',hx,hr,fun u hu => r2 u (List.mem_of_mem_drop (List.mem_of_mem_take hu)),hrl,fun w0 hw0 => ?_⟩
     rw [hx,had]
     refine run_firstCells_some (P:=P) w0 sz m _ m c' _ (by simp; omega) (fun j u hj => ?_)
     have hj' : j < m * sz:=by have:=(List.getElem?_eq_some_iff.1 hj).1; simp at this; omega
     have hq:=r3 (off + j) (by omega)
     rw [add_zero_addr,Nat.add_assoc]
     have : w0.cell? ⟨e.blk,e.base + (off + j),none⟩ = w.cell? ⟨e.blk,e.base + (off + j),none⟩:=by simp [World.cell?,hw0]
     rw [this,hq]
     rw [List.getElem?_take_of_lt hj',List.getElem?_drop] at hj
     exact hj
theorem bytes_rel : ∀ {l l' : List Value} {s r : ByteArray},VRs ρ l l' → bytesL l s = some r → l' = l
 | _,_,_,_,.nil,_ => rfl
 | _ :: _,_,s,r,.cons (v:=v) h t,hb => by
  unfold bytesL at hb
  split at hb
  ·rename_i e; cases e
  ·rename_i n r' s' e
   cases e
   rw [h.int_inv,bytes_rel t hb]
  ·cases hb
theorem bytes_run {f : Value → ByteArray → Sem (ForInStep ByteArray)} (hf : ∀ n s w0,(f (.int .u8 n) s).run P w0 = .ok (.yield (s.push (UInt8.ofNat n.toNat))) w0) : ∀ {l : List Value} {s r : ByteArray},bytesL l s = some r → ∀ w0,(forIn l s f).run P w0 = .ok r w0
 | [],s,r,h,w0 => by cases h; simp
 | v :: l,s,r,h,w0 => by
  unfold bytesL at h
  split at h
  ·rename_i e; cases e
  ·rename_i n r' s' e
   cases e
   simp only [List.forIn_cons,Sem.run_bind,hf,Result.andThen_ok]
   exact bytes_run hf h w0
  ·cases h
theorem sound_bstr {s d e : TypeId} {x : Operand} {u r : Value} (hs : Sim P B0 ρ H w) (hsd : P.underlying s = some (.slice e)) (hd : P.underlying d = some .string) (he : P.underlying e = some (.int .u8)) (h1 : VR ρ u (ρv x)) (hr : bstrA H u = some r) :
  Fine id P B0 ρ w ((execOp ρv { dst,op:=.convert s d x,type:=ty,pos,after,guard:=g }).run P w) r H:=by
 unfold bstrA at hr
 split at hr
 ·rename_i a n c
  split at hr
  ·rename_i l hl
   obtain ⟨bs,hbs,rfl⟩:=Option.map_eq_some_iff.1 hr
   obtain ⟨l',ad',c',hx,hv,_,hlen,hrun⟩:=elems_sound hs h1 hl
   obtain rfl:=bytes_rel hv hbs
   refine .pure hs (v':=.string bs) ?_ (.string _)
   have hrun:=hrun w rfl
   rw [hx] at hrun
   cases ad' with
   | none =>
    simp [Builtin.firstCells] at hrun
    subst hrun
    cases hbs
    simp [execOp,convert,run_underlying hsd,run_underlying hd,run_underlying he,hx,Conv.bytesToString]
   | some ad =>
    simp only [Builtin.firstCells,Nat.mul_one] at hrun
    simp [execOp,convert,run_underlying hsd,run_underlying hd,run_underlying he,hx,Conv.bytesToString,hrun]
    rw [bytes_run (fun n s w0 => by simp) hbs w]
    rfl
  ·cases hr
 ·cases hr
theorem run_grow {t u el : TypeId} {ud : TypeDesc} {i : TypeInfo} {z : Value} (ht : P.underlying t = some (.slice el)) (hu : P.underlying u = some ud) (hud : ∀ k,ud ≠ .int k) (hi : P.info? el = some i) (hz : i.zero = some z)
  {ad ad' : Option Addr} {len cap m c : Nat} {olds news : List Value}
  (ho : ∀ w0 : World,w0.heap = w.heap → (Builtin.firstCells i.size len (.slice ad len cap)).run P w0 = .ok olds.toArray w0)
  (hn : ∀ w0 : World,w0.heap = w.heap → (Builtin.firstCells i.size m (.slice ad' m c)).run P w0 = .ok news.toArray w0)
  (hg : cap < len + m) (h63 : len + m ≤ 9223372036854775807) (hb : (len + m) * i.bytes ≤ 140737488355328) :
  (Builtin.append_ #[t,u] ty #[.slice ad len cap,.slice ad' m c]).run P w =
   .ok (.slice (some ⟨w.heap.size,0,none⟩) (len + m) (grownCap w (len + m) cap el))
    (w.drew.alloc (.cells (olds.toArray ++ news.toArray ++ Builtin.zeroCells z.cells (grownCap w (len + m) cap el - (len + m))) el)):=by
 have hn1 : ¬ (len + m ≤ cap):=by omega
 have hm0 : ¬ (9223372036854775807 < ((len : Int) + (m : Int))):=by omega
 have hfit:=growslice_fits (need:=len + m) (old:=cap) (bytes:=i.bytes) hg hb
 have h48 : ¬ (281474976710656 < Builtin.nextslicecap (len + m) cap * i.bytes):=by omega
 have hnz : (ud matches .int _) = false:=by cases ud <;> first | rfl | exact absurd rfl (hud _)
 have hoo:=ho w.drew rfl
 have hnn:=hn w.drew rfl
 simp [Builtin.append_,run_underlying ht,run_underlying hu,hnz,sizeOf,typeInfo,zeroValue,hi,hz,Builtin.lenOf,hn1,hm0,h48,Question.forced,hoo,hnn,newRow,grownCap]
 congr 2
 apply Array.ext'
 simp [List.append_assoc]
theorem run_room {t u el : TypeId} {ud : TypeDesc} {i : TypeInfo} (ht : P.underlying t = some (.slice el)) (hu : P.underlying u = some ud) (hud : ∀ k,ud ≠ .int k) (hi : P.info? el = some i)
  {ad : Addr} {ad' : Option Addr} {len cap m c : Nat} {news : List Value} {w' : World}
  (hn : (Builtin.firstCells i.size m (.slice ad' m c)).run P w = .ok news.toArray w)
  (hg : len + m ≤ cap) (hst : (storeCells (ad.add (len * i.size)) news).run P w = .ok () w') :
  (Builtin.append_ #[t,u] ty #[.slice (some ad) len cap,.slice ad' m c]).run P w = .ok (.slice (some ad) (len + m) cap) w':=by
 have hnz : (ud matches .int _) = false:=by cases ud <;> first | rfl | exact absurd rfl (hud _)
 simp [Builtin.append_,run_underlying ht,run_underlying hu,hnz,sizeOf,typeInfo,hi,Builtin.lenOf,hg,hn,hst]
theorem run_nil0 {t u el : TypeId} {ud : TypeDesc} {i : TypeInfo} (ht : P.underlying t = some (.slice el)) (hu : P.underlying u = some ud) (hud : ∀ k,ud ≠ .int k) (hi : P.info? el = some i)
  {ad' : Option Addr} {c : Nat} (hn : (Builtin.firstCells i.size 0 (.slice ad' 0 c)).run P w = .ok (([] : List Value)).toArray w) :
  (Builtin.append_ #[t,u] ty #[.slice none 0 0,.slice ad' 0 c]).run P w = .ok (.slice none 0 0) w:=by
 have hnz : (ud matches .int _) = false:=by cases ud <;> first | rfl | exact absurd rfl (hud _)
 simp [Builtin.append_,run_underlying ht,run_underlying hu,hnz,sizeOf,typeInfo,hi,Builtin.lenOf,hn]
theorem cellsOf_size {t : TypeId} {i : TypeInfo} (hi : P.info? t = some i) : P.cellsOf t = i.size:=by simp [Program.cellsOf,hi]
theorem grown_step (hid : ρ id = none) (hs : Sim P B0 ρ H w) {el : TypeId} {i : TypeInfo} {z : Value} (hi : P.info? el = some i) (hzs : z.cells.size = i.size) {olds news olds' news' : List Value} {need cap : Nat}
  (hv : VRs ρ (olds ++ news) (olds' ++ news')) (ho : ones (olds ++ news)) (hl : (olds ++ news).length = need * i.size) (hg : need ≤ grownCap w need cap el) :
  ∃ ρ',Stp P B0 ρ w ρ' (H.allocAt id (.row (olds ++ news) el true)) (w.drew.alloc (.cells (olds'.toArray ++ news'.toArray ++ Builtin.zeroCells z.cells (grownCap w need cap el - need)) el)) ∧
   VR ρ' (.slice (some ⟨id,0,some i.size⟩) need need) (.slice (some ⟨w.heap.size,0,none⟩) need (grownCap w need cap el)) ∧ Only id ρ ρ':=by
 generalize hr : (Builtin.zeroCells z.cells (grownCap w need cap el - need)).toList = rest
 have hrl : rest.length = (grownCap w need cap el - need) * i.size:=by rw [← hr]; simp [Builtin.zeroCells,hzs]
 have hst:=hs.push_rowAt hid (w':=w.drew.alloc (.cells (olds'.toArray ++ news'.toArray ++ Builtin.zeroCells z.cells (grownCap w need cap el - need)) el)) el (olds ++ news) (olds' ++ news') rest hv ho
  (by
   simp only [World.alloc,World.drew]
   congr 2
   apply Array.ext'
   simp [hr]) rfl rfl rfl
 refine ⟨_,hst,?_,.add⟩
 have hlen:=hv.length
 have hfin : ((olds' ++ news') ++ rest).length = grownCap w need cap el * i.size:=by
  rw [List.length_append,hlen,hl,hrl,← Nat.add_mul]; congr 1; omega
 have:=VR.opn (ρ:=ρ.add id ⟨w.heap.size,0,((olds' ++ news') ++ rest).length,P.cellsOf el⟩) id 0 ⟨w.heap.size,0,((olds' ++ news') ++ rest).length,P.cellsOf el⟩ need need (grownCap w need cap el) (by simp [Rho.add]) (Nat.le_refl _) hg
  (by simp only [Nat.zero_add]; rw [cellsOf_size hi,hfin])
 simpa [cellsOf_size hi] using this
theorem Fine.of {r : Result Next} {v v' : Value} {w' : World} {ρ' : Rho} (hr : r = .ok (.value v') w') (h : Stp P B0 ρ w ρ' H' w') (hv : VR ρ' v v') (ho : Only id ρ ρ') : Fine id P B0 ρ w r v H':=⟨v',w',ρ',.inl hr,h,hv,ho⟩
theorem kill_alloc_blk (H : AH) (id b : Nat) (B : Blk) (x : Nat) : ((H.kill b).allocAt id B).blk x = if x = id then some B else if x = b then none else H.blk x:=rfl
theorem Sim.over_grow (hs : Sim P B0 ρ H w) (hn : ρ id = none) {b off sz : Nat} {e : Emb} {cs : List Value} {el : TypeId} (he : ρ b = some e) (hb : H.blk b = some (.row cs el true)) {olds news news' : List Value}
  (hcute : olds = (cs.drop off).take olds.length) (hv : VRs ρ news news') (ho : ones news) (hfit : off + olds.length + news.length ≤ e.fin) :
  ∃ w',(storeCells ⟨e.blk,e.base + off + olds.length,none⟩ news').run P w = .ok () w' ∧
   Stp P B0 ρ w (ρ.add id ⟨e.blk,e.base + off,e.fin - off,e.sz⟩) ((H.kill b).allocAt id (.row (olds ++ news) el true)) w':=by
 obtain ⟨e2,he2,c,t,fr,cells',h1,h2,h3,h4,h5⟩:=hs.live _ _ hb
 rw [he] at he2
 cases he2
 obtain ⟨k1,rfl,rfl,k2,k3,k4⟩:=h5 rfl
 have hcut : olds.length ≤ cs.length - off:=by
  have:=congrArg List.length hcute
  rw [List.length_take,List.length_drop] at this
  omega
 have hlen:=hv.length
 have hcl:=h2.length
 have hfitc : e.base + off + olds.length + 0 + news'.length ≤ c.size:=by omega
 have ho' : ∀ v ∈ news',v.oneCell' = true:=fun v hv' => by rw [oneCell'_eq]; exact hv.ones ho v hv'
 have hrun:=run_storeCells_at P e.blk (e.base + off + olds.length) t news' 0 c w h1 hfitc ho'
 refine ⟨_,hrun,?_⟩
 generalize hc2 : (List.take (e.base + off + olds.length + 0) c.toList ++ news' ++ List.drop (e.base + off + olds.length + 0 + news'.length) c.toList).toArray = c2
 have hc2l : c2.toList = over c.toList (e.base + off + olds.length) news':=by subst hc2; simp [over]
 have hc2s : c2.size = c.size:=by
  have:=congrArg List.length hc2l
  rw [over_length (by simpa using hfitc)] at this
  simpa using this
 have hself:=setRow_heap w e.blk c c2 t (0,0) h1
 have hoth:=fun k (hk : k ≠ e.blk) => setRow_other w e.blk k c2 hk
 have hsz : (w.setRow e.blk c2).heap.size = w.heap.size:=by simp [World.setRow]
 have hle : ρ.le (ρ.add id ⟨e.blk,e.base + off,e.fin - off,e.sz⟩):=Rho.le_add hn
 have hbn : b ≠ id:=fun hbn => by rw [hbn,hn] at he; cases he
 -- the old cells that the new block begins with
 have holds : VRs ρ olds ((cells'.drop off).take olds.length):=by
  have:=(h2.drop off).take olds.length
  rw [← hcute] at this
  exact this
 refine ⟨⟨?_,?_,?_,?_,by rw [hsz]; exact hs.base⟩,hle,⟨⟨rfl,rfl,rfl,by rw [hsz]; exact Nat.le_refl _,fun k hk => hoth k (by omega)⟩,?_,fun k r hr => ⟨r,by rw [hoth k (fun hke => by rw [hke,h1] at hr; cases hr)]; exact hr⟩⟩⟩
 ·intro x f hf
  rw [hsz]
  simp only [Rho.add] at hf
  split at hf
  ·rename_i hx; cases hf; subst hx; exact ⟨by show x < (if x < H.next then H.next else x + 1); split <;> omega,(hs.fresh b e he).2⟩
  ·have:=hs.fresh x f hf
   exact ⟨by show x < (if id < H.next then H.next else id + 1); split <;> omega,this.2⟩
 ·intro x B hB
  rw [kill_alloc_blk] at hB
  split at hB
  ·rename_i hx
   cases hB
   subst hx
   refine ⟨⟨e.blk,e.base + off,e.fin - off,e.sz⟩,by simp [Rho.add],c2,t,(0,0),(cells'.drop off).take olds.length ++ news',hself,(holds.append hv).mono hle,?_,?_,fun _ => ⟨k1,rfl,rfl,?_,?_,k4⟩⟩
   ·intro v hv'
    rcases List.mem_append.1 hv' with hv' | hv'
    ·rw [hcute] at hv'; exact h3 v (List.mem_of_mem_drop (List.mem_of_mem_take hv'))
    ·exact ho v hv'
   ·intro i hi
    simp only [List.length_append] at hi
    show c2[e.base + off + i]? = _
    have hol' : ((cells'.drop off).take olds.length).length = olds.length:=by simp; omega
    rw [← Array.getElem?_toList,hc2l,over_get (by simpa using hfitc)]
    by_cases hi1 : i < olds.length
    ·rw [if_pos (by omega),List.getElem?_append_left (by omega),List.getElem?_take_of_lt hi1,List.getElem?_drop]
     have:=h4 (off + i) (by omega)
     rw [← Array.getElem?_toList] at this
     rw [← this]
     congr 1; omega
    ·rw [if_neg (by omega),if_pos (by omega),List.getElem?_append_right (by omega),hol']
     congr 1; omega
   ·simp only [List.length_append]; omega
   ·show e.base + off + (e.fin - off) = c2.size
    rw [hc2s]; omega
  ·rename_i hx
   split at hB
   ·cases hB
   ·rename_i hxb
    obtain ⟨f,hf,hr⟩:=hs.live x B hB
    refine ⟨f,hle _ _ hf,hr.keep hle (hoth _ fun hfe => ?_)⟩
    rcases hs.inj x b B _ f e hB hb hf he hfe with h' | h'
    ·exact hxb h'
    ·simp [Blk.mine] at h'
 ·intro x x' B B' f f' hB hB' hf hf' hff
  rw [kill_alloc_blk] at hB hB'
  by_cases hx : x = id
  ·by_cases hx' : x' = id
   ·left; omega
   ·rw [if_neg hx'] at hB'
    split at hB'
    ·cases hB'
    ·rename_i hxb'
     have h1' : f.blk = e.blk:=by
      have : (ρ.add id ⟨e.blk,e.base + off,e.fin - off,e.sz⟩) x = some f:=hf
      simp [Rho.add,hx] at this
      rw [← this]
     have h2' : ρ x' = some f':=by simpa [Rho.add,hx'] using hf'
     rcases hs.inj x' b B' _ f' e hB' hb h2' he (by rw [← hff,h1']) with h' | h'
     ·exact absurd h' hxb'
     ·simp [Blk.mine] at h'
  ·rw [if_neg hx] at hB
   split at hB
   ·cases hB
   ·rename_i hxb
    by_cases hx' : x' = id
    ·have h1' : f'.blk = e.blk:=by
      have : (ρ.add id ⟨e.blk,e.base + off,e.fin - off,e.sz⟩) x' = some f':=hf'
      simp [Rho.add,hx'] at this
      rw [← this]
     have h2' : ρ x = some f:=by simpa [Rho.add,hx] using hf
     rcases hs.inj x b B _ f e hB hb h2' he (by rw [hff,h1']) with h' | h'
     ·exact absurd h' hxb
     ·simp [Blk.mine] at h'
    ·rw [if_neg hx'] at hB'
     split at hB'
     ·cases hB'
     ·exact hs.inj x x' B B' f f' hB hB' (by simpa [Rho.add,hx] using hf) (by simpa [Rho.add,hx'] using hf') hff
 ·intro g hg
  obtain ⟨f,hf,q1,q2⟩:=hs.glob g hg
  exact ⟨f,hle _ _ hf,q1,q2⟩
 ·intro k ds hk hd
  by_cases hke : k = e.blk
  ·subst hke; rw [h1] at hd; cases hd
  ·rw [hoth k hke]; exact hd
theorem sound_app {t u el : TypeId} {ud : TypeDesc} {i : TypeInfo} {x y : Operand} {s : Value} {ad : Option Addr} {m c : Nat} {news : List Value} {z : List Value} (hid : ρ id = none) (hs : Sim P B0 ρ H w)
  (ht : P.underlying t = some (.slice el)) (hu : P.underlying u = some ud) (hud : ∀ k,ud ≠ .int k) (hi : P.info? el = some i) (hz : zeroOf P el = some z) (hsz : 0 < i.size)
  (h1 : VR ρ s (ρv x)) (h2 : VR ρ (.slice ad m c) (ρv y)) (hn : elemsA H i.size (.slice ad m c) = some news) (ha : appendAt id H el i.size i.bytes s m news = some (v,H')) :
  Fine id P B0 ρ w ((execOp ρv { dst,op:=.call { callee:=.builtin .append,args:=#[x,y],argTypes:=#[t,u] },type:=ty,pos,after,guard:=g }).run P w) v H':=by
 obtain ⟨news',ad',c',hy,hv,ho,hl,hrd⟩:=elems_sound hs h2 hn
 obtain ⟨j,zv,j1,j2,j3,j4,j5⟩:=zeroOf_spec hz
 rw [hi] at j1
 cases j1
 have hzs : zv.cells.size = i.size:=by have:=congrArg List.length j3; simp at this; omega
 have hexec : ∀ vx vy r,ρv x = vx → ρv y = vy → (Builtin.append_ #[t,u] ty #[vx,vy]).run P w = r → (execOp ρv { dst,op:=.call { callee:=.builtin .append,args:=#[x,y],argTypes:=#[t,u] },type:=ty,pos,after,guard:=g }).run P w = r.andThen fun v w => .ok (.value v) w:=by
  rintro vx vy r rfl rfl rfl
  simp [execOp,resolve,invoke,builtin]
 rw [hy] at hrd
 have hnl:=hv.length
 cases s with
 | slice sa len cap =>
  cases sa with
  | none =>
   cases len with
   | succ len => cases h1
   | zero =>
   cases cap with
   | succ cap => cases h1
   | zero =>
   have hx : ρv x = .slice none 0 0:=by generalize ρv x = vx at *; cases h1; rfl
   simp only [appendAt] at ha
   split at ha
   ·rename_i hm
    cases ha
    subst hm
    have hne : news' = []:=by rw [← List.length_eq_zero_iff,hnl,hl]; simp
    refine .pure hs (v':=.slice none 0 0) ?_ .nilSlice
    rw [hexec _ _ _ hx hy (run_nil0 (ty:=ty) ht hu hud hi (by have:=hrd w rfl; rw [hne] at this; exact this))]
    rfl
   ·rename_i hm
    split at ha
    ·rename_i hb
     cases ha
     obtain ⟨ρ',hst,hvr,hon⟩:=grown_step (hid:=hid) (olds:=[]) (olds':=[]) (news:=news) (news':=news') (need:=0 + m) (cap:=0) hs hi hzs (by simpa using hv) (by simpa using ho) (by simpa using hl) (grownCap_ge w (0 + m) 0 el)
     have hrun:=run_grow (ty:=ty) (w:=w) (olds:=[]) (news:=news') (ad:=none) (len:=0) (cap:=0) (ad':=ad') (m:=m) (c:=c') ht hu hud hi j2 (fun w0 _ => by simp [Builtin.firstCells]) hrd (by omega) (by omega) (by simpa using hb.1)
     refine .of (w':=_) (ρ':=ρ') ?_ hst (by simpa using hvr) hon
     rw [hexec _ _ _ hx hy hrun]
     simp
    ·cases ha
  | some sad =>
   obtain ⟨b,off,sp⟩:=sad
   obtain ⟨ad1,cap',hx,hc⟩:=h1.sl_inv
   have hcap : cap ≤ cap' ∧ len ≤ cap:=by
    rcases hc with ⟨_,_,_⟩ | ⟨_,e,_,_,⟨_,_⟩ | ⟨_,_,_⟩⟩ <;> omega
   simp only [appendAt] at ha
   split at ha
   ·rename_i hm
    cases ha
    subst hm
    have hne : news' = []:=by rw [← List.length_eq_zero_iff,hnl,hl]; simp
    refine .pure hs (v':=ρv x) ?_ h1
    rw [hexec _ _ _ hx hy (run_room (ty:=ty) (w':=w) ht hu hud hi (hrd w rfl) (by omega) (by rw [hne]; rfl))]
    simp [hx]
   ·rename_i hm
    split at ha
    ·rename_i hroom
     cases hw : writeA H b (off + len * i.size) news with
     | none => simp [hw] at ha
     | some H2 =>
      simp [hw] at ha
      obtain ⟨rfl,rfl⟩:=ha
      rcases hc with ⟨_,_,_⟩ | ⟨_,e,hbe,had,hcc⟩
      ·omega
      ·obtain ⟨w',hrun,hst⟩:=hs.write hbe hw hv ho
       refine .of (w':=w') (ρ':=ρ) (v':=.slice (some ad1) (len + m) cap') ?_ hst ?_ .refl
       ·rw [hexec _ _ _ hx hy (run_room (ty:=ty) (w':=w') ht hu hud hi (hrd w rfl) (by omega) (by rw [had,add_zero_addr,Nat.add_assoc]; exact hrun))]
        simp
       ·subst had
        rcases hcc with ⟨rfl,rfl⟩ | ⟨rfl,hc1,hc2⟩
        ·exact .slice _ _ _ _ _ hbe hroom
        ·exact .opn _ _ _ _ _ _ hbe hroom hc1 hc2
    ·rename_i hroom
     split at ha
     ·rename_i hb
      split at ha
      ·rename_i olds hol
       obtain ⟨olds',ad2,c2,hx2,hov,hoo,hoL,hord⟩:=elems_sound hs h1 hol
       have hgrow : ∀ {H2 : AH},Sim P B0 ρ H2 w → H2.next = H.next → cap' < len + m → (v,H') = (.slice (some ⟨id,0,some i.size⟩) (len + m) (len + m),H2.allocAt id (.row (olds ++ news) el true)) →
         Fine id P B0 ρ w ((execOp ρv { dst,op:=.call { callee:=.builtin .append,args:=#[x,y],argTypes:=#[t,u] },type:=ty,pos,after,guard:=g }).run P w) v H':=by
        intro H2 hs2 hnx hlt heq
        cases heq
        obtain ⟨ρ',hst,hvr,hon⟩:=grown_step (hid:=hid) (olds:=olds) (olds':=olds') (news:=news) (news':=news') (need:=len + m) (cap:=cap') hs2 hi hzs (hov.append hv) (by
         intro q hq
         rcases List.mem_append.1 hq with hq | hq
         ·exact hoo q hq
         ·exact ho q hq) (by rw [List.length_append,hoL,hl,← Nat.add_mul]) (grownCap_ge w (len + m) cap' el)
        rw [hx] at hord
        have hrun:=run_grow (ty:=ty) (w:=w) (olds:=olds') (news:=news') (ad:=some ad1) (len:=len) (cap:=cap') (ad':=ad') (m:=m) (c:=c') ht hu hud hi j2 hord hrd hlt (by omega) (by simpa using hb.1)
        refine .of (w':=_) (ρ':=ρ') ?_ hst hvr hon
        rw [hexec _ _ _ hx hy hrun]
        simp
       cases sp with
       | none =>
        simp only [Option.some.injEq] at ha
        rcases hc with ⟨q1,q2,q3⟩ | ⟨_,e,hbe,had,hcc⟩
        ·exact hgrow hs rfl (by omega) ha.symm
        ·rcases hcc with ⟨_,rfl⟩ | ⟨q,_⟩
         ·exact hgrow hs rfl (by omega) ha.symm
         ·cases q
       | some tg =>
        simp only at ha
        split at ha
        ·rename_i cs e1 hbb
         split at ha
         ·rename_i hte
          obtain ⟨rfl,rfl⟩:=hte
          simp only [Option.some.injEq] at ha
          rcases hc with ⟨q1,q2,q3⟩ | ⟨_,e,hbe,had,hcc⟩
          ·exact hgrow (hs.kill b) rfl (by omega) ha.symm
          ·rcases hcc with ⟨q,_⟩ | ⟨hsp,hc1,hc2⟩
           ·cases q
           ·by_cases hin : len + m ≤ cap'
            ·have hes : i.size = e.sz:=by simpa using hsp
             have hcute : olds = (cs.drop off).take olds.length:=by
              simp only [elemsA] at hol
              split at hol
              ·cases hol; simp
              ·simp only [AH.cells,hbb,Option.bind_some] at hol
               obtain ⟨_,q2,q3⟩:=cut_some hol
               rw [q3]; exact q2
             have hfit : off + olds.length + news.length ≤ e.fin:=by
              rw [hoL,hl,← hc2,hes,Nat.add_assoc,← Nat.add_mul]
              exact Nat.add_le_add_left (Nat.mul_le_mul_right _ hin) _
             obtain ⟨w',hrun,hst⟩:=hs.over_grow hid (sz:=i.size) hbe hbb hcute hv ho hfit
             cases ha
             refine .of (w':=w') (v':=.slice (some ad1) (len + m) cap') ?_ hst ?_ .add
             ·rw [hexec _ _ _ hx hy (run_room (ty:=ty) (w':=w') ht hu hud hi (hrd w rfl) hin (by rw [had,add_zero_addr,← hoL]; exact hrun))]
              simp
             ·subst had
              have:=VR.opn (ρ:=ρ.add id ⟨e.blk,e.base + off,e.fin - off,e.sz⟩) id 0 ⟨e.blk,e.base + off,e.fin - off,e.sz⟩ (len + m) (len + m) cap' (by simp [Rho.add]) (Nat.le_refl _) hin (by simp only [Nat.zero_add]; omega)
              rw [hes]
              exact this
            ·exact hgrow (hs.kill b) rfl (by omega) ha.symm
         ·cases ha
        ·cases ha
      ·cases ha
     ·cases ha
 | _ => simp [appendAt] at ha
theorem sound_copy {t u el : TypeId} {i : TypeInfo} {x y : Operand} {b off len cap m c : Nat} {sp : Option Nat} {ad : Option Addr} {news : List Value} (hs : Sim P B0 ρ H w)
  (ht : P.underlying t = some (.slice el)) (hi : P.info? el = some i)
  (h1 : VR ρ (.slice (some ⟨b,off,sp⟩) len cap) (ρv x)) (h2 : VR ρ (.slice ad m c) (ρv y))
  (hr : (min m len = 0 ∧ H' = H) ∨ (min m len ≠ 0 ∧ elemsA H i.size (.slice ad (min m len) c) = some news ∧ writeA H b off news = some H')) :
  Fine id P B0 ρ w ((execOp ρv { dst,op:=.call { callee:=.builtin .copy,args:=#[x,y],argTypes:=#[t,u] },type:=ty,pos,after,guard:=g }).run P w) (.int .i64 (min m len : Nat)) H':=by
 obtain ⟨ad1,cap',hx,hc⟩:=h1.sl_inv
 obtain ⟨ad',c',hy,hnil⟩:=h2.slice_len
 have hexec : ∀ r,(Builtin.copy_ #[t,u] ty #[ρv x,ρv y]).run P w = r → (execOp ρv { dst,op:=.call { callee:=.builtin .copy,args:=#[x,y],argTypes:=#[t,u] },type:=ty,pos,after,guard:=g }).run P w = r.andThen fun v w => .ok (.value v) w:=by
  rintro r rfl
  simp [execOp,resolve,invoke,builtin]
 have hmin : Nat.min m len = min m len:=rfl
 rcases hr with ⟨h0,rfl⟩ | ⟨h0,hn,hw⟩
 ·refine .pure hs (v':=.int .i64 (min m len : Nat)) ?_ (.int _ _)
  have hrun : (Builtin.copy_ #[t,u] ty #[ρv x,ρv y]).run P w = .ok (goInt (min m len : Nat)) w:=by
   have hf : (Builtin.firstCells i.size 0 (.slice ad' m c')).run P w = .ok #[] w:=by
    cases ad' <;> simp [Builtin.firstCells,loadCells,loadCellsFrom]
   simp [Builtin.copy_,run_underlying ht,hx,hy,Builtin.lenOf,sizeOf,typeInfo,hi,hmin,h0,hf,storeCells]
  rw [hexec _ hrun]
  rfl
 ·have h2' : ∃ y',y' = .slice ad' (min m len) c' ∧ VR ρ (.slice ad (min m len) c) y':=by
   refine ⟨_,rfl,?_⟩
   generalize ρv y = vy at *
   subst hy
   cases h2 with
   | nilSlice => simp at h0
   | slice b1 o1 e1 _ _ hb1 hl1 => exact .slice _ _ _ _ _ hb1 (by omega)
   | opn b1 o1 e1 _ _ _ hb1 hl1 hc1 hf1 => exact .opn _ _ _ _ _ _ hb1 (by omega) hc1 hf1
   | zslice => simp at h0
  obtain ⟨y',hy',hv'⟩:=h2'
  obtain ⟨news',ad2,c2,hy2,hv,ho,hl,hrd⟩:=elems_sound hs hv' hn
  rw [hy'] at hrd
  rcases hc with ⟨q1,_,_⟩ | ⟨_,e,hbe,had,_⟩
  ·omega
  ·obtain ⟨w',hrun,hst⟩:=hs.write hbe hw hv ho
   refine .of (w':=w') (ρ':=ρ) (v':=.int .i64 (min m len : Nat)) ?_ hst (.int _ _) .refl
   have hfc : (Builtin.firstCells i.size (min m len) (.slice ad' m c')).run P w = .ok news'.toArray w:=by
    have:=hrd w rfl
    cases ad' <;> simpa [Builtin.firstCells] using this
   have hrun2 : (Builtin.copy_ #[t,u] ty #[ρv x,ρv y]).run P w = .ok (goInt (min m len : Nat)) w':=by
    simp [Builtin.copy_,run_underlying ht,hx,hy,Builtin.lenOf,sizeOf,typeInfo,hi,hmin,hfc,had,hrun]
   rw [hexec _ hrun2]
   rfl
theorem sound_copyN {t u el : TypeId} {i : TypeInfo} {x y : Operand} {m c : Nat} {ad : Option Addr} (hs : Sim P B0 ρ H w)
  (ht : P.underlying t = some (.slice el)) (hi : P.info? el = some i) (h1 : VR ρ (.slice none 0 0) (ρv x)) (h2 : VR ρ (.slice ad m c) (ρv y)) :
  Fine id P B0 ρ w ((execOp ρv { dst,op:=.call { callee:=.builtin .copy,args:=#[x,y],argTypes:=#[t,u] },type:=ty,pos,after,guard:=g }).run P w) (.int .i64 0) H:=by
 obtain ⟨ad',c',hy,hnil⟩:=h2.slice_len
 have hx : ρv x = .slice none 0 0:=by generalize ρv x = vx at *; cases h1; rfl
 refine .pure hs (v':=.int .i64 0) ?_ (.int _ _)
 have hf : (Builtin.firstCells i.size 0 (.slice ad' m c')).run P w = .ok #[] w:=by
  cases ad' <;> simp [Builtin.firstCells,loadCells,loadCellsFrom]
 have h00 : Nat.min m 0 = 0:=Nat.min_zero m
 simp [execOp,resolve,invoke,builtin,Builtin.copy_,run_underlying ht,hx,hy,Builtin.lenOf,sizeOf,typeInfo,hi,h00,hf,goInt]
theorem sound_clear {t el : TypeId} {x : Operand} {b off len cap : Nat} {sp : Option Nat} {z : List Value} (hs : Sim P B0 ρ H w)
  (ht : P.underlying t = some (.slice el)) (hz : zeroOf P el = some z) (hz0 : 0 < z.length)
  (h1 : VR ρ (.slice (some ⟨b,off,sp⟩) len cap) (ρv x)) (hr : (len = 0 ∧ H' = H) ∨ (len ≠ 0 ∧ writeA H b off (zeros z len) = some H')) :
  Fine id P B0 ρ w ((execOp ρv { dst,op:=.call { callee:=.builtin .clear,args:=#[x],argTypes:=#[t] },type:=ty,pos,after,guard:=g }).run P w) undef H':=by
 obtain ⟨j,zv,j1,j2,j3,j4,j5⟩:=zeroOf_spec hz
 obtain ⟨ad1,cap',hx,hc⟩:=h1.sl_inv
 have hu : VR ρ undef undef:=.tuple _ _ rfl (fun i h => by simp at h)
 rcases hr with ⟨rfl,rfl⟩ | ⟨h0,hw⟩
 ·refine .pure hs (v':=undef) ?_ hu
  simp [execOp,resolve,invoke,builtin,Builtin.clear_,run_underlying ht,hx,undef]
 ·have hzs : 0 < zv.cells.size:=by have:=congrArg List.length j3; simp at this; omega
  have hzr:=zeros_range zv.cells len hzs
  rw [j3] at hzr
  rcases hc with ⟨q1,_,_⟩ | ⟨_,e,hbe,had,_⟩
  ·omega
  ·obtain ⟨w',hrun,hst⟩:=hs.write hbe hw ((VRs.of_plain j4).zeros len) (ones_zeros (ones_of_plain j4) len)
   refine .of (w':=w') (ρ':=ρ) (v':=undef) ?_ hst hu .refl
   have hz2 : (Builtin.zeroCells zv.cells len).toList = zeros z len:=hzr
   have hne : ∀ k,len = k → ¬ k = 0:=fun k hk => by omega
   obtain ⟨k,rfl⟩ : ∃ k,len = k + 1:=⟨len - 1,by omega⟩
   simp [execOp,resolve,invoke,builtin,Builtin.clear_,run_underlying ht,hx,had,zeroValue,typeInfo,j1,j2,hz2,hrun,undef]
end
end Go.Abs
/-
 THE ABSTRACT LAYER (12): every small operation (but a call of a function) is what the model's does.
-/
set_option linter.unusedSimpArgs false
set_option linter.unusedVariables false
namespace Go.Abs
open Go Go.RowKit
section
variable {id : Nat} {P : Program} {B0 n : Nat} {ρ : Rho} {H H' : AH} {w : World} {env : Env} {a : Act} {v : Value}
theorem opt_map_some {α β : Type} {o : Option α} {f : α → β} {b : β} (h : o.map f = some b) : ∃ x,o = some x ∧ f x = b:=by
 cases o with
 | none => cases h
 | some x => exact ⟨x,rfl,by simpa using h⟩
theorem builtin_sound {b : Builtin} {args : Array Operand} {ats : Array TypeId} {i : IOp} {ty : TypeId} {pos : String} {dst : Option Nat} {after : Array Edge} {g : Option (Nat × Bool)}
  (hc : compCall P { callee:=.builtin b,args,argTypes:=ats } = some i) (hk : args.toList.all (okOpd P) = true)
  (hs : Sim P B0 ρ H w) (he : EnvR n ρ env a.tmps) (hv : ievalAt id i env H = some (v,H')) (hid : ρ id = none) :
  Fine id P B0 ρ w ((execOp a.eval { dst,op:=.call { callee:=.builtin b,args,argTypes:=ats },type:=ty,pos,after,guard:=g }).run P w) v H':=by
 have hA : args = args.toList.toArray:=by simp
 have hT : ats = ats.toList.toArray:=by simp
 generalize args.toList = la at *
 generalize ats.toList = lt at *
 subst hA hT
 have ev : ∀ {x u},okOpd P x = true → aval env x = some u → VR ρ u (a.eval x):=fun h1 h2 => aval_sound hs he h1 h2
 simp only [compCall] at hc
 split at hc
 ·-- len
  rename_i x t
  simp only [List.all_cons,List.all_nil,Bool.and_true] at hk
  split at hc
  ·rename_i hu
   cases hc
   simp only [ievalAt,ieval] at hv
   split at hv
   ·rename_i s hx; cases hv; exact sound_lenT hs hu (ev hk hx)
   ·cases hv
  ·rename_i el hu
   cases hc
   simp only [ievalAt,ieval] at hv
   split at hv
   ·rename_i ad m c hx; cases hv; exact sound_lenS hs hu (ev hk hx)
   ·cases hv
  ·rename_i m el hu
   cases hc
   simp only [ievalAt,ieval] at hv
   cases hv
   exact sound_lenK hs hu
  ·cases hc
 ·-- cap
  rename_i x t
  simp only [List.all_cons,List.all_nil,Bool.and_true] at hk
  split at hc
  ·rename_i el hu
   cases hc
   simp only [ievalAt,ieval] at hv
   split at hv
   ·rename_i b off m c hx; cases hv; exact sound_cap hs hu (ev hk hx) (fun q hq => by cases hq; rfl)
   ·rename_i m c hx; cases hv; exact sound_cap hs hu (ev hk hx) (fun q hq => by cases hq)
   ·cases hv
  ·cases hc
 ·-- append
  rename_i s x t u
  simp only [List.all_cons,List.all_nil,Bool.and_true,Bool.and_eq_true] at hk
  split at hc
  ·rename_i el el2 ht hu
   split at hc
   ·rename_i i z hi hz
    split at hc
    ·rename_i hsz
     cases hc
     simp only [ievalAt,ieval] at hv
     split at hv
     ·rename_i sv ad m c hx hy
      split at hv
      ·rename_i news hn
       exact sound_app hid hs ht hu (fun k => by simp) hi hz hsz (ev hk.1 hx) (ev hk.2 hy) hn hv
      ·cases hv
     ·cases hv
    ·cases hc
   ·cases hc
  ·cases hc
 ·-- copy
  rename_i d s t u
  simp only [List.all_cons,List.all_nil,Bool.and_true,Bool.and_eq_true] at hk
  split at hc
  ·rename_i el ht
   split at hc
   ·rename_i i hi
    split at hc
    ·rename_i hsz
     cases hc
     simp only [ievalAt,ieval] at hv
     split at hv
     ·rename_i hx hy; cases hv; exact sound_copyN hs ht hi (ev hk.1 hx) (ev hk.2 hy)
     ·rename_i b off sp len cap ad m c hx hy
      split at hv
      ·rename_i h0
       cases hv
       have:=sound_copy (id:=id) (H':=H) (news:=[]) (u:=u) (ty:=ty) (pos:=pos) (dst:=dst) (after:=after) (g:=g) hs ht hi (ev hk.1 hx) (ev hk.2 hy) (.inl ⟨h0,rfl⟩)
       rw [h0] at this
       exact this
      ·rename_i h0
       split at hv
       ·rename_i news hn
        obtain ⟨H2,hw,hq⟩:=opt_map_some hv
        cases hq
        exact sound_copy hs ht hi (ev hk.1 hx) (ev hk.2 hy) (.inr ⟨h0,hn,hw⟩)
       ·cases hv
     ·cases hv
    ·cases hc
   ·cases hc
  ·cases hc
 ·-- clear
  rename_i x t
  simp only [List.all_cons,List.all_nil,Bool.and_true] at hk
  split at hc
  ·rename_i el ht
   split at hc
   ·rename_i z hz
    split at hc
    ·rename_i hz0
     cases hc
     simp only [ievalAt,ieval] at hv
     split at hv
     ·rename_i l c hx
      cases hv
      have hvx:=ev hk hx
      have hx' : ∃ l c,a.eval x = .slice none l c:=by generalize a.eval x = vx at *; cases hvx; exact ⟨_,_,rfl⟩
      obtain ⟨l',c',hx'⟩:=hx'
      refine .pure hs (v':=undef) ?_ (.tuple _ _ rfl (fun i h => by simp at h))
      simp [execOp,resolve,invoke,builtin,Builtin.clear_,run_underlying ht,hx',undef]
     ·rename_i b off sp len cap hx
      split at hv
      ·rename_i h0; cases hv; exact sound_clear hs ht hz hz0 (ev hk hx) (.inl ⟨h0,rfl⟩)
      ·rename_i h0
       obtain ⟨H2,hw,hq⟩:=opt_map_some hv
       cases hq
       exact sound_clear hs ht hz hz0 (ev hk hx) (.inr ⟨h0,hw⟩)
     ·cases hv
    ·cases hc
   ·cases hc
  ·cases hc
 ·-- max
  rename_i x y
  simp only [List.all_cons,List.all_nil,Bool.and_true,Bool.and_eq_true] at hk
  cases hc
  simp only [ievalAt,ieval] at hv
  split at hv
  ·rename_i k p k' q hx hy; cases hv; exact sound_mx hs (ev hk.1 hx) (ev hk.2 hy)
  ·cases hv
 ·-- min
  rename_i x y
  simp only [List.all_cons,List.all_nil,Bool.and_true,Bool.and_eq_true] at hk
  cases hc
  simp only [ievalAt,ieval] at hv
  split at hv
  ·rename_i k p k' q hx hy; cases hv; exact sound_mn hs (ev hk.1 hx) (ev hk.2 hy)
  ·cases hv
 ·cases hc
theorem partsOf_ok {place : Nat → Option (Nat × Nat)} {parts : Array (Nat × Operand)} (h : (Op.operands (.build 0 parts)).toList.all (okOpd P) = true) : parts.toList.all (fun p => okOpd P p.2) = true:=by
 simp only [Op.operands] at h
 simpa [List.all_map] using h
theorem eqGuard_eqv {bop : BinOp} {t : TypeId} {x y : Operand} {pl : Plan} {p q vx vy : Value} {r : Bool} (hop : bop = .eql ∨ bop = .neq) (h1 : VR ρ p vx) (h2 : VR ρ q vy) (hr : eqA pl p q = some r)
  (hi : pl = .iface → (isConstB x || isConstB y) = true) (hn : ∀ ps,pl = .node ps → P.eqGuardType P.depth t = false) : (eqGuard bop t x y vx vy).run P w = .ok () w:=by
 cases pl with
 | bool => obtain ⟨_,_,rfl,rfl,_⟩:=eqA_bool hr; rw [h1.bool_inv,eqGuard_at_bool]; rfl
 | int => obtain ⟨_,_,_,rfl,rfl,_⟩:=eqA_int hr; rw [h1.int_inv,eqGuard_at_int]; rfl
 | str => obtain ⟨_,_,rfl,rfl,_⟩:=eqA_str hr; rw [h1.string_inv,eqGuard_at_string]; rfl
 | ptr =>
  rcases eqA_ptr hr with ⟨_,rfl,_⟩ | ⟨_,rfl,_⟩ <;> cases h1 <;> rw [eqGuard_at_pointer] <;> rfl
 | nilSlice =>
  rcases eqA_slice hr with ⟨_,_,_,_,_,rfl,_⟩ | ⟨_,_,_,_,_,rfl,_⟩ <;> cases h1 <;> rw [eqGuard_at_slice] <;> rfl
 | nilMap =>
  rcases eqA_map hr with ⟨_,rfl,_⟩ | ⟨_,rfl,_⟩ <;> cases h1 <;> rw [eqGuard_at_map] <;> rfl
 | nilFunc =>
  rcases eqA_func hr with ⟨rfl,_⟩ | ⟨_,_,_,rfl,_⟩ | ⟨_,_,_,rfl,_⟩ <;> cases h1 <;> first | (rw [eqGuard_at_nilFunc]; rfl) | (rw [eqGuard_at_func]; rfl)
 | iface =>
  rcases eqA_iface hr with ⟨rfl,rfl,_⟩ | ⟨_,_,rfl,rfl,_⟩ | ⟨_,_,rfl,rfl,_⟩
  ·cases h1; cases h2
   have:=hi rfl
   cases x <;> cases y <;> simp [isConstB] at this <;> first | (rw [eqGuard_nil_constR]; rfl) | (rw [eqGuard_nil_constL]; rfl)
  ·cases h1; cases h2; rw [eqGuard_nil_iface]; rfl
  ·cases h1; cases h2; rw [eqGuard_at_iface]; rfl
 | node ps =>
  obtain ⟨xs,ys,rfl,rfl,_⟩:=eqA_node hr
  obtain ⟨xs',rfl,_⟩:=h1.agg_list
  obtain ⟨ys',rfl,_⟩:=h2.agg_list
  have:=hn ps rfl
  rcases hop with rfl | rfl <;> simp [eqGuard,this]
theorem op_soundAt {o : Oper} {i : IOp} (hc : compOp P o.op = some i) (hk : o.op.operands.toList.all (okOpd P) = true) (hs : Sim P B0 ρ H w) (he : EnvR n ρ env a.tmps) (hv : ievalAt id i env H = some (v,H')) (hid : ρ id = none) :
  Fine id P B0 ρ w ((execOp a.eval o).run P w) v H':=by
 obtain ⟨dst,op,ty,pos,after,g⟩:=o
 have ev : ∀ {x u},okOpd P x = true → aval env x = some u → VR ρ u (a.eval x):=fun h1 h2 => aval_sound hs he h1 h2
 simp only at hc hk
 replace hc:=compOp_0 hc
 cases op <;> simp only [compOp0] at hc <;> try (cases hc; done)
 case move x =>
  cases hc
  simp only [Op.operands,List.all_cons,List.all_nil,Bool.and_true] at hk
  simp only [ievalAt,ieval] at hv
  obtain ⟨u,hu,hq⟩:=opt_map_some hv
  cases hq
  exact .pure hs rfl (ev hk hu)
 case assign x =>
  cases hc
  simp only [Op.operands,List.all_cons,List.all_nil,Bool.and_true] at hk
  simp only [ievalAt,ieval] at hv
  obtain ⟨u,hu,hq⟩:=opt_map_some hv
  cases hq
  exact .pure hs rfl (ev hk hu)
 case pick c x y =>
  cases hc
  simp only [Op.operands,List.all_cons,List.all_nil,Bool.and_true,Bool.and_eq_true] at hk
  simp only [ievalAt,ieval] at hv
  split at hv
  ·rename_i t hct
   obtain ⟨u,hu,hq⟩:=opt_map_some hv
   cases hq
   refine sound_pick hs (ev hk.1 hct) (ev ?_ hu)
   cases t <;> simp [hk.2.1,hk.2.2]
  ·cases hv
 case alloc el =>
  obtain ⟨z,hz,rfl⟩:=opt_map_some hc
  simp only [ievalAt,ieval] at hv
  cases hv
  exact sound_new hid hs hz _
 case box el x =>
  cases hc
  simp only [Op.operands,List.all_cons,List.all_nil,Bool.and_true] at hk
  simp only [ievalAt,ieval] at hv
  split at hv
  ·rename_i u hu
   obtain ⟨cs,hcs,hq⟩:=opt_map_some hv
   cases hq
   exact sound_box hid hs _ (ev hk hu) hcs
  ·cases hv
 case build t parts =>
  split at hc
  ·rename_i fields z hu hz
   split at hc
   ·rename_i hi
    obtain ⟨ps,hps,rfl⟩:=opt_map_some hc
    simp only [ievalAt,ieval] at hv
    obtain ⟨r,hr,hq⟩:=opt_map_some hv
    cases hq
    exact sound_buildS hs he hu hz hi hps (partsOf_ok (place:=fun _ => none) hk) hr
   ·cases hc
  ·rename_i len el z hu hz
   split at hc
   ·rename_i m hm
    obtain ⟨ps,hps,rfl⟩:=opt_map_some hc
    simp only [ievalAt,ieval] at hv
    obtain ⟨r,hr,hq⟩:=opt_map_some hv
    cases hq
    exact sound_buildA hs he hu hz hm hps (partsOf_ok (place:=fun _ => none) hk) hr
   ·cases hc
  ·cases hc
 case buildSlice t len parts =>
  split at hc
  ·rename_i el hu
   split at hc
   ·rename_i z m hz hm
    split at hc
    ·rename_i hb
     obtain ⟨ps,hps,rfl⟩:=opt_map_some hc
     simp only [ievalAt,ieval] at hv
     obtain ⟨r,hr,hq⟩:=opt_map_some hv
     cases hq
     exact sound_bslice hid hs he hu hz hm hb.1 hb.2 hps (partsOf_ok (place:=fun _ => none) hk) hr
    ·cases hc
   ·cases hc
  ·cases hc
 case load t x =>
  simp only [Op.operands,List.all_cons,List.all_nil,Bool.and_true] at hk
  split at hc
  ·rename_i hag
   obtain ⟨m,hm,rfl⟩:=opt_map_some hc
   simp only [ievalAt,ieval] at hv
   split at hv
   ·rename_i b off hx
    obtain ⟨r,hr,hq⟩:=opt_map_some hv
    cases hq
    obtain ⟨cs,hcs,hcut⟩:=Option.bind_eq_some_iff.1 hr
    exact sound_loadN hs _ hag hm (ev hk hx) hcs hcut
   ·cases hv
  ·rename_i hag
   split at hc
   ·rename_i hd
    cases hc
    simp only [ievalAt,ieval] at hv
    split at hv
    ·rename_i b off hx
     obtain ⟨r,hr,hq⟩:=opt_map_some hv
     cases hq
     obtain ⟨cs,hcs,hg⟩:=Option.bind_eq_some_iff.1 hr
     exact sound_load1 hs _ (by simpa using hag) hd (ev hk hx) hcs hg
    ·cases hv
   ·cases hc
 case store t x y =>
  simp only [Op.operands,List.all_cons,List.all_nil,Bool.and_true,Bool.and_eq_true] at hk
  split at hc
  ·rename_i m hm
   split at hc
   ·cases hc
    simp only [ievalAt,ieval] at hv
    split at hv
    ·rename_i b off cs hx hy
     split at hv
     ·rename_i hl
      obtain ⟨H2,hw,hq⟩:=opt_map_some hv
      cases hq
      exact sound_store hs _ hm (ev hk.1 hx) (ev hk.2 hy) rfl (by simpa using hl) hw
     ·cases hv
    ·cases hv
   ·split at hc
    ·rename_i hm1
     cases hc
     simp only [ievalAt,ieval] at hv
     split at hv
     ·rename_i b off u hx hy
      split at hv
      ·rename_i ho
       obtain ⟨H2,hw,hq⟩:=opt_map_some hv
       cases hq
       refine sound_store hs _ hm (ev hk.1 hx) (ev hk.2 hy) (news:=[u]) ?_ (by simp [hm1]) hw
       cases u <;> first | (simp [one] at ho; done) | rfl
      ·cases hv
     ·cases hv
    ·cases hc
  ·cases hc
 case nilCheck x =>
  cases hc
  simp only [Op.operands,List.all_cons,List.all_nil,Bool.and_true] at hk
  simp only [ievalAt,ieval] at hv
  split at hv <;> cases hv <;> rename_i hx
  ·exact sound_nilChk hs (ev hk hx) (.inl ⟨_,rfl⟩)
  ·exact sound_nilChk hs (ev hk hx) (.inr (.inl ⟨_,_,_,rfl⟩))
  ·exact sound_nilChk hs (ev hk hx) (.inr (.inr (.inl ⟨_,_,_,rfl⟩)))
  ·exact sound_nilChk hs (ev hk hx) (.inr (.inr (.inr ⟨_,_,rfl⟩)))
 case binOp bop t x y yt =>
  simp only [Op.operands,List.all_cons,List.all_nil,Bool.and_true,Bool.and_eq_true] at hk
  have scal : ∀ {r},ieval (.bin bop x y) env H = some (r,H') → Fine id P B0 ρ w ((execOp a.eval { dst,op:=.binOp bop t x y yt,type:=ty,pos,after,guard:=g }).run P w) r H':=by
   intro r hr
   simp only [ieval] at hr
   split at hr
   ·rename_i p q hx hy
    obtain ⟨u,hu,hq⟩:=opt_map_some hr
    cases hq
    have hrel:=abin_rel (P:=P) (w:=w) (t:=t) hu (ev hk.1 hx) (ev hk.2 hy)
    have hgd : (eqGuard bop t x y (a.eval x) (a.eval y)).run P w = .ok () w:=by
     refine eqGuard_scalar ?_
     rcases abin_args hu with ⟨k,i,k',j,rfl,rfl⟩ | ⟨s,s',rfl,rfl⟩
     ·exact .inl ⟨_,_,_,_,(ev hk.1 hx).int_inv,(ev hk.2 hy).int_inv⟩
     ·exact .inr ⟨_,_,(ev hk.1 hx).string_inv,(ev hk.2 hy).string_inv⟩
    refine .pure hs (v':=r) ?_ hrel.2
    simp only [execOp,Sem.run_bind,hgd,Result.andThen_ok,hrel.1,Sem.run_pure]
   ·cases hr
  have eqs : ∀ {pl},(bop = .eql ∨ bop = .neq) → planOf P 8 t = some pl → (∀ k,P.underlying t ≠ some (.int k)) → P.underlying t ≠ some .string →
    ((pl = .iface → isConstB x || isConstB y) ∧ (∀ fs,P.underlying t = some (.struct fs) → P.eqGuardType P.depth t = false)) → ieval (.eqv (bop == .neq) pl x y) env H = some (v,H') →
    Fine id P B0 ρ w ((execOp a.eval { dst,op:=.binOp bop t x y yt,type:=ty,pos,after,guard:=g }).run P w) v H':=by
   intro pl hop hpl hni hns hgd hr
   simp only [ieval] at hr
   split at hr
   ·rename_i p q hx hy
    obtain ⟨r,hr',hq⟩:=opt_map_some hr
    cases hq
    have h1:=ev hk.1 hx
    have h2:=ev hk.2 hy
    refine sound_eqv hs hop hpl hni hns ?_ h1 h2 hr'
    exact eqGuard_eqv hop h1 h2 hr' hgd.1 (fun ps hps => by
     subst hps
     simp only [planOf] at hpl
     split at hpl <;> first | (cases hpl; done) | exact hgd.2 _ ‹_›)
   ·cases hr
  have eqop : bop = .eql ∨ bop = .neq → compOp0 P (.binOp bop t x y yt) = some i → Fine id P B0 ρ w ((execOp a.eval { dst,op:=.binOp bop t x y yt,type:=ty,pos,after,guard:=g }).run P w) v H':=by
   intro hop hc2
   have hc3 : (match P.underlying t with
    | some (.int _) | some .string => some (IOp.bin bop x y)
    | some (.interface _) => if isConstB x || isConstB y then some (.eqv (bop == .neq) .iface x y) else none
    | some (.struct _) => if P.eqGuardType P.depth t then none else (planOf P 8 t).map fun pl => .eqv (bop == .neq) pl x y
    | some _ => (planOf P 8 t).map fun pl => .eqv (bop == .neq) pl x y
    | none => none) = some i:=by
    rcases hop with rfl | rfl <;> exact hc2
   clear hc2
   split at hc3
   ·cases hc3; exact scal hv
   ·cases hc3; exact scal hv
   ·rename_i ms hu
    split at hc3
    ·rename_i hcc
     cases hc3
     refine eqs hop ?_ (fun k => by rw [hu]; simp) (by rw [hu]; simp) ⟨fun _ => hcc,fun fs hfs => by rw [hu] at hfs; cases hfs⟩ hv
     simp [planOf,hu]
    ·cases hc3
   ·rename_i fs hu
    split at hc3
    ·cases hc3
    ·rename_i hgt
     obtain ⟨pl,hpl,rfl⟩:=opt_map_some hc3
     refine eqs hop hpl (fun k => by rw [hu]; simp) (by rw [hu]; simp) ⟨fun hpi => ?_,fun _ _ => by simpa using hgt⟩ hv
     subst hpi
     simp only [planOf,hu] at hpl
     split at hpl
     ·cases hpl
     ·obtain ⟨_,_,hq⟩:=opt_map_some hpl; cases hq
   ·rename_i d hd1 hd2 hd3 hd4 hu
    obtain ⟨pl,hpl,rfl⟩:=opt_map_some hc3
    refine eqs hop hpl (fun k hk' => ?_) (fun hk' => ?_) ⟨fun hpi => ?_,fun fs hfs => ?_⟩ hv
    ·rw [hu] at hk'; cases hk'; exact hd1 k rfl
    ·rw [hu] at hk'; cases hk'; exact hd2 rfl
    ·subst hpi
     simp only [planOf] at hpl
     rw [hu] at hpl
     cases d <;> simp only at hpl <;> first | (cases hpl; done) | skip
     ·split at hpl
      ·cases hpl
      ·obtain ⟨_,_,hq⟩:=opt_map_some hpl; cases hq
     ·exact absurd rfl (hd3 _)
    ·rw [hu] at hfs; cases hfs; exact absurd rfl (hd4 fs)
   ·cases hc3
  cases bop <;> first
   | exact eqop (.inl rfl) hc
   | exact eqop (.inr rfl) hc
   | (simp only at hc; cases hc; exact scal hv)
 case unOp uop t x =>
  cases hc
  simp only [Op.operands,List.all_cons,List.all_nil,Bool.and_true] at hk
  simp only [ievalAt,ieval] at hv
  split at hv
  ·rename_i u hu
   obtain ⟨r,hr,hq⟩:=opt_map_some hv
   cases hq
   have h1:=aun_sound (P:=P) (w:=w) hr
   have h2:=ev hk hu
   refine .pure hs (v':=v) ?_ (VR.of_plain h1.2)
   have hx : a.eval x = u:=by
    unfold aun at hr
    split at hr
    ·exact h2.int_inv
    ·exact h2.bool_inv
    ·cases hr
   simp only [execOp,hx,Sem.run_bind,h1.1,Result.andThen_ok,Sem.run_pure]
  ·cases hv
 case panic x =>
  cases hc
  simp only [ievalAt,ieval] at hv
  cases hv
 case convert s d x =>
  simp only [Op.operands,List.all_cons,List.all_nil,Bool.and_true] at hk
  split at hc
  ·rename_i sd k h1 h2
   cases hc
   simp only [ievalAt,ieval] at hv
   split at hv
   ·rename_i k0 m hx; cases hv; exact sound_conv hs h1 h2 (ev hk hx)
   ·cases hv
  ·rename_i h1 h2
   cases hc
   simp only [ievalAt,ieval] at hv
   split at hv
   ·rename_i b hx; cases hv; exact sound_convS hs h1 h2 (ev hk hx)
   ·cases hv
  ·rename_i e h1 h2
   split at hc
   ·rename_i he
    cases hc
    simp only [ievalAt,ieval] at hv
    split at hv
    ·rename_i u hx
     obtain ⟨r,hr,hq⟩:=opt_map_some hv
     cases hq
     exact sound_bstr hs h1 h2 he (ev hk hx) hr
    ·cases hv
   ·cases hc
  ·cases hc
 case makeInterface t x =>
  simp only [Op.operands,List.all_cons,List.all_nil,Bool.and_true] at hk
  split at hc
  ·cases hc
  ·rename_i d hni hu
   cases hc
   simp only [ievalAt,ieval] at hv
   obtain ⟨u,hx,hq⟩:=opt_map_some hv
   cases hq
   exact sound_iface hs hu (fun ms h => hni ms h) (ev hk hx)
  ·cases hc
 case makeFunc f first cap =>
  have hfc : (∀ l,f ≠ .yield l) ∧ i = .fn f first.toList cap.toList:=by
   cases f <;> simp only at hc <;> first | (cases hc; done) | (cases hc; exact ⟨fun l h => (by cases h),rfl⟩)
  obtain ⟨hfy,rfl⟩:=hfc
  simp only [Op.operands,Array.toList_append,List.all_append,Bool.and_eq_true] at hk
  simp only [ievalAt,ieval] at hv
  split at hv
  ·rename_i p q h1 h2
   cases hv
   exact sound_fn hs hfy (avals_sound hs he hk.1 h1) (avals_sound hs he hk.2 h2)
  ·cases hv
 case makeSlice t l c =>
  simp only [Op.operands,List.all_cons,List.all_nil,Bool.and_true,Bool.and_eq_true] at hk
  split at hc
  ·rename_i el hu
   split at hc
   ·rename_i j z hj hz
    split at hc
    ·rename_i hsz
     cases hc
     simp only [ievalAt,ieval] at hv
     split at hv
     ·rename_i p q hx hy
      split at hv
      ·rename_i hb
       cases hv
       exact sound_mks hid hs _ hu hj hz hsz (ev hk.1 hx) (ev hk.2 hy) hb
      ·cases hv
     ·cases hv
    ·cases hc
   ·cases hc
  ·cases hc
 case slice t x lo hi mx =>
  have hkx : okOpd P x = true ∧ okO P lo ∧ okO P hi ∧ okO P mx:=by
   simp only [Op.operands,List.all_eq_true] at hk
   refine ⟨hk x (by simp),fun y hy => hk y ?_,fun y hy => hk y ?_,fun y hy => hk y ?_⟩ <;> subst hy <;> simp
  obtain ⟨k0,k1,k2,k3⟩:=hkx
  have arr : ∀ {m el sz},(P.underlying t = some (.array m el) ∨ ∃ ar,P.underlying t = some (.pointer ar) ∧ P.underlying ar = some (.array m el)) → sizeB P el = some sz → ieval (.slP m sz x lo hi mx) env H = some (v,H') →
    Fine id P B0 ρ w ((execOp a.eval { dst,op:=.slice t x lo hi mx,type:=ty,pos,after,guard:=g }).run P w) v H':=by
   intro m el sz hu hz hr
   simp only [ieval] at hr
   split at hr
   ·rename_i b off hx
    split at hr
    ·rename_i l h mm hb
     cases hr
     exact sound_slP hs he hu hz k1 k2 k3 (ev k0 hx) hb
    ·cases hr
   ·cases hr
  split at hc
  ·rename_i m el hu
   obtain ⟨sz,hz,rfl⟩:=opt_map_some hc
   exact arr (.inl hu) hz hv
  ·rename_i hu
   split at hc
   ·rename_i hmx
    have hmx' : mx = none:=by simpa using hmx
    subst hmx'
    cases hc
    simp only [ievalAt,ieval] at hv
    split at hv
    ·rename_i s hx
     split at hv
     ·rename_i l h mm hb; cases hv; exact sound_slT hs he hu k1 k2 (ev k0 hx) hb
     ·cases hv
    ·cases hv
   ·cases hc
  ·rename_i el hu
   obtain ⟨sz,hz,rfl⟩:=opt_map_some hc
   simp only [ievalAt,ieval] at hv
   split at hv
   ·rename_i hx
    split at hv
    ·rename_i r3 hb; cases hv; exact sound_slN hs he hu hz k1 k2 k3 (ev k0 hx) hb
    ·cases hv
   ·rename_i b off sp len cap hx
    split at hv
    ·rename_i l h mm hb
     split at hv
     ·rename_i tg
      split at hv
      ·rename_i htg
       cases hv
       exact sound_sl hs he hu hz k1 k2 k3 (ev k0 hx) hb (.inl ⟨_,rfl,rfl,htg,rfl⟩)
      ·cases hv
     ·rename_i hnot
      cases hv
      refine sound_sl hs he hu hz k1 k2 k3 (ev k0 hx) hb (.inr ⟨?_,rfl⟩)
      cases sp with
      | none => exact .inl rfl
      | some tg => cases mx with
       | none => exact absurd rfl (hnot tg rfl)
       | some y => exact .inr rfl
    ·cases hv
   ·cases hv
  ·rename_i ar hu
   split at hc
   ·rename_i m el hu2
    obtain ⟨sz,hz,rfl⟩:=opt_map_some hc
    exact arr (.inr ⟨ar,hu,hu2⟩) hz hv
   ·cases hc
  ·cases hc
 case fieldAddr s x f =>
  simp only [Op.operands,List.all_cons,List.all_nil,Bool.and_true] at hk
  split at hc
  ·rename_i fields hu
   split at hc
   ·rename_i fd hf
    split at hc
    ·rename_i m hm
     split at hc
     ·rename_i hm0
      cases hc
      simp only [ievalAt,ieval] at hv
      split at hv
      ·rename_i b off hx; cases hv; exact sound_faddr hs hu hf hm hm0 (ev hk hx)
      ·cases hv
     ·cases hc
    ·cases hc
   ·cases hc
  ·cases hc
 case field t x f =>
  simp only [Op.operands,List.all_cons,List.all_nil,Bool.and_true] at hk
  split at hc
  ·rename_i fields hu
   split at hc
   ·rename_i fd hf
    split at hc
    ·rename_i hag
     obtain ⟨m,hm,rfl⟩:=opt_map_some hc
     simp only [ievalAt,ieval] at hv
     split at hv
     ·rename_i cs hx; cases hv; exact sound_fldN hs hu hf hag hm (ev hk hx)
     ·cases hv
    ·rename_i hag
     split at hc
     ·rename_i hd
      cases hc
      simp only [ievalAt,ieval] at hv
      split at hv
      ·rename_i cs hx
       obtain ⟨u,hu2,hq⟩:=opt_map_some hv
       cases hq
       exact sound_fld1 hs hu hf (by simpa using hag) hd (ev hk hx) hu2
      ·cases hv
     ·cases hc
   ·cases hc
  ·cases hc
 case indexAddr t x y =>
  simp only [Op.operands,List.all_cons,List.all_nil,Bool.and_true,Bool.and_eq_true] at hk
  split at hc
  ·rename_i el hu
   split at hc
   ·rename_i m hm
    split at hc
    ·cases hc
     simp only [ievalAt,ieval] at hv
     split at hv
     ·rename_i b off sp len cap k j hx hy
      split at hv
      ·rename_i hj; cases hv; exact sound_idxS hs hu hm (ev hk.1 hx) (ev hk.2 hy) hj
      ·cases hv
     ·cases hv
    ·cases hc
   ·cases hc
  ·rename_i len el hu
   split at hc
   ·rename_i m hm
    split at hc
    ·cases hc
     simp only [ievalAt,ieval] at hv
     split at hv
     ·rename_i b off k j hx hy
      split at hv
      ·rename_i hj; cases hv; exact sound_idxP hs hu hm (ev hk.1 hx) (ev hk.2 hy) hj
      ·cases hv
     ·cases hv
    ·cases hc
   ·cases hc
  ·cases hc
 case index t x y =>
  simp only [Op.operands,List.all_cons,List.all_nil,Bool.and_true,Bool.and_eq_true] at hk
  split at hc
  ·rename_i len el hu
   split at hc
   ·rename_i m hm
    split at hc
    ·rename_i hag
     cases hc
     simp only [ievalAt,ieval] at hv
     split at hv
     ·rename_i cs k j hx hy
      split at hv
      ·rename_i hj; cases hv; exact sound_idxN hs hu hm hag (ev hk.1 hx) (ev hk.2 hy) hj
      ·cases hv
     ·cases hv
    ·rename_i hag
     split at hc
     ·rename_i hd
      cases hc
      simp only [ievalAt,ieval] at hv
      split at hv
      ·rename_i cs k j hx hy
       split at hv
       ·rename_i hj
        obtain ⟨u,hu2,hq⟩:=opt_map_some hv
        cases hq
        exact sound_idx1 hs hu hm (by simpa using hag) hd (ev hk.1 hx) (ev hk.2 hy) hj hu2
       ·cases hv
      ·cases hv
     ·cases hc
   ·cases hc
  ·rename_i hu
   cases hc
   simp only [ievalAt,ieval] at hv
   split at hv
   ·rename_i s k j hx hy
    split at hv
    ·rename_i hj
     obtain ⟨u,hu2,hq⟩:=opt_map_some hv
     cases hq
     exact sound_idxT hs hu (ev hk.1 hx) (ev hk.2 hy) hj hu2
    ·cases hv
   ·cases hv
  ·cases hc
 case extract x j =>
  cases hc
  simp only [Op.operands,List.all_cons,List.all_nil,Bool.and_true] at hk
  simp only [ievalAt,ieval] at hv
  split at hv
  ·rename_i vs hx
   obtain ⟨u,hu,hq⟩:=opt_map_some hv
   cases hq
   exact sound_ext hs (ev hk hx) hu
  ·cases hv
 case typeAssert x s t ok =>
  simp only [Op.operands,List.all_cons,List.all_nil,Bool.and_true] at hk
  split at hc
  ·cases hc
  ·rename_i d z hni hu hz
   cases hc
   simp only [ievalAt,ieval] at hv
   split at hv
   ·rename_i t' q hx
    split at hv
    ·rename_i htt
     cases hv
     subst htt
     exact sound_assertT hs hu (fun ms h => hni ms h) hz (ev hk hx) (.inl ⟨q,rfl,rfl⟩)
    ·rename_i htt
     split at hv
     ·rename_i hok
      cases hv
      exact sound_assertT hs hu (fun ms h => hni ms h) hz (ev hk hx) (.inr ⟨.inr ⟨t',q,htt,rfl⟩,hok,rfl⟩)
     ·cases hv
   ·rename_i hx
    split at hv
    ·rename_i hok
     cases hv
     exact sound_assertT hs hu (fun ms h => hni ms h) hz (ev hk hx) (.inr ⟨.inl rfl,hok,rfl⟩)
    ·cases hv
   ·cases hv
  ·cases hc
 case call c =>
  obtain ⟨callee,args,ats⟩:=c
  cases callee with
  | builtin b =>
   exact builtin_sound hc (by simpa [Op.operands,Call.operands] using hk) hs he hv hid
  | value f => simp only [compCall] at hc; cases hc; simp [ievalAt,ieval] at hv
  | invoke r m => simp only [compCall] at hc; cases hc; simp [ievalAt,ieval] at hv
theorem op_sound {o : Oper} {i : IOp} (hc : compOp P o.op = some i) (hk : o.op.operands.toList.all (okOpd P) = true) (hs : Sim P B0 ρ H w) (he : EnvR n ρ env a.tmps) (hv : ieval i env H = some (v,H')) :
  Fine H.next P B0 ρ w ((execOp a.eval o).run P w) v H' :=
 op_soundAt hc hk hs he (by rw [← ieval_at]; exact hv) hs.new_none
end
end Go.Abs
/-
 THE ABSTRACT LAYER (13): calls,and the code between them,on the abstract side; what each says of the model.
-/
set_option linter.unusedSimpArgs false
set_option linter.unusedVariables false
namespace Go.Abs
open Go Go.RowKit
def Fr (r : Option Nat) : Fence:={ Fence.wide with round:=r }
def Post (P : Program) (B0 n0 : Nat) (ρ : Rho) (w : World) (Q : Value → AH → Prop) : Ending → World → Prop:=fun e w' =>
 ∃ v' v H' ρ',e = .returned v' ∧ Stp P B0 ρ w ρ' H' w' ∧ Up n0 ρ ρ' H' ∧ VR ρ' v v' ∧ Q v H'
def AFn (P : Program) (f : FuncId) (args : List Value) (H : AH) (Q : Value → AH → Prop) : Prop :=
 ∀ B0 ρ w (args' : Array Value),Sim P B0 ρ H w → VRs ρ args args'.toList → CallsIn Fence.wide 0 P f args' w (Post P B0 H.next ρ w Q)
def CalmAt (P : Program) (f : FuncId) (args : List Value) (H : AH) (v : Value) : Prop :=
 ∀ B0 ρ w (args' : Array Value),Sim P B0 ρ H w → VRs ρ args args'.toList → CallsIn Fence.wide 0 P f args' w fun e w' => ∃ v',e = .returned v' ∧ Stp P B0 ρ w ρ H w' ∧ VR ρ v v'
def CalmCall (P : Program) (fv : Value) (args : List Value) (R : List Nat) (H : AH) (v : Value) : Prop :=
 match fv with
 | .func (.func f) first cap => goodFunc P f = true ∧ ∀ H1 : AH,(∀ b ∈ R,H1.blk b = H.blk b) → CalmAt P f (first.toList ++ args ++ cap.toList) H1 v
 | _ => False
theorem CalmCall.other {P : Program} {fv : Value} {args : List Value} {R : List Nat} {H H1 : AH} {v : Value} (h : CalmCall P fv args R H v) (hb : ∀ b ∈ R,H1.blk b = H.blk b) : CalmCall P fv args R H1 v:=by
 unfold CalmCall at *
 split at h
 ·exact ⟨h.1,fun H2 h2 => h.2 H2 fun b hr => (h2 b hr).trans (hb b hr)⟩
 ·exact h.elim
def AYield (P : Program) (l : Nat) (args : List Value) (H : AH) (Q : Value → AH → Prop) : Prop :=
 ∀ B0 ρ w e (args' : Array Value),Sim P B0 ρ H w → ρ l = some e → VRs ρ args args'.toList →
  ∃ fn tmps assign body,(Instr.yield e.blk args').run P w = .ok (.round e.blk fn tmps assign body) w ∧ RoundIn Fence.wide 0 P e.blk fn tmps assign body w (Post P B0 H.next ρ w Q)
def lookT (tbl : List (TypeId × FuncId)) (t : TypeId) : Option FuncId :=
 match tbl with
 | [] => none
 | (u,f) :: rest => if u = t then some f else lookT rest t
def AInv (P : Program) (recv : Value) (tbl : List (TypeId × FuncId)) (args : List Value) (H : AH) (Q : Value → AH → Prop) : Prop :=
 match recv with
 | .iface t (.pointer (some p)) => match lookT tbl t with
  | some f => goodFunc P f = true ∧ AFn P f (.pointer (some p) :: args) H Q
  | none => False
 | _ => False
def isIfaceB (P : Program) (t : TypeId) : Bool:=match P.underlying t with
 | some (.interface _) => true
 | _ => false
def ACall (P : Program) (fv : Value) (args : List Value) (H : AH) (Q : Value → AH → Prop) : Prop :=
 match fv with
 | .func (.func f) first cap => match extK P f with
  | some k => ∃ v,extV k (first.toList ++ args ++ cap.toList) = some v ∧ Q v H
  | none => goodFunc P f = true ∧ AFn P f (first.toList ++ args ++ cap.toList) H Q
 | .func (.yield l) first cap => first = #[] ∧ cap = #[] ∧ AYield P l args H Q
 | .func (.methodOf t name) first _ => isIfaceB P t = true ∧ match first.toList ++ args with
  | recv :: rest => AInv P recv (methodsOf P name) rest H Q
  | [] => False
 | _ => False
theorem Post.mono {P : Program} {B0 n0 : Nat} {ρ : Rho} {w : World} {Q Q' : Value → AH → Prop} (h : ∀ v H,Q v H → Q' v H) {e : Ending} {w' : World} (hp : Post P B0 n0 ρ w Q e w') : Post P B0 n0 ρ w Q' e w':=by
 obtain ⟨v',v,H',ρ',h1,h2,hu,h3,h4⟩:=hp
 exact ⟨v',v,H',ρ',h1,h2,hu,h3,h _ _ h4⟩
theorem AFn.mono {P : Program} {f : FuncId} {args : List Value} {H : AH} {Q Q' : Value → AH → Prop} (h : AFn P f args H Q) (hq : ∀ v H,Q v H → Q' v H) : AFn P f args H Q' :=
 fun B0 ρ w args' hs ha => (h B0 ρ w args' hs ha).mono fun _ _ hp => Post.mono hq hp
theorem AYield.mono {P : Program} {l : Nat} {args : List Value} {H : AH} {Q Q' : Value → AH → Prop} (h : AYield P l args H Q) (hq : ∀ v H,Q v H → Q' v H) : AYield P l args H Q' :=
 fun B0 ρ w e args' hs hl ha => let ⟨fn,tmps,assign,body,h1,h2⟩:=h B0 ρ w e args' hs hl ha; ⟨fn,tmps,assign,body,h1,h2.mono fun _ _ hp => Post.mono hq hp⟩
theorem AInv.mono {P : Program} {recv : Value} {tbl : List (TypeId × FuncId)} {args : List Value} {H : AH} {Q Q' : Value → AH → Prop} (h : AInv P recv tbl args H Q) (hq : ∀ v H,Q v H → Q' v H) : AInv P recv tbl args H Q':=by
 unfold AInv at *
 split at h
 ·split at h
  ·exact ⟨h.1,h.2.mono hq⟩
  ·exact h
 ·exact h
theorem ACall.mono {P : Program} {fv : Value} {args : List Value} {H : AH} {Q Q' : Value → AH → Prop} (h : ACall P fv args H Q) (hq : ∀ v H,Q v H → Q' v H) : ACall P fv args H Q':=by
 unfold ACall at *
 split at h
 ·split at h
  ·obtain ⟨v,h1,h2⟩:=h; exact ⟨v,h1,hq _ _ h2⟩
  ·exact ⟨h.1,h.2.mono hq⟩
 ·exact ⟨h.1,h.2.1,h.2.2.mono hq⟩
 ·refine ⟨h.1,?_⟩
  have h2:=h.2
  split at h2
  ·exact h2.mono hq
  ·exact h2
 ·exact h
def WF (H : AH) : Prop:=∀ b B,H.blk b = some B → b < H.next
theorem Sim.wf {P : Program} {B0 : Nat} {ρ : Rho} {H : AH} {w : World} (h : Sim P B0 ρ H w) : WF H:=fun b B hB => let ⟨e,he,_⟩:=h.live b B hB; (h.fresh b e he).1
theorem Post.mono_wf {P : Program} {B0 n0 : Nat} {ρ : Rho} {w : World} {Q Q' : Value → AH → Prop} (h : ∀ v H,WF H → Q v H → Q' v H) {e : Ending} {w' : World} (hp : Post P B0 n0 ρ w Q e w') : Post P B0 n0 ρ w Q' e w':=by
 obtain ⟨v',v,H',ρ',h1,h2,hu,h3,h4⟩:=hp
 exact ⟨v',v,H',ρ',h1,h2,hu,h3,h _ _ h2.sim.wf h4⟩
theorem AFn.mono_wf {P : Program} {f : FuncId} {args : List Value} {H : AH} {Q Q' : Value → AH → Prop} (h : AFn P f args H Q) (hq : ∀ v H,WF H → Q v H → Q' v H) : AFn P f args H Q' :=
 fun B0 ρ w args' hs ha => (h B0 ρ w args' hs ha).mono fun _ _ hp => Post.mono_wf hq hp
theorem AYield.mono_wf {P : Program} {l : Nat} {args : List Value} {H : AH} {Q Q' : Value → AH → Prop} (h : AYield P l args H Q) (hq : ∀ v H,WF H → Q v H → Q' v H) : AYield P l args H Q' :=
 fun B0 ρ w e args' hs hl ha => let ⟨fn,tmps,assign,body,h1,h2⟩:=h B0 ρ w e args' hs hl ha; ⟨fn,tmps,assign,body,h1,h2.mono fun _ _ hp => Post.mono_wf hq hp⟩
theorem AInv.mono_wf {P : Program} {recv : Value} {tbl : List (TypeId × FuncId)} {args : List Value} {H : AH} {Q Q' : Value → AH → Prop} (h : AInv P recv tbl args H Q) (hq : ∀ v H,WF H → Q v H → Q' v H) : AInv P recv tbl args H Q':=by
 unfold AInv at *
 split at h
 ·split at h
  ·exact ⟨h.1,h.2.mono_wf hq⟩
  ·exact h
 ·exact h
theorem ACall.mono_wf {P : Program} {fv : Value} {args : List Value} {H : AH} {Q Q' : Value → AH → Prop} (hw : WF H) (h : ACall P fv args H Q) (hq : ∀ v H,WF H → Q v H → Q' v H) : ACall P fv args H Q':=by
 unfold ACall at *
 split at h
 ·split at h
  ·obtain ⟨v,h1,h2⟩:=h; exact ⟨v,h1,hq _ _ hw h2⟩
  ·exact ⟨h.1,h.2.mono_wf hq⟩
 ·exact ⟨h.1,h.2.1,h.2.2.mono_wf hq⟩
 ·refine ⟨h.1,?_⟩
  have h2:=h.2
  split at h2
  ·exact h2.mono_wf hq
  ·exact h2
 ·exact h
def guardA (env : Env) : Option (Nat × Bool) → Option Bool
 | none => some true
 | some (d,want) => match env d with
  | some (.bool b) => some (b == want)
  | some _ => some false
  | none => none
def Grow (H H' : AH) : Prop:=∀ b B,H.blk b = some B → H'.blk b = some B
def stepA (P : Program) (draw : Bool) (o : AOper) (K : Env → AH → Prop) (env : Env) (H : AH) : Prop :=
 match guardA env o.guard with
 | none => False
 | some false => K (put env o.dst undef) H
 | some true =>
  match o.op with
  | .call f args => match aval env f,avals env args with
   | some fv,some vs =>
    if draw then ACall P fv vs H fun v H' => Grow H H' ∧ K (put env o.dst v) H'
    else ACall P fv vs H fun v H' => K (put env o.dst v) H'
   | _,_ => False
  | .invoke r tbl args => match aval env r,avals env args with
   | some rv,some vs =>
    if draw then AInv P rv tbl vs H fun v H' => Grow H H' ∧ K (put env o.dst v) H'
    else AInv P rv tbl vs H fun v H' => K (put env o.dst v) H'
   | _,_ => False
  | op => match ieval op env H with
   | some (v,H') => K (put env o.dst v) H'
   | none => False
def wpO (P : Program) (draw : Bool) (K : Env → AH → Prop) : List AOper → Env → AH → Prop
 | [],env,H => K env H
 | o :: rest,env,H => stepA P draw o (wpO P draw K rest) env H
theorem stepA_mono {P : Program} {draw : Bool} {o : AOper} {K K' : Env → AH → Prop} (hk : ∀ env H,K env H → K' env H) {env : Env} {H : AH} (h : stepA P draw o K env H) : stepA P draw o K' env H:=by
 unfold stepA at *
 cases hg : guardA env o.guard with
 | none => simp only [hg] at h
 | some b =>
  cases b with
  | false => simp only [hg] at h ⊢; exact hk _ _ h
  | true =>
   simp only [hg] at h ⊢
   cases ho : o.op <;> simp only [ho] at h ⊢
   case call f args =>
    split at h
    ·rename_i fv vs h1 h2
     cases draw with
     | true =>
      simp only [if_true] at h ⊢
      exact h.mono fun _ _ hk' => ⟨hk'.1,hk _ _ hk'.2⟩
     | false =>
      simp only [Bool.false_eq_true,if_false] at h ⊢
      exact h.mono fun _ _ => hk _ _
    ·exact h
   case invoke r tbl args =>
    split at h
    ·rename_i fv vs h1 h2
     cases draw with
     | true => exact h.mono fun _ _ hk' => ⟨hk'.1,hk _ _ hk'.2⟩
     | false => exact h.mono fun _ _ => hk _ _
    ·exact h
   all_goals
    split at h
    ·exact hk _ _ h
    ·exact h
/-! ### the model's side -/
def mark (r : Nat) : Deferred:={ target:=.collected r,args:=#[] }
def Marks (lo : Nat) (a : Act) (w : World) : Prop :=
 ∃ rs : List Nat,a.defers = rs.map mark ∧ rs.Nodup ∧ ∀ r ∈ rs,lo ≤ r ∧ w.heap[r]? = some (.deferred (some []))
theorem Marks.ext {lo B0 : Nat} {a : Act} {w w' : World} (h : Marks lo a w) (he : Ext B0 w w') : Marks lo a w':=by
 obtain ⟨rs,h1,h2,h3⟩:=h
 exact ⟨rs,h1,h2,fun r hr => ⟨(h3 r hr).1,he.defd r _ (Array.getElem?_eq_some_iff.1 (h3 r hr).2).1 (h3 r hr).2⟩⟩
theorem Marks.put {lo : Nat} {a : Act} {w : World} (h : Marks lo a w) (dst : Option Tmp) (v : Value) : Marks lo (a.put dst v) w:=by
 obtain ⟨rs,h1,h2,h3⟩:=h
 exact ⟨rs,by cases dst <;> simpa [Act.put] using h1,h2,h3⟩
structure Both (P : Program) (B0 n lo n0 : Nat) (ρ0 : Rho) (w0 : World) (ρ : Rho) (env : Env) (H : AH) (a : Act) (w : World) : Prop where
 stp : Stp P B0 ρ0 w0 ρ H w
 env : EnvR n ρ env a.tmps
 marks : Marks lo a w
 up : Up n0 ρ0 ρ H
theorem goodFunc_spec {P : Program} {f : FuncId} (h : goodFunc P f = true) (args : Array Value) (w : World) : (callFunc f args).run P w = .ok (.enter f args) w:=by
 unfold goodFunc at h
 split at h
 ·rename_i fn hf
  simp only [Bool.and_eq_true,Bool.not_eq_true'] at h
  have h2 : ¬ fn.body = none:=by cases hb : fn.body <;> simp [hb] at h ⊢
  have h3 : ¬ fn.name = "runtime.NumGoroutine":=by simpa using h.2
  simp [callFunc,hf,h3,h2]
 ·cases h
theorem CalmCall.runs {P : Program} {fv : Value} {args : List Value} {R : List Nat} {H : AH} {v : Value} (h : CalmCall P fv args R H v) {B0 : Nat} {ρ : Rho} {w : World} {fv' : Value} {args' : Array Value}
  (hs : Sim P B0 ρ H w) (hf : VR ρ fv fv') (ha : VRs ρ args args'.toList) (r : Option Nat) :
  ∃ d f as,(Deferred.ofValue fv' args').run P w = .ok d w ∧ (invoke d.target d.args).run P w = .ok (.enter f as) w ∧ CallsIn (Fr r) 0 P f as w fun e w' => ∃ v',e = .returned v' ∧ Stp P B0 ρ w ρ H w' ∧ VR ρ v v':=by
 unfold CalmCall at h
 split at h
 ·rename_i f first cap
  obtain ⟨hg,h⟩:=h
  cases hf with
  | func _ _ p' _ q' hfn hp hq h1 h2 =>
   refine ⟨{ target:=.fn (.func f) q',args:=p' ++ args' },f,(p' ++ args' ++ q'),rfl,?_,?_⟩
   ·simp only [invoke]; exact goodFunc_spec hg _ w
   ·refine h H (fun _ _ => rfl) B0 ρ w _ hs ?_
    have e1 : VRs ρ first.toList p'.toList:=VRs.of_get (by simpa using hp) (fun i a b => by simpa using h1 i (by simpa using a) (by simpa using b))
    have e2 : VRs ρ cap.toList q'.toList:=VRs.of_get (by simpa using hq) (fun i a b => by simpa using h2 i (by simpa using a) (by simpa using b))
    simp only [Array.toList_append]
    exact (e1.append ha).append e2
 ·exact h.elim
theorem ACall.runs_fn {P : Program} {f : FuncId} {p q : Array Value} {args : List Value} {H : AH} {Q : Value → AH → Prop} (h : ACall P (.func (.func f) p q) args H Q) (hx : extK P f = none) {B0 : Nat} {ρ : Rho} {w : World} {fv' : Value} {args' : Array Value}
  (hs : Sim P B0 ρ H w) (hf : VR ρ (.func (.func f) p q) fv') (ha : VRs ρ args args'.toList) (r : Option Nat) :
  ∃ d f as,(Deferred.ofValue fv' args').run P w = .ok d w ∧ (invoke d.target d.args).run P w = .ok (.enter f as) w ∧ CallsIn (Fr r) 0 P f as w (Post P B0 H.next ρ w Q):=by
 unfold ACall at h
 simp only [hx] at h
 obtain ⟨hg,h⟩:=h
 cases hf with
 | func _ _ p' _ q' hfn hp hq h1 h2 =>
  refine ⟨{ target:=.fn (.func f) q',args:=p' ++ args' },f,(p' ++ args' ++ q'),rfl,?_,?_⟩
  ·simp only [invoke]; exact goodFunc_spec hg _ w
  ·refine h B0 ρ w _ hs ?_
   have e1 : VRs ρ p.toList p'.toList:=VRs.of_get (by simpa using hp) (fun i a b => by simpa using h1 i (by simpa using a) (by simpa using b))
   have e2 : VRs ρ q.toList q'.toList:=VRs.of_get (by simpa using hq) (fun i a b => by simpa using h2 i (by simpa using a) (by simpa using b))
   simp only [Array.toList_append]
   exact (e1.append ha).append e2
end Go.Abs
/-
 THE ABSTRACT LAYER (14): one operation; a region in the text's order; a region that draws its order.
-/
set_option linter.unusedSimpArgs false
set_option linter.unusedVariables false
namespace Go.Abs
open Go Go.RowKit
section
variable {P : Program} {B0 n lo n0 : Nat} {ρ0 ρ : Rho} {w0 w : World} {env : Env} {H : AH} {a : Act} {ops : Array Oper} {Qx : Exit → Act → World → Prop} {r : Option Nat}
theorem guard_sound {o : Oper} {g : Option (Nat × Bool)} {b : Bool} (he : EnvR n ρ env a.tmps) (hg : guardOf ops o = some g) (hb : guardA env g = some b) : Region.wanted o (yielded ops a.tmps) = b:=by
 unfold guardOf at hg
 unfold Region.wanted
 cases hq : o.guard with
 | none =>
  simp only [hq] at hg
  cases hg
  simp only [guardA] at hb
  cases hb
  rfl
 | some jw =>
  obtain ⟨j,want⟩:=jw
  simp only [hq] at hg ⊢
  split at hg
  ·rename_i d hd
   cases hg
   simp only [guardA] at hb
   have hy : yielded ops a.tmps j = match a.tmps[d]? with | some (.bool b) => some b | _ => none:=by
    unfold yielded
    rw [hd]
    rfl
   rw [hy]
   split at hb
   ·rename_i x hx
    cases hb
    obtain ⟨v',h1,h2⟩:=he.2 d _ hx
    rw [h1,h2.bool_inv]
    cases x <;> cases want <;> rfl
   ·rename_i u hnb hx
    cases hb
    obtain ⟨v',h1,h2⟩:=he.2 d _ hx
    rw [h1]
    have : ∀ b,v' ≠ .bool b:=by
     intro b hb'
     subst hb'
     cases h2
     exact hnb _ rfl
    cases v' <;> first | exact absurd rfl (this _) | (cases want <;> rfl)
   ·cases hb
  ·cases hg
theorem Both.next {ρ' : Rho} {H' : AH} {w' : World} {v v' : Value} {dst : Option Nat} (hb : Both P B0 n lo n0 ρ0 w0 ρ env H a w) (hs : Stp P B0 ρ w ρ' H' w') (hu : Up n0 ρ ρ' H') (hv : VR ρ' v v') (hd : ∀ d,dst = some d → d < n) :
  Both P B0 n lo n0 ρ0 w0 ρ' (put env dst v) H' (a.put dst v') w' :=
 ⟨hb.stp.trans hs,(hb.env.mono hs.le).put hd hv,(hb.marks.ext hs.ext).put _ _,hb.up.trans hu⟩
theorem undef_rel {ρ : Rho} : VR ρ undef undef:=.tuple _ _ rfl (fun i h => by simp at h)
theorem call_upon' {o : Oper} {K' : Act → World → Prop} {nx : Next} {Q : Value → AH → Prop} (hd : ∀ d,o.dst = some d → d < n) (hb : Both P B0 n lo n0 ρ0 w0 ρ env H a w)
  (hr : (∃ f as,nx = .enter f as ∧ CallsIn (Fr r) 0 P f as w (Post P B0 H.next ρ w Q)) ∨
    (∃ l fn tmps assign body,nx = .round l fn tmps assign body ∧ RoundIn (Fr r) 0 P l fn tmps assign body w (Post P B0 H.next ρ w Q)) ∨
    (∃ v v',nx = .value v' ∧ VR ρ v v' ∧ Q v H))
  (hK : ∀ ρ' v H' a' w',Both P B0 n lo n0 ρ0 w0 ρ' (put env o.dst v) H' a' w' → Up H.next ρ ρ' H' → Q v H' → K' a' w') :
  o.uponIn (Fr r) 0 P a K' Qx (.ok nx w):=by
 rcases hr with ⟨f,as,rfl,hc⟩ | ⟨l,fn,tmps,assign,body,rfl,hc⟩ | ⟨v,v',rfl,hv,hq⟩
 rotate_left 2
 ·exact hK ρ v H _ w (hb.next (Stp.refl hb.stp.sim) (.refl hb.up.next) hv hd) (.refl (Nat.le_refl _)) hq
 ·refine ⟨fun h => by simp [Fr,Fence.wide] at h,hc.mono ?_⟩
  rintro e w' ⟨v',v,H',ρ',rfl,h1,hu,h2,h3⟩
  exact hK ρ' v H' _ w' (hb.next h1 (hu.less hb.up.next) h2 hd) hu h3
 ·refine ⟨fun h => by simp [Fr,Fence.wide] at h,hc.mono ?_⟩
  rintro e w' ⟨v',v,H',ρ',rfl,h1,hu,h2,h3⟩
  exact hK ρ' v H' _ w' (hb.next h1 (hu.less hb.up.next) h2 hd) hu h3
theorem call_upon {o : Oper} {K' : Act → World → Prop} {nx : Next} {Q : Value → AH → Prop} (hd : ∀ d,o.dst = some d → d < n) (hb : Both P B0 n lo n0 ρ0 w0 ρ env H a w)
  (hr : (∃ f as,nx = .enter f as ∧ CallsIn (Fr r) 0 P f as w (Post P B0 H.next ρ w Q)) ∨
    (∃ l fn tmps assign body,nx = .round l fn tmps assign body ∧ RoundIn (Fr r) 0 P l fn tmps assign body w (Post P B0 H.next ρ w Q)) ∨
    (∃ v v',nx = .value v' ∧ VR ρ v v' ∧ Q v H))
  (hK : ∀ ρ' v H' a' w',Both P B0 n lo n0 ρ0 w0 ρ' (put env o.dst v) H' a' w' → Q v H' → K' a' w') :
  o.uponIn (Fr r) 0 P a K' Qx (.ok nx w) :=
 call_upon' hd hb hr fun ρ' v H' a' w' hb' _ hq => hK ρ' v H' a' w' hb' hq
theorem methodsOf_spec {name : String} : ∀ {t : TypeId} {f : FuncId} {l : List TypeId},lookT (l.filterMap fun t =>
  match P.info? t with
  | some i => match i.methods.find? (·.name == name) with
   | some m => match m.path.isEmpty,m.func,P.underlying t with
    | true,some (f,true),some (.pointer _) => some (t,f)
    | _,_,_ => none
   | none => none
  | none => none) t = some f → ∃ i m el,P.info? t = some i ∧ i.methods.find? (·.name == name) = some m ∧ m.path.isEmpty = true ∧ m.func = some (f,true) ∧ P.underlying t = some (.pointer el):=by
 intro t f l
 induction l with
 | nil => intro h; simp [lookT] at h
 | cons u l ih =>
  intro h
  simp only [List.filterMap_cons] at h
  split at h
  ·exact ih h
  ·rename_i b hb
   split at hb
   ·rename_i i hi
    split at hb
    ·rename_i m hm
     split at hb
     ·rename_i q1 f' q2 el' h1 h2 h3
      cases hb
      simp only [lookT] at h
      split at h
      ·rename_i hut
       cases h
       subst hut
       exact ⟨i,m,_,hi,hm,h1,h2,h3⟩
      ·exact ih h
     ·cases hb
    ·cases hb
   ·cases hb
theorem AInv.runs {name : String} {recv : Value} {args : List Value} {Q : Value → AH → Prop} (h : AInv P recv (methodsOf P name) args H Q) {recv' : Value} {args' : Array Value}
  (hs : Sim P B0 ρ H w) (hf : VR ρ recv recv') (ha : VRs ρ args args'.toList) (r : Option Nat) :
  ∃ f as,(callMethod recv' name args').run P w = .ok (.enter f as) w ∧ CallsIn (Fr r) 0 P f as w (Post P B0 H.next ρ w Q):=by
 unfold AInv at h
 split at h
 ·rename_i t p
  split at h
  ·rename_i f hl
   obtain ⟨hg,h⟩:=h
   cases hf with
   | iface _ _ v' hv =>
    obtain ⟨i,m,el,h1,h2,h3,h4,h5⟩:=methodsOf_spec hl
    refine ⟨f,#[v'] ++ args',?_,h B0 ρ w _ hs (by simpa using VRs.cons hv ha)⟩
    have hmeth : (method (P.types.size + Made.depth) t v' name).run P w = .ok (f,v') w:=by
     have hd : P.types.size + Made.depth = (P.types.size + Made.depth - 1) + 1:=by
      have : 0 < Made.depth:=by decide
      omega
     have h3' : m.path = #[]:=by simpa using h3
     rw [hd]
     simp [method,typeInfo,h1,h2,h3',follow,h4,receiverAt,run_underlying h5,Place.get]
    simp only [callMethod,Sem.run_bind,run_program,Result.andThen_ok,hmeth]
    exact goodFunc_spec hg _ w
  ·exact h.elim
 ·exact h.elim
theorem find_row {fn : Func} {n : String} {e : Array Value → Sem Value} (h : fn.name = n) (h1 : (Extern.allGenericRows.lookup n).isNone = true) (h2 : (Extern.allTypedRows.lookup n).isNone = true) (h3 : Extern.allRows.lookup n = some e) : Extern.find fn = some e:=by
 simp only [Option.isNone_iff_eq_none] at h1 h2
 simp [Extern.find,h,h1,h2,h3]
theorem find_add {fn : Func} (h : fn.name = "math/bits.Add64") : Extern.find fn = some (fun args => do
  let (x,y,c) ← Extern.MathBitsCarry.three "Add64" args
  pure (Extern.MathBitsCarry.pair ((x + y + c) % Extern.MathBitsCarry.m64) ((x + y + c) / Extern.MathBitsCarry.m64))) :=
 find_row h (by kernel_rfl) (by kernel_rfl) (Eq.trans (show Extern.allRows.lookup "math/bits.Add64" = Extern.MathBitsCarry.rows.lookup "math/bits.Add64" by kernel_rfl) rfl)
theorem find_sub {fn : Func} (h : fn.name = "math/bits.Sub64") : Extern.find fn = some (fun args => do
  let (x,y,b) ← Extern.MathBitsCarry.three "Sub64" args
  pure (Extern.MathBitsCarry.pair ((x + Extern.MathBitsCarry.m64 - y - b) % Extern.MathBitsCarry.m64) (if x < y + b then 1 else 0))) :=
 find_row h (by kernel_rfl) (by kernel_rfl) (Eq.trans (show Extern.allRows.lookup "math/bits.Sub64" = Extern.MathBitsCarry.rows.lookup "math/bits.Sub64" by kernel_rfl) rfl)
theorem three_run {P : Program} {nm : String} {x y c : Int} (hc : c.toNat ≤ 1) (w : World) : (Extern.MathBitsCarry.three nm #[.int .u64 x,.int .u64 y,.int .u64 c]).run P w = .ok (x.toNat,y.toNat,c.toNat) w:=by
 have h : Extern.MathBitsCarry.three nm #[.int .u64 x,.int .u64 y,.int .u64 c] = (do
  let c:=(← asInt (.int .u64 c)).toNat
  if c > 1 then unsupported (.noEntry ("extern/math/bits." ++ nm ++ ": a carry that is neither 0 nor 1"))
  pure ((← asInt (.int .u64 x)).toNat,(← asInt (.int .u64 y)).toNat,c)):=rfl
 have hc' : ¬ (1 < c.toNat):=by omega
 rw [h]
 simp [asInt,asIntOf,hc']
 omega
theorem ext_run {P : Program} {ρ : Rho} {f : FuncId} {k : Bool} {args : List Value} {args' : Array Value} {v : Value} (hk : extK P f = some k) (hv : extV k args = some v) (ha : VRs ρ args args'.toList) (w : World) : ∃ v',(callFunc f args').run P w = .ok (.value v') w ∧ VR ρ v v':=by
 unfold extV at hv
 split at hv
 ·rename_i x y c
  split at hv
  ·rename_i hc
   have hargs : args' = #[.int .u64 x,.int .u64 y,.int .u64 c]:=by
    apply Array.ext'
    generalize args'.toList = l at ha ⊢
    cases ha with
    | cons a1 ha => cases ha with
     | cons a2 ha => cases ha with
      | cons a3 ha => cases ha; rw [a1.int_inv,a2.int_inv,a3.int_inv]
   subst hargs
   have hc' : ¬ (1 < c.toNat):=by omega
   cases hv
   refine ⟨_,?_,VR.of_plainC (ρ:=ρ) (v:=if k then .tuple #[.int .u64 (((x.toNat + y.toNat + c.toNat) % 18446744073709551616 : Nat) : Int),.int .u64 (((x.toNat + y.toNat + c.toNat) / 18446744073709551616 : Nat) : Int)]
    else .tuple #[.int .u64 (((x.toNat + 18446744073709551616 - y.toNat - c.toNat) % 18446744073709551616 : Nat) : Int),.int .u64 ((if x.toNat < y.toNat + c.toNat then 1 else 0 : Nat) : Int)]) ?_⟩
   ·unfold extK at hk
    split at hk
    ·rename_i fn hf
     split at hk
     ·rename_i hb
      simp only [Bool.and_eq_true] at hb
      have hn : Extern.findNext fn = none:=by simpa using hb.2
      split at hk
      ·rename_i hname
       have hnm : fn.name = "math/bits.Add64":=by simpa using hname
       cases hk
       rw [run_callFunc_extern hf (by rw [hnm]; rfl) hb.1 hn (find_add hnm)]
       simp [three_run hc,Extern.MathBitsCarry.pair,Extern.MathBitsCarry.m64]
      ·split at hk
       ·rename_i hname
        have hnm : fn.name = "math/bits.Sub64":=by simpa using hname
        cases hk
        rw [run_callFunc_extern hf (by rw [hnm]; rfl) hb.1 hn (find_sub hnm)]
        simp [three_run hc,Extern.MathBitsCarry.pair,Extern.MathBitsCarry.m64]
       ·cases hk
     ·cases hk
    ·cases hk
   ·cases k <;> rfl
  ·cases hv
 ·cases hv
theorem ACall.runs {P : Program} {fv : Value} {args : List Value} {H : AH} {Q : Value → AH → Prop} (h : ACall P fv args H Q) {B0 : Nat} {ρ : Rho} {w : World} {fv' : Value} {args' : Array Value}
  (hs : Sim P B0 ρ H w) (hf : VR ρ fv fv') (ha : VRs ρ args args'.toList) (r : Option Nat) :
  ∃ d nx,(Deferred.ofValue fv' args').run P w = .ok d w ∧ (invoke d.target d.args).run P w = .ok nx w ∧
   ((∃ f as,nx = .enter f as ∧ CallsIn (Fr r) 0 P f as w (Post P B0 H.next ρ w Q)) ∨
    (∃ l fn tmps assign body,nx = .round l fn tmps assign body ∧ RoundIn (Fr r) 0 P l fn tmps assign body w (Post P B0 H.next ρ w Q)) ∨
    (∃ v v',nx = .value v' ∧ VR ρ v v' ∧ Q v H)):=by
 unfold ACall at h
 split at h
 ·rename_i f first cap
  cases hf with
  | func _ _ p' _ q' hfn hp hq h1 h2 =>
   have e1 : VRs ρ first.toList p'.toList:=VRs.of_get (by simpa using hp) (fun i a b => by simpa using h1 i (by simpa using a) (by simpa using b))
   have e2 : VRs ρ cap.toList q'.toList:=VRs.of_get (by simpa using hq) (fun i a b => by simpa using h2 i (by simpa using a) (by simpa using b))
   have e3 : VRs ρ (first.toList ++ args ++ cap.toList) (p' ++ args' ++ q').toList:=by
    simp only [Array.toList_append]
    exact (e1.append ha).append e2
   split at h
   ·rename_i k hk
    obtain ⟨v,hv,hq⟩:=h
    obtain ⟨v',hr,hvr⟩:=ext_run hk hv e3 w
    exact ⟨{ target:=.fn (.func f) q',args:=p' ++ args' },.value v',rfl,by simp only [invoke]; exact hr,.inr (.inr ⟨v,v',rfl,hvr,hq⟩)⟩
   ·obtain ⟨hg,h⟩:=h
    refine ⟨{ target:=.fn (.func f) q',args:=p' ++ args' },.enter f (p' ++ args' ++ q'),rfl,?_,.inl ⟨f,_,rfl,?_⟩⟩
    ·simp only [invoke]; exact goodFunc_spec hg _ w
    ·exact h B0 ρ w _ hs e3
 ·rename_i l first cap
  obtain ⟨rfl,rfl,h⟩:=h
  cases hf with
  | func _ _ _ _ _ hfn => exact absurd rfl (hfn l)
  | yield _ e he =>
   obtain ⟨fn,tmps,assign,body,h1,h2⟩:=h B0 ρ w e args' hs he ha
   refine ⟨{ target:=.fn (.yield e.blk) #[],args:=args' },_,?_,?_,.inr (.inl ⟨e.blk,fn,tmps,assign,body,rfl,h2⟩)⟩
   ·simp [Deferred.ofValue]
   ·simp only [invoke]; exact h1
 ·rename_i t name first cap
  obtain ⟨ht,h⟩:=h
  cases hf with
  | func _ _ p' _ q' hfn hp hq h1 h2 =>
   have e1 : VRs ρ first.toList p'.toList:=VRs.of_get (by simpa using hp) (fun i a b => by simpa using h1 i (by simpa using a) (by simpa using b))
   have e3 : VRs ρ (first.toList ++ args) (p' ++ args').toList:=by
    simp only [Array.toList_append]
    exact e1.append ha
   split at h
   ·rename_i recv rest hrr
    rw [hrr] at e3
    generalize hz : p' ++ args' = z at e3
    cases hzl : z.toList with
    | nil => rw [hzl] at e3; cases e3
    | cons recv' rest' =>
     rw [hzl] at e3
     cases e3 with
     | cons hv hvs =>
      obtain ⟨f,as,q1,q2⟩:=AInv.runs h hs hv (args':=rest'.toArray) (by simpa using hvs) r
      have hzz : z = (recv' :: rest').toArray:=by rw [← hzl]
      refine ⟨{ target:=.fn (.methodOf t name) q',args:=z },.enter f as,by rw [← hz]; rfl,?_,.inl ⟨f,as,rfl,q2⟩⟩
      unfold isIfaceB at ht
      split at ht
      ·rename_i ms hms
       subst hzz
       have hx : ((recv' :: rest').toArray)[0]? = some recv':=rfl
       have hy : ((recv' :: rest').toArray).extract 1 ((recv' :: rest').toArray).size = rest'.toArray:=by
        apply Array.ext'
        simp
       simp only [invoke,hx,hy,Sem.run_bind,run_underlying hms,Result.andThen_ok,Sem.run_pure,q1]
      ·cases ht
   ·exact h.elim
 ·exact h.elim
theorem writeA_next {H H' : AH} {b off : Nat} {news : List Value} (h : writeA H b off news = some H') : H'.next = H.next:=by
 unfold writeA at h
 split at h
 ·split at h
  ·cases h; rfl
  ·cases h
 ·cases h
theorem appendA_next {H H' : AH} {elem sz bytes m : Nat} {s v : Value} {news : List Value} (h : appendA H elem sz bytes s m news = some (v,H')) : H.next ≤ H'.next:=by
 unfold appendA at h
 split at h
 ·split at h
  ·cases h; exact Nat.le_refl _
  ·split at h
   ·cases h; simp [AH.alloc]
   ·cases h
 ·split at h
  ·cases h; exact Nat.le_refl _
  ·split at h
   ·obtain ⟨H2,hw,hq⟩:=opt_map_some h
    cases hq
    exact Nat.le_of_eq (writeA_next hw).symm
   ·split at h
    ·split at h
     ·split at h
      ·cases h; simp [AH.alloc]
      ·split at h
       ·split at h
        ·cases h; simp [AH.alloc,AH.kill]
        ·cases h
       ·cases h
     ·cases h
    ·cases h
 ·cases h
theorem ieval_next {op : IOp} {env : Env} {H H' : AH} {v : Value} (h : ieval op env H = some (v,H')) : H.next ≤ H'.next:=by
 cases op
 case new => cases h; simp [AH.alloc]
 case app e z b s x =>
  simp only [ieval] at h
  split at h
  ·split at h
   ·exact appendA_next h
   ·cases h
  ·cases h
 all_goals
  simp only [ieval] at h
  repeat' split at h
  all_goals first
   | (cases h; done)
   | (cases h; exact Nat.le_refl _)
   | (cases h; simp [AH.alloc]; done)
   | (obtain ⟨y,hw,hq⟩:=opt_map_some h; cases hq; first | exact Nat.le_refl _ | exact Nat.le_of_eq (writeA_next hw).symm | simp [AH.alloc])
theorem step_sound {o : Oper} {ao : AOper} {i : Nat} {draw : Bool} {K : Env → AH → Prop} {K' : Act → World → Prop} (ho : ops[i]? = some o) (hc : compOper P n ops o = some ao) (h : stepA P draw ao K env H)
  (hb : Both P B0 n lo n0 ρ0 w0 ρ env H a w) (hK : ∀ ρ' env' H' a' w',Both P B0 n lo n0 ρ0 w0 ρ' env' H' a' w' → K env' H' → K' a' w') : wpOpIn (Fr r) 0 P ops Qx i K' a w:=by
 unfold compOper at hc
 split at hc
 ·rename_i hcond
  simp only [Bool.and_eq_true] at hcond
  obtain ⟨hk,hdst⟩:=hcond
  have hd : ∀ d,o.dst = some d → d < n:=by
   intro d hd
   rw [hd] at hdst
   simpa [dstOk] using hdst
  split at hc
  ·rename_i iop g hop hgd
   cases hc
   unfold stepA at h
   simp only at h
   unfold wpOpIn
   rw [ho]
   simp only
   cases hga : guardA env g with
   | none => simp only [hga] at h
   | some b =>
    rw [guard_sound hb.env hgd hga]
    simp only [hga] at h
    cases b with
    | false =>
     simp only [Bool.false_eq_true,if_false]
     refine ⟨fun _ _ => trivial,hK ρ _ H _ w (hb.next (Stp.refl hb.stp.sim) (.refl hb.up.next) undef_rel hd) h⟩
    | true =>
     simp only [if_true]
     refine ⟨fun _ _ => trivial,?_⟩
     have hnd : ∀ c,o.op ≠ .defer c:=by
      intro c hcc
      rw [hcc] at hop
      simp [compOp,compOp0] at hop
     rw [Oper.semAt_eq _ _ _ hnd]
     have plain_op : ∀ {v H'},ieval iop env H = some (v,H') → K (put env o.dst v) H' → o.uponIn (Fr r) 0 P a K' Qx ((execOp a.eval o).run P w):=by
      intro v H' hv hk'
      obtain ⟨v',w',ρ',hr,hst,hvr,hon⟩:=op_sound hop hk hb.stp.sim hb.env hv
      have hup:=hon.up (n0:=n0) hb.up.next (Nat.le_trans hb.up.next (ieval_next hv))
      rcases hr with hr | ⟨hr,rfl⟩
      ·rw [hr]; exact hK ρ' _ H' _ w' (hb.next hst hup hvr hd) hk'
      ·rw [hr]; exact hK ρ' _ H' _ w' (hb.next hst hup hvr hd) hk'
     cases iop with
     | call f args =>
      simp only at h
      -- the operation is a call of a function value
      have hoc:=compOp_call hop
      obtain ⟨c,hc1,hc2,hc3⟩:=hoc
      have hkk : okOpd P f = true ∧ args.all (okOpd P) = true:=by
       rw [hc1] at hk
       simp only [Op.operands,Call.operands,hc2,Array.toList_append,List.all_append,Bool.and_eq_true] at hk
       exact ⟨by simpa using hk.1,by rw [← hc3]; exact hk.2⟩
      split at h
      ·rename_i fv vs h1 h2
       have hvf:=aval_sound hb.stp.sim hb.env hkk.1 h1
       have hva:=avals_sound hb.stp.sim hb.env hkk.2 h2
       have hva' : VRs ρ vs (c.args.map a.eval).toList:=by rw [Array.toList_map,hc3]; exact hva
       have go : ∀ {Q},ACall P fv vs H Q → (∀ v H',Q v H' → K (put env o.dst v) H') → o.uponIn (Fr r) 0 P a K' Qx ((execOp a.eval o).run P w):=by
        intro Q hcall hq
        obtain ⟨d,nx,e1,e2,e3⟩:=hcall.runs hb.stp.sim hvf hva' r
        have hrun : (execOp a.eval o).run P w = .ok nx w:=by
         simp only [execOp,hc1,resolve,hc2,Sem.run_bind,e1,Result.andThen_ok,e2]
        rw [hrun]
        exact call_upon hd hb e3 fun ρ' v H' a' w' hb' hq' => hK ρ' _ H' a' w' hb' (hq v H' hq')
       cases draw with
       | true => exact go (Q:=fun v H' => Grow H H' ∧ K (put env o.dst v) H') h fun _ _ hq => hq.2
       | false => exact go (Q:=fun v H' => K (put env o.dst v) H') h fun _ _ hq => hq
      ·exact h.elim
     | invoke rv tbl args =>
      simp only at h
      have hoc:=compOp_invoke hop
      obtain ⟨c,name,hc1,hc2,rfl,hc3⟩:=hoc
      have hkk : okOpd P rv = true ∧ args.all (okOpd P) = true:=by
       rw [hc1] at hk
       simp only [Op.operands,Call.operands,hc2,Array.toList_append,List.all_append,Bool.and_eq_true] at hk
       exact ⟨by simpa using hk.1,by rw [← hc3]; exact hk.2⟩
      split at h
      ·rename_i fv vs h1 h2
       have hvf:=aval_sound hb.stp.sim hb.env hkk.1 h1
       have hva:=avals_sound hb.stp.sim hb.env hkk.2 h2
       have hva' : VRs ρ vs (c.args.map a.eval).toList:=by rw [Array.toList_map,hc3]; exact hva
       have go : ∀ {Q},AInv P fv (methodsOf P name) vs H Q → (∀ v H',Q v H' → K (put env o.dst v) H') → o.uponIn (Fr r) 0 P a K' Qx ((execOp a.eval o).run P w):=by
        intro Q hcall hq
        obtain ⟨f,as,e1,e3⟩:=hcall.runs hb.stp.sim hvf hva' r
        have hrun : (execOp a.eval o).run P w = .ok (.enter f as) w:=by
         generalize hm : c.args.map a.eval = am at *
         have hx : (#[a.eval rv] ++ am)[0]? = some (a.eval rv):=by rw [Array.getElem?_append_left (by simp)]; rfl
         have hy : (#[a.eval rv] ++ am).extract 1 (#[a.eval rv] ++ am).size = am:=by
          apply Array.ext'
          simp
         simp only [execOp,hc1,resolve,hc2,hm,Sem.run_bind,Sem.run_pure,Result.andThen_ok,invoke,hx,hy,e1]
        rw [hrun]
        exact call_upon hd hb (.inl ⟨f,as,rfl,e3⟩) fun ρ' v H' a' w' hb' hq' => hK ρ' _ H' a' w' hb' (hq v H' hq')
       cases draw with
       | true => exact go h fun _ _ hq => hq.2
       | false => exact go h fun _ _ hq => hq
      ·exact h.elim
     | _ =>
      simp only at h
      split at h
      ·rename_i v H' hv; exact plain_op hv h
      ·exact h.elim
  ·cases hc
 ·cases hc
theorem region_sound {K : Env → AH → Prop} {Q' : Exit → Act → World → Prop} (hK : ∀ ρ' env' H' a' w',Both P B0 n lo n0 ρ0 w0 ρ' env' H' a' w' → K env' H' → Q' .normal a' w') :
  ∀ (l : List Oper) (al : List AOper) (i : Nat),l = ops.toList.drop i → i + l.length = ops.size → compOpers P n ops l = some al → ∀ {ρ env H a w},wpO P false K al env H → Both P B0 n lo n0 ρ0 w0 ρ env H a w →
   wpOpsIn (Fr r) 0 P ops Q' (List.range' i l.length) a w
 | [],al,i,hl,hi,hc,ρ,env,H,a,w,h,hb => by
  simp [compOpers] at hc
  subst hc
  simp only [wpO] at h
  simp only [List.length_nil,List.range'_zero,wpOpsIn]
  exact hK ρ env H a w hb h
 | o :: l,al,i,hl,hi,hc,ρ,env,H,a,w,h,hb => by
  simp only [compOpers] at hc
  split at hc
  ·rename_i ao al' h1 h2
   cases hc
   simp only [wpO] at h
   simp only [List.length_cons,List.range'_succ,wpOpsIn_cons]
   have ho : ops[i]? = some o:=by
    have : (ops.toList.drop i)[0]? = some o:=by rw [← hl]; rfl
    rw [List.getElem?_drop] at this
    simpa using this
   have hl' : l = ops.toList.drop (i + 1):=by
    have : (o :: l).drop 1 = (ops.toList.drop i).drop 1:=by rw [← hl]
    rw [List.drop_drop] at this
    simpa using this
   refine step_sound ho h1 h hb ?_
   intro ρ' env' H' a' w' hb' hk
   exact region_sound hK l al' (i + 1) hl' (by simp at hi; omega) h2 hk hb'
  ·cases hc
end
end Go.Abs
/-
 THE ABSTRACT LAYER (15): a region that draws its order: every order comes to what the text's order comes to.
-/
set_option linter.unusedSimpArgs false
set_option linter.unusedVariables false
namespace Go.Abs
open Go Go.RowKit
theorem avals_congr {env env' : Env} : ∀ {xs : List Operand},(∀ x ∈ xs,aval env x = aval env' x) → avals env xs = avals env' xs
 | [],_ => rfl
 | x :: xs,h => by
  simp only [avals]
  rw [h x (by simp),avals_congr fun y hy => h y (by simp [hy])]
theorem fillA_congr {env env' : Env} : ∀ {ps : List (Nat × Nat × Operand)} {cells : List Value},(∀ p ∈ ps,aval env p.2.2 = aval env' p.2.2) → fillA env cells ps = fillA env' cells ps
 | [],_,_ => rfl
 | (off,n,x) :: ps,cells,h => by
  have h1 : aval env x = aval env' x:=h (off,n,x) (by simp)
  simp only [fillA,h1]
  split
  ·split
   ·split
    ·exact fillA_congr (ps:=ps) fun p hp => h p (List.mem_cons_of_mem _ hp)
    ·rfl
   ·rfl
  ·rfl
theorem boundA_congr {env env' : Env} {y d : Nat} {o : Option Operand} (h : ∀ x ∈ optO o,aval env x = aval env' x) : boundA env y o d = boundA env' y o d:=by
 cases o with
 | none => rfl
 | some x => simp only [boundA]; rw [h x (by simp [optO])]
theorem boundsA_congr {env env' : Env} {l c : Nat} {lo hi mx : Option Operand} (h1 : ∀ x ∈ optO lo,aval env x = aval env' x) (h2 : ∀ x ∈ optO hi,aval env x = aval env' x) (h3 : ∀ x ∈ optO mx,aval env x = aval env' x) :
  boundsA env l c lo hi mx = boundsA env' l c lo hi mx:=by
 unfold boundsA
 simp only [boundA_congr h1,boundA_congr h2,boundA_congr h3]
theorem ieval_congr {env env' : Env} {H : AH} (op : IOp) (h : ∀ x ∈ op.opds,aval env x = aval env' x) : ieval op env H = ieval op env' H:=by
 cases op <;> simp only [IOp.opds] at h <;> simp only [ieval]
 case build z ps => rw [fillA_congr fun p hp => h _ (List.mem_map.2 ⟨p,hp,rfl⟩)]
 case bslice e l z ps => rw [fillA_congr fun p hp => h _ (List.mem_map.2 ⟨p,hp,rfl⟩)]
 case fn f p q => rw [avals_congr fun x hx => h x (List.mem_append_left _ hx),avals_congr fun x hx => h x (List.mem_append_right _ hx)]
 case sl sz x lo hi mx =>
  rw [h x (by simp)]
  simp only [fun l c => boundsA_congr (l:=l) (c:=c) (fun y hy => h y (by simp [hy])) (fun y hy => h y (by simp [hy])) (fun y hy => h y (by simp [hy])) (lo:=lo) (hi:=hi) (mx:=mx)]
 case slP n sz x lo hi mx =>
  rw [h x (by simp)]
  simp only [fun l c => boundsA_congr (l:=l) (c:=c) (fun y hy => h y (by simp [hy])) (fun y hy => h y (by simp [hy])) (fun y hy => h y (by simp [hy])) (lo:=lo) (hi:=hi) (mx:=mx)]
 case slT x lo hi =>
  rw [h x (by simp)]
  simp only [fun l c => boundsA_congr (l:=l) (c:=c) (mx:=none) (fun y hy => h y (by simp [hy])) (fun y hy => h y (by simp [hy])) (fun y hy => by simp [optO] at hy) (lo:=lo) (hi:=hi)]
 case pick c x y =>
  rw [h c (by simp)]
  split
  ·rename_i t _
   cases t
   ·simp only [Bool.false_eq_true,if_false]; rw [h y (by simp)]
   ·simp only [if_true]; rw [h x (by simp)]
  ·rfl
 all_goals first
  | rfl
  | (rename_i x y; rw [h x (by simp),h y (by simp)]; done)
  | (rename_i x; rw [h x (by simp)]; done)
  | (rename_i x y; rw [h x (by simp)]; done)
theorem ieval_pure {op : IOp} (hc : op.cls = 0) {env : Env} {H H' : AH} {v : Value} (h : ieval op env H = some (v,H')) : H' = H ∧ ∀ H2,ieval op env H2 = some (v,H2):=by
 cases op <;> simp only [IOp.cls] at hc <;> try (cases hc; done)
 all_goals
  simp only [ieval] at h ⊢
  repeat' (split at h)
  all_goals first
   | (cases h; done)
   | (cases h; refine ⟨rfl,fun H2 => ?_⟩; simp [*]; done)
   | (obtain ⟨u,hu,hq⟩:=opt_map_some h; cases hq; refine ⟨rfl,fun H2 => ?_⟩; simp [*]; done)
theorem ieval_read {op : IOp} (hc : op.cls = 1) {env : Env} {H H' : AH} {v : Value} (h : ieval op env H = some (v,H')) : H' = H:=by
 cases op <;> simp only [IOp.cls] at hc <;> try (cases hc; done)
 all_goals
  simp only [ieval] at h
  repeat' (split at h)
  all_goals first
   | (cases h; done)
   | (cases h; rfl)
   | (obtain ⟨u,hu,hq⟩:=opt_map_some h; cases hq; rfl)
def StepRel (P : Program) (o : AOper) (env : Env) (H : AH) (v : Value) (H' : AH) : Prop :=
 match guardA env o.guard with
 | none => False
 | some false => v = undef ∧ H' = H
 | some true => ieval o.op env H = some (v,H')
theorem stepA_iff {P : Program} {o : AOper} (hn : o.op.isC = false) {K : Env → AH → Prop} {env : Env} {H : AH} : stepA P true o K env H ↔ ∃ v H',StepRel P o env H v H' ∧ K (put env o.dst v) H':=by
 unfold stepA StepRel
 cases hg : guardA env o.guard with
 | none => simp
 | some b =>
  cases b with
  | false =>
   simp only
   exact ⟨fun h => ⟨undef,H,⟨rfl,rfl⟩,h⟩,fun ⟨v,H',⟨h1,h2⟩,h3⟩ => by subst h1; subst h2; exact h3⟩
  | true =>
   cases ho : o.op
   case call f args => rw [ho] at hn; cases hn
   case invoke r tbl args => rw [ho] at hn; cases hn
   all_goals
    simp only
    constructor
    ·intro h
     split at h
     ·rename_i v H' hv; exact ⟨v,H',hv,h⟩
     ·exact h.elim
    ·rintro ⟨v,H',hv,h⟩
     rw [hv]
     exact h
theorem mem_opdSlots {t : Nat} : ∀ {xs : List Operand},Operand.tmp t ∈ xs → t ∈ opdSlots xs
 | [],h => by simp at h
 | x :: xs,h => by
  rcases List.mem_cons.1 h with h | h
  ·subst h; simp [opdSlots]
  ·have:=mem_opdSlots h
   cases x <;> simp [opdSlots,this]
theorem aval_put {env : Env} {d : Nat} {v : Value} {x : Operand} (h : x ≠ .tmp d) : aval (upd env d v) x = aval env x:=by
 cases x with
 | tmp t => simp only [aval,upd]; rw [if_neg]; intro ht; subst ht; exact h rfl
 | _ => rfl
theorem opds_put {env : Env} {dst : Option Nat} {v : Value} {o : AOper} (h : ∀ d,dst = some d → d ∉ looks o) : ∀ x ∈ o.op.opds,aval (put env dst v) x = aval env x:=by
 intro x hx
 cases dst with
 | none => rfl
 | some d => exact aval_put fun hxd => h d rfl (by subst hxd; exact List.mem_append_left _ (mem_opdSlots hx))
theorem guard_put {env : Env} {dst : Option Nat} {v : Value} {o : AOper} (h : ∀ d,dst = some d → d ∉ looks o) : guardA (put env dst v) o.guard = guardA env o.guard:=by
 cases dst with
 | none => rfl
 | some d =>
  cases hg : o.guard with
  | none => rfl
  | some g =>
   obtain ⟨s,want⟩:=g
   have hne : s ≠ d:=fun e => h d rfl (by subst e; simp [looks,hg])
   simp [guardA,put,upd,hne]
theorem StepRel.put {P : Program} {o : AOper} {env : Env} {H H' : AH} {v u : Value} {dst : Option Nat} (h : ∀ d,dst = some d → d ∉ looks o) : StepRel P o (put env dst u) H v H' ↔ StepRel P o env H v H':=by
 have h1:=opds_put (v:=u) (env:=env) h
 unfold StepRel
 rw [guard_put h]
 cases hg : guardA env o.guard with
 | none => exact Iff.rfl
 | some b =>
  cases b with
  | false => exact Iff.rfl
  | true =>
   simp only
   rw [ieval_congr (env:=Abs.put env dst u) (env':=env) o.op h1]
theorem StepRel.pure {P : Program} {o : AOper} (hc : o.op.cls = 0) {env : Env} {H H' : AH} {v : Value} (h : StepRel P o env H v H') : H' = H ∧ ∀ H2,StepRel P o env H2 v H2:=by
 unfold StepRel at *
 cases hg : guardA env o.guard with
 | none => simp only [hg] at h
 | some b =>
  cases b with
  | false => simp only [hg] at h ⊢; exact ⟨h.2,fun H2 => ⟨h.1,trivial⟩⟩
  | true =>
   simp only [hg] at h ⊢
   exact ieval_pure hc h
theorem StepRel.read {P : Program} {o : AOper} (hc : o.op.cls = 1) {env : Env} {H H' : AH} {v : Value} (h : StepRel P o env H v H') : H' = H:=by
 unfold StepRel at *
 cases hg : guardA env o.guard with
 | none => simp only [hg] at h
 | some b =>
  cases b with
  | false => simp only [hg] at h; exact h.2
  | true =>
   simp only [hg] at h
   exact ieval_read hc h
theorem Grow.cells {H H' : AH} (h : Grow H H') {b : Nat} {cs : List Value} (hc : H.cells b = some cs) : H'.cells b = some cs:=by
 unfold AH.cells at hc ⊢
 split at hc
 ·rename_i e; rw [h _ _ e]; exact hc
 ·cases hc
theorem elemsA_grow {H H1 : AH} {sz : Nat} {v : Value} {l : List Value} (h : elemsA H sz v = some l) (hg : Grow H H1) : elemsA H1 sz v = some l:=by
 unfold elemsA at h ⊢
 split at h
 ·exact h
 ·rename_i b off sp len
  split at h
  ·rename_i h0
   simp only [h0,if_true]
   exact h
  ·rename_i h0
   obtain ⟨cs,hcs,hcut⟩:=Option.bind_eq_some_iff.1 h
   simp only [h0,if_false,hg.cells hcs,Option.bind_some,hcut]
 ·cases h
theorem ieval_read_grow {op : IOp} (hc : op.cls = 1) {env : Env} {H H1 H' : AH} {v : Value} (h : ieval op env H = some (v,H')) (hg : Grow H H1) : ieval op env H1 = some (v,H1):=by
 cases op <;> simp only [IOp.cls] at hc <;> try (cases hc; done)
 case load1 a =>
  simp only [ieval] at h ⊢
  split at h
  ·obtain ⟨u,hu,hq⟩:=opt_map_some h
   cases hq
   obtain ⟨cs,hcs,hg2⟩:=Option.bind_eq_some_iff.1 hu
   rename_i e
   simp [e,hg.cells hcs,hg2]
  ·cases h
 case loadN n a =>
  simp only [ieval] at h ⊢
  split at h
  ·obtain ⟨u,hu,hq⟩:=opt_map_some h
   cases hq
   obtain ⟨cs,hcs,hg2⟩:=Option.bind_eq_some_iff.1 hu
   rename_i e
   simp [e,hg.cells hcs,hg2]
  ·cases h
 case bstr x =>
  simp only [ieval] at h ⊢
  split at h
  ·rename_i u e
   obtain ⟨r,hr,hq⟩:=opt_map_some h
   simp only [Prod.mk.injEq] at hq
   obtain ⟨rfl,_⟩:=hq
   have : bstrA H1 u = some r:=by
    unfold bstrA at hr ⊢
    split at hr
    ·split at hr
     ·rename_i l hl
      rw [elemsA_grow hl hg]
      exact hr
     ·cases hr
    ·cases hr
   simp [e,this]
  ·cases h
 all_goals
  simp only [ieval] at h
  cases h
theorem StepRel.grow {P : Program} {o : AOper} (hc : o.op.cls = 0 ∨ o.op.cls = 1) {env : Env} {H H1 H' : AH} {v : Value} (h : StepRel P o env H v H') (hg : Grow H H1) : StepRel P o env H1 v H1:=by
 rcases hc with hc | hc
 ·exact (h.pure hc).2 H1
 ·unfold StepRel at *
  cases hgd : guardA env o.guard with
  | none => simp only [hgd] at h
  | some b =>
   cases b with
   | false => simp only [hgd] at h ⊢; exact ⟨h.1,trivial⟩
   | true =>
    simp only [hgd] at h ⊢
    exact ieval_read_grow hc h hg
theorem put_comm {env : Env} {x y : Option Nat} {v u : Value} (h : ∀ d,x = some d → y ≠ some d) : put (put env x v) y u = put (put env y u) x v:=by
 cases x with
 | none => rfl
 | some d =>
  cases y with
  | none => rfl
  | some e =>
   have hne : e ≠ d:=fun he => h d rfl (by rw [he])
   funext i
   simp only [put,upd]
   by_cases h1 : i = e
   ·subst h1; simp [hne]
   ·simp [h1]
theorem indep_spec {x y : AOper} (h : indep x y = true) : x.op.isC = false ∧ (x.op.cls = 0 ∨ y.op.cls = 0 ∨ (x.op.cls = 1 ∧ (y.op.cls = 1 ∨ y.op.cls = 3))) ∧ (∀ d,x.dst = some d → d ∉ looks y) ∧ (∀ d,x.dst = some d → y.dst ≠ some d) ∧ (∀ d,y.dst = some d → d ∉ looks x):=by
 unfold indep at h
 simp only [Bool.and_eq_true,Bool.or_eq_true,beq_iff_eq,Bool.not_eq_true'] at h
 obtain ⟨⟨⟨h0,h1⟩,h2⟩,h3⟩:=h
 refine ⟨h0,?_,fun d hd => ?_,fun d hd => ?_,fun d hd => ?_⟩
 ·rcases h1 with (h1 | h1) | h1
  ·exact .inl h1
  ·exact .inr (.inl h1)
  ·exact .inr (.inr h1)
 ·rw [hd] at h2; simp at h2; exact h2.1
 ·rw [hd] at h2; simp at h2; exact h2.2
 ·rw [hd] at h3; simp at h3; exact h3
theorem writeA_wf {H H' : AH} (hw : WF H) {b off : Nat} {news : List Value} (h : writeA H b off news = some H') : WF H':=by
 unfold writeA at h
 split at h
 ·rename_i cs e hb
  split at h
  ·cases h
   intro a C ha
   simp only [AH.set] at ha ⊢
   split at ha
   ·rename_i hab; subst hab; exact hw _ _ hb
   ·exact hw a C ha
  ·cases h
 ·cases h
theorem alloc_wf {H : AH} (hw : WF H) (B : Blk) : WF (H.alloc B):=by
 intro b C hb
 simp only [AH.alloc] at hb ⊢
 split at hb
 ·omega
 ·have:=hw b C hb; omega
theorem kill_wf {H : AH} (hw : WF H) (a : Nat) : WF (H.kill a):=by
 intro b C hb
 simp only [AH.kill] at hb ⊢
 split at hb
 ·cases hb
 ·exact hw b C hb
theorem alloc_grow {H : AH} (hw : WF H) (B : Blk) : Grow H (H.alloc B):=by
 intro b C hb
 have:=hw b C hb
 simp only [AH.alloc]
 rw [if_neg (by omega)]
 exact hb
theorem ieval_allocs {op : IOp} (hc : op.cls = 3) {env : Env} {H H' : AH} {v : Value} (hw : WF H) (h : ieval op env H = some (v,H')) : Grow H H' ∧ WF H':=by
 cases op <;> simp only [IOp.cls] at hc <;> try (cases hc; done)
 all_goals
  simp only [ieval] at h
  repeat' (split at h)
  all_goals first
   | (cases h; done)
   | (cases h; exact ⟨alloc_grow hw _,alloc_wf hw _⟩)
   | (obtain ⟨u,hu,hq⟩:=opt_map_some h; cases hq; exact ⟨alloc_grow hw _,alloc_wf hw _⟩)
theorem appendA_wf {H H' : AH} (hw : WF H) {elem sz bytes m : Nat} {s v : Value} {news : List Value} (h : appendA H elem sz bytes s m news = some (v,H')) : WF H':=by
 unfold appendA at h
 repeat' (split at h)
 all_goals first
  | (cases h; done)
  | (cases h; exact hw)
  | (cases h; exact alloc_wf hw _)
  | (cases h; exact alloc_wf (kill_wf hw _) _)
  | (obtain ⟨u,hu,hq⟩:=opt_map_some h; cases hq; exact writeA_wf hw hu)
theorem ieval_wf {op : IOp} {env : Env} {H H' : AH} {v : Value} (hw : WF H) (h : ieval op env H = some (v,H')) : WF H':=by
 by_cases h0 : op.cls = 0
 ·rw [(ieval_pure h0 h).1]; exact hw
 by_cases h1 : op.cls = 1
 ·rw [ieval_read h1 h]; exact hw
 by_cases h3 : op.cls = 3
 ·exact (ieval_allocs h3 hw h).2
 cases op <;> try (first | exact absurd rfl h0 | exact absurd rfl h1 | exact absurd rfl h3)
 all_goals
  simp only [ieval] at h
  repeat' (split at h)
  all_goals first
   | (cases h; done)
   | (cases h; exact hw)
   | (exact appendA_wf hw h)
   | (obtain ⟨u,hu,hq⟩:=opt_map_some h; cases hq; exact writeA_wf hw hu)
theorem StepRel.allocs {P : Program} {o : AOper} (hc : o.op.cls = 3) {env : Env} {H H' : AH} {v : Value} (hw : WF H) (h : StepRel P o env H v H') : Grow H H':=by
 unfold StepRel at h
 cases hg : guardA env o.guard with
 | none => simp only [hg] at h
 | some b =>
  cases b with
  | false => simp only [hg] at h; rw [h.2]; exact fun _ _ h => h
  | true => simp only [hg] at h; exact (ieval_allocs hc hw h).1
theorem stepA_mono_wf {P : Program} {o : AOper} {K K' : Env → AH → Prop} {env : Env} {H : AH} (hw : WF H) (hk : ∀ env H,WF H → K env H → K' env H) (h : stepA P true o K env H) : stepA P true o K' env H:=by
 cases hc : o.op.isC with
 | false =>
  rw [stepA_iff hc] at h ⊢
  obtain ⟨v,H',r,h⟩:=h
  refine ⟨v,H',r,hk _ _ ?_ h⟩
  unfold StepRel at r
  cases hg : guardA env o.guard with
  | none => simp only [hg] at r
  | some b =>
   cases b with
   | false => simp only [hg] at r; rw [r.2]; exact hw
   | true => simp only [hg] at r; exact ieval_wf hw r
 | true =>
  unfold stepA at *
  cases hg : guardA env o.guard with
  | none => simp only [hg] at h
  | some b =>
   cases b with
   | false => simp only [hg] at h ⊢; exact hk _ _ hw h
   | true =>
    simp only [hg] at h ⊢
    cases hop : o.op
    case call f args =>
     simp only [hop] at h ⊢
     split at h
     ·simp only [if_true] at h ⊢
      exact h.mono_wf hw fun v H' hw' hq => ⟨hq.1,hk _ _ hw' hq.2⟩
     ·exact h
    case invoke r tbl args =>
     simp only [hop] at h ⊢
     split at h
     ·simp only [if_true] at h ⊢
      exact h.mono_wf fun v H' hw' hq => ⟨hq.1,hk _ _ hw' hq.2⟩
     ·exact h
    all_goals
     rw [hop] at hc
     cases hc
theorem isC_cls {op : IOp} (h : op.isC = true) : op.cls = 1:=by cases op <;> first | rfl | cases h
theorem swap_call {P : Program} {y : AOper} (hy : y.op.isC = true) {env : Env} {H : AH} {K K' : Env → AH → Prop} {dst : Option Nat} {u : Value} (h1 : ∀ d,dst = some d → d ∉ looks y) (h : stepA P true y K (put env dst u) H)
  (hk : ∀ v H',Grow H H' → K (put (put env dst u) y.dst v) H' → K' (put env y.dst v) H') : stepA P true y K' env H:=by
 have ho:=opds_put (v:=u) (env:=env) h1
 have hgd:=guard_put (v:=u) (env:=env) h1
 unfold stepA at *
 rw [hgd] at h
 cases hg : guardA env y.guard with
 | none => simp only [hg] at h
 | some b =>
  cases b with
  | false => simp only [hg] at h ⊢; exact hk _ _ (fun _ _ h => h) h
  | true =>
   simp only [hg] at h ⊢
   cases hop : y.op
   case call f args =>
    rw [hop] at ho
    simp only [hop] at h ⊢
    rw [ho f (by simp [IOp.opds]),avals_congr (env:=Abs.put env dst u) (env':=env) fun x hx => ho x (by simp [IOp.opds,hx])] at h
    split at h
    ·simp only [if_true] at h ⊢
     exact h.mono fun v H' hq => ⟨hq.1,hk _ _ hq.1 hq.2⟩
    ·exact h
   case invoke r tbl args =>
    rw [hop] at ho
    simp only [hop] at h ⊢
    rw [ho r (by simp [IOp.opds]),avals_congr (env:=Abs.put env dst u) (env':=env) fun x hx => ho x (by simp [IOp.opds,hx])] at h
    split at h
    ·simp only [if_true] at h ⊢
     exact h.mono fun v H' hq => ⟨hq.1,hk _ _ hq.1 hq.2⟩
    ·exact h
   all_goals
    rw [hop] at hy
    cases hy
theorem swap {P : Program} {x y : AOper} (h : indep x y = true) {K : Env → AH → Prop} {env : Env} {H : AH} (hw : WF H) (hh : stepA P true x (stepA P true y K) env H) : stepA P true y (stepA P true x K) env H:=by
 obtain ⟨hx,hc,h1,h2,h3⟩:=indep_spec h
 rw [stepA_iff hx] at hh
 obtain ⟨v1,H1,r1,hh⟩:=hh
 cases hy : y.op.isC with
 | true =>
  have hy1:=isC_cls hy
  have hx1 : x.op.cls = 0 ∨ x.op.cls = 1:=by
   rcases hc with hc | hc | hc
   ·exact .inl hc
   ·rw [hy1] at hc; cases hc
   ·exact .inr hc.1
  have e1 : H1 = H:=by
   rcases hx1 with hc | hc
   ·exact (r1.pure hc).1
   ·exact r1.read hc
  subst e1
  refine swap_call hy h1 hh fun v H' hg hk => ?_
  rw [stepA_iff hx]
  exact ⟨v1,H',(StepRel.put h3).2 (r1.grow hx1 hg),by rw [(put_comm h2).symm]; exact hk⟩
 | false =>
  rw [stepA_iff hy] at hh
  obtain ⟨v2,H2,r2,hk⟩:=hh
  rw [StepRel.put h1] at r2
  have hcomm : Abs.put (Abs.put env y.dst v2) x.dst v1 = Abs.put (Abs.put env x.dst v1) y.dst v2:=(put_comm h2).symm
  rw [stepA_iff hy]
  rcases hc with hc | hc | ⟨hc1,hc2⟩
  ·obtain ⟨rfl,q⟩:=r1.pure hc
   refine ⟨v2,H2,r2,?_⟩
   rw [stepA_iff hx]
   exact ⟨v1,H2,(StepRel.put h3).2 (q H2),by rw [hcomm]; exact hk⟩
  ·obtain ⟨rfl,q⟩:=r2.pure hc
   refine ⟨v2,H,q H,?_⟩
   rw [stepA_iff hx]
   exact ⟨v1,_,(StepRel.put h3).2 r1,by rw [hcomm]; exact hk⟩
  ·have e1:=r1.read hc1
   subst e1
   have hg : Grow H1 H2:=by
    rcases hc2 with hc2 | hc2
    ·rw [r2.read hc2]; exact fun _ _ h => h
    ·exact r2.allocs hc2 hw
   refine ⟨v2,_,r2,?_⟩
   rw [stepA_iff hx]
   exact ⟨v1,_,(StepRel.put h3).2 (r1.grow (.inr hc1) hg),by rw [hcomm]; exact hk⟩
theorem swap0 {P : Program} {x y : AOper} (h : indep x y = true) (hx0 : x.op.cls = 0) {d : Bool} {K : Env → AH → Prop} {env : Env} {H : AH} (hh : stepA P true x (stepA P d y K) env H) : stepA P d y (stepA P true x K) env H:=by
 obtain ⟨hx,hc,h1,h2,h3⟩:=indep_spec h
 rw [stepA_iff hx] at hh
 obtain ⟨v1,H1,r1,hh⟩:=hh
 obtain ⟨rfl,hp⟩:=r1.pure hx0
 have ho:=opds_put (v:=v1) (env:=env) h1
 have hgd:=guard_put (v:=v1) (env:=env) h1
 have hk : ∀ v H',K (put (put env x.dst v1) y.dst v) H' → stepA P true x K (put env y.dst v) H':=fun v H' hk => by
  rw [stepA_iff hx]
  exact ⟨v1,H',(StepRel.put h3).2 (hp H'),by rw [(put_comm h2).symm]; exact hk⟩
 unfold stepA at hh ⊢
 rw [hgd] at hh
 cases hg : guardA env y.guard with
 | none => simp only [hg] at hh
 | some b =>
  cases b with
  | false => simp only [hg] at hh ⊢; exact hk _ _ hh
  | true =>
   simp only [hg] at hh ⊢
   cases hop : y.op
   case call f args =>
    rw [hop] at ho
    simp only [hop] at hh ⊢
    rw [ho f (by simp [IOp.opds]),avals_congr (env:=Abs.put env x.dst v1) (env':=env) fun z hz => ho z (by simp [IOp.opds,hz])] at hh
    split at hh
    ·cases d with
     | true => simp only [if_true] at hh ⊢; exact hh.mono fun v H' hq => ⟨hq.1,hk _ _ hq.2⟩
     | false => simp only [Bool.false_eq_true,if_false] at hh ⊢; exact hh.mono fun v H' hq => hk _ _ hq
    ·exact hh
   case invoke r tbl args =>
    rw [hop] at ho
    simp only [hop] at hh ⊢
    rw [ho r (by simp [IOp.opds]),avals_congr (env:=Abs.put env x.dst v1) (env':=env) fun z hz => ho z (by simp [IOp.opds,hz])] at hh
    split at hh
    ·cases d with
     | true => simp only [if_true] at hh ⊢; exact hh.mono fun v H' hq => ⟨hq.1,hk _ _ hq.2⟩
     | false => simp only [Bool.false_eq_true,if_false] at hh ⊢; exact hh.mono fun v H' hq => hk _ _ hq
    ·exact hh
   all_goals
    rw [hop] at ho
    simp only [hop] at hh ⊢
    rw [ieval_congr _ ho] at hh
    split at hh
    ·rename_i v H' hv
     exact hk _ _ hh
    ·exact hh
def wpI (P : Program) (K : Env → AH → Prop) (al : List AOper) (g : Nat → Bool) : List Nat → Env → AH → Prop
 | [],env,H => K env H
 | i :: rest,env,H => match al[i]? with
  | some o => stepA P (!g i) o (wpI P K al g rest) env H
  | none => False
theorem wpO_wpI {P : Program} {K : Env → AH → Prop} {al : List AOper} : ∀ (ord : List Nat),(∀ i ∈ ord,i < al.length) → ∀ {env H},wpO P true K (ord.filterMap fun i => al[i]?) env H → wpI P K al (fun _ => false) ord env H
 | [],_,env,H,h => h
 | i :: ord,hlt,env,H,h => by
  have hi : al[i]? = some (al[i]'(hlt i (by simp))):=by simp
  simp only [wpI,hi]
  rw [List.filterMap_cons,hi] at h
  exact stepA_mono (fun env H hk => wpO_wpI ord (fun j hj => hlt j (by simp [hj])) hk) h
theorem stepA_any {P : Program} {o : AOper} (hn : o.op.isC = false) {d d' : Bool} {K : Env → AH → Prop} {env : Env} {H : AH} : stepA P d o K env H → stepA P d' o K env H:=by
 intro h
 unfold stepA at h ⊢
 cases hg : guardA env o.guard with
 | none => simp only [hg] at h
 | some b =>
  cases b with
  | false => simp only [hg] at h ⊢; exact h
  | true =>
   simp only [hg] at h ⊢
   cases hop : o.op <;> simp only [hop,IOp.isC] at hn h ⊢ <;> first | exact h | cases hn
theorem wpI_front {P : Program} {K : Env → AH → Prop} {al : List AOper} {g : Nat → Bool} {i : Nat} {y : AOper} (hi : al[i]? = some y) : ∀ (A B : List Nat),(∀ a ∈ A,∃ x,al[a]? = some x ∧ indep x y = true ∧ (g i = true → x.op.cls = 0)) → ∀ {env H},WF H → wpI P K al g (A ++ i :: B) env H →
  wpI P K al g (i :: (A ++ B)) env H
 | [],B,_,env,H,_,h => h
 | a :: A,B,hA,env,H,hw,h => by
  obtain ⟨x,hx,hind,hx0⟩:=hA a (by simp)
  have hxc:=(indep_spec hind).1
  simp only [List.cons_append,wpI,hx] at h
  have h2 : stepA P true x (wpI P K al g (i :: (A ++ B))) env H:=stepA_mono_wf hw (fun env H hw hk => wpI_front hi A B (fun b hb => hA b (by simp [hb])) hw hk) (stepA_any hxc h)
  have e : wpI P K al g (i :: (A ++ B)) = stepA P (!g i) y (wpI P K al g (A ++ B)):=by
   funext env H
   simp only [wpI,hi]
  rw [e] at h2
  simp only [wpI,hi,List.cons_append,hx]
  have key : stepA P (!g i) y (stepA P true x (wpI P K al g (A ++ B))) env H:=by
   cases hg : g i with
   | true => rw [hg] at h2; exact swap0 hind (hx0 hg) h2
   | false => rw [hg] at h2; exact swap hind hw h2
  exact stepA_mono (fun env H hk => stepA_any hxc hk) key
end Go.Abs
