/-
  THE ABSTRACT LAYER (11): append, copy, clear.
-/
import Derived.Test.YtjcncbejnplakaaA10
set_option linter.unusedSimpArgs false
set_option linter.unusedVariables false
namespace Go.Abs
open Go Go.RowKit

section
variable {P : Program} {B0 n : Nat} {ρ : Rho} {H H' : AH} {w : World} {env : Env} {a : Act} {v : Value}
variable {ty : TypeId} {pos : String} {dst : Option Nat} {after : Array Edge} {g : Option (Nat × Bool)} {ρv : Operand → Value}

/-- The elements of a slice, as the model reads them. -/
theorem elems_sound (hs : Sim P B0 ρ H w) {sz m c : Nat} {ad : Option Addr} {x' : Value} {news : List Value} (h1 : VR ρ (.slice ad m c) x') (he : elemsA H sz (.slice ad m c) = some news) :
    ∃ news' ad' c', x' = .slice ad' m c' ∧ VRs ρ news news' ∧ ones news ∧ news.length = m * sz ∧ (∀ w0 : World, w0.heap = w.heap → (Builtin.firstCells sz m x').run P w0 = .ok news'.toArray w0) := by
  cases ad with
  | none =>
    cases m with
    | succ m => cases h1
    | zero =>
      cases c with
      | succ c => cases h1
      | zero =>
        cases h1
        simp [elemsA] at he
        subst he
        exact ⟨[], none, 0, rfl, .nil, fun v hv => by simp at hv, by simp, fun w0 _ => by simp [Builtin.firstCells]⟩
  | some ad =>
    obtain ⟨b, off, sp⟩ := ad
    obtain ⟨ad', c', hx, hc⟩ := h1.sl_inv
    simp only [elemsA] at he
    split at he
    · rename_i hm
      cases he
      subst hm
      refine ⟨[], _, c', hx, .nil, fun v hv => by simp at hv, by simp, fun w0 _ => ?_⟩
      rw [hx]
      simp [Builtin.firstCells, loadCells, loadCellsFrom]
    · rename_i hm
      rcases hc with ⟨h0, _⟩ | ⟨_, e, hbe, had, _⟩
      · exact absurd h0 hm
      · cases hcs : H.cells b with
        | none => simp [hcs] at he
        | some cs =>
          simp only [hcs, Option.bind_some] at he
          obtain ⟨hl, rfl, hrl⟩ := cut_some he
          obtain ⟨cs', r1, r2, r3⟩ := hs.read hbe hcs
          have hr := (r1.drop off).take (m * sz)
          have hcl := r1.length
          refine ⟨(cs'.drop off).take (m * sz), _, c', hx, hr, fun u hu => r2 u (List.mem_of_mem_drop (List.mem_of_mem_take hu)), hrl, fun w0 hw0 => ?_⟩
          rw [hx, had]
          refine run_firstCells_some (P := P) w0 sz m _ m c' _ (by simp; omega) (fun j u hj => ?_)
          have hj' : j < m * sz := by have := (List.getElem?_eq_some_iff.1 hj).1; simp at this; omega
          have hq := r3 (off + j) (by omega)
          rw [add_zero_addr, Nat.add_assoc]
          have : w0.cell? ⟨e.blk, e.base + (off + j), none⟩ = w.cell? ⟨e.blk, e.base + (off + j), none⟩ := by simp [World.cell?, hw0]
          rw [this, hq]
          rw [List.getElem?_take_of_lt hj', List.getElem?_drop] at hj
          exact hj

/-- append that must grow. -/
theorem run_grow {t u el : TypeId} {ud : TypeDesc} {i : TypeInfo} {z : Value} (ht : P.underlying t = some (.slice el)) (hu : P.underlying u = some ud) (hud : ∀ k, ud ≠ .int k) (hi : P.info? el = some i) (hz : i.zero = some z)
    {ad ad' : Option Addr} {len cap m c : Nat} {olds news : List Value}
    (ho : ∀ w0 : World, w0.heap = w.heap → (Builtin.firstCells i.size len (.slice ad len cap)).run P w0 = .ok olds.toArray w0)
    (hn : ∀ w0 : World, w0.heap = w.heap → (Builtin.firstCells i.size m (.slice ad' m c)).run P w0 = .ok news.toArray w0)
    (hg : cap < len + m) (h63 : len + m ≤ 9223372036854775807) (hb : (len + m) * i.bytes ≤ 140737488355328) :
    (Builtin.append_ #[t, u] ty #[.slice ad len cap, .slice ad' m c]).run P w =
      .ok (.slice (some ⟨w.heap.size, 0, none⟩) (len + m) (grownCap w (len + m) cap el))
        (w.drew.alloc (.cells (olds.toArray ++ news.toArray ++ Builtin.zeroCells z.cells (grownCap w (len + m) cap el - (len + m))) el)) := by
  have hn1 : ¬ (len + m ≤ cap) := by omega
  have hm0 : ¬ (9223372036854775807 < ((len : Int) + (m : Int))) := by omega
  have hfit := growslice_fits (need := len + m) (old := cap) (bytes := i.bytes) hg hb
  have h48 : ¬ (281474976710656 < Builtin.nextslicecap (len + m) cap * i.bytes) := by omega
  have hnz : (ud matches .int _) = false := by cases ud <;> first | rfl | exact absurd rfl (hud _)
  have hoo := ho w.drew rfl
  have hnn := hn w.drew rfl
  simp [Builtin.append_, run_underlying ht, run_underlying hu, hnz, sizeOf, typeInfo, zeroValue, hi, hz, Builtin.lenOf, hn1, hm0, h48, Question.forced, hoo, hnn, newRow, grownCap]
  congr 2
  apply Array.ext'
  simp [List.append_assoc]

/-- append within the capacity. -/
theorem run_room {t u el : TypeId} {ud : TypeDesc} {i : TypeInfo} (ht : P.underlying t = some (.slice el)) (hu : P.underlying u = some ud) (hud : ∀ k, ud ≠ .int k) (hi : P.info? el = some i)
    {ad : Addr} {ad' : Option Addr} {len cap m c : Nat} {news : List Value} {w' : World}
    (hn : (Builtin.firstCells i.size m (.slice ad' m c)).run P w = .ok news.toArray w)
    (hg : len + m ≤ cap) (hst : (storeCells (ad.add (len * i.size)) news).run P w = .ok () w') :
    (Builtin.append_ #[t, u] ty #[.slice (some ad) len cap, .slice ad' m c]).run P w = .ok (.slice (some ad) (len + m) cap) w' := by
  have hnz : (ud matches .int _) = false := by cases ud <;> first | rfl | exact absurd rfl (hud _)
  simp [Builtin.append_, run_underlying ht, run_underlying hu, hnz, sizeOf, typeInfo, hi, Builtin.lenOf, hg, hn, hst]

/-- append of nothing to a nil slice. -/
theorem run_nil0 {t u el : TypeId} {ud : TypeDesc} {i : TypeInfo} (ht : P.underlying t = some (.slice el)) (hu : P.underlying u = some ud) (hud : ∀ k, ud ≠ .int k) (hi : P.info? el = some i)
    {ad' : Option Addr} {c : Nat} (hn : (Builtin.firstCells i.size 0 (.slice ad' 0 c)).run P w = .ok (([] : List Value)).toArray w) :
    (Builtin.append_ #[t, u] ty #[.slice none 0 0, .slice ad' 0 c]).run P w = .ok (.slice none 0 0) w := by
  have hnz : (ud matches .int _) = false := by cases ud <;> first | rfl | exact absurd rfl (hud _)
  simp [Builtin.append_, run_underlying ht, run_underlying hu, hnz, sizeOf, typeInfo, hi, Builtin.lenOf, hn]

theorem cellsOf_size {t : TypeId} {i : TypeInfo} (hi : P.info? t = some i) : P.cellsOf t = i.size := by simp [Program.cellsOf, hi]

/-- The new row behind an append that grew. -/
theorem grown_step (hs : Sim P B0 ρ H w) {el : TypeId} {i : TypeInfo} {z : Value} (hi : P.info? el = some i) (hzs : z.cells.size = i.size) {olds news olds' news' : List Value} {need cap : Nat}
    (hv : VRs ρ (olds ++ news) (olds' ++ news')) (ho : ones (olds ++ news)) (hl : (olds ++ news).length = need * i.size) (hg : need ≤ grownCap w need cap el) :
    ∃ ρ', Stp P B0 ρ w ρ' (H.alloc (.row (olds ++ news) el true)) (w.drew.alloc (.cells (olds'.toArray ++ news'.toArray ++ Builtin.zeroCells z.cells (grownCap w need cap el - need)) el)) ∧
      VR ρ' (.slice (some ⟨H.next, 0, some i.size⟩) need need) (.slice (some ⟨w.heap.size, 0, none⟩) need (grownCap w need cap el)) := by
  generalize hr : (Builtin.zeroCells z.cells (grownCap w need cap el - need)).toList = rest
  have hrl : rest.length = (grownCap w need cap el - need) * i.size := by rw [← hr]; simp [Builtin.zeroCells, hzs]
  have hst := hs.push_row (w' := w.drew.alloc (.cells (olds'.toArray ++ news'.toArray ++ Builtin.zeroCells z.cells (grownCap w need cap el - need)) el)) el (olds ++ news) (olds' ++ news') rest hv ho
    (by
      simp only [World.alloc, World.drew]
      congr 2
      apply Array.ext'
      simp [hr]) rfl rfl rfl
  refine ⟨_, hst, ?_⟩
  have hlen := hv.length
  have hfin : ((olds' ++ news') ++ rest).length = grownCap w need cap el * i.size := by
    rw [List.length_append, hlen, hl, hrl, ← Nat.add_mul]; congr 1; omega
  have := VR.opn (ρ := ρ.add H.next ⟨w.heap.size, 0, ((olds' ++ news') ++ rest).length, P.cellsOf el⟩) H.next 0 ⟨w.heap.size, 0, ((olds' ++ news') ++ rest).length, P.cellsOf el⟩ need need (grownCap w need cap el) (by simp [Rho.add]) (Nat.le_refl _) hg
    (by simp only [Nat.zero_add]; rw [cellsOf_size hi, hfin])
  simpa [cellsOf_size hi] using this

theorem Fine.of {r : Result Next} {v v' : Value} {w' : World} {ρ' : Rho} (hr : r = .ok (.value v') w') (h : Stp P B0 ρ w ρ' H' w') (hv : VR ρ' v v') : Fine P B0 ρ w r v H' := ⟨v', w', ρ', .inl hr, h, hv⟩

theorem kill_alloc_blk (H : AH) (b : Nat) (B : Blk) (x : Nat) : ((H.kill b).alloc B).blk x = if x = H.next then some B else if x = b then none else H.blk x := rfl

/-- The block that is known of a slice that may grow in place is taken over by a new one, of more cells. -/
theorem Sim.over_grow (hs : Sim P B0 ρ H w) {b off sz : Nat} {e : Emb} {cs : List Value} {el : TypeId} (he : ρ b = some e) (hb : H.blk b = some (.row cs el true)) {olds news news' : List Value}
    (hcute : olds = (cs.drop off).take olds.length) (hv : VRs ρ news news') (ho : ones news) (hfit : off + olds.length + news.length ≤ e.fin) :
    ∃ w', (storeCells ⟨e.blk, e.base + off + olds.length, none⟩ news').run P w = .ok () w' ∧
      Stp P B0 ρ w (ρ.add H.next ⟨e.blk, e.base + off, e.fin - off, e.sz⟩) ((H.kill b).alloc (.row (olds ++ news) el true)) w' := by
  obtain ⟨e2, he2, c, t, fr, cells', h1, h2, h3, h4, h5⟩ := hs.live _ _ hb
  rw [he] at he2
  cases he2
  obtain ⟨k1, rfl, rfl, k2, k3, k4⟩ := h5 rfl
  have hcut : olds.length ≤ cs.length - off := by
    have := congrArg List.length hcute
    rw [List.length_take, List.length_drop] at this
    omega
  have hlen := hv.length
  have hcl := h2.length
  have hfitc : e.base + off + olds.length + 0 + news'.length ≤ c.size := by omega
  have ho' : ∀ v ∈ news', v.oneCell' = true := fun v hv' => by rw [oneCell'_eq]; exact hv.ones ho v hv'
  have hrun := run_storeCells_at P e.blk (e.base + off + olds.length) t news' 0 c w h1 hfitc ho'
  refine ⟨_, hrun, ?_⟩
  generalize hc2 : (List.take (e.base + off + olds.length + 0) c.toList ++ news' ++ List.drop (e.base + off + olds.length + 0 + news'.length) c.toList).toArray = c2
  have hc2l : c2.toList = over c.toList (e.base + off + olds.length) news' := by subst hc2; simp [over]
  have hc2s : c2.size = c.size := by
    have := congrArg List.length hc2l
    rw [over_length (by simpa using hfitc)] at this
    simpa using this
  have hself := setRow_heap w e.blk c c2 t (0, 0) h1
  have hoth := fun k (hk : k ≠ e.blk) => setRow_other w e.blk k c2 hk
  have hsz : (w.setRow e.blk c2).heap.size = w.heap.size := by simp [World.setRow]
  have hn := hs.new_none
  have hle : ρ.le (ρ.add H.next ⟨e.blk, e.base + off, e.fin - off, e.sz⟩) := Rho.le_add hn
  have hbn : b ≠ H.next := fun hbn => by rw [hbn, hn] at he; cases he
  -- the old cells that the new block begins with
  have holds : VRs ρ olds ((cells'.drop off).take olds.length) := by
    have := (h2.drop off).take olds.length
    rw [← hcute] at this
    exact this
  refine ⟨⟨?_, ?_, ?_, ?_, by rw [hsz]; exact hs.base⟩, hle, ⟨⟨rfl, rfl, rfl, by rw [hsz]; exact Nat.le_refl _, fun k hk => hoth k (by omega)⟩, ?_, fun k r hr => ⟨r, by rw [hoth k (fun hke => by rw [hke, h1] at hr; cases hr)]; exact hr⟩⟩⟩
  · intro x f hf
    rw [hsz]
    simp only [Rho.add] at hf
    split at hf
    · rename_i hx; cases hf; subst hx; exact ⟨Nat.lt_succ_self _, (hs.fresh b e he).2⟩
    · have := hs.fresh x f hf
      exact ⟨Nat.lt_succ_of_lt this.1, this.2⟩
  · intro x B hB
    rw [kill_alloc_blk] at hB
    split at hB
    · rename_i hx
      cases hB
      subst hx
      refine ⟨⟨e.blk, e.base + off, e.fin - off, e.sz⟩, by simp [Rho.add], c2, t, (0, 0), (cells'.drop off).take olds.length ++ news', hself, (holds.append hv).mono hle, ?_, ?_, fun _ => ⟨k1, rfl, rfl, ?_, ?_, k4⟩⟩
      · intro v hv'
        rcases List.mem_append.1 hv' with hv' | hv'
        · rw [hcute] at hv'; exact h3 v (List.mem_of_mem_drop (List.mem_of_mem_take hv'))
        · exact ho v hv'
      · intro i hi
        simp only [List.length_append] at hi
        show c2[e.base + off + i]? = _
        have hol' : ((cells'.drop off).take olds.length).length = olds.length := by simp; omega
        rw [← Array.getElem?_toList, hc2l, over_get (by simpa using hfitc)]
        by_cases hi1 : i < olds.length
        · rw [if_pos (by omega), List.getElem?_append_left (by omega), List.getElem?_take_of_lt hi1, List.getElem?_drop]
          have := h4 (off + i) (by omega)
          rw [← Array.getElem?_toList] at this
          rw [← this]
          congr 1; omega
        · rw [if_neg (by omega), if_pos (by omega), List.getElem?_append_right (by omega), hol']
          congr 1; omega
      · simp only [List.length_append]; omega
      · show e.base + off + (e.fin - off) = c2.size
        rw [hc2s]; omega
    · rename_i hx
      split at hB
      · cases hB
      · rename_i hxb
        obtain ⟨f, hf, hr⟩ := hs.live x B hB
        refine ⟨f, hle _ _ hf, hr.keep hle (hoth _ fun hfe => ?_)⟩
        rcases hs.inj x b B _ f e hB hb hf he hfe with h' | h'
        · exact hxb h'
        · simp [Blk.mine] at h'
  · intro x x' B B' f f' hB hB' hf hf' hff
    rw [kill_alloc_blk] at hB hB'
    by_cases hx : x = H.next
    · by_cases hx' : x' = H.next
      · left; omega
      · rw [if_neg hx'] at hB'
        split at hB'
        · cases hB'
        · rename_i hxb'
          have h1' : f.blk = e.blk := by
            have : (ρ.add H.next ⟨e.blk, e.base + off, e.fin - off, e.sz⟩) x = some f := hf
            simp [Rho.add, hx] at this
            rw [← this]
          have h2' : ρ x' = some f' := by simpa [Rho.add, hx'] using hf'
          rcases hs.inj x' b B' _ f' e hB' hb h2' he (by rw [← hff, h1']) with h' | h'
          · exact absurd h' hxb'
          · simp [Blk.mine] at h'
    · rw [if_neg hx] at hB
      split at hB
      · cases hB
      · rename_i hxb
        by_cases hx' : x' = H.next
        · have h1' : f'.blk = e.blk := by
            have : (ρ.add H.next ⟨e.blk, e.base + off, e.fin - off, e.sz⟩) x' = some f' := hf'
            simp [Rho.add, hx'] at this
            rw [← this]
          have h2' : ρ x = some f := by simpa [Rho.add, hx] using hf
          rcases hs.inj x b B _ f e hB hb h2' he (by rw [hff, h1']) with h' | h'
          · exact absurd h' hxb
          · simp [Blk.mine] at h'
        · rw [if_neg hx'] at hB'
          split at hB'
          · cases hB'
          · exact hs.inj x x' B B' f f' hB hB' (by simpa [Rho.add, hx] using hf) (by simpa [Rho.add, hx'] using hf') hff
  · intro g hg
    obtain ⟨f, hf, q1, q2⟩ := hs.glob g hg
    exact ⟨f, hle _ _ hf, q1, q2⟩
  · intro k ds hk hd
    by_cases hke : k = e.blk
    · subst hke; rw [h1] at hd; cases hd
    · rw [hoth k hke]; exact hd


theorem sound_app {t u el : TypeId} {ud : TypeDesc} {i : TypeInfo} {x y : Operand} {s : Value} {ad : Option Addr} {m c : Nat} {news : List Value} {z : List Value} (hs : Sim P B0 ρ H w)
    (ht : P.underlying t = some (.slice el)) (hu : P.underlying u = some ud) (hud : ∀ k, ud ≠ .int k) (hi : P.info? el = some i) (hz : zeroOf P el = some z) (hsz : 0 < i.size)
    (h1 : VR ρ s (ρv x)) (h2 : VR ρ (.slice ad m c) (ρv y)) (hn : elemsA H i.size (.slice ad m c) = some news) (ha : appendA H el i.size i.bytes s m news = some (v, H')) :
    Fine P B0 ρ w ((execOp ρv { dst, op := .call { callee := .builtin .append, args := #[x, y], argTypes := #[t, u] }, type := ty, pos, after, guard := g }).run P w) v H' := by
  obtain ⟨news', ad', c', hy, hv, ho, hl, hrd⟩ := elems_sound hs h2 hn
  obtain ⟨j, zv, j1, j2, j3, j4, j5⟩ := zeroOf_spec hz
  rw [hi] at j1
  cases j1
  have hzs : zv.cells.size = i.size := by have := congrArg List.length j3; simp at this; omega
  have hexec : ∀ vx vy r, ρv x = vx → ρv y = vy → (Builtin.append_ #[t, u] ty #[vx, vy]).run P w = r → (execOp ρv { dst, op := .call { callee := .builtin .append, args := #[x, y], argTypes := #[t, u] }, type := ty, pos, after, guard := g }).run P w = r.andThen fun v w => .ok (.value v) w := by
    rintro vx vy r rfl rfl rfl
    simp [execOp, resolve, invoke, builtin]
  rw [hy] at hrd
  have hnl := hv.length
  cases s with
  | slice sa len cap =>
    cases sa with
    | none =>
      cases len with
      | succ len => cases h1
      | zero =>
      cases cap with
      | succ cap => cases h1
      | zero =>
      have hx : ρv x = .slice none 0 0 := by generalize ρv x = vx at *; cases h1; rfl
      simp only [appendA] at ha
      split at ha
      · rename_i hm
        cases ha
        subst hm
        have hne : news' = [] := by rw [← List.length_eq_zero_iff, hnl, hl]; simp
        refine .pure hs (v' := .slice none 0 0) ?_ .nilSlice
        rw [hexec _ _ _ hx hy (run_nil0 (ty := ty) ht hu hud hi (by have := hrd w rfl; rw [hne] at this; exact this))]
        rfl
      · rename_i hm
        split at ha
        · rename_i hb
          cases ha
          obtain ⟨ρ', hst, hvr⟩ := grown_step (olds := []) (olds' := []) (news := news) (news' := news') (need := 0 + m) (cap := 0) hs hi hzs (by simpa using hv) (by simpa using ho) (by simpa using hl) (grownCap_ge w (0 + m) 0 el)
          have hrun := run_grow (ty := ty) (w := w) (olds := []) (news := news') (ad := none) (len := 0) (cap := 0) (ad' := ad') (m := m) (c := c') ht hu hud hi j2 (fun w0 _ => by simp [Builtin.firstCells]) hrd (by omega) (by omega) (by simpa using hb.1)
          refine .of (w' := _) (ρ' := ρ') ?_ hst (by simpa using hvr)
          rw [hexec _ _ _ hx hy hrun]
          simp
        · cases ha
    | some sad =>
      obtain ⟨b, off, sp⟩ := sad
      obtain ⟨ad1, cap', hx, hc⟩ := h1.sl_inv
      have hcap : cap ≤ cap' ∧ len ≤ cap := by
        rcases hc with ⟨_, _, _⟩ | ⟨_, e, _, _, ⟨_, _⟩ | ⟨_, _, _⟩⟩ <;> omega
      simp only [appendA] at ha
      split at ha
      · rename_i hm
        cases ha
        subst hm
        have hne : news' = [] := by rw [← List.length_eq_zero_iff, hnl, hl]; simp
        refine .pure hs (v' := ρv x) ?_ h1
        rw [hexec _ _ _ hx hy (run_room (ty := ty) (w' := w) ht hu hud hi (hrd w rfl) (by omega) (by rw [hne]; rfl))]
        simp [hx]
      · rename_i hm
        split at ha
        · rename_i hroom
          cases hw : writeA H b (off + len * i.size) news with
          | none => simp [hw] at ha
          | some H2 =>
            simp [hw] at ha
            obtain ⟨rfl, rfl⟩ := ha
            rcases hc with ⟨_, _, _⟩ | ⟨_, e, hbe, had, hcc⟩
            · omega
            · obtain ⟨w', hrun, hst⟩ := hs.write hbe hw hv ho
              refine .of (w' := w') (ρ' := ρ) (v' := .slice (some ad1) (len + m) cap') ?_ hst ?_
              · rw [hexec _ _ _ hx hy (run_room (ty := ty) (w' := w') ht hu hud hi (hrd w rfl) (by omega) (by rw [had, add_zero_addr, Nat.add_assoc]; exact hrun))]
                simp
              · subst had
                rcases hcc with ⟨rfl, rfl⟩ | ⟨rfl, hc1, hc2⟩
                · exact .slice _ _ _ _ _ hbe hroom
                · exact .opn _ _ _ _ _ _ hbe hroom hc1 hc2
        · rename_i hroom
          split at ha
          · rename_i hb
            split at ha
            · rename_i olds hol
              obtain ⟨olds', ad2, c2, hx2, hov, hoo, hoL, hord⟩ := elems_sound hs h1 hol
              have hgrow : ∀ {H2 : AH}, Sim P B0 ρ H2 w → H2.next = H.next → cap' < len + m → (v, H') = (.slice (some ⟨H.next, 0, some i.size⟩) (len + m) (len + m), H2.alloc (.row (olds ++ news) el true)) →
                  Fine P B0 ρ w ((execOp ρv { dst, op := .call { callee := .builtin .append, args := #[x, y], argTypes := #[t, u] }, type := ty, pos, after, guard := g }).run P w) v H' := by
                intro H2 hs2 hnx hlt heq
                cases heq
                obtain ⟨ρ', hst, hvr⟩ := grown_step (olds := olds) (olds' := olds') (news := news) (news' := news') (need := len + m) (cap := cap') hs2 hi hzs (hov.append hv) (by
                  intro q hq
                  rcases List.mem_append.1 hq with hq | hq
                  · exact hoo q hq
                  · exact ho q hq) (by rw [List.length_append, hoL, hl, ← Nat.add_mul]) (grownCap_ge w (len + m) cap' el)
                rw [hx] at hord
                have hrun := run_grow (ty := ty) (w := w) (olds := olds') (news := news') (ad := some ad1) (len := len) (cap := cap') (ad' := ad') (m := m) (c := c') ht hu hud hi j2 hord hrd hlt (by omega) (by simpa using hb.1)
                rw [hnx] at hvr
                refine .of (w' := _) (ρ' := ρ') ?_ hst hvr
                rw [hexec _ _ _ hx hy hrun]
                simp
              cases sp with
              | none =>
                simp only [Option.some.injEq] at ha
                rcases hc with ⟨q1, q2, q3⟩ | ⟨_, e, hbe, had, hcc⟩
                · exact hgrow hs rfl (by omega) ha.symm
                · rcases hcc with ⟨_, rfl⟩ | ⟨q, _⟩
                  · exact hgrow hs rfl (by omega) ha.symm
                  · cases q
              | some tg =>
                simp only at ha
                split at ha
                · rename_i cs e1 hbb
                  split at ha
                  · rename_i hte
                    obtain ⟨rfl, rfl⟩ := hte
                    simp only [Option.some.injEq] at ha
                    rcases hc with ⟨q1, q2, q3⟩ | ⟨_, e, hbe, had, hcc⟩
                    · exact hgrow (hs.kill b) rfl (by omega) ha.symm
                    · rcases hcc with ⟨q, _⟩ | ⟨hsp, hc1, hc2⟩
                      · cases q
                      · by_cases hin : len + m ≤ cap'
                        · have hes : i.size = e.sz := by simpa using hsp
                          have hcute : olds = (cs.drop off).take olds.length := by
                            simp only [elemsA] at hol
                            split at hol
                            · cases hol; simp
                            · simp only [AH.cells, hbb, Option.bind_some] at hol
                              obtain ⟨_, q2, q3⟩ := cut_some hol
                              rw [q3]; exact q2
                          have hfit : off + olds.length + news.length ≤ e.fin := by
                            rw [hoL, hl, ← hc2, hes, Nat.add_assoc, ← Nat.add_mul]
                            exact Nat.add_le_add_left (Nat.mul_le_mul_right _ hin) _
                          obtain ⟨w', hrun, hst⟩ := hs.over_grow (sz := i.size) hbe hbb hcute hv ho hfit
                          cases ha
                          refine .of (w' := w') (v' := .slice (some ad1) (len + m) cap') ?_ hst ?_
                          · rw [hexec _ _ _ hx hy (run_room (ty := ty) (w' := w') ht hu hud hi (hrd w rfl) hin (by rw [had, add_zero_addr, ← hoL]; exact hrun))]
                            simp
                          · subst had
                            have := VR.opn (ρ := ρ.add H.next ⟨e.blk, e.base + off, e.fin - off, e.sz⟩) H.next 0 ⟨e.blk, e.base + off, e.fin - off, e.sz⟩ (len + m) (len + m) cap' (by simp [Rho.add]) (Nat.le_refl _) hin (by simp only [Nat.zero_add]; omega)
                            rw [hes]
                            exact this
                        · exact hgrow (hs.kill b) rfl (by omega) ha.symm
                  · cases ha
                · cases ha
            · cases ha
          · cases ha
  | _ => simp [appendA] at ha

theorem sound_copy {t u el : TypeId} {i : TypeInfo} {x y : Operand} {b off len cap m c : Nat} {sp : Option Nat} {ad : Option Addr} {news : List Value} (hs : Sim P B0 ρ H w)
    (ht : P.underlying t = some (.slice el)) (hi : P.info? el = some i)
    (h1 : VR ρ (.slice (some ⟨b, off, sp⟩) len cap) (ρv x)) (h2 : VR ρ (.slice ad m c) (ρv y))
    (hr : (min m len = 0 ∧ H' = H) ∨ (min m len ≠ 0 ∧ elemsA H i.size (.slice ad (min m len) c) = some news ∧ writeA H b off news = some H')) :
    Fine P B0 ρ w ((execOp ρv { dst, op := .call { callee := .builtin .copy, args := #[x, y], argTypes := #[t, u] }, type := ty, pos, after, guard := g }).run P w) (.int .i64 (min m len : Nat)) H' := by
  obtain ⟨ad1, cap', hx, hc⟩ := h1.sl_inv
  obtain ⟨ad', c', hy, hnil⟩ := h2.slice_len
  have hexec : ∀ r, (Builtin.copy_ #[t, u] ty #[ρv x, ρv y]).run P w = r → (execOp ρv { dst, op := .call { callee := .builtin .copy, args := #[x, y], argTypes := #[t, u] }, type := ty, pos, after, guard := g }).run P w = r.andThen fun v w => .ok (.value v) w := by
    rintro r rfl
    simp [execOp, resolve, invoke, builtin]
  have hmin : Nat.min m len = min m len := rfl
  rcases hr with ⟨h0, rfl⟩ | ⟨h0, hn, hw⟩
  · refine .pure hs (v' := .int .i64 (min m len : Nat)) ?_ (.int _ _)
    have hrun : (Builtin.copy_ #[t, u] ty #[ρv x, ρv y]).run P w = .ok (goInt (min m len : Nat)) w := by
      have hf : (Builtin.firstCells i.size 0 (.slice ad' m c')).run P w = .ok #[] w := by
        cases ad' <;> simp [Builtin.firstCells, loadCells, loadCellsFrom]
      simp [Builtin.copy_, run_underlying ht, hx, hy, Builtin.lenOf, sizeOf, typeInfo, hi, hmin, h0, hf, storeCells]
    rw [hexec _ hrun]
    rfl
  · have h2' : ∃ y', y' = .slice ad' (min m len) c' ∧ VR ρ (.slice ad (min m len) c) y' := by
      refine ⟨_, rfl, ?_⟩
      generalize ρv y = vy at *
      subst hy
      cases h2 with
      | nilSlice => simp at h0
      | slice b1 o1 e1 _ _ hb1 hl1 => exact .slice _ _ _ _ _ hb1 (by omega)
      | opn b1 o1 e1 _ _ _ hb1 hl1 hc1 hf1 => exact .opn _ _ _ _ _ _ hb1 (by omega) hc1 hf1
      | zslice => simp at h0
    obtain ⟨y', hy', hv'⟩ := h2'
    obtain ⟨news', ad2, c2, hy2, hv, ho, hl, hrd⟩ := elems_sound hs hv' hn
    rw [hy'] at hrd
    rcases hc with ⟨q1, _, _⟩ | ⟨_, e, hbe, had, _⟩
    · omega
    · obtain ⟨w', hrun, hst⟩ := hs.write hbe hw hv ho
      refine .of (w' := w') (ρ' := ρ) (v' := .int .i64 (min m len : Nat)) ?_ hst (.int _ _)
      have hfc : (Builtin.firstCells i.size (min m len) (.slice ad' m c')).run P w = .ok news'.toArray w := by
        have := hrd w rfl
        cases ad' <;> simpa [Builtin.firstCells] using this
      have hrun2 : (Builtin.copy_ #[t, u] ty #[ρv x, ρv y]).run P w = .ok (goInt (min m len : Nat)) w' := by
        simp [Builtin.copy_, run_underlying ht, hx, hy, Builtin.lenOf, sizeOf, typeInfo, hi, hmin, hfc, had, hrun]
      rw [hexec _ hrun2]
      rfl

theorem sound_copyN {t u el : TypeId} {i : TypeInfo} {x y : Operand} {m c : Nat} {ad : Option Addr} (hs : Sim P B0 ρ H w)
    (ht : P.underlying t = some (.slice el)) (hi : P.info? el = some i) (h1 : VR ρ (.slice none 0 0) (ρv x)) (h2 : VR ρ (.slice ad m c) (ρv y)) :
    Fine P B0 ρ w ((execOp ρv { dst, op := .call { callee := .builtin .copy, args := #[x, y], argTypes := #[t, u] }, type := ty, pos, after, guard := g }).run P w) (.int .i64 0) H := by
  obtain ⟨ad', c', hy, hnil⟩ := h2.slice_len
  have hx : ρv x = .slice none 0 0 := by generalize ρv x = vx at *; cases h1; rfl
  refine .pure hs (v' := .int .i64 0) ?_ (.int _ _)
  have hf : (Builtin.firstCells i.size 0 (.slice ad' m c')).run P w = .ok #[] w := by
    cases ad' <;> simp [Builtin.firstCells, loadCells, loadCellsFrom]
  have h00 : Nat.min m 0 = 0 := Nat.min_zero m
  simp [execOp, resolve, invoke, builtin, Builtin.copy_, run_underlying ht, hx, hy, Builtin.lenOf, sizeOf, typeInfo, hi, h00, hf, goInt]

theorem sound_clear {t el : TypeId} {x : Operand} {b off len cap : Nat} {sp : Option Nat} {z : List Value} (hs : Sim P B0 ρ H w)
    (ht : P.underlying t = some (.slice el)) (hz : zeroOf P el = some z) (hz0 : 0 < z.length)
    (h1 : VR ρ (.slice (some ⟨b, off, sp⟩) len cap) (ρv x)) (hr : (len = 0 ∧ H' = H) ∨ (len ≠ 0 ∧ writeA H b off (zeros z len) = some H')) :
    Fine P B0 ρ w ((execOp ρv { dst, op := .call { callee := .builtin .clear, args := #[x], argTypes := #[t] }, type := ty, pos, after, guard := g }).run P w) undef H' := by
  obtain ⟨j, zv, j1, j2, j3, j4, j5⟩ := zeroOf_spec hz
  obtain ⟨ad1, cap', hx, hc⟩ := h1.sl_inv
  have hu : VR ρ undef undef := .tuple _ _ rfl (fun i h => by simp at h)
  rcases hr with ⟨rfl, rfl⟩ | ⟨h0, hw⟩
  · refine .pure hs (v' := undef) ?_ hu
    simp [execOp, resolve, invoke, builtin, Builtin.clear_, run_underlying ht, hx, undef]
  · have hzs : 0 < zv.cells.size := by have := congrArg List.length j3; simp at this; omega
    have hzr := zeros_range zv.cells len hzs
    rw [j3] at hzr
    rcases hc with ⟨q1, _, _⟩ | ⟨_, e, hbe, had, _⟩
    · omega
    · obtain ⟨w', hrun, hst⟩ := hs.write hbe hw ((VRs.of_plain j4).zeros len) (ones_zeros (ones_of_plain j4) len)
      refine .of (w' := w') (ρ' := ρ) (v' := undef) ?_ hst hu
      have hz2 : (Builtin.zeroCells zv.cells len).toList = zeros z len := hzr
      have hne : ∀ k, len = k → ¬ k = 0 := fun k hk => by omega
      obtain ⟨k, rfl⟩ : ∃ k, len = k + 1 := ⟨len - 1, by omega⟩
      simp [execOp, resolve, invoke, builtin, Builtin.clear_, run_underlying ht, hx, had, zeroValue, typeInfo, j1, j2, hz2, hrun, undef]

end
end Go.Abs
