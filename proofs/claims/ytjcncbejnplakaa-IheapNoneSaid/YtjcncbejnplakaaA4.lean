/-
  THE ABSTRACT LAYER (4): when an abstract heap stands for a world; new blocks, stores, blocks that are forgotten.
-/
import Derived.Test.YtjcncbejnplakaaA3
import Derived.Laws.CopyRow
import Derived.Laws.IdiomCopy
namespace Go.Abs
open Go Go.RowKit

/-- What a row of the abstract heap says of the model's. -/
def Row (P : Program) (ρ : Rho) (w : World) (B0 : Nat) (e : Emb) (cells : List Value) (elem : TypeId) (wr : Bool) : Prop :=
  ∃ c t fr cells', w.heap[e.blk]? = some (.cells c t fr) ∧ VRs ρ cells cells' ∧ ones cells ∧ (∀ i, i < cells.length → c[e.base + i]? = cells'[i]?) ∧
    (wr = true → B0 ≤ e.blk ∧ fr = (0, 0) ∧ t = elem ∧ cells.length ≤ e.fin ∧ e.base + e.fin = c.size ∧ e.sz = P.cellsOf elem)

def Loops (P : Program) (ρ : Rho) (w : World) (B0 : Nat) (e : Emb) (L : LoopA) : Prop :=
  ∃ r : Loop, w.heap[e.blk]? = some (.loop r) ∧ B0 ≤ e.blk ∧ r.state = L.state ∧ r.pending = L.pending.bind exitOf ∧ r.params.toList = L.params ∧ EnvR L.n ρ L.env r.tmps ∧
    compC P L.n r.assign = some L.assign ∧ compC P L.n r.body = some L.body ∧ ∀ p ∈ L.params, p < L.n

def Holds (P : Program) (ρ : Rho) (w : World) (B0 : Nat) (e : Emb) : Blk → Prop
  | .row cells elem wr => Row P ρ w B0 e cells elem wr
  | .loop L => Loops P ρ w B0 e L

def Blk.mine : Blk → Bool
  | .row _ _ wr => wr
  | .loop _ => true

structure Sim (P : Program) (B0 : Nat) (ρ : Rho) (H : AH) (w : World) : Prop where
  fresh : ∀ b e, ρ b = some e → b < H.next ∧ e.blk < w.heap.size
  live : ∀ b B, H.blk b = some B → ∃ e, ρ b = some e ∧ Holds P ρ w B0 e B
  inj : ∀ b b' B B' e e', H.blk b = some B → H.blk b' = some B' → ρ b = some e → ρ b' = some e' → e.blk = e'.blk → b = b' ∨ (B.mine = false ∧ B'.mine = false)
  glob : ∀ g, g < P.globals.size → ∃ e, ρ g = some e ∧ e.blk = g ∧ e.base = 0
  base : B0 ≤ w.heap.size

/-- What a step may do to the world. -/
structure Ext (B0 : Nat) (w w' : World) : Prop where
  below : Below B0 w w'
  defd : ∀ k ds, k < w.heap.size → w.heap[k]? = some (.deferred ds) → w'.heap[k]? = some (.deferred ds)
  loopd : ∀ (k : Nat) (r : Loop), w.heap[k]? = some (Obj.loop r) → ∃ r' : Loop, w'.heap[k]? = some (Obj.loop r')

theorem Ext.refl (B0 : Nat) (w : World) : Ext B0 w w := ⟨Below.refl _ _, fun _ _ _ h => h, fun _ r h => ⟨r, h⟩⟩
theorem Ext.trans {B0 : Nat} {a b c : World} (h : Ext B0 a b) (k : Ext B0 b c) : Ext B0 a c :=
  ⟨h.below.trans k.below, fun i ds hi hd => k.defd i ds (Nat.lt_of_lt_of_le hi h.below.size) (h.defd i ds hi hd),
    fun i r hr => let ⟨r', h1⟩ := h.loopd i r hr; k.loopd i r' h1⟩

/-- One step of both. -/
structure Stp (P : Program) (B0 : Nat) (ρ : Rho) (w : World) (ρ' : Rho) (H' : AH) (w' : World) : Prop where
  sim : Sim P B0 ρ' H' w'
  le : ρ.le ρ'
  ext : Ext B0 w w'

theorem Stp.refl {P : Program} {B0 : Nat} {ρ : Rho} {H : AH} {w : World} (h : Sim P B0 ρ H w) : Stp P B0 ρ w ρ H w := ⟨h, Rho.le_refl _, Ext.refl _ _⟩
theorem Stp.trans {P : Program} {B0 : Nat} {ρ ρ' ρ'' : Rho} {H' H'' : AH} {w w' w'' : World} (h : Stp P B0 ρ w ρ' H' w') (k : Stp P B0 ρ' w' ρ'' H'' w'') : Stp P B0 ρ w ρ'' H'' w'' :=
  ⟨k.sim, Rho.le_trans h.le k.le, h.ext.trans k.ext⟩

theorem Holds.keep {P : Program} {ρ ρ' : Rho} {w w' : World} {B0 : Nat} {e : Emb} {B : Blk} (hle : ρ.le ρ') (hh : w'.heap[e.blk]? = w.heap[e.blk]?) (h : Holds P ρ w B0 e B) : Holds P ρ' w' B0 e B := by
  cases B with
  | row cells elem wr =>
    obtain ⟨c, t, fr, cells', h1, h2, h3, h4, h5⟩ := h
    exact ⟨c, t, fr, cells', by rw [hh]; exact h1, h2.mono hle, h3, h4, h5⟩
  | loop L =>
    obtain ⟨r, h1, h2, h3, h4, h5, h6, h7⟩ := h
    exact ⟨r, by rw [hh]; exact h1, h2, h3, h4, h5, h6.mono hle, h7⟩

/-- The heap is as it was (a draw). -/
theorem Sim.same {P : Program} {B0 : Nat} {ρ : Rho} {H : AH} {w w' : World} (h : Sim P B0 ρ H w) (hh : w'.heap = w.heap) : Sim P B0 ρ H w' where
  fresh := fun b e he => by rw [hh]; exact h.fresh b e he
  live := fun b B hB => let ⟨e, he, hr⟩ := h.live b B hB; ⟨e, he, hr.keep (Rho.le_refl _) (by rw [hh])⟩
  inj := h.inj
  glob := h.glob
  base := by rw [hh]; exact h.base

def Rho.add (ρ : Rho) (b : Nat) (e : Emb) : Rho := fun i => if i = b then some e else ρ i

theorem Rho.le_add {ρ : Rho} {b : Nat} {e : Emb} (h : ρ b = none) : ρ.le (ρ.add b e) := by
  intro x f hx
  unfold Rho.add
  split
  · rename_i hb; subst hb; rw [h] at hx; cases hx
  · exact hx

theorem Sim.new_none {P : Program} {B0 : Nat} {ρ : Rho} {H : AH} {w : World} (h : Sim P B0 ρ H w) : ρ H.next = none := by
  cases hc : ρ H.next with
  | none => rfl
  | some e => exact absurd (h.fresh _ _ hc).1 (Nat.lt_irrefl _)

theorem Sim.blk_next {P : Program} {B0 : Nat} {ρ : Rho} {H : AH} {w : World} (h : Sim P B0 ρ H w) : H.blk H.next = none := by
  cases hc : H.blk H.next with
  | none => rfl
  | some B =>
    obtain ⟨e, he, _⟩ := h.live _ _ hc
    exact absurd (h.fresh _ _ he).1 (Nat.lt_irrefl _)

/-- A new block of the model's, for a new block of the abstract heap. -/
theorem Sim.push {P : Program} {B0 : Nat} {ρ : Rho} {H : AH} {w w' : World} (h : Sim P B0 ρ H w) (o : Obj) (B : Blk) (e : Emb) (he : e.blk = w.heap.size)
    (hh : w'.heap = w.heap.push o) (hos : w'.os = w.os) (ht : w'.tape = w.tape) (hout : w'.output = w.output)
    (hB : Holds P (ρ.add H.next e) w' B0 e B) : Stp P B0 ρ w (ρ.add H.next e) (H.alloc B) w' := by
  have hn := h.new_none
  have hle : ρ.le (ρ.add H.next e) := Rho.le_add hn
  have hold : ∀ k, k < w.heap.size → w'.heap[k]? = w.heap[k]? := fun k hk => by rw [hh, Array.getElem?_push, if_neg (by omega)]
  refine ⟨⟨?_, ?_, ?_, ?_, ?_⟩, hle, ⟨⟨hos, ht, hout, by rw [hh]; simp, fun k hk => hold k (Nat.lt_of_lt_of_le hk h.base)⟩, fun k ds hk hd => by rw [hold k hk]; exact hd,
    fun k r hr => ⟨r, by rw [hold k (Array.getElem?_eq_some_iff.1 hr).1]; exact hr⟩⟩⟩
  · intro b f hf
    simp only [Rho.add] at hf
    split at hf
    · rename_i hb; cases hf; subst hb; exact ⟨Nat.lt_succ_self _, by rw [hh, he]; simp⟩
    · have := h.fresh b f hf
      exact ⟨Nat.lt_succ_of_lt this.1, by rw [hh]; simp; omega⟩
  · intro b C hC
    simp only [AH.alloc] at hC
    split at hC
    · rename_i hb; cases hC; subst hb; exact ⟨e, by simp [Rho.add], hB⟩
    · obtain ⟨f, hf, hr⟩ := h.live b C hC
      exact ⟨f, hle _ _ hf, hr.keep hle (hold _ (h.fresh _ _ hf).2)⟩
  · intro b b' C C' f f' hC hC' hf hf' hff
    simp only [AH.alloc] at hC hC'
    by_cases hb : b = H.next
    · by_cases hb' : b' = H.next
      · left; omega
      · have h1 : f = e := by simpa [Rho.add, hb] using hf.symm
        have h2 : ρ b' = some f' := by simpa [Rho.add, hb'] using hf'
        have := (h.fresh _ _ h2).2
        subst h1; omega
    · by_cases hb' : b' = H.next
      · have h1 : f' = e := by simpa [Rho.add, hb'] using hf'.symm
        have h2 : ρ b = some f := by simpa [Rho.add, hb] using hf
        have := (h.fresh _ _ h2).2
        subst h1; omega
      · rw [if_neg hb] at hC
        rw [if_neg hb'] at hC'
        exact h.inj b b' C C' f f' hC hC' (by simpa [Rho.add, hb] using hf) (by simpa [Rho.add, hb'] using hf') hff
  · intro g hg
    obtain ⟨f, hf, h1, h2⟩ := h.glob g hg
    exact ⟨f, hle _ _ hf, h1, h2⟩
  · rw [hh]; simp; have := h.base; omega

/-- A new row that the program makes. -/
theorem Sim.push_row {P : Program} {B0 : Nat} {ρ : Rho} {H : AH} {w w' : World} (h : Sim P B0 ρ H w) (elem : TypeId) (cells cells' rest : List Value)
    (hv : VRs ρ cells cells') (ho : ones cells) (hh : w'.heap = w.heap.push (.cells (cells' ++ rest).toArray elem (0, 0))) (hos : w'.os = w.os) (ht : w'.tape = w.tape) (hout : w'.output = w.output) :
    Stp P B0 ρ w (ρ.add H.next ⟨w.heap.size, 0, (cells' ++ rest).length, P.cellsOf elem⟩) (H.alloc (.row cells elem true)) w' := by
  refine h.push _ _ _ rfl hh hos ht hout ⟨(cells' ++ rest).toArray, elem, (0, 0), cells', by rw [hh]; simp, hv.mono (Rho.le_add h.new_none), ho, ?_, fun _ => ⟨h.base, rfl, rfl, ?_, by simp, rfl⟩⟩
  · intro i hi
    simp only [Nat.zero_add, List.getElem?_toArray]
    rw [List.getElem?_append_left (by rw [hv.length]; exact hi)]
  · simp [hv.length]

theorem Sim.kill {P : Program} {B0 : Nat} {ρ : Rho} {H : AH} {w : World} (h : Sim P B0 ρ H w) (b : Nat) : Sim P B0 ρ (H.kill b) w where
  fresh := h.fresh
  live := fun c C hC => by
    simp only [AH.kill] at hC
    split at hC
    · cases hC
    · exact h.live c C hC
  inj := fun c c' C C' e e' hC hC' => by
    simp only [AH.kill] at hC hC'
    split at hC
    · cases hC
    · split at hC'
      · cases hC'
      · exact h.inj c c' C C' e e' hC hC'
  glob := h.glob
  base := h.base

theorem over_length {cells : List Value} {off : Nat} {news : List Value} (h : off + news.length ≤ cells.length) : (over cells off news).length = cells.length := by
  simp [over]; omega

theorem VRs.over {ρ : Rho} {a a' b b' : List Value} (h : VRs ρ a a') (k : VRs ρ b b') (off : Nat) : VRs ρ (Abs.over a off b) (Abs.over a' off b') := by
  unfold Abs.over
  rw [k.length]
  exact ((h.take off).append k).append (h.drop _)

theorem ones_over {a b : List Value} (h : ones a) (k : ones b) (off : Nat) : ones (Abs.over a off b) := by
  intro v hv
  simp only [Abs.over, List.mem_append] at hv
  rcases hv with (hv | hv) | hv
  · exact h v (List.mem_of_mem_take hv)
  · exact k v hv
  · exact h v (List.mem_of_mem_drop hv)

theorem over_get {c : List Value} {off : Nat} {news : List Value} (h : off + news.length ≤ c.length) (i : Nat) :
    (over c off news)[i]? = if i < off then c[i]? else if i < off + news.length then news[i - off]? else c[i]? := by
  unfold over
  split
  · rename_i hi
    rw [List.append_assoc, List.getElem?_append_left (by simp; omega), List.getElem?_take_of_lt hi]
  · rename_i hi
    split
    · rename_i h2
      rw [List.append_assoc, List.getElem?_append_right (by simp; omega), List.getElem?_append_left (by simp; omega)]
      congr 1; simp; omega
    · rename_i h2
      rw [List.getElem?_append_right (by simp; omega), List.getElem?_drop]
      congr 1; simp; omega

/-- A store into a row of the program's own: the model's world behind it. -/
theorem Sim.write {P : Program} {B0 : Nat} {ρ : Rho} {H H' : AH} {w : World} (h : Sim P B0 ρ H w) {b off : Nat} {e : Emb} (he : ρ b = some e) {news news' : List Value}
    (hw : writeA H b off news = some H') (hv : VRs ρ news news') (ho : ones news) :
    ∃ w', (storeCells ⟨e.blk, e.base + off, none⟩ news').run P w = .ok () w' ∧ Stp P B0 ρ w ρ H' w' := by
  unfold writeA at hw
  split at hw
  · rename_i cs elem hb
    split at hw
    · rename_i hl
      cases hw
      obtain ⟨e2, he2, c, t, fr, cells', h1, h2, h3, h4, h5⟩ := h.live _ _ hb
      rw [he] at he2
      cases he2
      obtain ⟨k1, rfl, rfl, k2, k3, k4⟩ := h5 rfl
      have hlen := hv.length
      have hcl := h2.length
      have hfit : e.base + off + 0 + news'.length ≤ c.size := by omega
      have ho' : ∀ v ∈ news', v.oneCell' = true := fun v hv' => by rw [oneCell'_eq]; exact hv.ones ho v hv'
      have hrun := run_storeCells_at P e.blk (e.base + off) t news' 0 c w h1 hfit ho'
      refine ⟨_, hrun, ?_⟩
      generalize hc2 : (List.take (e.base + off + 0) c.toList ++ news' ++ List.drop (e.base + off + 0 + news'.length) c.toList).toArray = c2
      have hc2l : c2.toList = over c.toList (e.base + off) news' := by subst hc2; simp [over]
      have hc2s : c2.size = c.size := by
        have := congrArg List.length hc2l
        rw [over_length (by simpa using hfit)] at this
        simpa using this
      have hself := setRow_heap w e.blk c c2 t (0, 0) h1
      have hoth := fun k (hk : k ≠ e.blk) => setRow_other w e.blk k c2 hk
      have hsz : (w.setRow e.blk c2).heap.size = w.heap.size := by simp [World.setRow]
      refine ⟨⟨?_, ?_, ?_, h.glob, by rw [hsz]; exact h.base⟩, Rho.le_refl _, ⟨⟨rfl, rfl, rfl, by rw [hsz]; exact Nat.le_refl _, fun k hk => hoth k (by omega)⟩, ?_, fun k r hr => ⟨r, by rw [hoth k (fun hke => by rw [hke, h1] at hr; cases hr)]; exact hr⟩⟩⟩
      · intro x f hf; rw [hsz]; exact h.fresh x f hf
      · intro x B hB
        simp only [AH.set] at hB
        split at hB
        · rename_i hx
          cases hB
          subst hx
          refine ⟨e, he, c2, t, (0, 0), over cells' off news', hself, h2.over hv off, ones_over h3 ho off, ?_, fun _ => ⟨k1, rfl, rfl, by rw [over_length hl]; exact k2, by rw [hc2s]; exact k3, k4⟩⟩
          intro i hi
          rw [over_length hl] at hi
          rw [← Array.getElem?_toList, hc2l, over_get (by simpa using hfit), over_get (by rw [hcl]; omega)]
          have := h4 i hi
          rw [← Array.getElem?_toList] at this
          by_cases hi1 : i < off
          · rw [if_pos (by omega), if_pos hi1]; exact this
          · rw [if_neg (by omega), if_neg hi1]
            by_cases hi2 : i < off + news'.length
            · rw [if_pos (by omega), if_pos hi2]; congr 1; omega
            · rw [if_neg (by omega), if_neg hi2]; exact this
        · rename_i hx
          obtain ⟨f, hf, hr⟩ := h.live x B hB
          refine ⟨f, hf, hr.keep (Rho.le_refl _) (hoth _ fun hfe => ?_)⟩
          rcases h.inj x b B _ f e hB hb hf he hfe with h' | h'
          · exact hx h'
          · simp [Blk.mine] at h'
      · intro x x' B B' f f' hB hB' hf hf' hff
        simp only [AH.set] at hB hB'
        by_cases hx : x = b
        · by_cases hx' : x' = b
          · left; omega
          · rw [if_neg hx'] at hB'
            subst hx
            rcases h.inj x x' _ B' f f' hb hB' hf hf' hff with h' | h'
            · exact .inl h'
            · simp [Blk.mine] at h'
        · rw [if_neg hx] at hB
          by_cases hx' : x' = b
          · subst hx'
            rcases h.inj x x' B _ f f' hB hb hf hf' hff with h' | h'
            · exact .inl h'
            · simp [Blk.mine] at h'
          · rw [if_neg hx'] at hB'
            exact h.inj x x' B B' f f' hB hB' hf hf' hff
      · intro k ds hk hd
        by_cases hke : k = e.blk
        · subst hke; rw [h1] at hd; cases hd
        · rw [hoth k hke]; exact hd
    · cases hw
  · cases hw

/-- What is read out of a row. -/
theorem Sim.read {P : Program} {B0 : Nat} {ρ : Rho} {H : AH} {w : World} (h : Sim P B0 ρ H w) {b : Nat} {e : Emb} (he : ρ b = some e) {cs : List Value} (hc : H.cells b = some cs) :
    ∃ cs', VRs ρ cs cs' ∧ ones cs ∧ ∀ i, i < cs.length → w.cell? ⟨e.blk, e.base + i, none⟩ = cs'[i]? := by
  unfold AH.cells at hc
  split at hc
  · rename_i cells elem wr hb
    cases hc
    obtain ⟨e2, he2, c, t, fr, cells', h1, h2, h3, h4, _⟩ := h.live _ _ hb
    rw [he] at he2
    cases he2
    exact ⟨cells', h2, h3, fun i hi => by simp [World.cell?, h1, h4 i hi]⟩
  · cases hc

theorem cut_some {cells : List Value} {off n : Nat} {r : List Value} (h : cut cells off n = some r) : off + n ≤ cells.length ∧ r = (cells.drop off).take n ∧ r.length = n := by
  unfold cut at h
  split at h
  · cases h; refine ⟨‹_›, rfl, by simp; omega⟩
  · cases h

end Go.Abs
