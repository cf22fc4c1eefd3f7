/- The evaluator's world: tokens in memory, and how they turn. -/
import Derived.Test.YtggoggdcnahkaaaDoorAe2
import Derived.Laws.CopyRow
import Derived.Laws.Cells
import Derived.Laws.Entries
set_option linter.unusedVariables false
namespace Go.Proofs.YtggoggdcnahkaaaDoor
open Go Go.RowKit

def RecAt (K : KW) (w : World) (g sz m : Nat) : Rec → Prop
  | .box cs => sz = 0 ∧ ∃ arr T, w.heap[g]? = some (.cells arr T (0, 0)) ∧ RelL K cs arr.toList ∧ (∀ u ∈ arr.toList, u.oneCell' = true) ∧ ∀ o, K.pc g o = none
  | .own n sz' => sz' = sz ∧ n = m ∧ 0 < sz ∧ ∃ arr T, w.heap[g]? = some (.cells arr T (0, 0)) ∧ ∀ o, n * sz ≤ o → K.pc g o = none

  | .buf e cs sz' => sz' = sz ∧ e = m ∧ 0 < sz ∧ ∃ arr T, w.heap[g]? = some (.cells arr T (0, 0)) ∧ cs.length ≤ arr.size ∧ RelL K cs (arr.toList.take cs.length) ∧ (∀ u ∈ arr.toList.take cs.length, u.oneCell' = true) ∧ ∀ o, K.pc g o = none

structure WR (base : Nat) (R : Nat → Nat → Option Value) (K : KW) (H : Heap) (w : World) : Prop where
  pcs : ∀ b o v, K.pc b o = some v → w.cell? ⟨b, o, none⟩ = some v
  rms : ∀ g r, K.rm g = some r → ∃ arr T fr, w.heap[g]? = some (.cells arr T fr) ∧ r ≤ arr.size
  toks : ∀ τ r, H[τ]? = some r → ∃ g sz m, K.loc τ = some (g, sz, m) ∧ base ≤ g ∧ RecAt K w g sz m r
  dom : ∀ τ g, K.loc τ = some g → τ < H.length
  inj : ∀ τ τ' g x x', K.loc τ = some (g, x) → K.loc τ' = some (g, x') → τ = τ'
  size : base ≤ w.heap.size
  low : ∀ b o, b < base → K.pc b o = R b o

theorem RecAt.lt {K : KW} {w : World} {g sz m : Nat} {r : Rec} (h : RecAt K w g sz m r) : g < w.heap.size := by
  cases r with
  | box cs => obtain ⟨_, arr, T, hg, _⟩ := h; exact (Array.getElem?_eq_some_iff.1 hg).1
  | own n sz' => obtain ⟨_, _, _, arr, T, hg, _⟩ := h; exact (Array.getElem?_eq_some_iff.1 hg).1
  | buf e cs sz' => obtain ⟨_, _, _, arr, T, hg, _⟩ := h; exact (Array.getElem?_eq_some_iff.1 hg).1

theorem RecAt.step {K K' : KW} {w w' : World} {g sz m : Nat} {r : Rec} (h : RecAt K w g sz m r) (hK : K.le K') (hp : ∀ o, K'.pc g o = K.pc g o) (hw : w'.heap[g]? = w.heap[g]?) : RecAt K' w' g sz m r := by
  cases r with
  | box cs =>
    obtain ⟨e, arr, T, hg, h1, h2, h3⟩ := h
    exact ⟨e, arr, T, hw.trans hg, RelL.mono hK _ _ h1, h2, fun o => (hp o).trans (h3 o)⟩
  | own n sz' =>
    obtain ⟨e, e1, e2, arr, T, hg, h3⟩ := h
    exact ⟨e, e1, e2, arr, T, hw.trans hg, fun o ho => (hp o).trans (h3 o ho)⟩
  | buf ep cs sz' =>
    obtain ⟨e, e1, e2, arr, T, hg, h1, h2, h3, h4⟩ := h
    exact ⟨e, e1, e2, arr, T, hw.trans hg, h1, RelL.mono hK _ _ h2, h3, fun o => (hp o).trans (h4 o)⟩

theorem WR.pc_lt {base : Nat} {R : Nat → Nat → Option Value} {K : KW} {H : Heap} {w : World} (h : WR base R K H w) {b o : Nat} {v : Value} (hv : K.pc b o = some v) : b < w.heap.size :=
  World.block_lt_of_cell? w ⟨b, o, none⟩ (h.pcs b o v hv)
theorem WR.pc_new {base : Nat} {R : Nat → Nat → Option Value} {K : KW} {H : Heap} {w : World} (h : WR base R K H w) {b : Nat} (hb : w.heap.size ≤ b) (o : Nat) : K.pc b o = none := by
  cases hv : K.pc b o with
  | none => rfl
  | some v => have := h.pc_lt hv; omega
theorem WR.rm_new {base : Nat} {R : Nat → Nat → Option Value} {K : KW} {H : Heap} {w : World} (h : WR base R K H w) {b : Nat} (hb : w.heap.size ≤ b) : K.rm b = none := by
  cases hv : K.rm b with
  | none => rfl
  | some r =>
    obtain ⟨arr, T, fr, hg, _⟩ := h.rms b r hv
    have := (Array.getElem?_eq_some_iff.1 hg).1
    omega
theorem WR.tok {base : Nat} {R : Nat → Nat → Option Value} {K : KW} {H : Heap} {w : World} (h : WR base R K H w) {τ g sz m : Nat} {r : Rec} (hr : H[τ]? = some r) (hl : K.loc τ = some (g, sz, m)) : base ≤ g ∧ RecAt K w g sz m r := by
  obtain ⟨g', sz', m', h1, h2, h3⟩ := h.toks τ r hr
  rw [hl] at h1; injection h1 with h1; injection h1 with e1 h1; injection h1 with e2 e3; subst e1 e2 e3
  exact ⟨h2, h3⟩
theorem WR.loc_lt {base : Nat} {R : Nat → Nat → Option Value} {K : KW} {H : Heap} {w : World} (h : WR base R K H w) {τ g : Nat} {x : Nat × Nat} (hl : K.loc τ = some (g, x)) : g < w.heap.size := by
  have hd := h.dom τ _ hl
  exact (h.tok (List.getElem?_eq_getElem hd) hl).2.lt

/-- The world has turned, but for tokens' blocks; more is known. -/
theorem WR.step {base : Nat} {R : Nat → Nat → Option Value} {K K' : KW} {H : Heap} {w w' : World} (h : WR base R K H w) (hK : K.le K') (hl : K'.loc = K.loc)
    (hpc : ∀ b o v, K'.pc b o = some v → w'.cell? ⟨b, o, none⟩ = some v)
    (hrm : ∀ g r, K'.rm g = some r → ∃ arr T fr, w'.heap[g]? = some (.cells arr T fr) ∧ r ≤ arr.size)
    (hg : ∀ τ g x, K.loc τ = some (g, x) → w'.heap[g]? = w.heap[g]? ∧ ∀ o, K'.pc g o = K.pc g o) (hs : w.heap.size ≤ w'.heap.size) (hlow : ∀ b o, b < base → K'.pc b o = K.pc b o) : WR base R K' H w' where
  pcs := hpc
  rms := hrm
  toks τ r hr := by
    obtain ⟨g, sz, m, h1, h2, h3⟩ := h.toks τ r hr
    obtain ⟨g1, g2⟩ := hg τ g _ h1
    exact ⟨g, sz, m, by rw [hl]; exact h1, h2, h3.step hK g2 g1⟩
  dom τ g hg := h.dom τ g (by rw [← hl]; exact hg)
  inj τ τ' g x x' h1 h2 := h.inj τ τ' g x x' (by rw [← hl]; exact h1) (by rw [← hl]; exact h2)
  size := Nat.le_trans h.size hs
  low b o hb := (hlow b o hb).trans (h.low b o hb)

theorem WR.drawn {base : Nat} {R : Nat → Nat → Option Value} {K : KW} {H : Heap} {w : World} (h : WR base R K H w) (n : Nat) : WR base R K H { w with drawn := n } :=
  ⟨h.pcs, h.rms, h.toks, h.dom, h.inj, h.size, h.low⟩
theorem Below.drawn' {B : Nat} {a w : World} (h : Below B a w) (n : Nat) : Below B a { w with drawn := n } := ⟨h.os, h.tape, h.output, h.size, h.block⟩

/-! A new block -/
def KW.addBlk (K : KW) (g : Nat) (f : Nat → Option Value) (r : Nat) : KW :=
  { pc := fun b o => if b = g then f o else K.pc b o, loc := K.loc, rm := fun b => if b = g then some r else K.rm b }
def KW.addLoc (K : KW) (τ : Nat) (x : Nat × Nat × Nat) : KW := { K with loc := fun t => if t = τ then some x else K.loc t }

theorem WR.alloc {base : Nat} {R : Nat → Nat → Option Value} {K : KW} {H : Heap} {w : World} (h : WR base R K H w) (arr : Array Value) (T : TypeId) (fr : Nat × Nat) (f : Nat → Option Value) (r : Nat)
    (hf : ∀ o v, f o = some v → arr[o]? = some v) (hr : r ≤ arr.size) :
    K.le (K.addBlk w.heap.size f r) ∧ WR base R (K.addBlk w.heap.size f r) H (w.alloc (.cells arr T fr)) := by
  have hle : K.le (K.addBlk w.heap.size f r) := by
    refine ⟨fun b o v hv => ?_, fun _ g _ m h => ⟨g, m, h, .inl ⟨rfl, rfl⟩⟩, fun g r' hg => ?_⟩
    · have := h.pc_lt hv
      simp only [KW.addBlk]; rw [if_neg (by omega)]; exact hv
    · simp only [KW.addBlk]
      by_cases e : g = w.heap.size
      · have := h.rm_new (b := g) (by omega); rw [this] at hg; cases hg
      · rw [if_neg e]; exact hg
  refine ⟨hle, h.step hle rfl ?_ ?_ ?_ (by simp) (fun b o hb => by have := h.size; simp only [KW.addBlk]; rw [if_neg (by omega)])⟩
  · intro b o v hv
    simp only [KW.addBlk] at hv
    split at hv
    · rename_i e; subst e
      simp only [World.alloc, World.cell?, Array.getElem?_push, if_true]
      simpa using hf o v hv
    · rename_i e
      rw [World.cell?_alloc_old _ _ _ (by simpa using e)]; exact h.pcs b o v hv
  · intro g r' hg
    simp only [KW.addBlk] at hg
    split at hg
    · rename_i e; subst e; injection hg with hg; subst hg
      exact ⟨arr, T, fr, heap_alloc_new w _, hr⟩
    · obtain ⟨a', T', fr', h1, h2⟩ := h.rms g r' hg
      refine ⟨a', T', fr', ?_, h2⟩
      have := (Array.getElem?_eq_some_iff.1 h1).1
      rw [Below.heap_alloc _ _ _ this]; exact h1
  · intro τ g x hl
    have := h.loc_lt hl
    refine ⟨Below.heap_alloc _ _ _ this, fun o => ?_⟩
    simp only [KW.addBlk]; rw [if_neg (by omega)]

theorem WR.addTok {base : Nat} {R : Nat → Nat → Option Value} {K : KW} {H : Heap} {w : World} (h : WR base R K H w) {g sz m : Nat} {r : Rec} (hg : base ≤ g) (hr : RecAt K w g sz m r)
    (hn : ∀ τ x, K.loc τ ≠ some (g, x)) : K.le (K.addLoc H.length (g, sz, m)) ∧ WR base R (K.addLoc H.length (g, sz, m)) (H ++ [r]) w := by
  have hle : K.le (K.addLoc H.length (g, sz, m)) := by
    refine ⟨fun _ _ _ h => h, fun τ g' s q hx => ⟨g', q, ?_, .inl ⟨rfl, rfl⟩⟩, fun _ _ h => h⟩
    have := h.dom τ _ hx
    simp only [KW.addLoc]; rw [if_neg (by omega)]; exact hx
  have hk : ∀ τ x, K.loc τ = some x → (K.addLoc H.length (g, sz, m)).loc τ = some x := by
    intro τ x hx
    have := h.dom τ _ hx
    simp only [KW.addLoc]; rw [if_neg (by omega)]; exact hx
  refine ⟨hle, ⟨h.pcs, h.rms, ?_, ?_, ?_, h.size, h.low⟩⟩
  · intro τ r' hr'
    rw [List.getElem?_append] at hr'
    split at hr'
    · rename_i hτ
      obtain ⟨g', sz', m', h1, h2, h3⟩ := h.toks τ r' hr'
      exact ⟨g', sz', m', hk _ _ h1, h2, h3.step hle (fun _ => rfl) rfl⟩
    · rename_i hτ
      have : τ = H.length := by
        have := (List.getElem?_eq_some_iff.1 hr').1
        simp at this; omega
      subst this
      simp at hr'; subst hr'
      exact ⟨g, sz, m, by simp [KW.addLoc], hg, hr.step hle (fun _ => rfl) rfl⟩
  · intro τ x hx
    simp only [KW.addLoc] at hx
    simp
    split at hx
    · omega
    · have := h.dom τ x hx; omega
  · intro τ τ' g' s s' h1 h2
    simp only [KW.addLoc] at h1 h2
    split at h1 <;> split at h2
    · omega
    · rename_i e e'; injection h1 with h1; injection h1 with h1 _; subst h1; exact absurd h2 (hn _ _)
    · rename_i e e'; injection h2 with h2; injection h2 with h2 _; subst h2; exact absurd h1 (hn _ _)
    · exact h.inj τ τ' g' s s' h1 h2

/-! A token's row is written -/
theorem cell_row {w : World} {g : Nat} {arr : Array Value} {T : TypeId} {fr : Nat × Nat} (h : w.heap[g]? = some (.cells arr T fr)) (o : Nat) : w.cell? ⟨g, o, none⟩ = arr[o]? := by
  simp [World.cell?, h]

theorem WR.setBox {base : Nat} {R : Nat → Nat → Option Value} {K : KW} {H : Heap} {w : World} (h : WR base R K H w) {τ g sz m : Nat} {cs cs' : List AV} {arr' : Array Value}
    (hτ : H[τ]? = some (.box cs)) (hl : K.loc τ = some (g, sz, m)) (h1 : RelL K cs' arr'.toList) (h2 : ∀ u ∈ arr'.toList, u.oneCell' = true) (hsz : ∀ arr T fr, w.heap[g]? = some (.cells arr T fr) → arr.size ≤ arr'.size) :
    WR base R K (H.set τ (.box cs')) (w.setRow g arr') := by
  obtain ⟨hb, e0, arr, T, hg, _, _, hpc⟩ := h.tok hτ hl
  have hheap : ∀ k, k ≠ g → (w.setRow g arr').heap[k]? = w.heap[k]? := by
    intro k hk
    simp only [World.setRow, Array.getElem?_modify]; rw [if_neg (by omega)]
  have hnew : (w.setRow g arr').heap[g]? = some (.cells arr' T (0, 0)) := setRow_heap w g arr arr' T (0, 0) hg
  refine ⟨?_, ?_, ?_, ?_, h.inj, ?_, h.low⟩
  · intro b o v hv
    by_cases e : b = g
    · subst e; rw [hpc o] at hv; cases hv
    · rw [World.cell?_of_block (w := w) (hheap b e)]; exact h.pcs b o v hv
  · intro k r hk
    obtain ⟨a0, T0, fr0, k1, k2⟩ := h.rms k r hk
    by_cases e : k = g
    · subst e
      exact ⟨arr', T, (0, 0), hnew, Nat.le_trans k2 (hsz a0 T0 fr0 k1)⟩
    · exact ⟨a0, T0, fr0, (hheap k e).trans k1, k2⟩
  · intro τ' r hr
    rw [List.getElem?_set] at hr
    split at hr
    · rename_i e; subst e
      split at hr
      · injection hr with hr; subst hr
        exact ⟨g, sz, m, hl, hb, e0, arr', T, hnew, h1, h2, hpc⟩
      · cases hr
    · rename_i e
      obtain ⟨g', sz', m', k1, k2, k3⟩ := h.toks τ' r hr
      refine ⟨g', sz', m', k1, k2, k3.step (KW.le.refl K) (fun _ => rfl) (hheap g' fun e' => ?_)⟩
      subst e'; exact e (h.inj _ _ _ _ _ hl k1)
  · intro τ' x hx; simp; exact h.dom τ' x hx
  · simpa [World.setRow] using h.size

def KW.addPc (K : KW) (τ : Nat) (x : Nat × Nat × Nat) (f : Nat → Option Value) : KW :=
  { pc := fun b o => if b = x.1 then (match K.pc b o with | some v => some v | none => f o) else K.pc b o, loc := fun t => if t = τ then some x else K.loc t, rm := K.rm }

/-- A row of one's own is written behind what it holds. -/
theorem WR.setOwn {base : Nat} {R : Nat → Nat → Option Value} {K : KW} {H : Heap} {w : World} (h : WR base R K H w) {τ g sz n q m : Nat} {arr arr' : Array Value} {T : TypeId} {f : Nat → Option Value} (hm : 0 < m)
    (hτ : H[τ]? = some (.own n sz)) (hl : K.loc τ = some (g, sz, q)) (hg : w.heap[g]? = some (.cells arr T (0, 0))) (hsz : arr.size = arr'.size)
    (hold : ∀ o, o < n * sz → arr'[o]? = arr[o]?) (hf : ∀ o v, f o = some v → n * sz ≤ o ∧ o < (n + m) * sz ∧ arr'[o]? = some v) :
    K.le (K.addPc τ (g, sz, n + m) f) ∧ WR base R (K.addPc τ (g, sz, n + m) f) (H.set τ (.own (n + m) sz)) (w.setRow g arr') := by
  obtain ⟨hb, _, rfl, hpos, arr0, T0, hg0, hpc⟩ := h.tok hτ hl
  have hheap : ∀ k, k ≠ g → (w.setRow g arr').heap[k]? = w.heap[k]? := by
    intro k hk
    simp only [World.setRow, Array.getElem?_modify]; rw [if_neg (by omega)]
  have hnew : (w.setRow g arr').heap[g]? = some (.cells arr' T (0, 0)) := setRow_heap w g arr arr' T (0, 0) hg
  have hle : K.le (K.addPc τ (g, sz, n + m) f) := by
    refine ⟨fun b o v hv => ?_, fun t g' s q hx => ?_, fun _ _ h => h⟩
    · simp only [KW.addPc]; split
      · rw [hv]
      · exact hv
    · simp only [KW.addPc]
      by_cases e : t = τ
      · subst e
        rw [hl] at hx; injection hx with hx; injection hx with e1 hx; injection hx with e2 e3; subst e1 e2 e3
        exact ⟨g, n + m, by simp, .inr ⟨hpos, by omega⟩⟩
      · exact ⟨g', q, by rw [if_neg e]; exact hx, .inl ⟨rfl, rfl⟩⟩
  refine ⟨hle, ⟨?_, ?_, ?_, ?_, ?_, ?_, fun b o hlt => by simp only [KW.addPc]; rw [if_neg (by omega)]; exact h.low b o hlt⟩⟩
  · intro b o v hv
    simp only [KW.addPc] at hv
    split at hv
    · rename_i e; subst e
      rw [cell_row hnew]
      split at hv
      · rename_i v' hv'
        injection hv with hv; subst hv
        have hlt : o < n * sz := by
          rcases Nat.lt_or_ge o (n * sz) with h' | h'
          · exact h'
          · rw [hpc o h'] at hv'; cases hv'
        rw [hold o hlt, ← cell_row hg]; exact h.pcs _ o _ hv'
      · exact (hf o v hv).2.2
    · rename_i e
      rw [World.cell?_of_block (w := w) (hheap b e)]; exact h.pcs b o v hv
  · intro k r hk
    obtain ⟨a0, T0', fr0, k1, k2⟩ := h.rms k r hk
    by_cases e : k = g
    · subst e
      rw [hg] at k1; injection k1 with k1; injection k1 with k1 _ _; subst k1
      exact ⟨arr', T, (0, 0), hnew, by omega⟩
    · exact ⟨a0, T0', fr0, (hheap k e).trans k1, k2⟩
  · intro τ' r hr
    rw [List.getElem?_set] at hr
    split at hr
    · rename_i e; subst e
      split at hr
      · injection hr with hr; subst hr
        refine ⟨g, sz, n + m, by simp [KW.addPc], hb, rfl, rfl, hpos, arr', T, hnew, fun o ho => ?_⟩
        have h1 : n * sz ≤ o := Nat.le_trans (Nat.mul_le_mul_right _ (by omega)) ho
        simp only [KW.addPc, if_true, hpc o h1]
        cases hfo : f o with
        | none => rfl
        | some v => have := (hf o v hfo).2.1; omega
      · cases hr
    · rename_i e
      obtain ⟨g', sz', m', k1, k2, k3⟩ := h.toks τ' r hr
      have hne : g' ≠ g := fun e' => by subst e'; exact e (h.inj _ _ _ _ _ hl k1)
      refine ⟨g', sz', m', by simp only [KW.addPc]; rw [if_neg (Ne.symm e)]; exact k1, k2, k3.step hle (fun o => ?_) (hheap g' hne)⟩
      simp only [KW.addPc]; rw [if_neg hne]
  · intro τ' x hx
    simp only [KW.addPc] at hx
    simp
    split at hx
    · rename_i e; subst e; exact h.dom _ _ hl
    · exact h.dom τ' x hx
  · intro t t' g' x x' h1 h2
    simp only [KW.addPc] at h1 h2
    split at h1 <;> split at h2
    · omega
    · rename_i e e'; injection h1 with h1; injection h1 with h1 _; subst h1; exact e.trans (h.inj _ _ _ _ _ hl h2)
    · rename_i e e'; injection h2 with h2; injection h2 with h2 _; subst h2; exact (h.inj _ _ _ _ _ h1 hl).trans e'.symm
    · exact h.inj _ _ _ _ _ h1 h2
  · simpa [World.setRow] using h.size

/-- A token's row is another one, or has moved to a new block. -/
theorem WR.moveTok {base : Nat} {R : Nat → Nat → Option Value} {K : KW} {H : Heap} {w : World} (h : WR base R K H w) {τ g g' sz q m : Nat} {r0 r : Rec} (hτ : H[τ]? = some r0) (hl : K.loc τ = some (g, sz, q)) (hpos : 0 < sz) (hm : q < m) (hb : base ≤ g')
    (hr : RecAt K w g' sz m r) (hn : ∀ t x, K.loc t = some (g', x) → t = τ) : K.le (K.addLoc τ (g', sz, m)) ∧ WR base R (K.addLoc τ (g', sz, m)) (H.set τ r) w := by
  have hle : K.le (K.addLoc τ (g', sz, m)) := by
    refine ⟨fun _ _ _ h => h, fun t g2 s q hx => ?_, fun _ _ h => h⟩
    simp only [KW.addLoc]
    by_cases e : t = τ
    · subst e
      rw [hl] at hx; injection hx with hx; injection hx with e1 hx; injection hx with e2 e3; subst e1 e2 e3
      exact ⟨g', m, by simp, .inr ⟨hpos, hm⟩⟩
    · exact ⟨g2, q, by rw [if_neg e]; exact hx, .inl ⟨rfl, rfl⟩⟩
  refine ⟨hle, ⟨h.pcs, h.rms, ?_, ?_, ?_, h.size, h.low⟩⟩
  · intro τ' r hr'
    rw [List.getElem?_set] at hr'
    split at hr'
    · rename_i e; subst e
      split at hr'
      · injection hr' with hr'; subst hr'
        exact ⟨g', sz, m, by simp [KW.addLoc], hb, hr.step hle (fun _ => rfl) rfl⟩
      · cases hr'
    · rename_i e
      obtain ⟨g2, sz', m', k1, k2, k3⟩ := h.toks τ' r hr'
      exact ⟨g2, sz', m', by simp only [KW.addLoc]; rw [if_neg (Ne.symm e)]; exact k1, k2, k3.step hle (fun _ => rfl) rfl⟩
  · intro τ' x hx
    simp only [KW.addLoc] at hx
    simp
    split at hx
    · rename_i e; subst e; exact h.dom _ _ hl
    · exact h.dom τ' x hx
  · intro t t' g2 x x' h1 h2
    simp only [KW.addLoc] at h1 h2
    split at h1 <;> split at h2
    · omega
    · rename_i e e'; injection h1 with h1; injection h1 with h1 _; subst h1; exact e.trans (hn _ _ h2).symm
    · rename_i e e'; injection h2 with h2; injection h2 with h2 _; subst h2; exact (hn _ _ h1).trans e'.symm
    · exact h.inj _ _ _ _ _ h1 h2

/-- A row of one's own has moved to a new block. -/
theorem WR.moveOwn {base : Nat} {R : Nat → Nat → Option Value} {K : KW} {H : Heap} {w : World} (h : WR base R K H w) {τ g g' sz n q m : Nat} (hτ : H[τ]? = some (.own n sz)) (hl : K.loc τ = some (g, sz, q)) (hm : n < m) (hb : base ≤ g')
    (hr : RecAt K w g' sz m (.own m sz)) (hn : ∀ t x, K.loc t ≠ some (g', x)) : K.le (K.addLoc τ (g', sz, m)) ∧ WR base R (K.addLoc τ (g', sz, m)) (H.set τ (.own m sz)) w := by
  obtain ⟨_, _, rfl, hpos, _⟩ := h.tok hτ hl
  have hle : K.le (K.addLoc τ (g', sz, m)) := by
    refine ⟨fun _ _ _ h => h, fun t g2 s q hx => ?_, fun _ _ h => h⟩
    simp only [KW.addLoc]
    by_cases e : t = τ
    · subst e
      rw [hl] at hx; injection hx with hx; injection hx with e1 hx; injection hx with e2 e3; subst e1 e2 e3
      exact ⟨g', m, by simp, .inr ⟨hpos, hm⟩⟩
    · exact ⟨g2, q, by rw [if_neg e]; exact hx, .inl ⟨rfl, rfl⟩⟩
  refine ⟨hle, ⟨h.pcs, h.rms, ?_, ?_, ?_, h.size, h.low⟩⟩
  · intro τ' r hr'
    rw [List.getElem?_set] at hr'
    split at hr'
    · rename_i e; subst e
      split at hr'
      · injection hr' with hr'; subst hr'
        exact ⟨g', sz, m, by simp [KW.addLoc], hb, hr.step hle (fun _ => rfl) rfl⟩
      · cases hr'
    · rename_i e
      obtain ⟨g2, sz', m', k1, k2, k3⟩ := h.toks τ' r hr'
      exact ⟨g2, sz', m', by simp only [KW.addLoc]; rw [if_neg (Ne.symm e)]; exact k1, k2, k3.step hle (fun _ => rfl) rfl⟩
  · intro τ' x hx
    simp only [KW.addLoc] at hx
    simp
    split at hx
    · rename_i e; subst e; exact h.dom _ _ hl
    · exact h.dom τ' x hx
  · intro t t' g2 x x' h1 h2
    simp only [KW.addLoc] at h1 h2
    split at h1 <;> split at h2
    · omega
    · rename_i e e'; injection h1 with h1; injection h1 with h1 _; subst h1; exact absurd h2 (hn _ _)
    · rename_i e e'; injection h2 with h2; injection h2 with h2 _; subst h2; exact absurd h1 (hn _ _)
    · exact h.inj _ _ _ _ _ h1 h2

/-- A row that is written again is written. -/
theorem WR.setBuf {base : Nat} {R : Nat → Nat → Option Value} {K : KW} {H : Heap} {w : World} (h : WR base R K H w) {τ g sz m e : Nat} {cs cs' : List AV} {arr arr' : Array Value} {T : TypeId}
    (hτ : H[τ]? = some (.buf e cs sz)) (hl : K.loc τ = some (g, sz, m)) (hg : w.heap[g]? = some (.cells arr T (0, 0))) (hlen : cs'.length ≤ arr'.size) (h1 : RelL K cs' (arr'.toList.take cs'.length)) (h2 : ∀ u ∈ arr'.toList.take cs'.length, u.oneCell' = true) (hsz : arr.size ≤ arr'.size) :
    WR base R K (H.set τ (.buf e cs' sz)) (w.setRow g arr') := by
  obtain ⟨hb, e0, e1, e2, arr0, T0, hg0, _, _, _, hpc⟩ := h.tok hτ hl
  have hheap : ∀ k, k ≠ g → (w.setRow g arr').heap[k]? = w.heap[k]? := by
    intro k hk
    simp only [World.setRow, Array.getElem?_modify]; rw [if_neg (by omega)]
  have hnew : (w.setRow g arr').heap[g]? = some (.cells arr' T (0, 0)) := setRow_heap w g arr arr' T (0, 0) hg
  refine ⟨?_, ?_, ?_, ?_, h.inj, ?_, h.low⟩
  · intro b o v hv
    by_cases e : b = g
    · subst e; rw [hpc o] at hv; cases hv
    · rw [World.cell?_of_block (w := w) (hheap b e)]; exact h.pcs b o v hv
  · intro k r hk
    obtain ⟨a0, T0, fr0, k1, k2⟩ := h.rms k r hk
    by_cases e : k = g
    · subst e
      rw [hg] at k1; injection k1 with k1; injection k1 with k1 _ _; subst k1
      exact ⟨arr', T, (0, 0), hnew, Nat.le_trans k2 hsz⟩
    · exact ⟨a0, T0, fr0, (hheap k e).trans k1, k2⟩
  · intro τ' r hr
    rw [List.getElem?_set] at hr
    split at hr
    · rename_i e; subst e
      split at hr
      · injection hr with hr; subst hr
        exact ⟨g, sz, m, hl, hb, e0, e1, e2, arr', T, hnew, hlen, h1, h2, hpc⟩
      · cases hr
    · rename_i e
      obtain ⟨g', sz', m', k1, k2, k3⟩ := h.toks τ' r hr
      refine ⟨g', sz', m', k1, k2, k3.step (KW.le.refl K) (fun _ => rfl) (hheap g' fun e' => ?_)⟩
      subst e'; exact e (h.inj _ _ _ _ _ hl k1)
  · intro τ' x hx; simp; exact h.dom τ' x hx
  · simpa [World.setRow] using h.size
end Go.Proofs.YtggoggdcnahkaaaDoor
