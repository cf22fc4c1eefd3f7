/- The evaluator's operations, held against the machine's (2). -/
import Derived.Test.YtggoggdcnahkaaaDoorAe4
import Derived.LaidEql
set_option linter.unusedVariables false
set_option linter.unusedSimpArgs false
namespace Go.Proofs.YtggoggdcnahkaaaDoor
open Go Go.RowKit

theorem OpPost.same {base : Nat} {R : Nat → Nat → Option Value} {K : KW} {H : Heap} {w : World} {r : AV} {v : Value} (hw : WR base R K H w) (hr : Rel K r v) : OpPost base R K w r H v w :=
  ⟨K, KW.le.refl K, hw, Below.refl _ _, hr⟩

/-- A new variable. -/
theorem OpPost.newBox {base : Nat} {R : Nat → Nat → Option Value} {K : KW} {H : Heap} {w : World} (hw : WR base R K H w) {cs : List AV} {arr : Array Value} (T : TypeId) (h1 : RelL K cs arr.toList) (h2 : ∀ u ∈ arr.toList, u.oneCell' = true) :
    OpPost base R K w (.ptr H.length 0) (H ++ [.box cs]) (.pointer (some ⟨w.heap.size, 0, none⟩)) (w.alloc (.cells arr T)) := by
  obtain ⟨hle, hw1⟩ := hw.alloc arr T (0, 0) (fun _ => none) arr.size (fun _ _ h => by cases h) (Nat.le_refl _)
  have hrec : RecAt (K.addBlk w.heap.size (fun _ => none) arr.size) (w.alloc (.cells arr T)) w.heap.size 0 0 (.box cs) :=
    ⟨rfl, arr, T, heap_alloc_new w _, RelL.mono hle _ _ h1, h2, fun o => by simp [KW.addBlk]⟩
  have hfree : ∀ τ x, (K.addBlk w.heap.size (fun _ => none) arr.size).loc τ ≠ some (w.heap.size, x) := fun τ x e => by
    have := hw.loc_lt (τ := τ) (x := x) e
    omega
  obtain ⟨hle2, hw2⟩ := hw1.addTok hw.size hrec hfree
  exact ⟨_, hle.trans hle2, hw2, (Below.refl _ _).alloc hw.size _, by simp only [Rel]; exact ⟨w.heap.size, 0, by simp [KW.addLoc], rfl⟩⟩

/-! Rows -/
theorem RelE_append {K : KW} {b sz : Nat} : ∀ {o : Nat} {xs ys : List AV}, RelE K b sz o xs → RelE K b sz (o + xs.length * sz) ys → RelE K b sz o (xs ++ ys)
  | o, [], ys, h, k => by simpa using k
  | o, x :: xs, ys, h, k => by
    rw [List.cons_append, RelE_cons]
    rw [RelE_cons] at h
    refine ⟨h.1, RelE_append h.2 ?_⟩
    rw [show o + sz + xs.length * sz = o + (x :: xs).length * sz by simp [Nat.succ_mul]; omega]
    exact k
theorem RelE_move {K K' : KW} {b b' sz : Nat} (hle : K.le K') {o o' : Nat} {xs : List AV} (h : RelE K b sz o xs) (hm : ∀ j v, j < xs.length * sz → K.pc b (o + j) = some v → K'.pc b' (o' + j) = some v) : RelE K' b' sz o' xs := by
  rw [RelE_iff] at h ⊢
  intro i x hx
  obtain ⟨h1, h2⟩ := h i x hx
  refine ⟨h1, ?_⟩
  rw [RelC_iff] at h2 ⊢
  intro k c hk
  obtain ⟨v, a1, a2, a3⟩ := h2 k c hk
  refine ⟨v, ?_, a2, Rel.mono hle _ _ a3⟩
  have hi := (List.getElem?_eq_some_iff.1 hx).1
  have hk' := (List.getElem?_eq_some_iff.1 hk).1
  rw [Nat.add_assoc] at a1 ⊢
  refine hm _ _ ?_ a1
  have : (i + 1) * sz ≤ xs.length * sz := Nat.mul_le_mul_right _ hi
  rw [Nat.succ_mul] at this
  omega
/-- The cells of a row. -/
theorem RelE_cells {K : KW} {b sz : Nat} : ∀ {o : Nat} {xs : List AV}, RelE K b sz o xs → ∃ news : List Value, news.length = xs.length * sz ∧ (∀ j v, news[j]? = some v → K.pc b (o + j) = some v) ∧ ∀ u ∈ news, u.oneCell' = true
  | o, [], h => ⟨[], by simp, by simp, by simp⟩
  | o, x :: xs, h => by
    rw [RelE_cons] at h
    obtain ⟨⟨h1, h2⟩, hr⟩ := h
    obtain ⟨news, e1, e2, e3⟩ := RelE_cells hr
    have key : ∀ (cs : List AV) (q : Nat), RelC K b q cs → ∃ vs : List Value, vs.length = cs.length ∧ (∀ j v, vs[j]? = some v → K.pc b (q + j) = some v) ∧ ∀ u ∈ vs, u.oneCell' = true := by
      intro cs
      induction cs with
      | nil => intro q _; exact ⟨[], rfl, by simp, by simp⟩
      | cons c cs ih =>
        intro q hq
        simp only [RelC] at hq
        obtain ⟨⟨v, a1, a2, a3⟩, hq⟩ := hq
        obtain ⟨vs, f1, f2, f3⟩ := ih (q + 1) hq
        refine ⟨v :: vs, by simp [f1], ?_, ?_⟩
        · intro j u hu
          cases j with
          | zero => simp at hu; subst hu; simpa using a1
          | succ j => have := f2 j u (by simpa using hu); rwa [show q + (j + 1) = q + 1 + j by omega]
        · intro u hu
          rcases List.mem_cons.1 hu with rfl | hu
          · exact a2
          · exact f3 u hu
    obtain ⟨vs, f1, f2, f3⟩ := key x.cells o h2
    refine ⟨vs ++ news, by simp [f1, e1, h1, Nat.succ_mul]; omega, ?_, ?_⟩
    · intro j u hu
      rw [List.getElem?_append] at hu
      split at hu
      · exact f2 j u hu
      · rename_i hj
        have := e2 _ u hu
        rw [f1, h1] at this
        rw [f1, h1] at hj
        rwa [show o + sz + (j - sz) = o + j by omega] at this
    · intro u hu
      rcases List.mem_append.1 hu with hu | hu
      · exact f3 u hu
      · exact e3 u hu
theorem RelE_width {K : KW} {b sz sz' o : Nat} {xs : List AV} (h : RelE K b sz' o xs) (hw : widths sz xs = true) (hne : xs ≠ []) : sz' = sz := by
  cases xs with
  | nil => exact absurd rfl hne
  | cons x xs =>
    rw [RelE_cons] at h
    simp [widths] at hw
    rw [← h.1.1, hw.1.1]
/-- Values one behind the other, as a row. -/
theorem RelE_flat {K : KW} {b sz : Nat} : ∀ {xs : List AV} {vs : List Value} {o : Nat}, RelL K xs vs → widths sz xs = true →
    (∀ j u, (vs.flatMap fun v => v.cells.toList)[j]? = some u → K.pc b (o + j) = some u) → RelE K b sz o xs
  | [], vs, o, h, hw, hp => by simp [RelE]
  | x :: xs, vs, o, h, hw, hp => by
    simp only [RelL] at h
    obtain ⟨u, us, rfl, h1, h2⟩ := h
    simp [widths] at hw
    obtain ⟨⟨hw1, hw2⟩, hw3⟩ := hw
    obtain ⟨c1, c2⟩ := Rel_cells h1 hw2
    have hlen : u.cells.toList.length = sz := by rw [RelL_length c1, hw1]
    rw [RelE_cons]
    refine ⟨⟨hw1, ?_⟩, RelE_flat h2 (by simpa [widths] using hw3) fun j v hv => ?_⟩
    · rw [RelC_iff]
      intro i c hc
      obtain ⟨v, hv, hr⟩ := RelL_get c1 i c hc
      refine ⟨v, hp i v ?_, c2 v (List.mem_of_getElem? hv), hr⟩
      rw [List.flatMap_cons, List.getElem?_append_left (List.getElem?_eq_some_iff.1 hv).1]
      exact hv
    · have := hp (sz + j) v (by rw [List.flatMap_cons, List.getElem?_append_right (by omega), hlen, Nat.add_sub_cancel_left]; exact hv)
      rwa [← Nat.add_assoc] at this

section
variable {P : Program} {base N : Nat} {R : Nat → Nat → Option Value} {K : KW} {H : Heap} {w : World} {o : Oper} {a : Act} {env : Env} {r : AV}

theorem do_move (hw : WR base R K H w) (he : EnvRel K N env a) {x : Operand} (hop : o.op = .move x ∨ o.op = .assign x) (hx : valA env x = some r) : Does P base R K w o a r H := by
  refine Does.val hw (v := a.eval x) ?_ (valA_rel he hx)
  rcases hop with hop | hop <;> simp [execOp, hop]

theorem do_pick (hw : WR base R K H w) (he : EnvRel K N env a) {c x y : Operand} {t : Bool} (hop : o.op = .pick c x y) (hc : valA env c = some (.s (.bool t))) (hx : (if t = true then valA env x else valA env y) = some r) : Does P base R K w o a r H := by
  have h1 := valA_rel he hc
  simp only [Rel] at h1
  refine Does.val hw (v := if t then a.eval x else a.eval y) ?_ ?_
  · simp [execOp, hop, h1.1, asBool]
  · cases t
    · simp at hx ⊢; exact valA_rel he hx
    · simp at hx ⊢; exact valA_rel he hx

theorem do_box (hw : WR base R K H w) (he : EnvRel K N env a) {e : TypeId} {x : Operand} {v : AV} (hop : o.op = .box e x) (hx : valA env x = some v) (ht : v.isTup = false) :
    Does P base R K w o a (.ptr H.length 0) (H ++ [.box v.cells]) := by
  obtain ⟨h1, h2⟩ := Rel_cells (valA_rel he hx) ht
  refine .inl ⟨_, _, ?_, OpPost.newBox hw e h1 h2⟩
  simp [execOp, hop, Instr.box, newVar, newRow]

theorem constAV_tup {v : Value} {x : AV} (h : constAV v = some x) : x.isTup = false := by
  unfold constAV at h
  split at h
  · split at h
    · injection h with h; subst h; rfl
    · cases h
  · cases h
  · injection h with h; subst h
    unfold constCell
    split <;> rfl
theorem do_alloc (hw : WR base R K H w) {e : TypeId} {z : AV} (hop : o.op = .alloc e) (hz : (zeroT P e).bind constAV = some z) : Does P base R K w o a (.ptr H.length 0) (H ++ [.box z.cells]) := by
  rw [Option.bind_eq_some_iff] at hz
  obtain ⟨v, hv, hz⟩ := hz
  obtain ⟨i, hi, hzi⟩ := zeroT_info hv
  obtain ⟨h1, h2⟩ := Rel_cells (constAV_rel (K := K) hz) (constAV_tup hz)
  refine .inl ⟨_, _, ?_, OpPost.newBox hw e h1 h2⟩
  simp [execOp, hop, Instr.alloc, zeroValue, typeInfo, hi, hzi, newVar, newRow]

theorem do_load_ptr (hw : WR base R K H w) (he : EnvRel K N env a) {t : TypeId} {x : Operand} {τ k : Nat} {cs : List AV} (hop : o.op = .load t x) (hx : valA env x = some (.ptr τ k)) (hH : H[τ]? = some (.box cs)) (hl : loadA P t cs k = some r) :
    Does P base R K w o a r H := by
  have h1 := valA_rel he hx
  simp only [Rel] at h1
  obtain ⟨g, m, hg, hv⟩ := h1
  obtain ⟨_, _, arr, T, hh, hr, ho, _⟩ := hw.tok hH hg
  obtain ⟨v, hrun, hrel⟩ := run_loadVar_cells (P := P) (w := w) (K := K) (g := g) (o := 0) hl fun i c hc => by
    obtain ⟨u, hu, hr'⟩ := RelL_get hr i c hc
    refine ⟨u, ?_, ho u (List.mem_of_getElem? hu), hr'⟩
    rw [cell_row hh, Nat.zero_add]; simpa using hu
  rw [Nat.zero_add] at hrun
  refine Does.val hw (v := v) ?_ hrel
  simp [execOp, hop, hv, Instr.loadAt, Instr.sureAddr, hrun]

theorem do_load_ip (hw : WR base R K H w) (he : EnvRel K N env a) {t : TypeId} {x : Operand} {k : Nat} {cs : List AV} (hop : o.op = .load t x) (hx : valA env x = some (.ip cs k)) (hl : loadA P t cs k = some r) :
    Does P base R K w o a r H := by
  have h1 := valA_rel he hx
  simp only [Rel] at h1
  obtain ⟨b, q, hv, hc⟩ := h1
  obtain ⟨v, hrun, hrel⟩ := run_loadVar_cells (P := P) (w := w) (K := K) (g := b) (o := q) hl fun i c hi => by
    obtain ⟨u, a1, a2, a3⟩ := (RelC_iff.1 hc) i c hi
    exact ⟨u, hw.pcs _ _ _ a1, a2, a3⟩
  refine Does.val hw (v := v) ?_ hrel
  simp [execOp, hop, hv, Instr.loadAt, Instr.sureAddr, hrun]

theorem do_store (hw : WR base R K H w) (he : EnvRel K N env a) {t : TypeId} {x y : Operand} {τ k n : Nat} {v : AV} {cs : List AV} (hop : o.op = .store t x y) (hx : valA env x = some (.ptr τ k)) (hy : valA env y = some v)
    (hn : szT P t = some n) (hH : H[τ]? = some (.box cs)) (hl : v.cells.length = n ∧ v.isTup = false ∧ k + n ≤ cs.length) :
    Does P base R K w o a (.tup []) (H.set τ (.box (putCells cs k v.cells))) := by
  have h1 := valA_rel he hx
  simp only [Rel] at h1
  obtain ⟨g, m, hg, hv⟩ := h1
  obtain ⟨hb, _, arr, T, hh, hr, ho, hpc⟩ := hw.tok hH hg
  obtain ⟨c1, c2⟩ := Rel_cells (valA_rel he hy) hl.2.1
  have hcl := RelL_length hr
  have hvl := RelL_length c1
  have hst := run_storeCells_at P g k T (a.eval y).cells.toList 0 arr w hh (by simp at hcl hvl ⊢; omega) c2
  simp only [Nat.add_zero] at hst
  refine .inr (.inl ⟨_, ?_, K, KW.le.refl K, WR.setBox hw hH hg (arr' := (arr.toList.take k ++ (a.eval y).cells.toList ++ arr.toList.drop (k + (a.eval y).cells.toList.length)).toArray) ?_ ?_ ?_, ?_, by simp [Rel, RelL, undef]⟩)
  · have hsz : (a.eval y).cells.size = n := by simp at hvl; omega
    simp [execOp, hop, hv, Instr.storeAt, Instr.sureAddr, storeVar, run_sizeOf hn, hsz, hst]
  · simp only [List.toList_toArray, putCells]
    rw [show v.cells.length = (a.eval y).cells.toList.length by omega]
    exact RelL_append (RelL_append (RelL_take hr k) c1) (RelL_drop hr _)
  · intro u hu
    simp only [List.mem_append] at hu
    rcases hu with (hu | hu) | hu
    · exact ho u (List.mem_of_mem_take hu)
    · exact c2 u hu
    · exact ho u (List.mem_of_mem_drop hu)
  · intro arr0 T0 fr0 h0
    rw [hh] at h0; injection h0 with h0; injection h0 with h0 _ _; subst h0
    simp at hcl hvl ⊢; omega
  · refine ⟨rfl, rfl, rfl, by simp [World.setRow], fun i hi => ?_⟩
    simp only [World.setRow, Array.getElem?_modify]; rw [if_neg (by omega)]

theorem do_load_bp (hw : WR base R K H w) (he : EnvRel K N env a) {t : TypeId} {x : Operand} {τ ep k sz : Nat} {cs : List AV} (hop : o.op = .load t x) (hx : valA env x = some (.bp τ ep k)) (hH : H[τ]? = some (.buf ep cs sz)) (hl : loadA P t cs k = some r) :
    Does P base R K w o a r H := by
  have h1 := valA_rel he hx
  simp only [Rel] at h1
  obtain ⟨g, sz', m, b, q, hg, _, _, hv, hA⟩ := h1
  obtain ⟨_, e0, e1, _, arr, T, hh, hsz, hr, ho, _⟩ := hw.tok hH hg
  obtain ⟨rfl, rfl⟩ := hA e1
  obtain ⟨v, hrun, hrel⟩ := run_loadVar_cells (P := P) (w := w) (K := K) (g := b) (o := 0) hl fun i c hc => by
    obtain ⟨u, hu, hr'⟩ := RelL_get hr i c hc
    refine ⟨u, ?_, ho u (List.mem_of_getElem? hu), hr'⟩
    rw [cell_row hh, Nat.zero_add]
    rw [List.getElem?_take] at hu
    split at hu
    · simpa using hu
    · cases hu
  rw [Nat.zero_add] at hrun
  refine Does.val hw (v := v) ?_ hrel
  simp [execOp, hop, hv, Instr.loadAt, Instr.sureAddr, hrun]

theorem take_put {α : Type} (l vs : List α) (k n : Nat) (hk : k + vs.length ≤ n) (hn : n ≤ l.length) : (l.take k ++ vs ++ l.drop (k + vs.length)).take n = (l.take n).take k ++ vs ++ (l.take n).drop (k + vs.length) := by
  rw [List.take_take, Nat.min_eq_left (by omega), List.take_append, List.take_of_length_le (by simp; omega)]
  congr 1
  rw [List.drop_take]
  congr 1
  simp
  omega

theorem do_store_bp (hw : WR base R K H w) (he : EnvRel K N env a) {t : TypeId} {x y : Operand} {τ ep k n sz : Nat} {v : AV} {cs : List AV} (hop : o.op = .store t x y) (hx : valA env x = some (.bp τ ep k)) (hy : valA env y = some v)
    (hn : szT P t = some n) (hH : H[τ]? = some (.buf ep cs sz)) (hl : v.cells.length = n ∧ v.isTup = false ∧ k + n ≤ cs.length) :
    Does P base R K w o a (.tup []) (H.set τ (.buf ep (putCells cs k v.cells) sz)) := by
  have h1 := valA_rel he hx
  simp only [Rel] at h1
  obtain ⟨g, sz', m, b, q, hg, _, _, hv, hA⟩ := h1
  obtain ⟨hb, e0, e1, _, arr, T, hh, hsz, hr, ho, hpc⟩ := hw.tok hH hg
  obtain ⟨rfl, rfl⟩ := hA e1
  subst e0
  obtain ⟨c1, c2⟩ := Rel_cells (valA_rel he hy) hl.2.1
  have hcl := RelL_length hr
  have hvl := RelL_length c1
  have hst := run_storeCells_at P b q T (a.eval y).cells.toList 0 arr w hh (by simp at hcl hvl ⊢; omega) c2
  simp only [Nat.add_zero] at hst
  have hplen : (putCells cs q v.cells).length = cs.length := by unfold putCells; simp; omega
  have htake : (arr.toList.take q ++ (a.eval y).cells.toList ++ arr.toList.drop (q + (a.eval y).cells.toList.length)).toArray.toList.take (putCells cs q v.cells).length
      = (arr.toList.take cs.length).take q ++ (a.eval y).cells.toList ++ (arr.toList.take cs.length).drop (q + (a.eval y).cells.toList.length) := by
    rw [hplen, List.toList_toArray]
    exact take_put _ _ _ _ (by omega) (by simpa using hsz)
  refine .inr (.inl ⟨_, ?_, K, KW.le.refl K, WR.setBuf hw hH hg hh (arr' := (arr.toList.take q ++ (a.eval y).cells.toList ++ arr.toList.drop (q + (a.eval y).cells.toList.length)).toArray) ?_ ?_ ?_ ?_, ?_, by simp [Rel, RelL, undef]⟩)
  · have hsz : (a.eval y).cells.size = n := by simp at hvl; omega
    simp [execOp, hop, hv, Instr.storeAt, Instr.sureAddr, storeVar, run_sizeOf hn, hsz, hst]
  · rw [hplen]; simp at hcl hvl ⊢; omega
  · rw [htake, putCells]
    rw [show v.cells.length = (a.eval y).cells.toList.length by omega]
    exact RelL_append (RelL_append (RelL_take hr _) c1) (RelL_drop hr _)
  · intro u hu
    rw [htake] at hu
    simp only [List.mem_append] at hu
    rcases hu with (hu | hu) | hu
    · exact ho u (List.mem_of_mem_take hu)
    · exact c2 u hu
    · exact ho u (List.mem_of_mem_drop hu)
  · simp at hcl hvl ⊢; omega
  · refine ⟨rfl, rfl, rfl, by simp [World.setRow], fun i hi => ?_⟩
    simp only [World.setRow, Array.getElem?_modify]; rw [if_neg (by omega)]

/-- What lies below a call's own memory, and stays. -/
def Gr (G : Nat → Nat → Option Value) (base : Nat) (R : Nat → Nat → Option Value) : Prop := ∀ b o v, G b o = some v → b < base ∧ R b o = some v

theorem do_load_g (hw : WR base R K H w) (he : EnvRel K N env a) {G : Nat → Nat → Option Value} (hG : Gr G base R) {t : TypeId} {x : Operand} {b k n : Nat} {v : Value} (hop : o.op = .load t x) (hx : valA env x = some (.s (.pointer (some ⟨b, k, none⟩)))) (ha : aggT P t = some false) (hn : szT P t = some n) (hv : G b k = some v) (ho : v.oneCell' = true) :
    Does P base R K w o a (.s v) H := by
  have h1 := valA_rel he hx
  simp only [Rel] at h1
  obtain ⟨hb, hR⟩ := hG b k v hv
  have hc := hw.pcs b k v (by rw [hw.low b k hb]; exact hR)
  refine Does.val hw (v := v) ?_ (by simp [Rel, ho])
  simp [execOp, hop, h1.1, Instr.loadAt, Instr.sureAddr, loadVar, run_isAgg ha, hc]

theorem do_nil (hw : WR base R K H w) (he : EnvRel K N env a) {x : Operand} (hop : o.op = .nilCheck x) (hx : valA env x = some r) (hr : (∃ τ k, r = .ptr τ k) ∨ (∃ cs k, r = .ip cs k) ∨ (∃ f caps, r = .clo f caps) ∨ ∃ τ e k, r = .bp τ e k) : Does P base R K w o a r H := by
  have h1 := valA_rel he hx
  refine Does.val hw (v := a.eval x) ?_ h1
  rcases hr with ⟨τ, k, rfl⟩ | ⟨cs, k, rfl⟩ | ⟨f, caps, rfl⟩ | ⟨τ, e, k, rfl⟩
  · simp only [Rel] at h1; obtain ⟨g, sz, _, hv⟩ := h1; simp [execOp, hop, hv]
  · simp only [Rel] at h1; obtain ⟨b, q, hv, _⟩ := h1; simp [execOp, hop, hv]
  · simp only [Rel] at h1; obtain ⟨vs, hv, _⟩ := h1; simp [execOp, hop, hv]
  · simp only [Rel] at h1; obtain ⟨g, sz, m, b, q, _, _, _, hv, _⟩ := h1; simp [execOp, hop, hv]

theorem do_bin (hw : WR base R K H w) (he : EnvRel K N env a) {b : BinOp} {t t' : TypeId} {x y : Operand} {u v : Value} (hop : o.op = .binOp b t x y t') (hx : (valA env x).bind conc = some u) (hy : (valA env y).bind conc = some v)
    (h : scalarOf (pureRun P (do eqGuard b t x y u v; binOp b t u v)) = some r) : Does P base R K w o a r H := by
  rw [Option.bind_eq_some_iff] at hx hy
  obtain ⟨x', hx, hcx⟩ := hx
  obtain ⟨y', hy, hcy⟩ := hy
  have e1 := conc_rel (valA_rel he hx) hcx
  have e2 := conc_rel (valA_rel he hy) hcy
  obtain ⟨q, hq, hr⟩ := scalarOf_rel (K := K) h
  have hrun := pureRun_run _ _ hq w
  refine Does.val hw (v := q) ?_ hr
  simp only [execOp, hop, e1, e2]
  simp only [Sem.run_bind] at hrun ⊢
  rw [hrun]; rfl

theorem eqA_run (w : World) {t : TypeId} {x y : AV} {u v : Value} {b : Bool} (hx : Rel K x u) (hy : Rel K y v) (h : eqA P t x y = some b) :
    (Op.equal t u v).run P w = .ok b w ∧ ∀ (op : BinOp) (p q : Operand), (eqGuard op t p q u v).run P w = .ok () w := by
  unfold eqA at h
  have hif : ∀ {t}, ifT P t = some true → ∃ ms, P.underlying t = some (.interface ms) := by
    intro t h
    unfold ifT at h
    rw [Option.map_eq_some_iff] at h
    obtain ⟨d, hd, hb⟩ := h
    cases d <;> simp at hb
    exact ⟨_, hd⟩
  have hd : Op.maxDepth = 9999 + 1 := rfl
  split at h
  · rename_i tx x'
    split at h
    · rename_i hi
      injection h with h; subst h
      obtain ⟨ms, hi⟩ := hif hi
      simp only [Rel] at hx hy
      obtain ⟨u', rfl, _⟩ := hx
      obtain ⟨rfl, _⟩ := hy
      refine ⟨?_, fun op p q => ?_⟩
      · rw [Op.equal, hd, Op.equalIn]; simp [run_underlying hi]
      · unfold eqGuard; split <;> simp
    · cases h
  · rename_i tx x'
    split at h
    · rename_i hi
      injection h with h; subst h
      obtain ⟨ms, hi⟩ := hif hi
      simp only [Rel] at hx hy
      obtain ⟨u', rfl, _⟩ := hy
      obtain ⟨rfl, _⟩ := hx
      refine ⟨?_, fun op p q => ?_⟩
      · rw [Op.equal, hd, Op.equalIn]; simp [run_underlying hi]
      · unfold eqGuard; split <;> simp
    · cases h
  · rename_i tx τ k ty y'
    split at h
    · rename_i hi
      obtain ⟨ms, hi⟩ := hif hi
      simp only [Rel] at hx hy
      obtain ⟨u', rfl, g, m, hg, rfl⟩ := hx
      obtain ⟨v', rfl, hv⟩ := hy
      refine ⟨?_, fun op p q => by unfold eqGuard; split <;> simp⟩
      split at h
      · rename_i hne
        injection h with h; subst h
        rw [Op.equal, hd, Op.equalIn]; simp [run_underlying hi, hne]
      · rename_i he
        simp only [ne_eq, Decidable.not_not] at he
        subst he
        split at h
        · rename_i σ j
          split at h
          · rename_i hc
            obtain ⟨rfl, rfl, hp, hcm⟩ := hc
            injection h with h; subst h
            simp only [Rel] at hv
            obtain ⟨g', m', hg', rfl⟩ := hv
            rw [hg] at hg'; injection hg' with hg'; injection hg' with e1 _; subst e1
            unfold cmpT at hcm
            rw [Option.map_eq_some_iff] at hcm
            obtain ⟨info, hinfo, hco⟩ := hcm
            rw [Option.any_eq_true] at hp
            obtain ⟨n, hn, hn0⟩ := hp
            rw [Option.bind_eq_some_iff] at hn
            obtain ⟨e, he, hn⟩ := hn
            unfold ptrT at he
            split at he
            · rename_i e' hpe
              injection he with he; subst he
              have hn0' : n ≠ 0 := by simp at hn0; omega
              rw [Op.equal, hd, Op.equalIn]
              simp only [Sem.run_bind, run_underlying hi, Result.andThen_ok, ne_eq, not_true_eq_false, if_false, typeInfo, run_program]
              simp [hinfo, hco]
              rw [show (9999 : Nat) = 9998 + 1 from rfl, Op.equalIn]
              simp [run_underlying hpe, run_sizeOf hn, hn0', run_sameAddr_same]
            · cases he
          · cases h
        · cases h
    · cases h
  · rename_i tx x' ty τ k _
    split at h
    · rename_i hi
      obtain ⟨hi, hne⟩ := hi
      obtain ⟨ms, hi⟩ := hif hi
      injection h with h; subst h
      simp only [Rel] at hx hy
      obtain ⟨u', rfl, _⟩ := hx
      obtain ⟨v', rfl, _⟩ := hy
      refine ⟨?_, fun op p q => by unfold eqGuard; split <;> simp⟩
      rw [Op.equal, hd, Op.equalIn]; simp [run_underlying hi, hne]
    · cases h
  · split at h
    · rename_i hi
      obtain ⟨hp, hi⟩ := hi
      injection h with h; subst h
      simp only [Rel] at hy
      obtain ⟨rfl, _⟩ := hy
      obtain ⟨e, he⟩ := Option.isSome_iff_exists.1 hi
      unfold ptrT at he
      split at he
      · rename_i e' hpe
        obtain ⟨A, rfl⟩ : ∃ A, u = .pointer (some A) := by
          cases x with
          | ptr τ k => simp only [Rel] at hx; obtain ⟨g, m, _, rfl⟩ := hx; exact ⟨_, rfl⟩
          | ip cs k => simp only [Rel] at hx; obtain ⟨b, q, rfl, _⟩ := hx; exact ⟨_, rfl⟩
          | bp τ e k => simp only [Rel] at hx; obtain ⟨g, sz, m, b, q, _, _, _, rfl, _⟩ := hx; exact ⟨_, rfl⟩
          | _ => simp [AV.isPtr] at hp
        refine ⟨?_, fun op p q => by unfold eqGuard; split <;> simp⟩
        rw [Op.equal, hd, Op.equalIn]; simp [run_underlying hpe]
      · cases he
    · cases h
  · cases h

theorem binOp_eql (t : TypeId) {x y : AV} {u v : Value} {b : Bool} (hx : Rel K x u) (hy : Rel K y v) (h : eqA P t x y = some b) (w : World) (hrun : (Op.equal t u v).run P w = .ok b w) :
    (binOp .eql t u v).run P w = .ok (.bool b) w ∧ (binOp .neq t u v).run P w = .ok (.bool !b) w := by
  have key : (∃ i z, u = .iface i z) ∨ u = .nilIface ∨ ∃ A, u = .pointer A := by
    unfold eqA at h
    split at h
    · simp only [Rel] at hx; obtain ⟨u', rfl, _⟩ := hx; exact .inl ⟨_, _, rfl⟩
    · simp only [Rel] at hx; exact .inr (.inl hx.1)
    · simp only [Rel] at hx; obtain ⟨u', rfl, _⟩ := hx; exact .inl ⟨_, _, rfl⟩
    · simp only [Rel] at hx; obtain ⟨u', rfl, _⟩ := hx; exact .inl ⟨_, _, rfl⟩
    · split at h
      · rename_i hi
        refine .inr (.inr ?_)
        cases x with
        | ptr τ k => simp only [Rel] at hx; obtain ⟨g, m, _, rfl⟩ := hx; exact ⟨_, rfl⟩
        | ip cs k => simp only [Rel] at hx; obtain ⟨b, q, rfl, _⟩ := hx; exact ⟨_, rfl⟩
        | bp τ e k => simp only [Rel] at hx; obtain ⟨g, sz, m, b, q, _, _, _, rfl, _⟩ := hx; exact ⟨_, rfl⟩
        | _ => simp [AV.isPtr] at hi
      · cases h
    · cases h
  rcases key with ⟨i, z, rfl⟩ | rfl | ⟨A, rfl⟩
  · constructor <;> cases v <;> simp [binOp, hrun]
  · constructor <;> cases v <;> simp [binOp, hrun]
  · constructor <;> cases v <;> simp [binOp, hrun]

theorem do_cmp (hw : WR base R K H w) (he : EnvRel K N env a) {b : BinOp} {t t' : TypeId} {x y : Operand} {u v : AV} (hop : o.op = .binOp b t x y t') (hx : valA env x = some u) (hy : valA env y = some v)
    (h : cmpA P b t u v = some r) : Does P base R K w o a r H := by
  have h1 := valA_rel he hx
  have h2 := valA_rel he hy
  unfold cmpA at h
  split at h
  · rw [Option.map_eq_some_iff] at h
    obtain ⟨q, hq, rfl⟩ := h
    obtain ⟨e1, e2⟩ := eqA_run w h1 h2 hq
    refine Does.val hw (v := .bool q) ?_ (by simp [Rel, Value.oneCell'])
    simp only [execOp, hop, Sem.run_bind, e2, Result.andThen_ok, (binOp_eql t h1 h2 hq w e1).1]
    rfl
  · rw [Option.map_eq_some_iff] at h
    obtain ⟨q, hq, rfl⟩ := h
    obtain ⟨e1, e2⟩ := eqA_run w h1 h2 hq
    refine Does.val hw (v := .bool !q) ?_ (by simp [Rel, Value.oneCell'])
    simp only [execOp, hop, Sem.run_bind, e2, Result.andThen_ok, (binOp_eql t h1 h2 hq w e1).2]
    rfl
  · cases h

theorem do_un (hw : WR base R K H w) (he : EnvRel K N env a) {b : UnOp} {t : TypeId} {x : Operand} {u : Value} (hop : o.op = .unOp b t x) (hx : (valA env x).bind conc = some u)
    (h : scalarOf (pureRun P (Op.unary b u)) = some r) : Does P base R K w o a r H := by
  rw [Option.bind_eq_some_iff] at hx
  obtain ⟨x', hx, hcx⟩ := hx
  have e1 := conc_rel (valA_rel he hx) hcx
  obtain ⟨q, hq, hr⟩ := scalarOf_rel (K := K) h
  have hrun := pureRun_run _ _ hq w
  refine Does.val hw (v := q) ?_ hr
  simp only [execOp, hop, e1, Sem.run_bind, hrun]
  rfl

theorem do_conv (hw : WR base R K H w) (he : EnvRel K N env a) {s d : TypeId} {x : Operand} {u : Value} (hop : o.op = .convert s d x) (hx : valA env x = some (.s u))
    (h : scalarOf (pureRun P (convert s d u)) = some r) : Does P base R K w o a r H := by
  have h1 := valA_rel he hx
  simp only [Rel] at h1
  obtain ⟨q, hq, hr⟩ := scalarOf_rel (K := K) h
  have hrun := pureRun_run _ _ hq w
  refine Does.val hw (v := q) ?_ hr
  simp only [execOp, hop, h1.1, Sem.run_bind, hrun]
  rfl

theorem do_iface (hw : WR base R K H w) (he : EnvRel K N env a) {t : TypeId} {x : Operand} {v : AV} (hop : o.op = .makeInterface t x) (ht : ifT P t = some false) (hx : valA env x = some v) : Does P base R K w o a (.ifc t v) H := by
  refine Does.val hw (v := .iface t (a.eval x)) ?_ (by simp only [Rel]; exact ⟨_, rfl, valA_rel he hx⟩)
  unfold ifT at ht
  rw [Option.map_eq_some_iff] at ht
  obtain ⟨d, hd, hb⟩ := ht
  cases d <;> simp_all [execOp, Instr.makeInterface, run_underlying hd]

theorem do_func (hw : WR base R K H w) (he : EnvRel K N env a) {f : FuncId} {first caps : Array Operand} {l : List AV} (hop : o.op = .makeFunc (.func f) first caps) (h0 : first.size = 0) (hx : valsA env caps.toList = some l) : Does P base R K w o a (.clo f l) H := by
  have h1 := valsA_rel he hx
  have : first = #[] := Array.eq_empty_of_size_eq_zero h0
  subst this
  refine Does.val hw (v := .func (.func f) #[] (caps.map a.eval)) ?_ ?_
  · simp [execOp, hop, Instr.makeFunc]
  · simp only [Rel]
    refine ⟨caps.toList.map a.eval, ?_, h1⟩
    congr 1
    apply Array.ext'
    simp

theorem run_fieldPlace {ft : Field} {n : Nat} (g k : Nat) (h : szT P ft.type = some (n + 1)) : (fieldPlace ⟨g, k, none⟩ ft).run P w = .ok ⟨g, k + ft.offset, none⟩ w := by
  simp [fieldPlace, run_sizeOf h, add_lit]

theorem do_fieldAddr (hw : WR base R K H w) (he : EnvRel K N env a) {s ft : TypeId} {x : Operand} {f off n : Nat} {v : AV} (hop : o.op = .fieldAddr s x f) (hf : fldT P s f = some (off, ft)) (hn : szT P ft = some (n + 1)) (hx : valA env x = some v)
    (hr : (∃ τ k, v = .ptr τ k ∧ r = .ptr τ (k + off)) ∨ (∃ cs k, v = .ip cs k ∧ r = .ip cs (k + off)) ∨ ∃ τ e k, v = .bp τ e k ∧ r = .bp τ e (k + off)) : Does P base R K w o a r H := by
  obtain ⟨fs, x', hu, hfx, e1, e2⟩ := fldT_under hf
  subst e1 e2
  have h1 := valA_rel he hx
  rcases hr with ⟨τ, k, rfl, rfl⟩ | ⟨cs, k, rfl, rfl⟩ | ⟨τ, e, k, rfl, rfl⟩
  · simp only [Rel] at h1
    obtain ⟨g, sz, hg, hv⟩ := h1
    refine Does.val hw (v := .pointer (some ⟨g, k + x'.offset, none⟩)) ?_ (by simp only [Rel]; exact ⟨g, sz, hg, rfl⟩)
    simp [execOp, hop, hv, Instr.fieldAt, run_underlying hu, hfx, Instr.sureAddr, run_fieldPlace g k hn]
  · simp only [Rel] at h1
    obtain ⟨b, q, hv, hc⟩ := h1
    refine Does.val hw (v := .pointer (some ⟨b, q + (k + x'.offset), none⟩)) ?_ (by simp only [Rel]; exact ⟨b, q, rfl, hc⟩)
    simp [execOp, hop, hv, Instr.fieldAt, run_underlying hu, hfx, Instr.sureAddr, run_fieldPlace b (q + k) hn, Nat.add_assoc]
  · simp only [Rel] at h1
    obtain ⟨g, sz, m, b, q, hg, h2, h3, hv, hA⟩ := h1
    refine Does.val hw (v := .pointer (some ⟨b, q + x'.offset, none⟩)) ?_ (by simp only [Rel]; exact ⟨g, sz, m, b, q + x'.offset, hg, h2, h3, rfl, fun e => ⟨(hA e).1, by rw [(hA e).2]⟩⟩)
    simp [execOp, hop, hv, Instr.fieldAt, run_underlying hu, hfx, Instr.sureAddr, run_fieldPlace b q hn]

theorem do_field (hw : WR base R K H w) (he : EnvRel K N env a) {s ft : TypeId} {x : Operand} {f off : Nat} {cs : List AV} (hop : o.op = .field s x f) (hf : fldT P s f = some (off, ft)) (hx : valA env x = some (.agg cs)) (hl : loadA P ft cs off = some r) :
    Does P base R K w o a r H := by
  obtain ⟨fs, x', hu, hfx, e1, e2⟩ := fldT_under hf
  subst e1 e2
  have h1 := valA_rel he hx
  simp only [Rel] at h1
  obtain ⟨vs, hv, hr, ho⟩ := h1
  have hlen := RelL_length hr
  unfold loadA at hl
  split at hl
  · rename_i n ha hs
    split at hl
    · rename_i hle
      injection hl with hl; subst hl
      refine Does.val hw (v := .agg ((vs.drop x'.offset).take n).toArray) ?_ ?_
      · simp [execOp, hop, hv, Instr.field, run_underlying hu, hfx, asAgg, part, run_isAgg ha, run_sizeOf hs]
      · simp only [Rel]
        exact ⟨_, rfl, RelL_take (RelL_drop hr _) _, fun u hu => ho u (List.mem_of_mem_drop (List.mem_of_mem_take hu))⟩
    · cases hl
  · rename_i n ha hs
    obtain ⟨v, hv', hr'⟩ := RelL_get hr _ _ hl
    refine Does.val hw (v := v) ?_ hr'
    simp [execOp, hop, hv, Instr.field, run_underlying hu, hfx, asAgg, part, run_isAgg ha, hv']
  · cases hl

theorem natA_rel {x : Operand} {n : Nat} (he : EnvRel K N env a) (h : (valA env x).bind natA = some n) : ∃ k, a.eval x = .int k n := by
  rw [Option.bind_eq_some_iff] at h
  obtain ⟨y, hy, hn⟩ := h
  have h1 := valA_rel he hy
  unfold natA at hn
  split at hn
  · split at hn
    · rename_i k i h0
      injection hn with hn
      simp only [Rel] at h1
      exact ⟨k, by rw [h1.1, ← hn, Int.toNat_of_nonneg h0]⟩
    · cases hn
  · cases hn

theorem do_indexAddr (hw : WR base R K H w) (he : EnvRel K N env a) {t e : TypeId} {x i : Operand} {xs : List AV} {p : Prov} {n sz : Nat} {y : AV} (hop : o.op = .indexAddr t x i) (ht : elT P t = some e) (hx : valA env x = some (.sl xs p))
    (hi : (valA env i).bind natA = some n) (hs : szT P e = some sz) (hy : xs[n]? = some y) (hc : y.cells.length = sz) : Does P base R K w o a (.ip y.cells 0) H := by
  obtain ⟨k, hk⟩ := natA_rel he hi
  have h1 := valA_rel he hx
  simp only [Rel] at h1
  obtain ⟨A, c, sz', hv, hcap, _, hr⟩ := h1
  have hlt := (List.getElem?_eq_some_iff.1 hy).1
  rcases hr with hr | ⟨b, q, rfl, hr⟩
  · subst hr; simp at hlt
  · obtain ⟨h2, h3⟩ := (RelE_iff.1 hr) n y hy
    have : sz' = sz := by omega
    subst this
    refine Does.val hw (v := .pointer (some ⟨b, q + n * sz', none⟩)) ?_ (by simp only [Rel]; exact ⟨b, q + n * sz', rfl, h3⟩)
    simp [execOp, hop, hv, hk, Instr.indexAt, asIntOf, run_underlying (elT_under ht), hlt, run_sizeOf hs, add_lit]

theorem do_indexArr (hw : WR base R K H w) (he : EnvRel K N env a) {t e : TypeId} {x i : Operand} {len n sz : Nat} {v : AV} (hop : o.op = .indexAddr t x i) (ht : arrT P t = some (len, e)) (hx : valA env x = some v)
    (hi : (valA env i).bind natA = some n) (hs : szT P e = some sz) (hlt : n < len) (hr : v.moved (n * sz) = some r) : Does P base R K w o a r H := by
  obtain ⟨k, hk⟩ := natA_rel he hi
  have h1 := valA_rel he hx
  have hu : P.underlying t = some (.array len e) := by
    unfold arrT at ht
    split at ht
    · rename_i n' e' h; injection ht with ht; injection ht with e1 e2; subst e1 e2; exact h
    · cases ht
  obtain ⟨b, q, hv, hrel⟩ : ∃ b q, a.eval x = .pointer (some ⟨b, q, none⟩) ∧ Rel K r (.pointer (some ⟨b, q + n * sz, none⟩)) := by
    unfold AV.moved at hr
    split at hr
    · injection hr with hr; subst hr
      simp only [Rel] at h1 ⊢
      obtain ⟨g, m, hg, hv⟩ := h1
      exact ⟨g, _, hv, g, m, hg, rfl⟩
    · injection hr with hr; subst hr
      simp only [Rel] at h1 ⊢
      obtain ⟨b, q, hv, hc⟩ := h1
      exact ⟨b, _, hv, b, q, by simp [Nat.add_assoc], hc⟩
    · injection hr with hr; subst hr
      simp only [Rel] at h1 ⊢
      obtain ⟨g, sz', m, b, q, hg, h2, h3, hv, hA⟩ := h1
      exact ⟨b, q, hv, g, sz', m, b, _, hg, h2, h3, rfl, fun e => ⟨(hA e).1, by rw [(hA e).2]⟩⟩
    · injection hr with hr; subst hr
      simp only [Rel] at h1
      exact ⟨_, _, h1.1, by simp [Rel, Value.oneCell']⟩
    · cases hr
  refine Does.val hw (v := .pointer (some ⟨b, q + n * sz, none⟩)) ?_ hrel
  simp [execOp, hop, hv, hk, Instr.indexAt, asIntOf, run_underlying hu, hlt, run_sizeOf hs, add_lit, Instr.sureAddr]

theorem do_indexAddrB (hw : WR base R K H w) (he : EnvRel K N env a) {t e : TypeId} {x i : Operand} {τ ep sz q m n : Nat} (hop : o.op = .indexAddr t x i) (ht : elT P t = some e) (hx : valA env x = some (.bs τ ep sz q m))
    (hi : (valA env i).bind natA = some n) (hs : szT P e = some sz) (hc : n < m) : Does P base R K w o a (.bp τ ep ((q + n) * sz)) H := by
  obtain ⟨k, hk⟩ := natA_rel he hi
  have h1 := valA_rel he hx
  simp only [Rel] at h1
  obtain ⟨g, mm, A, c, hg, h2, h3, hv, h5, h6, h7⟩ := h1
  rcases h6 with h6 | ⟨b, q', rfl, h6⟩
  · omega
  · refine Does.val hw (v := .pointer (some ⟨b, q' + n * sz, none⟩)) ?_ (by simp only [Rel]; exact ⟨g, sz, mm, b, q' + n * sz, hg, h2, h3, rfl, fun e => ⟨(h6 e).1, by rw [(h6 e).2, Nat.add_mul]⟩⟩)
    simp [execOp, hop, hv, hk, Instr.indexAt, asIntOf, run_underlying (elT_under ht), hc, run_sizeOf hs, add_lit]

theorem do_index (hw : WR base R K H w) (he : EnvRel K N env a) {t : TypeId} {x i : Operand} {s : ByteArray} {n : Nat} {b : UInt8} (hop : o.op = .index t x i) (ht : strT P t = some true) (hx : valA env x = some (.s (.string s)))
    (hi : (valA env i).bind natA = some n) (hb : s.data.toList[n]? = some b) : Does P base R K w o a (.s (.int .u8 b.toNat)) H := by
  obtain ⟨k, hk⟩ := natA_rel he hi
  have h1 := valA_rel he hx
  simp only [Rel] at h1
  refine Does.val hw (v := .int .u8 b.toNat) ?_ (by simp [Rel, Value.oneCell'])
  have hlt := (List.getElem?_eq_some_iff.1 hb).1
  have hsz : n < s.size := by simpa using hlt
  have hbv : s[n]? = some b := by
    rw [getElem?_pos s n hsz]
    have := (List.getElem?_eq_some_iff.1 hb).2
    rw [← this]; rfl
  simp [execOp, hop, h1.1, hk, Instr.index, asIntOf, run_underlying (strT_under ht), hbv]

theorem do_extract (hw : WR base R K H w) (he : EnvRel K N env a) {x : Operand} {i : Nat} {cs : List AV} (hop : o.op = .extract x i) (hx : valA env x = some (.tup cs)) (hi : cs[i]? = some r) : Does P base R K w o a r H := by
  have h1 := valA_rel he hx
  simp only [Rel] at h1
  obtain ⟨vs, hv, hr⟩ := h1
  obtain ⟨v, hv', hr'⟩ := RelL_get hr _ _ hi
  refine Does.val hw (v := v) ?_ hr'
  simp [execOp, hop, hv, Instr.extract, hv']
end
end Go.Proofs.YtggoggdcnahkaaaDoor
