/- From what a row's form reads of an argument to the evaluator's values. -/
import Derived.Test.YtggoggdcnahkaaaDoorNice2
import Derived.Test.YtggoggdcnahkaaaDoorRows
import Derived.Carry
import Derived.ChangeSame
import Derived.ProofKit
import Derived.OpenShut
import Derived.Shelf.Vars
set_option linter.unusedVariables false
namespace Go.Proofs.YtggoggdcnahkaaaDoor
open Go Go.RowKit Go.Proofs Go.ChangeShapes

/-! What stays -/
theorem post_of_below {H : Type} {enc : TypeId × Value → H} {P : Program} (hl : laidOutB P = true) {f : Func} {s : ChangeSpec} {apart fresh handsOn again : Bool} {W W' : World} {args : Array Value} {v : Value} {ds gs : List (DataW H)} {before : List MemPlace}
    (hrd : ∀ t ∈ f.params.toList, P.readableRec t = true ∧ t < P.types.size) (hs : s.vars = [])
    (hW : DataW.Whole enc P f.params.toList s.vars apart W args.toList ds gs before)
    (hres : ∀ (b : Nat) (sp : Nat → Bool) (hd : Bool), DataW.TrodAll enc P W' b sp hd f.resultTypes.toList (v.resultList f.resultTypes.size) (s.fn H (ds ++ gs)).results [])
    (hargs : (s.fn H (ds ++ gs)).args = ds) (hvars : (s.fn H (ds ++ gs)).vars = [])
    (hb : Below W.heap.size W W')
    (hok : ∀ (j : Nat) (t : TypeId) (r : Value), f.resultTypes[j]? = some t → (v.resultList f.resultTypes.size)[j]? = some r → Value.okWide P W' .any 0 t r) :
    s.post enc P f apart fresh handsOn again W args v W' := by
  have hlt := hW.lt
  have hWk := hW
  obtain ⟨p, q, hA, hV, hpq, hz, hn⟩ := hW
  rw [hs] at hV
  obtain ⟨hgs, rfl⟩ := trodVars_none hV
  have hp : before = p := by simpa using hpq
  subst hp
  have again : ∀ sp : Nat → Bool, (∀ x ∈ before, sp x.block = true) → DataW.TrodAll enc P W' 0 sp true f.params.toList args.toList ds before := by
    have gen : ∀ (ts : List TypeId) (vs : List Value) (ds : List (DataW H)) (ps : List MemPlace), (∀ t ∈ ts, P.readableRec t = true ∧ t < P.types.size) → (∀ x ∈ ps, x.block < W.heap.size) →
        DataW.TrodAll enc P W 0 (fun _ => true) true ts vs ds ps → ∀ sp : Nat → Bool, (∀ x ∈ ps, sp x.block = true) → DataW.TrodAll enc P W' 0 sp true ts vs ds ps := by
      intro ts
      induction ts with
      | nil =>
        intro vs ds ps _ _ h sp _
        obtain ⟨rfl, rfl, rfl⟩ := trodAll_nil h
        rfl
      | cons t ts ih =>
        intro vs ds ps hr hp h sp hsp
        obtain ⟨v, vs', d, ds', p, q, rfl, rfl, rfl, h1, h2⟩ := trodAll_cons h
        refine ⟨p, q, ?_, ih vs' ds' q (fun t ht => hr t (List.mem_cons_of_mem _ ht)) (fun x hx => hp x (List.mem_append_right _ hx)) h2 sp (fun x hx => hsp x (List.mem_append_right _ hx)), rfl⟩
        exact WideElems.Trod_stays hl (hr t (List.mem_cons_self ..)).1 (hr t (List.mem_cons_self ..)).2 h1 (fun x hx => hb.same (hp x (List.mem_append_left _ hx))) (fun x hx => hsp x (List.mem_append_left _ hx))
    exact gen _ _ _ _ hrd hlt hA
  have hvs : ∀ sp : Nat → Bool, DataW.TrodVars enc P W' sp s.vars (s.fn H (ds ++ gs)).vars [] := by
    intro sp
    rw [hs, hvars]
    rfl
  refine ⟨ds, gs, before, [], before, [], hWk, hres _ _ _, ?_, hvs _, hb.frame _, fun _ => ?_⟩
  · rw [hargs]
    exact again _ (fun x hx => by simpa using hlt x hx)
  · refine ⟨hok, _, _, ([] ++ before) ++ [], ⟨[] ++ before, [], trodAll_append (show DataW.TrodAll enc P W' 0 (fun _ => true) true f.params.toList args.toList (s.fn H (ds ++ gs)).args before from by rw [hargs]; exact again _ (fun _ _ => rfl)) (hres _ _ _), hvs _, rfl, ?_, ?_⟩, ?_⟩
    · intro b off hp
      have hp' : MemPlace.cell b off ∈ before := by simpa using hp
      rw [hb.frozen (hlt _ hp')]
      exact hz b off hp'
    · intro ha
      have := hn ha
      simpa using this
    · intro p hp _
      simpa using hp

/-! The start -/
def startR (w : World) (b o : Nat) : Option Value := if b < w.heap.size then w.cell? ⟨b, o, none⟩ else none
def startK (w : World) : KW := ⟨startR w, fun _ => none, fun _ => none⟩
theorem start_cell {w : World} {b o : Nat} {v : Value} (h : w.cell? ⟨b, o, none⟩ = some v) : startR w b o = some v := by
  unfold startR
  rw [if_pos (World.block_lt_of_cell? w ⟨b, o, none⟩ h)]
  exact h
theorem start_wr (w : World) : WR w.heap.size (startR w) (startK w) [] w := by
  refine ⟨fun b o v hv => ?_, fun g r h => (by cases h), fun τ r h => (by simp at h), fun τ g h => (by cases h), fun τ τ' g x x' h => (by cases h), Nat.le_refl _, fun _ _ _ => rfl⟩
  simp only [startK, startR] at hv
  split at hv
  · exact hv
  · cases hv

/-! Values -/
theorem relC_of {K : KW} {b : Nat} : ∀ {cs' : List AV} {cs : List Value} {o : Nat}, RelL K cs' cs → (∀ j u, cs[j]? = some u → K.pc b (o + j) = some u) → (∀ u ∈ cs, u.oneCell' = true) → RelC K b o cs'
  | [], cs, o, h, h1, h2 => by simp [RelC]
  | c :: cs', cs, o, h, h1, h2 => by
    simp only [RelL] at h
    obtain ⟨u, us, rfl, hu, hus⟩ := h
    simp only [RelC]
    refine ⟨⟨u, by simpa using h1 0 u rfl, h2 u (List.mem_cons_self ..), hu⟩, relC_of hus (fun j v hj => ?_) (fun v hv => h2 v (List.mem_cons_of_mem _ hv))⟩
    have := h1 (j + 1) v (by simpa using hj)
    rw [show o + 1 + j = o + (j + 1) by omega]
    exact this
/-- An element's cells. -/
def ElemAt (K : KW) (k : Nat) (a : AV) (cs : List Value) : Prop := RelL K a.cells cs ∧ (∀ u ∈ cs, u.oneCell' = true) ∧ cs.length = k
theorem relE_cons {K : KW} {b k o : Nat} {a : AV} {xs : List AV} {cs : List Value} (h : ElemAt K k a cs) (hc : ∀ j u, cs[j]? = some u → K.pc b (o + j) = some u) (hx : RelE K b k (o + k) xs) : RelE K b k o (a :: xs) := by
  obtain ⟨h1, h2, h3⟩ := h
  have gen : ∀ a : AV, a.cells = [a] → RelL K a.cells cs → (1 = k ∧ ∃ v, K.pc b o = some v ∧ v.oneCell' = true ∧ Rel K a v) := by
    intro a e h
    rw [e] at h
    simp only [RelL] at h
    obtain ⟨u, us, rfl, hu, rfl⟩ := h
    exact ⟨by simpa using h3, u, by simpa using hc 0 u rfl, h2 u (List.mem_cons_self ..), hu⟩
  cases a with
  | agg cs' =>
    simp only [RelE]
    refine ⟨⟨?_, relC_of h1 hc h2⟩, hx⟩
    have := RelL_length h1
    simp only [AV.cells] at this
    omega
  | s v => simp only [RelE]; exact ⟨gen _ rfl h1, hx⟩
  | tup cs => simp only [RelE]; exact ⟨gen _ rfl h1, hx⟩
  | sl ys p => simp only [RelE]; exact ⟨gen _ rfl h1, hx⟩
  | ip cs j => simp only [RelE]; exact ⟨gen _ rfl h1, hx⟩
  | ptr τ j => simp only [RelE]; exact ⟨gen _ rfl h1, hx⟩
  | bs τ e sz q n => simp only [RelE]; exact ⟨gen _ rfl h1, hx⟩
  | bp τ e j => simp only [RelE]; exact ⟨gen _ rfl h1, hx⟩
  | ifc t x => simp only [RelE]; exact ⟨gen _ rfl h1, hx⟩
  | clo f l => simp only [RelE]; exact ⟨gen _ rfl h1, hx⟩

section
open Go.Proofs.YtggoggdcnahkaaaDoor.Rows (uptoBulk uptoBulkAll)
variable {H : Type} {enc : TypeId × Value → H} {P : Program} {w : World}
theorem bulk_one (d : DataW H) : 1 ≤ uptoBulk d := by
  cases d with
  | lit l => cases l <;> simp [uptoBulk]
  | _ => simp [uptoBulk]
theorem row_of {T : Type} (av : T → AV) (sz : T → Nat) {K : KW} (hK : ∀ b o v, w.cell? ⟨b, o, none⟩ = some v → K.pc b o = some v) {e : TypeId} {n k b : Nat}
    (ih : ∀ cs x, DataW.trod enc P w 0 (fun _ => true) true n e cs = some x → ∃ i : T, ElemAt K k (av i) cs ∧ sz i ≤ uptoBulk x.1) :
    ∀ (elems : List (DataW H × List MemPlace)) (o : Nat), (∀ i x, elems[i]? = some x → ∃ cs, cs.length = k ∧ (∀ j, j < k → w.cell? ⟨b, o + i * k + j, none⟩ = cs[j]?) ∧ DataW.trod enc P w 0 (fun _ => true) true n e cs = some x) →
      ∃ l : List T, l.length = elems.length ∧ RelE K b k o (l.map av) ∧ (l.map sz).sum ≤ uptoBulkAll (elems.map (·.1))
  | [], o, h => ⟨[], rfl, by simp [RelE], by simp [uptoBulkAll]⟩
  | x :: elems, o, h => by
    obtain ⟨cs, hl, hc, ht⟩ := h 0 x rfl
    obtain ⟨i, hi, hz⟩ := ih cs x ht
    obtain ⟨l, h1, h2, h3⟩ := row_of av sz hK ih elems (o + k) (fun i y hy => by
      obtain ⟨cs, q1, q2, q3⟩ := h (i + 1) y (by simpa using hy)
      refine ⟨cs, q1, fun j hj => ?_, q3⟩
      rw [← q2 j hj]
      congr 2
      rw [Nat.succ_mul]; omega)
    refine ⟨i :: l, by simp [h1], relE_cons hi (fun j u hj => hK _ _ _ ?_) h2, by simp only [List.map_cons, List.sum_cons, uptoBulkAll]; omega⟩
    have hjk : j < k := by have := (List.getElem?_eq_some_iff.1 hj).1; omega
    rw [← hj, ← hc j hjk]
    simp
/-- A slice. -/
theorem slice_of {T : Type} (av : T → AV) (sz : T → Nat) {K : KW} (hK : ∀ b o v, w.cell? ⟨b, o, none⟩ = some v → K.pc b o = some v) {t e : TypeId} {n k : Nat} (ht : P.underlying t = some (.slice e)) (hk : P.cellsOf e = k) (hk0 : 0 < k)
    (ih : ∀ cs x, DataW.trod enc P w 0 (fun _ => true) true n e cs = some x → ∃ i : T, ElemAt K k (av i) cs ∧ sz i ≤ uptoBulk x.1) {cs : List Value} {x : DataW H × List MemPlace}
    (h : DataW.trod enc P w 0 (fun _ => true) true (n + 1) t cs = some x) : ∃ l : List T, ElemAt K 1 (.sl (l.map av) .ro) cs ∧ (l.map sz).sum + 1 ≤ uptoBulk x.1 := by
  rcases DataW.trod_slice ht h with ⟨rfl, rfl⟩ | ⟨a, len, cap, elems, rest, n', e1, rfl, rfl, _, h1, h2, h3, h4, h5, h6⟩
  · refine ⟨[], ⟨?_, ?_, rfl⟩, by simp [uptoBulk]⟩
    · simp [AV.cells, RelL, Rel, PRel]
    · simp [Value.oneCell']
  · obtain rfl : n' = n := by omega
    rw [hk] at h4
    have key : ∀ i y, elems[i]? = some y → ∃ cs, cs.length = k ∧ (∀ j, j < k → w.cell? ((a.add (i * k)).add j) = cs[j]?) ∧ DataW.trod enc P w 0 (fun _ => true) true n' e cs = some y := by
      intro i y hy
      have hi : i < len := by have := (List.getElem?_eq_some_iff.1 hy).1; omega
      have := h4 i hi
      rw [hy] at this
      obtain ⟨cs, q1, q2⟩ := Option.bind_eq_some_iff.1 this
      obtain ⟨_, q3, q4⟩ := World.cells?_some q1
      exact ⟨cs, q3, q4, q2⟩
    have hb1 : ∀ (l : List T), (l.map sz).sum ≤ uptoBulkAll (elems.map (·.1)) → (l.map sz).sum + 1 ≤ uptoBulk (DataW.slice (elems.map (·.1)) (rest.map (·.1))) := by
      intro l hl
      simp only [uptoBulk]; omega
    cases elems with
    | nil =>
      simp at h3
      subst h3
      refine ⟨[], ⟨?_, ?_, rfl⟩, hb1 [] (by simp)⟩
      · simp [AV.cells, RelL, Rel, PRel]
      · simp [Value.oneCell']
    | cons y0 el =>
      have hsp : a.spot = none := by
        obtain ⟨cs, q1, q2, q3⟩ := key 0 y0 rfl
        have := q2 0 hk0
        simp only [Nat.zero_mul, Addr.add, if_true] at this
        cases hs : a.spot with
        | none => rfl
        | some z =>
          exfalso
          have hnone : w.cell? a = none := by
            unfold World.cell?
            split
            · simp [hs]
            · rfl
          rw [hnone] at this
          have hlt : 0 < cs.length := by omega
          rw [List.getElem?_eq_getElem hlt] at this
          cases this
      obtain ⟨b, o, sp⟩ := a
      simp only at hsp
      subst hsp
      obtain ⟨l, l1, l2, l3⟩ := row_of av sz hK ih (y0 :: el) o (b := b) (k := k) (fun i y hy => by
        obtain ⟨cs, q1, q2, q3⟩ := key i y hy
        refine ⟨cs, q1, fun j hj => ?_, q3⟩
        rw [← q2 j hj]
        congr 1
        unfold Addr.add
        split <;> split <;> simp_all <;> omega)
      refine ⟨l, ⟨?_, ?_, rfl⟩, hb1 l l3⟩
      · simp only [AV.cells, RelL, Rel, PRel]
        refine ⟨_, _, rfl, ⟨some ⟨b, o, none⟩, cap, k, ?_, ?_, trivial, .inr ⟨b, o, rfl, l2⟩⟩, rfl⟩
        · simp only [List.length_map]
          rw [l1, h3]
        · simp only [List.length_map]
          omega
      · simp [Value.oneCell']
theorem int_of {K : KW} {t : TypeId} {k : IntKind} (ht : P.underlying t = some (.int k)) {n : Nat} {cs : List Value} {x : DataW H × List MemPlace} (h : DataW.trod enc P w 0 (fun _ => true) true n t cs = some x) :
    ∃ z : Int, ElemAt K 1 (.s (.int k z)) cs ∧ 1 ≤ uptoBulk x.1 := by
  obtain ⟨z, rfl, rfl, _⟩ := DataW.trod_int ht h
  exact ⟨z, ⟨by simp [AV.cells, RelL, Rel, Value.oneCell'], by simp [Value.oneCell'], rfl⟩, by simp [uptoBulk]⟩
theorem bool_of {K : KW} {t : TypeId} (ht : P.underlying t = some .bool) {n : Nat} {cs : List Value} {x : DataW H × List MemPlace} (h : DataW.trod enc P w 0 (fun _ => true) true n t cs = some x) :
    ∃ z : Bool, ElemAt K 1 (.s (.bool z)) cs ∧ 1 ≤ uptoBulk x.1 := by
  obtain ⟨z, rfl, rfl⟩ := DataW.trod_bool ht h
  exact ⟨z, ⟨by simp [AV.cells, RelL, Rel, Value.oneCell'], by simp [Value.oneCell'], rfl⟩, by simp [uptoBulk]⟩
end
end Go.Proofs.YtggoggdcnahkaaaDoor
