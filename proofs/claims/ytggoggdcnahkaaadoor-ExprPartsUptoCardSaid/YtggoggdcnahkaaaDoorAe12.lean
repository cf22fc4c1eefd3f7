/- Regions that draw their order: the theorem. -/
import Derived.Test.YtggoggdcnahkaaaDoorAe11
set_option linter.unusedVariables false
set_option linter.unusedSimpArgs false
namespace Go.Proofs.YtggoggdcnahkaaaDoor
open Go Go.RowKit

theorem putN_last {l : List Oper} {v : Nat → AV} {S : Nat → Bool} {env : Env} {t j : Nat} (hS : S j = true) (hd : (l[j]?).bind (·.dst) = some t) : ∀ n, j < n → (∀ i, j < i → i < n → S i = true → (l[i]?).bind (·.dst) ≠ some t) → putN l v S env n t = some (v j)
  | 0, hj, _ => by omega
  | n + 1, hj, h => by
    simp only [putN]
    by_cases e : n = j
    · subst e
      rw [if_pos hS, hd]
      simp [Env.put]
    · have ih := putN_last (v := v) (env := env) hS hd n (by omega) fun i h1 h2 => h i h1 (by omega)
      split
      · rename_i hn
        have hne := h n (by omega) (by omega) hn
        cases hdn : (l[n]?).bind (·.dst) with
        | none => simpa [Env.put] using ih
        | some d => simp only [Env.put]; rw [if_neg (fun e => hne (by rw [hdn, e]))]; exact ih
      · exact ih

theorem putN_lt {l : List Oper} {v : Nat → AV} {env : Env} {j : Nat} : ∀ n, j ≤ n → putN l v (fun i => decide (i < j)) env n = putN l v (fun _ => true) env j := by
  intro n hn
  have h0 : putN l v (fun i => decide (i < j)) env j = putN l v (fun _ => true) env j := by
    funext t
    exact putN_at j fun i hi hne => absurd (by simp [hi]) hne
  induction n with
  | zero =>
    have hj0 : j = 0 := by omega
    subst hj0; exact h0
  | succ n ih =>
    by_cases e : j = n + 1
    · subst e; exact h0
    · simp only [putN]
      rw [if_neg (by simp; omega)]
      exact ih (by omega)

section
variable {P : Program} {G : Nat → Nat → Option Value} {bf : TypeId → Bool} {cf : FuncId → List AV → Heap → Option (AV × Heap)} {pure : FuncId → Bool} {ops : Array Oper} {base N : Nat} {R : Nat → Nat → Option Value} {K0 : KW} {w0 : World} {env : Env} {v : Nat → AV} {hs : Nat → Heap} {H0 : Heap}

/-- How a region stands: which operations have come up. -/
structure Inv (P : Program) (pure : FuncId → Bool) (bf : TypeId → Bool) (ops : Array Oper) (base : Nat) (R : Nat → Nat → Option Value) (N : Nat) (K0 : KW) (w0 : World) (env : Env) (v : Nat → AV) (hs : Nat → Heap) (fuel : Nat) (listed : Array Bool) (a : Act) (w : World) : Prop where
  size : listed.size = ops.size
  count : (List.range ops.size).countP (fun i => !listed.getD i false) ≤ fuel
  closed : ∀ j, listed.getD j false = true → ∀ i, ((masksA ops.toList []).getD j 0).testBit i = true → listed.getD i false = true
  st : ∃ K q, K0.le K ∧ WR base R K (hs q) w ∧ Below base w0 w ∧ EnvRel K N (putN ops.toList v (fun i => listed.getD i false) env ops.size) a ∧ q ≤ ops.size ∧
    ∀ i o, ops[i]? = some o → kindA pure bf o.op = 2 → (listed.getD i false = true ↔ i < q)

theorem regOK_x (h : regOK pure bf ops = true) : regOKx pure bf ops [] = true := by
  unfold regOK at h
  unfold regOKx
  rw [List.all_eq_true] at h ⊢
  intro j hj
  have h1 := h j hj
  rw [Bool.and_eq_true] at h1 ⊢
  refine ⟨h1.1, ?_⟩
  have h2 := h1.2
  rw [List.all_eq_true] at h2 ⊢
  intro i hi
  rw [h2 i hi, Bool.true_or]
theorem regOK_pair {exc : List (Nat × Nat)} (h : regOKx pure bf ops exc = true) {i j : Nat} {oi oj : Oper} (hi : ops[i]? = some oi) (hj : ops[j]? = some oj) (hij : i < j) :
    ((masksA ops.toList []).getD j 0).testBit i = true ∨ oi.apart ops oj = true ∧ (kindA pure bf oi.op + kindA pure bf oj.op < 3 ∨ bf 0 = true ∧ (isLoad oi.op = true ∧ isApp oj.op = true ∨ isApp oi.op = true ∧ isLoad oj.op = true) ∨ ((i, j) ∈ exc ∧ isLoad oi.op = true ∨ (j, i) ∈ exc ∧ isLoad oj.op = true)) := by
  unfold regOKx at h
  rw [List.all_eq_true] at h
  have hjs := (Array.getElem?_eq_some_iff.1 hj).1
  have h1 := h j (List.mem_range.2 hjs)
  rw [Bool.and_eq_true, List.all_eq_true] at h1
  have h2 := h1.2 i (List.mem_range.2 hij)
  unfold pairOK at h2
  have ei : ops.getD i default = oi := by simp [Array.getD_eq_getD_getElem?, hi]
  have ej : ops.getD j default = oj := by simp [Array.getD_eq_getD_getElem?, hj]
  rw [ei, ej] at h2
  simp only [Bool.or_eq_true, Bool.and_eq_true, decide_eq_true_eq, List.contains_iff_mem] at h2
  rcases h2 with (h2 | ⟨h2, h3 | ⟨h3, h4⟩⟩) | ⟨h2, h3⟩
  · exact .inl h2
  · exact .inr ⟨h2, .inl h3⟩
  · exact .inr ⟨h2, .inr (.inl ⟨h3, h4⟩)⟩
  · exact .inr ⟨h2, .inr (.inr h3)⟩

theorem regOK_back {exc : List (Nat × Nat)} (h : regOKx pure bf ops exc = true) {j : Nat} {oj : Oper} (hj : ops[j]? = some oj) {e : Edge} (he : e ∈ oj.after) (hb : Region.binds .any e = true) : e.on < j := by
  unfold regOKx at h
  rw [List.all_eq_true] at h
  have hjs := (Array.getElem?_eq_some_iff.1 hj).1
  have h1 := h j (List.mem_range.2 hjs)
  rw [Bool.and_eq_true, Array.all_eq_true_iff_forall_mem] at h1
  have ej : ops.getD j default = oj := by simp [Array.getD_eq_getD_getElem?, hj]
  rw [ej] at h1
  have := h1.1 e he
  simpa [hb] using this

theorem hs_const (htr : ∀ i o, ops[i]? = some o → kindA pure bf o.op ≠ 2 → hs (i + 1) = hs i) : ∀ (d q : Nat), q + d ≤ ops.size → (∀ i o, q ≤ i → i < q + d → ops[i]? = some o → kindA pure bf o.op ≠ 2) → hs (q + d) = hs q
  | 0, q, _, _ => rfl
  | d + 1, q, hn, h => by
    have ih := hs_const htr d q (by omega) fun i o h1 h2 => h i o h1 (by omega)
    have hlt : q + d < ops.size := by omega
    have := htr (q + d) ops[q + d] (Array.getElem?_eq_getElem hlt) (h (q + d) _ (by omega) (by omega) (Array.getElem?_eq_getElem hlt))
    rw [← ih, ← this]; rfl

theorem hs_eq (htr : ∀ i o, ops[i]? = some o → kindA pure bf o.op ≠ 2 → hs (i + 1) = hs i) {q j : Nat} (hq : q ≤ ops.size) (hj : j ≤ ops.size) (h : ∀ i o, ops[i]? = some o → kindA pure bf o.op = 2 → (i < q ↔ i < j)) : hs q = hs j := by
  rcases Nat.le_total q j with hle | hle
  · have := hs_const htr (j - q) q (by omega) fun i o h1 h2 ho hk => by
      have := (h i o ho hk).2 (by omega)
      omega
    rw [← this]; congr 1; omega
  · have := hs_const htr (q - j) j (by omega) fun i o h1 h2 ho hk => by
      have := (h i o ho hk).1 (by omega)
      omega
    rw [← this]; congr 1; omega

theorem load_kind {o : Op} (h : isLoad o = true) : kindA pure bf o = 1 := by
  cases o <;> simp [isLoad] at h <;> rfl
/-- What is appended leaves variables alone. -/
theorem appendA_box {b : Bool} {H H1 : Heap} {sz bytes : Nat} {x r : AV} {ys : List AV} (h : appendA b H sz bytes x ys = some (r, H1)) (τ : Nat) (cs : List AV) : H[τ]? = some (.box cs) ↔ H1[τ]? = some (.box cs) := by
  have hset : ∀ (τ' : Nat) (o n : Rec), H[τ']? = some o → (∀ c, o ≠ .box c) → (∀ c, n ≠ .box c) → (H[τ]? = some (.box cs) ↔ (H.set τ' n)[τ]? = some (.box cs)) := by
    intro τ' o n ho h1 h2
    by_cases e : τ' = τ
    · subst e
      have hlt := (List.getElem?_eq_some_iff.1 ho).1
      rw [ho, List.getElem?_set_self hlt]
      constructor
      · intro h; injection h with h; exact absurd h (h1 cs)
      · intro h; injection h with h; exact absurd h (h2 cs)
    · rw [List.getElem?_set_ne e]
  have hpush : ∀ n : Rec, (∀ c, n ≠ .box c) → (H[τ]? = some (.box cs) ↔ (H ++ [n])[τ]? = some (.box cs)) := by
    intro n hn
    by_cases hlt : τ < H.length
    · rw [List.getElem?_append_left hlt]
    · constructor
      · intro h; exact absurd (List.getElem?_eq_some_iff.1 h).1 hlt
      · intro h
        rw [List.getElem?_append_right (by omega)] at h
        have := (List.getElem?_eq_some_iff.1 h).1
        simp at this
        rw [this] at h
        simp at h
        exact absurd h (hn cs)
  unfold appendA at h
  split at h
  · split at h
    · split at h
      · split at h
        · rename_i ho
          split at h
          · injection h with h; injection h with _ h; subst h
            exact hset _ _ _ ho (by intro c e; cases e) (by intro c e; cases e)
          · cases h
        · cases h
      · split at h
        · injection h with h; injection h with _ h; subst h; exact Iff.rfl
        · split at h
          · cases h
          · split at h
            · injection h with h; injection h with _ h; subst h
              exact hpush _ (by intro c e; cases e)
            · injection h with h; injection h with _ h; subst h
              exact hpush _ (by intro c e; cases e)
      · split at h
        · injection h with h; injection h with _ h; subst h; exact Iff.rfl
        · cases h
    · cases h
  · split at h
    · split at h
      · rename_i ho
        split at h
        · injection h with h; injection h with _ h; subst h
          exact hset _ _ _ ho (by intro c e; cases e) (by intro c e; cases e)
        · cases h
      · cases h
    · cases h
  · cases h
theorem append_box {o : Oper} {e : Env} {H H1 : Heap} {r : AV} (ha : isApp o.op = true) (h : evOp P G bf cf o e H = some (r, H1)) (τ : Nat) (cs : List AV) : H[τ]? = some (Rec.box cs) ↔ H1[τ]? = some (Rec.box cs) := by
  unfold isApp at ha
  split at ha
  · rename_i c ho
    split at ha
    · rename_i hc
      simp only [evOp, ho, hc] at h
      split at h
      · rename_i l hl
        unfold appendC at h
        split at h
        · split at h
          · split at h
            · split at h
              · split at h
                · split at h
                  · exact appendA_box h τ cs
                  · cases h
                · cases h
              · cases h
            · cases h
          · cases h
        · cases h
      · cases h
    · cases ha
  · cases ha
theorem hs_pred (htr : ∀ i o, ops[i]? = some o → kindA pure bf o.op ≠ 2 → hs (i + 1) = hs i) (Pr : Heap → Prop) :
    ∀ (d q : Nat), q + d ≤ ops.size → (∀ i o, q ≤ i → i < q + d → ops[i]? = some o → kindA pure bf o.op = 2 → (Pr (hs i) ↔ Pr (hs (i + 1)))) → (Pr (hs q) ↔ Pr (hs (q + d)))
  | 0, q, _, _ => Iff.rfl
  | d + 1, q, hn, h => by
    have ih := hs_pred htr Pr d q (by omega) (fun i o h1 h2 => h i o h1 (by omega))
    have hlt : q + d < ops.size := by omega
    have ho := Array.getElem?_eq_getElem hlt
    rw [ih]
    by_cases hk : kindA pure bf ops[q + d].op = 2
    · exact h (q + d) _ (by omega) (by omega) ho hk
    · rw [show q + (d + 1) = q + d + 1 by omega, htr (q + d) _ ho hk]
/-- On what a read hangs: a variable's cells; a row; nothing that turns. -/
theorem load_cases {o : Oper} {e : Env} {H : Heap} {r : AV} (hl : isLoad o.op = true) (h : evOp P G bf cf o e H = some (r, H)) :
    (∃ τ cs, tokA e o = some τ ∧ H[τ]? = some (Rec.box cs) ∧ ∀ H2 : Heap, H2[τ]? = some (Rec.box cs) → evOp P G bf cf o e H2 = some (r, H2)) ∨
    (bf 0 = false ∧ ∃ τ c, tokA e o = some τ ∧ H[τ]? = some c ∧ ∀ H2 : Heap, H2[τ]? = some c → evOp P G bf cf o e H2 = some (r, H2)) ∨ (∀ H2 : Heap, evOp P G bf cf o e H2 = some (r, H2)) := by
  unfold isLoad at hl
  split at hl
  · rename_i t a ho
    simp only [evOp, ho] at h ⊢
    unfold tokA
    simp only [ho]
    split at h
    · rename_i τ k hv
      left
      split at h
      · rename_i cs hc
        refine ⟨τ, cs, by rw [hv], hc, fun H2 h2 => ?_⟩
        rw [h2]
        simp only
        cases hx : loadA P t cs k with
        | none => rw [hx] at h; cases h
        | some x =>
          rw [hx] at h
          simp only [Option.map_some, Option.some.injEq, Prod.mk.injEq] at h ⊢
          exact ⟨h.1, trivial⟩
      · cases h
    · rename_i cs k hv
      right; right
      intro H2
      cases hx : loadA P t cs k with
      | none => rw [hx] at h; cases h
      | some x =>
        rw [hx] at h
        simp only [Option.map_some, Option.some.injEq, Prod.mk.injEq] at h ⊢
        exact ⟨h.1, trivial⟩
    · rename_i τ ep k hv
      right; left
      split at h
      · cases h
      · rename_i hb
        refine ⟨by simpa using hb, ?_⟩
        split at h
        · rename_i e' cs sz hc
          refine ⟨τ, _, by rw [hv], hc, fun H2 h2 => ?_⟩
          rw [h2]
          split at h
          · rename_i he
            simp only [hb, Bool.false_eq_true, if_false, he, if_true]
            cases hx : loadA P t cs k with
            | none => rw [hx] at h; cases h
            | some x =>
              rw [hx] at h
              simp only [Option.map_some, Option.some.injEq, Prod.mk.injEq] at h ⊢
              exact ⟨h.1, trivial⟩
          · cases h
        · cases h
    · rename_i b k hv
      right; right
      intro H2
      split at h
      · rename_i v' h1 h2 h3
        split at h
        · rename_i hc
          simp only [h1, h2, h3, hc, if_true, Option.some.injEq, Prod.mk.injEq] at h ⊢
          exact ⟨h.1, trivial⟩
        · cases h
      · cases h
    · cases h
  · cases hl

theorem drawn_any (hcf : CfOK P G cf) (hG : Gr G base R) (hp : PureCf pure cf) {exc : List (Nat × Nat)} (hok : regOKx pure bf ops exc = true) (hdst : ∀ o ∈ ops.toList, ∀ d, o.dst = some d → d < N)
    (hexc : ∀ a b oa, (a, b) ∈ exc → ops[a]? = some oa → b < ops.size → ∀ τ : Nat, tokA (putN ops.toList v (fun _ => true) env a) oa = some τ → (hs b)[τ]? = (hs (b + 1))[τ]?)
    (htr : ∀ i o, ops[i]? = some o → StepA P G bf cf ops o (putN ops.toList v (fun _ => true) env i) (hs i) (v i) (hs (i + 1))) {Q : Exit → Act → World → Prop}
    (hQ : ∀ a' w', RegPost base R N K0 w0 (putN ops.toList v (fun _ => true) env ops.size) (hs ops.size) a' w' → Q .normal a' w') :
    ∀ (fuel : Nat) (listed : Array Bool) (a : Act) (w : World), Inv P pure bf ops base R N K0 w0 env v hs fuel listed a w → wpAny P .any ops Q fuel listed a w := by
  have hstep : ∀ i o, ops[i]? = some o → kindA pure bf o.op ≠ 2 → hs (i + 1) = hs i := by
    intro i o ho hk
    obtain ⟨b, _, h⟩ := htr i o ho
    rcases h with ⟨_, h⟩ | ⟨_, _, h⟩
    · exact kind1 hp hk h
    · exact h
  have hl : ∀ i : Nat, ops.toList[i]? = ops[i]? := fun i => Array.getElem?_toList
  -- when all have come up
  have hall : ∀ (listed : Array Bool) (fuel : Nat) (a : Act) (w : World), Inv P pure bf ops base R N K0 w0 env v hs fuel listed a w → (∀ i, i < ops.size → listed.getD i false = true) → Q .normal a w := by
    intro listed fuel a w hinv hfull
    obtain ⟨K, q, k1, k2, k3, k4, k5, k6⟩ := hinv.st
    refine hQ a w ⟨K, k1, ?_, k3, ?_⟩
    · rw [← hs_eq (pure := pure) hstep k5 (Nat.le_refl _) fun i o ho hk => ⟨fun _ => (Array.getElem?_eq_some_iff.1 ho).1, fun hi => (k6 i o ho hk).1 (hfull i hi)⟩]
      exact k2
    · have : putN ops.toList v (fun _ => true) env ops.size = putN ops.toList v (fun i => listed.getD i false) env ops.size := by
        funext t
        exact putN_at _ fun i hi hne => absurd (hfull i hi).symm hne
      rw [this]; exact k4
  have hnone : ∀ (listed : Array Bool), listed.size = ops.size → Region.ready .any ops listed = [] → ∀ i, i < ops.size → listed.getD i false = true := by
    intro listed hsz hr i
    induction i using Nat.strongRecOn with
    | _ i ih =>
      intro hi
      rcases Bool.eq_false_or_eq_true (listed.getD i false) with h | h
      · exact h
      · exfalso
        have hmem : i ∈ Region.ready .any ops listed := by
          rw [mem_ready]
          refine ⟨?_, ops[i], Array.getElem?_eq_getElem hi, fun e he hb => ?_⟩
          · simp [hsz, hi] at h ⊢; exact h
          · have := regOK_back hok (Array.getElem?_eq_getElem hi) he hb
            exact ih e.on this (by omega)
        rw [hr] at hmem; cases hmem
  intro fuel
  induction fuel with
  | zero =>
    intro listed a w hinv
    have hfull : ∀ i, i < ops.size → listed.getD i false = true := by
      intro i hi
      have h0 := hinv.count
      rw [Nat.le_zero_eq, List.countP_eq_zero] at h0
      have := h0 i (List.mem_range.2 hi)
      simpa using this
    refine ⟨?_, hall listed 0 a w hinv hfull⟩
    rw [List.eq_nil_iff_forall_not_mem]
    intro j hj
    obtain ⟨h1, o, ho, _⟩ := mem_ready.1 hj
    have hlt := (Array.getElem?_eq_some_iff.1 ho).1
    have := hfull j hlt
    simp [hinv.size, hlt] at h1 this
    rw [h1] at this; cases this
  | succ fuel ih =>
    intro listed a w hinv
    refine ⟨fun hr => hall listed _ a w hinv (hnone listed hinv.size hr), fun j hj => ?_⟩
    obtain ⟨hun, oj, hoj, hedges⟩ := mem_ready.1 hj
    have hjlt := (Array.getElem?_eq_some_iff.1 hoj).1
    have hSj : listed.getD j false = false := by simp [hinv.size, hjlt] at hun ⊢; exact hun
    obtain ⟨K, q, k1, k2, k3, k4, k5, k6⟩ := hinv.st
    -- what must have come up ahead of j has
    have hpred : ∀ i, ((masksA ops.toList []).getD j 0).testBit i = true → listed.getD i false = true := by
      intro i hi
      obtain ⟨e, he, hb, hd⟩ := mask_bit (by rw [hl]; exact hoj) hi
      have h1 := hedges e he hb
      rcases hd with rfl | ⟨_, hd⟩
      · exact h1
      · exact hinv.closed _ h1 i hd
    have hA : ∀ i oi, i < j → ops[i]? = some oi → listed.getD i false = false → oi.apart ops oj = true ∧ (kindA pure bf oi.op + kindA pure bf oj.op < 3 ∨ bf 0 = true ∧ (isLoad oi.op = true ∧ isApp oj.op = true ∨ isApp oi.op = true ∧ isLoad oj.op = true) ∨ ((i, j) ∈ exc ∧ isLoad oi.op = true ∨ (j, i) ∈ exc ∧ isLoad oj.op = true)) := by
      intro i oi hij hoi hS
      rcases regOK_pair hok hoi hoj hij with h | h
      · rw [hpred i h] at hS; cases hS
      · exact h
    have hB : ∀ i oi, j < i → ops[i]? = some oi → listed.getD i false = true → oj.apart ops oi = true ∧ (kindA pure bf oj.op + kindA pure bf oi.op < 3 ∨ bf 0 = true ∧ (isLoad oj.op = true ∧ isApp oi.op = true ∨ isApp oj.op = true ∧ isLoad oi.op = true) ∨ ((j, i) ∈ exc ∧ isLoad oj.op = true ∨ (i, j) ∈ exc ∧ isLoad oi.op = true)) := by
      intro i oi hij hoi hS
      rcases regOK_pair hok hoj hoi hij with h | h
      · rw [hinv.closed i hS j h] at hSj; cases hSj
      · exact h
    -- what j looks at is as it is in the text's order
    have hlook : ∀ t, t ∈ oj.looksAt ops → putN ops.toList v (fun i => listed.getD i false) env ops.size t = putN ops.toList v (fun _ => true) env j t := by
      intro t ht
      rw [← putN_lt (v := v) (env := env) (j := j) ops.size (by omega)]
      refine putN_at _ fun i hi hne hdi => ?_
      rw [hl] at hdi
      obtain ⟨oi, hoi, hdi⟩ := Option.bind_eq_some_iff.1 hdi
      rcases Nat.lt_trichotomy i j with hij | hij | hij
      · have hS : listed.getD i false = false := by
          rcases Bool.eq_false_or_eq_true (listed.getD i false) with h | h
          · rw [h] at hne; simp [hij] at hne
          · exact h
        exact (Oper.apart_spec (hA i oi hij hoi hS).1).1 t hdi ht
      · subst hij; rw [hSj] at hne; simp at hne
      · have hS : listed.getD i false = true := by
          rcases Bool.eq_false_or_eq_true (listed.getD i false) with h | h
          · exact h
          · rw [h] at hne; simp at hne; omega
        exact (Oper.apart_spec (hB i oi hij hoi hS).1).2.2 t hdi ht
    have hval : ∀ x ∈ oj.op.operands, valA (putN ops.toList v (fun i => listed.getD i false) env ops.size) x = valA (putN ops.toList v (fun _ => true) env j) x := by
      intro x hx
      cases x with
      | tmp t => exact hlook t (List.mem_append_left _ (List.mem_filterMap.2 ⟨.tmp t, by simpa using hx, rfl⟩))
      | const c => rfl
      | global g => rfl
      | func f => rfl
    have hwanted : wantedA ops oj (putN ops.toList v (fun i => listed.getD i false) env ops.size) = wantedA ops oj (putN ops.toList v (fun _ => true) env j) := by
      unfold wantedA
      cases hg : oj.guard with
      | none => rfl
      | some gw =>
        obtain ⟨g, want⟩ := gw
        simp only
        cases hb : (ops[g]?).bind (·.dst) with
        | none => rfl
        | some t =>
          simp only
          rw [hlook t (List.mem_append_right _ (by simp [hg, hb]))]
    -- tokens
    have hmeet : ∀ i o, ops[i]? = some o → kindA pure bf o.op = 2 → kindA pure bf oj.op ≠ 0 → ¬(i < q ↔ i < j) → isLoad oj.op = true ∧ (isApp o.op = true ∧ bf 0 = true ∨ (j, i) ∈ exc) := by
      intro i o ho hk hk0 hne
      have nl : isLoad o.op = true → False := fun h => by rw [load_kind h] at hk; cases hk
      by_cases e : i = j
      · subst e
        have := k6 i o ho hk
        rw [hSj] at this
        exfalso; apply hne
        constructor
        · intro h; have := this.2 h; cases this
        · intro h; omega
      · rcases Nat.lt_or_gt_of_ne e with h | h
        · rcases Bool.eq_false_or_eq_true (listed.getD i false) with hS | hS
          · exact absurd ⟨fun _ => h, fun _ => (k6 i o ho hk).1 hS⟩ hne
          · rcases (hA i o h ho hS).2 with h3 | ⟨h3, h4 | h4⟩ | h4 | h4
            · omega
            · exact (nl h4.1).elim
            · exact ⟨h4.2, .inl ⟨h4.1, h3⟩⟩
            · exact (nl h4.2).elim
            · exact ⟨h4.2, .inr h4.1⟩
        · rcases Bool.eq_false_or_eq_true (listed.getD i false) with hS | hS
          · rcases (hB i o h ho hS).2 with h3 | ⟨h3, h4 | h4⟩ | h4 | h4
            · omega
            · exact ⟨h4.1, .inl ⟨h4.2, h3⟩⟩
            · exact (nl h4.2).elim
            · exact ⟨h4.2, .inr h4.1⟩
            · exact (nl h4.2).elim
          · have := k6 i o ho hk
            rw [hS] at this
            exfalso; apply hne
            constructor
            · intro h1; have := this.2 h1; cases this
            · intro h1; omega
    have hheap : kindA pure bf oj.op ≠ 0 → isLoad oj.op ≠ true → hs q = hs j := fun hk0 hnl => hs_eq (pure := pure) hstep k5 (by omega) fun i o ho hk => by
      by_cases hc : (i < q ↔ i < j)
      · exact hc
      · exact absurd (hmeet i o ho hk hk0 hc).1 hnl
    have hap : ∀ i o, ops[i]? = some o → isApp o.op = true → ∀ (τ : Nat) (cs : List AV), (hs i)[τ]? = some (Rec.box cs) ↔ (hs (i + 1))[τ]? = some (Rec.box cs) := by
      intro i o ho ha τ cs
      obtain ⟨b, _, h⟩ := htr i o ho
      rcases h with ⟨_, h⟩ | ⟨_, _, h⟩
      · exact append_box ha h τ cs
      · rw [h]
    have hpr : ∀ Pr : Heap → Prop, (∀ i o, ops[i]? = some o → kindA pure bf o.op = 2 → ¬(i < q ↔ i < j) → (Pr (hs i) ↔ Pr (hs (i + 1)))) → (Pr (hs q) ↔ Pr (hs j)) := by
      intro Pr h
      rcases Nat.le_total q j with hle | hle
      · have := hs_pred (pure := pure) hstep Pr (j - q) q (by omega) (fun i o h1 h2 ho hk => h i o ho hk (by omega))
        rwa [show q + (j - q) = j by omega] at this
      · have := hs_pred (pure := pure) hstep Pr (q - j) j (by omega) (fun i o h1 h2 ho hk => h i o ho hk (by omega))
        rw [show j + (q - j) = q by omega] at this
        exact this.symm
    have hload : isLoad oj.op = true → evOp P G bf cf oj (putN ops.toList v (fun _ => true) env j) (hs j) = some (v j, hs j) → evOp P G bf cf oj (putN ops.toList v (fun _ => true) env j) (hs q) = some (v j, hs q) := by
      intro hl1 hev
      have hk0 : kindA pure bf oj.op ≠ 0 := by rw [load_kind hl1]; decide
      rcases load_cases hl1 hev with ⟨τ, cs, t1, t2, t3⟩ | ⟨hb0, τ, c, t1, t2, t3⟩ | t3
      · refine t3 _ ((hpr (fun H => H[τ]? = some (Rec.box cs)) fun i o ho hk hne => ?_).2 t2)
        rcases (hmeet i o ho hk hk0 hne).2 with h | h
        · exact hap i o ho h.1 τ cs
        · rw [hexc j i oj h hoj (Array.getElem?_eq_some_iff.1 ho).1 τ t1]
      · refine t3 _ ((hpr (fun H => H[τ]? = some c) fun i o ho hk hne => ?_).2 t2)
        rcases (hmeet i o ho hk hk0 hne).2 with h | h
        · rw [hb0] at h; cases h.2
        · rw [hexc j i oj h hoj (Array.getElem?_eq_some_iff.1 ho).1 τ t1]
      · exact t3 _
    obtain ⟨b, hb, hdo⟩ := htr j oj hoj
    have hwant := wantedA_rel k4 (hwanted.trans hb)
    -- how the region stands behind it
    have hnext : ∀ (K2 : KW) (H2 : Heap) (u : Value) (w2 : World), K.le K2 → WR base R K2 H2 w2 → Below base w w2 → Rel K2 (v j) u → (H2 = hs q ∧ kindA pure bf oj.op ≠ 2 ∨ H2 = hs (j + 1) ∧ kindA pure bf oj.op = 2) →
        Inv P pure bf ops base R N K0 w0 env v hs fuel (listed.setIfInBounds j true) (a.put oj.dst u) w2 := by
      intro K2 H2 u w2 l1 l2 l3 l4 l5
      have hget : ∀ i, (listed.setIfInBounds j true).getD i false = if i = j then true else listed.getD i false := by
        intro i
        by_cases e : i = j
        · subst e; simp [hinv.size, hjlt]
        · rw [if_neg e, getD_set_ne false (Ne.symm e)]
      refine ⟨by simpa using hinv.size, ?_, ?_, ?_⟩
      · have := countP_lt (fun i => !listed.getD i false) (fun i => !(listed.setIfInBounds j true).getD i false) j (by simp [hSj]) (by rw [hget]; simp) (fun i hi => by rw [hget, if_neg hi]) ops.size hjlt
        have := hinv.count
        omega
      · intro i hi k hk
        rw [hget] at hi ⊢
        split
        · rfl
        · split at hi
          · rename_i e; subst e; exact hpred k hk
          · exact hinv.closed i hi k hk
      · have henv : putN ops.toList v (fun i => (listed.setIfInBounds j true).getD i false) env ops.size = Env.put (putN ops.toList v (fun i => listed.getD i false) env ops.size) oj.dst (v j) := by
          funext t
          by_cases hd : oj.dst = some t
          · rw [putN_last (j := j) (by rw [hget]; simp) (by rw [hl, hoj]; exact hd) ops.size hjlt]
            · rw [hd]; simp [Env.put]
            · intro i h1 h2 h3 h4
              rw [hget, if_neg (by omega)] at h3
              rw [hl] at h4
              obtain ⟨oi, hoi, hdi⟩ := Option.bind_eq_some_iff.1 h4
              exact (Oper.apart_spec (hB i oi h1 hoi h3).1).2.1 t hd hdi
          · have h1 : Env.put (putN ops.toList v (fun i => listed.getD i false) env ops.size) oj.dst (v j) t = putN ops.toList v (fun i => listed.getD i false) env ops.size t := by
              cases hdd : oj.dst with
              | none => rfl
              | some d => simp only [Env.put]; rw [if_neg (fun e => hd (by rw [hdd, e]))]
            rw [h1]
            refine putN_at _ fun i hi hne => ?_
            rw [hget] at hne
            split at hne
            · rename_i e; subst e; rw [hl, hoj]; exact hd
            · exact absurd rfl hne
        have hdN : ∀ d, oj.dst = some d → d < N := hdst oj (by rw [← Array.mem_def]; exact Array.mem_of_getElem? hoj)
        rcases l5 with ⟨rfl, hk⟩ | ⟨rfl, hk⟩
        · refine ⟨K2, q, k1.trans l1, l2, k3.trans l3, ?_, k5, fun i o ho hk2 => ?_⟩
          · rw [henv]; exact (k4.mono l1).put hdN l4
          · rw [hget]
            split
            · rename_i e; subst e
              rw [hoj] at ho; injection ho with ho; subst ho
              exact absurd hk2 hk
            · exact k6 i o ho hk2
        · refine ⟨K2, j + 1, k1.trans l1, l2, k3.trans l3, ?_, by omega, fun i o ho hk2 => ?_⟩
          · rw [henv]; exact (k4.mono l1).put hdN l4
          · rw [hget]
            split
            · rename_i e; subst e; simp
            · rename_i e
              constructor
              · intro hS
                rcases Nat.lt_or_gt_of_ne e with h | h
                · omega
                · rcases (hB i o h ho hS).2 with h3 | ⟨_, h3 | h3⟩ | h3 | h3
                  · omega
                  · rw [load_kind h3.1] at hk; cases hk
                  · rw [load_kind h3.2] at hk2; cases hk2
                  · rw [load_kind h3.2] at hk; cases hk
                  · rw [load_kind h3.2] at hk2; cases hk2
              · intro hij
                rcases Bool.eq_false_or_eq_true (listed.getD i false) with h | h
                · exact h
                · rcases (hA i o (by omega) ho h).2 with h3 | ⟨_, h3 | h3⟩ | h3 | h3
                  · omega
                  · rw [load_kind h3.1] at hk2; cases hk2
                  · rw [load_kind h3.2] at hk; cases hk
                  · rw [load_kind h3.2] at hk2; cases hk2
                  · rw [load_kind h3.2] at hk; cases hk
    unfold wpOp
    rw [hoj]
    simp only
    rw [hwant]
    rcases hdo with ⟨rfl, hdo⟩ | ⟨rfl, hvj, hh⟩
    · simp only [if_true]
      left
      by_cases hk0 : kindA pure bf oj.op = 0
      · obtain ⟨_, h2⟩ := kind0 hp hk0 hdo
        have hev : evOp P G bf cf oj (putN ops.toList v (fun i => listed.getD i false) env ops.size) (hs q) = some (v j, hs q) := by
          rw [evOp_congr hval]; exact h2 _
        refine (evOp_sound hcf hG k2 k4 hev).wp fun u w2 ⟨K2, l1, l2, l3, l4⟩ => ?_
        exact ih _ _ _ (hnext K2 _ u w2 l1 l2 l3 l4 (.inl ⟨rfl, by omega⟩))
      · by_cases hnl : isLoad oj.op = true
        · have hk2 : kindA pure bf oj.op ≠ 2 := by rw [load_kind hnl]; decide
          have hdo' := hdo
          rw [hstep j oj hoj hk2] at hdo'
          have hev : evOp P G bf cf oj (putN ops.toList v (fun i => listed.getD i false) env ops.size) (hs q) = some (v j, hs q) := by
            rw [evOp_congr hval]; exact hload hnl hdo'
          refine (evOp_sound hcf hG k2 k4 hev).wp fun u w2 ⟨K2, l1, l2, l3, l4⟩ => ?_
          exact ih _ _ _ (hnext K2 _ u w2 l1 l2 l3 l4 (.inl ⟨rfl, hk2⟩))
        have hev : evOp P G bf cf oj (putN ops.toList v (fun i => listed.getD i false) env ops.size) (hs q) = some (v j, hs (j + 1)) := by
          rw [evOp_congr hval, hheap hk0 hnl]; exact hdo
        refine (evOp_sound hcf hG k2 k4 hev).wp fun u w2 ⟨K2, l1, l2, l3, l4⟩ => ?_
        refine ih _ _ _ (hnext K2 _ u w2 l1 l2 l3 l4 ?_)
        by_cases hk2 : kindA pure bf oj.op = 2
        · exact .inr ⟨rfl, hk2⟩
        · exact .inl ⟨(hstep j oj hoj hk2).trans (hheap hk0 hnl).symm, hk2⟩
    · simp only [Bool.false_eq_true, if_false]
      refine ih _ _ _ (hnext K (hs q) undef w (KW.le.refl K) k2 (Below.refl _ _) (by rw [hvj]; simp [Rel, RelL, undef]) ?_)
      by_cases hk2 : kindA pure bf oj.op = 2
      · exact .inr ⟨by rw [hh]; exact hheap (by omega) (fun h => by rw [load_kind h] at hk2; cases hk2), hk2⟩
      · exact .inl ⟨rfl, hk2⟩

theorem trA_at : ∀ (l : List Oper) (env : Env) (H : Heap) (v : Nat → AV) (hs : Nat → Heap), hs 0 = H → (∀ i o, l[i]? = some o → StepA P G bf cf ops o (putN l v (fun _ => true) env i) (hs i) (v i) (hs (i + 1))) → ∀ i, i ≤ l.length → (trA P G bf cf ops l env H)[i]? = some (putN l v (fun _ => true) env i, hs i)
  | [], env, H, v, hs, h0, h, i, hi => by
    have : i = 0 := by simpa using hi
    subst this
    simp [trA, putN, h0]
  | o :: l, env, H, v, hs, h0, h, i, hi => by
    cases i with
    | zero => simp [trA, putN, h0]
    | succ i =>
      obtain ⟨b, hb, hd⟩ := h 0 o rfl
      have hput : ∀ i, putN (o :: l) v (fun _ => true) env (i + 1) = putN l (fun j => v (j + 1)) (fun _ => true) (Env.put env o.dst (v 0)) i := by
        intro i
        induction i with
        | zero => simp [putN]
        | succ i ih => rw [putN, ih]; simp [putN]
      simp only [putN] at hb hd
      have ih := trA_at l (Env.put env o.dst (v 0)) (hs 1) (fun j => v (j + 1)) (fun j => hs (j + 1)) rfl (fun k o' ho' => by
        have := h (k + 1) o' (by simpa using ho')
        rw [hput k] at this
        exact this) i (by simpa using hi)
      rw [hput i]
      rcases hd with ⟨rfl, hd⟩ | ⟨rfl, hd, hh⟩
      · rw [h0] at hd
        simp only [trA, hb, if_true, hd]
        simpa using ih
      · rw [h0] at hh
        simp only [trA, hb, Bool.false_eq_true, if_false]
        rw [← hd, ← hh]
        simpa using ih

theorem drawn_sound (hcf : CfOK P G cf) (hG : Gr G base R) (hp : PureCf pure cf) (hok : regOK pure bf ops = true ∨ RegDyn P G pure bf cf ops env H0) (hm : P.follows .mixedOrders = true) (hdst : ∀ o ∈ ops.toList, ∀ d, o.dst = some d → d < N)
    {K : KW} {H' : Heap} {w : World} {a : Act} {env' : Env} (hw : WR base R K H0 w) (he : EnvRel K N env a) (h : evOps P G bf cf ops ops.toList env H0 = some (env', H')) {id : Nat} {Q : Exit → Act → World → Prop}
    (hQ : ∀ a' w', RegPost base R N K w env' H' a' w' → Q .normal a' w') : (Code.region id ops true).wp P Q a w := by
  obtain ⟨v, hs, e1, e2, e3, e4⟩ := evOps_trace ops.toList env H0 env' H' h
  refine wp_region_any hm ?_
  obtain ⟨exc, hx, hexc⟩ : ∃ exc, regOKx pure bf ops exc = true ∧ (∀ a b oa, (a, b) ∈ exc → ops[a]? = some oa → b < ops.size → ∀ τ : Nat, tokA (putN ops.toList v (fun _ => true) env a) oa = some τ → (hs b)[τ]? = (hs (b + 1))[τ]?) := by
    rcases hok with hok | ⟨exc, hx, hexc⟩
    · exact ⟨[], regOK_x hok, fun a b oa h => by cases h⟩
    · refine ⟨exc, hx, fun a b oa hm ha hb τ ht => ?_⟩
      have hat := trA_at (cf := cf) (G := G) (bf := bf) (P := P) ops.toList env H0 v hs e1 e3
      have hal := (Array.getElem?_eq_some_iff.1 ha).1
      exact hexc (a, b) hm oa _ _ _ ha (hat a (by simp; omega)) (hat b (by simp; omega)) (hat (b + 1) (by simp; omega)) τ ht
  refine drawn_any (exc := exc) (base := base) (R := R) (N := N) (K0 := K) (w0 := w) (v := v) (hs := hs) (env := env) hcf hG hp hx hdst hexc (fun i o ho => e3 i o (by rw [Array.getElem?_toList]; exact ho)) (fun a' w' hp' => hQ a' w' ?_) _ _ _ _ ?_
  · rw [e4, ← e2]
    simpa using hp'
  · have hno : ∀ i, (Array.replicate ops.size false).getD i false = false := by
      intro i; simp [Array.getElem?_replicate]; split <;> rfl
    refine ⟨by simp, ?_, ?_, K, 0, KW.le.refl K, by rw [e1]; exact hw.drawn _, ⟨rfl, rfl, rfl, Nat.le_refl _, fun _ _ => rfl⟩, ?_, Nat.zero_le _, ?_⟩
    · have := List.countP_le_length (p := fun i => !(Array.replicate ops.size false).getD i false) (l := List.range ops.size)
      simpa using this
    · intro j hj; rw [hno] at hj; cases hj
    · have : putN ops.toList v (fun i => (Array.replicate ops.size false).getD i false) env ops.size = env := by
        have : ∀ n, putN ops.toList v (fun i => (Array.replicate ops.size false).getD i false) env n = env := by
          intro n
          induction n with
          | zero => rfl
          | succ n ih =>
            have h0 := hno n
            simp only [putN]
            simp only [h0]
            simpa using ih
        exact this _
      rw [this]; exact he
    · intro i o ho hk; rw [hno]; simp
end
end Go.Proofs.YtggoggdcnahkaaaDoor
