/- Regions that draw their order: one walk in the text's order serves them all. -/
import Derived.Test.YtggoggdcnahkaaaDoorAe10
set_option linter.unusedVariables false
set_option linter.unusedSimpArgs false
namespace Go.Proofs.YtggoggdcnahkaaaDoor
open Go Go.RowKit

theorem valsA_congr {env env' : Env} : ∀ {xs : List Operand}, (∀ x ∈ xs, valA env x = valA env' x) → valsA env xs = valsA env' xs
  | [], _ => rfl
  | x :: xs, h => by simp only [valsA]; rw [h x (by simp), valsA_congr fun y hy => h y (by simp [hy])]
theorem partsA_congr {env env' : Env} : ∀ {xs : List (Nat × Operand)}, (∀ x ∈ xs, valA env x.2 = valA env' x.2) → partsA env xs = partsA env' xs
  | [], _ => rfl
  | (i, x) :: xs, h => by simp only [partsA]; rw [h (i, x) (by simp), partsA_congr fun y hy => h y (by simp [hy])]
theorem optNat_congr {env env' : Env} {x : Option Operand} (h : ∀ y ∈ x, valA env y = valA env' y) : optNat env x = optNat env' x := by
  cases x with
  | none => rfl
  | some y => simp only [optNat]; rw [h y (by simp)]

section
variable {P : Program} {G : Nat → Nat → Option Value} {bf : TypeId → Bool} {cf : FuncId → List AV → Heap → Option (AV × Heap)}

theorem evN_congr {o : Oper} {env env' : Env} (h : ∀ x ∈ o.op.operands, valA env x = valA env' x) : evN P o env = evN P o env' := by
  obtain ⟨dst, op, type, pos, after, guard⟩ := o
  simp only at h
  cases op <;> simp only [Op.operands] at h <;> simp only [evN]
  case move x => rw [h x (by simp)]
  case assign x => rw [h x (by simp)]
  case pick c x y => rw [h c (by simp), h x (by simp), h y (by simp)]
  case build t ps => rw [partsA_congr fun x hx => h x.2 (by simp; exact ⟨x.1, by simpa using hx⟩)]
  case buildSlice t n ps => rw [partsA_congr fun x hx => h x.2 (by simp; exact ⟨x.1, by simpa using hx⟩)]
  case nilCheck x => rw [h x (by simp)]
  case binOp b t x y t' => rw [h x (by simp), h y (by simp)]
  case unOp b t x => rw [h x (by simp)]
  case convert s d x => rw [h x (by simp)]
  case makeInterface t x => rw [h x (by simp)]
  case makeFunc fn first caps =>
    cases fn <;> simp only
    rw [valsA_congr fun x hx => h x (by simp; right; simpa using hx)]
  case makeSlice t l c => rw [h l (by simp), h c (by simp)]
  case slice t x lo hi mx =>
    cases mx <;> simp only
    rw [h x (by simp), optNat_congr fun y hy => h y (by simp; right; left; simpa using hy), optNat_congr fun y hy => h y (by simp; right; right; simpa using hy)]
  case fieldAddr s x f => rw [h x (by simp)]
  case field s x f => rw [h x (by simp)]
  case indexAddr t x i => rw [h x (by simp), h i (by simp)]
  case index t x i => rw [h x (by simp), h i (by simp)]
  case extract x i => rw [h x (by simp)]
  case call c =>
    rw [valsA_congr fun x hx => h x (by simp only [Call.operands, Array.mem_append]; right; simpa using hx)]

theorem evOp_congr {o : Oper} {env env' : Env} {H : Heap} (h : ∀ x ∈ o.op.operands, valA env x = valA env' x) : evOp P G bf cf o env H = evOp P G bf cf o env' H := by
  have hN := evN_congr (P := P) h
  obtain ⟨dst, op, type, pos, after, guard⟩ := o
  simp only at h
  cases op <;> simp only [Op.operands] at h <;> simp only [evOp]
  case box e x => rw [h x (by simp)]
  case load t x => rw [h x (by simp)]
  case store t x y => rw [h x (by simp), h y (by simp)]
  case makeSlice t l c => rw [hN]
  case call c =>
    have hv := valsA_congr (env := env) (env' := env') (xs := c.args.toList) fun x hx => h x (by simp only [Call.operands, Array.mem_append]; right; simpa using hx)
    cases hc : c.callee with
    | value f => simp only [hv]; rw [h f (by simp [Call.operands, hc])]
    | invoke r m => rfl
    | builtin b => cases b <;> simp only [hv, hN]
  all_goals first | rw [hN] | rfl

def PureCf (pure : FuncId → Bool) (cf : FuncId → List AV → Heap → Option (AV × Heap)) : Prop :=
  ∀ f, pure f = true → ∀ l H x H1, cf f l H = some (x, H1) → H1 = H ∧ ∀ H2, cf f l H2 = some (x, H2)

theorem map_same {x : Option AV} {r : AV} {H H1 : Heap} (h : x.map (·, H) = some (r, H1)) : H1 = H ∧ ∀ H2 : Heap, x.map (·, H2) = some (r, H2) := by
  obtain ⟨h1, h2⟩ := mapH h
  exact ⟨h2, fun H2 => by rw [h1]; rfl⟩

theorem kind0 {pure : FuncId → Bool} (hp : PureCf pure cf) {o : Oper} {env : Env} {H H1 : Heap} {x : AV} (hk : kindA pure bf o.op = 0) (h : evOp P G bf cf o env H = some (x, H1)) : H1 = H ∧ ∀ H2, evOp P G bf cf o env H2 = some (x, H2) := by
  obtain ⟨dst, op, type, pos, after, guard⟩ := o
  cases op
  case load t x => simp [kindA] at hk
  case store t x y => simp [kindA] at hk
  case box e x => simp [kindA] at hk
  case alloc e => simp [kindA] at hk
  case makeSlice t l c =>
    simp only [kindA] at hk
    split at hk
    · cases hk
    · rename_i hb
      simp only [evOp] at h ⊢
      rw [if_neg hb] at h
      simp only [if_neg hb]
      exact map_same h
  case call c =>
    simp only [kindA] at hk
    simp only [evOp] at h ⊢
    cases hc : c.callee with
    | value f =>
      simp only [hc] at h hk ⊢
      cases f with
      | func f =>
        simp only at hk
        split at hk
        · rename_i hpf
          simp only [valA] at h ⊢
          split at h
          · rename_i g caps l hf hl
            injection hf with hf; injection hf with e1 e2; subst e1 e2
            obtain ⟨k1, k2⟩ := hp _ hpf _ _ _ _ h
            exact ⟨k1, k2⟩
          · cases h
        · cases hk
      | tmp t => simp at hk
      | const v => simp at hk
      | global g => simp at hk
    | invoke r m => simp only [hc] at h; cases h
    | builtin b =>
      simp only [hc] at h hk ⊢
      cases b
      case append => simp at hk
      case copy => simp at hk
      all_goals exact map_same h
  all_goals
    simp only [evOp] at h ⊢
    exact map_same h

theorem kind1 {pure : FuncId → Bool} (hp : PureCf pure cf) {o : Oper} {env : Env} {H H1 : Heap} {x : AV} (hk : kindA pure bf o.op ≠ 2) (h : evOp P G bf cf o env H = some (x, H1)) : H1 = H := by
  by_cases h0 : kindA pure bf o.op = 0
  · exact (kind0 hp h0 h).1
  · obtain ⟨dst, op, type, pos, after, guard⟩ := o
    cases op
    case load t x =>
      simp only [evOp] at h
      split at h
      · split at h
        · exact (mapH h).2
        · cases h
      · exact (mapH h).2
      · split at h
        · cases h
        split at h
        · split at h
          · exact (mapH h).2
          · cases h
        · cases h
      · split at h
        · split at h
          · injection h with h; injection h with h1 h2; exact h2.symm
          · cases h
        · cases h
      · cases h
    case store t x y => simp [kindA] at hk
    case box e x => simp [kindA] at hk
    case alloc e => simp [kindA] at hk
    case makeSlice t l c =>
      simp only [kindA] at hk h0
      split at hk <;> simp_all
    case call c =>
      exfalso
      simp only [kindA] at hk h0
      cases hc : c.callee with
      | value f =>
        simp only [hc] at hk h0
        cases f with
        | func f => simp only at hk h0; split at hk <;> simp_all
        | tmp t => simp at hk
        | const v => simp at hk
        | global g => simp at hk
      | invoke r m => simp [hc] at hk
      | builtin b => simp only [hc] at hk h0; cases b <;> simp_all
    all_goals (simp only [kindA] at h0; exact absurd trivial h0)

/-! The trace of the walk in the text's order -/
def putN (l : List Oper) (v : Nat → AV) (S : Nat → Bool) (env : Env) : Nat → Env
  | 0 => env
  | i + 1 => if S i = true then Env.put (putN l v S env i) ((l[i]?).bind (·.dst)) (v i) else putN l v S env i

def StepA (P : Program) (G : Nat → Nat → Option Value) (bf : TypeId → Bool) (cf : FuncId → List AV → Heap → Option (AV × Heap)) (ops : Array Oper) (o : Oper) (e : Env) (H : Heap) (x : AV) (H1 : Heap) : Prop :=
  ∃ b, wantedA ops o e = some b ∧ (b = true ∧ evOp P G bf cf o e H = some (x, H1) ∨ b = false ∧ x = .tup [] ∧ H1 = H)

theorem evOps_trace {ops : Array Oper} : ∀ (l : List Oper) (env : Env) (H : Heap) (env' : Env) (H' : Heap), evOps P G bf cf ops l env H = some (env', H') →
    ∃ (v : Nat → AV) (hs : Nat → Heap), hs 0 = H ∧ hs l.length = H' ∧ (∀ i o, l[i]? = some o → StepA P G bf cf ops o (putN l v (fun _ => true) env i) (hs i) (v i) (hs (i + 1))) ∧ env' = putN l v (fun _ => true) env l.length
  | [], env, H, env', H', h => by
    simp only [evOps] at h; injection h with h; injection h with h1 h2; subst h1 h2
    exact ⟨fun _ => .tup [], fun _ => H, rfl, rfl, by simp, rfl⟩
  | o :: l, env, H, env', H', h => by
    simp only [evOps] at h
    split at h
    · cases h
    · rename_i b hb
      obtain ⟨x, H1, hx, hrest⟩ : ∃ x H1, StepA P G bf cf ops o env H x H1 ∧ evOps P G bf cf ops l (Env.put env o.dst x) H1 = some (env', H') := by
        cases b with
        | true =>
          simp only [if_true] at h
          split at h
          · cases h
          · rename_i v H1 hv
            exact ⟨v, H1, ⟨true, hb, .inl ⟨rfl, hv⟩⟩, h⟩
        | false =>
          simp only [Bool.false_eq_true, if_false] at h
          exact ⟨.tup [], H, ⟨false, hb, .inr ⟨rfl, rfl, rfl⟩⟩, h⟩
      obtain ⟨v, hs, e1, e2, e3, e4⟩ := evOps_trace l _ _ _ _ hrest
      have hput : ∀ i, putN (o :: l) (fun j => match j with | 0 => x | j + 1 => v j) (fun _ => true) env (i + 1) = putN l v (fun _ => true) (Env.put env o.dst x) i := by
        intro i
        induction i with
        | zero => simp [putN]
        | succ i ih => rw [putN, ih]; simp [putN]
      refine ⟨fun j => match j with | 0 => x | j + 1 => v j, fun j => match j with | 0 => H | j + 1 => hs j, rfl, by simpa using e2, ?_, ?_⟩
      · intro i o' ho'
        cases i with
        | zero => simp at ho'; subst ho'; simpa [putN, e1] using hx
        | succ i => rw [hput i]; exact e3 i o' (by simpa using ho')
      · rw [List.length_cons, hput]; exact e4

theorem putN_at {l : List Oper} {v : Nat → AV} {S S' : Nat → Bool} {env : Env} {t : Nat} : ∀ n, (∀ i, i < n → S i ≠ S' i → (l[i]?).bind (·.dst) ≠ some t) → putN l v S env n t = putN l v S' env n t
  | 0, _ => rfl
  | n + 1, h => by
    have ih := putN_at (l := l) (v := v) (env := env) n fun i hi => h i (by omega)
    simp only [putN]
    by_cases hS : S n = S' n
    · rw [hS]
      split
      · cases hd : (l[n]?).bind (·.dst) with
        | none => simpa [Env.put] using ih
        | some d => simp only [Env.put]; rw [ih]
      · exact ih
    · have hne := h n (by omega) hS
      have hput : Env.put (putN l v S env n) ((l[n]?).bind (·.dst)) (v n) t = putN l v S env n t := by
        cases hd : (l[n]?).bind (·.dst) with
        | none => rfl
        | some d => simp only [Env.put]; rw [if_neg (fun e => hne (by rw [hd, e]))]
      have hput' : Env.put (putN l v S' env n) ((l[n]?).bind (·.dst)) (v n) t = putN l v S' env n t := by
        cases hd : (l[n]?).bind (·.dst) with
        | none => rfl
        | some d => simp only [Env.put]; rw [if_neg (fun e => hne (by rw [hd, e]))]
      split <;> split
      · rw [hput, hput']; exact ih
      · rw [hput]; exact ih
      · rw [hput']; exact ih
      · exact ih

/-! What stands ahead of what -/
theorem foldl_mask (acc : List Nat) (i : Nat) : ∀ (es : List Edge) (s : Nat), (es.foldl (fun s e => if Region.binds .any e then s ||| 2 ^ e.on ||| acc.getD e.on 0 else s) s).testBit i = true →
    s.testBit i = true ∨ ∃ e ∈ es, Region.binds .any e = true ∧ (e.on = i ∨ (acc.getD e.on 0).testBit i = true)
  | [], s, h => .inl h
  | e :: es, s, h => by
    simp only [List.foldl_cons] at h
    rcases foldl_mask acc i es _ h with h | ⟨e', he', hb, hd⟩
    · split at h
      · rename_i hb
        rw [Nat.testBit_or, Nat.testBit_or, Nat.testBit_two_pow] at h
        simp only [Bool.or_eq_true, decide_eq_true_eq] at h
        rcases h with (h | h) | h
        · exact .inl h
        · exact .inr ⟨e, by simp, hb, .inl h⟩
        · exact .inr ⟨e, by simp, hb, .inr h⟩
      · exact .inl h
    · exact .inr ⟨e', by simp [he'], hb, hd⟩

theorem masksA_get : ∀ (l : List Oper) (acc : List Nat) (j : Nat), j < acc.length → (masksA l acc)[j]? = acc[j]?
  | [], acc, j, h => rfl
  | o :: l, acc, j, h => by
    rw [masksA, masksA_get l _ j (by simp; omega), List.getElem?_append_left h]
theorem masksA_at : ∀ (l : List Oper) (acc : List Nat) (j : Nat) (o : Oper), l[j]? = some o → ∃ acc', acc'.length = acc.length + j ∧ (masksA l acc)[acc.length + j]? = some (maskA o acc') ∧ ∀ k, k < acc'.length → (masksA l acc)[k]? = acc'[k]?
  | [], acc, j, o, h => by simp at h
  | o :: l, acc, 0, o', h => by
    simp at h; subst h
    refine ⟨acc, by simp, ?_, fun k hk => ?_⟩
    · rw [masksA, masksA_get l _ _ (by simp)]; simp
    · rw [masksA, masksA_get l _ _ (by simp; omega), List.getElem?_append_left hk]
  | o :: l, acc, j + 1, o', h => by
    obtain ⟨acc', h1, h2, h3⟩ := masksA_at l (acc ++ [maskA o acc]) j o' (by simpa using h)
    refine ⟨acc', by simp at h1; omega, ?_, fun k hk => by rw [masksA]; exact h3 k hk⟩
    rw [masksA, ← h2]; congr 1; simp; omega

/-- A bit of a mask: an edge leads there, at once or through another one. -/
theorem mask_bit {l : List Oper} {j i : Nat} {o : Oper} (ho : l[j]? = some o) (h : ((masksA l []).getD j 0).testBit i = true) :
    ∃ e ∈ o.after, Region.binds .any e = true ∧ (e.on = i ∨ e.on < j ∧ ((masksA l []).getD e.on 0).testBit i = true) := by
  obtain ⟨acc', h1, h2, h3⟩ := masksA_at l [] j o ho
  simp at h1 h2
  rw [List.getD_eq_getElem?_getD, h2] at h
  simp only [Option.getD_some, maskA] at h
  rcases foldl_mask acc' i _ _ h with h | ⟨e, he, hb, hd⟩
  · simp at h
  · refine ⟨e, by simpa using he, hb, hd.imp id fun hd => ?_⟩
    have hlt : e.on < j := by
      rcases Nat.lt_or_ge e.on acc'.length with h' | h'
      · omega
      · rw [List.getD_eq_getElem?_getD, List.getElem?_eq_none h'] at hd; simp at hd
    refine ⟨hlt, ?_⟩
    rw [List.getD_eq_getElem?_getD, h3 _ (by omega), ← List.getD_eq_getElem?_getD]
    exact hd

theorem countP_lt (p q : Nat → Bool) (j : Nat) (hpj : p j = true) (hqj : q j = false) (h : ∀ i, i ≠ j → q i = p i) : ∀ n, j < n → (List.range n).countP q + 1 = (List.range n).countP p
  | 0, hj => by omega
  | n + 1, hj => by
    rw [List.range_succ, List.countP_append, List.countP_append]
    by_cases e : n = j
    · subst e
      have hsame : (List.range n).countP q = (List.range n).countP p := List.countP_congr fun i hi => by
        have := List.mem_range.1 hi
        rw [h i (by omega)]
      simp [hpj, hqj, hsame]
    · have := countP_lt p q j hpj hqj h n (by omega)
      have e2 : [n].countP q = [n].countP p := by simp [List.countP_cons, h n e]
      omega
end
end Go.Proofs.YtggoggdcnahkaaaDoor
