/- Code whose loops are looked at one by one. -/
import Derived.Test.YtggoggdcnahkaaaDoorAe17
set_option linter.unusedVariables false
set_option linter.unusedSimpArgs false
namespace Go.Proofs.YtggoggdcnahkaaaDoor
open Go Go.RowKit

/-- How many loops code has; and the loop of a number, those within it behind it. -/
def nloops : Code → Nat
  | .seq a b => nloops a + nloops b
  | .cond _ a b => nloops a + nloops b
  | .block _ b => nloops b
  | .loop b => 1 + nloops b
  | _ => 0
def loopAt : Code → Nat → Option Code
  | .seq a b, j => if j < nloops a then loopAt a j else loopAt b (j - nloops a)
  | .cond _ a b, j => if j < nloops a then loopAt a j else loopAt b (j - nloops a)
  | .block _ b, j => loopAt b j
  | .loop b, j => match j with
    | 0 => some b
    | j + 1 => loopAt b j
  | _, _ => none

section
variable (P : Program) (G : Nat → Nat → Option Value) (pure : FuncId → Bool) (bf : TypeId → Bool) (cf : FuncId → List AV → Heap → Option (AV × Heap)) (live : List Nat) (lp : Nat → Env → Heap → Option (Ex × Env × Heap))
noncomputable def evCL : Nat → Code → Env → Heap → Option (Ex × Env × Heap)
  | _, .skip, env, H => some (.normal, env, H)
  | _, .label _, env, H => some (.normal, env, H)
  | _, .region _ ops draw, env, H =>
    if DrawBad P G pure bf cf ops draw env H then none else
    match evOps P G bf cf ops ops.toList env H with
    | none => none
    | some (e, h) => some (.normal, Env.trim live e, h)
  | i, .seq a b, env, H => match evCL i a env H with
    | none => none
    | some (.normal, e, h) => evCL (i + nloops a) b e h
    | some (x, e, h) => some (x, e, h)
  | i, .cond c a b, env, H => match valA env c with
    | some (.s (.bool t)) => if t = true then evCL i a env H else evCL (i + nloops a) b env H
    | _ => none
  | i, .block id b, env, H => match evCL i b env H with
    | none => none
    | some (.exit k, e, h) => if k = id then some (.normal, e, h) else some (.exit k, e, h)
    | some (x, e, h) => some (x, e, h)
  | i, .loop b, env, H => lp i env H
  | _, .exit id, env, H => some (.exit id, env, H)
  | _, .ret, env, H => some (.ret, env, H)
  | _, _, _, _ => none
end

theorem evCL_eq {P : Program} {G : Nat → Nat → Option Value} {pure : FuncId → Bool} {bf : TypeId → Bool} {cf : FuncId → List AV → Heap → Option (AV × Heap)} {n : Nat} {live : List Nat} {lp : Nat → Env → Heap → Option (Ex × Env × Heap)} :
    ∀ (c : Code) (i : Nat), (∀ j b, loopAt c j = some b → lp (i + j) = loopA (evC P G pure bf cf n live b) n) → ∀ env H, evC P G pure bf cf n live c env H = evCL P G pure bf cf live lp i c env H
  | .skip, i, h, env, H => rfl
  | .label l, i, h, env, H => rfl
  | .exit k, i, h, env, H => rfl
  | .ret, i, h, env, H => rfl
  | .region id ops dr, i, h, env, H => by rw [evC_region, evCL]; rfl
  | .seq a b, i, h, env, H => by
    have ha := evCL_eq a i fun j c hj => h j c (by
      have hlt : j < nloops a := by
        rcases Nat.lt_or_ge j (nloops a) with h' | h'
        · exact h'
        · rw [loopAt_none a j h'] at hj; cases hj
      simp only [loopAt]; rw [if_pos hlt]; exact hj)
    have hb := evCL_eq b (i + nloops a) fun j c hj => by
      rw [Nat.add_assoc]
      refine h (nloops a + j) c ?_
      simp only [loopAt]; rw [if_neg (by omega), Nat.add_sub_cancel_left]; exact hj
    simp only [evC, evCL, ha, hb]
    cases evCL P G pure bf cf live lp i a env H with
    | none => rfl
    | some x =>
      obtain ⟨x, e, h⟩ := x
      cases x <;> rfl
  | .cond c a b, i, h, env, H => by
    have ha := evCL_eq a i fun j c hj => h j c (by
      have hlt : j < nloops a := by
        rcases Nat.lt_or_ge j (nloops a) with h' | h'
        · exact h'
        · rw [loopAt_none a j h'] at hj; cases hj
      simp only [loopAt]; rw [if_pos hlt]; exact hj)
    have hb := evCL_eq b (i + nloops a) fun j c hj => by
      rw [Nat.add_assoc]
      refine h (nloops a + j) c ?_
      simp only [loopAt]; rw [if_neg (by omega), Nat.add_sub_cancel_left]; exact hj
    simp only [evC, evCL, ha, hb]
    rcases valA env c with _ | x
    · rfl
    · cases x <;> first | rfl | (rename_i v; cases v <;> rfl)
  | .block id b, i, h, env, H => by
    have hb := evCL_eq b i fun j c hj => h j c (by simp only [loopAt]; exact hj)
    simp only [evC, evCL, hb]
    cases evCL P G pure bf cf live lp i b env H with
    | none => rfl
    | some x =>
      obtain ⟨x, e, h⟩ := x
      cases x <;> rfl
  | .loop b, i, h, env, H => by
    have := h 0 b rfl
    simp only [evC, evCL]
    rw [Nat.add_zero] at this
    rw [this]
  | .rangeFunc _ _ _ _, i, h, env, H => rfl
  | .scope _, i, h, env, H => rfl
  | .goto _, i, h, env, H => rfl
  | .refuse _, i, h, env, H => rfl
  where loopAt_none : ∀ (c : Code) (j : Nat), nloops c ≤ j → loopAt c j = none
  | .seq a b, j, h => by
    simp only [nloops] at h
    simp only [loopAt]; rw [if_neg (by omega)]; exact loopAt_none b _ (by omega)
  | .cond _ a b, j, h => by
    simp only [nloops] at h
    simp only [loopAt]; rw [if_neg (by omega)]; exact loopAt_none b _ (by omega)
  | .block _ b, j, h => by simp only [nloops] at h; simp only [loopAt]; exact loopAt_none b j h
  | .loop b, j, h => by
    simp only [nloops] at h
    obtain ⟨k, rfl⟩ : ∃ k, j = k + 1 := ⟨j - 1, by omega⟩
    simp only [loopAt]; exact loopAt_none b k (by omega)
  | .skip, _, _ => rfl
  | .label _, _, _ => rfl
  | .exit _, _, _ => rfl
  | .ret, _, _ => rfl
  | .region _ _ _, _, _ => rfl
  | .rangeFunc _ _ _ _, _, _ => rfl
  | .scope _, _, _ => rfl
  | .goto _, _, _ => rfl
  | .refuse _, _, _ => rfl

theorem loopAt_in : ∀ (c : Code) (j : Nat) (b : Code), loopAt c j = some b → ∀ k, loopAt b k = loopAt c (j + 1 + k) ∨ loopAt b k = none
  | .seq a b, j, d, h, k => by
    simp only [loopAt] at h ⊢
    split at h
    · rename_i hlt
      rcases loopAt_in a j d h k with h1 | h1
      · by_cases hk : j + 1 + k < nloops a
        · rw [if_pos hk]; exact .inl h1
        · right
          rw [h1]; exact evCL_eq.loopAt_none a _ (by omega)
      · exact .inr h1
    · rename_i hlt
      rw [if_neg (by omega)]
      have := loopAt_in b _ d h k
      rwa [show j - nloops a + 1 + k = j + 1 + k - nloops a by omega] at this
  | .cond _ a b, j, d, h, k => by
    simp only [loopAt] at h ⊢
    split at h
    · rename_i hlt
      rcases loopAt_in a j d h k with h1 | h1
      · by_cases hk : j + 1 + k < nloops a
        · rw [if_pos hk]; exact .inl h1
        · right
          rw [h1]; exact evCL_eq.loopAt_none a _ (by omega)
      · exact .inr h1
    · rename_i hlt
      rw [if_neg (by omega)]
      have := loopAt_in b _ d h k
      rwa [show j - nloops a + 1 + k = j + 1 + k - nloops a by omega] at this
  | .block _ b, j, d, h, k => by simp only [loopAt] at h ⊢; exact loopAt_in b j d h k
  | .loop b, j, d, h, k => by
    cases j with
    | zero =>
      simp only [loopAt] at h; injection h with h; subst h
      rw [show 0 + 1 + k = k + 1 by omega]
      simp [loopAt]
    | succ j =>
      simp only [loopAt] at h
      have := loopAt_in b j d h k
      rw [show j + 1 + 1 + k = j + 1 + k + 1 by omega]
      simp only [loopAt]; exact this
  | .skip, j, d, h, k => by simp [loopAt] at h
  | .label _, j, d, h, k => by simp [loopAt] at h
  | .exit _, j, d, h, k => by simp [loopAt] at h
  | .ret, j, d, h, k => by simp [loopAt] at h
  | .region _ _ _, j, d, h, k => by simp [loopAt] at h
  | .rangeFunc _ _ _ _, j, d, h, k => by simp [loopAt] at h
  | .scope _, j, d, h, k => by simp [loopAt] at h
  | .goto _, j, d, h, k => by simp [loopAt] at h
  | .refuse _, j, d, h, k => by simp [loopAt] at h

/-- The loop of a number in a function's code, round by round. -/
noncomputable def lpOf (P : Program) (T : Tab) (cf : FuncId → List AV → Heap → Option (AV × Heap)) (n : Nat) (f : FuncId) (j : Nat) : Env → Heap → Option (Ex × Env × Heap) :=
  match T.C f with
  | some fi => match loopAt fi.body j with
    | some b => loopA (evC P T.G T.pure (fi.bf.contains ·) cf n fi.live b) n
    | none => fun _ _ => none
  | none => fun _ _ => none
/-- One round. -/
noncomputable def rdOf (P : Program) (T : Tab) (cf : FuncId → List AV → Heap → Option (AV × Heap)) (n : Nat) (f : FuncId) (j : Nat) (env : Env) (H : Heap) : Option (Ex × Env × Heap) :=
  match T.C f with
  | some fi => match loopAt fi.body j with
    | some b => evCL P T.G T.pure (fi.bf.contains ·) cf fi.live (lpOf P T cf n f) (j + 1) b env H
    | none => none
  | none => none
/-- Rounds, so many. -/
noncomputable def rdsOf (P : Program) (T : Tab) (cf : FuncId → List AV → Heap → Option (AV × Heap)) (n : Nat) (f : FuncId) (j : Nat) : Nat → Env → Heap → Option (Ex × Env × Heap) := loopA (rdOf P T cf n f j)

theorem lpOf_eq {P : Program} {T : Tab} {cf : FuncId → List AV → Heap → Option (AV × Heap)} {n : Nat} {f : FuncId} {j : Nat} : lpOf P T cf n f j = rdsOf P T cf n f j n := by
  have none_loop : ∀ (g : Env → Heap → Option (Ex × Env × Heap)), (∀ e h, g e h = none) → ∀ k e h, loopA g k e h = none := by
    intro g hg k
    cases k with
    | zero => intro e h; rfl
    | succ k => intro e h; simp [loopA, hg]
  unfold rdsOf
  funext env H
  unfold lpOf
  cases hC : T.C f with
  | none => simp only; rw [none_loop _ (fun e h => by simp [rdOf, hC])]
  | some fi =>
    simp only
    cases hb : loopAt fi.body j with
    | none => simp only; rw [none_loop _ (fun e h => by simp [rdOf, hC, hb])]
    | some b =>
      simp only
      congr 1
      funext e h
      rw [evCL_eq (lp := lpOf P T cf n f) b (j + 1) (fun k d hk => ?_) e h]
      · simp [rdOf, hC, hb]
      · rcases loopAt_in fi.body j b hb k with h1 | h1
        · rw [h1] at hk
          unfold lpOf
          simp only [hC, hk]
        · rw [h1] at hk; cases hk
theorem rds_succ {P : Program} {T : Tab} {cf : FuncId → List AV → Heap → Option (AV × Heap)} {n : Nat} {f : FuncId} {j k : Nat} {env : Env} {H : Heap} :
    rdsOf P T cf n f j (k + 1) env H = match rdOf P T cf n f j env H with
      | none => none
      | some (.normal, e, h) => rdsOf P T cf n f j k e h
      | some (x, e, h) => some (x, e, h) := rfl

/-- One call, loop by loop. -/
noncomputable def callL (P : Program) (T : Tab) (cf : FuncId → List AV → Heap → Option (AV × Heap)) (n : Nat) (f : FuncId) (args : List AV) (H : Heap) : Option (AV × Heap) :=
  match T.C f with
  | none => none
  | some fi => if args.length = fi.np then
      if fi.pure then match AV.shutL 0 args with
        | none => none
        | some as => match evCL P T.G T.pure (fi.bf.contains ·) cf fi.live (lpOf P T cf n f) 0 fi.body (argEnv as) [] with
          | some (.exit _, _, _) => none
          | none => none
          | some (_, e, h) => match resA P e h fi.res with
            | none => none
            | some vs => (finA h (oneOf vs)).map (·, H)
      else match evCL P T.G T.pure (fi.bf.contains ·) cf fi.live (lpOf P T cf n f) 0 fi.body (argEnv args) H with
        | some (.exit _, _, _) => none
        | none => none
        | some (_, e, h) => match resA P e h fi.res with
          | none => none
          | some vs => truncA fi.keep H.length (oneOf vs) h
    else none
theorem evF_call {P : Program} {T : Tab} {n : Nat} {f : FuncId} {args : List AV} {H : Heap} (hX : T.X f = none) (hOH : T.OH f = none) (hO : T.O f = none) : evF P T (n + 1) f args H = callL P T (evF P T n) n f args H := by
  simp only [evF, callA, hX, hOH, hO, callL]
  cases hC : T.C f with
  | none => rfl
  | some fi =>
    have key : ∀ e h, evC P T.G T.pure (fi.bf.contains ·) (evF P T n) n fi.live fi.body e h = evCL P T.G T.pure (fi.bf.contains ·) (evF P T n) fi.live (lpOf P T (evF P T n) n f) 0 fi.body e h :=
      evCL_eq fi.body 0 fun j b hj => by
        rw [Nat.zero_add]
        unfold lpOf
        simp only [hC, hj]
    simp only [key]
    rfl

/-- A call that looks at no token, its arguments as they are. -/
noncomputable def runP (P : Program) (T : Tab) (cf : FuncId → List AV → Heap → Option (AV × Heap)) (n : Nat) (f : FuncId) (args : List AV) : Option AV :=
  match T.C f with
  | none => none
  | some fi => match evCL P T.G T.pure (fi.bf.contains ·) cf fi.live (lpOf P T cf n f) 0 fi.body (argEnv args) [] with
    | some (.exit _, _, _) => none
    | none => none
    | some (_, e, h) => match resA P e h fi.res with
      | none => none
      | some vs => finA h (oneOf vs)
theorem evF_pure {P : Program} {T : Tab} {n : Nat} {f : FuncId} {args : List AV} {H : Heap} {fi : FnInfo} (hX : T.X f = none) (hOH : T.OH f = none) (hO : T.O f = none) (hC : T.C f = some fi) (hp : fi.pure = true) (hl : args.length = fi.np) (hs : AV.shutL 0 args = some args) :
    evF P T (n + 1) f args H = (runP P T (evF P T n) n f args).map (·, H) := by
  rw [evF_call hX hOH hO]
  simp only [callL, runP, hC, hp, hl, hs, if_true]
  split
  · rfl
  · rfl
  · split
    · rfl
    · rfl
end Go.Proofs.YtggoggdcnahkaaaDoor
