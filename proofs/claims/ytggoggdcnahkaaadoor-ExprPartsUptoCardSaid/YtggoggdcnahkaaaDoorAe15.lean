/- More calls and rounds answer no less. -/
import Derived.Test.YtggoggdcnahkaaaDoorAe14
set_option linter.unusedVariables false
set_option linter.unusedSimpArgs false
namespace Go.Proofs.YtggoggdcnahkaaaDoor
open Go Go.RowKit

def Less (cf cf' : FuncId → List AV → Heap → Option (AV × Heap)) : Prop := ∀ f l H x, cf f l H = some x → cf' f l H = some x

section
variable {P : Program} {G : Nat → Nat → Option Value} {pure : FuncId → Bool} {bf : TypeId → Bool} {cf cf' : FuncId → List AV → Heap → Option (AV × Heap)} {live : List Nat}

theorem evOp_mono (hc : Less cf cf') {o : Oper} {env : Env} {H : Heap} {x : AV × Heap} (h : evOp P G bf cf o env H = some x) : evOp P G bf cf' o env H = some x := by
  obtain ⟨dst, op, type, pos, after, guard⟩ := o
  cases op
  case call c =>
    simp only [evOp] at h ⊢
    cases hcc : c.callee with
    | value f =>
      simp only [hcc] at h ⊢
      split at h
      · rename_i g caps l h1 h2
        exact hc _ _ _ _ h
      · cases h
    | invoke r m => simp only [hcc] at h; cases h
    | builtin b =>
      simp only [hcc] at h ⊢
      cases b <;> exact h
  all_goals
    simp only [evOp] at h ⊢
    exact h

theorem evOps_mono (hc : Less cf cf') {ops : Array Oper} : ∀ (l : List Oper) (env : Env) (H : Heap) (x : Env × Heap), evOps P G bf cf ops l env H = some x → evOps P G bf cf' ops l env H = some x
  | [], env, H, x, h => h
  | o :: l, env, H, x, h => by
    simp only [evOps] at h ⊢
    split at h
    · cases h
    · rename_i b hb
      split at h
      · rename_i ht
        rw [if_pos ht]
        split at h
        · cases h
        · rename_i v H1 hv
          rw [evOp_mono hc hv]
          exact evOps_mono hc l _ _ x h
      · rename_i hf
        rw [if_neg hf]
        exact evOps_mono hc l _ _ x h

theorem trA_mono (hc : Less cf cf') {ops : Array Oper} : ∀ (l : List Oper) (env : Env) (H : Heap) (x : Env × Heap), evOps P G bf cf ops l env H = some x → trA P G bf cf' ops l env H = trA P G bf cf ops l env H
  | [], env, H, x, h => rfl
  | o :: l, env, H, x, h => by
    simp only [evOps] at h
    simp only [trA]
    split at h
    · cases h
    · rename_i b hb
      split at h
      · rename_i ht
        simp only [ht, if_true]
        split at h
        · cases h
        · rename_i v H1 hv
          rw [evOp_mono hc hv]
          simp only
          rw [trA_mono hc l _ _ x h]
      · rename_i hf
        have hb' : b = false := by simpa using hf
        subst hb'
        simp only [Bool.false_eq_true, if_false]
        rw [trA_mono hc l _ _ x h]

theorem evC_mono (hc : Less cf cf') {n n' : Nat} (hn : n ≤ n') : ∀ (c : Code) (env : Env) (H : Heap) (x : Ex × Env × Heap), evC P G pure bf cf n live c env H = some x → evC P G pure bf cf' n' live c env H = some x
  | .skip, env, H, x, h => h
  | .label l, env, H, x, h => h
  | .exit i, env, H, x, h => h
  | .ret, env, H, x, h => h
  | .region id ops dr, env, H, x, h => by
    rw [evC_region] at h ⊢
    split at h
    · cases h
    · rename_i hr
      split at h
      · cases h
      · rename_i e1 H1 hev
        rw [if_neg (fun hb => hr ⟨hb.1, hb.2.1, fun hd => hb.2.2 (by
          unfold RegDyn at hd ⊢
          rw [trA_mono hc _ _ _ _ hev]
          exact hd)⟩), evOps_mono hc _ _ _ _ hev]
        exact h
  | .seq a b, env, H, x, h => by
    simp only [evC] at h ⊢
    split at h
    · cases h
    · rename_i e1 H1 h1
      rw [evC_mono hc hn a _ _ _ h1]
      exact evC_mono hc hn b _ _ _ h
    · rename_i x1 e1 H1 h1 hx1
      rw [evC_mono hc hn a _ _ _ hx1]
      cases x1 with
      | normal => exact absurd rfl h1
      | exit i => exact h
      | ret => exact h
  | .cond c a b, env, H, x, h => by
    simp only [evC] at h ⊢
    split at h
    · rename_i t ht
      split at h
      · rename_i h1; rw [if_pos h1]; exact evC_mono hc hn a _ _ _ h
      · rename_i h1; rw [if_neg h1]; exact evC_mono hc hn b _ _ _ h
    · cases h
  | .block id b, env, H, x, h => by
    simp only [evC] at h ⊢
    split at h
    · cases h
    · rename_i i e1 H1 h1
      rw [evC_mono hc hn b _ _ _ h1]
      exact h
    · rename_i x1 e1 H1 h1 hx1
      rw [evC_mono hc hn b _ _ _ hx1]
      cases x1 with
      | normal => exact h
      | exit i => exact absurd rfl (h1 _)
      | ret => exact h
  | .loop b, env, H, x, h => by
    simp only [evC] at h ⊢
    have ih := evC_mono hc hn b
    have key : ∀ (m m' : Nat), m ≤ m' → ∀ env H, loopA (evC P G pure bf cf n live b) m env H = some x → loopA (evC P G pure bf cf' n' live b) m' env H = some x := by
      intro m
      induction m with
      | zero => intro m' _ env H h; simp [loopA] at h
      | succ m ihm =>
        intro m' hm env H h
        obtain ⟨k, rfl⟩ : ∃ k, m' = k + 1 := ⟨m' - 1, by omega⟩
        simp only [loopA] at h ⊢
        split at h
        · cases h
        · rename_i e1 H1 h1
          rw [ih _ _ _ h1]
          exact ihm k (by omega) _ _ h
        · rename_i x1 e1 H1 h1 hx1
          rw [ih _ _ _ hx1]
          cases x1 with
          | normal => exact absurd rfl h1
          | exit i => exact h
          | ret => exact h
    exact key n n' hn env H h
  | .rangeFunc _ _ _ _, env, H, x, h => by simp [evC] at h
  | .scope _, env, H, x, h => by simp [evC] at h
  | .goto _, env, H, x, h => by simp [evC] at h
  | .refuse _, env, H, x, h => by simp [evC] at h

theorem callA_mono {T : Tab} (hc : Less cf cf') {n n' : Nat} (hn : n ≤ n') : Less (callA P T cf n) (callA P T cf' n') := by
  intro f l H x h
  simp only [callA] at h ⊢
  split at h
  · exact h
  split at h
  · exact h
  · split at h
    · exact h
    · split at h
      · cases h
      · rename_i fi hfi
        split at h
        · rename_i hl
          rw [if_pos hl]
          split at h
          · rename_i hp
            rw [if_pos hp]
            split at h
            · cases h
            · rename_i as has
              split at h
              · cases h
              · cases h
              · rename_i x1 e h1 hx hev
                rw [evC_mono hc hn _ _ _ _ hev]
                cases x1 with
                | exit i => exact absurd rfl (hx _)
                | normal => exact h
                | ret => exact h
          · rename_i hp
            rw [if_neg hp]
            split at h
            · cases h
            · cases h
            · rename_i x1 e h1 hx hev
              rw [evC_mono hc hn _ _ _ _ hev]
              cases x1 with
              | exit i => exact absurd rfl (hx _)
              | normal => exact h
              | ret => exact h
        · cases h

theorem evF_mono {T : Tab} : ∀ {n m : Nat}, n ≤ m → Less (evF P T n) (evF P T m)
  | 0, m, h => fun f l H x hx => by simp [evF] at hx
  | n + 1, m, h => by
    obtain ⟨k, rfl⟩ : ∃ k, m = k + 1 := ⟨m - 1, by omega⟩
    exact callA_mono (evF_mono (by omega)) (by omega)
end
end Go.Proofs.YtggoggdcnahkaaaDoor
