/- Slots, as they are looked up. -/
import Derived.Test.YtggoggdcnahkaaaDoorAe18
set_option linter.unusedVariables false
set_option linter.unusedSimpArgs false
namespace Go.Proofs.YtggoggdcnahkaaaDoor
open Go Go.RowKit

theorem trim_apply (live : List Nat) (env : Env) (t : Nat) : Env.trim live env t = if live.contains t = true then env t else none := by
  induction live with
  | nil => simp [Env.trim, E]
  | cons u ts ih =>
    have step : Env.trim (u :: ts) env t = if t = u then (match env u with | some v => some v | none => Env.trim ts env t) else Env.trim ts env t := by
      simp only [Env.trim, List.filterMap_cons]
      cases h : env u with
      | none => simp
      | some v => simp only [Option.map_some, E_cons]
    rw [step, ih]
    by_cases e : t = u
    · subst e
      simp
      cases h : env t with
      | none => simp
      | some v => rfl
    · have hb : (t == u) = false := by simpa using e
      simp [e, List.contains_cons, hb]
theorem trim_put_in {live : List Nat} {env : Env} {d : Nat} {v : AV} (h : live.contains d = true) : Env.trim live (Env.put env (some d) v) = Env.put (Env.trim live env) (some d) v := by
  funext t
  simp only [trim_apply, put_some]
  by_cases e : t = d
  · subst e; simp only [h, if_true]
  · simp only [e, if_false]
theorem trim_put_out {live : List Nat} {env : Env} {d : Nat} {v : AV} (h : live.contains d = false) : Env.trim live (Env.put env (some d) v) = Env.trim live env := by
  funext t
  simp only [trim_apply, put_some]
  by_cases e : t = d
  · subst e; simp only [h, Bool.false_eq_true, if_false]
  · simp only [e, if_false]
theorem trim_trim (live : List Nat) (env : Env) : Env.trim live (Env.trim live env) = Env.trim live env := by
  funext t
  simp only [trim_apply]
  split <;> rfl

/-- A slice that may be appended to. -/
def AppOK (sz : Nat) (H : Heap) (xs : List AV) (p : Prov) : Prop :=
  widths sz xs = true ∧ (p = .full ∨ ∃ τ, p = .own τ ∧ H[τ]? = some (.own xs.length sz))

/-- Tokens but for those from m on stand as they did. -/
def Keeps (m : Nat) (H H' : Heap) : Prop := ∀ τ, τ < m → H'[τ]? = H[τ]?

theorem append_app {sz bytes : Nat} {H : Heap} {xs ys : List AV} {p : Prov} (h : AppOK sz H xs p) (hy : widths sz ys = true) (hl : (xs.length + ys.length) * bytes ≤ roomA) :
    ∃ p' H', appendA false H sz bytes (.sl xs p) ys = some (.sl (xs ++ ys) p', H') ∧ AppOK sz H' (xs ++ ys) p' ∧ H.length ≤ H'.length := by
  obtain ⟨hw, h⟩ := h
  have hw2 : widths sz (xs ++ ys) = true := by simp only [widths, List.all_append] at hw hy ⊢; simp [hw, hy]
  unfold appendA
  simp only [hl, if_true]
  rcases h with rfl | ⟨τ, rfl, hτ⟩
  · by_cases hn : ys.isEmpty = true
    · have : ys = [] := by simpa using hn
      subst this
      exact ⟨.full, H, by simp, ⟨by simpa using hw, .inl rfl⟩, Nat.le_refl _⟩
    · refine ⟨.own H.length, H ++ [.own (xs.length + ys.length) sz], ?_, ⟨hw2, .inr ⟨H.length, rfl, by simp⟩⟩, by simp⟩
      simp only [hn, hw, Bool.false_eq_true, if_false]
      rfl
  · have hlt := (List.getElem?_eq_some_iff.1 hτ).1
    refine ⟨.own τ, H.set τ (.own (xs.length + ys.length) sz), ?_, ⟨hw2, .inr ⟨τ, rfl, ?_⟩⟩, by simp⟩
    · simp only [hτ]; simp
    · rw [List.getElem?_set_self hlt]; simp

theorem shut0_sl (xs : List AV) (p : Prov) : AV.shut 0 (.sl xs p) = (AV.shutL 0 xs).map (.sl · .ro) := by
  cases p <;> simp [AV.shut]
theorem shutL_map {α : Type} {m : Nat} {f : α → AV} (h : ∀ x, AV.shut m (f x) = some (f x)) : ∀ l : List α, AV.shutL m (l.map f) = some (l.map f)
  | [] => rfl
  | x :: l => by simp [AV.shutL, h x, shutL_map h l]
theorem shutL_append {m : Nat} {xs ys xs' ys' : List AV} (h1 : AV.shutL m xs = some xs') (h2 : AV.shutL m ys = some ys') : AV.shutL m (xs ++ ys) = some (xs' ++ ys') := by
  induction xs generalizing xs' with
  | nil => simp only [AV.shutL] at h1; injection h1 with h1; subst h1; simpa using h2
  | cons x xs ih =>
    obtain ⟨y, zs, rfl, a1, a2⟩ := shutL_cons h1
    simp [AV.shutL, a1, ih a2]
end Go.Proofs.YtggoggdcnahkaaaDoor
