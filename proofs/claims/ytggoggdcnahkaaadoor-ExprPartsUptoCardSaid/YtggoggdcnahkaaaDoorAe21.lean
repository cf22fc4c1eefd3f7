/- Calls that append to a row that they were handed. -/
import Derived.Test.YtggoggdcnahkaaaDoorAe19
set_option linter.unusedVariables false
set_option linter.unusedSimpArgs false
namespace Go.Proofs.YtggoggdcnahkaaaDoor
open Go Go.RowKit

theorem shutH_self {m : Nat} : ∀ {l : Heap}, (∀ r ∈ l, r.shut m = some r) → shutH m l = some l
  | [], _ => rfl
  | r :: l, h => by
    have h1 := h r (by simp)
    have h2 := shutH_self (m := m) (l := l) fun q hq => h q (List.mem_cons_of_mem _ hq)
    simp only [shutH, h1, h2]
mutual
theorem shut_up {m m' : Nat} (h : m ≤ m') : ∀ x : AV, AV.shut m x = some x → AV.shut m' x = some x
  | .s v, hx => rfl
  | .agg cs, hx => by
    simp only [AV.shut, Option.map_eq_some_iff] at hx ⊢
    obtain ⟨ds, hd, e⟩ := hx; injection e with e; subst e
    exact ⟨_, shutL_up h _ hd, rfl⟩
  | .tup cs, hx => by
    simp only [AV.shut, Option.map_eq_some_iff] at hx ⊢
    obtain ⟨ds, hd, e⟩ := hx; injection e with e; subst e
    exact ⟨_, shutL_up h _ hd, rfl⟩
  | .sl xs (.own τ), hx => by
    simp only [AV.shut, Option.map_eq_some_iff] at hx ⊢
    obtain ⟨ds, hd, e⟩ := hx; injection e with e e2; subst e
    refine ⟨_, shutL_up h _ hd, ?_⟩
    split at e2
    · rw [if_pos (by omega)]
    · cases e2
  | .sl xs .ro, hx => by
    simp only [AV.shut, Option.map_eq_some_iff] at hx ⊢
    obtain ⟨ds, hd, e⟩ := hx; injection e with e e2; subst e
    exact ⟨_, shutL_up h _ hd, rfl⟩
  | .sl xs .full, hx => by
    simp only [AV.shut, Option.map_eq_some_iff] at hx
    obtain ⟨ds, hd, e⟩ := hx; injection e with e e2; cases e2
  | .ip cs k, hx => by
    simp only [AV.shut, Option.map_eq_some_iff] at hx ⊢
    obtain ⟨ds, hd, e⟩ := hx; injection e with e; subst e
    exact ⟨_, shutL_up h _ hd, rfl⟩
  | .ptr τ k, hx => by
    simp only [AV.shut] at hx ⊢
    split at hx
    · rw [if_pos (by omega)]
    · cases hx
  | .bs τ e sz q n, hx => by
    simp only [AV.shut] at hx ⊢
    split at hx
    · rw [if_pos (by omega)]
    · cases hx
  | .bp τ e k, hx => by
    simp only [AV.shut] at hx ⊢
    split at hx
    · rw [if_pos (by omega)]
    · cases hx
  | .ifc t x, hx => by
    simp only [AV.shut, Option.map_eq_some_iff] at hx ⊢
    obtain ⟨ds, hd, e⟩ := hx; injection e with _ e; subst e
    exact ⟨_, shut_up h _ hd, rfl⟩
  | .clo f cs, hx => by
    simp only [AV.shut, Option.map_eq_some_iff] at hx ⊢
    obtain ⟨ds, hd, e⟩ := hx; injection e with _ e; subst e
    exact ⟨_, shutL_up h _ hd, rfl⟩
theorem shutL_up {m m' : Nat} (h : m ≤ m') : ∀ xs : List AV, AV.shutL m xs = some xs → AV.shutL m' xs = some xs
  | [], _ => rfl
  | x :: xs, hx => by
    obtain ⟨y, zs, e, h1, h2⟩ := shutL_cons hx
    injection e with e1 e2; subst e1 e2
    simp only [AV.shutL, shut_up h _ h1, shutL_up h _ h2]
end
theorem rec_up {m m' : Nat} (h : m ≤ m') : ∀ r : Rec, r.shut m = some r → r.shut m' = some r
  | .box cs, hx => by
    simp only [Rec.shut, Option.map_eq_some_iff] at hx ⊢
    obtain ⟨ds, hd, e⟩ := hx; injection e with e; subst e
    exact ⟨_, shutL_up h _ hd, rfl⟩
  | .own n sz, hx => rfl
  | .buf e cs sz, hx => by
    simp only [Rec.shut, Option.map_eq_some_iff] at hx ⊢
    obtain ⟨ds, hd, e⟩ := hx; injection e with _ e; subst e
    exact ⟨_, shutL_up h _ hd, rfl⟩

/-- Each token stays as it is where later ones are let go. -/
def Closed (H : Heap) : Prop := ∀ r ∈ H, r.shut H.length = some r
/-- Tokens stand as they did, but for the row that was appended to. -/
def Stay (p : Prov) (H H' : Heap) : Prop := H.length ≤ H'.length ∧ ∀ τ, τ < H.length → p ≠ .own τ → H'[τ]? = H[τ]?

theorem Stay.refl (p : Prov) (H : Heap) : Stay p H H := ⟨Nat.le_refl _, fun _ _ _ => rfl⟩

/-- The state of a row: xs with origin p in H, come from H0 where its origin was p0. -/
structure App (sz : Nat) (p0 : Prov) (H0 : Heap) (xs : List AV) (p : Prov) (H : Heap) : Prop where
  ok : AppOK sz H xs p
  stay : Stay p0 H0 H
  from_ : (∃ τ, p = .own τ ∧ (p0 = .own τ ∨ H0.length ≤ τ)) ∨ (p = .full ∧ p0 = .full)
  own0 : ∀ τ, p0 = .own τ → p = .own τ
  lt0 : ∀ τ, p0 = .own τ → τ < H0.length

theorem App.start {sz : Nat} {H : Heap} {xs : List AV} {p : Prov} (h : AppOK sz H xs p) : App sz p H xs p H := by
  refine ⟨h, Stay.refl _ _, ?_, fun τ e => e, fun τ e => ?_⟩
  rotate_left
  · rcases h.2 with e' | ⟨τ', e', h'⟩
    · rw [e] at e'; cases e'
    · rw [e] at e'; injection e' with e'; subst e'; exact (List.getElem?_eq_some_iff.1 h').1
  rcases h.2 with e | ⟨τ, e, _⟩
  · exact .inr ⟨e, e⟩
  · exact .inl ⟨τ, e, .inl e⟩

theorem App.append {sz bytes : Nat} {p0 : Prov} {H0 H : Heap} {xs ys : List AV} {p : Prov} (h : App sz p0 H0 xs p H) (hy : widths sz ys = true) (hl : (xs.length + ys.length) * bytes ≤ roomA) :
    ∃ p' H', appendA false H sz bytes (.sl xs p) ys = some (.sl (xs ++ ys) p', H') ∧ App sz p0 H0 (xs ++ ys) p' H' := by
  obtain ⟨⟨hw, hp⟩, hs, hf, ho, hlt0⟩ := h
  have hw2 : widths sz (xs ++ ys) = true := by simp only [widths, List.all_append] at hw hy ⊢; simp [hw, hy]
  unfold appendA
  simp only [hl, if_true]
  rcases hp with rfl | ⟨τ, rfl, hτ⟩
  · have hp0 : p0 = .full := by
      rcases hf with ⟨τ, e, _⟩ | ⟨_, e⟩
      · cases e
      · exact e
    subst hp0
    by_cases hn : ys.isEmpty = true
    · have : ys = [] := by simpa using hn
      subst this
      exact ⟨.full, H, by simp, ⟨⟨by simpa using hw, .inl rfl⟩, hs, hf, ho, hlt0⟩⟩
    · refine ⟨.own H.length, H ++ [.own (xs.length + ys.length) sz], ?_, ⟨⟨hw2, .inr ⟨H.length, rfl, by simp⟩⟩, ⟨by simp; have := hs.1; omega, fun t ht hne => ?_⟩, .inl ⟨H.length, rfl, .inr hs.1⟩, (fun t e => by cases e), hlt0⟩⟩
      · simp only [hn, hw, Bool.false_eq_true, if_false]
        rfl
      · have := hs.1
        rw [List.getElem?_append_left (by omega)]; exact hs.2 t ht hne
  · have hlt := (List.getElem?_eq_some_iff.1 hτ).1
    refine ⟨.own τ, H.set τ (.own (xs.length + ys.length) sz), ?_, ⟨⟨hw2, .inr ⟨τ, rfl, ?_⟩⟩, ⟨by simpa using hs.1, fun t ht hne => ?_⟩, hf, ho, hlt0⟩⟩
    · simp only [hτ]; simp
    · rw [List.getElem?_set_self hlt]; simp
    · rw [List.getElem?_set_ne]
      · exact hs.2 t ht hne
      · intro e
        subst e
        rcases hf with ⟨τ', e, e2⟩ | ⟨e, _⟩
        · injection e with e; subst e
          rcases e2 with e2 | e2
          · exact hne e2
          · omega
        · cases e

/-- What such a call hands back. -/
theorem App.ret {sz : Nat} {p0 : Prov} {H0 H : Heap} {xs : List AV} {p : Prov} (h : App sz p0 H0 xs p H) (hc : Closed H0) (hx : AV.shutL H0.length xs = some xs) :
    ∃ p' H', truncA 1 H0.length (.sl xs p) H = some (.sl xs p', H') ∧ App sz p0 H0 xs p' H' ∧ Closed H' ∧ H'.length ≤ H0.length + 1 := by
  obtain ⟨⟨hw, hp⟩, hs, hf, ho, hlt0⟩ := h
  have hlen : (H.take H0.length).length = H0.length := by rw [List.length_take]; exact Nat.min_eq_left hs.1
  have hself : ∀ r ∈ H.take H0.length, r.shut H0.length = some r := by
    intro r hr
    obtain ⟨τ, hτ⟩ := List.mem_iff_getElem?.1 hr
    have ht : τ < H0.length := by have := (List.getElem?_eq_some_iff.1 hτ).1; omega
    rw [List.getElem?_take, if_pos ht] at hτ
    by_cases e : p0 = .own τ
    · have := ho τ e
      subst this
      rcases hp with hp | ⟨τ', hp, hp2⟩
      · cases hp
      · injection hp with hp; subst hp
        rw [hp2] at hτ; injection hτ with hτ; subst hτ
        rfl
    · rw [hs.2 τ ht e] at hτ
      exact hc r (List.mem_of_getElem? hτ)
  have hsh := shutH_self hself
  have hstay : Stay p0 H0 (H.take H0.length) := ⟨Nat.le_of_eq hlen.symm, fun τ ht hne => by rw [List.getElem?_take, if_pos ht]; exact hs.2 τ ht hne⟩
  have hcl : Closed (H.take H0.length) := by intro r hr; rw [hlen]; exact hself r hr
  unfold truncA
  rw [if_neg (by decide), hsh]
  rcases hp with rfl | ⟨τ, rfl, hτ⟩
  · refine ⟨.full, H.take H0.length, by simp [hx], ⟨⟨hw, .inl rfl⟩, hstay, ?_, ho, hlt0⟩, hcl, by omega⟩
    rcases hf with ⟨τ, e, _⟩ | e
    · cases e
    · exact .inr e
  · by_cases ht : τ < H0.length
    · refine ⟨.own τ, H.take H0.length, by simp [ht, AV.shut, hx], ⟨⟨hw, .inr ⟨τ, rfl, by rw [List.getElem?_take, if_pos ht]; exact hτ⟩⟩, hstay, hf, ho, hlt0⟩, hcl, by omega⟩
    · have hne : ∀ t, p0 ≠ .own t := fun t e => by
        have h1 := ho t e
        have h2 := hlt0 t e
        injection h1 with h1
        omega
      refine ⟨.own H0.length, H.take H0.length ++ [.own xs.length sz], by simp [ht, hτ, hx], ⟨⟨hw, .inr ⟨H0.length, rfl, ?_⟩⟩, ⟨by rw [List.length_append, hlen]; omega, fun t h1 h2 => ?_⟩, .inl ⟨H0.length, rfl, .inr (Nat.le_refl _)⟩, fun t e => absurd e (hne t), hlt0⟩, ?_, by rw [List.length_append, hlen]; simp⟩
      · rw [List.getElem?_append_right (by omega), hlen]; simp
      · rw [List.getElem?_append_left (by omega)]; exact hstay.2 t h1 h2
      · intro r hr
        rw [List.length_append, hlen]
        rcases List.mem_append.1 hr with hr | hr
        · exact rec_up (by simp) r (hself r hr)
        · simp at hr; subst hr; rfl
end Go.Proofs.YtggoggdcnahkaaaDoor
