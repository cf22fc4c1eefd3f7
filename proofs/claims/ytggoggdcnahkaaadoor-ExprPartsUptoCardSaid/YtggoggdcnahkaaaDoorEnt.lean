/- What errors.As and errors.Is do to tokens. -/
import Derived.Test.YtggoggdcnahkaaaDoorAsHit
import Derived.Test.YtggoggdcnahkaaaDoorIsHit
import Derived.Test.YtggoggdcnahkaaaDoorAe23
set_option linter.unusedVariables false
namespace Go.Proofs.YtggoggdcnahkaaaDoor
open Go Go.RowKit Go.Proofs

theorem ent_fn : ∀ f g, OHL f = some g → ∃ fn, P.funcs[f]? = some fn ∧ fn.body.isNone = false ∧ (fn.name == "runtime.NumGoroutine") = false := by
  intro f g h
  unfold OHL at h
  split at h
  · rename_i hf; subst hf; exact ⟨Tryd.f13, by kernel_rfl, by kernel_rfl, by kernel_rfl⟩
  · split at h
    · rename_i hf; subst hf; exact ⟨Tryd.f14, by kernel_rfl, by kernel_rfl, by kernel_rfl⟩
    · cases h

/-- A block more, of which nothing is known. -/
theorem wr_alloc {base : Nat} {R : Nat → Nat → Option Value} {K : KW} {H : Heap} {w : World} (h : WR base R K H w) (arr : Array Value) (T : TypeId) : ∃ K', K.le K' ∧ K'.loc = K.loc ∧ WR base R K' H (w.alloc (.cells arr T)) := by
  obtain ⟨h1, h2⟩ := h.alloc arr T (0, 0) (fun _ => none) 0 (fun o v hv => by cases hv) (Nat.zero_le _)
  exact ⟨_, h1, rfl, h2⟩
theorem rel_two {K : KW} {a b : AV} {args : Array Value} (h : RelL K [a, b] args.toList) : ∃ x y, args = #[x, y] ∧ Rel K a x ∧ Rel K b y := by
  simp only [RelL] at h
  obtain ⟨x, us, e1, h1, y, us2, e2, h2, e3⟩ := h
  subst e3; subst e2
  refine ⟨x, y, ?_, h1, h2⟩
  rw [← Array.toArray_toList (xs := args), e1]
theorem setCell_row {w : World} {g : Nat} {u v : Value} {T : TypeId} (h : w.heap[g]? = some (.cells #[u] T (0, 0))) : w.setCell ⟨g, 0, none⟩ v = w.setRow g #[v] := by
  unfold World.setCell World.setRow
  congr 1
  apply Array.ext_getElem?
  intro i
  rw [Array.getElem?_modify, Array.getElem?_modify]
  by_cases e : g = i
  · subst e
    simp only [if_true, h, Option.map_some]
    congr 2
  · rw [if_neg e, if_neg e]

theorem asO_ok (m : Int) (avs : List AV) (H : Heap) (r : AV) (H' : Heap) (h : asO avs H = some (r, H')) : HeapCalls P (GL m) 13 avs H r H' := by
  unfold asO at h
  split at h
  · rename_i t τ k u σ j
    split at h
    · rename_i x hx
      split at h
      · rename_i hc
        obtain ⟨rfl, rfl, rfl⟩ := hc
        injection h with h; injection h with h1 h2; subst h1 h2
        intro base R K w args hG hw ha
        obtain ⟨v1, v2, rfl, r1, r2⟩ := rel_two ha
        simp only [Rel] at r1 r2
        obtain ⟨u1, rfl, g1, m1, hl1, rfl⟩ := r1
        obtain ⟨u2, rfl, g2, m2, hl2, rfl⟩ := r2
        obtain ⟨hb, _, arr, T, hg, hr, ho, hpc⟩ := hw.tok hx hl2
        have har : ∃ old, arr = #[old] := by
          simp only [RelL] at hr
          obtain ⟨y, us, e1, _, e2⟩ := hr
          subst e2
          exact ⟨y, by rw [← Array.toArray_toList (xs := arr), e1]⟩
        obtain ⟨old, rfl⟩ := har
        have hE : w.cell? ⟨0, 0, none⟩ = some (.iface 96 (.agg #[.pointer (some ⟨5, 28, none⟩)])) := by
          obtain ⟨hb, hR⟩ := hG 0 0 (.iface 96 (.agg #[.pointer (some ⟨5, 28, none⟩)])) (by kernel_rfl)
          exact hw.pcs _ _ _ (by rw [hw.low _ _ hb]; exact hR)
        have ht : w.cell? ⟨g2, 0, none⟩ = some old := by simp [World.cell?, hg]
        have hf : w.frozen? ⟨g2, 0, none⟩ = false := by simp [World.frozen?, hg]
        refine (as_hit ⟨g1, k, none⟩ ⟨g2, 0, none⟩ old w hE ht hf).mono ?_
        rintro e w' ⟨rfl, rfl⟩
        obtain ⟨K1, l1, e1, w1⟩ := wr_alloc hw #[.pointer (some ⟨g2, 0, none⟩)] 50
        obtain ⟨K2, l2, e2, w2⟩ := wr_alloc w1 #[.pointer (some ⟨5, 50, none⟩), .pointer (some ⟨w.heap.size, 0, none⟩), .int .u64 150] 66
        obtain ⟨K3, l3, e3, w3⟩ := wr_alloc w2 #[.pointer (some ⟨5, 50, none⟩), .pointer (some ⟨w.heap.size, 0, none⟩), .int .u64 150] 66
        obtain ⟨K4, l4, e4, w4⟩ := wr_alloc w3 #[.pointer (some ⟨g1, k, none⟩)] 48
        have hle := (l1.trans l2).trans (l3.trans l4)
        have hlt : g2 < w.heap.size := (Array.getElem?_eq_some_iff.1 hg).1
        have hg4 : ((((w.alloc (.cells #[.pointer (some ⟨g2, 0, none⟩)] 50)).alloc (.cells #[.pointer (some ⟨5, 50, none⟩), .pointer (some ⟨w.heap.size, 0, none⟩), .int .u64 150] 66)).alloc (.cells #[.pointer (some ⟨5, 50, none⟩), .pointer (some ⟨w.heap.size, 0, none⟩), .int .u64 150] 66)).alloc (.cells #[.pointer (some ⟨g1, k, none⟩)] 48)).heap[g2]? = some (.cells #[old] T (0, 0)) := by
          rw [Below.heap_alloc _ _ _ (by simp; omega), Below.heap_alloc _ _ _ (by simp; omega), Below.heap_alloc _ _ _ (by simp; omega), Below.heap_alloc _ _ _ hlt]
          exact hg
        have hl4 : K4.loc σ = some (g2, 0, m2) := by rw [e4, e3, e2, e1]; exact hl2
        have hp4 : K4.loc τ = some (g1, 0, m1) := by rw [e4, e3, e2, e1]; exact hl1
        refine ⟨_, rfl, K4, hle, ?_, ?_, ?_⟩
        · rw [setCell_row hg4]
          refine w4.setBox hx hl4 ?_ ?_ ?_
          · simp only [RelL, Rel]
            exact ⟨_, _, rfl, ⟨g1, m1, hp4, rfl⟩, rfl⟩
          · intro u hu
            simp at hu
            subst hu; rfl
          · intro a0 T0 fr0 h0
            rw [hg4] at h0; injection h0 with h0; injection h0 with h0 _ _; subst h0; simp
        · refine Below.setCell (Below.alloc (Below.alloc (Below.alloc (Below.alloc (Below.refl _ _) ?_ _) ?_ _) ?_ _) ?_ _) hb _
          all_goals (have := hw.size; simp; try omega)
        · simp [Rel, Value.oneCell']
      · cases h
    · cases h
  · cases h

theorem isO_ok (m : Int) (avs : List AV) (H : Heap) (r : AV) (H' : Heap) (h : isO avs H = some (r, H')) : HeapCalls P (GL m) 14 avs H r H' := by
  unfold isO at h
  split at h
  · rename_i t a u b
    split at h
    · rename_i hc
      obtain ⟨rfl, rfl⟩ := hc
      injection h with h; injection h with h1 h2; subst h1 h2
      intro base R K w args hG hw ha
      obtain ⟨v1, v2, rfl, r1, r2⟩ := rel_two ha
      simp only [Rel] at r1 r2
      obtain ⟨u1, rfl, rfl, _⟩ := r1
      obtain ⟨u2, rfl, rfl, _⟩ := r2
      refine (is_code a b w).mono ?_
      rintro e w' ⟨rfl, rfl⟩
      exact ⟨_, rfl, OpPost.same hw (by simp [Rel, Value.oneCell'])⟩
    · cases h
  · rename_i t τ k u b
    split at h
    · rename_i cs hx
      split at h
      · rename_i v a hv
        split at h
        · rename_i hc
          obtain ⟨rfl, rfl, rfl⟩ := hc
          injection h with h; injection h with h1 h2; subst h1 h2
          intro base R K w args hG hw ha
          obtain ⟨v1, v2, rfl, r1, r2⟩ := rel_two ha
          simp only [Rel] at r1 r2
          obtain ⟨u1, rfl, g1, m1, hl1, rfl⟩ := r1
          obtain ⟨u2, rfl, rfl, _⟩ := r2
          obtain ⟨hb, _, arr, T, hg, hr, ho, hpc⟩ := hw.tok hx hl1
          obtain ⟨v3, hv3, r3⟩ := RelL_get hr _ _ hv
          simp only [Rel] at r3
          obtain ⟨u3, rfl, rfl, _⟩ := r3
          refine (is_spot a b g1 k w ?_).mono ?_
          · rw [cell_row hg]; simpa using hv3
          · rintro e w' ⟨rfl, rfl⟩
            exact ⟨_, rfl, OpPost.same hw (by simp [Rel, Value.oneCell'])⟩
        · cases h
      · cases h
    · cases h
  · cases h
theorem ent_ok (m : Int) : ∀ f g, OHL f = some g → ∀ avs H r H', g avs H = some (r, H') → HeapCalls P (GL m) f avs H r H' := by
  intro f g h
  unfold OHL at h
  split at h
  · rename_i hf; subst hf; injection h with h; subst h; exact asO_ok m
  · split at h
    · rename_i hf; subst hf; injection h with h; subst h; exact isO_ok m
    · cases h
end Go.Proofs.YtggoggdcnahkaaaDoor
