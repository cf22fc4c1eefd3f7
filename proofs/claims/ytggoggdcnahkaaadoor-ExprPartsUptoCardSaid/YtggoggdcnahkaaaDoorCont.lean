/- Whether a text is in another, where it is asked: at every limit that the machine may have. -/
import Derived.Test.YtggoggdcnahkaaaDoorOrc
set_option linter.unusedVariables false
set_option maxRecDepth 100000
namespace Go.Proofs.YtggoggdcnahkaaaDoor
open Go Go.RowKit Go.Proofs
theorem con0 : okC 0 = true := by kernel_rfl
theorem con1 : okC 1 = true := by kernel_rfl
theorem con2 : okC 2 = true := by kernel_rfl
theorem con3 : okC 3 = true := by kernel_rfl
theorem con4 : okC 4 = true := by kernel_rfl
theorem conN0 : okC (Int.negSucc 0) = true := by kernel_rfl
theorem conNS (k : Nat) : okC (Int.negSucc (k + 1)) = true := by kernel_rfl
theorem conN : ∀ k : Nat, okC (Int.negSucc k) = true
  | 0 => conN0
  | k + 1 => conNS k
theorem con_sz : (askedFor.all fun a => decide (a.size ≤ 64)) = true := by kernel_rfl
theorem sub_sz : (subs.all fun b => decide (b.size ≤ 4)) = true := by kernel_rfl
theorem cIdx_four {m : Int} {a b : ByteArray} (hm : 4 ≤ m) (hb : b.size ≤ 4) (ha : a.size ≤ 64) : cIdx m a b = cIdx 4 a b := by
  have h1 : decide ((b.size : Int) ≤ m) = true := by simp; omega
  have h2 : decide ((b.size : Int) ≤ 4) = true := by simp; omega
  have h3 : decide ((a.size : Int) ≤ 64) = true := by simp; omega
  have hg : gIdx m a b = gIdx 4 a b := by
    unfold gIdx
    have : (2 ≤ b.size ∧ (b.size : Int) ≤ m ∧ a.size < 4294967281) ↔ (2 ≤ b.size ∧ (b.size : Int) ≤ 4 ∧ a.size < 4294967281) := by constructor <;> intro h <;> omega
    simp only [this]
  unfold cIdx ZS73
  simp only [h1, h2, h3, hg, if_true, Option.bind_some]
theorem cCon_four {m : Int} {a b : ByteArray} (hm : 4 ≤ m) (hb : b.size ≤ 4) (ha : a.size ≤ 64) : cCon m a b = cCon 4 a b := by
  unfold cCon cSI ZS61 ZS70
  rw [cIdx_four hm hb ha]
theorem okC_at {m : Int} (h : okC m = true) {a b : ByteArray} (ha : a ∈ askedFor) (hb : b ∈ subs) : cCon m a b = some (contF a b) := by
  unfold okC at h
  rw [List.all_eq_true] at h
  have h1 := h a ha
  rw [List.all_eq_true] at h1
  have h2 := h1 b hb
  split at h2
  · rename_i r hr
    rw [hr]
    have : r = contF a b := by simpa using h2
    rw [this]
  · cases h2
theorem con_all (m : Int) {a b : ByteArray} (ha : a ∈ askedFor) (hb : b ∈ subs) : cCon m a b = some (contF a b) := by
  by_cases h4 : 4 ≤ m
  · have h1 := con_sz
    have h2 := sub_sz
    rw [List.all_eq_true] at h1 h2
    rw [cCon_four h4 (by simpa using h2 b hb) (by simpa using h1 a ha)]
    exact okC_at con4 ha hb
  · by_cases h0 : m < 0
    · obtain ⟨k, rfl⟩ : ∃ k : Nat, m = Int.negSucc k := by
        cases m with
        | ofNat k => simp at h0; omega
        | negSucc k => exact ⟨k, rfl⟩
      exact okC_at (conN k) ha hb
    · have : m = 0 ∨ m = 1 ∨ m = 2 ∨ m = 3 := by omega
      rcases this with rfl | rfl | rfl | rfl
      · exact okC_at con0 ha hb
      · exact okC_at con1 ha hb
      · exact okC_at con2 ha hb
      · exact okC_at con3 ha hb
theorem mem_of_any {l : List ByteArray} {a : ByteArray} (h : l.any (same a) = true) : a ∈ l := by
  rw [List.any_eq_true] at h
  obtain ⟨x, h1, h2⟩ := h
  rw [same_eq h2]; exact h1
end Go.Proofs.YtggoggdcnahkaaaDoor
