/- What a row's list gives the evaluator: cells that lie below and stay. -/
import Derived.Test.YtggoggdcnahkaaaDoorBrg2
import Derived.Test.YtggoggdcnahkaaaDoorTabK
import Derived.Deep.DeepHandedRow
import Derived.Deep.DeepWitnessRowRef
import Derived.Lib.LaidTab
import Derived.LaidMore
import Derived.LaidHandle
import Derived.Stop.LaidErr
import Derived.RowKitTokens
set_option linter.unusedVariables false
set_option maxRecDepth 100000
namespace Go.Proofs.YtggoggdcnahkaaaDoor
open Go Go.RowKit Go.Proofs Go.ChangeShapes Go.WideShapes Go.ChangeAt
abbrev laidHere : List (String × DataW Unit) := [("errors.errorType", Go.Proofs.YtggoggdcnahkaaaDoor.Rows.laid_errors_errorType), ("unicode.White_Space", Go.Proofs.YtggoggdcnahkaaaDoor.Rows.laid_unicode_White_Space), ("strings.asciiSpace", Go.Proofs.YtggoggdcnahkaaaDoor.Rows.laid_strings_asciiSpace)]
theorem own : ownKnob Tryd.prog.godebug = none := by kernel_rfl
theorem gErr : Tryd.prog.globalNamed "errors.errorType" = some 0 := by kernel_rfl
theorem gSpace : Tryd.prog.globalNamed "strings.asciiSpace" = some 1 := by kernel_rfl
theorem gSpaceType : (Tryd.prog.globals[1]?).map (·.type) = some 114 := by kernel_rfl
theorem cellsSpace : Tryd.prog.cellsOf 114 = 256 := by kernel_rfl
theorem cellsU8 : Tryd.prog.cellsOf 5 = 1 := by kernel_rfl
theorem rtypeAt : (Tryd.prog.cutTypes.find? (·.1 == "internal/reflectlite.rtype")).map (·.2) = some 96 := by kernel_rfl
theorem oneErr : ((List.range (288 - 100)).filter fun t => Tryd.prog.rowNamed t [101, 114, 114, 111, 114]) = [28] := by kernel_rfl
theorem typesN : Tryd.prog.types.size = 288 - 100 := by kernel_rfl
theorem err_of_laid {W : World} (h : laidMetH Tryd.prog laidHere W) : W.cell? ⟨0, 0, none⟩ = some (.iface 96 (.agg #[.pointer (some ⟨5, 28, none⟩)])) := by
  have h' : laidMet Tryd.prog [("unicode.White_Space", Go.Proofs.YtggoggdcnahkaaaDoor.Rows.laid_unicode_White_Space), ("strings.asciiSpace", Go.Proofs.YtggoggdcnahkaaaDoor.Rows.laid_strings_asciiSpace)] W ∧ handlesMet Tryd.prog [("errors.errorType", Go.Proofs.YtggoggdcnahkaaaDoor.Rows.laid_errors_errorType)] W := h
  obtain ⟨name, u, ty, e1, e2, e3, e4, e5⟩ := h'.2 _ (List.mem_singleton.2 rfl)
  have en : name = [101, 114, 114, 111, 114] := (Option.some.inj e1).symm
  subst en
  obtain rfl := Option.some.inj (rtypeAt.symm.trans e2)
  have hm : ty ∈ (List.range (288 - 100)).filter fun t => Tryd.prog.rowNamed t [101, 114, 114, 111, 114] := List.mem_filter.2 ⟨List.mem_range.2 (by rw [← typesN]; exact e3), e4⟩
  rw [oneErr] at hm
  obtain rfl := List.mem_singleton.1 hm
  have hh : typeHandle Tryd.prog 28 = .pointer (some ⟨5, 28, none⟩) := by kernel_rfl
  rw [hh] at e5
  simpa using World.var?_cell gErr e5 0
def spaceTab : List Int := (List.range 256).map fun o => if o = 9 ∨ o = 10 ∨ o = 11 ∨ o = 12 ∨ o = 13 ∨ o = 32 then 1 else 0
theorem spaceTab_is : (Go.Proofs.YtggoggdcnahkaaaDoor.Rows.laid_strings_asciiSpace : DataW Unit) = Lib.tabData .u8 spaceTab := by kernel_rfl
theorem space_of_laid {W : World} (h : laidMetH Tryd.prog laidHere W) (o : Nat) (ho : o < 256) : W.cell? ⟨1, o, none⟩ = asciiSpaceAt o := by
  have h' : laidMet Tryd.prog [("unicode.White_Space", Go.Proofs.YtggoggdcnahkaaaDoor.Rows.laid_unicode_White_Space), ("strings.asciiSpace", Go.Proofs.YtggoggdcnahkaaaDoor.Rows.laid_strings_asciiSpace)] W ∧ handlesMet Tryd.prog [("errors.errorType", Go.Proofs.YtggoggdcnahkaaaDoor.Rows.laid_errors_errorType)] W := h
  have h1 := Go.laidMet.tail h'.1
  rw [spaceTab_is] at h1
  have h2 := Lib.tabIs_of_head gSpace gSpaceType Tryd.underlying114 Tryd.underlying5 cellsU8 cellsSpace h1
  rw [h2.cell gSpace o (by simp [spaceTab]; omega)]
  unfold asciiSpaceAt
  rw [if_pos ho]
  congr 2
  rw [List.getD_eq_getElem?_getD]
  unfold spaceTab
  rw [List.getElem?_map, List.getElem?_range ho]
  rfl
theorem max_of_shape {W : World} (h : W.ShapedOpen Tryd.prog) : ∃ m, W.cell? ⟨3, 0, none⟩ = some (.int .i64 m) :=
  cell_of_shapedOpen_int (t := 3) (zero := #[.int .i64 0]) h (by exact Nat.le_of_ble_eq_true (by kernel_rfl)) (by kernel_rfl) rfl (by kernel_rfl) (by kernel_rfl) Tryd.underlying3
theorem gr_start {W : World} {m : Int} (h : laidMetH Tryd.prog laidHere W) (hm : W.cell? ⟨3, 0, none⟩ = some (.int .i64 m)) : Gr (GL m) W.heap.size (startR W) := by
  intro b o v hv
  have key : W.cell? ⟨b, o, none⟩ = some v := by
    unfold GL at hv
    split at hv
    · rename_i e; subst e
      rw [← hv]
      have ho : o < 256 := by
        unfold asciiSpaceAt at hv
        split at hv
        · assumption
        · cases hv
      exact space_of_laid h o ho
    · split at hv
      · rename_i e; subst e
        split at hv
        · rename_i e; subst e
          rw [← hv]; exact hm
        · cases hv
      · split at hv
        · rename_i e; subst e
          split at hv
          · rename_i e; subst e
            rw [← hv]; exact err_of_laid h
          · cases hv
        · cases hv
  exact ⟨World.block_lt_of_cell? W ⟨b, o, none⟩ key, start_cell key⟩
/-- The start that is shown: the door's own heap. -/
theorem door_met (os : Os) (args : Array Value) : laidMetH Tryd.prog laidHere ((World.doorLaid Tryd.prog 300 os).forCall (fun _ _ => 0) ⟨#[], args, []⟩).memory :=
  laidMetH_of_parts3 (fuel := 8) (laidMet_of_run' 8 (by kernel_rfl) (by kernel_rfl)) (by kernel_rfl) (by kernel_rfl)
theorem szL_small {H : Type} {d0 d1 : DataW H} {a b : Nat} (hc : Go.Proofs.YtggoggdcnahkaaaDoor.Rows.uptoSmall H [d0, d1] = true) (h0 : a + 1 ≤ Go.Proofs.YtggoggdcnahkaaaDoor.Rows.uptoBulk d0) (h1 : b + 1 ≤ Go.Proofs.YtggoggdcnahkaaaDoor.Rows.uptoBulk d1) : a + b ≤ 1048576 := by
  have h : Go.Proofs.YtggoggdcnahkaaaDoor.Rows.uptoBulkAll [d0, d1] ≤ 1048576 := of_decide_eq_true hc
  simp only [Go.Proofs.YtggoggdcnahkaaaDoor.Rows.uptoBulkAll] at h
  omega
end Go.Proofs.YtggoggdcnahkaaaDoor
