/- grommetlaw06.ExprParts answers true, whatever the input, where what it reads is of bulk at most 1048576; its card, tied to the program's text. -/
import Derived.Test.YtggoggdcnahkaaaDoorParts
import Derived.Test.YtggoggdcnahkaaaDoorRowP
import Derived.Test.YtggoggdcnahkaaaDoorCards
import Derived.Test.YtggoggdcnahkaaaDoorTie
set_option linter.unusedVariables false
set_option maxRecDepth 100000
namespace Go.Proofs.YtggoggdcnahkaaaDoor
open Go Go.RowKit Go.Proofs Go.ChangeShapes Go.WideShapes Go.ChangeAt Go.Proofs.YtggoggdcnahkaaaDoor
theorem parts_contract (H : Type) (enc : TypeId × Value → H) (W : World) (base : Nat) (args : Array Value) (ds gs : List (DataW H)) (before : List MemPlace)
    (hval : ∀ (j : Nat) t v, Tryd.f3.params[j]? = some t → args[j]? = some v → Value.okWide Tryd.prog W .any base t v)
    (hW : DataW.Whole enc Tryd.prog Tryd.f3.params.toList Rows.exprPartsSpec.vars false W args.toList ds gs before) (hk : Rows.uptoSmall H (ds ++ gs) = true)
    (hL : laidMetH Tryd.prog laidHere W) (hsh : W.ShapedOpen Tryd.prog) :
    Calls Tryd.prog 3 args W fun e W' => ∃ v, e = .returned v ∧ Rows.exprPartsSpec.post enc Tryd.prog Tryd.f3 false true false false W args v W' := by
  have hW' := hW
  obtain ⟨p, q, hA0, hV, rfl, hfz, hnd⟩ := hW
  have hA : DataW.TrodAll enc Tryd.prog W 0 (fun _ => true) true Tryd.f3.params.toList args.toList ds p := hA0
  rw [Tryd.params3] at hA hval
  obtain ⟨v0, v1, d0, d1, p0, p1, rfl, rfl, rfl, h0, h1⟩ := trodAll_two hA
  obtain ⟨rfl, rfl⟩ := trodVars_none hV
  obtain ⟨A0, n0, c0, rfl⟩ := okWide_slice Tryd.underlying22 (hval 0 22 v0 rfl rfl)
  obtain ⟨A1, n1, c1, rfl⟩ := okWide_slice Tryd.underlying22 (hval 1 22 v1 rfl rfl)
  obtain ⟨a, ra, ba⟩ := insL_of (K := startK W) (fun b o v h => start_cell h) rfl h0
  obtain ⟨b, rb, bb⟩ := insL_of (K := startK W) (fun b o v h => start_cell h) rfl h1
  simp only [List.append_nil] at hk
  have hs := szL_small hk ba bb
  obtain ⟨m, hm⟩ := max_of_shape hsh
  have hp := pure_of (tab_ok m) (parts_ev m a b (10 * (szL a + szL b) + 210) .ro .ro [] (Nat.le_refl _) (by omega)) Tryd.func3 (by kernel_rfl) (by kernel_rfl)
  refine (hp (startR W) (startK W) W #[.slice A0 n0 c0, .slice A1 n1 c1] (gr_start hL hm) (start_wr W) (by simp only [RelL]; exact ⟨_, _, rfl, ra, _, _, rfl, rb, rfl⟩)).mono ?_
  rintro e W' ⟨v, rfl, K', _, _, hb, hv⟩
  simp only [Rel] at hv
  obtain ⟨rfl, _⟩ := hv
  refine ⟨_, rfl, post_of_below (by kernel_rfl) (fun t ht => ?_) rfl hW' (fun _ _ _ => trodAll_cons_mk (shut_bool Tryd.underlying4 _) trodAll_mk0) rfl rfl hb (ok_one (by kernel_rfl) rfl (okWide_bool_mk Tryd.underlying4 _))⟩
  rw [Tryd.params3] at ht
  have : t = 22 := by simpa using ht
  subst this
  exact ⟨by kernel_rfl, Nat.lt_of_lt_of_le (show 22 < 288 - 100 by decide) (Nat.le_of_eq typesN.symm)⟩
theorem parts_reads (os : Os) {H : Type} (enc : TypeId × Value → H) : ∃ places, DataW.whole enc Tryd.prog ((World.doorLaid Tryd.prog 300 os).forCall (fun _ _ => 0) ⟨#[], #[.slice none 0 0, .slice none 0 0], []⟩).memory Tryd.f3.params.toList Rows.exprPartsSpec.vars false #[Value.slice none 0 0, Value.slice none 0 0].toList 8 = some ([.nil, .nil], [], places) :=
  ⟨[], by kernel_rfl⟩
theorem parts_lifted (os : Os) (started : os.Started) (H : Type) (enc : TypeId × Value → H) (F : Stop.Interp) :
    ReturnsInHanded {} Tryd.checked os 3 .any ((Rows.OpenSpec.upto Rows.exprPartsSpec).preRow enc Tryd.prog Tryd.f3 Rows.exprPartsUptoRow.domain false Rows.exprPartsUptoRow.laid) (((Rows.OpenSpec.upto Rows.exprPartsSpec).at F).post enc Tryd.prog Tryd.f3 false true false false) := by
  obtain ⟨places, hx⟩ := parts_reads os enc
  refine returnsInHanded_of_row (C := Tryd.checked) (s := Rows.OpenSpec.upto Rows.exprPartsSpec) own started (by kernel_rfl) Tryd.func3
    (witness_row_atRef (enc := enc) (C := Tryd.checked) false (World.doorLaid Tryd.prog 300 os) #[.slice none 0 0, .slice none 0 0] rfl (by kernel_rfl) (by kernel_rfl) (by kernel_rfl)
      (OpenSpec.preRow_of_cond 8 hx (by kernel_rfl) (fun k hk => by cases hk; kernel_rfl) (by kernel_rfl) (door_met os _))) ?_
  intro W base args ds gs before hval hW _ hcond _ hL hsh _
  exact parts_contract H enc W base args ds gs before hval hW (hcond _ rfl) hL hsh
theorem parts_said : Rows.ExprPartsUptoSaid :=
  OpenClaim.holds_of_cond 3 Tryd.f3 rfl rfl rfl rfl rfl rfl rfl ⟨rfl, rfl, rfl, rfl, rfl⟩ rfl rfl rfl rfl rfl (by kernel_rfl) Tryd.func3 (by kernel_rfl)
    (of_decide_eq_true (by kernel_rfl)) (by unfold Func.isWrapper; first | (rw [if_pos (by decide +kernel)]; kernel_rfl) | (rw [if_neg (by decide +kernel)]; exact ⟨rfl, rfl⟩))
    (fun os started H enc _ F => by rw [OpenClaim.pre_eq_preRow]; exact parts_lifted os started H enc F)
theorem parts_plain (f : FuncId) (fn : Func) (hf : Tryd.pinned.checked.prog.funcNamed "grommet/grommetlaw06.ExprParts" = some f) (hfn : Tryd.pinned.checked.prog.funcs[f]? = some fn) :
    true = Tryd.pinned.checked.prog.looks [] ∧ ∀ (j : Nat) t, fn.params[j]? = some t → Tryd.pinned.checked.prog.wantsStandIn t = false := by
  obtain rfl : f = 3 := Option.some.inj ((show Tryd.prog.funcNamed "grommet/grommetlaw06.ExprParts" = some 3 by kernel_rfl).symm.trans hf) |>.symm
  obtain rfl : fn = Tryd.f3 := (Option.some.inj (Tryd.func3.symm.trans hfn)).symm
  refine ⟨by kernel_rfl, fun j t ht => ?_⟩
  rw [Tryd.params3] at ht
  obtain rfl : t = 22 := by simpa using Array.mem_of_getElem? ht
  exact (show Tryd.prog.wantsStandIn 22 = false by kernel_rfl)
theorem parts_card : Rows.ExprPartsUptoCardSaid :=
  Claim7.holds_tied_plain_at .later [] _ _ _ _ parts_said (fun _ h => by cases h) (by kernel_rfl) (fun _ h => by cases h) exprPartsUpto_row_tie rfl ⟨rfl, rfl⟩ (by kernel_rfl) rfl parts_plain (by kernel_rfl)
end Go.Proofs.YtggoggdcnahkaaaDoor
