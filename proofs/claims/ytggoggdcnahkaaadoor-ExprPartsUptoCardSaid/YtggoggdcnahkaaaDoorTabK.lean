/- Part of a proof over an evaluator of the loaded code: texts printed by a program of ours. -/
import Derived.Test.YtggoggdcnahkaaaDoorTab
import Derived.Test.YtggoggdcnahkaaaDoorFlA
import Derived.Test.YtggoggdcnahkaaaDoorFlB
import Derived.Test.YtggoggdcnahkaaaDoorCont
import Derived.Test.YtggoggdcnahkaaaDoorEnt
set_option linter.unusedVariables false
set_option maxRecDepth 100000
namespace Go.Proofs.YtggoggdcnahkaaaDoor
open Go Go.RowKit Go.Proofs
def FnOK (f : FuncId) (fi : FnInfo) : Prop := ∃ fn, P.funcs[f]? = some fn ∧ fn.body = some fi.body ∧ (fn.name == "runtime.NumGoroutine") = false ∧ fn.results.toList = fi.res ∧ dstsOK fn.ntmps fi.body = true ∧ fi.np ≤ fn.ntmps
theorem fnok {n : FuncId} {fn : Func} {live : List Nat} {pure : Bool} {keep : Nat} {bf : List TypeId} (h1 : P.funcs[n]? = some fn) (h2 : fn.body.isSome = true) (h3 : (fn.name == "runtime.NumGoroutine") = false) (h4 : dstsOK fn.ntmps (fn.body.getD .skip) = true) (h5 : fn.params.size + fn.nfree ≤ fn.ntmps) : FnOK n (mkFn fn live pure keep bf) := by
  refine ⟨fn, h1, ?_, h3, rfl, h4, h5⟩
  cases hb : fn.body with
  | none => rw [hb] at h2; cases h2
  | some b => simp [mkFn, hb]
theorem tf3 : FnOK 3 F3 := fnok (fn := Tryd.f3) (by kernel_rfl) (by kernel_rfl) (by kernel_rfl) (by kernel_rfl) (by exact Nat.le_of_ble_eq_true (by kernel_rfl))
theorem tf4 : FnOK 4 F4 := fnok (fn := Tryd.f4) (by kernel_rfl) (by kernel_rfl) (by kernel_rfl) (by kernel_rfl) (by exact Nat.le_of_ble_eq_true (by kernel_rfl))
theorem tf5 : FnOK 5 F5 := fnok (fn := Tryd.f5) (by kernel_rfl) (by kernel_rfl) (by kernel_rfl) (by kernel_rfl) (by exact Nat.le_of_ble_eq_true (by kernel_rfl))
theorem tf6 : FnOK 6 F6 := fnok (fn := Tryd.f6) (by kernel_rfl) (by kernel_rfl) (by kernel_rfl) (by kernel_rfl) (by exact Nat.le_of_ble_eq_true (by kernel_rfl))
theorem tf7 : FnOK 7 F7 := fnok (fn := Tryd.f7) (by kernel_rfl) (by kernel_rfl) (by kernel_rfl) (by kernel_rfl) (by exact Nat.le_of_ble_eq_true (by kernel_rfl))
theorem tf8 : FnOK 8 F8 := fnok (fn := Tryd.f8) (by kernel_rfl) (by kernel_rfl) (by kernel_rfl) (by kernel_rfl) (by exact Nat.le_of_ble_eq_true (by kernel_rfl))
theorem tf9 : FnOK 9 F9 := fnok (fn := Tryd.f9) (by kernel_rfl) (by kernel_rfl) (by kernel_rfl) (by kernel_rfl) (by exact Nat.le_of_ble_eq_true (by kernel_rfl))
theorem tf10 : FnOK 10 F10 := fnok (fn := Tryd.f10) (by kernel_rfl) (by kernel_rfl) (by kernel_rfl) (by kernel_rfl) (by exact Nat.le_of_ble_eq_true (by kernel_rfl))
theorem tf11 : FnOK 11 F11 := fnok (fn := Tryd.f11) (by kernel_rfl) (by kernel_rfl) (by kernel_rfl) (by kernel_rfl) (by exact Nat.le_of_ble_eq_true (by kernel_rfl))
theorem tf12 : FnOK 12 F12 := fnok (fn := Tryd.f12) (by kernel_rfl) (by kernel_rfl) (by kernel_rfl) (by kernel_rfl) (by exact Nat.le_of_ble_eq_true (by kernel_rfl))
theorem tf13 : FnOK 13 F13 := fnok (fn := Tryd.f13) (by kernel_rfl) (by kernel_rfl) (by kernel_rfl) (by kernel_rfl) (by exact Nat.le_of_ble_eq_true (by kernel_rfl))
theorem tf14 : FnOK 14 F14 := fnok (fn := Tryd.f14) (by kernel_rfl) (by kernel_rfl) (by kernel_rfl) (by kernel_rfl) (by exact Nat.le_of_ble_eq_true (by kernel_rfl))
theorem tf15 : FnOK 15 F15 := fnok (fn := Tryd.f15) (by kernel_rfl) (by kernel_rfl) (by kernel_rfl) (by kernel_rfl) (by exact Nat.le_of_ble_eq_true (by kernel_rfl))
theorem tf16 : FnOK 16 F16 := fnok (fn := Tryd.f16) (by kernel_rfl) (by kernel_rfl) (by kernel_rfl) (by kernel_rfl) (by exact Nat.le_of_ble_eq_true (by kernel_rfl))
theorem tf17 : FnOK 17 F17 := fnok (fn := Tryd.f17) (by kernel_rfl) (by kernel_rfl) (by kernel_rfl) (by kernel_rfl) (by exact Nat.le_of_ble_eq_true (by kernel_rfl))
theorem tf18 : FnOK 18 F18 := fnok (fn := Tryd.f18) (by kernel_rfl) (by kernel_rfl) (by kernel_rfl) (by kernel_rfl) (by exact Nat.le_of_ble_eq_true (by kernel_rfl))
theorem tf19 : FnOK 19 F19 := fnok (fn := Tryd.f19) (by kernel_rfl) (by kernel_rfl) (by kernel_rfl) (by kernel_rfl) (by exact Nat.le_of_ble_eq_true (by kernel_rfl))
theorem tf20 : FnOK 20 F20 := fnok (fn := Tryd.f20) (by kernel_rfl) (by kernel_rfl) (by kernel_rfl) (by kernel_rfl) (by exact Nat.le_of_ble_eq_true (by kernel_rfl))
theorem tf21 : FnOK 21 F21 := fnok (fn := Tryd.f21) (by kernel_rfl) (by kernel_rfl) (by kernel_rfl) (by kernel_rfl) (by exact Nat.le_of_ble_eq_true (by kernel_rfl))
theorem tf25 : FnOK 25 F25 := fnok (fn := Tryd.f25) (by kernel_rfl) (by kernel_rfl) (by kernel_rfl) (by kernel_rfl) (by exact Nat.le_of_ble_eq_true (by kernel_rfl))
theorem tf27 : FnOK 27 F27 := fnok (fn := Tryd.f27) (by kernel_rfl) (by kernel_rfl) (by kernel_rfl) (by kernel_rfl) (by exact Nat.le_of_ble_eq_true (by kernel_rfl))
theorem tf28 : FnOK 28 F28 := fnok (fn := Tryd.f28) (by kernel_rfl) (by kernel_rfl) (by kernel_rfl) (by kernel_rfl) (by exact Nat.le_of_ble_eq_true (by kernel_rfl))
theorem tf29 : FnOK 29 F29 := fnok (fn := Tryd.f29) (by kernel_rfl) (by kernel_rfl) (by kernel_rfl) (by kernel_rfl) (by exact Nat.le_of_ble_eq_true (by kernel_rfl))
theorem tf30 : FnOK 30 F30 := fnok (fn := Tryd.f30) (by kernel_rfl) (by kernel_rfl) (by kernel_rfl) (by kernel_rfl) (by exact Nat.le_of_ble_eq_true (by kernel_rfl))
theorem tf31 : FnOK 31 F31 := fnok (fn := Tryd.f31) (by kernel_rfl) (by kernel_rfl) (by kernel_rfl) (by kernel_rfl) (by exact Nat.le_of_ble_eq_true (by kernel_rfl))
theorem tf32 : FnOK 32 F32 := fnok (fn := Tryd.f32) (by kernel_rfl) (by kernel_rfl) (by kernel_rfl) (by kernel_rfl) (by exact Nat.le_of_ble_eq_true (by kernel_rfl))
theorem tf33 : FnOK 33 F33 := fnok (fn := Tryd.f33) (by kernel_rfl) (by kernel_rfl) (by kernel_rfl) (by kernel_rfl) (by exact Nat.le_of_ble_eq_true (by kernel_rfl))
theorem tf34 : FnOK 34 F34 := fnok (fn := Tryd.f34) (by kernel_rfl) (by kernel_rfl) (by kernel_rfl) (by kernel_rfl) (by exact Nat.le_of_ble_eq_true (by kernel_rfl))
theorem tf35 : FnOK 35 F35 := fnok (fn := Tryd.f35) (by kernel_rfl) (by kernel_rfl) (by kernel_rfl) (by kernel_rfl) (by exact Nat.le_of_ble_eq_true (by kernel_rfl))
theorem tf36 : FnOK 36 F36 := fnok (fn := Tryd.f36) (by kernel_rfl) (by kernel_rfl) (by kernel_rfl) (by kernel_rfl) (by exact Nat.le_of_ble_eq_true (by kernel_rfl))
theorem tf37 : FnOK 37 F37 := fnok (fn := Tryd.f37) (by kernel_rfl) (by kernel_rfl) (by kernel_rfl) (by kernel_rfl) (by exact Nat.le_of_ble_eq_true (by kernel_rfl))
theorem tf38 : FnOK 38 F38 := fnok (fn := Tryd.f38) (by kernel_rfl) (by kernel_rfl) (by kernel_rfl) (by kernel_rfl) (by exact Nat.le_of_ble_eq_true (by kernel_rfl))
theorem tf39 : FnOK 39 F39 := fnok (fn := Tryd.f39) (by kernel_rfl) (by kernel_rfl) (by kernel_rfl) (by kernel_rfl) (by exact Nat.le_of_ble_eq_true (by kernel_rfl))
theorem tf40 : FnOK 40 F40 := fnok (fn := Tryd.f40) (by kernel_rfl) (by kernel_rfl) (by kernel_rfl) (by kernel_rfl) (by exact Nat.le_of_ble_eq_true (by kernel_rfl))
theorem tf41 : FnOK 41 F41 := fnok (fn := Tryd.f41) (by kernel_rfl) (by kernel_rfl) (by kernel_rfl) (by kernel_rfl) (by exact Nat.le_of_ble_eq_true (by kernel_rfl))
theorem tf42 : FnOK 42 F42 := fnok (fn := Tryd.f42) (by kernel_rfl) (by kernel_rfl) (by kernel_rfl) (by kernel_rfl) (by exact Nat.le_of_ble_eq_true (by kernel_rfl))
theorem tf43 : FnOK 43 F43 := fnok (fn := Tryd.f43) (by kernel_rfl) (by kernel_rfl) (by kernel_rfl) (by kernel_rfl) (by exact Nat.le_of_ble_eq_true (by kernel_rfl))
theorem tf44 : FnOK 44 F44 := fnok (fn := Tryd.f44) (by kernel_rfl) (by kernel_rfl) (by kernel_rfl) (by kernel_rfl) (by exact Nat.le_of_ble_eq_true (by kernel_rfl))
theorem tf45 : FnOK 45 F45 := fnok (fn := Tryd.f45) (by kernel_rfl) (by kernel_rfl) (by kernel_rfl) (by kernel_rfl) (by exact Nat.le_of_ble_eq_true (by kernel_rfl))
theorem tf48 : FnOK 48 F48 := fnok (fn := Tryd.f48) (by kernel_rfl) (by kernel_rfl) (by kernel_rfl) (by kernel_rfl) (by exact Nat.le_of_ble_eq_true (by kernel_rfl))
theorem tf49 : FnOK 49 F49 := fnok (fn := Tryd.f49) (by kernel_rfl) (by kernel_rfl) (by kernel_rfl) (by kernel_rfl) (by exact Nat.le_of_ble_eq_true (by kernel_rfl))
theorem tf50 : FnOK 50 F50 := fnok (fn := Tryd.f50) (by kernel_rfl) (by kernel_rfl) (by kernel_rfl) (by kernel_rfl) (by exact Nat.le_of_ble_eq_true (by kernel_rfl))
theorem tf51 : FnOK 51 F51 := fnok (fn := Tryd.f51) (by kernel_rfl) (by kernel_rfl) (by kernel_rfl) (by kernel_rfl) (by exact Nat.le_of_ble_eq_true (by kernel_rfl))
theorem tf52 : FnOK 52 F52 := fnok (fn := Tryd.f52) (by kernel_rfl) (by kernel_rfl) (by kernel_rfl) (by kernel_rfl) (by exact Nat.le_of_ble_eq_true (by kernel_rfl))
theorem tf53 : FnOK 53 F53 := fnok (fn := Tryd.f53) (by kernel_rfl) (by kernel_rfl) (by kernel_rfl) (by kernel_rfl) (by exact Nat.le_of_ble_eq_true (by kernel_rfl))
theorem tf54 : FnOK 54 F54 := fnok (fn := Tryd.f54) (by kernel_rfl) (by kernel_rfl) (by kernel_rfl) (by kernel_rfl) (by exact Nat.le_of_ble_eq_true (by kernel_rfl))
theorem tf55 : FnOK 55 F55 := fnok (fn := Tryd.f55) (by kernel_rfl) (by kernel_rfl) (by kernel_rfl) (by kernel_rfl) (by exact Nat.le_of_ble_eq_true (by kernel_rfl))
theorem tf56 : FnOK 56 F56 := fnok (fn := Tryd.f56) (by kernel_rfl) (by kernel_rfl) (by kernel_rfl) (by kernel_rfl) (by exact Nat.le_of_ble_eq_true (by kernel_rfl))
theorem tf57 : FnOK 57 F57 := fnok (fn := Tryd.f57) (by kernel_rfl) (by kernel_rfl) (by kernel_rfl) (by kernel_rfl) (by exact Nat.le_of_ble_eq_true (by kernel_rfl))
theorem tf58 : FnOK 58 F58 := fnok (fn := Tryd.f58) (by kernel_rfl) (by kernel_rfl) (by kernel_rfl) (by kernel_rfl) (by exact Nat.le_of_ble_eq_true (by kernel_rfl))
theorem tf59 : FnOK 59 F59 := fnok (fn := Tryd.f59) (by kernel_rfl) (by kernel_rfl) (by kernel_rfl) (by kernel_rfl) (by exact Nat.le_of_ble_eq_true (by kernel_rfl))
theorem tf60 : FnOK 60 F60 := fnok (fn := Tryd.f60) (by kernel_rfl) (by kernel_rfl) (by kernel_rfl) (by kernel_rfl) (by exact Nat.le_of_ble_eq_true (by kernel_rfl))
theorem tf61 : FnOK 61 F61 := fnok (fn := Tryd.f61) (by kernel_rfl) (by kernel_rfl) (by kernel_rfl) (by kernel_rfl) (by exact Nat.le_of_ble_eq_true (by kernel_rfl))
theorem tf62 : FnOK 62 F62 := fnok (fn := Tryd.f62) (by kernel_rfl) (by kernel_rfl) (by kernel_rfl) (by kernel_rfl) (by exact Nat.le_of_ble_eq_true (by kernel_rfl))
theorem tf63 : FnOK 63 F63 := fnok (fn := Tryd.f63) (by kernel_rfl) (by kernel_rfl) (by kernel_rfl) (by kernel_rfl) (by exact Nat.le_of_ble_eq_true (by kernel_rfl))
theorem tf64 : FnOK 64 F64 := fnok (fn := Tryd.f64) (by kernel_rfl) (by kernel_rfl) (by kernel_rfl) (by kernel_rfl) (by exact Nat.le_of_ble_eq_true (by kernel_rfl))
theorem tf65 : FnOK 65 F65 := fnok (fn := Tryd.f65) (by kernel_rfl) (by kernel_rfl) (by kernel_rfl) (by kernel_rfl) (by exact Nat.le_of_ble_eq_true (by kernel_rfl))
theorem tf66 : FnOK 66 F66 := fnok (fn := Tryd.f66) (by kernel_rfl) (by kernel_rfl) (by kernel_rfl) (by kernel_rfl) (by exact Nat.le_of_ble_eq_true (by kernel_rfl))
theorem tf67 : FnOK 67 F67 := fnok (fn := Tryd.f67) (by kernel_rfl) (by kernel_rfl) (by kernel_rfl) (by kernel_rfl) (by exact Nat.le_of_ble_eq_true (by kernel_rfl))
theorem tf68 : FnOK 68 F68 := fnok (fn := Tryd.f68) (by kernel_rfl) (by kernel_rfl) (by kernel_rfl) (by kernel_rfl) (by exact Nat.le_of_ble_eq_true (by kernel_rfl))
theorem tf69 : FnOK 69 F69 := fnok (fn := Tryd.f69) (by kernel_rfl) (by kernel_rfl) (by kernel_rfl) (by kernel_rfl) (by exact Nat.le_of_ble_eq_true (by kernel_rfl))
theorem tf70 : FnOK 70 F70 := fnok (fn := Tryd.f70) (by kernel_rfl) (by kernel_rfl) (by kernel_rfl) (by kernel_rfl) (by exact Nat.le_of_ble_eq_true (by kernel_rfl))
theorem tf71 : FnOK 71 F71 := fnok (fn := Tryd.f71) (by kernel_rfl) (by kernel_rfl) (by kernel_rfl) (by kernel_rfl) (by exact Nat.le_of_ble_eq_true (by kernel_rfl))
theorem tf72 : FnOK 72 F72 := fnok (fn := Tryd.f72) (by kernel_rfl) (by kernel_rfl) (by kernel_rfl) (by kernel_rfl) (by exact Nat.le_of_ble_eq_true (by kernel_rfl))
theorem tf73 : FnOK 73 F73 := fnok (fn := Tryd.f73) (by kernel_rfl) (by kernel_rfl) (by kernel_rfl) (by kernel_rfl) (by exact Nat.le_of_ble_eq_true (by kernel_rfl))
theorem tf74 : FnOK 74 F74 := fnok (fn := Tryd.f74) (by kernel_rfl) (by kernel_rfl) (by kernel_rfl) (by kernel_rfl) (by exact Nat.le_of_ble_eq_true (by kernel_rfl))
theorem tf75 : FnOK 75 F75 := fnok (fn := Tryd.f75) (by kernel_rfl) (by kernel_rfl) (by kernel_rfl) (by kernel_rfl) (by exact Nat.le_of_ble_eq_true (by kernel_rfl))
theorem tf76 : FnOK 76 F76 := fnok (fn := Tryd.f76) (by kernel_rfl) (by kernel_rfl) (by kernel_rfl) (by kernel_rfl) (by exact Nat.le_of_ble_eq_true (by kernel_rfl))
theorem tf78 : FnOK 78 F78 := fnok (fn := Tryd.f78) (by kernel_rfl) (by kernel_rfl) (by kernel_rfl) (by kernel_rfl) (by exact Nat.le_of_ble_eq_true (by kernel_rfl))
theorem tf79 : FnOK 79 F79 := fnok (fn := Tryd.f79) (by kernel_rfl) (by kernel_rfl) (by kernel_rfl) (by kernel_rfl) (by exact Nat.le_of_ble_eq_true (by kernel_rfl))
theorem tf81 : FnOK 81 F81 := fnok (fn := Tryd.f81) (by kernel_rfl) (by kernel_rfl) (by kernel_rfl) (by kernel_rfl) (by exact Nat.le_of_ble_eq_true (by kernel_rfl))
theorem fnC : ∀ f fi, C f = some fi → FnOK f fi := by
  intro f fi h
  unfold C at h
  split at h
  · injection h with h; subst h; exact tf3
  · injection h with h; subst h; exact tf4
  · injection h with h; subst h; exact tf5
  · injection h with h; subst h; exact tf6
  · injection h with h; subst h; exact tf7
  · injection h with h; subst h; exact tf8
  · injection h with h; subst h; exact tf9
  · injection h with h; subst h; exact tf10
  · injection h with h; subst h; exact tf11
  · injection h with h; subst h; exact tf12
  · injection h with h; subst h; exact tf13
  · injection h with h; subst h; exact tf14
  · injection h with h; subst h; exact tf15
  · injection h with h; subst h; exact tf16
  · injection h with h; subst h; exact tf17
  · injection h with h; subst h; exact tf18
  · injection h with h; subst h; exact tf19
  · injection h with h; subst h; exact tf20
  · injection h with h; subst h; exact tf21
  · injection h with h; subst h; exact tf25
  · injection h with h; subst h; exact tf27
  · injection h with h; subst h; exact tf28
  · injection h with h; subst h; exact tf29
  · injection h with h; subst h; exact tf30
  · injection h with h; subst h; exact tf31
  · injection h with h; subst h; exact tf32
  · injection h with h; subst h; exact tf33
  · injection h with h; subst h; exact tf34
  · injection h with h; subst h; exact tf35
  · injection h with h; subst h; exact tf36
  · injection h with h; subst h; exact tf37
  · injection h with h; subst h; exact tf38
  · injection h with h; subst h; exact tf39
  · injection h with h; subst h; exact tf40
  · injection h with h; subst h; exact tf41
  · injection h with h; subst h; exact tf42
  · injection h with h; subst h; exact tf43
  · injection h with h; subst h; exact tf44
  · injection h with h; subst h; exact tf45
  · injection h with h; subst h; exact tf48
  · injection h with h; subst h; exact tf49
  · injection h with h; subst h; exact tf50
  · injection h with h; subst h; exact tf51
  · injection h with h; subst h; exact tf52
  · injection h with h; subst h; exact tf53
  · injection h with h; subst h; exact tf54
  · injection h with h; subst h; exact tf55
  · injection h with h; subst h; exact tf56
  · injection h with h; subst h; exact tf57
  · injection h with h; subst h; exact tf58
  · injection h with h; subst h; exact tf59
  · injection h with h; subst h; exact tf60
  · injection h with h; subst h; exact tf61
  · injection h with h; subst h; exact tf62
  · injection h with h; subst h; exact tf63
  · injection h with h; subst h; exact tf64
  · injection h with h; subst h; exact tf65
  · injection h with h; subst h; exact tf66
  · injection h with h; subst h; exact tf67
  · injection h with h; subst h; exact tf68
  · injection h with h; subst h; exact tf69
  · injection h with h; subst h; exact tf70
  · injection h with h; subst h; exact tf71
  · injection h with h; subst h; exact tf72
  · injection h with h; subst h; exact tf73
  · injection h with h; subst h; exact tf74
  · injection h with h; subst h; exact tf75
  · injection h with h; subst h; exact tf76
  · injection h with h; subst h; exact tf78
  · injection h with h; subst h; exact tf79
  · injection h with h; subst h; exact tf81
  · cases h
theorem xl_ok (m : Int) : ∀ f g, XL m f = some g → ∀ l r, g l = some r → SelfCalls P (GL m) f l r := by
  intro f g h
  unfold XL at h
  split at h
  · rename_i hf
    subst hf
    injection h with h; subst h
    exact indexByte_self (P := P) (fn := Tryd.f80) (by kernel_rfl) (by kernel_rfl) (by kernel_rfl) (by kernel_rfl) rfl
  · split at h
    · rename_i hf
      subst hf
      injection h with h; subst h
      exact indexStr_self (P := P) (fn := Tryd.f77) (g := 3) (m := m) (by kernel_rfl) (by kernel_rfl) (by kernel_rfl) (by kernel_rfl) (by kernel_rfl) (by kernel_rfl) rfl
    · cases h
theorem tab0_ok (m : Int) : TabOK P (T0 m) := ⟨fnC, (by intro f g h; cases h), (by intro f g h; cases h), (by intro f g h; cases h), xl_ok m, (by intro f g h; cases h)⟩
theorem mixed : P.follows .mixedOrders = true := by kernel_rfl
/-- What the evaluator answers of values alone is so. -/
theorem pure_of {T : Tab} (hT : TabOK P T) {n : Nat} {f : FuncId} {fn : Func} {l : List AV} {r : AV} (h : evF P T n f l [] = some (r, [])) (h1 : P.funcs[f]? = some fn) (h2 : fn.body.isNone = false) (h3 : (fn.name == "runtime.NumGoroutine") = false) : PureCalls P T.G f l r :=
  fun R K w args hG hw ha => ((evF_ok hT mixed n).1 f l [] r [] h w.heap.size R K w args hG hw ha).calls h1 h2 h3
theorem fields_row (m : Int) {s : ByteArray} (h : rowNames.any (same s) = true) : okF m s = true := by
  have hm := mem_of_any h
  obtain ⟨i, hi⟩ := List.mem_iff_getElem?.1 hm
  have hlt : i < 18 := by have := (List.getElem?_eq_some_iff.1 hi).1; rw [rn_len] at this; exact this
  have key : (rowNames[i]?).map (okF m) = some true := by
    match i, hlt with
    | 0, _ => exact fld0 m
    | 1, _ => exact fld1 m
    | 2, _ => exact fld2 m
    | 3, _ => exact fld3 m
    | 4, _ => exact fld4 m
    | 5, _ => exact fld5 m
    | 6, _ => exact fld6 m
    | 7, _ => exact fld7 m
    | 8, _ => exact fld8 m
    | 9, _ => exact fld9 m
    | 10, _ => exact fld10 m
    | 11, _ => exact fld11 m
    | 12, _ => exact fld12 m
    | 13, _ => exact fld13 m
    | 14, _ => exact fld14 m
    | 15, _ => exact fld15 m
    | 16, _ => exact fld16 m
    | 17, _ => exact fld17 m
  rw [hi] at key
  injection key
theorem fieldsO_ok (m : Int) : ∀ l r, fieldsO l = some r → PureCalls P (GL m) 39 l r := by
  intro l r h
  unfold fieldsO at h
  split at h
  · rename_i s
    split at h
    · rename_i hc
      injection h with h; subst h
      exact pure_of (tab0_ok m) (okF_eq (fields_row m hc)) (fn := Tryd.f39) (by kernel_rfl) (by kernel_rfl) (by kernel_rfl)
    · cases h
  · cases h
theorem containsO_ok (m : Int) : ∀ l r, containsO l = some r → PureCalls P (GL m) 61 l r := by
  intro l r h
  unfold containsO at h
  split at h
  · rename_i a b
    split at h
    · rename_i hc
      injection h with h; subst h
      rw [Bool.and_eq_true] at hc
      exact pure_of (tab0_ok m) (cCon_ok m a b _ [] (con_all m (mem_of_any hc.1) (mem_of_any hc.2))) (fn := Tryd.f61) (by kernel_rfl) (by kernel_rfl) (by kernel_rfl)
    · cases h
  · cases h
theorem tab_ok (m : Int) : TabOK P (T m) := by
  refine ⟨fnC, ?_, ?_, ent_fn, xl_ok m, ent_ok m⟩
  all_goals intro f g h
  · change OL f = some g at h
    unfold OL at h
    split at h
    · rename_i hf; subst hf; exact ⟨Tryd.f39, by kernel_rfl, by kernel_rfl, by kernel_rfl⟩
    · split at h
      · rename_i hf; subst hf; exact ⟨Tryd.f61, by kernel_rfl, by kernel_rfl, by kernel_rfl⟩
      · cases h
  · change OL f = some g at h
    unfold OL at h
    split at h
    · rename_i hf; subst hf; injection h with h; subst h; exact fieldsO_ok m
    · split at h
      · rename_i hf; subst hf; injection h with h; subst h; exact containsO_ok m
      · cases h
end Go.Proofs.YtggoggdcnahkaaaDoor
