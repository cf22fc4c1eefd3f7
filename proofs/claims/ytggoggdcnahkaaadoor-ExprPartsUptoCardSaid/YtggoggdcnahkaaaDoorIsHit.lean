/- errors.Is at this program's own errors. -/
import Derived.Test.YtggoggdcnahkaaaDoorTab0
import Derived.WalkKit
import Derived.LaidEql
import Derived.Lib.IfaceEq
import Derived.Stop.Asserts
import Derived.RowKitTokens
namespace Go.Proofs.YtggoggdcnahkaaaDoor
open Go Go.RowKit Go.Proofs
open Go.RowKit Go.Extern.Stop Go.Stop Go.Extern

theorem is_typeOf (v : Value) (w : World) : (Extern.ReflectliteType.typeOf #[.iface 39 v]).run Tryd.prog w = .ok (.iface 96 (.agg #[.pointer (some ⟨5, 39, none⟩)])) w := by kernel_rfl
theorem is_comparable (w : World) : ((Extern.ReflectliteType.method fun t => do Rtype.noPackHeld "Comparable" t; (fun a => Value.bool a.comparable) <$> typeInfo t) #[.agg #[.pointer (some ⟨5, 39, none⟩)]]).run Tryd.prog w = .ok (.bool true) w := by kernel_rfl
theorem is_methodComparable (v : Value) (w : World) : (Go.method 288 96 v "Comparable").run Tryd.prog w = .ok (107, v) w := by kernel_rfl
theorem is_comp : (Tryd.prog.info? 39).map (·.comparable) = some true := by kernel_rfl
theorem is_noIs (v : Value) (xT : TypeId) (w : World) : (Instr.typeAssert (.iface 39 v) xT 108 true).run Tryd.prog w = .ok (.tuple #[.nilIface, .bool false]) w := run_typeAssert_lacksB Tryd.underlying108 (by kernel_rfl) (by kernel_rfl) v xT w
theorem is_noUnwrap (v : Value) (xT : TypeId) (w : World) : (Instr.typeAssert (.iface 39 v) xT 103 true).run Tryd.prog w = .ok (.tuple #[.nilIface, .bool false]) w := run_typeAssert_lacksB Tryd.underlying103 (by kernel_rfl) (by kernel_rfl) v xT w
theorem is_noUnwraps (v : Value) (xT : TypeId) (w : World) : (Instr.typeAssert (.iface 39 v) xT 105 true).run Tryd.prog w = .ok (.tuple #[.nilIface, .bool false]) w := run_typeAssert_lacksB Tryd.underlying105 (by kernel_rfl) (by kernel_rfl) v xT w
theorem is_noIsS (v : Value) (xT : TypeId) (w : World) : (Instr.typeAssert (.iface 48 v) xT 108 true).run Tryd.prog w = .ok (.tuple #[.nilIface, .bool false]) w := run_typeAssert_lacksB Tryd.underlying108 (by kernel_rfl) (by kernel_rfl) v xT w
theorem is_hasUnwrapS (v : Value) (xT : TypeId) (w : World) : (Instr.typeAssert (.iface 48 v) xT 103 true).run Tryd.prog w = .ok (.tuple #[.iface 48 v, .bool true]) w := run_typeAssert_hasB Tryd.underlying103 (by kernel_rfl) v xT w
theorem is_methodUnwrap (v : Value) (w : World) : (Go.method 288 48 v "Unwrap").run Tryd.prog w = .ok (101, v) w := by kernel_rfl

set_option maxRecDepth 100000 in
set_option maxHeartbeats 8000000 in
/-- errors.Is of two numbers of one's own. -/
theorem is_code (a b : Int) (w : World) :
    Calls Tryd.prog 14 #[.iface 39 (.int .i64 a), .iface 39 (.int .i64 b)] w fun e w' => e = .returned (.bool (decide (a = b))) ∧ w' = w := by
  obtain ⟨i, hi, hcmp⟩ := Option.map_eq_some_iff.1 is_comp
  have h8 := @run_callFunc_extern Tryd.prog 26 _ Extern.ReflectliteType.typeOf Tryd.func26 (by kernel_rfl) (by kernel_rfl) (by kernel_rfl) (by kernel_rfl)
  have h32 := @run_callFunc_extern Tryd.prog 107 _ (Extern.ReflectliteType.method fun t => do Rtype.noPackHeld "Comparable" t; pure (.bool (← typeInfo t).comparable)) Tryd.func107 (by kernel_rfl) (by kernel_rfl) (by kernel_rfl) (by kernel_rfl)
  have tT := is_typeOf
  have cT := is_comparable
  have mR := is_methodComparable
  have nE := is_noIs
  have uE := is_noUnwrap
  have vE := is_noUnwraps
  have heq : ∀ a b : Int, ((binOp .eql 28 (.iface 39 (.int .i64 a)) (.iface 39 (.int .i64 b))).run Tryd.prog w) = .ok (.bool (decide (a = b))) w := fun a b => by
    have := Go.Lib.run_eql_iface_int (P := Tryd.prog) w (k := .i64) a b Tryd.underlying28 is_comp Tryd.underlying39
    rw [this]
    rfl
  have heq' := heq a b
  by_cases hab : a = b
  · have e : decide (a = b) = true := by simp [hab]
    rw [e] at heq' ⊢
    clear heq e hab
    go_enter Tryd.func14, Tryd.ntmps14
    go_wp2
    refine wp_loop_rounds 1 ?_
    rw [rounds_succ]
    go_wp2
    go_ret
    exact ⟨rfl, rfl⟩
  · have e : decide (a = b) = false := by simp [hab]
    rw [e] at heq' ⊢
    clear heq e hab
    go_enter Tryd.func14, Tryd.ntmps14
    go_wp2
    refine wp_loop_rounds 1 ?_
    rw [rounds_succ]
    go_wp2
    go_ret
    exact ⟨rfl, rfl⟩

set_option maxRecDepth 100000 in
set_option maxHeartbeats 8000000 in
/-- errors.Is of a Spot that tells of a number of one's own. -/
theorem is_spot (a b : Int) (g o : Nat) (w : World) (hc : w.cell? ⟨g, o + 1, none⟩ = some (.iface 39 (.int .i64 a))) :
    Calls Tryd.prog 14 #[.iface 48 (.pointer (some ⟨g, o, none⟩)), .iface 39 (.int .i64 b)] w fun e w' => e = .returned (.bool (decide (a = b))) ∧ w' = w := by
  obtain ⟨i, hi, hcmp⟩ := Option.map_eq_some_iff.1 is_comp
  have h8 := @run_callFunc_extern Tryd.prog 26 _ Extern.ReflectliteType.typeOf Tryd.func26 (by kernel_rfl) (by kernel_rfl) (by kernel_rfl) (by kernel_rfl)
  have h32 := @run_callFunc_extern Tryd.prog 107 _ (Extern.ReflectliteType.method fun t => do Rtype.noPackHeld "Comparable" t; pure (.bool (← typeInfo t).comparable)) Tryd.func107 (by kernel_rfl) (by kernel_rfl) (by kernel_rfl) (by kernel_rfl)
  have tT := is_typeOf
  have cT := is_comparable
  have mR := is_methodComparable
  have nE := is_noIs
  have uE := is_noUnwrap
  have vE := is_noUnwraps
  have nS := is_noIsS
  have uS := is_hasUnwrapS
  have mU := is_methodUnwrap
  have hty := run_eql_iface_types (P := Tryd.prog) 48 39 (.pointer (some ⟨g, o, none⟩)) (.int .i64 b) Tryd.underlying28 (by decide) w
  have heq' := Go.Lib.run_eql_iface_int (P := Tryd.prog) w (k := .i64) a b Tryd.underlying28 is_comp Tryd.underlying39
  rw [show (a == b) = decide (a = b) from rfl] at heq'
  by_cases hab : a = b
  · have e : decide (a = b) = true := by simp [hab]
    rw [e] at heq' ⊢
    clear e hab
    go_enter Tryd.func14, Tryd.ntmps14
    go_wp2
    refine wp_loop_rounds 2 ?_
    rw [rounds_succ]
    go_wp2
    rw [rounds_succ]
    go_wp2
    go_ret
    exact ⟨rfl, rfl⟩
  · have e : decide (a = b) = false := by simp [hab]
    rw [e] at heq' ⊢
    clear e hab
    go_enter Tryd.func14, Tryd.ntmps14
    go_wp2
    refine wp_loop_rounds 2 ?_
    rw [rounds_succ]
    go_wp2
    rw [rounds_succ]
    go_wp2
    go_ret
    exact ⟨rfl, rfl⟩
end Go.Proofs.YtggoggdcnahkaaaDoor
