/- Words of walks, gathered. -/
import Derived.Test.YtggoggdcnahkaaaDoorAe19
set_option linter.unusedVariables false
set_option linter.unusedSimpArgs false
namespace Go.Proofs.YtggoggdcnahkaaaDoor
open Go Go.RowKit

theorem cells_int (k : IntKind) (n : Int) : (Value.int k n).cells = #[.int k n] := rfl
theorem cells_bool (b : Bool) : (Value.bool b).cells = #[.bool b] := rfl
theorem cells_str (s : ByteArray) : (Value.string s).cells = #[.string s] := rfl
theorem cells_agg (xs : Array Value) : (Value.agg xs).cells = xs := rfl
theorem cells_slice (a : Option Addr) (n c : Nat) : (Value.slice a n c).cells = #[.slice a n c] := rfl
theorem cells_nil : Value.nilIface.cells = #[.nilIface] := rfl
theorem cells_ptr (a : Option Addr) : (Value.pointer a).cells = #[.pointer a] := rfl

@[simp] theorem avc_agg (cs : List AV) : (AV.agg cs).cells = cs := rfl
@[simp] theorem avt_agg (cs : List AV) : (AV.agg cs).isTup = false := rfl
@[simp] theorem avc_s (v : Value) : (AV.s v).cells = [.s v] := rfl
@[simp] theorem avt_s (v : Value) : (AV.s v).isTup = false := rfl
@[simp] theorem avc_tup (cs : List AV) : (AV.tup cs).cells = [.tup cs] := rfl
@[simp] theorem avt_tup (cs : List AV) : (AV.tup cs).isTup = true := rfl
@[simp] theorem avc_sl (xs : List AV) (p : Prov) : (AV.sl xs p).cells = [.sl xs p] := rfl
@[simp] theorem avt_sl (xs : List AV) (p : Prov) : (AV.sl xs p).isTup = false := rfl
@[simp] theorem avc_ip (cs : List AV) (k : Nat) : (AV.ip cs k).cells = [.ip cs k] := rfl
@[simp] theorem avt_ip (cs : List AV) (k : Nat) : (AV.ip cs k).isTup = false := rfl
@[simp] theorem avc_ptr (τ k : Nat) : (AV.ptr τ k).cells = [.ptr τ k] := rfl
@[simp] theorem avt_ptr (τ k : Nat) : (AV.ptr τ k).isTup = false := rfl
@[simp] theorem avc_bs (τ e sz o n : Nat) : (AV.bs τ e sz o n).cells = [.bs τ e sz o n] := rfl
@[simp] theorem avt_bs (τ e sz o n : Nat) : (AV.bs τ e sz o n).isTup = false := rfl
@[simp] theorem avc_bp (τ e k : Nat) : (AV.bp τ e k).cells = [.bp τ e k] := rfl
@[simp] theorem avt_bp (τ e k : Nat) : (AV.bp τ e k).isTup = false := rfl
@[simp] theorem avc_ifc (t : TypeId) (x : AV) : (AV.ifc t x).cells = [.ifc t x] := rfl
@[simp] theorem avt_ifc (t : TypeId) (x : AV) : (AV.ifc t x).isTup = false := rfl
@[simp] theorem avc_clo (f : FuncId) (cs : List AV) : (AV.clo f cs).cells = [.clo f cs] := rfl
@[simp] theorem avt_clo (f : FuncId) (cs : List AV) : (AV.clo f cs).isTup = false := rfl

attribute [simp] callL rdOf nloops evCL trim_apply trim_put_in trim_put_out trim_trim evOps evOp evN wantedA valA valsA partsA inOrder constAV constCell conc put_some put_none
  bin_add bin_sub bin_mul bin_and bin_or bin_xor bin_eql bin_neq bin_lss bin_leq bin_gtr bin_geq bin_eqlS bin_neqS un_not un_neg sc_bool sc_int sc_str
  cells_int cells_bool cells_str cells_agg cells_slice cells_nil cells_ptr
  AV.shut AV.shutL oneOf resA widths appendC srcA natA optNat builtinN loadA putCells fillA
end Go.Proofs.YtggoggdcnahkaaaDoor
