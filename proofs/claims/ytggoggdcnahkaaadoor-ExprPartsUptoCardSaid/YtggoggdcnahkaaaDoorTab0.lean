/- Part of a proof over an evaluator of the loaded code: texts printed by a program of ours. -/
import Derived.Test.YtggoggdcnahkaaaDoorAe23
import Derived.Test.YtggoggdcnahkaaaDoorProg
set_option linter.unusedVariables false
namespace Go.Proofs.YtggoggdcnahkaaaDoor
open Go Go.RowKit Go.Proofs
noncomputable def mkFn (fn : Func) (live : List Nat) (pure : Bool) (keep : Nat) (bf : List TypeId) : FnInfo := ⟨fn.body.getD .skip, fn.params.size + fn.nfree, fn.results.toList, live, pure, keep, bf⟩
noncomputable def F3 : FnInfo := mkFn Tryd.f3 [0, 1, 4, 5, 6, 8, 10, 11, 12, 13, 14, 15, 32, 58] true 0 [0]  -- grommet/grommetlaw06.ExprParts
noncomputable def F4 : FnInfo := mkFn Tryd.f4 [0, 1, 2, 5] true 0 [0]  -- grommet/grommetlaw06.up
noncomputable def F5 : FnInfo := mkFn Tryd.f5 [0, 2, 3, 4, 5, 6, 7, 8, 9, 10, 14, 54, 58, 64] true 0 [0]  -- grommet/grommetref05.Count
noncomputable def F6 : FnInfo := mkFn Tryd.f6 [0, 2, 3, 6] true 0 [0]  -- grommet/expr.Put
noncomputable def F7 : FnInfo := mkFn Tryd.f7 [0, 1, 4, 5, 6, 7, 8, 9, 17, 29, 42] false 2 [0]  -- grommet/expr.Get
noncomputable def F8 : FnInfo := mkFn Tryd.f8 [0, 1, 2, 6, 7, 8, 9, 24] false 0 [0]  -- grommet/grommetlaw00.Is
noncomputable def F9 : FnInfo := mkFn Tryd.f9 [0, 2] true 0 [0]  -- grommet/tree.May
noncomputable def F10 : FnInfo := mkFn Tryd.f10 [0, 1, 4, 6, 7, 8, 9, 10] false 1 [0]  -- grommet/expr.list
noncomputable def F11 : FnInfo := mkFn Tryd.f11 [0, 1, 4, 5, 6, 7, 8, 9, 10, 15, 34, 42, 50, 57, 87] false 2 [0]  -- (*grommet/expr.reader).list
noncomputable def F12 : FnInfo := mkFn Tryd.f12 [0, 1, 2, 10] false 2 [0]  -- (*grommet/expr.reader).fail
noncomputable def F13 : FnInfo := mkFn Tryd.f13 [0, 1, 4, 5, 6, 7, 9, 11, 23, 35] false 0 [0]  -- errors.As
noncomputable def F14 : FnInfo := mkFn Tryd.f14 [0, 1, 4, 5, 11] false 0 [0]  -- errors.Is
noncomputable def F15 : FnInfo := mkFn Tryd.f15 [0, 1, 4] true 0 [0]  -- slices.ContainsFunc[[]grommet/api.Ins,grommet/api.Ins]
noncomputable def F16 : FnInfo := mkFn Tryd.f16 [0, 1, 2] true 0 [0]  -- grommet/tree.May$1
noncomputable def F17 : FnInfo := mkFn Tryd.f17 [0, 1, 2, 3, 4, 12, 13, 19, 30, 32, 50, 53, 65, 67, 89] true 0 [0]  -- grommet/tree.may
noncomputable def F18 : FnInfo := mkFn Tryd.f18 [0, 1, 3, 4, 5, 6, 14, 22, 36, 46, 62, 69, 86, 96, 110, 121] false 1 [0]  -- grommet/expr.one
noncomputable def F19 : FnInfo := mkFn Tryd.f19 [0, 2, 7, 17] false 2 [0]  -- (*grommet/expr.reader).byte
noncomputable def F20 : FnInfo := mkFn Tryd.f20 [0, 2, 3, 5, 6, 8, 11, 12, 13, 14, 32] true 0 [0]  -- grommet/op.Look
noncomputable def F21 : FnInfo := mkFn Tryd.f21 [0, 1, 2, 4, 6, 7, 11, 20, 35, 41, 50, 57, 66] false 2 [0]  -- (*grommet/expr.reader).fields
noncomputable def F25 : FnInfo := mkFn Tryd.f25 [0, 1, 2, 3, 6, 8, 9, 10, 11, 12, 14, 19, 35, 36, 38, 39, 43, 45, 46, 48, 49, 50, 51, 55, 60] false 0 [0]  -- errors.as
noncomputable def F27 : FnInfo := mkFn Tryd.f27 [0, 1, 2, 6, 7, 8, 9, 10, 12, 19, 30, 31, 33, 34, 38, 40, 41, 43, 44, 45, 46, 52] false 0 [0]  -- errors.is
noncomputable def F28 : FnInfo := mkFn Tryd.f28 [0, 1, 4, 5, 7, 8, 9, 16] true 0 [0]  -- slices.IndexFunc[[]grommet/api.Ins,grommet/api.Ins]
noncomputable def F29 : FnInfo := mkFn Tryd.f29 [0, 1, 2, 22, 40] true 0 [0]  -- grommet/tree.block
noncomputable def F30 : FnInfo := mkFn Tryd.f30 [0, 2] true 0 [0]  -- grommet/tree.number
noncomputable def F31 : FnInfo := mkFn Tryd.f31 [0, 1, 4] true 0 [0]  -- slices.ContainsFunc[[]int,int]
noncomputable def F32 : FnInfo := mkFn Tryd.f32 [0, 2] true 0 [0]  -- grommet/tree.may$1
noncomputable def F33 : FnInfo := mkFn Tryd.f33 [0, 1, 2] true 0 [0]  -- grommet/tree.bare
noncomputable def F34 : FnInfo := mkFn Tryd.f34 [0, 2, 3, 4, 6] true 0 [0]  -- grommet/expr.blockType
noncomputable def F35 : FnInfo := mkFn Tryd.f35 [0, 1, 4, 6, 7, 8, 9, 10] false 1 [0]  -- grommet/expr.put
noncomputable def F36 : FnInfo := mkFn Tryd.f36 [0, 2, 3, 9] true 0 [0]  -- grommet/leb.PutS
noncomputable def F37 : FnInfo := mkFn Tryd.f37 [0, 2, 3, 16] true 0 [0]  -- grommet/op.float
noncomputable def F38 : FnInfo := mkFn Tryd.f38 [0] true 0 [0]  -- grommet/op.rows
noncomputable def F39 : FnInfo := mkFn Tryd.f39 [0, 2, 3, 4, 5, 6, 7, 8, 9, 10, 11, 12, 16, 37, 53, 60, 66, 91, 98] true 0 [88]  -- strings.Fields
noncomputable def F40 : FnInfo := mkFn Tryd.f40 [0, 1, 2, 3, 8, 9, 23, 32, 36, 41, 44, 48, 49] true 0 [0]  -- grommet/op.made
noncomputable def F41 : FnInfo := mkFn Tryd.f41 [0, 1, 2, 4, 6, 7, 19, 22, 40] false 2 [0]  -- (*grommet/expr.reader).block
noncomputable def F42 : FnInfo := mkFn Tryd.f42 [0, 2, 3, 4, 5, 10, 25] false 2 [0]  -- (*grommet/expr.reader).number
noncomputable def F43 : FnInfo := mkFn Tryd.f43 [0, 1, 4, 12] false 2 [0]  -- (*grommet/expr.reader).want
noncomputable def F44 : FnInfo := mkFn Tryd.f44 [0, 1, 4, 5, 6, 7, 8, 10, 15, 31, 44] false 2 [0]  -- (*grommet/expr.reader).constant
noncomputable def F45 : FnInfo := mkFn Tryd.f45 [0, 2, 3, 4, 5, 6, 14, 28] false 2 [0]  -- (*grommet/expr.reader).labels
noncomputable def F48 : FnInfo := mkFn Tryd.f48 [0, 1, 4, 5, 7, 8, 9, 16] true 0 [0]  -- slices.IndexFunc[[]int,int]
noncomputable def F49 : FnInfo := mkFn Tryd.f49 [0, 2, 3, 5] true 0 [0]  -- grommet/leb.PutU
noncomputable def F50 : FnInfo := mkFn Tryd.f50 [0, 1, 4, 5, 6, 7, 8, 9, 10, 11, 14, 15, 16, 21, 23, 33, 36, 47, 48, 49, 50] true 0 [0]  -- strings.FieldsFunc
noncomputable def F51 : FnInfo := mkFn Tryd.f51 [0, 2, 5, 6, 7] true 0 [0]  -- unicode.IsSpace
noncomputable def F52 : FnInfo := mkFn Tryd.f52 [0, 2, 3, 6] true 0 [0]  -- grommet/op.kind
noncomputable def F53 : FnInfo := mkFn Tryd.f53 [0, 2, 3, 6, 9] true 0 [0]  -- grommet/op.access
noncomputable def F54 : FnInfo := mkFn Tryd.f54 [0, 1, 4] true 0 [0]  -- strings.HasSuffix
noncomputable def F55 : FnInfo := mkFn Tryd.f55 [0, 2, 4, 5, 20, 26, 58] false 0 [0]  -- grommet/op.number
noncomputable def F56 : FnInfo := mkFn Tryd.f56 [0, 2, 3, 9, 10, 12, 14, 16] false 2 [0]  -- (*grommet/expr.reader).result
noncomputable def F57 : FnInfo := mkFn Tryd.f57 [0, 1, 2, 6, 7, 8, 9, 10, 11, 12, 17, 47] true 0 [0]  -- grommet/leb.U
noncomputable def F58 : FnInfo := mkFn Tryd.f58 [0, 1, 2, 6, 7, 8, 9, 10, 11, 12, 13, 14, 15, 20, 32, 41, 58, 66] true 0 [0]  -- grommet/leb.S
noncomputable def F59 : FnInfo := mkFn Tryd.f59 [0, 1, 4, 5, 6, 7, 32, 54] true 0 [0]  -- unicode.isExcludingLatin
noncomputable def F60 : FnInfo := mkFn Tryd.f60 [0, 1, 4] true 0 [0]  -- strings.HasPrefix
noncomputable def F61 : FnInfo := mkFn Tryd.f61 [0, 1, 4] true 0 [0]  -- strings.Contains
noncomputable def F62 : FnInfo := mkFn Tryd.f62 [0, 1, 4] true 0 [0]  -- internal/stringslite.HasSuffix
noncomputable def F63 : FnInfo := mkFn Tryd.f63 [0, 2, 3, 4, 7, 15, 18] true 0 [0]  -- grommet/num.Args
noncomputable def F64 : FnInfo := mkFn Tryd.f64 [0, 1, 4, 5, 6, 7, 8, 10, 26, 37] true 0 [33]  -- slices.Repeat[[]int,int]
noncomputable def F65 : FnInfo := mkFn Tryd.f65 [0, 1, 2, 6] true 0 [0]  -- grommet/leb.may
noncomputable def F66 : FnInfo := mkFn Tryd.f66 [0, 1, 2, 6, 7, 8, 9, 10, 11, 12, 15, 21, 36] true 0 [0]  -- grommet/leb.raw
noncomputable def F67 : FnInfo := mkFn Tryd.f67 [0, 1, 4, 5, 6, 7, 8, 9, 10, 17, 19, 20, 21, 31, 37, 62, 85, 110] true 0 [0]  -- unicode.is16
noncomputable def F68 : FnInfo := mkFn Tryd.f68 [0, 1, 4, 5, 6, 7, 8, 9, 10, 13, 15, 16, 17, 27, 33, 58, 78, 95] true 0 [0]  -- unicode.is32
noncomputable def F69 : FnInfo := mkFn Tryd.f69 [0, 1, 4] true 0 [0]  -- internal/stringslite.HasPrefix
noncomputable def F70 : FnInfo := mkFn Tryd.f70 [0, 1, 4] true 0 [0]  -- strings.Index
noncomputable def F71 : FnInfo := mkFn Tryd.f71 [0, 2, 3, 4, 5, 6, 9, 12, 21, 30, 39, 48, 57, 66, 69] true 0 [0]  -- grommet/num.row
noncomputable def F72 : FnInfo := mkFn Tryd.f72 [0, 1, 4, 5, 6, 7, 8, 9] true 0 [0]  -- math/bits.Mul
noncomputable def F73 : FnInfo := mkFn Tryd.f73 [0, 1, 4, 5, 6, 7, 8, 9, 10, 11, 12, 13, 16, 24, 31, 36, 59, 64, 73, 93, 107, 114, 132, 139] true 0 [0]  -- internal/stringslite.Index
noncomputable def F74 : FnInfo := mkFn Tryd.f74 [0, 1, 4, 5, 6] true 0 [0]  -- math/bits.Mul32
noncomputable def F75 : FnInfo := mkFn Tryd.f75 [0, 1, 4, 5, 6, 7, 8, 9, 10, 11, 12, 13] true 0 [0]  -- math/bits.Mul64
noncomputable def F76 : FnInfo := mkFn Tryd.f76 [0, 1, 4] true 0 [0]  -- internal/stringslite.IndexByte
noncomputable def F78 : FnInfo := mkFn Tryd.f78 [0, 2] true 0 [0]  -- internal/bytealg.Cutover
noncomputable def F79 : FnInfo := mkFn Tryd.f79 [0, 1, 4, 5, 6, 7, 8, 9, 10, 20, 39, 44, 77] true 0 [0]  -- internal/bytealg.IndexRabinKarp[string]
noncomputable def F81 : FnInfo := mkFn Tryd.f81 [0, 2, 3, 4, 5, 6, 7, 8, 12, 25, 30] true 0 [0]  -- internal/bytealg.hashStr[string]
noncomputable def C : FuncId → Option FnInfo
  | 3 => some F3
  | 4 => some F4
  | 5 => some F5
  | 6 => some F6
  | 7 => some F7
  | 8 => some F8
  | 9 => some F9
  | 10 => some F10
  | 11 => some F11
  | 12 => some F12
  | 13 => some F13
  | 14 => some F14
  | 15 => some F15
  | 16 => some F16
  | 17 => some F17
  | 18 => some F18
  | 19 => some F19
  | 20 => some F20
  | 21 => some F21
  | 25 => some F25
  | 27 => some F27
  | 28 => some F28
  | 29 => some F29
  | 30 => some F30
  | 31 => some F31
  | 32 => some F32
  | 33 => some F33
  | 34 => some F34
  | 35 => some F35
  | 36 => some F36
  | 37 => some F37
  | 38 => some F38
  | 39 => some F39
  | 40 => some F40
  | 41 => some F41
  | 42 => some F42
  | 43 => some F43
  | 44 => some F44
  | 45 => some F45
  | 48 => some F48
  | 49 => some F49
  | 50 => some F50
  | 51 => some F51
  | 52 => some F52
  | 53 => some F53
  | 54 => some F54
  | 55 => some F55
  | 56 => some F56
  | 57 => some F57
  | 58 => some F58
  | 59 => some F59
  | 60 => some F60
  | 61 => some F61
  | 62 => some F62
  | 63 => some F63
  | 64 => some F64
  | 65 => some F65
  | 66 => some F66
  | 67 => some F67
  | 68 => some F68
  | 69 => some F69
  | 70 => some F70
  | 71 => some F71
  | 72 => some F72
  | 73 => some F73
  | 74 => some F74
  | 75 => some F75
  | 76 => some F76
  | 78 => some F78
  | 79 => some F79
  | 81 => some F81
  | _ => none
noncomputable abbrev P := Tryd.prog
def asciiSpaceAt (o : Nat) : Option Value := if o < 256 then some (.int .u8 (if o = 9 ∨ o = 10 ∨ o = 11 ∨ o = 12 ∨ o = 13 ∨ o = 32 then 1 else 0)) else none
def GL (m : Int) (b o : Nat) : Option Value := if b = 1 then asciiSpaceAt o else if b = 3 then (if o = 0 then some (.int .i64 m) else none) else if b = 0 then (if o = 0 then some (.iface 96 (.agg #[.pointer (some ⟨5, 28, none⟩)])) else none) else none
/-- errors.As and errors.Is at errors of this program's own. -/
def asO : List AV → Heap → Option (AV × Heap)
  | [.ifc t (.ptr τ k), .ifc u (.ptr σ j)], H => match H[σ]? with
    | some (.box [_]) => if t = 48 ∧ u = 50 ∧ j = 0 then some (.s (.bool true), H.set σ (.box [.ptr τ k])) else none
    | _ => none
  | _, _ => none
def isO : List AV → Heap → Option (AV × Heap)
  | [.ifc t (.s (.int .i64 a)), .ifc u (.s (.int .i64 b))], H => if t = 39 ∧ u = 39 then some (.s (.bool (decide (a = b))), H) else none
  | [.ifc t (.ptr τ k), .ifc u (.s (.int .i64 b))], H => match H[τ]? with
    | some (.box cs) => match cs[k + 1]? with
      | some (.ifc v (.s (.int .i64 a))) => if t = 48 ∧ u = 39 ∧ v = 39 then some (.s (.bool (decide (a = b))), H) else none
      | _ => none
    | _ => none
  | _, _ => none
def OHL (f : FuncId) : Option (List AV → Heap → Option (AV × Heap)) := if f = 13 then some asO else if f = 14 then some isO else none
def XL (m : Int) (f : FuncId) : Option (List AV → Option AV) := if f = 80 then some indexByteX else if f = 77 then some (indexStrX m) else none
abbrev tCode : TypeId := 39
noncomputable def T0 (m : Int) : Tab := ⟨C, fun _ => none, fun _ => none, GL m, XL m⟩
theorem o3z (m : Int) : (T0 m).O 3 = none := rfl
theorem x3z (m : Int) : (T0 m).X 3 = none := by kernel_rfl
theorem c3z (m : Int) : (T0 m).C 3 = some F3 := by kernel_rfl
theorem o4z (m : Int) : (T0 m).O 4 = none := rfl
theorem x4z (m : Int) : (T0 m).X 4 = none := by kernel_rfl
theorem c4z (m : Int) : (T0 m).C 4 = some F4 := by kernel_rfl
theorem o5z (m : Int) : (T0 m).O 5 = none := rfl
theorem x5z (m : Int) : (T0 m).X 5 = none := by kernel_rfl
theorem c5z (m : Int) : (T0 m).C 5 = some F5 := by kernel_rfl
theorem o6z (m : Int) : (T0 m).O 6 = none := rfl
theorem x6z (m : Int) : (T0 m).X 6 = none := by kernel_rfl
theorem c6z (m : Int) : (T0 m).C 6 = some F6 := by kernel_rfl
theorem o7z (m : Int) : (T0 m).O 7 = none := rfl
theorem x7z (m : Int) : (T0 m).X 7 = none := by kernel_rfl
theorem c7z (m : Int) : (T0 m).C 7 = some F7 := by kernel_rfl
theorem o8z (m : Int) : (T0 m).O 8 = none := rfl
theorem x8z (m : Int) : (T0 m).X 8 = none := by kernel_rfl
theorem c8z (m : Int) : (T0 m).C 8 = some F8 := by kernel_rfl
theorem o9z (m : Int) : (T0 m).O 9 = none := rfl
theorem x9z (m : Int) : (T0 m).X 9 = none := by kernel_rfl
theorem c9z (m : Int) : (T0 m).C 9 = some F9 := by kernel_rfl
theorem o10z (m : Int) : (T0 m).O 10 = none := rfl
theorem x10z (m : Int) : (T0 m).X 10 = none := by kernel_rfl
theorem c10z (m : Int) : (T0 m).C 10 = some F10 := by kernel_rfl
theorem o11z (m : Int) : (T0 m).O 11 = none := rfl
theorem x11z (m : Int) : (T0 m).X 11 = none := by kernel_rfl
theorem c11z (m : Int) : (T0 m).C 11 = some F11 := by kernel_rfl
theorem o12z (m : Int) : (T0 m).O 12 = none := rfl
theorem x12z (m : Int) : (T0 m).X 12 = none := by kernel_rfl
theorem c12z (m : Int) : (T0 m).C 12 = some F12 := by kernel_rfl
theorem o13z (m : Int) : (T0 m).O 13 = none := rfl
theorem x13z (m : Int) : (T0 m).X 13 = none := by kernel_rfl
theorem c13z (m : Int) : (T0 m).C 13 = some F13 := by kernel_rfl
theorem o14z (m : Int) : (T0 m).O 14 = none := rfl
theorem x14z (m : Int) : (T0 m).X 14 = none := by kernel_rfl
theorem c14z (m : Int) : (T0 m).C 14 = some F14 := by kernel_rfl
theorem o15z (m : Int) : (T0 m).O 15 = none := rfl
theorem x15z (m : Int) : (T0 m).X 15 = none := by kernel_rfl
theorem c15z (m : Int) : (T0 m).C 15 = some F15 := by kernel_rfl
theorem o16z (m : Int) : (T0 m).O 16 = none := rfl
theorem x16z (m : Int) : (T0 m).X 16 = none := by kernel_rfl
theorem c16z (m : Int) : (T0 m).C 16 = some F16 := by kernel_rfl
theorem o17z (m : Int) : (T0 m).O 17 = none := rfl
theorem x17z (m : Int) : (T0 m).X 17 = none := by kernel_rfl
theorem c17z (m : Int) : (T0 m).C 17 = some F17 := by kernel_rfl
theorem o18z (m : Int) : (T0 m).O 18 = none := rfl
theorem x18z (m : Int) : (T0 m).X 18 = none := by kernel_rfl
theorem c18z (m : Int) : (T0 m).C 18 = some F18 := by kernel_rfl
theorem o19z (m : Int) : (T0 m).O 19 = none := rfl
theorem x19z (m : Int) : (T0 m).X 19 = none := by kernel_rfl
theorem c19z (m : Int) : (T0 m).C 19 = some F19 := by kernel_rfl
theorem o20z (m : Int) : (T0 m).O 20 = none := rfl
theorem x20z (m : Int) : (T0 m).X 20 = none := by kernel_rfl
theorem c20z (m : Int) : (T0 m).C 20 = some F20 := by kernel_rfl
theorem o21z (m : Int) : (T0 m).O 21 = none := rfl
theorem x21z (m : Int) : (T0 m).X 21 = none := by kernel_rfl
theorem c21z (m : Int) : (T0 m).C 21 = some F21 := by kernel_rfl
theorem o25z (m : Int) : (T0 m).O 25 = none := rfl
theorem x25z (m : Int) : (T0 m).X 25 = none := by kernel_rfl
theorem c25z (m : Int) : (T0 m).C 25 = some F25 := by kernel_rfl
theorem o27z (m : Int) : (T0 m).O 27 = none := rfl
theorem x27z (m : Int) : (T0 m).X 27 = none := by kernel_rfl
theorem c27z (m : Int) : (T0 m).C 27 = some F27 := by kernel_rfl
theorem o28z (m : Int) : (T0 m).O 28 = none := rfl
theorem x28z (m : Int) : (T0 m).X 28 = none := by kernel_rfl
theorem c28z (m : Int) : (T0 m).C 28 = some F28 := by kernel_rfl
theorem o29z (m : Int) : (T0 m).O 29 = none := rfl
theorem x29z (m : Int) : (T0 m).X 29 = none := by kernel_rfl
theorem c29z (m : Int) : (T0 m).C 29 = some F29 := by kernel_rfl
theorem o30z (m : Int) : (T0 m).O 30 = none := rfl
theorem x30z (m : Int) : (T0 m).X 30 = none := by kernel_rfl
theorem c30z (m : Int) : (T0 m).C 30 = some F30 := by kernel_rfl
theorem o31z (m : Int) : (T0 m).O 31 = none := rfl
theorem x31z (m : Int) : (T0 m).X 31 = none := by kernel_rfl
theorem c31z (m : Int) : (T0 m).C 31 = some F31 := by kernel_rfl
theorem o32z (m : Int) : (T0 m).O 32 = none := rfl
theorem x32z (m : Int) : (T0 m).X 32 = none := by kernel_rfl
theorem c32z (m : Int) : (T0 m).C 32 = some F32 := by kernel_rfl
theorem o33z (m : Int) : (T0 m).O 33 = none := rfl
theorem x33z (m : Int) : (T0 m).X 33 = none := by kernel_rfl
theorem c33z (m : Int) : (T0 m).C 33 = some F33 := by kernel_rfl
theorem o34z (m : Int) : (T0 m).O 34 = none := rfl
theorem x34z (m : Int) : (T0 m).X 34 = none := by kernel_rfl
theorem c34z (m : Int) : (T0 m).C 34 = some F34 := by kernel_rfl
theorem o35z (m : Int) : (T0 m).O 35 = none := rfl
theorem x35z (m : Int) : (T0 m).X 35 = none := by kernel_rfl
theorem c35z (m : Int) : (T0 m).C 35 = some F35 := by kernel_rfl
theorem o36z (m : Int) : (T0 m).O 36 = none := rfl
theorem x36z (m : Int) : (T0 m).X 36 = none := by kernel_rfl
theorem c36z (m : Int) : (T0 m).C 36 = some F36 := by kernel_rfl
theorem o37z (m : Int) : (T0 m).O 37 = none := rfl
theorem x37z (m : Int) : (T0 m).X 37 = none := by kernel_rfl
theorem c37z (m : Int) : (T0 m).C 37 = some F37 := by kernel_rfl
theorem o38z (m : Int) : (T0 m).O 38 = none := rfl
theorem x38z (m : Int) : (T0 m).X 38 = none := by kernel_rfl
theorem c38z (m : Int) : (T0 m).C 38 = some F38 := by kernel_rfl
theorem o39z (m : Int) : (T0 m).O 39 = none := rfl
theorem x39z (m : Int) : (T0 m).X 39 = none := by kernel_rfl
theorem c39z (m : Int) : (T0 m).C 39 = some F39 := by kernel_rfl
theorem o40z (m : Int) : (T0 m).O 40 = none := rfl
theorem x40z (m : Int) : (T0 m).X 40 = none := by kernel_rfl
theorem c40z (m : Int) : (T0 m).C 40 = some F40 := by kernel_rfl
theorem o41z (m : Int) : (T0 m).O 41 = none := rfl
theorem x41z (m : Int) : (T0 m).X 41 = none := by kernel_rfl
theorem c41z (m : Int) : (T0 m).C 41 = some F41 := by kernel_rfl
theorem o42z (m : Int) : (T0 m).O 42 = none := rfl
theorem x42z (m : Int) : (T0 m).X 42 = none := by kernel_rfl
theorem c42z (m : Int) : (T0 m).C 42 = some F42 := by kernel_rfl
theorem o43z (m : Int) : (T0 m).O 43 = none := rfl
theorem x43z (m : Int) : (T0 m).X 43 = none := by kernel_rfl
theorem c43z (m : Int) : (T0 m).C 43 = some F43 := by kernel_rfl
theorem o44z (m : Int) : (T0 m).O 44 = none := rfl
theorem x44z (m : Int) : (T0 m).X 44 = none := by kernel_rfl
theorem c44z (m : Int) : (T0 m).C 44 = some F44 := by kernel_rfl
theorem o45z (m : Int) : (T0 m).O 45 = none := rfl
theorem x45z (m : Int) : (T0 m).X 45 = none := by kernel_rfl
theorem c45z (m : Int) : (T0 m).C 45 = some F45 := by kernel_rfl
theorem o48z (m : Int) : (T0 m).O 48 = none := rfl
theorem x48z (m : Int) : (T0 m).X 48 = none := by kernel_rfl
theorem c48z (m : Int) : (T0 m).C 48 = some F48 := by kernel_rfl
theorem o49z (m : Int) : (T0 m).O 49 = none := rfl
theorem x49z (m : Int) : (T0 m).X 49 = none := by kernel_rfl
theorem c49z (m : Int) : (T0 m).C 49 = some F49 := by kernel_rfl
theorem o50z (m : Int) : (T0 m).O 50 = none := rfl
theorem x50z (m : Int) : (T0 m).X 50 = none := by kernel_rfl
theorem c50z (m : Int) : (T0 m).C 50 = some F50 := by kernel_rfl
theorem o51z (m : Int) : (T0 m).O 51 = none := rfl
theorem x51z (m : Int) : (T0 m).X 51 = none := by kernel_rfl
theorem c51z (m : Int) : (T0 m).C 51 = some F51 := by kernel_rfl
theorem o52z (m : Int) : (T0 m).O 52 = none := rfl
theorem x52z (m : Int) : (T0 m).X 52 = none := by kernel_rfl
theorem c52z (m : Int) : (T0 m).C 52 = some F52 := by kernel_rfl
theorem o53z (m : Int) : (T0 m).O 53 = none := rfl
theorem x53z (m : Int) : (T0 m).X 53 = none := by kernel_rfl
theorem c53z (m : Int) : (T0 m).C 53 = some F53 := by kernel_rfl
theorem o54z (m : Int) : (T0 m).O 54 = none := rfl
theorem x54z (m : Int) : (T0 m).X 54 = none := by kernel_rfl
theorem c54z (m : Int) : (T0 m).C 54 = some F54 := by kernel_rfl
theorem o55z (m : Int) : (T0 m).O 55 = none := rfl
theorem x55z (m : Int) : (T0 m).X 55 = none := by kernel_rfl
theorem c55z (m : Int) : (T0 m).C 55 = some F55 := by kernel_rfl
theorem o56z (m : Int) : (T0 m).O 56 = none := rfl
theorem x56z (m : Int) : (T0 m).X 56 = none := by kernel_rfl
theorem c56z (m : Int) : (T0 m).C 56 = some F56 := by kernel_rfl
theorem o57z (m : Int) : (T0 m).O 57 = none := rfl
theorem x57z (m : Int) : (T0 m).X 57 = none := by kernel_rfl
theorem c57z (m : Int) : (T0 m).C 57 = some F57 := by kernel_rfl
theorem o58z (m : Int) : (T0 m).O 58 = none := rfl
theorem x58z (m : Int) : (T0 m).X 58 = none := by kernel_rfl
theorem c58z (m : Int) : (T0 m).C 58 = some F58 := by kernel_rfl
theorem o59z (m : Int) : (T0 m).O 59 = none := rfl
theorem x59z (m : Int) : (T0 m).X 59 = none := by kernel_rfl
theorem c59z (m : Int) : (T0 m).C 59 = some F59 := by kernel_rfl
theorem o60z (m : Int) : (T0 m).O 60 = none := rfl
theorem x60z (m : Int) : (T0 m).X 60 = none := by kernel_rfl
theorem c60z (m : Int) : (T0 m).C 60 = some F60 := by kernel_rfl
theorem o61z (m : Int) : (T0 m).O 61 = none := rfl
theorem x61z (m : Int) : (T0 m).X 61 = none := by kernel_rfl
theorem c61z (m : Int) : (T0 m).C 61 = some F61 := by kernel_rfl
theorem o62z (m : Int) : (T0 m).O 62 = none := rfl
theorem x62z (m : Int) : (T0 m).X 62 = none := by kernel_rfl
theorem c62z (m : Int) : (T0 m).C 62 = some F62 := by kernel_rfl
theorem o63z (m : Int) : (T0 m).O 63 = none := rfl
theorem x63z (m : Int) : (T0 m).X 63 = none := by kernel_rfl
theorem c63z (m : Int) : (T0 m).C 63 = some F63 := by kernel_rfl
theorem o64z (m : Int) : (T0 m).O 64 = none := rfl
theorem x64z (m : Int) : (T0 m).X 64 = none := by kernel_rfl
theorem c64z (m : Int) : (T0 m).C 64 = some F64 := by kernel_rfl
theorem o65z (m : Int) : (T0 m).O 65 = none := rfl
theorem x65z (m : Int) : (T0 m).X 65 = none := by kernel_rfl
theorem c65z (m : Int) : (T0 m).C 65 = some F65 := by kernel_rfl
theorem o66z (m : Int) : (T0 m).O 66 = none := rfl
theorem x66z (m : Int) : (T0 m).X 66 = none := by kernel_rfl
theorem c66z (m : Int) : (T0 m).C 66 = some F66 := by kernel_rfl
theorem o67z (m : Int) : (T0 m).O 67 = none := rfl
theorem x67z (m : Int) : (T0 m).X 67 = none := by kernel_rfl
theorem c67z (m : Int) : (T0 m).C 67 = some F67 := by kernel_rfl
theorem o68z (m : Int) : (T0 m).O 68 = none := rfl
theorem x68z (m : Int) : (T0 m).X 68 = none := by kernel_rfl
theorem c68z (m : Int) : (T0 m).C 68 = some F68 := by kernel_rfl
theorem o69z (m : Int) : (T0 m).O 69 = none := rfl
theorem x69z (m : Int) : (T0 m).X 69 = none := by kernel_rfl
theorem c69z (m : Int) : (T0 m).C 69 = some F69 := by kernel_rfl
theorem o70z (m : Int) : (T0 m).O 70 = none := rfl
theorem x70z (m : Int) : (T0 m).X 70 = none := by kernel_rfl
theorem c70z (m : Int) : (T0 m).C 70 = some F70 := by kernel_rfl
theorem o71z (m : Int) : (T0 m).O 71 = none := rfl
theorem x71z (m : Int) : (T0 m).X 71 = none := by kernel_rfl
theorem c71z (m : Int) : (T0 m).C 71 = some F71 := by kernel_rfl
theorem o72z (m : Int) : (T0 m).O 72 = none := rfl
theorem x72z (m : Int) : (T0 m).X 72 = none := by kernel_rfl
theorem c72z (m : Int) : (T0 m).C 72 = some F72 := by kernel_rfl
theorem o73z (m : Int) : (T0 m).O 73 = none := rfl
theorem x73z (m : Int) : (T0 m).X 73 = none := by kernel_rfl
theorem c73z (m : Int) : (T0 m).C 73 = some F73 := by kernel_rfl
theorem o74z (m : Int) : (T0 m).O 74 = none := rfl
theorem x74z (m : Int) : (T0 m).X 74 = none := by kernel_rfl
theorem c74z (m : Int) : (T0 m).C 74 = some F74 := by kernel_rfl
theorem o75z (m : Int) : (T0 m).O 75 = none := rfl
theorem x75z (m : Int) : (T0 m).X 75 = none := by kernel_rfl
theorem c75z (m : Int) : (T0 m).C 75 = some F75 := by kernel_rfl
theorem o76z (m : Int) : (T0 m).O 76 = none := rfl
theorem x76z (m : Int) : (T0 m).X 76 = none := by kernel_rfl
theorem c76z (m : Int) : (T0 m).C 76 = some F76 := by kernel_rfl
theorem o78z (m : Int) : (T0 m).O 78 = none := rfl
theorem x78z (m : Int) : (T0 m).X 78 = none := by kernel_rfl
theorem c78z (m : Int) : (T0 m).C 78 = some F78 := by kernel_rfl
theorem o79z (m : Int) : (T0 m).O 79 = none := rfl
theorem x79z (m : Int) : (T0 m).X 79 = none := by kernel_rfl
theorem c79z (m : Int) : (T0 m).C 79 = some F79 := by kernel_rfl
theorem o81z (m : Int) : (T0 m).O 81 = none := rfl
theorem x81z (m : Int) : (T0 m).X 81 = none := by kernel_rfl
theorem c81z (m : Int) : (T0 m).C 81 = some F81 := by kernel_rfl
theorem tOHz (m : Int) (f : Nat) : (T0 m).OH f = none := rfl
end Go.Proofs.YtggoggdcnahkaaaDoor
