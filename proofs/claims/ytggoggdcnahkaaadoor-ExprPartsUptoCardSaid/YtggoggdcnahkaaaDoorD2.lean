/- The program's data as Lean's, and as the evaluator's values. -/
import Derived.Test.YtggoggdcnahkaaaDoorTab0
set_option linter.unusedVariables false
set_option linter.unusedSimpArgs false
namespace Go.Proofs.YtggoggdcnahkaaaDoor
open Go Go.RowKit

inductive Ins where
  | mk (op a b v t : Int) (l : List Int) (body els : List Ins) (has : Bool)

def intAV (n : Int) : AV := .s (.int .i64 n)
mutual
def Ins.av : Ins → AV
  | .mk op a b v t l body els has => .agg [.s (.int .i64 op), .s (.int .i64 a), .s (.int .i64 b), .s (.int .u64 v), .s (.int .i64 t), .sl (l.map intAV) .ro, .sl (insAVs body) .ro, .sl (insAVs els) .ro, .s (.bool has)]
def insAVs : List Ins → List AV
  | [] => []
  | x :: xs => x.av :: insAVs xs
end
theorem insAVs_map : ∀ l, insAVs l = l.map Ins.av
  | [] => rfl
  | x :: xs => by rw [insAVs, insAVs_map xs]; rfl
theorem insAVs_length (l : List Ins) : (insAVs l).length = l.length := by simp [insAVs_map]
theorem insAVs_at {l : List Ins} {i : Nat} {x : Ins} (h : l[i]? = some x) : (insAVs l)[i]? = some x.av := by rw [insAVs_map, List.getElem?_map, h]; rfl
theorem insAVs_append (a b : List Ins) : insAVs (a ++ b) = insAVs a ++ insAVs b := by simp [insAVs_map]
mutual
theorem Ins.shut (m : Nat) : ∀ x : Ins, AV.shut m x.av = some x.av
  | .mk op a b v t l body els has => by
    have hl := shutL_map (m := m) (f := intAV) (fun _ => rfl) l
    simp [Ins.av, AV.shut, AV.shutL, hl, Ins.shutL m body, Ins.shutL m els]
theorem Ins.shutL (m : Nat) : ∀ l : List Ins, AV.shutL m (insAVs l) = some (insAVs l)
  | [] => rfl
  | x :: xs => by simp [insAVs, AV.shutL, Ins.shut m x, Ins.shutL m xs]
end
theorem insAVs_widths (l : List Ins) : widths 9 (insAVs l) = true := by
  rw [insAVs_map]
  simp only [widths, List.all_map, List.all_eq_true]
  intro x _
  cases x
  rfl
theorem len_ins {l : List Ins} : ((insAVs l).length : Int) = (l.length : Int) := by rw [insAVs_length]
theorem len_map {α : Type} {f : α → AV} {l : List α} : ((l.map f).length : Int) = (l.length : Int) := by rw [List.length_map]

/-- An error: none, or a number of its own. -/
inductive Err where
  | nil | code (c : Int)
def Err.av : Err → AV
  | .nil => .s .nilIface
  | .code c => .ifc tCode (.s (.int .i64 c))
theorem Err.shut (m : Nat) : ∀ e : Err, AV.shut m e.av = some e.av
  | .nil => rfl
  | .code c => rfl
structure FTy where
  params : List Int
  results : List Int
def FTy.av (x : FTy) : AV := .agg [.sl (x.params.map intAV) .ro, .sl (x.results.map intAV) .ro]
theorem FTy.shut (m : Nat) (x : FTy) : AV.shut m x.av = some x.av := by
  simp [FTy.av, AV.shut, AV.shutL, shutL_map (m := m) (f := intAV) (fun _ => rfl)]
structure OpR where
  byte : Int
  name : ByteArray
  kind : Int
  takes : List Int
  gives : Int
  bytes : Int
  signed : Bool
def OpR.av (o : OpR) : AV := .agg [.s (.int .i64 o.byte), .s (.string o.name), .s (.int .i64 o.kind), .sl (o.takes.map intAV) .ro, .s (.int .i64 o.gives), .s (.int .i64 o.bytes), .s (.bool o.signed)]
theorem OpR.shut (m : Nat) (o : OpR) : AV.shut m o.av = some o.av := by
  simp [OpR.av, AV.shut, AV.shutL, shutL_map (m := m) (f := intAV) (fun _ => rfl)]
structure RowR where
  byte : Int
  name : ByteArray
  kind : Int
  types : ByteArray
  bytes : Int
def RowR.av (r : RowR) : AV := .agg [.s (.int .i64 r.byte), .s (.string r.name), .s (.int .i64 r.kind), .s (.string r.types), .s (.int .i64 r.bytes)]
theorem RowR.shut (m : Nat) (r : RowR) : AV.shut m r.av = some r.av := rfl

structure RowO where
  first : Int
  kind : Int
  names : ByteArray
def RowO.av (r : RowO) : AV := .agg [.s (.int .i64 r.first), .s (.int .i64 r.kind), .s (.string r.names)]
theorem RowO.shut (m : Nat) (r : RowO) : AV.shut m r.av = some r.av := rfl
theorem q_shl {P : Program} (t : TypeId) (x y : Operand) (k k' : IntKind) (a b : Int) (h : ¬b < 0) : scalarOf (pureRun P (do eqGuard .shl t x y (.int k a) (.int k' b); binOp .shl t (.int k a) (.int k' b))) = some (.s (.int k (shlA k a b))) := by rw [bin_shl _ _ _ _ _ _ _ h]; rfl
theorem q_shr {P : Program} (t : TypeId) (x y : Operand) (k k' : IntKind) (a b : Int) (h : ¬b < 0) : scalarOf (pureRun P (do eqGuard .shr t x y (.int k a) (.int k' b); binOp .shr t (.int k a) (.int k' b))) = some (.s (.int k (shrA k a b))) := by rw [bin_shr _ _ _ _ _ _ _ h]; rfl
/-- Bytes as a text; texts one behind the other. -/
def bytesOf (l : List Int) : ByteArray := ⟨(l.map fun x => UInt8.ofNat x.toNat).toArray⟩
theorem q_bytes : ∀ l : List Int, (l.map (kAV .u8)).mapM byteOf = some (bytesOf l).data.toList
  | [] => rfl
  | x :: l => by
    have ih := q_bytes l
    simp only [bytesOf, List.map_cons, List.mapM_cons, ih] at ih ⊢
    simp only [kAV, byteOf]
    rfl
theorem q_adds {P : Program} (t : TypeId) (x y : Operand) (a b : ByteArray) (h : a.size + b.size ≤ 4611686018427387904) : scalarOf (pureRun P (do eqGuard .add t x y (.string a) (.string b); binOp .add t (.string a) (.string b))) = some (.s (.string (a ++ b))) := by
  have h1 : binOp .add t (.string a) (.string b) = Op.stringOp .add a b := rfl
  have h2 : ¬ ((a.size + b.size : Nat) : Int) > IntKind.i64.max := by simp [IntKind.max, IntKind.signed, IntKind.bits]; omega
  rw [h1]
  unfold Op.stringOp
  simp only [if_neg h2]
  rfl
/-- A number's range. -/
theorem wrap64 {a : Int} (h : -(2 ^ 63) ≤ a) (h2 : a < 2 ^ 63) : IntKind.i64.wrap a = a := by
  simp [IntKind.wrap, IntKind.signed, IntKind.bits]
  omega
end Go.Proofs.YtggoggdcnahkaaaDoor
