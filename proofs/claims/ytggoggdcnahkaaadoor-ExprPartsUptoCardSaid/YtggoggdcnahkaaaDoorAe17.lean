/- How the evaluator's steps read, for walks in words. -/
import Derived.Test.YtggoggdcnahkaaaDoorAe16
set_option linter.unusedVariables false
set_option linter.unusedSimpArgs false
namespace Go.Proofs.YtggoggdcnahkaaaDoor
open Go Go.RowKit

section
variable {P : Program}

theorem put_some (env : Env) (d t : Nat) (v : AV) : Env.put env (some d) v t = if t = d then some v else env t := rfl
theorem put_none (env : Env) (v : AV) : Env.put env none v = env := rfl
theorem E_nil (t : Nat) : E [] t = none := rfl
theorem E_cons (l : List (Nat × AV)) (d t : Nat) (v : AV) : E ((d, v) :: l) t = if t = d then some v else E l t := by
  simp only [E, List.lookup_cons]
  by_cases e : t = d
  · subst e; simp
  · have : (t == d) = false := by simpa using e
    simp [this, e]
theorem trim_nil (env : Env) : Env.trim [] env = E [] := rfl
theorem trim_some {env : Env} {t : Nat} {v : AV} {ts : List Nat} (h : env t = some v) : Env.trim (t :: ts) env = fun u => if u = t then some v else Env.trim ts env u := by
  funext u
  simp only [Env.trim, List.filterMap_cons, h, Option.map_some, E_cons]
theorem argEnv_nil (t : Nat) : argEnv [] t = none := rfl
theorem argEnv_zero (x : AV) (xs : List AV) : argEnv (x :: xs) 0 = some x := rfl
theorem argEnv_succ (x : AV) (xs : List AV) (n : Nat) : argEnv (x :: xs) (n + 1) = argEnv xs n := rfl

/-- Two numbers' operations. -/
def binA (P : Program) (op : BinOp) (t : TypeId) (x y : Operand) (u v : Value) : Option Value := pureRun P (do eqGuard op t x y u v; binOp op t u v)

def andA (k : IntKind) (a b : Int) : Int := k.wrap (BitVec.ofInt k.bits a &&& BitVec.ofInt k.bits b).toNat
def orA (k : IntKind) (a b : Int) : Int := k.wrap (BitVec.ofInt k.bits a ||| BitVec.ofInt k.bits b).toNat
def xorA (k : IntKind) (a b : Int) : Int := k.wrap (BitVec.ofInt k.bits a ^^^ BitVec.ofInt k.bits b).toNat
def shlA (k : IntKind) (a b : Int) : Int := k.wrap (a * 2 ^ (min b.toNat k.bits))
def shrA (k : IntKind) (a b : Int) : Int := a.fdiv (2 ^ (min b.toNat k.bits))

theorem guard_int (op : BinOp) (t : TypeId) (x y : Operand) (k k' : IntKind) (a b : Int) : eqGuard op t x y (.int k a) (.int k' b) = pure () := by
  unfold eqGuard
  split <;> rfl
theorem bin_int (op : BinOp) (t : TypeId) (x y : Operand) (k k' : IntKind) (a b : Int) : (do eqGuard op t x y (.int k a) (.int k' b); binOp op t (.int k a) (.int k' b) : Sem Value) = binOp op t (.int k a) (.int k' b) := by
  rw [guard_int]; rfl

theorem bin_add (t : TypeId) (x y : Operand) (k : IntKind) (a b : Int) : pureRun P (do eqGuard .add t x y (.int k a) (.int k b); binOp .add t (.int k a) (.int k b)) = some (.int k (k.wrap (a + b))) := by
  rw [bin_int]; simp only [binOp, ne_eq, not_true_eq_false, if_false]; rfl
theorem bin_sub (t : TypeId) (x y : Operand) (k : IntKind) (a b : Int) : pureRun P (do eqGuard .sub t x y (.int k a) (.int k b); binOp .sub t (.int k a) (.int k b)) = some (.int k (k.wrap (a - b))) := by
  rw [bin_int]; simp only [binOp, ne_eq, not_true_eq_false, if_false]; rfl
theorem bin_mul (t : TypeId) (x y : Operand) (k : IntKind) (a b : Int) : pureRun P (do eqGuard .mul t x y (.int k a) (.int k b); binOp .mul t (.int k a) (.int k b)) = some (.int k (k.wrap (a * b))) := by
  rw [bin_int]; simp only [binOp, ne_eq, not_true_eq_false, if_false]; rfl
theorem bin_quo (t : TypeId) (x y : Operand) (k : IntKind) (a b : Int) (h : b ≠ 0) : pureRun P (do eqGuard .quo t x y (.int k a) (.int k b); binOp .quo t (.int k a) (.int k b)) = some (.int k (k.wrap (a.tdiv b))) := by
  rw [bin_int]; simp only [binOp, ne_eq, not_true_eq_false, if_false, Op.intDiv, h]; rfl
theorem bin_rem (t : TypeId) (x y : Operand) (k : IntKind) (a b : Int) (h : b ≠ 0) : pureRun P (do eqGuard .rem t x y (.int k a) (.int k b); binOp .rem t (.int k a) (.int k b)) = some (.int k (a.tmod b)) := by
  rw [bin_int]; simp only [binOp, ne_eq, not_true_eq_false, if_false, Op.intDiv, h]; rfl
theorem bin_and (t : TypeId) (x y : Operand) (k : IntKind) (a b : Int) : pureRun P (do eqGuard .and t x y (.int k a) (.int k b); binOp .and t (.int k a) (.int k b)) = some (.int k (andA k a b)) := by
  rw [bin_int]; simp only [binOp, ne_eq, not_true_eq_false, if_false]; rfl
theorem bin_or (t : TypeId) (x y : Operand) (k : IntKind) (a b : Int) : pureRun P (do eqGuard .or t x y (.int k a) (.int k b); binOp .or t (.int k a) (.int k b)) = some (.int k (orA k a b)) := by
  rw [bin_int]; simp only [binOp, ne_eq, not_true_eq_false, if_false]; rfl
theorem bin_xor (t : TypeId) (x y : Operand) (k : IntKind) (a b : Int) : pureRun P (do eqGuard .xor t x y (.int k a) (.int k b); binOp .xor t (.int k a) (.int k b)) = some (.int k (xorA k a b)) := by
  rw [bin_int]; simp only [binOp, ne_eq, not_true_eq_false, if_false]; rfl
theorem bin_shl (t : TypeId) (x y : Operand) (k k' : IntKind) (a b : Int) (h : ¬b < 0) : pureRun P (do eqGuard .shl t x y (.int k a) (.int k' b); binOp .shl t (.int k a) (.int k' b)) = some (.int k (shlA k a b)) := by
  rw [bin_int]; simp only [binOp, Op.shift, h, if_false]; rfl
theorem bin_shr (t : TypeId) (x y : Operand) (k k' : IntKind) (a b : Int) (h : ¬b < 0) : pureRun P (do eqGuard .shr t x y (.int k a) (.int k' b); binOp .shr t (.int k a) (.int k' b)) = some (.int k (shrA k a b)) := by
  rw [bin_int]; simp only [binOp, Op.shift, h, if_false]; rfl
theorem bin_eql (t : TypeId) (x y : Operand) (k : IntKind) (a b : Int) : pureRun P (do eqGuard .eql t x y (.int k a) (.int k b); binOp .eql t (.int k a) (.int k b)) = some (.bool (decide (a = b))) := by
  rw [bin_int]; simp only [binOp, ne_eq, not_true_eq_false, if_false, Op.intCmp]
  rw [show (a == b) = decide (a = b) from rfl]; rfl
theorem bin_neq (t : TypeId) (x y : Operand) (k : IntKind) (a b : Int) : pureRun P (do eqGuard .neq t x y (.int k a) (.int k b); binOp .neq t (.int k a) (.int k b)) = some (.bool (!decide (a = b))) := by
  rw [bin_int]; simp only [binOp, ne_eq, not_true_eq_false, if_false, Op.intCmp]
  rw [show (a != b) = !decide (a = b) from rfl]; rfl
theorem bin_lss (t : TypeId) (x y : Operand) (k : IntKind) (a b : Int) : pureRun P (do eqGuard .lss t x y (.int k a) (.int k b); binOp .lss t (.int k a) (.int k b)) = some (.bool (decide (a < b))) := by
  rw [bin_int]; simp only [binOp, ne_eq, not_true_eq_false, if_false, Op.intCmp]; rfl
theorem bin_leq (t : TypeId) (x y : Operand) (k : IntKind) (a b : Int) : pureRun P (do eqGuard .leq t x y (.int k a) (.int k b); binOp .leq t (.int k a) (.int k b)) = some (.bool (decide (a ≤ b))) := by
  rw [bin_int]; simp only [binOp, ne_eq, not_true_eq_false, if_false, Op.intCmp]; rfl
theorem bin_gtr (t : TypeId) (x y : Operand) (k : IntKind) (a b : Int) : pureRun P (do eqGuard .gtr t x y (.int k a) (.int k b); binOp .gtr t (.int k a) (.int k b)) = some (.bool (decide (b < a))) := by
  rw [bin_int]; simp only [binOp, ne_eq, not_true_eq_false, if_false, Op.intCmp]; rfl
theorem bin_geq (t : TypeId) (x y : Operand) (k : IntKind) (a b : Int) : pureRun P (do eqGuard .geq t x y (.int k a) (.int k b); binOp .geq t (.int k a) (.int k b)) = some (.bool (decide (b ≤ a))) := by
  rw [bin_int]; simp only [binOp, ne_eq, not_true_eq_false, if_false, Op.intCmp]; rfl
theorem bin_eqlS (t : TypeId) (x y : Operand) (a b : ByteArray) : pureRun P (do eqGuard .eql t x y (.string a) (.string b); binOp .eql t (.string a) (.string b)) = some (.bool (a.toList == b.toList)) := rfl
theorem bin_neqS (t : TypeId) (x y : Operand) (a b : ByteArray) : pureRun P (do eqGuard .neq t x y (.string a) (.string b); binOp .neq t (.string a) (.string b)) = some (.bool (!(a.toList == b.toList))) := rfl
theorem bin_addS (t : TypeId) (x y : Operand) (a b : ByteArray) (h : ¬((a.size + b.size : Nat) : Int) > IntKind.i64.max) : pureRun P (do eqGuard .add t x y (.string a) (.string b); binOp .add t (.string a) (.string b)) = some (.string (a ++ b)) := by
  have : (do eqGuard .add t x y (.string a) (.string b); binOp .add t (.string a) (.string b) : Sem Value) = Op.stringOp .add a b := rfl
  rw [this, Op.stringOp]
  simp only [h, if_false]
  rfl
theorem un_not (b : Bool) : pureRun P (Op.unary .not (.bool b)) = some (.bool !b) := rfl
theorem un_neg (k : IntKind) (n : Int) : pureRun P (Op.unary .neg (.int k n)) = some (.int k (k.wrap (0 - n))) := rfl
theorem pureRun_bind {α β : Type} (f : α → Sem β) : ∀ s : Sem α, pureRun P (s >>= f) = (pureRun P s).bind fun v => pureRun P (f v)
  | .pure v => rfl
  | .program k => pureRun_bind f (k P)
  | .load _ _ _ => rfl
  | .store _ _ _ _ => rfl
  | .new _ _ => rfl
  | .shape _ _ => rfl
  | .freeze _ _ _ => rfl
  | .frozen _ _ => rfl
  | .getObj _ _ => rfl
  | .setObj _ _ _ => rfl
  | .choose _ _ => rfl
  | .sys _ _ => rfl
  | .mark _ _ => rfl
  | .halt _ => rfl
theorem pureRun_under {t : TypeId} {d : TypeDesc} (h : P.underlying t = some d) : pureRun P (underlying t) = some d := by
  have : pureRun P (underlying t) = pureRun P (match P.underlying t with | some d => pure d | none => stuck "no such type") := rfl
  rw [this, h]; rfl
theorem conv_int {s d : TypeId} {k q : IntKind} {n : Int} (hs : P.underlying s = some (.int q)) (hd : P.underlying d = some (.int k)) : pureRun P (convert s d (.int q n)) = some (.int k (k.wrap n)) := by
  unfold convert
  rw [pureRun_bind, pureRun_under hs, Option.bind_some, pureRun_bind, pureRun_under hd, Option.bind_some]
  rfl
theorem sc_bool (b : Bool) : scalarOf (some (.bool b)) = some (.s (.bool b)) := rfl
theorem sc_int (k : IntKind) (n : Int) : scalarOf (some (.int k n)) = some (.s (.int k n)) := rfl
theorem sc_str (s : ByteArray) : scalarOf (some (.string s)) = some (.s (.string s)) := rfl
end
end Go.Proofs.YtggoggdcnahkaaaDoor
