/- What is known of two of the library's functions on the texts that the program has: as the evaluator answers there. -/
import Derived.Test.YtggoggdcnahkaaaDoorZStr
set_option linter.unusedVariables false
set_option linter.unusedSimpArgs false
set_option maxRecDepth 100000
namespace Go.Proofs.YtggoggdcnahkaaaDoor
open Go Go.RowKit Go.Proofs

/-- Words between blanks. -/
def wordsL : List UInt8 → List UInt8 → List (List UInt8)
  | acc, [] => if acc.isEmpty then [] else [acc.reverse]
  | acc, c :: cs => if c = 32 then (if acc.isEmpty then wordsL [] cs else acc.reverse :: wordsL [] cs) else wordsL (c :: acc) cs
def ofBytes (l : List UInt8) : ByteArray := ⟨l.toArray⟩
def words (s : ByteArray) : List ByteArray := (wordsL [] s.data.toList).map ofBytes
/-- The rows of names, out of the evaluator's own answer. -/
noncomputable def rowsA : Option (AV × Heap) := evF P (T0 0) 60 38 [] []
def rowOf : AV → Option RowO
  | .agg [.s (.int _ a), .s (.int _ b), .s (.string s)] => some ⟨a, b, s⟩
  | _ => none
noncomputable def rowsL : List RowO := match rowsA with
  | some (.sl xs _, _) => xs.filterMap rowOf
  | _ => []
def same (a b : ByteArray) : Bool := a.data.toList == b.data.toList
theorem same_eq {a b : ByteArray} (h : same a b = true) : a = b := by
  have : a.data.toList = b.data.toList := by simpa [same] using h
  cases a; cases b
  simp only [ByteArray.mk.injEq]
  exact Array.toList_inj.1 this
noncomputable def rowNames : List ByteArray := rowsL.map (·.names)
noncomputable def fieldsO : List AV → Option AV
  | [.s (.string s)] => if rowNames.any (same s) = true then some (.sl ((words s).map strAV) .ro) else none
  | _ => none
def strOf : AV → Option ByteArray
  | .s (.string s) => some s
  | _ => none
def sameL : List ByteArray → List ByteArray → Bool
  | [], [] => true
  | a :: xs, b :: ys => same a b && sameL xs ys
  | _, _ => false
theorem sameL_eq : ∀ {a b : List ByteArray}, sameL a b = true → a = b
  | [], [], _ => rfl
  | a :: xs, b :: ys, h => by
    simp only [sameL, Bool.and_eq_true] at h
    rw [same_eq h.1, sameL_eq h.2]
  | [], _ :: _, h => by cases h
  | _ :: _, [], h => by cases h
def strsOf : List AV → Option (List ByteArray)
  | [] => some []
  | x :: xs => match strOf x, strsOf xs with
    | some s, some l => some (s :: l)
    | _, _ => none
theorem strsOf_eq : ∀ {xs : List AV} {l : List ByteArray}, strsOf xs = some l → xs = l.map strAV
  | [], l, h => by simp only [strsOf] at h; injection h with h; subst h; rfl
  | x :: xs, l, h => by
    simp only [strsOf] at h
    split at h
    · rename_i s l' h1 h2
      injection h with h; subst h
      have hx : x = strAV s := by
        unfold strOf at h1
        split at h1
        · injection h1 with h1; subst h1; rfl
        · cases h1
      rw [hx, strsOf_eq h2]; rfl
    · cases h
noncomputable def okF (m : Int) (s : ByteArray) : Bool := match evF P (T0 m) 300 39 [.s (.string s)] [] with
  | some (.sl xs .ro, []) => match strsOf xs with
    | some l => sameL l (words s)
    | none => false
  | _ => false
theorem okF_eq {m : Int} {s : ByteArray} (h : okF m s = true) : evF P (T0 m) 300 39 [.s (.string s)] [] = some (.sl ((words s).map strAV) .ro, []) := by
  unfold okF at h
  split at h
  · rename_i xs he
    split at h
    · rename_i l hl
      rw [he, strsOf_eq hl, sameL_eq h]
    · cases h
  · cases h

/-! Is a text in another: where it is asked. -/
noncomputable def gIdx (m : Int) (a b : ByteArray) : Option Int := if 2 ≤ b.size ∧ (b.size : Int) ≤ m ∧ a.size < 4294967281 then some (Lib.index a.data.toList b.data.toList) else none
def gByte (a : ByteArray) (c : Int) : Option Int := some (Lib.indexByte a.data.toList c.toNat.toUInt8)
theorem x_idx (m : Int) : (T0 m).X 77 = some (indexStrX m) := by kernel_rfl
theorem x_byte (m : Int) : (T0 m).X 80 = some indexByteX := by kernel_rfl
theorem evF_X {P : Program} {T : Tab} {n : Nat} {f : FuncId} {g : List AV → Option AV} {args : List AV} {r : AV} {H : Heap} (hX : T.X f = some g) (h : g args = some r) : evF P T (n + 1) f args H = some (r, H) := by
  simp only [evF, callA, hX, h, Option.map_some]
noncomputable def cIB : ByteArray → Int → Option Int := ZS76 gByte 30
noncomputable def cHash : ByteArray → Option (Int × Int) := ZS81 29
noncomputable def cCut : Int → Option Int := ZS78 30
noncomputable def cRK : ByteArray → ByteArray → Option Int := ZS79 cHash 30
noncomputable def cIdx (m : Int) : ByteArray → ByteArray → Option Int := ZS73 cCut cRK (gIdx m) cIB m 31
noncomputable def cSI (m : Int) : ByteArray → ByteArray → Option Int := ZS70 (cIdx m) 32
noncomputable def cCon (m : Int) : ByteArray → ByteArray → Option Bool := ZS61 (cSI m) 33
theorem cCon_ok (m : Int) (a b : ByteArray) (r : Bool) (H : Heap) (h : cCon m a b = some r) : evF P (T0 m) 34 61 [.s (.string a), .s (.string b)] H = some (.s (.bool r), H) := by
  have hib : ∀ (a : ByteArray) (c r : Int) (H : Heap), cIB a c = some r → evF P (T0 m) 31 76 [.s (.string a), .s (.int .u8 c)] H = some (.s (.int .i64 r), H) := fun a c r H h =>
    ZS76_ok gByte (fun a c r H h => evF_X (x_byte m) (by simp only [gByte, Option.some.injEq] at h; rw [← h]; rfl)) a c r H h
  have hh : ∀ (a : ByteArray) (r : Int × Int) (H : Heap), cHash a = some r → evF P (T0 m) 30 81 [.s (.string a)] H = some (.tup [.s (.int .u32 r.1), .s (.int .u32 r.2)], H) := fun a r H h => ZS81_ok a r H h
  have hrk : ∀ (a b : ByteArray) (r : Int) (H : Heap), cRK a b = some r → evF P (T0 m) 31 79 [.s (.string a), .s (.string b)] H = some (.s (.int .i64 r), H) := fun a b r H h => ZS79_ok cHash hh a b r H h
  have hcut : ∀ (a r : Int) (H : Heap), cCut a = some r → evF P (T0 m) 31 78 [.s (.int .i64 a)] H = some (.s (.int .i64 r), H) := fun a r H h => ZS78_ok a r H h
  have hgi : ∀ (a b : ByteArray) (r : Int) (H : Heap), gIdx m a b = some r → evF P (T0 m) 31 77 [.s (.string a), .s (.string b)] H = some (.s (.int .i64 r), H) := fun a b r H h =>
    evF_X (x_idx m) (by
      unfold gIdx at h
      split at h
      · rename_i hc
        injection h with h
        rw [← h]
        simp only [indexStrX]
        rw [if_pos hc]
      · cases h)
  have hidx : ∀ (a b : ByteArray) (r : Int) (H : Heap), cIdx m a b = some r → evF P (T0 m) 32 73 [.s (.string a), .s (.string b)] H = some (.s (.int .i64 r), H) := fun a b r H h => ZS73_ok cCut hcut cRK hrk (gIdx m) hgi cIB hib a b r H h
  have hsi : ∀ (a b : ByteArray) (r : Int) (H : Heap), cSI m a b = some r → evF P (T0 m) 33 70 [.s (.string a), .s (.string b)] H = some (.s (.int .i64 r), H) := fun a b r H h => ZS70_ok (cIdx m) hidx a b r H h
  exact ZS61_ok (cSI m) hsi a b r H h
/-- The pairs that are asked. -/
def subs : List ByteArray := [⟨#[56]⟩, ⟨#[49, 54]⟩, ⟨#[51, 50]⟩, ⟨#[95, 105, 51, 50]⟩]
noncomputable def opNames : List ByteArray := rowNames.flatMap words
noncomputable def askedFor : List ByteArray := opNames ++ opNames.map fun s => s.extract 3 s.size
noncomputable def contF (a b : ByteArray) : Bool := (cCon 0 a b).getD false
noncomputable def containsO : List AV → Option AV
  | [.s (.string a), .s (.string b)] => if (askedFor.any (same a) && subs.any (same b)) = true then some (.s (.bool (contF a b))) else none
  | _ => none
noncomputable def okC (m : Int) : Bool := askedFor.all fun a => subs.all fun b => match cCon m a b with
  | some r => r == contF a b
  | none => false
end Go.Proofs.YtggoggdcnahkaaaDoor
