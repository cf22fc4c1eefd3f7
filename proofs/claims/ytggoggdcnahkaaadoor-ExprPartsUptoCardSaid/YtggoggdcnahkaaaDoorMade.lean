/- What the program's operations are made to, one by one. -/
import Derived.Test.YtggoggdcnahkaaaDoorTabK
set_option linter.unusedVariables false
set_option linter.unusedSimpArgs false
set_option maxRecDepth 100000
namespace Go.Proofs.YtggoggdcnahkaaaDoor
open Go Go.RowKit Go.Proofs
def bareOf (r : RowO) : Nat → List ByteArray → List OpR
  | _, [] => []
  | i, w :: ws => ⟨r.first + (i : Int), w, r.kind, [], 0, 0, false⟩ :: bareOf r (i + 1) ws
noncomputable def bareL : List OpR := rowsL.flatMap fun r => bareOf r 0 (words r.names)
def intOf1 : AV → Option Int
  | .s (.int .i64 n) => some n
  | _ => none
def intsOf : List AV → Option (List Int)
  | [] => some []
  | x :: xs => match intOf1 x, intsOf xs with
    | some n, some l => some (n :: l)
    | _, _ => none
theorem intsOf_eq : ∀ {xs : List AV} {l : List Int}, intsOf xs = some l → xs = l.map intAV
  | [], l, h => by simp only [intsOf] at h; injection h with h; subst h; rfl
  | x :: xs, l, h => by
    simp only [intsOf] at h
    split at h
    · rename_i n l' h1 h2
      injection h with h; subst h
      have hx : x = intAV n := by
        unfold intOf1 at h1
        split at h1
        · injection h1 with h1; subst h1; rfl
        · cases h1
      rw [hx, intsOf_eq h2]; rfl
    · cases h
def opOf : AV → Option OpR
  | .agg [.s (.int .i64 a), .s (.string n), .s (.int .i64 k), .sl xs .ro, .s (.int .i64 g), .s (.int .i64 b), .s (.bool s)] => match intsOf xs with
    | some l => some ⟨a, n, k, l, g, b, s⟩
    | none => none
  | _ => none
theorem opOf_eq {v : AV} {o : OpR} (h : opOf v = some o) : v = o.av := by
  unfold opOf at h
  split at h
  · split at h
    · rename_i l hl
      injection h with h
      subst h
      simp only [OpR.av, intsOf_eq hl]
    · cases h
  · cases h
def sameOp (a b : OpR) : Bool := decide (a.byte = b.byte) && same a.name b.name && decide (a.kind = b.kind) && decide (a.takes = b.takes) && decide (a.gives = b.gives) && decide (a.bytes = b.bytes) && (a.signed == b.signed)
theorem sameOp_eq {a b : OpR} (h : sameOp a b = true) : a = b := by
  simp only [sameOp, Bool.and_eq_true, decide_eq_true_eq, beq_iff_eq] at h
  obtain ⟨⟨⟨⟨⟨⟨h1, h2⟩, h3⟩, h4⟩, h5⟩, h6⟩, h7⟩ := h
  have h8 := same_eq h2
  cases a; cases b
  simp only at h1 h3 h4 h5 h6 h7 h8
  subst h1 h3 h4 h5 h6 h7 h8
  rfl
noncomputable def madeF (x : OpR) : Option OpR := match evF P (T 0) 60 40 [x.av] [] with
  | some (v, []) => opOf v
  | _ => none
noncomputable def okM (m : Int) (x : OpR) : Bool := match evF P (T m) 60 40 [x.av] [] with
  | some (v, []) => match opOf v, madeF x with
    | some a, some b => sameOp a b
    | _, _ => false
  | _ => false
theorem okM_eq {m : Int} {x r : OpR} (h : okM m x = true) (hr : madeF x = some r) : evF P (T m) 60 40 [x.av] [] = some (r.av, []) := by
  unfold okM at h
  split at h
  · rename_i v he
    split at h
    · rename_i a b ha hb
      rw [hb] at hr
      injection hr with hr; subst hr
      rw [he, opOf_eq ha, sameOp_eq h]
    · cases h
  · cases h
end Go.Proofs.YtggoggdcnahkaaaDoor
