/- op.Look, as a table. -/
import Derived.Test.YtggoggdcnahkaaaDoorLook
set_option linter.unusedVariables false
set_option linter.unusedSimpArgs false
set_option maxRecDepth 100000
namespace Go.Proofs.YtggoggdcnahkaaaDoor
open Go Go.RowKit Go.Proofs
def opRow : Nat → Option (Int × List Int × Int × Int × Bool)
  | 0 => some (1, [], 0, 0, false)
  | 1 => some (1, [], 0, 0, false)
  | 2 => some (2, [], 0, 0, false)
  | 3 => some (2, [], 0, 0, false)
  | 4 => some (2, [1], 0, 0, false)
  | 12 => some (3, [], 0, 0, false)
  | 13 => some (3, [1], 0, 0, false)
  | 14 => some (3, [1], 0, 0, false)
  | 15 => some (3, [], 0, 0, false)
  | 16 => some (4, [], 0, 0, false)
  | 17 => some (4, [1], 0, 0, false)
  | 26 => some (5, [], 0, 0, false)
  | 27 => some (5, [1], 0, 0, false)
  | 32 => some (6, [], 0, 0, false)
  | 33 => some (6, [], 0, 0, false)
  | 34 => some (6, [], 0, 0, false)
  | 35 => some (6, [], 0, 0, false)
  | 36 => some (6, [], 0, 0, false)
  | 40 => some (7, [1], 1, 4, false)
  | 41 => some (7, [1], 2, 8, false)
  | 44 => some (7, [1], 1, 1, true)
  | 45 => some (7, [1], 1, 1, false)
  | 46 => some (7, [1], 1, 2, true)
  | 47 => some (7, [1], 1, 2, false)
  | 48 => some (7, [1], 2, 1, true)
  | 49 => some (7, [1], 2, 1, false)
  | 50 => some (7, [1], 2, 2, true)
  | 51 => some (7, [1], 2, 2, false)
  | 52 => some (7, [1], 2, 4, true)
  | 53 => some (7, [1], 2, 4, false)
  | 54 => some (8, [1, 1], 0, 4, false)
  | 55 => some (8, [1, 2], 0, 8, false)
  | 58 => some (8, [1, 1], 0, 1, false)
  | 59 => some (8, [1, 1], 0, 2, false)
  | 60 => some (8, [1, 2], 0, 1, false)
  | 61 => some (8, [1, 2], 0, 2, false)
  | 62 => some (8, [1, 2], 0, 4, false)
  | 63 => some (9, [], 1, 0, false)
  | 64 => some (9, [1], 1, 0, false)
  | 65 => some (10, [], 1, 0, false)
  | 66 => some (10, [], 2, 0, false)
  | 69 => some (11, [1], 1, 0, false)
  | 70 => some (11, [1, 1], 1, 0, false)
  | 71 => some (11, [1, 1], 1, 0, false)
  | 72 => some (11, [1, 1], 1, 0, false)
  | 73 => some (11, [1, 1], 1, 0, false)
  | 74 => some (11, [1, 1], 1, 0, false)
  | 75 => some (11, [1, 1], 1, 0, false)
  | 76 => some (11, [1, 1], 1, 0, false)
  | 77 => some (11, [1, 1], 1, 0, false)
  | 78 => some (11, [1, 1], 1, 0, false)
  | 79 => some (11, [1, 1], 1, 0, false)
  | 80 => some (11, [2], 1, 0, false)
  | 81 => some (11, [2, 2], 1, 0, false)
  | 82 => some (11, [2, 2], 1, 0, false)
  | 83 => some (11, [2, 2], 1, 0, false)
  | 84 => some (11, [2, 2], 1, 0, false)
  | 85 => some (11, [2, 2], 1, 0, false)
  | 86 => some (11, [2, 2], 1, 0, false)
  | 87 => some (11, [2, 2], 1, 0, false)
  | 88 => some (11, [2, 2], 1, 0, false)
  | 89 => some (11, [2, 2], 1, 0, false)
  | 90 => some (11, [2, 2], 1, 0, false)
  | 103 => some (11, [1], 1, 0, false)
  | 104 => some (11, [1], 1, 0, false)
  | 105 => some (11, [1], 1, 0, false)
  | 106 => some (11, [1, 1], 1, 0, false)
  | 107 => some (11, [1, 1], 1, 0, false)
  | 108 => some (11, [1, 1], 1, 0, false)
  | 109 => some (11, [1, 1], 1, 0, false)
  | 110 => some (11, [1, 1], 1, 0, false)
  | 111 => some (11, [1, 1], 1, 0, false)
  | 112 => some (11, [1, 1], 1, 0, false)
  | 113 => some (11, [1, 1], 1, 0, false)
  | 114 => some (11, [1, 1], 1, 0, false)
  | 115 => some (11, [1, 1], 1, 0, false)
  | 116 => some (11, [1, 1], 1, 0, false)
  | 117 => some (11, [1, 1], 1, 0, false)
  | 118 => some (11, [1, 1], 1, 0, false)
  | 119 => some (11, [1, 1], 1, 0, false)
  | 120 => some (11, [1, 1], 1, 0, false)
  | 121 => some (11, [2], 2, 0, false)
  | 122 => some (11, [2], 2, 0, false)
  | 123 => some (11, [2], 2, 0, false)
  | 124 => some (11, [2, 2], 2, 0, false)
  | 125 => some (11, [2, 2], 2, 0, false)
  | 126 => some (11, [2, 2], 2, 0, false)
  | 127 => some (11, [2, 2], 2, 0, false)
  | 128 => some (11, [2, 2], 2, 0, false)
  | 129 => some (11, [2, 2], 2, 0, false)
  | 130 => some (11, [2, 2], 2, 0, false)
  | 131 => some (11, [2, 2], 2, 0, false)
  | 132 => some (11, [2, 2], 2, 0, false)
  | 133 => some (11, [2, 2], 2, 0, false)
  | 134 => some (11, [2, 2], 2, 0, false)
  | 135 => some (11, [2, 2], 2, 0, false)
  | 136 => some (11, [2, 2], 2, 0, false)
  | 137 => some (11, [2, 2], 2, 0, false)
  | 138 => some (11, [2, 2], 2, 0, false)
  | 167 => some (11, [2], 1, 0, false)
  | 172 => some (11, [1], 2, 0, false)
  | 173 => some (11, [1], 2, 0, false)
  | _ => none
def nameAt : List (ByteArray × Nat) := [
  (⟨#[117, 110, 114, 101, 97, 99, 104, 97, 98, 108, 101]⟩, 0),
  (⟨#[108, 111, 111, 112]⟩, 3),
  (⟨#[105, 102]⟩, 4),
  (⟨#[98, 114, 95, 105, 102]⟩, 13),
  (⟨#[98, 114, 95, 116, 97, 98, 108, 101]⟩, 14),
  (⟨#[114, 101, 116, 117, 114, 110]⟩, 15),
  (⟨#[99, 97, 108, 108]⟩, 16),
  (⟨#[100, 114, 111, 112]⟩, 26),
  (⟨#[108, 111, 99, 97, 108, 46, 103, 101, 116]⟩, 32),
  (⟨#[108, 111, 99, 97, 108, 46, 116, 101, 101]⟩, 34),
  (⟨#[103, 108, 111, 98, 97, 108, 46, 103, 101, 116]⟩, 35),
  (⟨#[103, 108, 111, 98, 97, 108, 46, 115, 101, 116]⟩, 36)]
def floatB (op : Int) : Bool := decide (op = 42) || decide (op = 43) || decide (op = 56) || decide (op = 57) || decide (op = 67) || decide (op = 68) || (decide (91 ≤ op) && decide (op ≤ 102)) || (decide (139 ≤ op) && decide (op ≤ 166)) || (decide (168 ≤ op) && decide (op ≤ 171)) || (decide (174 ≤ op) && decide (op ≤ 191))
def zeroOp : OpR := ⟨0, ⟨#[]⟩, 0, [], 0, 0, false⟩
noncomputable def lookR (op : Int) : OpR × Err := (lookF op).getD (zeroOp, .nil)
noncomputable def chk (k : Nat) : Bool := match lookF k, opRow k with
  | some (o, .nil), some (kd, tk, gv, by_, sg) => decide (o.byte = k) && decide (o.kind = kd) && decide (o.takes = tk) && decide (o.gives = gv) && decide (o.bytes = by_) && (o.signed == sg) && nameAt.all fun p => (o.name.toList == p.1.toList) == (k == p.2)
  | some (o, .code c), none => sameOp o zeroOp && decide (c = if floatB k then 3 else 5)
  | _, _ => false
theorem chkA : ((List.range 256).take 64).all chk = true := by kernel_rfl
theorem chkB : (((List.range 256).drop 64).take 64).all chk = true := by kernel_rfl
theorem chkC : ((List.range 256).drop 128).all chk = true := by kernel_rfl
theorem chk_all {k : Nat} (h : k < 256) : chk k = true := by
  have hA := chkA
  have hB := chkB
  have hC := chkC
  rw [List.all_eq_true] at hA hB hC
  have h1 : List.range 256 = (List.range 256).take 64 ++ (((List.range 256).drop 64).take 64 ++ (List.range 256).drop 128) := by
    have : (List.range 256).drop 128 = ((List.range 256).drop 64).drop 64 := by rw [List.drop_drop]
    rw [this, List.take_append_drop, List.take_append_drop]
  have hx := List.mem_range.2 h
  rw [h1] at hx
  rcases List.mem_append.1 hx with h | h
  · exact hA k h
  · rcases List.mem_append.1 h with h | h
    · exact hB k h
    · exact hC k h
theorem float_out {op : Int} (h : op < 0 ∨ 256 ≤ op) : floatG op = some false := by
  unfold floatG S37
  have e : ∀ c : Int, 0 ≤ c → c < 256 → decide (op = c) = false := fun c h1 h2 => by simp; omega
  have f : ∀ a b : Int, 0 ≤ a → b < 256 → ((if decide (a ≤ op) = true then some (decide (op ≤ b)) else some false) : Option Bool) = some false := fun a b h1 h2 => by
    by_cases ha : a ≤ op
    · simp [ha]; omega
    · simp [ha]
  rw [e 42 (by decide) (by decide), e 43 (by decide) (by decide), e 56 (by decide) (by decide), e 57 (by decide) (by decide), e 67 (by decide) (by decide), e 68 (by decide) (by decide)]
  simp only [Bool.false_eq_true, if_false]
  rw [f 91 102 (by decide) (by decide)]
  simp only [Option.bind_some, Bool.false_eq_true, if_false]
  rw [f 139 166 (by decide) (by decide)]
  simp only [Option.bind_some, Bool.false_eq_true, if_false]
  rw [f 168 171 (by decide) (by decide)]
  simp only [Option.bind_some, Bool.false_eq_true, if_false]
  rw [f 174 191 (by decide) (by decide)]
  simp only [Option.bind_some, Bool.false_eq_true, if_false]
noncomputable def rowIn (r : RowO) : Bool := match fieldsG r.names with
  | some l => decide (0 ≤ r.first) && decide (r.first + (l.length : Int) ≤ 256)
  | none => false
theorem rows_in : rowsL.all rowIn = true := by kernel_rfl
theorem rows_len : rowsL.length = 18 := by kernel_rfl
theorem loop_out {op : Int} (h : op < 0 ∨ 256 ≤ op) (b0 : Int) (b1 : ByteArray) (b2 : Int) (b3 : List Int) (b4 b5 : Int) (b6 : Bool) : ∀ (d i k : Nat), i + d = 18 → d < k →
    L20_0 floatG madeG (some rowsL) fieldsG 60 k op rowsL 18 (i : Int) b0 b1 b2 b3 b4 b5 b6 = some (.out (b0, b1, b2, b3, b4, b5, b6)) := by
  intro d
  induction d with
  | zero =>
    intro i k hi hk
    obtain ⟨k, rfl⟩ : ∃ j, k = j + 1 := ⟨k - 1, by omega⟩
    have : decide ((i : Int) < 18) = false := by simp; omega
    rw [L20_0, this]
    rfl
  | succ d ih =>
    intro i k hi hk
    obtain ⟨k, rfl⟩ : ∃ j, k = j + 1 := ⟨k - 1, by omega⟩
    have h1 : decide ((i : Int) < 18) = true := by simp; omega
    have h2 : (0 : Int) ≤ (i : Int) := by omega
    have hlt : i < rowsL.length := by rw [rows_len]; omega
    have hin := rows_in
    rw [List.all_eq_true] at hin
    have hr := hin rowsL[i] (List.getElem_mem hlt)
    unfold rowIn at hr
    split at hr
    · rename_i l hl
      simp only [Bool.and_eq_true, decide_eq_true_eq] at hr
      have hw : IntKind.i64.wrap (rowsL[i].first + (l.length : Int)) = rowsL[i].first + (l.length : Int) := wrap64 (by omega) (by omega)
      have hv : ((if decide (rowsL[i].first ≤ op) = true then some (decide (op < rowsL[i].first + (l.length : Int))) else some false) : Option Bool) = some false := by
        by_cases ha : rowsL[i].first ≤ op
        · simp [ha]; omega
        · simp [ha]
      have hw2 : IntKind.i64.wrap ((i : Int) + 1) = ((i + 1 : Nat) : Int) := by rw [wrap64 (by omega) (by omega)]; rfl
      rw [L20_0, h1]
      simp only [if_true, h2, Int.toNat_natCast, List.getElem?_eq_getElem hlt, Option.bind_some, hl, hw, hv, Bool.false_eq_true, if_false, hw2]
      exact ih (i + 1) k (by omega) (by omega)
    · cases hr
theorem look_out {op : Int} (h : op < 0 ∨ 256 ≤ op) : lookF op = some (zeroOp, .code 5) := by
  unfold lookF S20
  rw [float_out h]
  simp only [Option.bind_some, Bool.false_eq_true, if_false]
  have hl : ((rowsL.length : Nat) : Int) = 18 := by rw [rows_len]; rfl
  rw [hl, show (0 : Int) = ((0 : Nat) : Int) from rfl, loop_out h _ _ _ _ _ _ _ 18 0 60 (by omega) (by omega)]
  rfl
theorem look_some (op : Int) : lookF op = some (lookR op) := by
  unfold lookR
  by_cases h : op < 0 ∨ 256 ≤ op
  · rw [look_out h]; rfl
  · obtain ⟨k, rfl⟩ : ∃ k : Nat, op = k := ⟨op.toNat, by omega⟩
    have := chk_all (k := k) (by omega)
    unfold chk at this
    split at this
    · rename_i h1 h2; rw [h1]; rfl
    · rename_i h1 h2; rw [h1]; rfl
    · cases this
theorem look_ok (m : Int) (op : Int) (H : Heap) : evF P (T m) 61 20 [.s (.int .i64 op)] H = some (.tup [(lookR op).1.av, (lookR op).2.av], H) := lookF_ok m op _ H (look_some op)
/-- An operation that there is. -/
def opAt (op : Int) : Option (Int × List Int × Int × Int × Bool) := if 0 ≤ op ∧ op < 256 then opRow op.toNat else none
theorem look_none {op : Int} (h : opAt op = none) : lookR op = (zeroOp, .code (if floatB op then 3 else 5)) := by
  unfold opAt at h
  split at h
  · rename_i hc
    obtain ⟨k, rfl⟩ : ∃ k : Nat, op = k := ⟨op.toNat, by omega⟩
    have := chk_all (k := k) (by omega)
    rw [Int.toNat_natCast] at h
    unfold chk at this
    rw [h] at this
    split at this
    · rename_i h1 h2; cases h2
    · rename_i o c h1 h2
      simp only [Bool.and_eq_true, decide_eq_true_eq] at this
      unfold lookR
      rw [h1, Option.getD_some, sameOp_eq this.1, this.2]
    · cases this
  · rename_i hc
    unfold lookR
    have hf : floatB op = false := by simp [floatB]; omega
    rw [look_out (by omega), hf]
    rfl
theorem look_at {op : Int} {kd : Int} {tk : List Int} {gv bys : Int} {sg : Bool} (h : opAt op = some (kd, tk, gv, bys, sg)) : ∃ nm, lookR op = (⟨op, nm, kd, tk, gv, bys, sg⟩, .nil) ∧ ∀ p ∈ nameAt, (nm.toList == p.1.toList) = decide (op = (p.2 : Int)) := by
  unfold opAt at h
  split at h
  · rename_i hc
    obtain ⟨k, rfl⟩ : ∃ k : Nat, op = k := ⟨op.toNat, by omega⟩
    have := chk_all (k := k) (by omega)
    rw [Int.toNat_natCast] at h
    unfold chk at this
    rw [h] at this
    split at this
    · rename_i o kd' tk' gv' by' sg' h1 h2
      injection h2 with h2
      simp only [Prod.mk.injEq] at h2
      obtain ⟨e1, e2, e3, e4, e5⟩ := h2
      subst e1 e2 e3 e4 e5
      simp only [Bool.and_eq_true, decide_eq_true_eq, beq_iff_eq] at this
      obtain ⟨⟨⟨⟨⟨⟨g1, g2⟩, g3⟩, g4⟩, g5⟩, g6⟩, g7⟩ := this
      refine ⟨o.name, ?_, fun p hp => ?_⟩
      · unfold lookR
        rw [h1, Option.getD_some]
        cases o
        simp only at g1 g2 g3 g4 g5 g6
        subst g1 g2 g3 g4 g5 g6
        rfl
      · rw [List.all_eq_true] at g7
        have := g7 p hp
        simp only [beq_iff_eq] at this
        rw [this]
        by_cases e : k = p.2
        · simp [e]
        · have : ¬((k : Int) = (p.2 : Int)) := by omega
          simp [e, this]
    · rename_i h1 h2; cases h2
    · cases this
  · cases h
end Go.Proofs.YtggoggdcnahkaaaDoor
