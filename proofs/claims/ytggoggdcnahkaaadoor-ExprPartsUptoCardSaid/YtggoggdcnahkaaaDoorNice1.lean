/- What the functions of packages leb, tree and expr answer, as functions of lists. -/
import Derived.Test.YtggoggdcnahkaaaDoorLook2
import Derived.Test.YtggoggdcnahkaaaDoorGExpr
set_option linter.unusedVariables false
set_option linter.unusedSimpArgs false
set_option maxRecDepth 100000
namespace Go.Proofs.YtggoggdcnahkaaaDoor
open Go Go.RowKit Go.Proofs

theorem or_small : ∀ x, x < 256 → (x ||| 128) = x % 128 + 128 := by decide +kernel
theorem and_small : ∀ x, x < 256 → (x &&& 127) = x % 128 := by decide +kernel
theorem wrap8 (v : Int) : IntKind.u8.wrap v = v % 256 := by
  simp [IntKind.wrap, IntKind.signed, IntKind.bits]
theorem bv8 (n : Nat) (h : n < 256) : (BitVec.ofInt IntKind.u8.bits (n : Int)).toNat = n := by
  simp [IntKind.bits, BitVec.toNat_ofInt]; omega
theorem or128 (v : Int) : orA .u8 (IntKind.u8.wrap v) 128 = v % 128 + 128 := by
  obtain ⟨x, hx, hv⟩ : ∃ x : Nat, x < 256 ∧ v % 256 = (x : Int) := ⟨(v % 256).toNat, by omega, by omega⟩
  unfold orA
  rw [wrap8 v, hv, BitVec.toNat_or, bv8 _ hx, show (BitVec.ofInt IntKind.u8.bits 128).toNat = 128 from rfl, or_small _ hx, wrap8]
  omega
theorem and127 (v : Int) : andA .u8 (IntKind.u8.wrap v) 127 = v % 128 := by
  obtain ⟨x, hx, hv⟩ : ∃ x : Nat, x < 256 ∧ v % 256 = (x : Int) := ⟨(v % 256).toNat, by omega, by omega⟩
  unfold andA
  rw [wrap8 v, hv, BitVec.toNat_and, bv8 _ hx, show (BitVec.ofInt IntKind.u8.bits 127).toNat = 127 from rfl, and_small _ hx, wrap8]
  omega
theorem shr7 (k : IntKind) (v : Int) (h : 7 ≤ k.bits) : shrA k v 7 = v / 128 := by
  unfold shrA
  rw [show min (7 : Int).toNat k.bits = 7 from Nat.min_eq_left h, Int.fdiv_eq_ediv_of_nonneg _ (by decide)]
  rfl
theorem room1 {n b : Nat} (h : n + b ≤ 70368744177664) : (n + b) * 1 ≤ roomA := by unfold roomA; omega

/-- The bytes of a number without a sign; with one. -/
def putUI : Nat → Int → List Int
  | 0, v => [v % 128]
  | k + 1, v => if v < 128 then [v] else (v % 128 + 128) :: putUI k (v / 128)
def putSI : Nat → Int → List Int
  | 0, v => [v % 128]
  | k + 1, v => if -64 ≤ v ∧ v < 64 then [v % 128] else (v % 128 + 128) :: putSI k (v / 128)
theorem putUI_len : ∀ k v, (putUI k v).length ≤ k + 1
  | 0, v => by simp [putUI]
  | k + 1, v => by
    rw [putUI]
    split
    · simp
    · have := putUI_len k (v / 128)
      simp only [List.length_cons]; omega
theorem putSI_len : ∀ k v, (putSI k v).length ≤ k + 1
  | 0, v => by simp [putSI]
  | k + 1, v => by
    rw [putSI]
    split
    · simp
    · have := putSI_len k (v / 128)
      simp only [List.length_cons]; omega

theorem putU_loop {n : Nat} : ∀ (j k : Nat) (v : Int) (acc : List Int), 0 ≤ v → v < 128 ^ (j + 1) → j < k → acc.length + j ≤ 1000 →
    ∃ u l, L49_0 n k v acc = some (.out (u, acc ++ l)) ∧ 0 ≤ u ∧ u < 128 ∧ putUI j v = l ++ [u] ∧ l.length ≤ j
  | 0, k, v, acc, h0, h1, hk, hl => by
    obtain ⟨k, rfl⟩ : ∃ i, k = i + 1 := ⟨k - 1, by omega⟩
    have hd : decide (128 ≤ v) = false := by simp; omega
    refine ⟨v, [], ?_, h0, by omega, by simp only [putUI]; congr 1; omega, by simp⟩
    rw [L49_0, hd]
    simp
  | j + 1, k, v, acc, h0, h1, hk, hl => by
    obtain ⟨k, rfl⟩ : ∃ i, k = i + 1 := ⟨k - 1, by omega⟩
    by_cases hv : v < 128
    · have hd : decide (128 ≤ v) = false := by simp; omega
      refine ⟨v, [], ?_, h0, hv, by simp [putUI, hv], by simp⟩
      rw [L49_0, hd]
      simp
    · have hd : decide (128 ≤ v) = true := by simp; omega
      obtain ⟨u, l, r1, r2, r3, r4, r5⟩ := putU_loop (n := n) j k (v / 128) (acc ++ [v % 128 + 128]) (by omega) (by rw [Int.pow_succ] at h1; omega) (by omega) (by simp; omega)
      refine ⟨u, (v % 128 + 128) :: l, ?_, r2, r3, ?_, by simp; omega⟩
      · rw [L49_0, hd, if_pos rfl, if_pos (room1 (by omega)), or128, shr7 _ _ (by decide), r1]
        simp
      · rw [putUI, if_neg hv, r4]; rfl
theorem putU_S {n : Nat} (hn : 10 ≤ n) {v : Int} (h0 : 0 ≤ v) (h1 : v < 2 ^ 64) : S49 n v = some (putUI 9 v) := by
  obtain ⟨u, l, r1, r2, r3, r4, r5⟩ := putU_loop (n := n) 9 n v [] h0 (by omega) (by omega) (by simp)
  unfold S49
  rw [r1]
  simp only [Option.bind_some, List.nil_append]
  rw [if_pos (room1 (by omega)), wrap8, r4]
  congr 3
  omega
theorem putS_loop {n : Nat} : ∀ (j k : Nat) (v : Int) (acc : List Int), -(64 * 128 ^ j) ≤ v → v < 64 * 128 ^ j → j < k → acc.length + j ≤ 1000 →
    ∃ u l, L36_0 n k v acc = some (.out (u, acc ++ l)) ∧ putSI j v = l ++ [u % 128] ∧ l.length ≤ j
  | 0, k, v, acc, h0, h1, hk, hl => by
    obtain ⟨k, rfl⟩ : ∃ i, k = i + 1 := ⟨k - 1, by omega⟩
    have hd : decide (v < -64) = false := by simp; omega
    have hd2 : decide (64 ≤ v) = false := by simp; omega
    refine ⟨v, [], ?_, by simp [putSI], by simp⟩
    rw [L36_0, hd, hd2]
    simp
  | j + 1, k, v, acc, h0, h1, hk, hl => by
    obtain ⟨k, rfl⟩ : ∃ i, k = i + 1 := ⟨k - 1, by omega⟩
    by_cases hv : -64 ≤ v ∧ v < 64
    · have hd : decide (v < -64) = false := by simp; omega
      have hd2 : decide (64 ≤ v) = false := by simp; omega
      refine ⟨v, [], ?_, by simp [putSI, hv], by simp⟩
      rw [L36_0, hd, hd2]
      simp
    · have hd : ((if decide (v < -64) = true then some true else some (decide (64 ≤ v))) : Option Bool) = some true := by
        by_cases h : v < -64
        · simp [h]
        · simp [h]; omega
      obtain ⟨u, l, r1, r4, r5⟩ := putS_loop (n := n) j k (v / 128) (acc ++ [v % 128 + 128]) (by rw [Int.pow_succ] at h0; omega) (by rw [Int.pow_succ] at h1; omega) (by omega) (by simp; omega)
      refine ⟨u, (v % 128 + 128) :: l, ?_, ?_, by simp; omega⟩
      · rw [L36_0, hd]
        simp only [Option.bind_some, if_true]
        rw [if_pos (room1 (by omega)), or128, shr7 _ _ (by decide), r1]
        simp
      · rw [putSI, if_neg hv, r4]; rfl
theorem putS_S {n : Nat} (hn : 10 ≤ n) {v : Int} (h0 : -(2 ^ 63) ≤ v) (h1 : v < 2 ^ 63) : S36 n v = some (putSI 9 v) := by
  obtain ⟨u, l, r1, r4, r5⟩ := putS_loop (n := n) 9 n v [] (by omega) (by omega) (by omega) (by simp)
  unfold S36
  rw [r1]
  simp only [Option.bind_some, List.nil_append]
  rw [if_pos (room1 (by omega)), and127, r4]
/-- A block's byte. -/
def blockB (t : Int) : Int := if t = 1 then 127 else if t = 2 then 126 else 64
theorem block_S (n : Nat) (t : Int) : S34 n t = some (blockB t) := by
  unfold S34 blockB
  by_cases h1 : t = 1
  · simp [h1]
  · by_cases h2 : t = 2
    · simp [h2]
    · simp [h1, h2]
theorem wrapU_range (x : Int) : 0 ≤ IntKind.u64.wrap x ∧ IntKind.u64.wrap x < 2 ^ 64 := by
  simp [IntKind.wrap, IntKind.signed, IntKind.bits]
  omega
theorem wrapS_range (x : Int) : -(2 ^ 63) ≤ IntKind.i64.wrap x ∧ IntKind.i64.wrap x < 2 ^ 63 := by
  simp [IntKind.wrap, IntKind.signed, IntKind.bits]
  omega
def putsI (l : List Int) : List Int := l.flatMap fun x => putUI 9 (IntKind.u64.wrap x)
theorem putsI_len (l : List Int) : (putsI l).length ≤ 10 * l.length := by
  induction l with
  | nil => simp [putsI]
  | cons x l ih =>
    have := putUI_len 9 (IntKind.u64.wrap x)
    simp only [putsI, List.flatMap_cons, List.length_append, List.length_cons] at ih ⊢
    omega
theorem drop_cons {α : Type} {l : List α} {i : Nat} (h : i < l.length) : l.drop i = l[i] :: l.drop (i + 1) := List.drop_eq_getElem_cons h
def gPutU (v : Int) : Option (List Int) := if 0 ≤ v ∧ v < 2 ^ 64 then some (putUI 9 v) else none
theorem puts_loop {n : Nat} (l : List Int) (hl : l.length < 2 ^ 60) : ∀ (d i k : Nat) (acc : List Int), i + d = l.length → d < k → acc.length + 10 * d ≤ 2 ^ 45 →
    L35_0 gPutU n k acc l (l.length : Int) (i : Int) = some (.out (acc ++ putsI (l.drop i)))
  | 0, i, k, acc, hi, hk, ha => by
    obtain ⟨k, rfl⟩ : ∃ j, k = j + 1 := ⟨k - 1, by omega⟩
    have hd : decide ((i : Int) < (l.length : Int)) = false := by simp; omega
    rw [L35_0, hd, List.drop_eq_nil_of_le (by omega)]
    simp [putsI]
  | d + 1, i, k, acc, hi, hk, ha => by
    obtain ⟨k, rfl⟩ : ∃ j, k = j + 1 := ⟨k - 1, by omega⟩
    have hlt : i < l.length := by omega
    have hd : decide ((i : Int) < (l.length : Int)) = true := by simp; omega
    have hg : gPutU (IntKind.u64.wrap l[i]) = some (putUI 9 (IntKind.u64.wrap l[i])) := by
      unfold gPutU
      rw [if_pos (wrapU_range _)]
    have hw : IntKind.i64.wrap ((i : Int) + 1) = ((i + 1 : Nat) : Int) := by rw [wrap64 (by omega) (by omega)]; rfl
    have hlen := putUI_len 9 (IntKind.u64.wrap l[i])
    have ih := puts_loop (n := n) l hl d (i + 1) k (acc ++ putUI 9 (IntKind.u64.wrap l[i])) (by omega) (by omega) (by simp; omega)
    rw [L35_0, hd, if_pos rfl, if_pos (by omega), Int.toNat_natCast, List.getElem?_eq_getElem hlt]
    simp only [Option.bind_some, hg]
    rw [if_pos (room1 (by omega)), hw, ih, drop_cons hlt]
    simp only [putsI, List.flatMap_cons, List.append_assoc]
theorem puts_S {n : Nat} {l acc : List Int} (hl : l.length < n) (ha : acc.length + 10 * l.length ≤ 2 ^ 45) : S35 gPutU n acc l = some (acc ++ putsI l) := by
  unfold S35
  rw [show (0 : Int) = ((0 : Nat) : Int) from rfl, puts_loop l (by omega) l.length 0 n acc (by omega) hl ha]
  simp

/-! Instructions' bytes -/
mutual
def Ins.sz : Ins → Nat
  | .mk _ _ _ _ _ l body els _ => 1 + l.length + szL body + szL els
def szL : List Ins → Nat
  | [] => 0
  | x :: xs => x.sz + szL xs
end
mutual
def oneB : Ins → List Int
  | .mk op a b v t l body els has => match opAt op with
    | none => []
    | some (k, _, g, _, _) => op % 256 ::
      (if k = 2 then blockB t :: (listB body ++ ((if has = true then 5 :: listB els else []) ++ [11]))
      else if k = 7 ∨ k = 8 then putsI [a, b]
      else if k = 9 then [0]
      else if k = 10 ∧ g = 1 then putSI 9 (IntKind.i64.wrap (IntKind.i32.wrap (IntKind.u32.wrap v)))
      else if k = 10 then putSI 9 (IntKind.i64.wrap v)
      else if op = 14 then putsI [IntKind.i64.wrap ((l.length : Int) - 1)] ++ putsI l
      else if op = 17 then putsI [a] ++ [0]
      else if k = 4 ∨ k = 6 ∨ op = 12 ∨ op = 13 then putsI [a]
      else [])
def listB : List Ins → List Int
  | [] => []
  | x :: xs => oneB x ++ listB xs
end
theorem listB_append : ∀ a b, listB (a ++ b) = listB a ++ listB b
  | [], b => rfl
  | x :: a, b => by simp [listB, listB_append a b]
mutual
theorem oneB_len : ∀ x : Ins, (oneB x).length ≤ 30 * x.sz
  | .mk op a b v t l body els has => by
    have h1 := listB_len body
    have h2 := listB_len els
    have p1 := putsI_len [a, b]
    have p2 := putsI_len [a]
    have p3 := putsI_len l
    have p4 := putsI_len [IntKind.i64.wrap ((l.length : Int) - 1)]
    have p5 := putSI_len 9 (IntKind.i64.wrap (IntKind.i32.wrap (IntKind.u32.wrap v)))
    have p6 := putSI_len 9 (IntKind.i64.wrap v)
    simp only [List.length_cons, List.length_nil] at p1 p2 p4
    rw [oneB, Ins.sz]
    split
    · simp
    · simp only [List.length_cons]
      repeat' split
      all_goals try simp only [List.length_cons, List.length_append, List.length_nil]
      all_goals omega
theorem listB_len : ∀ l : List Ins, (listB l).length ≤ 30 * szL l
  | [] => by simp [listB, szL]
  | x :: xs => by
    have h1 := oneB_len x
    have h2 := listB_len xs
    simp only [listB, szL, List.length_append]; omega
end
theorem length_le_szL : ∀ l : List Ins, l.length ≤ szL l
  | [] => by simp [szL]
  | x :: xs => by
    have := length_le_szL xs
    cases x
    simp only [List.length_cons, szL, Ins.sz]; omega

noncomputable def gLook (op : Int) : Option (OpR × Err) := some (lookR op)
end Go.Proofs.YtggoggdcnahkaaaDoor
