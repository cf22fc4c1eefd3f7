/- The statement's function answers true. -/
import Derived.Test.YtggoggdcnahkaaaDoorCnt
import Derived.Test.YtggoggdcnahkaaaDoorGLaw
import Derived.Test.YtggoggdcnahkaaaDoorUp2
set_option linter.unusedVariables false
set_option linter.unusedSimpArgs false
set_option maxRecDepth 100000
namespace Go.Proofs.YtggoggdcnahkaaaDoor
open Go Go.RowKit Go.Proofs
theorem szL_append : ∀ a b, szL (a ++ b) = szL a + szL b
  | [], b => by simp [szL]
  | x :: a, b => by simp only [List.cons_append, szL, szL_append a b]; omega
theorem bytesOf_append (x y : List Int) : bytesOf x ++ bytesOf y = bytesOf (x ++ y) := by
  apply ByteArray.ext
  simp [bytesOf]
theorem bytesOf_size (x : List Int) : (bytesOf x).size = x.length := by simp [bytesOf, ByteArray.size]
theorem parts_S {n : Nat} (a b : List Ins) (hs : szL a + szL b < 2 ^ 34) (g6 : List Ins → Option (List Int × Err)) (g5 : List Ins → Option (Int × Int))
    (h6 : ∀ l, szL l ≤ szL a + szL b → g6 l = some (putR l)) (h5 : ∀ l, szL l ≤ szL a + szL b → g5 l = some (cntL l (0, 0))) : S3 g6 (some true) g5 n a b = some true := by
  have la := length_le_szL a
  have lb := length_le_szL b
  have ba := listB_len a
  have bb := listB_len b
  unfold S3
  rw [h5 a (by omega), h5 b (by omega), h6 a (by omega), h6 b (by omega), h6 (a ++ b) (by rw [szL_append]; omega)]
  rcases cntL a (0, 0) with ⟨c1, c2⟩
  rcases cntL b (0, 0) with ⟨d1, d2⟩
  simp only [Option.bind_some]
  have r1 : (0 + a.length) * 120 ≤ roomA := by unfold roomA; omega
  have r2 : (a.length + b.length) * 120 ≤ roomA := by unfold roomA; omega
  by_cases k1 : 1000 < c1
  · simp [k1]
  · by_cases k2 : 1000 < d1
    · simp [k1, k2]
    · simp only [k1, k2, decide_false, Bool.false_eq_true, if_false, Option.bind_some, r1, r2, if_true]
      cases ha : mayL a
      · have : mayL (a ++ b) = false := by rw [mayL_append, ha]; rfl
        simp [putR, ha, this]
      · cases hb : mayL b
        · have : mayL (a ++ b) = false := by rw [mayL_append, ha, hb]; rfl
          simp [putR, ha, hb, this]
        · have : mayL (a ++ b) = true := by rw [mayL_append, ha, hb]; rfl
          have e1 : (((listB a ++ [11]).length : Int) - 1) = ((listB a).length : Int) := by simp
          have e2 : IntKind.i64.wrap ((listB a).length : Int) = ((listB a).length : Int) := wrap64 (by omega) (by omega)
          have e3 : (listB a ++ [11]).take (listB a).length = listB a := by simp
          have e4 : (bytesOf (listB a)).size + (bytesOf (listB b ++ [11])).size ≤ 4611686018427387904 := by
            rw [bytesOf_size, bytesOf_size]; simp; omega
          have e5 : bytesOf (listB a) ++ bytesOf (listB b ++ [11]) = bytesOf (listB (a ++ b) ++ [11]) := by
            rw [bytesOf_append, listB_append, List.append_assoc]
          have e6 : (0 : Int) ≤ 0 ∧ 0 ≤ ((listB a).length : Int) ∧ ((listB a).length : Int) ≤ ((listB a ++ [11]).length : Int) := by simp; omega
          have e7 : (0 : Int) < ((listB a ++ [11]).length : Int) := by simp
          simp only [putR, ha, hb, this, if_true, Option.bind_some, Bool.false_eq_true, if_false, e1, e2, Int.toNat_natCast, e3, Int.toNat_zero, List.drop_zero, e4, e5, e6, e7, decide_true, and_self, beq_self_eq_true]
theorem parts_ev (m : Int) (a b : List Ins) (n : Nat) (qa qb : Prov) (H : Heap) (hn : 10 * (szL a + szL b) + 210 ≤ n) (hs : szL a + szL b < 2 ^ 34) :
    evF P (T m) n 3 [.sl (insAVs a) qa, .sl (insAVs b) qb] H = some (.s (.bool true), H) := by
  obtain ⟨k, rfl⟩ : ∃ k, n = k + 1 := ⟨n - 1, by omega⟩
  refine S3_ok (fun l => if szL l ≤ szL a + szL b then some (putR l) else none) (fun l q r H h => ?_) (some true) (fun r H h => ?_) (fun l => if szL l ≤ szL a + szL b then some (cntL l (0, 0)) else none) (fun l q r H h => ?_) a b qa qb true H
    (parts_S a b hs _ _ (fun l hl => if_pos hl) (fun l hl => if_pos hl))
  · split at h
    · rename_i hl
      injection h with h; subst h
      exact Put_ev m l k q H (by omega) (by omega)
    · cases h
  · injection h with h; subst h
    exact pure_any H (x4 m) (oh4 m) (o4 m) (c4 m) rfl (evF_mono (P := P) (T := T m) (show 200 ≤ k by omega) _ _ _ _ (up_ev m))
  · split at h
    · rename_i hl
      injection h with h; subst h
      exact count_ev m _ l k q H hl (by omega) (by omega)
    · cases h
end Go.Proofs.YtggoggdcnahkaaaDoor
