/- What op.Look answers. -/
import Derived.Test.YtggoggdcnahkaaaDoorGLook
import Derived.Test.YtggoggdcnahkaaaDoorMdA
set_option linter.unusedVariables false
set_option linter.unusedSimpArgs false
set_option maxRecDepth 100000
namespace Go.Proofs.YtggoggdcnahkaaaDoor
open Go Go.RowKit Go.Proofs
/-- A call that looks at no token answers the same beside other tokens. -/
theorem pure_any {T : Tab} {n : Nat} {f : FuncId} {fi : FnInfo} {args : List AV} {v : AV} (H : Heap) (hX : T.X f = none) (hOH : T.OH f = none) (hO : T.O f = none) (hC : T.C f = some fi) (hp : fi.pure = true) (h : evF P T n f args [] = some (v, [])) : evF P T n f args H = some (v, H) := by
  cases n with
  | zero => cases h
  | succ n =>
    rw [evF_call hX hOH hO] at h ⊢
    simp only [callL, hC, hp, if_true] at h ⊢
    split at h
    · rename_i hl
      rw [if_pos hl]
      split at h
      · cases h
      · rename_i bs hs
        split at h
        · cases h
        · cases h
        · rename_i hx
          split at h
          · cases h
          · rename_i vs hv
            simp only [Option.map_eq_some_iff, Prod.mk.injEq, and_true] at h
            obtain ⟨w, h1, rfl⟩ := h
            simp only [hv, h1, Option.map_some]
    · cases h
theorem made_ok (m : Int) {x : OpR} (hx : x ∈ bareL) : okM m x = true := by
  have hA := mdA m
  have hB := mdB m
  have hC := mdC m
  rw [List.all_eq_true] at hA hB hC
  have h1 : bareL = bareL.take 34 ++ ((bareL.drop 34).take 34 ++ bareL.drop 68) := by
    have : bareL.drop 68 = (bareL.drop 34).drop 34 := by rw [List.drop_drop]
    rw [this, List.take_append_drop, List.take_append_drop]
  rw [h1] at hx
  rcases List.mem_append.1 hx with h | h
  · exact hA x h
  · rcases List.mem_append.1 h with h | h
    · exact hB x h
    · exact hC x h
noncomputable def madeG (x : OpR) : Option OpR := if bareL.any (sameOp x) = true then madeF x else none
theorem madeG_ok (m : Int) {n : Nat} (hn : 60 ≤ n) (x r : OpR) (H : Heap) (h : madeG x = some r) : evF P (T m) n 40 [x.av] H = some (r.av, H) := by
  unfold madeG at h
  split at h
  · rename_i hc
    have hm : x ∈ bareL := by
      rw [List.any_eq_true] at hc
      obtain ⟨y, h1, h2⟩ := hc
      rw [sameOp_eq h2]; exact h1
    have := evF_mono (P := P) (T := T m) hn _ _ _ _ (okM_eq (made_ok m hm) h)
    exact pure_any H (x40 m) (oh40 m) (o40 m) (c40 m) rfl this
  · cases h
noncomputable def fieldsG (s : ByteArray) : Option (List ByteArray) := if rowNames.any (same s) = true then some (words s) else none
theorem fieldsG_ok (m : Int) {n : Nat} (hn : 1 ≤ n) (s : ByteArray) (r : List ByteArray) (H : Heap) (h : fieldsG s = some r) : evF P (T m) n 39 [.s (.string s)] H = some (.sl (r.map strAV) .ro, H) := by
  obtain ⟨k, rfl⟩ : ∃ k, n = k + 1 := ⟨n - 1, by omega⟩
  have hO : (T m).O 39 = some fieldsO := by kernel_rfl
  have hx : fieldsO [.s (.string s)] = some (.sl (r.map strAV) .ro) := by
    unfold fieldsG at h
    unfold fieldsO
    split at h
    · rename_i hc
      injection h with h
      simp only [hc, if_true, ← h]
    · cases h
  simp only [evF, callA, x39 m, oh39 m, hO, AV.shutL, AV.shut, hx, Option.map_some]
def floatG : Int → Option Bool := S37 0
theorem rows_ok (m : Int) {n : Nat} (hn : 60 ≤ n) (H : Heap) : evF P (T m) n 38 [] H = some (.sl (rowsL.map RowO.av) .ro, H) := by
  have key : evF P (T m) 60 38 [] [] = some (.sl (rowsL.map RowO.av) .ro, []) := by kernel_rfl
  exact pure_any H (x38 m) (oh38 m) (o38 m) (c38 m) rfl (evF_mono (P := P) (T := T m) hn _ _ _ _ key)
noncomputable def lookF (op : Int) : Option (OpR × Err) := S20 floatG madeG (some rowsL) fieldsG 60 op
theorem lookF_ok (m : Int) (op : Int) (r : OpR × Err) (H : Heap) (h : lookF op = some r) : evF P (T m) 61 20 [.s (.int .i64 op)] H = some (.tup [r.1.av, r.2.av], H) :=
  S20_ok floatG (fun a r H h => S37_ok (m := m) (n := 59) a r H h) madeG (fun x r H h => madeG_ok m (by omega) x r H h) (some rowsL) (fun r H h => by injection h with h; subst h; exact rows_ok m (by omega) H) fieldsG (fun s r H h => fieldsG_ok m (by omega) s r H h) op r H h
end Go.Proofs.YtggoggdcnahkaaaDoor
