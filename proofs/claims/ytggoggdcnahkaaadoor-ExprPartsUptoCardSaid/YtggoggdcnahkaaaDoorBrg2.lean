/- An instruction list as a row's form reads it. -/
import Derived.Test.YtggoggdcnahkaaaDoorBrg
import Derived.Test.YtggoggdcnahkaaaDoorNice1
set_option linter.unusedVariables false
set_option maxRecDepth 100000
namespace Go.Proofs.YtggoggdcnahkaaaDoor
open Go Go.RowKit Go.Proofs Go.ChangeShapes
open Go.Proofs.YtggoggdcnahkaaaDoor.Rows (uptoBulk uptoBulkAll)
/-- A struct's field: its type, where it lies, of how many cells. -/
def fieldAt (P : Program) (t : TypeId) (i : Nat) : Option (TypeId × Nat × Nat) := match P.underlying t with
  | some (.struct fs) => (fs[i]?).map fun f => (f.type, f.offset, P.cellsOf f.type)
  | _ => none
def fieldsOf (P : Program) (t : TypeId) : Option Nat := match P.underlying t with
  | some (.struct fs) => some fs.size
  | _ => none
section
variable {H : Type} {enc : TypeId × Value → H} {P : Program} {w : World}
theorem struct_of {t : TypeId} {m k n : Nat} {cs : List Value} {x : DataW H × List MemPlace} (hn : fieldsOf P t = some m) (hk : P.cellsOf t = k) (h : DataW.trod enc P w 0 (fun _ => true) true n t cs = some x) :
    ∃ (xs : List (DataW H × List MemPlace)) (n' : Nat), n = n' + 1 ∧ x.1 = .agg (xs.map (·.1)) ∧ cs.length = k ∧ xs.length = m ∧ ∀ i ty off c, fieldAt P t i = some (ty, off, c) → DataW.trod enc P w 0 (fun _ => true) true n' ty ((cs.drop off).take c) = xs[i]? := by
  unfold fieldsOf at hn
  split at hn
  · rename_i fs hfs
    injection hn with hn
    obtain ⟨xs, n', e1, e2, e3, e4, e5⟩ := DataW.trod_struct hfs h
    refine ⟨xs, n', e1, by rw [e2], by omega, by omega, fun i ty off c hf => ?_⟩
    unfold fieldAt at hf
    rw [hfs] at hf
    simp only [Option.map_eq_some_iff] at hf
    obtain ⟨f, hf, he⟩ := hf
    injection he with q1 he; injection he with q2 q3
    subst q1 q2 q3
    exact e5 i f hf
  · cases hn
theorem elem_one {K : KW} {a : AV} {v : Value} (h : ElemAt K 1 a [v]) (ha : a.cells = [a]) : Rel K a v ∧ v.oneCell' = true := by
  obtain ⟨h1, h2, _⟩ := h
  rw [ha] at h1
  simp only [RelL] at h1
  obtain ⟨u, us, e, hu, _⟩ := h1
  injection e with e _; subst e
  exact ⟨hu, h2 v (List.mem_singleton.2 rfl)⟩
theorem trod_pos {n : Nat} {t : TypeId} {cs : List Value} {x : DataW H × List MemPlace} (h : DataW.trod enc P w 0 (fun _ => true) true n t cs = some x) : ∃ k, n = k + 1 := by
  cases n with
  | zero => simp [DataW.trod] at h
  | succ k => exact ⟨k, rfl⟩
end
theorem list9 {α : Type} {l : List α} (h : l.length = 9) : ∃ a b c d e f g i j, l = [a, b, c, d, e, f, g, i, j] := by
  match l, h with
  | [a, b, c, d, e, f, g, i, j], _ => exact ⟨a, b, c, d, e, f, g, i, j, rfl⟩
theorem sum_one (l : List Int) : (l.map fun _ => 1).sum = l.length := by
  induction l with
  | nil => rfl
  | cons x l ih => simp [ih]; omega
theorem szL_sum (l : List Ins) : (l.map Ins.sz).sum = szL l := by
  induction l with
  | nil => rfl
  | cons x l ih => simp only [List.map_cons, List.sum_cons, ih, szL]
section
variable {H : Type} {enc : TypeId × Value → H} {w : World} {K : KW}
theorem ints_of (hK : ∀ b o v, w.cell? ⟨b, o, none⟩ = some v → K.pc b o = some v) {n : Nat} {cs : List Value} {x : DataW H × List MemPlace} (h : DataW.trod enc P w 0 (fun _ => true) true n 33 cs = some x) :
    ∃ l : List Int, ElemAt K 1 (.sl (l.map intAV) .ro) cs ∧ l.length + 1 ≤ uptoBulk x.1 := by
  obtain ⟨k, rfl⟩ := trod_pos h
  obtain ⟨l, h1, h2⟩ := slice_of (P := P) intAV (fun _ => 1) hK Tryd.underlying33 (show P.cellsOf 3 = 1 by kernel_rfl) (by omega) (fun cs x h => int_of (K := K) Tryd.underlying3 h) h
  exact ⟨l, h1, by rw [sum_one] at h2; exact h2⟩
theorem ins_of (hK : ∀ b o v, w.cell? ⟨b, o, none⟩ = some v → K.pc b o = some v) : ∀ (n : Nat) (cs : List Value) (x : DataW H × List MemPlace), DataW.trod enc P w 0 (fun _ => true) true n 35 cs = some x → ∃ i : Ins, ElemAt K 9 i.av cs ∧ i.sz ≤ uptoBulk x.1
  | n, cs, x, h => by
    obtain ⟨xs, n', rfl, hx, hl, hxl, hf⟩ := struct_of (P := P) (m := 9) (k := 9) (by kernel_rfl) (by kernel_rfl) h
    obtain ⟨c0, c1, c2, c3, c4, c5, c6, c7, c8, rfl⟩ := list9 hl
    obtain ⟨x0, x1, x2, x3, x4, x5, x6, x7, x8, rfl⟩ := list9 hxl
    have f0 := hf 0 3 0 1 (by kernel_rfl)
    have f1 := hf 1 3 1 1 (by kernel_rfl)
    have f2 := hf 2 3 2 1 (by kernel_rfl)
    have f3 := hf 3 32 3 1 (by kernel_rfl)
    have f4 := hf 4 3 4 1 (by kernel_rfl)
    have f5 := hf 5 33 5 1 (by kernel_rfl)
    have f6 := hf 6 22 6 1 (by kernel_rfl)
    have f7 := hf 7 22 7 1 (by kernel_rfl)
    have f8 := hf 8 4 8 1 (by kernel_rfl)
    obtain ⟨z0, e0, _⟩ := int_of (K := K) (P := P) Tryd.underlying3 f0
    obtain ⟨z1, e1, _⟩ := int_of (K := K) (P := P) Tryd.underlying3 f1
    obtain ⟨z2, e2, _⟩ := int_of (K := K) (P := P) Tryd.underlying3 f2
    obtain ⟨z3, e3, _⟩ := int_of (K := K) (P := P) Tryd.underlying32 f3
    obtain ⟨z4, e4, _⟩ := int_of (K := K) (P := P) Tryd.underlying3 f4
    obtain ⟨l5, e5, b5⟩ := ints_of hK f5
    obtain ⟨z8, e8, _⟩ := bool_of (K := K) (P := P) Tryd.underlying4 f8
    obtain ⟨k, rfl⟩ := trod_pos f6
    obtain ⟨l6, e6, b6⟩ := slice_of (P := P) Ins.av Ins.sz hK Tryd.underlying22 (show P.cellsOf 35 = 9 by kernel_rfl) (by omega) (ins_of hK k) f6
    obtain ⟨l7, e7, b7⟩ := slice_of (P := P) Ins.av Ins.sz hK Tryd.underlying22 (show P.cellsOf 35 = 9 by kernel_rfl) (by omega) (ins_of hK k) f7
    rw [szL_sum] at b6 b7
    obtain ⟨r0, o0⟩ := elem_one e0 rfl
    obtain ⟨r1, o1⟩ := elem_one e1 rfl
    obtain ⟨r2, o2⟩ := elem_one e2 rfl
    obtain ⟨r3, o3⟩ := elem_one e3 rfl
    obtain ⟨r4, o4⟩ := elem_one e4 rfl
    obtain ⟨r5, o5⟩ := elem_one e5 rfl
    obtain ⟨r6, o6⟩ := elem_one e6 rfl
    obtain ⟨r7, o7⟩ := elem_one e7 rfl
    obtain ⟨r8, o8⟩ := elem_one e8 rfl
    rw [← insAVs_map] at r6 r7
    refine ⟨.mk z0 z1 z2 z3 z4 l5 l6 l7 z8, ⟨?_, ?_, rfl⟩, ?_⟩
    · simp only [Ins.av, AV.cells, RelL]
      exact ⟨_, _, rfl, r0, _, _, rfl, r1, _, _, rfl, r2, _, _, rfl, r3, _, _, rfl, r4, _, _, rfl, r5, _, _, rfl, r6, _, _, rfl, r7, _, _, rfl, r8, rfl⟩
    · intro u hu
      simp only [List.mem_cons, List.not_mem_nil, or_false] at hu
      rcases hu with rfl | rfl | rfl | rfl | rfl | rfl | rfl | rfl | rfl <;> assumption
    · rw [hx]
      simp only [List.map_cons, List.map_nil, uptoBulk, uptoBulkAll, Ins.sz]
      omega
  termination_by n => n
theorem insL_of (hK : ∀ b o v, w.cell? ⟨b, o, none⟩ = some v → K.pc b o = some v) {v : Value} {d : DataW H} {ps : List MemPlace} (hv : v.cells.toList = [v]) (h : DataW.Trod enc P w 0 (fun _ => true) true 22 v d ps) :
    ∃ l : List Ins, Rel K (.sl (insAVs l) .ro) v ∧ szL l + 1 ≤ uptoBulk d := by
  obtain ⟨n, hn⟩ := h
  obtain ⟨k, rfl⟩ := trod_pos hn
  rw [hv] at hn
  obtain ⟨l, e, b⟩ := slice_of (P := P) Ins.av Ins.sz hK Tryd.underlying22 (show P.cellsOf 35 = 9 by kernel_rfl) (by omega) (ins_of hK k) hn
  rw [szL_sum] at b
  obtain ⟨r, _⟩ := elem_one e rfl
  rw [← insAVs_map] at r
  exact ⟨l, r, b⟩
end
end Go.Proofs.YtggoggdcnahkaaaDoor
