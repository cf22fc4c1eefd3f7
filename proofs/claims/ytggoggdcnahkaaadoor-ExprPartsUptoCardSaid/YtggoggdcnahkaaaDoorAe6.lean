/- The evaluator's operations, held against the machine's (3): what makes rows. -/
import Derived.Test.YtggoggdcnahkaaaDoorAe5
import Derived.Deep.AppendSrc
import Derived.Laws.MakeOwn
import Derived.Laws.BytesArg
import Derived.Laws.AppendOwn
set_option linter.unusedVariables false
set_option linter.unusedSimpArgs false
namespace Go.Proofs.YtggoggdcnahkaaaDoor
open Go Go.RowKit

theorem foldPut : ∀ (vs : List Value) (off n : Nat) (arr : Array Value), off + n + vs.length ≤ arr.size →
    ((vs.zipIdx n).foldl (fun cs (x : Value × Nat) => cs.setIfInBounds (off + x.2) x.1) arr).toList = arr.toList.take (off + n) ++ vs ++ arr.toList.drop (off + n + vs.length)
  | [], off, n, arr, h => by simp
  | v :: vs, off, n, arr, h => by
    simp only [List.zipIdx_cons, List.foldl_cons]
    rw [foldPut vs off (n + 1) _ (by simp at h ⊢; omega)]
    simp only [Array.toList_setIfInBounds]
    simp at h
    apply List.ext_getElem?
    intro i
    simp only [List.getElem?_append, List.getElem?_take, List.getElem?_drop, List.getElem?_set, List.length_take, List.length_set, List.length_append, List.length_cons, Array.length_toList, List.getElem?_cons]
    rcases Nat.lt_trichotomy i (off + n) with hi | hi | hi
    · simp [show i < off + (n + 1) by omega, show i < off + n by omega, show off + n < arr.size by omega, show ¬ (off + n = i) by omega, show i < arr.size by omega, show i < min (off + (n + 1)) arr.size by omega, show i < min (off + n) arr.size by omega, show i < min (off + (n + 1)) arr.size + vs.length by omega, show i < min (off + n) arr.size + (vs.length + 1) by omega]
    · subst hi
      simp [show off + n < min (off + (n + 1)) arr.size by omega, show off + n < arr.size by omega, show off + n < off + (n + 1) by omega, show min (off + n) arr.size = off + n by omega, show off + n < min (off + (n + 1)) arr.size + vs.length by omega]
    · have e1 : min (off + (n + 1)) arr.size = off + (n + 1) := by omega
      have e2 : min (off + n) arr.size = off + n := by omega
      simp only [e1, e2]
      by_cases h2 : i < off + (n + 1) + vs.length
      · simp [h2, show ¬ i < off + (n + 1) by omega, show ¬ i < off + n by omega, show i < off + n + (vs.length + 1) by omega, show ¬ (i - (off + n) = 0) by omega]
        rw [show i - (off + (n + 1)) = i - (off + n) - 1 by omega]
      · simp [h2, show ¬ i < off + n + (vs.length + 1) by omega, show ¬ (off + n = off + (n + 1) + vs.length + (i - (off + (n + 1) + vs.length))) by omega]
        congr 1; omega

theorem fillCells (arr : Array Value) (off : Nat) (cs : Array Value) (h : off + cs.size ≤ arr.size) :
    (cs.zipIdx.foldl (fun a (x : Value × Nat) => a.setIfInBounds (off + x.2) x.1) arr).toList = arr.toList.take off ++ cs.toList ++ arr.toList.drop (off + cs.toList.length) := by
  have := foldPut cs.toList off 0 arr (by simpa using h)
  rw [← Array.foldl_toList, Array.toList_zipIdx]
  simpa using this

section
variable {P : Program} {base N : Nat} {R : Nat → Nat → Option Value} {K : KW} {H : Heap} {w : World} {o : Oper} {a : Act} {env : Env} {r : AV}

theorem fill_ok (he : EnvRel K N env a) (ps : List (Nat × Nat)) : ∀ (parts : List (Nat × Operand)) (l : List (Nat × AV)) (cs cs' : List AV) (arr : Array Value), partsA env parts = some l → RelL K cs arr.toList → (∀ u ∈ arr.toList, u.oneCell' = true) → fillA ps cs l = some cs' →
    ∃ arr', Instr.fill (fun i => ps[i]?) arr (parts.map fun x => (x.1, a.eval x.2)) = some arr' ∧ RelL K cs' arr'.toList ∧ ∀ u ∈ arr'.toList, u.oneCell' = true
  | [], l, cs, cs', arr, hp, hr, ho, hf => by
    simp only [partsA] at hp; injection hp with hp; subst hp
    simp only [fillA] at hf; injection hf with hf; subst hf
    exact ⟨arr, rfl, hr, ho⟩
  | (i, x) :: parts, l, cs, cs', arr, hp, hr, ho, hf => by
    simp only [partsA] at hp
    split at hp
    · rename_i y ys h1 h2
      injection hp with hp; subst hp
      simp only [fillA] at hf
      split at hf
      · rename_i off n hps
        split at hf
        · rename_i hc
          obtain ⟨c1, c2⟩ := Rel_cells (valA_rel he h1) hc.2.1
          have hl := RelL_length hr
          have hv := RelL_length c1
          have hsz : (a.eval x).cells.size = n := by simp at hv; omega
          have hfit : off + (a.eval x).cells.size ≤ arr.size := by simp at hl; omega
          have hcells := fillCells arr off (a.eval x).cells hfit
          obtain ⟨arr', e1, e2, e3⟩ := fill_ok he ps parts ys (putCells cs off y.cells) cs' ((a.eval x).cells.zipIdx.foldl (fun a (x : Value × Nat) => a.setIfInBounds (off + x.2) x.1) arr) h2
            (by rw [hcells]; unfold putCells; rw [show y.cells.length = (a.eval x).cells.toList.length by omega]; exact RelL_append (RelL_append (RelL_take hr _) c1) (RelL_drop hr _))
            (by rw [hcells]; intro u hu; simp only [List.mem_append] at hu; rcases hu with (hu | hu) | hu
                · exact ho u (List.mem_of_mem_take hu)
                · exact c2 u hu
                · exact ho u (List.mem_of_mem_drop hu)) hf
          refine ⟨arr', ?_, e2, e3⟩
          simp only [List.map_cons, Instr.fill]
          simp only [hps, hsz]
          rw [if_neg (by simp; omega)]
          exact e1
        · cases hf
      · cases hf
    · cases hp

theorem run_places : ∀ (fs : List Field) (ps : List (Nat × Nat)), (fs.mapM fun f => (szT P f.type).map fun n => (f.offset, n)) = some ps →
    (fs.mapM fun f => do pure (f.offset, ← sizeOf f.type) : Sem (List (Nat × Nat))).run P w = .ok ps w
  | [], ps, h => by simp at h; subst h; simp
  | f :: fs, ps, h => by
    simp only [List.mapM_cons, Option.bind_eq_bind, Option.bind_eq_some_iff, Option.map_eq_some_iff, Option.pure_def, Option.some.injEq] at h
    obtain ⟨q, ⟨n, hn, rfl⟩, qs, hqs, rfl⟩ := h
    have ih := run_places fs qs hqs
    simp [List.mapM_cons, run_sizeOf hn]
    simp at ih
    simp [ih]

theorem do_build (hw : WR base R K H w) (he : EnvRel K N env a) {t : TypeId} {parts : Array (Nat × Operand)} {zs cs : List AV} {ps : List (Nat × Nat)} {l : List (Nat × AV)} (hop : o.op = .build t parts)
    (hz : (zeroT P t).bind constAV = some (.agg zs)) (hps : placesT P t = some ps) (hl : partsA env parts.toList = some l) (hf : fillA ps zs l = some cs) : Does P base R K w o a (.agg cs) H := by
  rw [Option.bind_eq_some_iff] at hz
  obtain ⟨z, hzt, hz⟩ := hz
  obtain ⟨i, hi, hzi⟩ := zeroT_info hzt
  have hzr := constAV_rel (K := K) hz
  obtain ⟨c1, c2⟩ := Rel_cells hzr rfl
  obtain ⟨arr', e1, e2, e3⟩ := fill_ok he ps parts.toList l zs cs z.cells hl c1 c2 hf
  unfold placesT at hps
  split at hps
  · rename_i fs hfs
    have hpl := run_places (P := P) (w := w) fs.toList ps hps
    refine Does.val hw (v := .agg arr') ?_ (by simp only [Rel]; exact ⟨arr'.toList, by simp, e2, e3⟩)
    have hm : (fs.mapM fun f => do pure (f.offset, ← sizeOf f.type) : Sem (Array (Nat × Nat))).run P w = .ok ps.toArray w := by
      rw [show fs = fs.toList.toArray by simp, List.mapM_toArray, Sem.run_map, hpl]; rfl
    have hparts : (parts.map fun (i, x) => (i, a.eval x)).toList = parts.toList.map fun x => (x.1, a.eval x.2) := by simp
    simp only [execOp, hop, Instr.build, Sem.run_bind, zeroValue, typeInfo, hi, hzi, Result.andThen_ok, run_underlying hfs, Sem.run_pure, run_program, hm, hparts, List.getElem?_toArray, e1]
  · cases hps

/-- A row of one's own making, which is never written again. -/
theorem OpPost.newRow (hw : WR base R K H w) {xs : List AV} {vs : List Value} {sz : Nat} (T : TypeId) (arr : Array Value) (h1 : RelL K xs vs) (hwd : widths sz xs = true) (hflat : ∀ (j : Nat) (u : Value), (vs.flatMap fun v => v.cells.toList)[j]? = some u → arr[j]? = some u)
    (p : Prov) (c : Nat) (hc : xs.length ≤ c) (hp : p = .ro ∨ p = .full ∧ c = xs.length) : OpPost base R K w (.sl xs p) H (.slice (some ⟨w.heap.size, 0, none⟩) xs.length c) (w.alloc (.cells arr T)) := by
  obtain ⟨hle, hw1⟩ := hw.alloc arr T (0, 0) (fun o => (vs.flatMap fun v => v.cells.toList)[o]?) arr.size hflat (Nat.le_refl _)
  refine ⟨_, hle, hw1, (Below.refl _ _).alloc hw.size _, ?_⟩
  simp only [Rel]
  refine ⟨_, c, sz, rfl, hc, ?_, .inr ⟨w.heap.size, 0, rfl, RelE_flat (RelL.mono hle _ _ h1) hwd fun j u hu => by simpa [KW.addBlk] using hu⟩⟩
  rcases hp with rfl | ⟨rfl, hc'⟩
  · trivial
  · exact hc'

theorem flat_length : ∀ {xs : List AV} {vs : List Value} {sz : Nat}, RelL K xs vs → widths sz xs = true → (vs.flatMap fun v => v.cells.toList).length = xs.length * sz
  | [], vs, sz, h, hw => by simp only [RelL] at h; subst h; simp
  | x :: xs, vs, sz, h, hw => by
    simp only [RelL] at h
    obtain ⟨u, us, rfl, h1, h2⟩ := h
    simp [widths] at hw
    obtain ⟨⟨hw1, hw2⟩, hw3⟩ := hw
    have := flat_length h2 (sz := sz) (by simpa [widths] using hw3)
    have hl := RelL_length (Rel_cells h1 hw2).1
    simp [List.flatMap_cons, this, Nat.succ_mul] at hl ⊢
    omega

theorem fillRow_ok (he : EnvRel K N env a) (sz : Nat) : ∀ (parts : List (Nat × Operand)) (l : List (Nat × AV)) (i : Nat) (xs : List AV) (arr : Array Value), partsA env parts = some l → inOrder i l = some xs → widths sz xs = true → (i + xs.length) * sz ≤ arr.size →
    ∃ arr', Instr.fill (fun i => some (i * sz, sz)) arr (parts.map fun x => (x.1, a.eval x.2)) = some arr' ∧ arr'.size = arr.size ∧ RelL K xs (parts.map fun x => a.eval x.2) ∧
      arr'.toList = arr.toList.take (i * sz) ++ ((parts.map fun x => a.eval x.2).flatMap fun v => v.cells.toList) ++ arr.toList.drop ((i + xs.length) * sz)
  | [], l, i, xs, arr, hp, ho, hwd, hs => by
    simp only [partsA] at hp; injection hp with hp; subst hp
    simp only [inOrder] at ho; injection ho with ho; subst ho
    exact ⟨arr, rfl, rfl, by simp [RelL], by simp⟩
  | (j, x) :: parts, l, i, xs, arr, hp, ho, hwd, hs => by
    simp only [partsA] at hp
    split at hp
    · rename_i y ys h1 h2
      injection hp with hp; subst hp
      simp only [inOrder] at ho
      split at ho
      · rename_i hji
        subst hji
        rw [Option.map_eq_some_iff] at ho
        obtain ⟨zs, hz, rfl⟩ := ho
        simp [widths] at hwd
        obtain ⟨⟨hw1, hw2⟩, hw3⟩ := hwd
        obtain ⟨c1, c2⟩ := Rel_cells (valA_rel he h1) hw2
        have hv := RelL_length c1
        have hsz : (a.eval x).cells.size = sz := by simp at hv; omega
        have hs' : (j + 1 + zs.length) * sz ≤ arr.size := by rw [show j + 1 + zs.length = j + (y :: zs).length by simp; omega]; exact hs
        have hj1 : (j + 1) * sz ≤ arr.size := Nat.le_trans (Nat.mul_le_mul_right _ (by omega)) hs'
        have hfit : j * sz + (a.eval x).cells.size ≤ arr.size := by rw [hsz, ← Nat.succ_mul]; exact hj1
        have hcells := fillCells arr (j * sz) (a.eval x).cells hfit
        have hsize : ((a.eval x).cells.zipIdx.foldl (fun a (x : Value × Nat) => a.setIfInBounds (j * sz + x.2) x.1) arr).size = arr.size := by
          have := congrArg List.length hcells
          rw [Array.length_toList] at this
          rw [this]
          have hj2 := hj1
          rw [Nat.succ_mul] at hj2
          simp [hsz]
          omega
        obtain ⟨arr', e1, e2, e3, e4⟩ := fillRow_ok he sz parts ys (j + 1) zs ((a.eval x).cells.zipIdx.foldl (fun a (x : Value × Nat) => a.setIfInBounds (j * sz + x.2) x.1) arr) h2 hz (by simpa [widths] using hw3) (by rw [hsize]; exact hs')
        refine ⟨arr', ?_, by rw [e2, hsize], by simp only [List.map_cons, RelL]; exact ⟨_, _, rfl, valA_rel he h1, e3⟩, ?_⟩
        · simp only [List.map_cons, Instr.fill, hsz]
          rw [if_neg (by simp; rw [← Nat.succ_mul]; exact hj1)]
          exact e1
        · rw [e4, hcells]
          have t1 : (j + 1) * sz = j * sz + (a.eval x).cells.toList.length := by simp [hsz, Nat.succ_mul]
          have hlt : (arr.toList.take (j * sz)).length = j * sz := by
            have : j * sz ≤ arr.size := by rw [Nat.succ_mul] at hj1; omega
            simp; omega
          have t2 : (arr.toList.take (j * sz) ++ (a.eval x).cells.toList ++ arr.toList.drop (j * sz + (a.eval x).cells.toList.length)).take ((j + 1) * sz) = arr.toList.take (j * sz) ++ (a.eval x).cells.toList := by
            rw [List.take_append_of_le_length (by rw [List.length_append, hlt]; omega)]
            exact List.take_of_length_le (by rw [List.length_append, hlt]; omega)
          have t3 : (arr.toList.take (j * sz) ++ (a.eval x).cells.toList ++ arr.toList.drop (j * sz + (a.eval x).cells.toList.length)).drop ((j + 1 + zs.length) * sz) = arr.toList.drop ((j + (y :: zs).length) * sz) := by
            have hge : (j + 1) * sz ≤ (j + 1 + zs.length) * sz := Nat.mul_le_mul_right _ (by omega)
            rw [List.drop_append, List.drop_eq_nil_of_le (by rw [List.length_append, hlt]; omega), List.nil_append, List.drop_drop]
            congr 1
            rw [List.length_append, hlt]
            rw [show j + (y :: zs).length = j + 1 + zs.length by simp; omega]
            omega
          rw [t2, t3]
          simp [List.flatMap_cons]
      · cases ho
    · cases hp

theorem do_buildSlice (hw : WR base R K H w) (he : EnvRel K N env a) {t e : TypeId} {n sz : Nat} {z : Value} {parts : Array (Nat × Operand)} {l : List (Nat × AV)} {xs : List AV} (hop : o.op = .buildSlice t n parts) (ht : elT P t = some e)
    (hl : partsA env parts.toList = some l) (hs : szT P e = some sz) (hz : zeroT P e = some z) (hx : inOrder 0 l = some xs) (hc : xs.length = n ∧ widths sz xs = true ∧ n * sz ≤ 16777216 ∧ z.cells.size = sz) : Does P base R K w o a (.sl xs .full) H := by
  obtain ⟨hn, hwd, hlim, hzs⟩ := hc
  obtain ⟨i, hi, hzi⟩ := zeroT_info hz
  subst hn
  generalize harr0 : ((Array.range (xs.length * sz)).map fun k => (if xs.length * sz = 0 then (#[] : Array Value) else z.cells)[k % (if xs.length * sz = 0 then (#[] : Array Value) else z.cells).size]!) = arr0
  have hsize0 : arr0.size = xs.length * sz := by rw [← harr0]; simp
  obtain ⟨arr', e1, e2, e3, e4⟩ := fillRow_ok he sz parts.toList l 0 xs arr0 hl hx hwd (by rw [hsize0]; simp)
  have hparts : (parts.map fun (i, x) => (i, a.eval x)).toList = parts.toList.map fun x => (x.1, a.eval x.2) := by simp
  refine .inl ⟨.slice (some ⟨w.heap.size, 0, none⟩) xs.length xs.length, _, ?_, OpPost.newRow hw e arr' e3 hwd (fun j u hu => ?_) .full xs.length (Nat.le_refl _) (.inr ⟨rfl, rfl⟩)⟩
  · have hlim' : ¬ (xs.length * sz > 2 ^ 24) := by omega
    simp only [execOp, hop, Instr.buildSlice, Sem.run_bind, run_underlying (elT_under ht), Result.andThen_ok, run_sizeOf hs]
    rw [if_neg hlim']
    by_cases h0 : xs.length * sz = 0
    · rw [if_pos h0]
      rw [if_pos h0] at harr0
      simp only [Sem.run_bind, Sem.run_pure, Result.andThen_ok, hparts, harr0, e1]
      simp [newRow]
    · rw [if_neg h0]
      rw [if_neg h0] at harr0
      have hzv : (zeroValue e).run P w = .ok z w := by simp [zeroValue, typeInfo, hi, hzi]
      simp only [Sem.run_bind, hzv, Sem.run_pure, Result.andThen_ok, hparts, harr0, e1]
      simp [newRow]
  · have : arr'.toList = (parts.toList.map fun x => a.eval x.2).flatMap fun v => v.cells.toList := by
      rw [e4]; simp [hsize0]
    rw [← Array.getElem?_toList, this]; exact hu
end
end Go.Proofs.YtggoggdcnahkaaaDoor
