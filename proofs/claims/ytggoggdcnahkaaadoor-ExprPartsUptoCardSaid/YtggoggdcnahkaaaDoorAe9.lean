/- The evaluator's operations, held against the machine's (6): append, calls; all of them. -/
import Derived.Test.YtggoggdcnahkaaaDoorAe8
set_option linter.unusedVariables false
set_option linter.unusedSimpArgs false
namespace Go.Proofs.YtggoggdcnahkaaaDoor
open Go Go.RowKit

section
variable {P : Program} {base N : Nat} {R : Nat → Nat → Option Value} {K : KW} {H : Heap} {w : World} {o : Oper} {a : Act} {env : Env} {r : AV}

theorem size_zeroCells (z : Array Value) (n : Nat) : (Builtin.zeroCells z n).size = n * z.size := by simp [Builtin.zeroCells]

/-- There is no room: the row stands in a new block. -/
theorem append_grow (hw : WR base R K H w) {t tx ty e : TypeId} {i : TypeInfo} {z : Value} {sz bytes : Nat} (ht : P.underlying t = some (.slice e)) (hi : P.info? e = some i) (hz : i.zero = some z) (hsz : i.size = sz) (hby : i.bytes = bytes) (hb0 : 0 < bytes) (hzs : z.cells.size = sz)
    {A : Option Addr} {xs ys : List AV} {c : Nat} {v : Value} {news : List Value} (hx : xs = [] ∨ ∃ b q, A = some ⟨b, q, none⟩ ∧ RelE K b sz q xs) (hs : Src P sz tx v ys.length news w) (hn : News K ys sz news)
    (hroom : c < xs.length + ys.length) (hlim : (xs.length + ys.length) * bytes ≤ roomA) :
    ∃ (arr : Array Value) (cap : Nat), xs.length + ys.length ≤ cap ∧ cap * sz = arr.size ∧
      (Builtin.append_ #[t, tx] ty #[.slice A xs.length c, v]).run P w = .ok (.slice (some ⟨w.heap.size, 0, none⟩) (xs.length + ys.length) cap) (w.drew.alloc (.cells arr e)) ∧
      ∃ f, (∀ o, (xs.length + ys.length) * sz ≤ o → f o = none) ∧ K.le (K.addBlk w.heap.size f arr.size) ∧ WR base R (K.addBlk w.heap.size f arr.size) H (w.drew.alloc (.cells arr e)) ∧ RelE (K.addBlk w.heap.size f arr.size) w.heap.size sz 0 (xs ++ ys) := by
  subst hsz hby
  obtain ⟨olds, ho1, ho2, ho3⟩ : ∃ olds : List Value, olds.length = xs.length * i.size ∧ (Builtin.firstCells i.size xs.length (.slice A xs.length c)).run P w.drew = .ok olds.toArray w.drew ∧ News K xs i.size olds := by
    rcases hx with rfl | ⟨b, q, rfl, hr⟩
    · refine ⟨[], by simp, ?_, ⟨by simp, by simp, fun _ _ _ _ _ => by simp [RelE], by simp [RelL]⟩⟩
      cases A with
      | none => exact run_firstCells_none _ _ _ _ _
      | some ad => exact run_firstCells_some _ _ _ _ _ _ [] (by simp) (by simp)
    · obtain ⟨olds, e1, e2, e3⟩ := RelE_cells hr
      refine ⟨olds, e1, run_firstCells_some _ _ _ _ _ _ olds e1 (fun j u hu => by rw [add_lit]; exact hw.pcs _ _ _ (e2 j u hu)), ⟨e1, e3, fun K' b' o' hle h => RelE_move hle hr fun j v hj hv => ?_, RelE_flatRel hr e1 e2⟩⟩
      obtain ⟨u, hu⟩ : ∃ u, olds[j]? = some u := ⟨olds[j]'(by omega), List.getElem?_eq_getElem (by omega)⟩
      have := e2 j u hu
      rw [hv] at this; injection this with this; subst this
      exact h j _ hu
  unfold roomA at hlim
  have hle1 : xs.length + ys.length ≤ (xs.length + ys.length) * i.bytes := Nat.le_mul_of_pos_right _ hb0
  have hrun := run_append_grow_src w t tx ty e i z ht hi hz A xs.length c olds ho2 v ys.length news hs hroom (by omega) (growslice_fits hroom (by omega))
  have hcap := grownCap_ge w (xs.length + ys.length) c e
  have hnl := hn.len
  refine ⟨_, _, hcap, ?_, hrun, fun o => if o < (xs.length + ys.length) * i.size then (olds ++ news)[o]? else none, fun o ho => if_neg (by omega), ?_⟩
  · simp [size_zeroCells, hzs, ho1, hnl]
    rw [← Nat.add_mul, ← Nat.add_mul]
    congr 1; omega
  · have hw' : WR base R K H w.drew := hw.drawn _
    have hlen : (olds ++ news).length = (xs.length + ys.length) * i.size := by simp [ho1, hnl, Nat.add_mul]
    obtain ⟨hle, hw1⟩ := hw'.alloc ((olds ++ news).toArray ++ Builtin.zeroCells z.cells (grownCap w (xs.length + ys.length) c e - (xs.length + ys.length))) e (0, 0)
      (fun o => if o < (xs.length + ys.length) * i.size then (olds ++ news)[o]? else none) _ (fun o v hv => by
        split at hv
        · rename_i ho
          rw [Array.getElem?_append_left (by simp; simp at hlen; omega)]
          simpa using hv
        · cases hv) (Nat.le_refl _)
    refine ⟨hle, hw1, ?_⟩
    have key : ∀ j u, (olds ++ news)[j]? = some u → (K.addBlk w.heap.size (fun o => if o < (xs.length + ys.length) * i.size then (olds ++ news)[o]? else none) (((olds ++ news).toArray ++ Builtin.zeroCells z.cells (grownCap w (xs.length + ys.length) c e - (xs.length + ys.length))).size)).pc w.heap.size (0 + j) = some u := by
      intro j u hu
      have := (List.getElem?_eq_some_iff.1 hu).1
      simp only [KW.addBlk, if_true, Nat.zero_add]
      rw [if_pos (by omega)]; exact hu
    refine RelE_append (ho3.at_ _ _ _ hle fun j u hu => key j u ?_) (hn.at_ _ _ _ hle fun j u hu => ?_)
    · rw [List.getElem?_append_left (List.getElem?_eq_some_iff.1 hu).1]; exact hu
    · have := key (xs.length * i.size + j) u (by rw [List.getElem?_append_right (by omega), ho1, Nat.add_sub_cancel_left]; exact hu)
      rwa [← Nat.add_assoc] at this

/-- There is no room: the row stands in a new block, and will be written again. -/
theorem append_growB (hw : WR base R K H w) {t tx ty e : TypeId} {i : TypeInfo} {z : Value} {sz bytes : Nat} (ht : P.underlying t = some (.slice e)) (hi : P.info? e = some i) (hz : i.zero = some z) (hsz : i.size = sz) (hby : i.bytes = bytes) (hb0 : 0 < bytes) (hpos : 0 < sz) (hzs : z.cells.size = sz)
    {A : Option Addr} {n c : Nat} {csO ys : List AV} {v : Value} {olds news : List Value} (ho1 : olds.length = n * sz) (ho2 : (Builtin.firstCells sz n (.slice A n c)).run P w.drew = .ok olds.toArray w.drew) (ho3 : RelL K csO olds) (ho4 : ∀ u ∈ olds, u.oneCell' = true)
    (hs : Src P sz tx v ys.length news w) (hn : News K ys sz news) (hroom : c < n + ys.length) (hlim : (n + ys.length) * bytes ≤ roomA) :
    ∃ (arr : Array Value) (cap : Nat), n + ys.length ≤ cap ∧ cap * sz = arr.size ∧
      (Builtin.append_ #[t, tx] ty #[.slice A n c, v]).run P w = .ok (.slice (some ⟨w.heap.size, 0, none⟩) (n + ys.length) cap) (w.drew.alloc (.cells arr e)) ∧
      K.le (K.addBlk w.heap.size (fun _ => none) arr.size) ∧ WR base R (K.addBlk w.heap.size (fun _ => none) arr.size) H (w.drew.alloc (.cells arr e)) ∧
      ∀ m, RecAt (K.addBlk w.heap.size (fun _ => none) arr.size) (w.drew.alloc (.cells arr e)) w.heap.size sz m (.buf m (csO ++ ys.flatMap AV.cells) sz) := by
  subst hsz hby
  unfold roomA at hlim
  have hle1 : n + ys.length ≤ (n + ys.length) * i.bytes := Nat.le_mul_of_pos_right _ hb0
  have hrun := run_append_grow_src w t tx ty e i z ht hi hz A n c olds ho2 v ys.length news hs hroom (by omega) (growslice_fits hroom (by omega))
  have hcap := grownCap_ge w (n + ys.length) c e
  have hnl := hn.len
  have hw' : WR base R K H w.drew := hw.drawn _
  have hlen : (olds ++ news).length = (n + ys.length) * i.size := by simp [ho1, hnl, Nat.add_mul]
  have hcl : (csO ++ ys.flatMap AV.cells).length = (olds ++ news).length := (RelL_length (RelL_append ho3 hn.flat)).symm
  obtain ⟨hle, hw1⟩ := hw'.alloc ((olds ++ news).toArray ++ Builtin.zeroCells z.cells (grownCap w (n + ys.length) c e - (n + ys.length))) e (0, 0) (fun _ => none) _ (fun o v hv => by cases hv) (Nat.le_refl _)
  have htake : (((olds ++ news).toArray ++ Builtin.zeroCells z.cells (grownCap w (n + ys.length) c e - (n + ys.length))).toList.take (csO ++ ys.flatMap AV.cells).length) = olds ++ news := by
    rw [hcl, Array.toList_append, List.toList_toArray, List.take_left']
    rfl
  refine ⟨_, _, hcap, ?_, hrun, hle, hw1, fun m => ⟨rfl, rfl, hpos, _, e, heap_alloc_new w.drew _, ?_, ?_, ?_, fun o => by simp [KW.addBlk]⟩⟩
  · simp [size_zeroCells, hzs, ho1, hnl]
    rw [← Nat.add_mul, ← Nat.add_mul]
    congr 1; omega
  · rw [hcl]; simp
  · rw [htake]; exact RelL.mono hle _ _ (RelL_append ho3 hn.flat)
  · rw [htake]
    intro u hu
    rcases List.mem_append.1 hu with hu | hu
    · exact ho4 u hu
    · exact hn.one u hu

/-- What is appended to a row that is written again. -/
theorem append_okB (hw : WR base R K H w) {t tx ty e : TypeId} {i : TypeInfo} {z : Value} {sz bytes : Nat} (ht : P.underlying t = some (.slice e)) (hi : P.info? e = some i) (hz : i.zero = some z) (hsz : i.size = sz) (hby : i.bytes = bytes) (hb0 : 0 < bytes) (hpos : 0 < sz) (hzs : z.cells.size = sz)
    {τ ep n : Nat} {cs ys : List AV} {u v : Value} {news : List Value} (hx : Rel K (.bs τ ep sz 0 n) u) (hτ : H[τ]? = some (.buf ep cs sz)) (hle : n * sz ≤ cs.length) (hsrc : Src P sz tx v ys.length news w) (hn : News K ys sz news) (hlim : (n + ys.length) * bytes ≤ roomA) :
    ∃ v' w', (Builtin.append_ #[t, tx] ty #[u, v]).run P w = .ok v' w' ∧ OpPost base R K w (.bs τ (ep + 1) sz 0 (n + ys.length)) (H.set τ (.buf (ep + 1) (cs.take (n * sz) ++ ys.flatMap AV.cells) sz)) v' w' := by
  simp only [Rel] at hx
  obtain ⟨g, m, A, c, hl, _, hem, rfl, hcap, h6, h7⟩ := hx
  obtain ⟨hbg, e0, e1, _, arr, T, hg, hsz', hr, ho, hpc⟩ := hw.tok hτ hl
  subst e1
  obtain ⟨rm, hrm, hcr⟩ := h7 rfl
  obtain ⟨arr0, T0, fr0, hg0, hrs⟩ := hw.rms g rm hrm
  rw [hg] at hg0; injection hg0 with hg0; injection hg0 with hg0 _ _; subst hg0
  have hnl := hn.len
  have hrl := RelL_length hr
  by_cases hy : ys = []
  · subst hy
    have hnews : news = [] := List.eq_nil_of_length_eq_zero (by simpa using hn.len)
    subst hnews
    refine ⟨_, _, run_append_none w t tx ty e i ht hi _ n c v (by rw [hsz]; exact hsrc) hcap, ?_⟩
    have hrec : RecAt K w g sz (ep + 1) (.buf (ep + 1) (cs.take (n * sz)) sz) := by
      have ht : arr.toList.take (cs.take (n * sz)).length = (arr.toList.take cs.length).take (n * sz) := by
        rw [List.take_take, List.length_take]
      refine ⟨rfl, rfl, hpos, arr, T, hg, by simp; omega, by rw [ht]; exact RelL_take hr _, ?_, hpc⟩
      rw [ht]; exact fun u hu => ho u (List.mem_of_mem_take hu)
    obtain ⟨k1, k2⟩ := hw.moveTok hτ hl hpos (Nat.lt_succ_self ep) hbg hrec (fun t x h => hw.inj _ _ _ _ _ h hl)
    refine ⟨_, k1, by simpa using k2, Below.refl _ _, ?_⟩
    simp only [Rel]
    exact ⟨g, ep + 1, A, c, by simp [KW.addLoc], hpos, Nat.le_refl _, by simp, by simpa using hcap, h6.imp id fun ⟨b, q, hA, hbq⟩ => ⟨b, q, hA, fun _ => hbq rfl⟩, fun _ => ⟨rm, hrm, hcr⟩⟩
  · have hylen : 0 < ys.length := by
      cases ys with
      | nil => exact absurd rfl hy
      | cons y ys => simp
    by_cases hroom : n + ys.length ≤ c
    · rcases h6 with h6 | ⟨b, q, rfl, h6⟩
      · omega
      · obtain ⟨rfl, rfl⟩ := h6 rfl
        have hfit : (n + ys.length) * sz ≤ arr.size := Nat.le_trans (Nat.mul_le_mul_right _ hroom) (by rw [Nat.zero_add] at hcr; omega)
        rw [Nat.add_mul] at hfit
        simp only [Nat.zero_mul] at h7 ⊢
        have hrun := run_append_row w t tx ty e i ht hi b n c arr T v ys.length news (by rw [hsz]; exact hsrc) hroom hg (by rw [hsz, hnl]; exact hfit)
        rw [hsz] at hrun
        generalize harr : (arr.toList.take (n * sz) ++ news ++ arr.toList.drop (n * sz + news.length)).toArray = arr' at hrun
        have hal : arr'.size = arr.size := by rw [← harr]; simp; omega
        have hfl := RelL_length hn.flat
        have hcl : (cs.take (n * sz) ++ ys.flatMap AV.cells).length = n * sz + news.length := by simp only [List.length_append, List.length_take]; omega
        have htake : arr'.toList.take (cs.take (n * sz) ++ ys.flatMap AV.cells).length = arr.toList.take (n * sz) ++ news := by
          rw [hcl, ← harr]
          rw [List.toList_toArray, List.take_append_of_le_length (by simp; omega)]
          exact List.take_of_length_le (by simp; omega)
        have hrel : RelL K (cs.take (n * sz) ++ ys.flatMap AV.cells) (arr'.toList.take (cs.take (n * sz) ++ ys.flatMap AV.cells).length) := by
          rw [htake]
          refine RelL_append ?_ hn.flat
          have := RelL_take hr (n * sz)
          rwa [List.take_take, Nat.min_eq_left hle] at this
        have hone : ∀ u ∈ arr'.toList.take (cs.take (n * sz) ++ ys.flatMap AV.cells).length, u.oneCell' = true := by
          rw [htake]
          intro u hu
          rcases List.mem_append.1 hu with hu | hu
          · refine ho u ?_
            have : arr.toList.take (n * sz) = (arr.toList.take cs.length).take (n * sz) := by rw [List.take_take, Nat.min_eq_left hle]
            rw [this] at hu
            exact List.mem_of_mem_take hu
          · exact hn.one u hu
        have hw1 := hw.setBuf hτ hl hg (by rw [hcl]; omega) hrel hone (by omega)
        have hτ1 : (H.set τ (.buf ep (cs.take (n * sz) ++ ys.flatMap AV.cells) sz))[τ]? = some (.buf ep (cs.take (n * sz) ++ ys.flatMap AV.cells) sz) := by
          rw [List.getElem?_set_self (List.getElem?_eq_some_iff.1 hτ).1]
        obtain ⟨_, _, _, _, arr2, T2, hg2, q1, q2, q3, q4⟩ := hw1.tok hτ1 hl
        obtain ⟨k1, k2⟩ := hw1.moveTok hτ1 hl hpos (Nat.lt_succ_self ep) hbg (r := .buf (ep + 1) (cs.take (n * sz) ++ ys.flatMap AV.cells) sz) ⟨rfl, rfl, hpos, arr2, T2, hg2, q1, q2, q3, q4⟩ (fun t x h => hw.inj _ _ _ _ _ h hl)
        rw [List.set_set] at k2
        refine ⟨_, _, hrun, _, k1, k2, ⟨rfl, rfl, rfl, by simp [World.setRow], fun k hk => ?_⟩, ?_⟩
        · simp only [World.setRow, Array.getElem?_modify]; rw [if_neg (by omega)]
        · simp only [Rel]
          exact ⟨b, ep + 1, some ⟨b, 0, none⟩, c, by simp [KW.addLoc], hpos, Nat.le_refl _, rfl, hroom, .inr ⟨b, 0, rfl, fun _ => ⟨rfl, by simp⟩⟩, fun _ => ⟨rm, hrm, hcr⟩⟩
    · have hol : ((arr.toList.take cs.length).take (n * sz)).length = n * sz := by simp; omega
      have hfirst : (Builtin.firstCells sz n (.slice A n c)).run P w.drew = .ok ((arr.toList.take cs.length).take (n * sz)).toArray w.drew := by
        rcases h6 with h6 | ⟨b, q, rfl, h6⟩
        · have : n = 0 := by omega
          subst this
          simp only [Nat.zero_mul, List.take_zero]
          cases A with
          | none => exact run_firstCells_none _ _ _ _ _
          | some ad => exact run_firstCells_some _ _ _ _ _ _ [] (by simp) (by simp)
        · obtain ⟨rfl, rfl⟩ := h6 rfl
          refine run_firstCells_some _ _ _ _ _ _ _ hol fun j u hu => ?_
          rw [add_lit]
          have : w.drew.cell? ⟨b, 0 * sz + j, none⟩ = w.cell? ⟨b, 0 * sz + j, none⟩ := rfl
          rw [this, cell_row hg]
          rw [List.getElem?_take] at hu
          split at hu
          · rw [List.getElem?_take] at hu
            split at hu
            · simpa using hu
            · cases hu
          · cases hu
      obtain ⟨arr1, cap, k1, k2, hrun, k4, k5, k6⟩ := append_growB hw (ty := ty) (c := c) ht hi hz hsz hby hb0 hpos hzs hol hfirst (RelL_take hr (n * sz)) (fun u hu => ho u (List.mem_of_mem_take hu)) hsrc hn (by omega) hlim
      have hfree : ∀ t x, (K.addBlk w.heap.size (fun _ => none) arr1.size).loc t = some (w.heap.size, x) → t = τ := fun t x e => by
        have := hw.loc_lt (τ := t) (x := x) e
        omega
      obtain ⟨k7, k8⟩ := k5.moveTok hτ (by exact hl) hpos (Nat.lt_succ_self ep) hw.size (k6 (ep + 1)) hfree
      refine ⟨_, _, hrun, _, k4.trans k7, k8, ((Below.refl _ _).drew).alloc hw.size _, ?_⟩
      simp only [Rel]
      exact ⟨w.heap.size, ep + 1, _, cap, by simp [KW.addLoc], hpos, Nat.le_refl _, rfl, k1, .inr ⟨w.heap.size, 0, rfl, fun _ => ⟨rfl, by simp⟩⟩, fun _ => ⟨arr1.size, by simp [KW.addLoc, KW.addBlk], by rw [Nat.zero_add]; omega⟩⟩

set_option maxHeartbeats 1000000 in
theorem append_ok (hw : WR base R K H w) {bf : Bool} {t tx ty e : TypeId} {sz bytes : Nat} {z : Value} (ht : elT P t = some e) (hs : szT P e = some sz) (hb : byT P e = some bytes) (hz : zeroT P e = some z) (hc : 0 < sz ∧ 0 < bytes ∧ z.cells.size = sz)
    {x : AV} {ys : List AV} {u v : Value} {news : List Value} {H' : Heap} (hx : Rel K x u) (hsrc : Src P sz tx v ys.length news w) (hn : News K ys sz news) (h : appendA bf H sz bytes x ys = some (r, H')) :
    ∃ v' w', (Builtin.append_ #[t, tx] ty #[u, v]).run P w = .ok v' w' ∧ OpPost base R K w r H' v' w' := by
  obtain ⟨hpos, hb0, hzs⟩ := hc
  obtain ⟨i, hi, hsi⟩ := szT_info hs
  obtain ⟨i', hi', hbi⟩ := byT_info hb
  obtain ⟨i'', hi'', hzi⟩ := zeroT_info hz
  rw [hi] at hi' hi''; injection hi' with hi'; injection hi'' with hi''; subst hi' hi''
  have hx0 := hx
  unfold appendA at h
  split at h
  rotate_left
  · rename_i τ ep sz' o n
    split at h
    · rename_i hcond
      obtain ⟨hlim, rfl, rfl⟩ := hcond
      split at h
      · rename_i e' cs sz'' hτ
        split at h
        · rename_i hc2
          obtain ⟨rfl, rfl, hle⟩ := hc2
          injection h with h; injection h with h1 h2; subst h1 h2
          exact append_okB hw (elT_under ht) hi hzi hsi hbi hb0 hpos hzs hx hτ hle hsrc hn hlim
        · cases h
      · cases h
    · cases h
  · cases h
  rename_i xs p
  simp only [Rel] at hx
  obtain ⟨A, c, szx, rfl, hcap, hp, hr⟩ := hx
  split at h
  · rename_i hlim
    cases p with
    | ro =>
      simp only at h
      split at h
      · rename_i hy
        injection h with h; injection h with h1 h2; subst h1 h2
        have hy' : ys = [] := by simpa using hy
        subst hy'
        have hnews : news = [] := List.eq_nil_of_length_eq_zero (by simpa using hn.len)
        subst hnews
        exact ⟨_, _, run_append_none w t tx ty e i (elT_under ht) hi A xs.length c v (by rw [hsi]; exact hsrc) hcap, OpPost.same hw hx0⟩
      · cases h
    | full =>
      simp only at h
      split at h
      · rename_i hy
        injection h with h; injection h with h1 h2; subst h1 h2
        have hy' : ys = [] := by simpa using hy
        subst hy'
        have hnews : news = [] := List.eq_nil_of_length_eq_zero (by simpa using hn.len)
        subst hnews
        exact ⟨_, _, run_append_none w t tx ty e i (elT_under ht) hi A xs.length c v (by rw [hsi]; exact hsrc) hcap, OpPost.same hw hx0⟩
      · rename_i hy
        split at h
        · cases h
        · rename_i hwd
          have hylen : 0 < ys.length := by
            cases ys with
            | nil => simp at hy
            | cons y ys => simp
          simp only [PRel] at hp
          have hx' : xs = [] ∨ ∃ b q, A = some ⟨b, q, none⟩ ∧ RelE K b sz q xs := by
            rcases hr with hr | ⟨b, q, hA, hr⟩
            · exact .inl hr
            · by_cases hne : xs = []
              · exact .inl hne
              · have := RelE_width hr (by simpa using hwd) hne
                subst this
                exact .inr ⟨b, q, hA, hr⟩
          split at h
          · injection h with h; injection h with h1 h2; subst h1 h2
            obtain ⟨olds, o1, o2, o3, o4⟩ : ∃ olds : List Value, olds.length = xs.length * sz ∧ (Builtin.firstCells sz xs.length (.slice A xs.length c)).run P w.drew = .ok olds.toArray w.drew ∧ RelL K (xs.flatMap AV.cells) olds ∧ ∀ u ∈ olds, u.oneCell' = true := by
              clear hr
              rcases hx' with rfl | ⟨b, q, rfl, hr⟩
              · refine ⟨[], by simp, ?_, by simp [RelL], by simp⟩
                cases A with
                | none => exact run_firstCells_none _ _ _ _ _
                | some ad => exact run_firstCells_some _ _ _ _ _ _ [] (by simp) (by simp)
              · obtain ⟨olds, e1, e2, e3⟩ := RelE_cells hr
                exact ⟨olds, e1, run_firstCells_some _ _ _ _ _ _ olds e1 (fun j u hu => by rw [add_lit]; exact hw.pcs _ _ _ (e2 j u hu)), RelE_flatRel hr e1 e2, e3⟩
            obtain ⟨arr, cap, k1, k2, hrun, k4, k5, k6⟩ := append_growB hw (ty := ty) (c := c) (elT_under ht) hi hzi hsi hbi hb0 hpos hzs o1 o2 o3 o4 hsrc hn (by omega) hlim
            have hfree : ∀ τ x, (K.addBlk w.heap.size (fun _ => none) arr.size).loc τ ≠ some (w.heap.size, x) := fun τ x e => by
              have := hw.loc_lt (τ := τ) (x := x) e
              omega
            obtain ⟨k7, k8⟩ := k5.addTok hw.size (k6 0) hfree
            rw [← List.flatMap_append] at k8
            refine ⟨_, _, hrun, _, k4.trans k7, k8, ((Below.refl _ _).drew).alloc hw.size _, ?_⟩
            simp only [Rel]
            exact ⟨w.heap.size, 0, _, cap, by simp [KW.addLoc], hpos, Nat.le_refl _, rfl, k1, .inr ⟨w.heap.size, 0, rfl, fun _ => ⟨rfl, by simp⟩⟩, fun _ => ⟨arr.size, by simp [KW.addLoc, KW.addBlk], by rw [Nat.zero_add]; omega⟩⟩
          injection h with h; injection h with h1 h2; subst h1 h2
          obtain ⟨arr, cap, k1, k2, hrun, f, k3, k4, k5, k6⟩ := append_grow hw (ty := ty) (c := c) (elT_under ht) hi hzi hsi hbi hb0 hzs hx' hsrc hn (by omega) hlim
          have hrec : RecAt (K.addBlk w.heap.size f arr.size) (w.drew.alloc (.cells arr e)) w.heap.size sz (xs.length + ys.length) (.own (xs.length + ys.length) sz) :=
            ⟨rfl, rfl, hpos, arr, e, heap_alloc_new w.drew _, fun o ho => by simp [KW.addBlk, k3 o ho]⟩
          have hfree : ∀ τ x, (K.addBlk w.heap.size f arr.size).loc τ ≠ some (w.heap.size, x) := fun τ x e => by
            have := hw.loc_lt (τ := τ) (x := x) e
            omega
          obtain ⟨k7, k8⟩ := k5.addTok hw.size hrec hfree
          refine ⟨_, _, hrun, _, k4.trans k7, k8, ((Below.refl _ _).drew).alloc hw.size _, ?_⟩
          simp only [Rel]
          refine ⟨some ⟨w.heap.size, 0, none⟩, cap, sz, by simp, by simpa using k1, ?_, .inr ⟨w.heap.size, 0, rfl, RelE.mono k7 _ _ _ _ k6⟩⟩
          simp only [PRel]
          exact ⟨w.heap.size, xs.length + ys.length, by simp [KW.addLoc], hpos, by simp, fun _ => ⟨rfl, arr.size, by simp [KW.addLoc, KW.addBlk], by omega⟩⟩
    | own τ =>
      simp only at h
      split at h
      · rename_i n sz' hτ
        split at h
        · rename_i hcond
          obtain ⟨rfl, rfl⟩ := hcond
          injection h with h; injection h with h1 h2; subst h1 h2
          obtain ⟨g, m, hl, hpx, hle, hA⟩ := hp
          obtain ⟨hbg, e1, e2, _, arr, T, hg, hpc⟩ := hw.tok hτ hl
          subst e1 e2
          obtain ⟨rfl, rm, hrm, hcr⟩ := hA rfl
          obtain ⟨arr0, T0, fr0, hg0, hrs⟩ := hw.rms g rm hrm
          rw [hg] at hg0; injection hg0 with hg0; injection hg0 with hg0 _ _; subst hg0
          have hx' : xs = [] ∨ ∃ b q, (some ⟨g, 0, none⟩ : Option Addr) = some ⟨b, q, none⟩ ∧ RelE K b sz' q xs := by
            rcases hr with hr | ⟨b, q, hA, hr⟩
            · exact .inl hr
            · exact .inr ⟨b, q, hA, hr⟩
          by_cases hy : ys = []
          · subst hy
            have hnews : news = [] := List.eq_nil_of_length_eq_zero (by simpa using hn.len)
            subst hnews
            refine ⟨_, _, run_append_none w t tx ty e i (elT_under ht) hi _ xs.length c v (by rw [hsi]; exact hsrc) hcap, ?_⟩
            have hset : H.set τ (.own (xs.length + ([] : List AV).length) sz') = H := by
              simp only [List.length_nil, Nat.add_zero]
              apply List.ext_getElem?
              intro j
              rw [List.getElem?_set]
              split
              · rename_i e; subst e; rw [hτ]; rw [if_pos (List.getElem?_eq_some_iff.1 hτ).1]
              · rfl
            rw [hset, List.append_nil]
            exact OpPost.same hw hx0
          · have hylen : 0 < ys.length := by
              cases ys with
              | nil => exact absurd rfl hy
              | cons y ys => simp
            by_cases hroom : xs.length + ys.length ≤ c
            · have hfit : (xs.length + ys.length) * sz' ≤ arr.size := Nat.le_trans (Nat.mul_le_mul_right _ hroom) (by omega)
              have hnl := hn.len
              rw [Nat.add_mul] at hfit
              have hrun := run_append_row w t tx ty e i (elT_under ht) hi g xs.length c arr T v ys.length news (by rw [hsi]; exact hsrc) hroom hg (by rw [hsi, hnl]; exact hfit)
              rw [hsi] at hrun
              generalize harr : (arr.toList.take (xs.length * sz') ++ news ++ arr.toList.drop (xs.length * sz' + news.length)).toArray = arr' at hrun
              have hal : arr'.size = arr.size := by rw [← harr]; simp; omega
              obtain ⟨k1, k2⟩ := hw.setOwn (m := ys.length) (arr' := arr') (f := fun o => if xs.length * sz' ≤ o then news[o - xs.length * sz']? else none) hylen hτ hl hg hal.symm (by
                intro o ho
                rw [← harr]
                simp only [List.getElem?_toArray]
                rw [List.append_assoc, List.getElem?_append_left (by simp; omega), List.getElem?_take, if_pos ho]
                simp) (by
                intro o u hu
                split at hu
                · rename_i ho
                  have hlt := (List.getElem?_eq_some_iff.1 hu).1
                  refine ⟨ho, by rw [Nat.add_mul]; omega, ?_⟩
                  rw [← harr]
                  simp only [List.getElem?_toArray]
                  rw [List.getElem?_append_left (by simp; omega), List.getElem?_append_right (by simp; omega)]
                  rw [← hu]; congr 1; simp; omega
                · cases hu)
              refine ⟨_, _, hrun, _, k1, k2, ⟨rfl, rfl, rfl, by simp [World.setRow], fun k hk => ?_⟩, ?_⟩
              · simp only [World.setRow, Array.getElem?_modify]; rw [if_neg (by omega)]
              · simp only [Rel]
                refine ⟨some ⟨g, 0, none⟩, c, sz', by simp, by simpa using hroom, ?_, .inr ⟨g, 0, rfl, ?_⟩⟩
                · simp only [PRel]
                  exact ⟨g, xs.length + ys.length, by simp [KW.addPc], hpos, by simp, fun _ => ⟨rfl, rm, hrm, hcr⟩⟩
                · refine RelE_append ?_ (hn.at_ _ _ _ k1 fun j u hu => ?_)
                  · rcases hx' with rfl | ⟨b, q, hA, hr⟩
                    · simp [RelE]
                    · injection hA with hA; injection hA with e1 e2 _; subst e1 e2
                      exact RelE.mono k1 _ _ _ _ hr
                  · simp only [KW.addPc, if_true]
                    rw [hpc _ (by omega)]
                    rw [if_pos (by omega)]
                    rw [show 0 + xs.length * sz' + j - xs.length * sz' = j by omega]
                    exact hu
            · obtain ⟨arr1, cap, k1, k2, hrun, f, k3, k4, k5, k6⟩ := append_grow hw (ty := ty) (c := c) (elT_under ht) hi hzi hsi hbi hb0 hzs hx' hsrc hn (by omega) hlim
              have hrec : RecAt (K.addBlk w.heap.size f arr1.size) (w.drew.alloc (.cells arr1 e)) w.heap.size sz' (xs.length + ys.length) (.own (xs.length + ys.length) sz') :=
                ⟨rfl, rfl, hpos, arr1, e, heap_alloc_new w.drew _, fun o ho => by simp [KW.addBlk, k3 o ho]⟩
              have hfree : ∀ τ x, (K.addBlk w.heap.size f arr1.size).loc τ ≠ some (w.heap.size, x) := fun τ x e => by
                have := hw.loc_lt (τ := τ) (x := x) e
                omega
              obtain ⟨k7, k8⟩ := k5.moveOwn hτ (by exact hl) (by omega) hw.size hrec hfree
              refine ⟨_, _, hrun, _, k4.trans k7, k8, ((Below.refl _ _).drew).alloc hw.size _, ?_⟩
              simp only [Rel]
              refine ⟨some ⟨w.heap.size, 0, none⟩, cap, sz', by simp, by simpa using k1, ?_, .inr ⟨w.heap.size, 0, rfl, RelE.mono k7 _ _ _ _ k6⟩⟩
              simp only [PRel]
              exact ⟨w.heap.size, xs.length + ys.length, by simp [KW.addLoc], hpos, by simp, fun _ => ⟨rfl, arr1.size, by simp [KW.addLoc, KW.addBlk], by omega⟩⟩
        · cases h
      · cases h
  · cases h
end
end Go.Proofs.YtggoggdcnahkaaaDoor
