/- The evaluator's operations, held against the machine's (4): cuts, texts, the language's own functions. -/
import Derived.Test.YtggoggdcnahkaaaDoorAe6
set_option linter.unusedVariables false
set_option linter.unusedSimpArgs false
namespace Go.Proofs.YtggoggdcnahkaaaDoor
open Go Go.RowKit

theorem RelE_take {K : KW} {b sz o : Nat} {xs : List AV} (h : RelE K b sz o xs) (n : Nat) : RelE K b sz o (xs.take n) := by
  rw [RelE_iff] at h ⊢
  intro i x hx
  rw [List.getElem?_take] at hx
  split at hx
  · exact h i x hx
  · cases hx
theorem RelE_drop {K : KW} {b sz o : Nat} {xs : List AV} (h : RelE K b sz o xs) (n : Nat) : RelE K b sz (o + n * sz) (xs.drop n) := by
  rw [RelE_iff] at h ⊢
  intro i x hx
  rw [List.getElem?_drop] at hx
  obtain ⟨h1, h2⟩ := h _ x hx
  refine ⟨h1, ?_⟩
  rw [Nat.add_assoc, ← Nat.add_mul]
  exact h2

section
variable {P : Program} {base N : Nat} {R : Nat → Nat → Option Value} {K : KW} {H : Heap} {w : World} {o : Oper} {a : Act} {env : Env} {r : AV}

theorem widths_replicate {sz n : Nat} {z : AV} (h1 : z.cells.length = sz) (h2 : z.isTup = false) : widths sz (List.replicate n z) = true := by
  simp [widths, h1, h2]
theorem flat_replicate (v : Value) (n : Nat) (hpos : 0 < v.cells.size) : ∀ (j : Nat) (u : Value), ((List.replicate n v).flatMap fun v => v.cells.toList)[j]? = some u → (madeCells v.cells (n * v.cells.size))[j]? = some u := by
  intro j u hu
  have hlen : ((List.replicate n v).flatMap fun v => v.cells.toList).length = n * v.cells.size := by simp
  have hj : j < n * v.cells.size := by have := (List.getElem?_eq_some_iff.1 hu).1; omega
  have key : ∀ n j, j < n * v.cells.size → ((List.replicate n v).flatMap fun v => v.cells.toList)[j]? = v.cells.toList[j % v.cells.size]? := by
    intro n
    induction n with
    | zero => intro j hj; simp at hj
    | succ n ih =>
      intro j hj
      rw [List.replicate_succ, List.flatMap_cons, List.getElem?_append]
      split
      · rename_i h; rw [Nat.mod_eq_of_lt (by simpa using h)]
      · rename_i h
        simp at h
        rw [Array.length_toList, ih _ (by rw [Nat.succ_mul] at hj; omega), Nat.mod_eq_sub_mod h]
  rw [key n j hj] at hu
  have hm : j % v.cells.size < v.cells.size := Nat.mod_lt _ hpos
  have hm' : madeCells v.cells (n * v.cells.size) = (Array.range (n * v.cells.size)).map (v.cells[· % v.cells.size]!) := rfl
  rw [hm']
  simp [hj, hm] at hu ⊢
  exact hu
theorem RelL_replicate {z : AV} {v : Value} (h : Rel K z v) : ∀ n, RelL K (List.replicate n z) (List.replicate n v)
  | 0 => by simp [RelL]
  | n + 1 => by rw [List.replicate_succ, List.replicate_succ]; simp only [RelL]; exact ⟨v, _, rfl, h, RelL_replicate h n⟩

theorem do_makeSlice (hw : WR base R K H w) (he : EnvRel K N env a) {t e : TypeId} {l c : Operand} {n m sz bytes : Nat} {z : AV} (hop : o.op = .makeSlice t l c) (ht : elT P t = some e) (hl : (valA env l).bind natA = some n) (hc : (valA env c).bind natA = some m)
    (hs : szT P e = some sz) (hb : byT P e = some bytes) (hz : (zeroT P e).bind constAV = some z) (hcond : n = m ∧ z.cells.length = sz ∧ 0 < sz ∧ n * bytes ≤ roomA ∧ n ≤ roomA) : Does P base R K w o a (.sl (List.replicate n z) .full) H := by
  obtain ⟨rfl, hzc, hpos, hroom, hn⟩ := hcond
  rw [Option.bind_eq_some_iff] at hz
  obtain ⟨v, hv, hz⟩ := hz
  obtain ⟨i, hi, hzi⟩ := zeroT_info hv
  obtain ⟨i', hi', hbi⟩ := byT_info hb
  obtain ⟨i'', hi'', hsi⟩ := szT_info hs
  rw [hi] at hi' hi''; injection hi' with hi'; injection hi'' with hi''; subst hi' hi''
  obtain ⟨kl, hkl⟩ := natA_rel he hl
  obtain ⟨kc, hkc⟩ := natA_rel he hc
  have hzr := constAV_rel (K := K) hz
  have hvc : v.cells.size = sz := by have := RelL_length (Rel_cells hzr (constAV_tup hz)).1; simp at this; omega
  unfold roomA at hroom hn
  have hrun := run_make (P := P) w t e i v (elT_under ht) hi hzi kl kc (n : Int) (n : Int) (by omega) (Int.le_refl _) (by
    rw [hbi, ← Int.natCast_mul, Nat.mul_comm]; omega) (by omega)
  simp only [Int.toNat_natCast] at hrun
  refine .inl ⟨.slice (some ⟨w.heap.size, 0, none⟩) n n, w.alloc (.cells (madeCells v.cells (n * i.size)) e), ?_, ?_⟩
  · simp only [execOp, hop, hkl, hkc, Sem.run_bind, hrun, Result.andThen_ok]; rfl
  · have hlen : (List.replicate n z).length = n := by simp
    rw [hsi, ← hvc]
    have := OpPost.newRow (H := H) hw e (madeCells v.cells (n * v.cells.size)) (RelL_replicate hzr n) (sz := sz) (widths_replicate hzc (constAV_tup hz)) (flat_replicate v n (by omega)) .full n (by simp) (.inr ⟨rfl, by simp⟩)
    rw [hlen] at this
    exact this

theorem do_slice (hw : WR base R K H w) (he : EnvRel K N env a) {t e : TypeId} {x : Operand} {lo hi : Option Operand} {lo' hi' : Option Nat} {xs : List AV} {p : Prov} (hop : o.op = .slice t x lo hi none) (hx : valA env x = some (.sl xs p)) (ht : elT P t = some e)
    (hlo : optNat env lo = some lo') (hhi : optNat env hi = some hi') {sz : Nat} (hsz : szT P e = some sz) (hwd : (lo'.isNone || widths sz xs) = true)
    (h : sliceA xs p lo' hi' = some r) : Does P base R K w o a r H := by
  have h1 := valA_rel he hx
  simp only [Rel] at h1
  obtain ⟨A, c, szx, hv, hcap, hp, hr⟩ := h1
  unfold sliceA at h
  unfold optNat at hlo hhi
  split at h
  · rename_i hle
    injection h with h
    generalize hh : hi'.getD xs.length = q at *
    generalize hll : lo'.getD 0 = l at *
    obtain ⟨hl1, hl2⟩ := hle
    have hel : P.elem t = e := by simp [Program.elem, elT_under ht]
    have hu : P.underlying t = some (.slice (P.elem t)) := by rw [hel]; exact elT_under ht
    have hbounds : (Instr.sliceBounds true xs.length c (lo.map a.eval) (hi.map a.eval) none).run P w = .ok (l, q, c) w := by
      have e1 : ∀ (oh : Option Value), (oh = none ∧ q = xs.length ∨ ∃ k, oh = some (.int k q)) → ∀ (ol : Option Value), (ol = none ∧ l = 0 ∨ ∃ k, ol = some (.int k l)) → (Instr.sliceBounds true xs.length c ol oh none).run P w = .ok (l, q, c) w := by
        rintro oh (⟨rfl, hq⟩ | ⟨k, rfl⟩) ol (⟨rfl, hl⟩ | ⟨k', rfl⟩)
        · subst hq hl; simp [Instr.sliceBounds]
        · subst hq; simp [Instr.sliceBounds, run_sliceBound (P := P) w k' (l : Int) xs.length .sliceB (by omega) (by omega)]
        · subst hl; simp [Instr.sliceBounds, run_sliceBound (P := P) w k (q : Int) c .sliceAcap (by omega) (by omega)]
        · simp [Instr.sliceBounds, run_sliceBound (P := P) w k (q : Int) c .sliceAcap (by omega) (by omega), run_sliceBound (P := P) w k' (l : Int) q .sliceB (by omega) (by omega)]
      refine e1 _ ?_ _ ?_
      · cases hi with
        | none => injection hhi with hhi; subst hhi; exact .inl ⟨rfl, by simpa using hh.symm⟩
        | some y =>
          rw [Option.map_eq_some_iff] at hhi
          obtain ⟨n, hn, rfl⟩ := hhi
          obtain ⟨k, hk⟩ := natA_rel he hn
          simp at hh; subst hh
          exact .inr ⟨k, by simp [hk]⟩
      · cases lo with
        | none => injection hlo with hlo; subst hlo; exact .inl ⟨rfl, by simpa using hll.symm⟩
        | some y =>
          rw [Option.map_eq_some_iff] at hlo
          obtain ⟨n, hn, rfl⟩ := hlo
          obtain ⟨k, hk⟩ := natA_rel he hn
          simp at hll; subst hll
          exact .inr ⟨k, by simp [hk]⟩
    have hrun : (Instr.slice t (.slice A xs.length c) (lo.map a.eval) (hi.map a.eval) none).run P w = .ok (.slice (if c = l then A else A.map (·.add (l * sz))) (q - l) (c - l)) w := by
      simp only [Instr.slice, Sem.run_bind, run_underlying hu, Result.andThen_ok, hbounds, hel, run_sizeOf hsz]
      rfl
    refine Does.val hw (v := .slice (if c = l then A else A.map (·.add (l * sz))) (q - l) (c - l)) ?_ ?_
    · simp only [execOp, hop, hv, Sem.run_bind, Option.map_none, run_sliceAt_slice w t _ _ _ _ hu, hrun, Result.andThen_ok]
      rfl
    · subst h
      simp only [Rel]
      have hlen : ((xs.take q).drop l).length = q - l := by simp; omega
      by_cases hall : (lo' = none ∧ hi' = none)
      · obtain ⟨rfl, rfl⟩ := hall
        simp at hh hll
        subst hh hll
        refine ⟨A, c, szx, ?_, by simpa using hcap, by simpa [provS] using hp, by simpa using hr⟩
        simp
        intro hc0
        cases A with
        | none => rfl
        | some ad => simp [Addr.add]
      · refine ⟨if c = l then A else A.map (·.add (l * sz)), c - l, szx, by rw [hlen], by rw [hlen]; omega, ?_, ?_⟩
        · cases lo' with
          | none => cases hi' with
            | none => exact absurd ⟨rfl, rfl⟩ hall
            | some n => trivial
          | some n => cases hi' with
            | some m => trivial
            | none => cases p with
              | full => simp only [PRel, provS] at hp ⊢; rw [hlen]; simp at hh; omega
              | ro => trivial
              | own τ => trivial
        · by_cases hnil : (xs.take q).drop l = []
          · exact .inl hnil
          · rcases hr with hr | ⟨b, o, rfl, hr⟩
            · subst hr; simp at hnil
            · have hne : c ≠ l := by
                intro e
                apply hnil
                apply List.eq_nil_of_length_eq_zero
                rw [hlen]; omega
              right
              have hsz' : xs ≠ [] := by intro e; subst e; simp at hnil
              refine ⟨b, o + l * sz, by rw [if_neg hne]; simp [add_lit], ?_⟩
              have hee : szx = sz ∨ l = 0 := by
                rcases Bool.or_eq_true _ _ ▸ hwd with hwd | hwd
                · right
                  cases lo' with
                  | none => simpa using hll.symm
                  | some n => simp at hwd
                · exact .inl (RelE_width hr hwd hsz')
              rcases hee with rfl | rfl
              · exact RelE_drop (RelE_take hr q) l
              · simpa using RelE_take hr q
  · cases h

theorem do_sliceB (hw : WR base R K H w) (he : EnvRel K N env a) {t e : TypeId} {x : Operand} {lo hi : Option Operand} {lo' hi' : Option Nat} {τ ep sz q0 n : Nat} (hop : o.op = .slice t x lo hi none) (hx : valA env x = some (.bs τ ep sz q0 n)) (ht : elT P t = some e)
    (hlo : optNat env lo = some lo') (hhi : optNat env hi = some hi') (hsz : szT P e = some sz) (hle : lo'.getD 0 ≤ hi'.getD n ∧ hi'.getD n ≤ n) :
    Does P base R K w o a (.bs τ ep sz (q0 + lo'.getD 0) (hi'.getD n - lo'.getD 0)) H := by
  have h1 := valA_rel he hx
  simp only [Rel] at h1
  obtain ⟨g, m, A, c, hg, h2, h3, hv, hcap, h6, h7⟩ := h1
  unfold optNat at hlo hhi
  generalize hh : hi'.getD n = q at *
  generalize hll : lo'.getD 0 = l at *
  obtain ⟨hl1, hl2⟩ := hle
  have hel : P.elem t = e := by simp [Program.elem, elT_under ht]
  have hu : P.underlying t = some (.slice (P.elem t)) := by rw [hel]; exact elT_under ht
  have hbounds : (Instr.sliceBounds true n c (lo.map a.eval) (hi.map a.eval) none).run P w = .ok (l, q, c) w := by
    have e1 : ∀ (oh : Option Value), (oh = none ∧ q = n ∨ ∃ k, oh = some (.int k q)) → ∀ (ol : Option Value), (ol = none ∧ l = 0 ∨ ∃ k, ol = some (.int k l)) → (Instr.sliceBounds true n c ol oh none).run P w = .ok (l, q, c) w := by
      rintro oh (⟨rfl, hq⟩ | ⟨k, rfl⟩) ol (⟨rfl, hl⟩ | ⟨k', rfl⟩)
      · subst hq hl; simp [Instr.sliceBounds]
      · subst hq; simp [Instr.sliceBounds, run_sliceBound (P := P) w k' (l : Int) q .sliceB (by omega) (by omega)]
      · subst hl; simp [Instr.sliceBounds, run_sliceBound (P := P) w k (q : Int) c .sliceAcap (by omega) (by omega)]
      · simp [Instr.sliceBounds, run_sliceBound (P := P) w k (q : Int) c .sliceAcap (by omega) (by omega), run_sliceBound (P := P) w k' (l : Int) q .sliceB (by omega) (by omega)]
    refine e1 _ ?_ _ ?_
    · cases hi with
      | none => injection hhi with hhi; subst hhi; exact .inl ⟨rfl, by simpa using hh.symm⟩
      | some y =>
        rw [Option.map_eq_some_iff] at hhi
        obtain ⟨n, hn, rfl⟩ := hhi
        obtain ⟨k, hk⟩ := natA_rel he hn
        simp at hh; subst hh
        exact .inr ⟨k, by simp [hk]⟩
    · cases lo with
      | none => injection hlo with hlo; subst hlo; exact .inl ⟨rfl, by simpa using hll.symm⟩
      | some y =>
        rw [Option.map_eq_some_iff] at hlo
        obtain ⟨n, hn, rfl⟩ := hlo
        obtain ⟨k, hk⟩ := natA_rel he hn
        simp at hll; subst hll
        exact .inr ⟨k, by simp [hk]⟩
  have hrun : (Instr.slice t (.slice A n c) (lo.map a.eval) (hi.map a.eval) none).run P w = .ok (.slice (if c = l then A else A.map (·.add (l * sz))) (q - l) (c - l)) w := by
    simp only [Instr.slice, Sem.run_bind, run_underlying hu, Result.andThen_ok, hbounds, hel, run_sizeOf hsz]
    rfl
  refine Does.val hw (v := .slice (if c = l then A else A.map (·.add (l * sz))) (q - l) (c - l)) ?_ ?_
  · simp only [execOp, hop, hv, Sem.run_bind, Option.map_none, run_sliceAt_slice w t _ _ _ _ hu, hrun, Result.andThen_ok]
    rfl
  · simp only [Rel]
    refine ⟨g, m, _, c - l, hg, h2, h3, rfl, by omega, ?_, fun e => ?_⟩
    · rcases h6 with h6 | ⟨b, p, rfl, h6⟩
      · left; omega
      · by_cases hcl : c = l
        · left; omega
        · right
          exact ⟨b, p + l * sz, by rw [if_neg hcl]; simp [add_lit], fun e => ⟨(h6 e).1, by rw [(h6 e).2, Nat.add_mul]⟩⟩
    · obtain ⟨r, h8, h9⟩ := h7 e
      exact ⟨r, h8, by rw [show q0 + l + (c - l) = q0 + c by omega]; exact h9⟩

theorem do_sliceS (hw : WR base R K H w) (he : EnvRel K N env a) {t : TypeId} {x : Operand} {lo hi : Option Operand} {lo' hi' : Option Nat} {s : ByteArray} (hop : o.op = .slice t x lo hi none) (hx : valA env x = some (.s (.string s)))
    (hlo : optNat env lo = some lo') (hhi : optNat env hi = some hi') (hst : strT P t = some true) (hle : lo'.getD 0 ≤ hi'.getD s.size ∧ hi'.getD s.size ≤ s.size) :
    Does P base R K w o a (.s (.string (s.extract (lo'.getD 0) (hi'.getD s.size)))) H := by
  have h1 := valA_rel he hx
  simp only [Rel] at h1
  unfold optNat at hlo hhi
  generalize hh : hi'.getD s.size = q at *
  generalize hll : lo'.getD 0 = l at *
  obtain ⟨hl1, hl2⟩ := hle
  have hbounds : (Instr.sliceBounds false s.size s.size (lo.map a.eval) (hi.map a.eval) none).run P w = .ok (l, q, s.size) w := by
    have e1 : ∀ (oh : Option Value), (oh = none ∧ q = s.size ∨ ∃ k, oh = some (.int k q)) → ∀ (ol : Option Value), (ol = none ∧ l = 0 ∨ ∃ k, ol = some (.int k l)) → (Instr.sliceBounds false s.size s.size ol oh none).run P w = .ok (l, q, s.size) w := by
      rintro oh (⟨rfl, hq⟩ | ⟨k, rfl⟩) ol (⟨rfl, hl⟩ | ⟨k', rfl⟩)
      · subst hl; rw [hq]; simp [Instr.sliceBounds]
      · rw [hq]; simp [Instr.sliceBounds, run_sliceBound (P := P) w k' (l : Int) s.size .sliceB (by omega) (by omega)]
      · subst hl; simp [Instr.sliceBounds, run_sliceBound (P := P) w k (q : Int) s.size .sliceAlen (by omega) (by omega)]
      · simp [Instr.sliceBounds, run_sliceBound (P := P) w k (q : Int) s.size .sliceAlen (by omega) (by omega), run_sliceBound (P := P) w k' (l : Int) q .sliceB (by omega) (by omega)]
    refine e1 _ ?_ _ ?_
    · cases hi with
      | none => injection hhi with hhi; subst hhi; exact .inl ⟨rfl, by simpa using hh.symm⟩
      | some y =>
        rw [Option.map_eq_some_iff] at hhi
        obtain ⟨n, hn, rfl⟩ := hhi
        obtain ⟨k, hk⟩ := natA_rel he hn
        simp at hh; subst hh
        exact .inr ⟨k, by simp [hk]⟩
    · cases lo with
      | none => injection hlo with hlo; subst hlo; exact .inl ⟨rfl, by simpa using hll.symm⟩
      | some y =>
        rw [Option.map_eq_some_iff] at hlo
        obtain ⟨n, hn, rfl⟩ := hlo
        obtain ⟨k, hk⟩ := natA_rel he hn
        simp at hll; subst hll
        exact .inr ⟨k, by simp [hk]⟩
  refine Does.val hw (v := .string (s.extract l q)) ?_ (by simp [Rel, Value.oneCell'])
  have hu := strT_under hst
  simp [execOp, hop, h1.1, Instr.sliceAt, Instr.slice, run_underlying hu, hbounds]

theorem do_makeB (hw : WR base R K H w) (he : EnvRel K N env a) {t e : TypeId} {l c : Operand} {n m sz bytes : Nat} {z : AV} (hop : o.op = .makeSlice t l c) (ht : elT P t = some e) (hl : (valA env l).bind natA = some n) (hc : (valA env c).bind natA = some m)
    (hs : szT P e = some sz) (hb : byT P e = some bytes) (hz : (zeroT P e).bind constAV = some z) (hcond : n = m ∧ z.cells.length = sz ∧ 0 < sz ∧ n * bytes ≤ roomA ∧ n ≤ roomA) :
    Does P base R K w o a (.bs H.length 0 sz 0 n) (H ++ [.buf 0 ((List.replicate n z).flatMap AV.cells) sz]) := by
  obtain ⟨rfl, hzc, hpos, hroom, hn⟩ := hcond
  rw [Option.bind_eq_some_iff] at hz
  obtain ⟨v, hv, hz⟩ := hz
  obtain ⟨i, hi, hzi⟩ := zeroT_info hv
  obtain ⟨i', hi', hbi⟩ := byT_info hb
  obtain ⟨i'', hi'', hsi⟩ := szT_info hs
  rw [hi] at hi' hi''; injection hi' with hi'; injection hi'' with hi''; subst hi' hi''
  obtain ⟨kl, hkl⟩ := natA_rel he hl
  obtain ⟨kc, hkc⟩ := natA_rel he hc
  have hzr := constAV_rel (K := K) hz
  obtain ⟨c1, c2⟩ := Rel_cells hzr (constAV_tup hz)
  have hvc : v.cells.size = sz := by have := RelL_length c1; simp at this; omega
  unfold roomA at hroom hn
  have hrun := run_make (P := P) w t e i v (elT_under ht) hi hzi kl kc (n : Int) (n : Int) (by omega) (Int.le_refl _) (by
    rw [hbi, ← Int.natCast_mul, Nat.mul_comm]; omega) (by omega)
  simp only [Int.toNat_natCast] at hrun
  have hmade : (madeCells v.cells (n * i.size)).toList = (List.replicate n v).flatMap fun v => v.cells.toList := by
    rw [hsi, ← hvc]
    apply List.ext_getElem?
    intro j
    by_cases hj : j < n * v.cells.size
    · have hl : ((List.replicate n v).flatMap fun v => v.cells.toList).length = n * v.cells.size := by simp
      have := flat_replicate v n (by omega) j _ (List.getElem?_eq_getElem (by omega))
      rw [Array.getElem?_toList, this, List.getElem?_eq_getElem (by omega)]
    · rw [List.getElem?_eq_none (by simp [madeCells]; omega), List.getElem?_eq_none (by simp; omega)]
  have hflat : ∀ n, RelL K ((List.replicate n z).flatMap AV.cells) ((List.replicate n v).flatMap fun v => v.cells.toList) := by
    intro n
    induction n with
    | zero => simp [RelL]
    | succ n ih => rw [List.replicate_succ, List.replicate_succ, List.flatMap_cons, List.flatMap_cons]; exact RelL_append c1 ih
  have hlen := RelL_length (hflat n)
  have hone : ∀ u ∈ (madeCells v.cells (n * i.size)).toList, u.oneCell' = true := by
    rw [hmade]
    intro u hu
    obtain ⟨y, hy, hu⟩ := List.mem_flatMap.1 hu
    rw [(List.mem_replicate.1 hy).2] at hu
    exact c2 u hu
  refine .inl ⟨.slice (some ⟨w.heap.size, 0, none⟩) n n, w.alloc (.cells (madeCells v.cells (n * i.size)) e), ?_, ?_⟩
  · simp only [execOp, hop, hkl, hkc, Sem.run_bind, hrun, Result.andThen_ok]; rfl
  · obtain ⟨hle, hw1⟩ := hw.alloc (madeCells v.cells (n * i.size)) e (0, 0) (fun _ => none) (madeCells v.cells (n * i.size)).size (fun _ _ h => by cases h) (Nat.le_refl _)
    have hsize : (madeCells v.cells (n * i.size)).size = ((List.replicate n z).flatMap AV.cells).length := by
      rw [← hlen, ← hmade, Array.length_toList]
    have hrec : RecAt (K.addBlk w.heap.size (fun _ => none) (madeCells v.cells (n * i.size)).size) (w.alloc (.cells (madeCells v.cells (n * i.size)) e)) w.heap.size sz 0 (.buf 0 ((List.replicate n z).flatMap AV.cells) sz) := by
      refine ⟨rfl, rfl, hpos, _, e, heap_alloc_new w _, Nat.le_of_eq hsize.symm, ?_, ?_, fun o => by simp [KW.addBlk]⟩
      · rw [List.take_of_length_le (by rw [Array.length_toList]; exact Nat.le_of_eq hsize), hmade]
        exact RelL.mono hle _ _ (hflat n)
      · exact fun u hu => hone u (List.mem_of_mem_take hu)
    have hfree : ∀ τ x, (K.addBlk w.heap.size (fun _ => none) (madeCells v.cells (n * i.size)).size).loc τ ≠ some (w.heap.size, x) := fun τ x e => by
      have := hw.loc_lt (τ := τ) (x := x) e
      omega
    obtain ⟨hle2, hw2⟩ := hw1.addTok hw.size hrec hfree
    refine ⟨_, hle.trans hle2, hw2, (Below.refl _ _).alloc hw.size _, ?_⟩
    simp only [Rel]
    have hms : (madeCells v.cells (n * i.size)).size = n * i.size := by simp [madeCells]
    refine ⟨w.heap.size, 0, _, n, by simp [KW.addLoc], hpos, Nat.le_refl _, rfl, Nat.le_refl _, .inr ⟨w.heap.size, 0, rfl, fun _ => ⟨rfl, by simp⟩⟩, fun _ => ⟨(madeCells v.cells (n * i.size)).size, by simp [KW.addLoc, KW.addBlk], ?_⟩⟩
    rw [Nat.zero_add, hms, hsi]; exact Nat.le_refl _
end
end Go.Proofs.YtggoggdcnahkaaaDoor
