/- The evaluator's operations, held against the machine's (1). -/
import Derived.Test.YtggoggdcnahkaaaDoorAe3
import Derived.Laws.Slices
set_option linter.unusedVariables false
set_option linter.unusedSimpArgs false
namespace Go.Proofs.YtggoggdcnahkaaaDoor
open Go Go.RowKit

structure EnvRel (K : KW) (N : Nat) (env : Env) (a : Act) : Prop where
  size : a.tmps.size = N
  slot : ∀ t x, env t = some x → Rel K x (a.tmps.getD t undef)
  defers : a.defers = []

theorem EnvRel.mono {K K' : KW} {N : Nat} {env : Env} {a : Act} (h : EnvRel K N env a) (hK : K.le K') : EnvRel K' N env a :=
  ⟨h.size, fun t x hx => Rel.mono hK _ _ (h.slot t x hx), h.defers⟩
theorem EnvRel.put {K : KW} {N : Nat} {env : Env} {a : Act} (h : EnvRel K N env a) {dst : Option Tmp} (hd : ∀ d, dst = some d → d < N) {x : AV} {v : Value} (hr : Rel K x v) :
    EnvRel K N (Env.put env dst x) (a.put dst v) := by
  cases dst with
  | none => exact h
  | some d =>
    have hlt := hd d rfl
    refine ⟨by simpa [Act.put] using h.size, fun t y hy => ?_, by simpa [Act.put] using h.defers⟩
    simp only [Env.put] at hy
    split at hy
    · rename_i e; subst e
      injection hy with hy; subst hy
      have := h.size
      simp [Act.put, Array.getElem?_setIfInBounds, this, hlt]
      exact hr
    · rename_i e
      have := h.slot t y hy
      simpa [Act.put, Array.getElem?_setIfInBounds, Ne.symm e] using this

theorem constCell_rel {K : KW} {v : Value} (h : v.oneCell' = true) : Rel K (constCell v) v := by
  unfold constCell
  split
  · simp [Rel, PRel]
  · simp [Rel, h]
theorem RelL_map {K : KW} {f : Value → AV} : ∀ (vs : List Value), (∀ v ∈ vs, Rel K (f v) v) → RelL K (vs.map f) vs
  | [], _ => by simp [RelL]
  | v :: vs, h => by
    simp only [List.map_cons, RelL]
    exact ⟨v, vs, rfl, h v (by simp), RelL_map vs fun u hu => h u (by simp [hu])⟩
theorem constAV_rel {K : KW} {v : Value} {x : AV} (h : constAV v = some x) : Rel K x v := by
  unfold constAV at h
  split at h
  · rename_i vs
    split at h
    · rename_i ho
      injection h with h; subst h
      simp only [Rel]
      rw [List.all_eq_true] at ho
      exact ⟨vs.toList, by simp, RelL_map _ fun v hv => constCell_rel (ho v hv), fun u hu => ho u hu⟩
    · cases h
  · cases h
  · rename_i h1 h2
    injection h with h; subst h
    refine constCell_rel ?_
    cases v <;> simp_all [Value.oneCell']

theorem valA_rel {K : KW} {N : Nat} {env : Env} {a : Act} (h : EnvRel K N env a) {x : Operand} {y : AV} (hv : valA env x = some y) : Rel K y (a.eval x) := by
  cases x with
  | tmp t => exact h.slot t y hv
  | const v => exact constAV_rel hv
  | global g => simp only [valA] at hv; injection hv with hv; subst hv; simp [Rel, Act.eval, Value.oneCell']
  | func f => simp only [valA] at hv; injection hv with hv; subst hv; simp [Rel, RelL, Act.eval]
theorem valsA_rel {K : KW} {N : Nat} {env : Env} {a : Act} (h : EnvRel K N env a) : ∀ {xs : List Operand} {ys : List AV}, valsA env xs = some ys → RelL K ys (xs.map a.eval)
  | [], ys, hv => by simp only [valsA] at hv; injection hv with hv; subst hv; simp [RelL]
  | x :: xs, ys, hv => by
    simp only [valsA] at hv
    split at hv
    · rename_i y zs h1 h2
      injection hv with hv; subst hv
      simp only [List.map_cons, RelL]
      exact ⟨_, _, rfl, valA_rel h h1, valsA_rel h h2⟩
    · cases hv

theorem pureRun_run {P : Program} {α : Type} : ∀ (s : Sem α) (v : α), pureRun P s = some v → ∀ w : World, s.run P w = .ok v w
  | .pure a, v, h, w => by simp only [pureRun] at h; injection h with h; subst h; rfl
  | .program k, v, h, w => by simp only [pureRun] at h; exact pureRun_run (k P) v h w
  | .load _ _ _, v, h, w => by cases h
  | .store _ _ _ _, v, h, w => by cases h
  | .new _ _, v, h, w => by cases h
  | .shape _ _, v, h, w => by cases h
  | .freeze _ _ _, v, h, w => by cases h
  | .frozen _ _, v, h, w => by cases h
  | .getObj _ _, v, h, w => by cases h
  | .setObj _ _ _, v, h, w => by cases h
  | .choose _ _, v, h, w => by cases h
  | .sys _ _, v, h, w => by cases h
  | .mark _ _, v, h, w => by cases h
  | .halt _, v, h, w => by cases h

theorem conc_rel {K : KW} {x : AV} {v c : Value} (h : Rel K x v) (hc : conc x = some c) : v = c := by
  unfold conc at hc
  split at hc
  · injection hc with hc; subst hc; simp only [Rel] at h; exact h.1
  · injection hc with hc; subst hc; simp only [Rel] at h; obtain ⟨u, rfl, rfl, _⟩ := h; rfl
  · cases hc
theorem scalarOf_rel {K : KW} {o : Option Value} {x : AV} (h : scalarOf o = some x) : ∃ v, o = some v ∧ Rel K x v := by
  unfold scalarOf at h
  split at h
  · split at h
    · rename_i ho
      injection h with h; subst h
      exact ⟨_, rfl, by simp only [Rel]; exact ⟨_, rfl, rfl, ho⟩⟩
    · cases h
  · split at h
    · rename_i ho
      injection h with h; subst h
      exact ⟨_, rfl, by simp [Rel, ho]⟩
    · cases h
  · cases h

/-- What an operation may leave. -/
def OpPost (base : Nat) (R : Nat → Nat → Option Value) (K : KW) (w : World) (r : AV) (H' : Heap) (v : Value) (w' : World) : Prop :=
  ∃ K', K.le K' ∧ WR base R K' H' w' ∧ Below base w w' ∧ Rel K' r v

def Does (P : Program) (base : Nat) (R : Nat → Nat → Option Value) (K : KW) (w : World) (o : Oper) (a : Act) (r : AV) (H' : Heap) : Prop :=
  (∃ v w', (execOp a.eval o).run P w = .ok (.value v) w' ∧ OpPost base R K w r H' v w') ∨
  (∃ w', (execOp a.eval o).run P w = .ok .skip w' ∧ OpPost base R K w r H' undef w') ∨
  (∃ f args, (execOp a.eval o).run P w = .ok (.enter f args) w ∧ Calls P f args w fun e w' => ∃ v, e = .returned v ∧ OpPost base R K w r H' v w')

theorem Does.wp {P : Program} {base : Nat} {R : Nat → Nat → Option Value} {K : KW} {w : World} {o : Oper} {a : Act} {r : AV} {H' : Heap} (h : Does P base R K w o a r H') {next : Act → World → Prop} {Q : Exit → Act → World → Prop}
    (hn : ∀ v w', OpPost base R K w r H' v w' → next (a.put o.dst v) w') : o.wp P a w next Q := by
  unfold Oper.wp
  rcases h with ⟨v, w', hr, hp⟩ | ⟨w', hr, hp⟩ | ⟨f, args, hr, hc⟩
  · rw [hr]; exact hn v w' hp
  · rw [hr]; exact hn undef w' hp
  · rw [hr]
    exact hc.mono fun e w' ⟨v, he, hp⟩ => by subst he; exact hn v w' hp

theorem Does.val {P : Program} {base : Nat} {R : Nat → Nat → Option Value} {K : KW} {H : Heap} {w : World} {o : Oper} {a : Act} {r : AV} {v : Value} (hw : WR base R K H w)
    (h : (execOp a.eval o).run P w = .ok (.value v) w) (hr : Rel K r v) : Does P base R K w o a r H :=
  .inl ⟨v, w, h, K, KW.le.refl K, hw, Below.refl _ _, hr⟩

section
variable {P : Program} {w : World}
theorem run_isAgg {t : TypeId} {b : Bool} (h : aggT P t = some b) : (isAgg t).run P w = .ok b w := by
  unfold aggT at h
  rw [Option.map_eq_some_iff] at h
  obtain ⟨d, hd, rfl⟩ := h
  unfold isAgg
  simp only [Sem.run_bind, run_underlying hd, Result.andThen_ok]
  cases d <;> rfl
theorem run_sizeOf {t : TypeId} {n : Nat} (h : szT P t = some n) : (sizeOf t).run P w = .ok n w := by
  unfold szT at h
  rw [Option.map_eq_some_iff] at h
  obtain ⟨i, hi, rfl⟩ := h
  simp [sizeOf, typeInfo, hi]
theorem elT_under {t e : TypeId} (h : elT P t = some e) : P.underlying t = some (.slice e) := by
  unfold elT at h
  split at h
  · rename_i e' he; injection h with h; subst h; exact he
  · cases h
theorem strT_under {t : TypeId} (h : strT P t = some true) : P.underlying t = some .string := by
  unfold strT at h
  rw [Option.map_eq_some_iff] at h
  obtain ⟨d, hd, hb⟩ := h
  cases d <;> simp_all
theorem u8T_under {t : TypeId} (h : u8T P t = some true) : P.underlying t = some (.int .u8) := by
  unfold u8T at h
  rw [Option.map_eq_some_iff] at h
  obtain ⟨d, hd, hb⟩ := h
  split at hb <;> simp_all
theorem szT_info {t : TypeId} {n : Nat} (h : szT P t = some n) : ∃ i, P.info? t = some i ∧ i.size = n := by
  unfold szT at h
  rw [Option.map_eq_some_iff] at h
  exact h
theorem zeroT_info {t : TypeId} {z : Value} (h : zeroT P t = some z) : ∃ i, P.info? t = some i ∧ i.zero = some z := by
  unfold zeroT at h
  rw [Option.bind_eq_some_iff] at h
  exact h
theorem byT_info {t : TypeId} {n : Nat} (h : byT P t = some n) : ∃ i, P.info? t = some i ∧ i.bytes = n := by
  unfold byT at h
  rw [Option.map_eq_some_iff] at h
  exact h
theorem fldT_under {s : TypeId} {f off : Nat} {ft : TypeId} (h : fldT P s f = some (off, ft)) : ∃ fs x, P.underlying s = some (.struct fs) ∧ fs[f]? = some x ∧ x.offset = off ∧ x.type = ft := by
  unfold fldT at h
  split at h
  · rename_i fs hfs
    rw [Option.map_eq_some_iff] at h
    obtain ⟨x, hx, he⟩ := h
    injection he with e1 e2
    exact ⟨fs, x, hfs, hx, e1, e2⟩
  · cases h

theorem add_lit (g k n : Nat) : (⟨g, k, none⟩ : Addr).add n = ⟨g, k + n, none⟩ := by unfold Addr.add; split <;> simp_all

/-- A value read out of cells. -/
theorem run_loadVar_cells {K : KW} {t : TypeId} {cs : List AV} {k g o : Nat} {y : AV} (h : loadA P t cs k = some y)
    (hc : ∀ i c, cs[i]? = some c → ∃ v, w.cell? ⟨g, o + i, none⟩ = some v ∧ v.oneCell' = true ∧ Rel K c v) :
    ∃ v, (loadVar t ⟨g, o + k, none⟩).run P w = .ok v w ∧ Rel K y v := by
  unfold loadA at h
  split at h
  · rename_i n ha hs
    split at h
    · rename_i hle
      injection h with h; subst h
      have key : ∀ l : List AV, (∀ i c, l[i]? = some c → ∃ v, w.cell? ⟨g, o + k + i, none⟩ = some v ∧ v.oneCell' = true ∧ Rel K c v) →
          ∃ vs : List Value, vs.length = l.length ∧ (∀ i v, vs[i]? = some v → w.cell? ⟨g, o + k + i, none⟩ = some v) ∧ RelL K l vs ∧ ∀ u ∈ vs, u.oneCell' = true := by
        intro l
        generalize o + k = q
        induction l generalizing q with
        | nil => intro _; exact ⟨[], rfl, by simp, by simp [RelL], by simp⟩
        | cons c l ih =>
          intro hl
          obtain ⟨v, h1, h2, h3⟩ := hl 0 c rfl
          obtain ⟨vs, e1, e2, e3, e4⟩ := ih (q + 1) fun i c hc => by
            have := hl (i + 1) c (by simpa using hc)
            rwa [show q + (i + 1) = q + 1 + i by omega] at this
          refine ⟨v :: vs, by simp [e1], ?_, by simp only [RelL]; exact ⟨v, vs, rfl, h3, e3⟩, ?_⟩
          · intro i u hu
            cases i with
            | zero => simp at hu; subst hu; simpa using h1
            | succ i => have := e2 i u (by simpa using hu); rwa [show q + (i + 1) = q + 1 + i by omega]
          · intro u hu
            rcases List.mem_cons.1 hu with rfl | hu
            · exact h2
            · exact e4 u hu
      obtain ⟨vs, e1, e2, e3, e4⟩ := key ((cs.drop k).take n) fun i c hi => by
        rw [List.getElem?_take] at hi
        split at hi
        · rw [List.getElem?_drop] at hi
          have := hc _ c hi
          rwa [show o + (k + i) = o + k + i by omega] at this
        · cases hi
      have hlen : vs.length = n := by rw [e1]; simp; omega
      refine ⟨.agg vs.toArray, ?_, by simp only [Rel]; exact ⟨vs, rfl, e3, e4⟩⟩
      have hl := run_loadCells_list (P := P) w ⟨g, o + k, none⟩ vs (fun j v hv => by rw [add_lit]; exact e2 j v hv)
      rw [hlen] at hl
      unfold loadVar
      simp [run_isAgg ha, run_sizeOf hs, hl]
    · cases h
  · rename_i n ha hs
    obtain ⟨v, h1, h2, h3⟩ := hc k y h
    refine ⟨v, ?_, h3⟩
    unfold loadVar
    simp [run_isAgg ha, h1]
  · cases h
end
end Go.Proofs.YtggoggdcnahkaaaDoor
