/- Functions, held against the machine. -/
import Derived.Test.YtggoggdcnahkaaaDoorAe13
import Derived.Calls
set_option linter.unusedVariables false
set_option linter.unusedSimpArgs false
namespace Go.Proofs.YtggoggdcnahkaaaDoor
open Go Go.RowKit

/-! What a body hands back -/
section
variable {P : Program} {base N : Nat} {R : Nat → Nat → Option Value}

def resOne (tmps : Array Value) : ResultVar → Sem Value
  | .tmp t => pure (tmps.getD t undef)
  | .cell a t => do loadVar t (← asAddr (tmps.getD a undef))

theorem resL_run {K : KW} {env : Env} {a : Act} {H : Heap} {w : World} (he : EnvRel K N env a) (hw : WR base R K H w) : ∀ (rs : List ResultVar) (vs : List AV), resA P env H rs = some vs →
    ∃ us, (rs.mapM (resOne a.tmps)).run P w = .ok us w ∧ RelL K vs us
  | [], vs, h => by
    simp only [resA] at h; injection h with h; subst h
    exact ⟨[], by simp, by simp [RelL]⟩
  | .tmp t :: rs, vs, h => by
    simp only [resA] at h
    split at h
    · rename_i v vs' h1 h2
      injection h with h; subst h
      obtain ⟨us, e1, e2⟩ := resL_run he hw rs vs' h2
      refine ⟨a.tmps.getD t undef :: us, ?_, by simp only [RelL]; exact ⟨_, _, rfl, he.slot t v h1, e2⟩⟩
      simp [List.mapM_cons, resOne, Sem.run_bind, e1]
    · cases h
  | .cell p ty :: rs, vs, h => by
    simp only [resA] at h
    split at h
    · rename_i τ vs' h1 h2
      split at h
      · rename_i cs hH
        rw [Option.map_eq_some_iff] at h
        obtain ⟨y, hy, rfl⟩ := h
        obtain ⟨us, e1, e2⟩ := resL_run he hw rs vs' h2
        have hp := he.slot p _ h1
        simp only [Rel] at hp
        obtain ⟨g, m, hl, hv⟩ := hp
        obtain ⟨_, e0, arr, T, hg, k1, k2, _⟩ := hw.tok hH hl
        obtain ⟨v, l1, l2⟩ := run_loadVar_cells (P := P) (w := w) (K := K) (g := g) (o := 0) hy (fun i c hi => by
          obtain ⟨v, hv, hr⟩ := RelL_get k1 i c hi
          refine ⟨v, ?_, k2 v (List.mem_of_getElem? hv), hr⟩
          rw [Nat.zero_add, cell_row hg, ← Array.getElem?_toList]; exact hv)
        refine ⟨v :: us, ?_, by simp only [RelL]; exact ⟨_, _, rfl, l2, e2⟩⟩
        rw [List.mapM_cons]
        simp only [resOne, hv, asAddr, Sem.run_bind, Sem.run_pure, Result.andThen_ok]
        rw [show (0 : Nat) + 0 = 0 from rfl] at l1
        rw [l1]
        simp [e1]
      · cases h
    · cases h

theorem results_run {K : KW} {env : Env} {a : Act} {H : Heap} {w : World} {fn : Func} (he : EnvRel K N env a) (hw : WR base R K H w) {vs : List AV} (h : resA P env H fn.results.toList = some vs) :
    ∃ v, (results fn a.tmps).run P w = .ok v w ∧ Rel K (oneOf vs) v := by
  obtain ⟨us, e1, e2⟩ := resL_run he hw _ _ h
  have hrun : (results fn a.tmps).run P w = .ok (if h : us.toArray.size = 1 then us.toArray[0] else .tuple us.toArray) w := by
    have : results fn a.tmps = (do
      let vs ← fn.results.mapM (resOne a.tmps)
      pure (if h : vs.size = 1 then vs[0] else .tuple vs)) := by
      unfold results
      congr 1
    rw [this, Array.mapM_eq_mapM_toList, Sem.run_bind, ← bind_pure_comp, Sem.run_bind, e1]
    simp
  refine ⟨_, hrun, ?_⟩
  have hlen := RelL_length e2
  cases vs with
  | nil =>
    have : us = [] := List.eq_nil_of_length_eq_zero (by simpa using hlen)
    subst this
    simp [oneOf, Rel, RelL]
  | cons x xs =>
    cases xs with
    | nil =>
      obtain ⟨u, us', rfl, h1, h2⟩ := by simpa only [RelL] using e2
      subst h2
      simpa [oneOf] using h1
    | cons y ys =>
      have : ¬us.toArray.size = 1 := by simp [hlen]
      rw [dif_neg this]
      simp only [oneOf, Rel]
      exact ⟨us, rfl, e2⟩

/-! Tokens that are let go -/
theorem shutH_get {m : Nat} : ∀ {H H' : Heap}, shutH m H = some H' → H'.length = H.length ∧ ∀ (τ : Nat) (r' : Rec), H'[τ]? = some r' → ∃ r, H[τ]? = some r ∧ r.shut m = some r'
  | [], H', h => by simp only [shutH] at h; injection h with h; subst h; simp
  | r :: rs, H', h => by
    simp only [shutH] at h
    split at h
    · rename_i r1 rs1 h1 h2
      injection h with h; subst h
      obtain ⟨e1, e2⟩ := shutH_get h2
      refine ⟨by simp [e1], fun τ r' hr => ?_⟩
      cases τ with
      | zero => simp at hr; subst hr; exact ⟨r, by simp, h1⟩
      | succ τ => simpa using e2 τ r' (by simpa using hr)
    · cases h

theorem RecAt.shut {m : Nat} {K K' : KW} (hu : K.upto m K') (hpc : K'.pc = K.pc) {w : World} {g sz q : Nat} {r r' : Rec} (h : r.shut m = some r') (hr : RecAt K w g sz q r) : RecAt K' w g sz q r' := by
  cases r with
  | box cs =>
    simp only [Rec.shut, Option.map_eq_some_iff] at h
    obtain ⟨ds, hd, rfl⟩ := h
    obtain ⟨e, arr, T, hg, h1, h2, h3⟩ := hr
    exact ⟨e, arr, T, hg, RelL.shut hu _ _ _ hd h1, h2, fun o => by rw [hpc]; exact h3 o⟩
  | own n sz' =>
    simp only [Rec.shut] at h; injection h with h; subst h
    obtain ⟨e, e1, e2, arr, T, hg, h3⟩ := hr
    exact ⟨e, e1, e2, arr, T, hg, fun o ho => by rw [hpc]; exact h3 o ho⟩
  | buf ep cs sz' =>
    simp only [Rec.shut, Option.map_eq_some_iff] at h
    obtain ⟨ds, hd, rfl⟩ := h
    obtain ⟨e, e1, e2, arr, T, hg, h1, h2, h3, h4⟩ := hr
    have hl := shutL_length hd
    exact ⟨e, e1, e2, arr, T, hg, by rw [hl]; exact h1, by rw [hl]; exact RelL.shut hu _ _ _ hd h2, by rw [hl]; exact h3, fun o => by rw [hpc]; exact h4 o⟩

theorem trunc_ok {K K1 : KW} {H H1 H' : Heap} {w w1 : World} {v r : AV} {u : Value} {keep : Nat} (hw : WR base R K H w) (hK : K.le K1) (hw1 : WR base R K1 H1 w1) (hv : Rel K1 v u)
    (h : truncA keep H.length v H1 = some (r, H')) : ∃ K2, K.le K2 ∧ WR base R K2 H' w1 ∧ Rel K2 r u := by
  have hlen : H.length ≤ H1.length := by
    rcases Nat.lt_or_ge H1.length H.length with hlt | hge
    · exfalso
      obtain ⟨g, sz, m, h1, _⟩ := hw.toks (H1.length) _ (List.getElem?_eq_getElem hlt)
      obtain ⟨g', m', h2, _⟩ := hK.loc _ _ _ _ h1
      have := hw1.dom _ _ h2
      omega
    · exact hge
  unfold truncA at h
  split at h
  · injection h with h; injection h with e1 e2; subst e1 e2
    exact ⟨K1, hK, hw1, hv⟩
  split at h
  · cases h
  · rename_i hp hs
    obtain ⟨hl, hget⟩ := shutH_get hs
    have hl' : hp.length = H.length := by rw [hl]; simp; omega
    -- the plain case
    have plain : (AV.shut H.length v).map (·, hp) = some (r, H') → ∃ K2, K.le K2 ∧ WR base R K2 H' w1 ∧ Rel K2 r u := by
      intro h
      rw [Option.map_eq_some_iff] at h
      obtain ⟨y, hy, h⟩ := h
      injection h with e1 e2; subst e1 e2
      let K2 : KW := { K1 with loc := fun t => if t < H.length then K1.loc t else none }
      have hu : K1.upto H.length K2 := ⟨fun _ _ _ h => h, fun t g ht hg => by simp only [K2]; rw [if_pos ht]; exact hg, fun _ _ h => h⟩
      refine ⟨K2, ⟨hK.pc, fun t g sz m hg => ?_, hK.rm⟩, ⟨hw1.pcs, hw1.rms, ?_, ?_, ?_, hw1.size, hw1.low⟩, Rel.shut hu _ _ _ hy hv⟩
      · obtain ⟨g', m', k1, k2⟩ := hK.loc t g sz m hg
        exact ⟨g', m', by simp only [K2]; rw [if_pos (hw.dom _ _ hg)]; exact k1, k2⟩
      · intro t r' hr'
        obtain ⟨r0, h0, h0s⟩ := hget t r' hr'
        have ht : t < H.length := by have := (List.getElem?_eq_some_iff.1 hr').1; omega
        rw [List.getElem?_take, if_pos ht] at h0
        obtain ⟨g, sz, m, k1, k2, k3⟩ := hw1.toks t r0 h0
        exact ⟨g, sz, m, by simp only [K2]; rw [if_pos ht]; exact k1, k2, k3.shut hu rfl h0s⟩
      · intro t x hx
        simp only [K2] at hx
        split at hx
        · omega
        · cases hx
      · intro t t' g x x' h1 h2
        simp only [K2] at h1 h2
        split at h1 <;> split at h2 <;> first | cases h1 | cases h2 | skip
        exact hw1.inj _ _ _ _ _ h1 h2
    -- a token is kept
    have re : ∀ (τ : Nat) (r0 r0' : Rec), ¬τ < H.length → H1[τ]? = some r0 → r0.shut H.length = some r0' → ∃ K2, K.le K2 ∧ WR base R K2 (hp ++ [r0']) w1 ∧ K1.upto H.length K2 ∧ K2.loc H.length = K1.loc τ := by
      intro τ r0 r0' hτ hH hr0
      obtain ⟨g, sz', m', k1, k2, k3⟩ := hw1.toks τ _ hH
      let K2 : KW := { K1 with loc := fun t => if t < H.length then K1.loc t else if t = H.length then K1.loc τ else none }
      have hu : K1.upto H.length K2 := ⟨fun _ _ _ h => h, fun t g ht hg => by simp only [K2]; rw [if_pos ht]; exact hg, fun _ _ h => h⟩
      refine ⟨K2, ⟨hK.pc, fun t g sz m hg => ?_, hK.rm⟩, ⟨hw1.pcs, hw1.rms, ?_, ?_, ?_, hw1.size, hw1.low⟩, hu, by simp [K2]⟩
      · obtain ⟨g', m', k1, k2⟩ := hK.loc t g sz m hg
        exact ⟨g', m', by simp only [K2]; rw [if_pos (hw.dom _ _ hg)]; exact k1, k2⟩
      · intro t r' hr'
        rw [List.getElem?_append] at hr'
        split at hr'
        · rename_i ht
          rw [hl'] at ht
          obtain ⟨r0, h0, h0s⟩ := hget t r' hr'
          rw [List.getElem?_take, if_pos ht] at h0
          obtain ⟨g, sz, m, k1, k2, k3⟩ := hw1.toks t r0 h0
          exact ⟨g, sz, m, by simp only [K2]; rw [if_pos ht]; exact k1, k2, k3.shut hu rfl h0s⟩
        · rename_i ht
          rw [hl'] at ht hr'
          have hlt := (List.getElem?_eq_some_iff.1 hr').1
          simp at hlt
          have : t = H.length := by omega
          subst this
          simp at hr'; subst hr'
          exact ⟨g, sz', m', by simp only [K2]; rw [if_neg ht]; simpa using k1, k2, k3.shut hu rfl hr0⟩
      · intro t x hx
        simp only [K2] at hx
        simp [hl']
        split at hx
        · omega
        · split at hx
          · omega
          · cases hx
      · intro t t' g x x' h1 h2
        simp only [K2] at h1 h2
        split at h1 <;> split at h2
        · exact hw1.inj _ _ _ _ _ h1 h2
        · split at h2
          · have := hw1.inj _ _ _ _ _ h1 h2; omega
          · cases h2
        · split at h1
          · have := hw1.inj _ _ _ _ _ h1 h2; omega
          · cases h1
        · split at h1 <;> split at h2 <;> first | omega | cases h1 | cases h2
    split at h
    · rename_i xs τ _
      split at h
      · exact plain h
      · rename_i hτ
        split at h
        · rename_i k sz ys hH hys
          injection h with h; injection h with e1 e2; subst e1 e2
          obtain ⟨K2, k1, k2, hu, k4⟩ := re τ _ (.own k sz) hτ hH rfl
          refine ⟨K2, k1, k2, ?_⟩
          simp only [Rel] at hv ⊢
          obtain ⟨A, c, sz2, e, hc, hp, hr⟩ := hv
          have hly := shutL_length hys
          refine ⟨A, c, sz2, by rw [hly]; exact e, by rw [hly]; exact hc, ?_, ?_⟩
          · obtain ⟨g2, q, h1, h2, h3, h4⟩ := hp
            exact ⟨g2, q, by rw [k4]; exact h1, h2, by rw [hly]; exact h3, fun e => by
              obtain ⟨a1, r, a2, a3⟩ := h4 (by rw [← hly]; exact e)
              exact ⟨a1, r, hu.rm _ _ a2, a3⟩⟩
          · rcases hr with hr | ⟨b, o, hA, hr⟩
            · subst hr; exact .inl (List.eq_nil_of_length_eq_zero (by simpa using hly))
            · exact .inr ⟨b, o, hA, RelE.shut hu b sz2 o xs ys hys hr⟩
        · cases h
    · rename_i xs _
      rw [Option.map_eq_some_iff] at h
      obtain ⟨ys, hys, h⟩ := h
      injection h with e1 e2; subst e1 e2
      -- as the plain case, and its capacity is its length
      have full : ∀ K2 : KW, Rel K2 (.sl ys .ro) u → Rel K2 (.sl ys .full) u := by
        intro K2 h2
        simp only [Rel] at hv h2 ⊢
        obtain ⟨A, c, sz, e, hc, hp, _⟩ := hv
        obtain ⟨A2, c2, sz2, e2, hc2, _, hr2⟩ := h2
        rw [e] at e2
        injection e2 with a1 a2 a3
        subst a1 a3
        exact ⟨A, c, sz2, by rw [e, a2], hc2, by simp only [PRel] at hp ⊢; omega, hr2⟩
      let K3 : KW := { K1 with loc := fun t => if t < H.length then K1.loc t else none }
      have hu : K1.upto H.length K3 := ⟨fun _ _ _ h => h, fun t g ht hg => by simp only [K3]; rw [if_pos ht]; exact hg, fun _ _ h => h⟩
      have hro : Rel K3 (.sl ys .ro) u := Rel.shut hu (.sl xs .full) u (.sl ys .ro) (by simp [AV.shut, hys]) hv
      refine ⟨K3, ⟨hK.pc, fun t g sz m hg => ?_, hK.rm⟩, ⟨hw1.pcs, hw1.rms, ?_, ?_, ?_, hw1.size, hw1.low⟩, full K3 hro⟩
      · obtain ⟨g', m', k1, k2⟩ := hK.loc t g sz m hg
        exact ⟨g', m', by simp only [K3]; rw [if_pos (hw.dom _ _ hg)]; exact k1, k2⟩
      · intro t r' hr'
        obtain ⟨r0, h0, h0s⟩ := hget t r' hr'
        have ht : t < H.length := by have := (List.getElem?_eq_some_iff.1 hr').1; omega
        rw [List.getElem?_take, if_pos ht] at h0
        obtain ⟨g, sz, m, k1, k2, k3⟩ := hw1.toks t r0 h0
        exact ⟨g, sz, m, by simp only [K3]; rw [if_pos ht]; exact k1, k2, k3.shut hu rfl h0s⟩
      · intro t x hx
        simp only [K3] at hx
        split at hx
        · omega
        · cases hx
      · intro t t' g x x' h1 h2
        simp only [K3] at h1 h2
        split at h1 <;> split at h2 <;> first | cases h1 | cases h2 | skip
        exact hw1.inj _ _ _ _ _ h1 h2
    · rename_i τ ep sz q n _
      split at h
      · rename_i hτ
        exact plain (by rw [← h]; simp [AV.shut, hτ])
      · rename_i hτ
        split at h
        · rename_i e' cs sz' hH
          split at h
          · rename_i ds hds
            injection h with h; injection h with e1 e2; subst e1 e2
            obtain ⟨K2, k1, k2, hu, k4⟩ := re τ _ (.buf e' ds sz') hτ hH (by simp [Rec.shut, hds])
            refine ⟨K2, k1, k2, ?_⟩
            simp only [Rel] at hv ⊢
            obtain ⟨g, m, A, c, h1, h2, h3, h4, h5, h6, h7⟩ := hv
            exact ⟨g, m, A, c, by rw [k4]; exact h1, h2, h3, h4, h5, h6, fun e => ⟨(h7 e).choose, hu.rm _ _ (h7 e).choose_spec.1, (h7 e).choose_spec.2⟩⟩
          · cases h
        · cases h
    · exact plain h

/-! Calls that let all tokens go -/
theorem fin_ok {K K1 : KW} {h : Heap} {w w1 : World} {v r : AV} {u : Value} (hw : WR base R K [] w) (hK : K.le K1) (hw1 : WR base R K1 h w1) (hv : Rel K1 v u) (hf : finA h v = some r) :
    ∃ K2, K.le K2 ∧ WR base R K2 [] w1 ∧ Rel K2 r u := by
  have plain : AV.shut 0 v = some r → ∃ K2, K.le K2 ∧ WR base R K2 [] w1 ∧ Rel K2 r u := by
    intro hy
    let K3 : KW := { K1 with loc := fun _ => none }
    have hu : K1.upto 0 K3 := ⟨fun _ _ _ h => h, fun _ _ h => absurd h (Nat.not_lt_zero _), fun _ _ h => h⟩
    refine ⟨K3, ⟨hK.pc, fun τ g sz m hx => ?_, hK.rm⟩, ⟨hw1.pcs, hw1.rms, fun τ r h => by simp at h, fun τ g h => by simp [K3] at h, fun τ τ' g x x' h => by simp [K3] at h, hw1.size, hw1.low⟩, Rel.shut hu _ _ _ hy hv⟩
    have := hw.dom τ _ hx; simp at this
  unfold finA at hf
  split at hf
  · rename_i τ e sz q n
    split at hf
    · rename_i e' cs sz' hτ
      split at hf
      · rename_i hc
        obtain ⟨rfl, rfl⟩ := hc
        split at hf
        · rename_i ys hys
          rw [Option.map_eq_some_iff] at hf
          obtain ⟨zs, hzs, rfl⟩ := hf
          have hv' := hv
          obtain ⟨g0, sz0, m0, hl0, hbg, hrec⟩ := hw1.toks τ _ hτ
          -- the row's cells
          have hnews : ∃ news, News K1 ys sz' news ∧ ∃ g m A c, K1.loc τ = some (g, sz', m) ∧ u = .slice A n c ∧ n ≤ c ∧ (c = 0 ∨ A = some ⟨g, q * sz', none⟩) ∧ ys.length = n ∧ ∀ j v, news[j]? = some v → w1.cell? ⟨g, q * sz' + j, none⟩ = some v := by
            simp only [Rel] at hv
            obtain ⟨g, m, A, c, hg, h2, h3, rfl, h5, h6, h7⟩ := hv
            obtain ⟨_, _, e1, _, arr, T, hh, hsz, hrl, ho, _⟩ := hw1.tok hτ hg
            obtain ⟨news, n1, n2⟩ := view_news hh hsz hrl ho hys
            exact ⟨news, n1, g, m, A, c, hg, rfl, h5, h6.imp id (fun ⟨b, p, hA, hbp⟩ => by rw [hA, (hbp e1).1, (hbp e1).2]), (view_get hrl ho hys).2.1, n2⟩
          obtain ⟨news, hn, g, m, A, c, hg, rfl, hnc, hA, hyl, hcell⟩ := hnews
          rw [hl0] at hg; injection hg with hg; injection hg with e1 hg; injection hg with e2 e3; subst e1 e2 e3
          have hpcn : ∀ o, K1.pc g0 o = none := by
            obtain ⟨_, _, _, arr, T, _, _, _, _, hpc⟩ := hrec
            exact hpc
          let f : Nat → Nat → Option Value := fun b o => if b = g0 then (if q * sz0 ≤ o then news[o - q * sz0]? else none) else K1.pc b o
          let K2 : KW := { K1 with pc := f }
          let K3 : KW := { K1 with pc := f, loc := fun _ => none }
          have hf1 : ∀ b o v, K1.pc b o = some v → f b o = some v := by
            intro b o v hbo
            simp only [f]
            split
            · rename_i e; subst e; rw [hpcn o] at hbo; cases hbo
            · exact hbo
          have hle : K1.le K2 := ⟨hf1, fun τ g sz m h => ⟨g, m, h, .inl ⟨rfl, rfl⟩⟩, fun _ _ h => h⟩
          have hu : K2.upto 0 K3 := ⟨fun _ _ _ h => h, fun _ _ h => absurd h (Nat.not_lt_zero _), fun _ _ h => h⟩
          refine ⟨K3, ⟨fun b o v h => hf1 b o v (hK.pc b o v h), fun τ g sz m hx => ?_, hK.rm⟩, ⟨?_, hw1.rms, fun τ r h => by simp at h, fun τ g h => by simp [K3] at h, fun τ τ' g x x' h => by simp [K3] at h, hw1.size, ?_⟩, ?_⟩
          · have := hw.dom τ _ hx; simp at this
          · intro b o v h
            simp only [K3, f] at h
            split at h
            · rename_i e; subst e
              split at h
              · rename_i ho
                have := hcell _ v h
                rwa [show q * sz0 + (o - q * sz0) = o by omega] at this
              · cases h
            · exact hw1.pcs b o v h
          · intro b o hb
            simp only [K3, f]
            rw [if_neg (by omega)]
            exact hw1.low b o hb
          · have hzl := shutL_length hzs
            simp only [Rel]
            refine ⟨A, c, sz0, by rw [hzl, hyl], by rw [hzl, hyl]; exact hnc, trivial, ?_⟩
            rcases hA with hA | hA
            · left; exact List.eq_nil_of_length_eq_zero (by omega)
            · right
              refine ⟨g0, q * sz0, hA, RelE.shut hu g0 sz0 _ ys zs hzs (hn.at_ K2 g0 (q * sz0) hle fun j v hj => ?_)⟩
              simp only [K2, f, if_true]
              rw [if_pos (by omega), show q * sz0 + j - q * sz0 = j by omega]
              exact hj
        · cases hf
      · cases hf
    · cases hf
  · exact plain hf

/-! Calls that look at no token -/
def PureCalls (P : Program) (G : Nat → Nat → Option Value) (f : FuncId) (avs : List AV) (r : AV) : Prop :=
  ∀ R K w args, Gr G w.heap.size R → WR w.heap.size R K [] w → RelL K avs args.toList → Calls P f args w fun e w' => ∃ v, e = .returned v ∧ OpPost w.heap.size R K w r [] v w'

theorem lift_pure {G : Nat → Nat → Option Value} {f : FuncId} {avs as : List AV} {r : AV} {K : KW} {H : Heap} {w : World} {args : Array Value} (hp : PureCalls P G f as r) (hG : Gr G base R) (hs : AV.shutL 0 avs = some as) (hw : WR base R K H w) (ha : RelL K avs args.toList) :
    Calls P f args w fun e w' => ∃ v, e = .returned v ∧ OpPost base R K w r H v w' := by
  let K0 : KW := { K with loc := fun _ => none }
  have hu : K.upto 0 K0 := ⟨fun _ _ _ h => h, fun _ _ h => absurd h (Nat.not_lt_zero _), fun _ _ h => h⟩
  have hw0 : WR w.heap.size K0.pc K0 [] w := ⟨hw.pcs, hw.rms, fun τ r h => by simp at h, fun τ g h => by simp [K0] at h, fun τ τ' g x x' h => by simp [K0] at h, Nat.le_refl _, fun _ _ _ => rfl⟩
  refine (hp K0.pc K0 w args (fun b o v hv => ⟨Nat.lt_of_lt_of_le (hG b o v hv).1 hw.size, (hw.low b o (hG b o v hv).1).trans (hG b o v hv).2⟩) hw0 (RelL.shut hu _ _ _ hs ha)).mono fun e w' ⟨v, he, K', l1, l2, l3, l4⟩ => ⟨v, he, ?_⟩
  have hno : ∀ τ, K'.loc τ = none := by
    intro τ
    cases hx : K'.loc τ with
    | none => rfl
    | some x => have := l2.dom τ x hx; simp at this
  have hle : K.le { K' with loc := K.loc } := ⟨l1.pc, fun τ g sz m h => ⟨g, m, h, .inl ⟨rfl, rfl⟩⟩, l1.rm⟩
  refine ⟨{ K' with loc := K.loc }, hle, hw.step hle rfl l2.pcs l2.rms (fun τ g x hx => ⟨l3.block g (hw.loc_lt hx), fun o => l2.low g o (hw.loc_lt hx)⟩) l3.size (fun b o hb => l2.low b o (Nat.lt_of_lt_of_le hb hw.size)), ?_, ?_⟩
  · exact ⟨l3.os, l3.tape, l3.output, l3.size, fun k hk => l3.block k (Nat.lt_of_lt_of_le hk hw.size)⟩
  · refine Rel.mono (K := K') (K' := { K' with loc := K.loc }) ⟨fun _ _ _ h => h, fun τ g sz m h => ?_, fun _ _ h => h⟩ _ _ l4
    rw [hno τ] at h; cases h
end

/-! The functions of a program -/
/-- What a function does to tokens. -/
def HeapCalls (P : Program) (G : Nat → Nat → Option Value) (f : FuncId) (avs : List AV) (H : Heap) (r : AV) (H' : Heap) : Prop :=
  ∀ base R K w args, Gr G base R → WR base R K H w → RelL K avs args.toList → Calls P f args w fun e w' => ∃ v, e = .returned v ∧ OpPost base R K w r H' v w'

/-- What the machine answers itself. -/
def SelfCalls (P : Program) (G : Nat → Nat → Option Value) (f : FuncId) (avs : List AV) (r : AV) : Prop :=
  ∀ base R K H w args, Gr G base R → WR base R K H w → RelL K avs args.toList → ∃ v, (callFunc f args).run P w = .ok (.value v) w ∧ Rel K r v

structure TabOK (P : Program) (T : Tab) : Prop where
  fn : ∀ f fi, T.C f = some fi → ∃ fn, P.funcs[f]? = some fn ∧ fn.body = some fi.body ∧ (fn.name == "runtime.NumGoroutine") = false ∧ fn.results.toList = fi.res ∧ dstsOK fn.ntmps fi.body = true ∧ fi.np ≤ fn.ntmps
  fnO : ∀ f g, T.O f = some g → ∃ fn, P.funcs[f]? = some fn ∧ fn.body.isNone = false ∧ (fn.name == "runtime.NumGoroutine") = false
  okO : ∀ f g, T.O f = some g → ∀ as r, g as = some r → PureCalls P T.G f as r
  fnH : ∀ f g, T.OH f = some g → ∃ fn, P.funcs[f]? = some fn ∧ fn.body.isNone = false ∧ (fn.name == "runtime.NumGoroutine") = false
  okX : ∀ f g, T.X f = some g → ∀ as r, g as = some r → SelfCalls P T.G f as r
  okH : ∀ f g, T.OH f = some g → ∀ avs H r H', g avs H = some (r, H') → HeapCalls P T.G f avs H r H'

section
variable {P : Program} {T : Tab}

theorem env_args {K : KW} {avs : List AV} {args : Array Value} {N : Nat} (ha : RelL K avs args.toList) (hN : avs.length ≤ N) : EnvRel K N (argEnv avs) { tmps := args ++ Array.replicate (N - args.size) undef, defers := [] } := by
  have hl := RelL_length ha
  simp at hl
  refine ⟨by simp; omega, fun t x hx => ?_, rfl⟩
  obtain ⟨v, hv, hr⟩ := RelL_get ha t x hx
  have : (args ++ Array.replicate (N - args.size) undef)[t]? = some v := by
    rw [Array.getElem?_append]
    have ht : t < args.size := by have := (List.getElem?_eq_some_iff.1 hv).1; simpa using this
    rw [if_pos ht, ← Array.getElem?_toList]; exact hv
  simp only [Array.getD_eq_getD_getElem?, this]
  exact hr

theorem callA_ok (hT : TabOK P T) (hm : P.follows .mixedOrders = true) {cf : FuncId → List AV → Heap → Option (AV × Heap)} (n : Nat) (ih1 : CfOK P T.G cf) (ih2 : PureCf T.pure cf) : CfOK P T.G (callA P T cf n) ∧ PureCf T.pure (callA P T cf n) := by
  refine ⟨fun f avs H r H' h => ?_, fun f hf l H x H1 h => ?_⟩
  · simp only [callA] at h
    split at h
    · rename_i g hg
      obtain ⟨hy, rfl⟩ := mapH h
      intro base R K w args hG hw ha
      obtain ⟨v, h1, h2⟩ := hT.okX f g hg avs r hy base R K _ w args hG hw ha
      exact .inr ⟨v, w, h1, OpPost.same hw h2⟩
    split at h
    · rename_i g hg
      exact fun base R K w args hG hw ha => .inl ⟨hT.fnH f g hg, hT.okH f g hg avs H r H' h base R K w args hG hw ha⟩
    · split at h
      · rename_i g hg
        split at h
        · cases h
        · rename_i as has
          rw [Option.map_eq_some_iff] at h
          obtain ⟨y, hy, h⟩ := h
          injection h with e1 e2; subst e1 e2
          exact fun base R K w args hG hw ha => .inl ⟨hT.fnO f g hg, lift_pure (hT.okO f g hg as y hy) hG has hw ha⟩
      · rename_i hno
        split at h
        · cases h
        · rename_i fi hfi
          obtain ⟨fn, f1, f2, f3, f4, f5, f6⟩ := hT.fn f fi hfi
          refine fun base R K w args hG hw ha => .inl ⟨⟨fn, f1, by rw [f2]; rfl, f3⟩, ?_⟩
          split at h
          · rename_i hlen
            split at h
            · split at h
              · cases h
              · rename_i as has
                have hlen' : as.length = fi.np := by rw [shutL_length has, hlen]
                split at h
                · cases h
                · cases h
                · rename_i x e h1 hx hev
                  split at h
                  · cases h
                  · rename_i vs hvs
                    rw [Option.map_eq_some_iff] at h
                    obtain ⟨y, hy, h⟩ := h
                    injection h with e1 e2; subst e1 e2
                    refine lift_pure (fun R' K' w' args' hG' hw' ha' => ?_) hG has hw ha
                    refine calls_of_wp f1 f2 (evC_sound ih1 hG' ih2 hm _ f5 K' _ _ _ _ _ _ _ hw' (env_args ha' (by omega)) hev _ fun a2 w2 ⟨K2, k1, k2, k3, k4⟩ => ?_)
                    have key : ∃ v, (results fn a2.tmps).run P w2 = .ok v w2 ∧ OpPost w'.heap.size R' K' w' y [] v w2 := by
                      rw [← f4] at hvs
                      obtain ⟨v, r1, r2⟩ := results_run k4 k2 hvs
                      obtain ⟨K3, l1, l2, l3⟩ := fin_ok hw' k1 k2 r2 hy
                      exact ⟨v, r1, K3, l1, l2, k3, l3⟩
                    cases x with
                    | normal => exact ⟨k4.defers, key.choose, key.choose_spec.1, _, rfl, key.choose_spec.2⟩
                    | ret => exact ⟨k4.defers, key.choose, key.choose_spec.1, _, rfl, key.choose_spec.2⟩
                    | exit i => exact absurd rfl (hx _)
            · split at h
              · cases h
              · cases h
              · rename_i x e h1 hx hev
                split at h
                · cases h
                · rename_i vs hvs
                  refine calls_of_wp f1 f2 (evC_sound ih1 hG ih2 hm _ f5 K _ _ _ _ _ _ _ hw (env_args ha (by omega)) hev _ fun a2 w2 ⟨K2, k1, k2, k3, k4⟩ => ?_)
                  have key : ∃ v, (results fn a2.tmps).run P w2 = .ok v w2 ∧ OpPost base R K w r H' v w2 := by
                    rw [← f4] at hvs
                    obtain ⟨v, r1, r2⟩ := results_run k4 k2 hvs
                    obtain ⟨K3, l1, l2, l3⟩ := trunc_ok hw k1 k2 r2 h
                    exact ⟨v, r1, K3, l1, l2, k3, l3⟩
                  cases x with
                  | normal => exact ⟨k4.defers, key.choose, key.choose_spec.1, _, rfl, key.choose_spec.2⟩
                  | ret => exact ⟨k4.defers, key.choose, key.choose_spec.1, _, rfl, key.choose_spec.2⟩
                  | exit i => exact absurd rfl (hx _)
          · cases h
  · simp only [callA] at h ⊢
    split at h
    · exact map_same h
    rename_i hnx
    split at h
    · rename_i g hg
      simp [Tab.pure, hg, hnx] at hf
    · rename_i hnh
      split at h
      · rename_i g hg
        split at h
        · cases h
        · rename_i as has
          exact map_same h
      · rename_i hno
        simp only [Tab.pure, hnx, hnh, hno, Option.isSome_none, Option.isNone_none, Bool.true_and, Bool.false_or] at hf
        split at h
        · cases h
        · rename_i fi hfi
          simp only [hfi, Option.map_some, Option.getD_some] at hf
          simp only [hf, if_true] at h ⊢
          split at h
          · rename_i hlen
            simp only [hlen, if_true]
            split at h
            · cases h
            · rename_i as has
              split at h
              · cases h
              · cases h
              · rename_i x e h1 hx hev
                split at h
                · cases h
                · rename_i vs hvs
                  exact map_same h
          · cases h

theorem Goes.calls {base : Nat} {R : Nat → Nat → Option Value} {K : KW} {w : World} {f : FuncId} {args : Array Value} {r : AV} {H' : Heap} {fn : Func} (h : Goes P base R K w f args r H') (h1 : P.funcs[f]? = some fn) (h2 : fn.body.isNone = false) (h3 : (fn.name == "runtime.NumGoroutine") = false) :
    Calls P f args w fun e w' => ∃ v, e = .returned v ∧ OpPost base R K w r H' v w' := by
  rcases h with ⟨_, h⟩ | ⟨v, w', h, _⟩
  · exact h
  · exfalso
    simp only [callFunc, Sem.run_bind, run_program, Result.andThen_ok, h1, h3, h2] at h
    simp at h

theorem evF_ok (hT : TabOK P T) (hm : P.follows .mixedOrders = true) : ∀ n, CfOK P T.G (evF P T n) ∧ PureCf T.pure (evF P T n)
  | 0 => ⟨fun f avs H r H' h => by simp [evF] at h, fun f hf l H x H1 h => by simp [evF] at h⟩
  | n + 1 => by
    obtain ⟨ih1, ih2⟩ := evF_ok hT hm n
    exact callA_ok hT hm n ih1 ih2
end
end Go.Proofs.YtggoggdcnahkaaaDoor
