/- The evaluator's relation between abstract and concrete values: what it keeps. -/
import Derived.Test.YtggoggdcnahkaaaDoorAe1
set_option linter.unusedVariables false
namespace Go.Proofs.YtggoggdcnahkaaaDoor
open Go

theorem PRel.mono {K K' : KW} (h : K.le K') {p : Prov} {A : Option Addr} {n c sz : Nat} (hp : PRel K p A n c sz) : PRel K' p A n c sz := by
  cases p with
  | ro => trivial
  | full => exact hp
  | own τ =>
    obtain ⟨g, m, h1, h2, h3, h4⟩ := hp
    obtain ⟨g', m', k1, d⟩ := h.loc _ _ _ _ h1
    refine ⟨g', m', k1, h2, ?_, fun e => ?_⟩
    · rcases d with ⟨_, rfl⟩ | ⟨_, d⟩ <;> omega
    · rcases d with ⟨rfl, rfl⟩ | ⟨_, d⟩
      · obtain ⟨a1, r, a2, a3⟩ := h4 e
        exact ⟨a1, r, h.rm _ _ a2, a3⟩
      · omega

theorem RelE_cons (K : KW) (b sz o : Nat) (x : AV) (xs : List AV) :
    RelE K b sz o (x :: xs) ↔ (x.cells.length = sz ∧ RelC K b o x.cells) ∧ RelE K b sz (o + sz) xs := by
  cases x <;> simp [RelE, RelC, AV.cells]

mutual
theorem Rel.mono {K K' : KW} (h : K.le K') : ∀ (x : AV) (v : Value), Rel K x v → Rel K' x v
  | .s v0, v, hx => by simpa [Rel] using hx
  | .agg cs, v, hx => by
    simp only [Rel] at hx ⊢
    obtain ⟨vs, e, hl, ho⟩ := hx
    exact ⟨vs, e, RelL.mono h cs vs hl, ho⟩
  | .tup cs, v, hx => by
    simp only [Rel] at hx ⊢
    obtain ⟨vs, e, hl⟩ := hx
    exact ⟨vs, e, RelL.mono h cs vs hl⟩
  | .sl xs p, v, hx => by
    simp only [Rel] at hx ⊢
    obtain ⟨A, c, sz, e, hc, hp, hr⟩ := hx
    refine ⟨A, c, sz, e, hc, hp.mono h, ?_⟩
    rcases hr with hr | ⟨b, o, hA, hr⟩
    · exact .inl hr
    · exact .inr ⟨b, o, hA, RelE.mono h b sz o xs hr⟩
  | .ip cs k, v, hx => by
    simp only [Rel] at hx ⊢
    obtain ⟨b, o, e, hr⟩ := hx
    exact ⟨b, o, e, RelC.mono h b o cs hr⟩
  | .ptr τ k, v, hx => by
    simp only [Rel] at hx ⊢
    obtain ⟨g, m, hg, e⟩ := hx
    exact ⟨g, m, h.box hg, e⟩
  | .bs τ ep sz o n, v, hx => by
    simp only [Rel] at hx ⊢
    obtain ⟨g, m, A, c, h1, h2, h3, h4, h5, h6, h7⟩ := hx
    obtain ⟨g', m', k1, d⟩ := h.loc _ _ _ _ h1
    rcases d with ⟨rfl, rfl⟩ | ⟨_, d⟩
    · exact ⟨g', m', A, c, k1, h2, h3, h4, h5, h6, fun e => ⟨(h7 e).choose, h.rm _ _ (h7 e).choose_spec.1, (h7 e).choose_spec.2⟩⟩
    · refine ⟨g', m', A, c, k1, h2, by omega, h4, h5, ?_, fun e => by omega⟩
      rcases h6 with h6 | ⟨b, q, h6, _⟩
      · exact .inl h6
      · exact .inr ⟨b, q, h6, fun e => by omega⟩
  | .bp τ ep k, v, hx => by
    simp only [Rel] at hx ⊢
    obtain ⟨g, sz, m, b, q, h1, h2, h3, h4, h5⟩ := hx
    obtain ⟨g', m', k1, d⟩ := h.loc _ _ _ _ h1
    refine ⟨g', sz, m', b, q, k1, h2, ?_, h4, fun e => ?_⟩
    · rcases d with ⟨_, rfl⟩ | ⟨_, d⟩ <;> omega
    · rcases d with ⟨rfl, rfl⟩ | ⟨_, d⟩
      · exact h5 e
      · omega
  | .ifc t x, v, hx => by
    simp only [Rel] at hx ⊢
    obtain ⟨u, e, hr⟩ := hx
    exact ⟨u, e, Rel.mono h x u hr⟩
  | .clo f caps, v, hx => by
    simp only [Rel] at hx ⊢
    obtain ⟨vs, e, hl⟩ := hx
    exact ⟨vs, e, RelL.mono h caps vs hl⟩
theorem RelL.mono {K K' : KW} (h : K.le K') : ∀ (xs : List AV) (vs : List Value), RelL K xs vs → RelL K' xs vs
  | [], vs, hx => by simpa [RelL] using hx
  | x :: xs, vs, hx => by
    simp only [RelL] at hx ⊢
    obtain ⟨u, us, e, h1, h2⟩ := hx
    exact ⟨u, us, e, Rel.mono h x u h1, RelL.mono h xs us h2⟩
theorem RelC.mono {K K' : KW} (h : K.le K') (b : Nat) : ∀ (o : Nat) (cs : List AV), RelC K b o cs → RelC K' b o cs
  | o, [], hx => by simp [RelC]
  | o, c :: cs, hx => by
    simp only [RelC] at hx ⊢
    obtain ⟨⟨v, h1, h2, h3⟩, hr⟩ := hx
    exact ⟨⟨v, h.pc _ _ _ h1, h2, Rel.mono h c v h3⟩, RelC.mono h b (o + 1) cs hr⟩
theorem RelE.mono {K K' : KW} (h : K.le K') (b sz : Nat) : ∀ (o : Nat) (xs : List AV), RelE K b sz o xs → RelE K' b sz o xs
  | o, [], hx => by simp [RelE]
  | o, x :: xs, hx => by
    rw [RelE_cons] at hx ⊢
    obtain ⟨⟨h1, h2⟩, hr⟩ := hx
    refine ⟨⟨h1, ?_⟩, RelE.mono h b sz (o + sz) xs hr⟩
    cases x with
    | agg cs => exact RelC.mono h b o cs h2
    | s v0 => simp only [AV.cells, RelC] at h2 ⊢; obtain ⟨⟨v, a1, a2, a3⟩, _⟩ := h2; exact ⟨⟨v, h.pc _ _ _ a1, a2, Rel.mono h _ v a3⟩, trivial⟩
    | tup cs => simp only [AV.cells, RelC] at h2 ⊢; obtain ⟨⟨v, a1, a2, a3⟩, _⟩ := h2; exact ⟨⟨v, h.pc _ _ _ a1, a2, Rel.mono h _ v a3⟩, trivial⟩
    | sl ys p => simp only [AV.cells, RelC] at h2 ⊢; obtain ⟨⟨v, a1, a2, a3⟩, _⟩ := h2; exact ⟨⟨v, h.pc _ _ _ a1, a2, Rel.mono h _ v a3⟩, trivial⟩
    | ip cs k => simp only [AV.cells, RelC] at h2 ⊢; obtain ⟨⟨v, a1, a2, a3⟩, _⟩ := h2; exact ⟨⟨v, h.pc _ _ _ a1, a2, Rel.mono h _ v a3⟩, trivial⟩
    | ptr τ k => simp only [AV.cells, RelC] at h2 ⊢; obtain ⟨⟨v, a1, a2, a3⟩, _⟩ := h2; exact ⟨⟨v, h.pc _ _ _ a1, a2, Rel.mono h _ v a3⟩, trivial⟩
    | bs τ e sz' o' n' => simp only [AV.cells, RelC] at h2 ⊢; obtain ⟨⟨v, a1, a2, a3⟩, _⟩ := h2; exact ⟨⟨v, h.pc _ _ _ a1, a2, Rel.mono h _ v a3⟩, trivial⟩
    | bp τ e k => simp only [AV.cells, RelC] at h2 ⊢; obtain ⟨⟨v, a1, a2, a3⟩, _⟩ := h2; exact ⟨⟨v, h.pc _ _ _ a1, a2, Rel.mono h _ v a3⟩, trivial⟩
    | ifc t y => simp only [AV.cells, RelC] at h2 ⊢; obtain ⟨⟨v, a1, a2, a3⟩, _⟩ := h2; exact ⟨⟨v, h.pc _ _ _ a1, a2, Rel.mono h _ v a3⟩, trivial⟩
    | clo f cs => simp only [AV.cells, RelC] at h2 ⊢; obtain ⟨⟨v, a1, a2, a3⟩, _⟩ := h2; exact ⟨⟨v, h.pc _ _ _ a1, a2, Rel.mono h _ v a3⟩, trivial⟩
end

/-! Lists -/
theorem RelL_length {K : KW} : ∀ {xs : List AV} {vs : List Value}, RelL K xs vs → vs.length = xs.length
  | [], vs, h => by simp only [RelL] at h; simp [h]
  | x :: xs, vs, h => by
    simp only [RelL] at h
    obtain ⟨u, us, rfl, _, h2⟩ := h
    simp [RelL_length h2]
theorem RelL_get {K : KW} : ∀ {xs : List AV} {vs : List Value}, RelL K xs vs → ∀ (i : Nat) (x : AV), xs[i]? = some x → ∃ v, vs[i]? = some v ∧ Rel K x v
  | [], vs, h, i, x, hx => by simp at hx
  | y :: xs, vs, h, i, x, hx => by
    simp only [RelL] at h
    obtain ⟨u, us, rfl, h1, h2⟩ := h
    cases i with
    | zero => simp at hx; subst hx; exact ⟨u, by simp, h1⟩
    | succ i => simpa using RelL_get h2 i x (by simpa using hx)
theorem RelL_of {K : KW} : ∀ {xs : List AV} {vs : List Value}, vs.length = xs.length → (∀ (i : Nat) (x : AV) (v : Value), xs[i]? = some x → vs[i]? = some v → Rel K x v) → RelL K xs vs
  | [], vs, hl, h => by simp only [RelL]; exact List.eq_nil_of_length_eq_zero (by simpa using hl)
  | x :: xs, [], hl, h => by simp at hl
  | x :: xs, v :: vs, hl, h => by
    simp only [RelL]
    exact ⟨v, vs, rfl, h 0 x v rfl rfl, RelL_of (by simpa using hl) fun i y u hy hu => h (i + 1) y u (by simpa using hy) (by simpa using hu)⟩
theorem RelL_append {K : KW} : ∀ {xs ys : List AV} {vs us : List Value}, RelL K xs vs → RelL K ys us → RelL K (xs ++ ys) (vs ++ us)
  | [], ys, vs, us, h, k => by simp only [RelL] at h; subst h; simpa using k
  | x :: xs, ys, vs, us, h, k => by
    simp only [RelL] at h
    obtain ⟨u, us', rfl, h1, h2⟩ := h
    simp only [List.cons_append, RelL]
    exact ⟨u, _, rfl, h1, RelL_append h2 k⟩
theorem RelL_take {K : KW} {xs : List AV} {vs : List Value} (h : RelL K xs vs) (n : Nat) : RelL K (xs.take n) (vs.take n) := by
  refine RelL_of (by simp [RelL_length h]) fun i x v hx hv => ?_
  rw [List.getElem?_take] at hx hv
  split at hx
  · rename_i hi
    simp only [hi, if_true] at hv
    obtain ⟨v', hv', hr⟩ := RelL_get h i x hx
    rw [hv] at hv'; injection hv' with hv'; rw [hv']; exact hr
  · simp at hx
theorem RelL_drop {K : KW} {xs : List AV} {vs : List Value} (h : RelL K xs vs) (n : Nat) : RelL K (xs.drop n) (vs.drop n) := by
  refine RelL_of (by simp [RelL_length h]) fun i x v hx hv => ?_
  rw [List.getElem?_drop] at hx hv
  obtain ⟨v', hv', hr⟩ := RelL_get h _ x hx
  rw [hv] at hv'; injection hv' with hv'; rw [hv']; exact hr
theorem RelC_iff {K : KW} {b : Nat} : ∀ {o : Nat} {cs : List AV}, RelC K b o cs ↔ ∀ (i : Nat) (c : AV), cs[i]? = some c → ∃ v, K.pc b (o + i) = some v ∧ v.oneCell' = true ∧ Rel K c v
  | o, [] => by simp [RelC]
  | o, c :: cs => by
    simp only [RelC, RelC_iff (o := o + 1) (cs := cs)]
    constructor
    · rintro ⟨h0, h⟩ i x hx
      cases i with
      | zero => simp at hx; subst hx; simpa using h0
      | succ i => obtain ⟨v, h1, h2⟩ := h i x (by simpa using hx); exact ⟨v, by rw [← h1]; congr 1; omega, h2⟩
    · intro h
      refine ⟨by simpa using h 0 c rfl, fun i x hx => ?_⟩
      obtain ⟨v, h1, h2⟩ := h (i + 1) x (by simpa using hx)
      exact ⟨v, by rw [← h1]; congr 1; omega, h2⟩
theorem RelE_iff {K : KW} {b sz : Nat} : ∀ {o : Nat} {xs : List AV}, RelE K b sz o xs ↔ ∀ (i : Nat) (x : AV), xs[i]? = some x → x.cells.length = sz ∧ RelC K b (o + i * sz) x.cells
  | o, [] => by simp [RelE]
  | o, x :: xs => by
    rw [RelE_cons, RelE_iff (o := o + sz) (xs := xs)]
    constructor
    · rintro ⟨h0, h⟩ i y hy
      cases i with
      | zero => simp at hy; subst hy; simpa using h0
      | succ i => obtain ⟨h1, h2⟩ := h i y (by simpa using hy); exact ⟨h1, by rw [Nat.succ_mul, Nat.add_comm (i * sz) sz, ← Nat.add_assoc]; exact h2⟩
    · intro h
      refine ⟨by simpa using h 0 x rfl, fun i y hy => ?_⟩
      obtain ⟨h1, h2⟩ := h (i + 1) y (by simpa using hy)
      exact ⟨h1, by rw [Nat.succ_mul, Nat.add_comm (i * sz) sz, ← Nat.add_assoc] at h2; exact h2⟩

/-- A value's cells. -/
theorem Rel_cells {K : KW} {x : AV} {v : Value} (h : Rel K x v) (ht : x.isTup = false) : RelL K x.cells v.cells.toList ∧ ∀ u ∈ v.cells.toList, u.oneCell' = true := by
  cases x with
  | agg cs =>
    simp only [Rel] at h
    obtain ⟨vs, rfl, hl, ho⟩ := h
    exact ⟨by simpa [AV.cells, Value.cells] using hl, by simpa [Value.cells] using ho⟩
  | tup cs => simp [AV.isTup] at ht
  | s v0 =>
    have h' := h
    simp only [Rel] at h
    obtain ⟨rfl, ho⟩ := h
    have : v.cells = #[v] := by cases v <;> simp_all [Value.cells, Value.oneCell']
    rw [this]; exact ⟨by simp only [AV.cells, RelL]; exact ⟨_, [], rfl, h', rfl⟩, by simpa using ho⟩
  | sl xs p => have h' := h; simp only [Rel] at h; obtain ⟨A, c, sz, rfl, _⟩ := h; exact ⟨by simp only [AV.cells, RelL, Value.cells]; exact ⟨_, [], rfl, h', rfl⟩, by simp [Value.cells, Value.oneCell']⟩
  | ip cs k => have h' := h; simp only [Rel] at h; obtain ⟨b, o, rfl, _⟩ := h; exact ⟨by simp only [AV.cells, RelL, Value.cells]; exact ⟨_, [], rfl, h', rfl⟩, by simp [Value.cells, Value.oneCell']⟩
  | ptr τ k => have h' := h; simp only [Rel] at h; obtain ⟨g, sz, _, rfl⟩ := h; exact ⟨by simp only [AV.cells, RelL, Value.cells]; exact ⟨_, [], rfl, h', rfl⟩, by simp [Value.cells, Value.oneCell']⟩
  | bs τ e sz o n => have h' := h; simp only [Rel] at h; obtain ⟨g, m, A, c, _, _, _, rfl, _⟩ := h; exact ⟨by simp only [AV.cells, RelL, Value.cells]; exact ⟨_, [], rfl, h', rfl⟩, by simp [Value.cells, Value.oneCell']⟩
  | bp τ e k => have h' := h; simp only [Rel] at h; obtain ⟨g, sz, m, b, q, _, _, _, rfl, _⟩ := h; exact ⟨by simp only [AV.cells, RelL, Value.cells]; exact ⟨_, [], rfl, h', rfl⟩, by simp [Value.cells, Value.oneCell']⟩
  | ifc t y => have h' := h; simp only [Rel] at h; obtain ⟨u, rfl, _⟩ := h; exact ⟨by simp only [AV.cells, RelL, Value.cells]; exact ⟨_, [], rfl, h', rfl⟩, by simp [Value.cells, Value.oneCell']⟩
  | clo f cs => have h' := h; simp only [Rel] at h; obtain ⟨vs, rfl, _⟩ := h; exact ⟨by simp only [AV.cells, RelL, Value.cells]; exact ⟨_, [], rfl, h', rfl⟩, by simp [Value.cells, Value.oneCell']⟩

/-! Values that are let go -/
theorem shutL_cons {m : Nat} {x : AV} {xs ys : List AV} (h : AV.shutL m (x :: xs) = some ys) : ∃ y zs, ys = y :: zs ∧ AV.shut m x = some y ∧ AV.shutL m xs = some zs := by
  simp only [AV.shutL] at h
  split at h
  · rename_i y zs h1 h2; injection h with h; exact ⟨y, zs, h.symm, h1, h2⟩
  · cases h
theorem shutL_length {m : Nat} : ∀ {xs ys : List AV}, AV.shutL m xs = some ys → ys.length = xs.length
  | [], ys, h => by simp only [AV.shutL] at h; injection h with h; simp [← h]
  | x :: xs, ys, h => by
    obtain ⟨y, zs, rfl, _, h2⟩ := shutL_cons h
    simp [shutL_length h2]

/-- K' knows what K knows, but for tokens from m on. -/
structure KW.upto (m : Nat) (K K' : KW) : Prop where
  pc : ∀ b o v, K.pc b o = some v → K'.pc b o = some v
  loc : ∀ τ g, τ < m → K.loc τ = some g → K'.loc τ = some g
  rm : ∀ g r, K.rm g = some r → K'.rm g = some r

mutual
theorem Rel.shut {m : Nat} {K K' : KW} (h : K.upto m K') : ∀ (x : AV) (v : Value) (y : AV), AV.shut m x = some y → Rel K x v → Rel K' y v
  | .s v0, v, y, hs, hx => by simp only [AV.shut] at hs; injection hs with hs; subst hs; simpa [Rel] using hx
  | .agg cs, v, y, hs, hx => by
    simp only [AV.shut, Option.map_eq_some_iff] at hs
    obtain ⟨ds, hd, rfl⟩ := hs
    simp only [Rel] at hx ⊢
    obtain ⟨vs, e, hl, ho⟩ := hx
    exact ⟨vs, e, RelL.shut h cs vs ds hd hl, ho⟩
  | .tup cs, v, y, hs, hx => by
    simp only [AV.shut, Option.map_eq_some_iff] at hs
    obtain ⟨ds, hd, rfl⟩ := hs
    simp only [Rel] at hx ⊢
    obtain ⟨vs, e, hl⟩ := hx
    exact ⟨vs, e, RelL.shut h cs vs ds hd hl⟩
  | .sl xs (.own τ), v, y, hs, hx => by
    simp only [AV.shut, Option.map_eq_some_iff] at hs
    obtain ⟨ys, hd, rfl⟩ := hs
    simp only [Rel] at hx ⊢
    obtain ⟨A, c, sz, e, hc, hp, hr⟩ := hx
    have hl := shutL_length hd
    refine ⟨A, c, sz, by rw [hl]; exact e, by rw [hl]; exact hc, ?_, ?_⟩
    · split
      · rename_i hm
        obtain ⟨g, q, h1, h2, h3, h4⟩ := hp
        refine ⟨g, q, h.loc _ _ hm h1, h2, by rw [hl]; exact h3, fun e => ?_⟩
        obtain ⟨a1, r, a2, a3⟩ := h4 (by rw [← hl]; exact e)
        exact ⟨a1, r, h.rm _ _ a2, a3⟩
      · trivial
    · rcases hr with hr | ⟨b, o, hA, hr⟩
      · subst hr; exact .inl (List.eq_nil_of_length_eq_zero (by simpa using hl))
      · exact .inr ⟨b, o, hA, RelE.shut h b sz o xs ys hd hr⟩
  | .sl xs .ro, v, y, hs, hx => by
    simp only [AV.shut, Option.map_eq_some_iff] at hs
    obtain ⟨ys, hd, rfl⟩ := hs
    simp only [Rel] at hx ⊢
    obtain ⟨A, c, sz, e, hc, hp, hr⟩ := hx
    have hl := shutL_length hd
    refine ⟨A, c, sz, by rw [hl]; exact e, by rw [hl]; exact hc, trivial, ?_⟩
    rcases hr with hr | ⟨b, o, hA, hr⟩
    · subst hr; exact .inl (List.eq_nil_of_length_eq_zero (by simpa using hl))
    · exact .inr ⟨b, o, hA, RelE.shut h b sz o xs ys hd hr⟩
  | .sl xs .full, v, y, hs, hx => by
    simp only [AV.shut, Option.map_eq_some_iff] at hs
    obtain ⟨ys, hd, rfl⟩ := hs
    simp only [Rel] at hx ⊢
    obtain ⟨A, c, sz, e, hc, hp, hr⟩ := hx
    have hl := shutL_length hd
    refine ⟨A, c, sz, by rw [hl]; exact e, by rw [hl]; exact hc, trivial, ?_⟩
    rcases hr with hr | ⟨b, o, hA, hr⟩
    · subst hr; exact .inl (List.eq_nil_of_length_eq_zero (by simpa using hl))
    · exact .inr ⟨b, o, hA, RelE.shut h b sz o xs ys hd hr⟩
  | .ip cs k, v, y, hs, hx => by
    simp only [AV.shut, Option.map_eq_some_iff] at hs
    obtain ⟨ds, hd, rfl⟩ := hs
    simp only [Rel] at hx ⊢
    obtain ⟨b, o, e, hr⟩ := hx
    exact ⟨b, o, e, RelC.shut h b o cs ds hd hr⟩
  | .ptr τ k, v, y, hs, hx => by
    simp only [AV.shut] at hs
    split at hs
    · rename_i hm
      injection hs with hs; subst hs
      simp only [Rel] at hx ⊢
      obtain ⟨g, sz, hg, e⟩ := hx
      exact ⟨g, sz, h.loc _ _ hm hg, e⟩
    · cases hs
  | .bs τ ep sz o n, v, y, hs, hx => by
    simp only [AV.shut] at hs
    split at hs
    · rename_i hm
      injection hs with hs; subst hs
      simp only [Rel] at hx ⊢
      obtain ⟨g, q, A, c, h1, h2, h3, h4, h5, h6, h7⟩ := hx
      exact ⟨g, q, A, c, h.loc _ _ hm h1, h2, h3, h4, h5, h6, fun e => ⟨(h7 e).choose, h.rm _ _ (h7 e).choose_spec.1, (h7 e).choose_spec.2⟩⟩
    · cases hs
  | .bp τ ep k, v, y, hs, hx => by
    simp only [AV.shut] at hs
    split at hs
    · rename_i hm
      injection hs with hs; subst hs
      simp only [Rel] at hx ⊢
      obtain ⟨g, sz, q, b, p, h1, h2⟩ := hx
      exact ⟨g, sz, q, b, p, h.loc _ _ hm h1, h2⟩
    · cases hs
  | .ifc t x, v, y, hs, hx => by
    simp only [AV.shut, Option.map_eq_some_iff] at hs
    obtain ⟨z, hd, rfl⟩ := hs
    simp only [Rel] at hx ⊢
    obtain ⟨u, e, hr⟩ := hx
    exact ⟨u, e, Rel.shut h x u z hd hr⟩
  | .clo f caps, v, y, hs, hx => by
    simp only [AV.shut, Option.map_eq_some_iff] at hs
    obtain ⟨ds, hd, rfl⟩ := hs
    simp only [Rel] at hx ⊢
    obtain ⟨vs, e, hl⟩ := hx
    exact ⟨vs, e, RelL.shut h caps vs ds hd hl⟩
  termination_by structural x => x
theorem RelL.shut {m : Nat} {K K' : KW} (h : K.upto m K') : ∀ (xs : List AV) (vs : List Value) (ys : List AV), AV.shutL m xs = some ys → RelL K xs vs → RelL K' ys vs
  | [], vs, ys, hs, hx => by simp only [AV.shutL] at hs; injection hs with hs; subst hs; simpa [RelL] using hx
  | x :: xs, vs, ys, hs, hx => by
    obtain ⟨y, zs, rfl, h1, h2⟩ := shutL_cons hs
    simp only [RelL] at hx ⊢
    obtain ⟨u, us, e, a1, a2⟩ := hx
    exact ⟨u, us, e, Rel.shut h x u y h1 a1, RelL.shut h xs us zs h2 a2⟩
  termination_by structural xs => xs
theorem RelC.shut {m : Nat} {K K' : KW} (h : K.upto m K') (b : Nat) : ∀ (o : Nat) (cs ds : List AV), AV.shutL m cs = some ds → RelC K b o cs → RelC K' b o ds
  | o, [], ds, hs, hx => by simp only [AV.shutL] at hs; injection hs with hs; subst hs; simp [RelC]
  | o, c :: cs, ds, hs, hx => by
    obtain ⟨y, zs, rfl, h1, h2⟩ := shutL_cons hs
    simp only [RelC] at hx ⊢
    obtain ⟨⟨v, a1, a2, a3⟩, hr⟩ := hx
    exact ⟨⟨v, h.pc _ _ _ a1, a2, Rel.shut h c v y h1 a3⟩, RelC.shut h b (o + 1) cs zs h2 hr⟩
  termination_by structural _ cs => cs
theorem RelE.shut {m : Nat} {K K' : KW} (h : K.upto m K') (b sz : Nat) : ∀ (o : Nat) (xs ys : List AV), AV.shutL m xs = some ys → RelE K b sz o xs → RelE K' b sz o ys
  | o, [], ys, hs, hx => by simp only [AV.shutL] at hs; injection hs with hs; subst hs; simp [RelE]
  | o, .agg cs :: xs, ys, hs, hx => by
    obtain ⟨y, zs, rfl, h1, h2⟩ := shutL_cons hs
    simp only [AV.shut, Option.map_eq_some_iff] at h1
    obtain ⟨ds, hd, rfl⟩ := h1
    simp only [RelE] at hx ⊢
    exact ⟨⟨by rw [shutL_length hd]; exact hx.1.1, RelC.shut h b o cs ds hd hx.1.2⟩, RelE.shut h b sz (o + sz) xs zs h2 hx.2⟩
  | o, .s v0 :: xs, ys, hs, hx => by
    obtain ⟨y, zs, rfl, h1, h2⟩ := shutL_cons hs
    have hc : y.cells = [y] := by simp only [AV.shut] at h1; injection h1 with h1; subst h1; rfl
    simp only [RelE] at hx; obtain ⟨⟨e, v, a1, a2, a3⟩, hr⟩ := hx
    rw [RelE_cons, hc]; exact ⟨⟨e, ⟨v, h.pc _ _ _ a1, a2, Rel.shut h _ v y h1 a3⟩, trivial⟩, RelE.shut h b sz (o + sz) xs zs h2 hr⟩
  | o, .tup cs :: xs, ys, hs, hx => by
    obtain ⟨y, zs, rfl, h1, h2⟩ := shutL_cons hs
    have hc : y.cells = [y] := by simp only [AV.shut, Option.map_eq_some_iff] at h1; obtain ⟨_, _, rfl⟩ := h1; rfl
    simp only [RelE] at hx; obtain ⟨⟨e, v, a1, a2, a3⟩, hr⟩ := hx
    rw [RelE_cons, hc]; exact ⟨⟨e, ⟨v, h.pc _ _ _ a1, a2, Rel.shut h _ v y h1 a3⟩, trivial⟩, RelE.shut h b sz (o + sz) xs zs h2 hr⟩
  | o, .sl us p :: xs, ys, hs, hx => by
    obtain ⟨y, zs, rfl, h1, h2⟩ := shutL_cons hs
    have hc : y.cells = [y] := by cases p <;> (simp only [AV.shut, Option.map_eq_some_iff] at h1; obtain ⟨_, _, rfl⟩ := h1; rfl)
    simp only [RelE] at hx; obtain ⟨⟨e, v, a1, a2, a3⟩, hr⟩ := hx
    rw [RelE_cons, hc]; exact ⟨⟨e, ⟨v, h.pc _ _ _ a1, a2, Rel.shut h _ v y h1 a3⟩, trivial⟩, RelE.shut h b sz (o + sz) xs zs h2 hr⟩
  | o, .ip cs k :: xs, ys, hs, hx => by
    obtain ⟨y, zs, rfl, h1, h2⟩ := shutL_cons hs
    have hc : y.cells = [y] := by simp only [AV.shut, Option.map_eq_some_iff] at h1; obtain ⟨_, _, rfl⟩ := h1; rfl
    simp only [RelE] at hx; obtain ⟨⟨e, v, a1, a2, a3⟩, hr⟩ := hx
    rw [RelE_cons, hc]; exact ⟨⟨e, ⟨v, h.pc _ _ _ a1, a2, Rel.shut h _ v y h1 a3⟩, trivial⟩, RelE.shut h b sz (o + sz) xs zs h2 hr⟩
  | o, .ptr τ k :: xs, ys, hs, hx => by
    obtain ⟨y, zs, rfl, h1, h2⟩ := shutL_cons hs
    have hc : y.cells = [y] := by simp only [AV.shut] at h1; split at h1 <;> simp at h1; subst h1; rfl
    simp only [RelE] at hx; obtain ⟨⟨e, v, a1, a2, a3⟩, hr⟩ := hx
    rw [RelE_cons, hc]; exact ⟨⟨e, ⟨v, h.pc _ _ _ a1, a2, Rel.shut h _ v y h1 a3⟩, trivial⟩, RelE.shut h b sz (o + sz) xs zs h2 hr⟩
  | o, .bs τ e1 sz1 o1 n1 :: xs, ys, hs, hx => by
    obtain ⟨y, zs, rfl, h1, h2⟩ := shutL_cons hs
    have hc : y.cells = [y] := by simp only [AV.shut] at h1; split at h1 <;> simp at h1; subst h1; rfl
    simp only [RelE] at hx; obtain ⟨⟨e, v, a1, a2, a3⟩, hr⟩ := hx
    rw [RelE_cons, hc]; exact ⟨⟨e, ⟨v, h.pc _ _ _ a1, a2, Rel.shut h _ v y h1 a3⟩, trivial⟩, RelE.shut h b sz (o + sz) xs zs h2 hr⟩
  | o, .bp τ e1 k1 :: xs, ys, hs, hx => by
    obtain ⟨y, zs, rfl, h1, h2⟩ := shutL_cons hs
    have hc : y.cells = [y] := by simp only [AV.shut] at h1; split at h1 <;> simp at h1; subst h1; rfl
    simp only [RelE] at hx; obtain ⟨⟨e, v, a1, a2, a3⟩, hr⟩ := hx
    rw [RelE_cons, hc]; exact ⟨⟨e, ⟨v, h.pc _ _ _ a1, a2, Rel.shut h _ v y h1 a3⟩, trivial⟩, RelE.shut h b sz (o + sz) xs zs h2 hr⟩
  | o, .ifc t x :: xs, ys, hs, hx => by
    obtain ⟨y, zs, rfl, h1, h2⟩ := shutL_cons hs
    have hc : y.cells = [y] := by simp only [AV.shut, Option.map_eq_some_iff] at h1; obtain ⟨_, _, rfl⟩ := h1; rfl
    simp only [RelE] at hx; obtain ⟨⟨e, v, a1, a2, a3⟩, hr⟩ := hx
    rw [RelE_cons, hc]; exact ⟨⟨e, ⟨v, h.pc _ _ _ a1, a2, Rel.shut h _ v y h1 a3⟩, trivial⟩, RelE.shut h b sz (o + sz) xs zs h2 hr⟩
  | o, .clo f cs :: xs, ys, hs, hx => by
    obtain ⟨y, zs, rfl, h1, h2⟩ := shutL_cons hs
    have hc : y.cells = [y] := by simp only [AV.shut, Option.map_eq_some_iff] at h1; obtain ⟨_, _, rfl⟩ := h1; rfl
    simp only [RelE] at hx; obtain ⟨⟨e, v, a1, a2, a3⟩, hr⟩ := hx
    rw [RelE_cons, hc]; exact ⟨⟨e, ⟨v, h.pc _ _ _ a1, a2, Rel.shut h _ v y h1 a3⟩, trivial⟩, RelE.shut h b sz (o + sz) xs zs h2 hr⟩
  termination_by structural _ xs => xs
end
end Go.Proofs.YtggoggdcnahkaaaDoor
