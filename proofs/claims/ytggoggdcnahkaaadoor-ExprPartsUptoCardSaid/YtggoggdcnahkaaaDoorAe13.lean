/- Code, held against the machine. -/
import Derived.Test.YtggoggdcnahkaaaDoorAe12
set_option linter.unusedVariables false
set_option linter.unusedSimpArgs false
namespace Go.Proofs.YtggoggdcnahkaaaDoor
open Go Go.RowKit

def Ex.out : Ex → Exit
  | .normal => .normal
  | .exit i => .exit i
  | .ret => .ret

def dstsOK (N : Nat) : Code → Bool
  | .region _ ops _ => ops.toList.all fun o => match o.dst with | none => true | some d => decide (d < N)
  | .seq a b => dstsOK N a && dstsOK N b
  | .cond _ a b => dstsOK N a && dstsOK N b
  | .block _ b => dstsOK N b
  | .loop b => dstsOK N b
  | _ => true

theorem dsts_region {N id : Nat} {ops : Array Oper} {dr : Bool} (h : dstsOK N (.region id ops dr) = true) : ∀ o ∈ ops.toList, ∀ d, o.dst = some d → d < N := by
  intro o ho d hd
  simp only [dstsOK, List.all_eq_true] at h
  have := h o ho
  rw [hd] at this
  simpa using this

theorem lookup_trim {env : Env} : ∀ (live : List Nat) (t : Nat) (x : AV), E (live.filterMap fun t => (env t).map fun v => (t, v)) t = some x → env t = some x
  | [], t, x, h => by simp [E] at h
  | u :: live, t, x, h => by
    cases hu : env u with
    | none =>
      refine lookup_trim live t x ?_
      simpa [E, List.filterMap_cons, hu] using h
    | some v =>
      simp only [E, List.filterMap_cons, hu, Option.map_some, List.lookup_cons] at h
      by_cases e : t = u
      · subst e; simp at h; rw [hu, h]
      · have hb : (t == u) = false := by simpa using e
        rw [hb] at h
        exact lookup_trim live t x h

section
variable {P : Program} {G : Nat → Nat → Option Value} {pure : FuncId → Bool} {bf : TypeId → Bool} {cf : FuncId → List AV → Heap → Option (AV × Heap)} {n base N : Nat} {R : Nat → Nat → Option Value} {live : List Nat}

theorem EnvRel.trim {K : KW} {env : Env} {a : Act} (h : EnvRel K N env a) (live : List Nat) : EnvRel K N (Env.trim live env) a :=
  ⟨h.size, fun t x hx => h.slot t x (lookup_trim live t x hx), h.defers⟩

theorem RegPost.comp {K K1 : KW} {w w1 : World} {env' : Env} {H' : Heap} {a' : Act} {w' : World} (hK : K.le K1) (hb : Below base w w1) (h : RegPost base R N K1 w1 env' H' a' w') : RegPost base R N K w env' H' a' w' := by
  obtain ⟨K2, l1, l2, l3, l4⟩ := h
  exact ⟨K2, hK.trans l1, l2, hb.trans l3, l4⟩

theorem evC_sound (hcf : CfOK P G cf) (hG : Gr G base R) (hp : PureCf pure cf) (hm : P.follows .mixedOrders = true) : ∀ (c : Code), dstsOK N c = true → ∀ (K : KW) (env : Env) (H : Heap) (a : Act) (w : World) (x : Ex) (env' : Env) (H' : Heap),
    WR base R K H w → EnvRel K N env a → evC P G pure bf cf n live c env H = some (x, env', H') → ∀ Q : Exit → Act → World → Prop, (∀ a' w', RegPost base R N K w env' H' a' w' → Q x.out a' w') → c.wp P Q a w
  | .skip, hd, K, env, H, a, w, x, env', H', hw, he, h, Q, hQ => by
    simp only [evC] at h; injection h with h; injection h with h1 h; injection h with h2 h3; subst h1 h2 h3
    exact wp_skip (hQ a w ⟨K, KW.le.refl K, hw, Below.refl _ _, he⟩)
  | .label l, hd, K, env, H, a, w, x, env', H', hw, he, h, Q, hQ => by
    simp only [evC] at h; injection h with h; injection h with h1 h; injection h with h2 h3; subst h1 h2 h3
    exact wp_label (hQ a w ⟨K, KW.le.refl K, hw, Below.refl _ _, he⟩)
  | .exit i, hd, K, env, H, a, w, x, env', H', hw, he, h, Q, hQ => by
    simp only [evC] at h; injection h with h; injection h with h1 h; injection h with h2 h3; subst h1 h2 h3
    exact wp_exit (hQ a w ⟨K, KW.le.refl K, hw, Below.refl _ _, he⟩)
  | .ret, hd, K, env, H, a, w, x, env', H', hw, he, h, Q, hQ => by
    simp only [evC] at h; injection h with h; injection h with h1 h; injection h with h2 h3; subst h1 h2 h3
    exact wp_ret (hQ a w ⟨K, KW.le.refl K, hw, Below.refl _ _, he⟩)
  | .region id ops dr, hd, K, env, H, a, w, x, env', H', hw, he, h, Q, hQ => by
    rw [evC_region] at h
    split at h
    · cases h
    · rename_i hreg
      split at h
      · cases h
      · rename_i e1 H1 hev
        injection h with h; injection h with h1 h; injection h with h2 h3; subst h1 h2 h3
        have hQ' : ∀ a' w', RegPost base R N K w e1 H1 a' w' → Q .normal a' w' := fun a' w' ⟨K2, l1, l2, l3, l4⟩ => hQ a' w' ⟨K2, l1, l2, l3, l4.trim live⟩
        cases dr with
        | true =>
          have hok : regOK pure bf ops = true ∨ RegDyn P G pure bf cf ops env H := by
            rcases Bool.eq_false_or_eq_true (regOK pure bf ops) with h | h
            · exact .inl h
            · right
              apply Classical.byContradiction
              intro hn
              exact hreg ⟨rfl, h, hn⟩
          exact drawn_sound hcf hG hp hok hm (dsts_region hd) hw he hev hQ'
        | false => exact wp_region_list (evOps_sound hcf hG _ K env H a w _ _ (dsts_region hd) hw he hev Q hQ')
  | .seq c1 c2, hd, K, env, H, a, w, x, env', H', hw, he, h, Q, hQ => by
    simp only [dstsOK, Bool.and_eq_true] at hd
    simp only [evC] at h
    split at h
    · cases h
    · rename_i e1 H1 h1
      refine wp_seq (evC_sound hcf hG hp hm c1 hd.1 K env H a w _ _ _ hw he h1 _ fun a1 w1 ⟨K1, k1, k2, k3, k4⟩ => ?_)
      exact evC_sound hcf hG hp hm c2 hd.2 K1 e1 H1 a1 w1 x env' H' k2 k4 h Q fun a' w' hp' => hQ a' w' (hp'.comp k1 k3)
    · rename_i x1 e1 H1 h1 hx1
      injection h with h; injection h with h2 h; injection h with h3 h4; subst h2 h3 h4
      refine wp_seq (evC_sound hcf hG hp hm c1 hd.1 K env H a w _ _ _ hw he hx1 _ fun a1 w1 hp1 => ?_)
      cases x1 with
      | normal => exact absurd rfl (h1)
      | exit i => exact hQ _ _ hp1
      | ret => exact hQ _ _ hp1
  | .cond c c1 c2, hd, K, env, H, a, w, x, env', H', hw, he, h, Q, hQ => by
    simp only [dstsOK, Bool.and_eq_true] at hd
    simp only [evC] at h
    split at h
    · rename_i t ht
      have hc := valA_rel he ht
      simp only [Rel] at hc
      refine wp_cond hc.1 ?_
      cases t with
      | true => exact evC_sound hcf hG hp hm c1 hd.1 K env H a w _ _ _ hw he (by simpa using h) Q hQ
      | false => exact evC_sound hcf hG hp hm c2 hd.2 K env H a w _ _ _ hw he (by simpa using h) Q hQ
    · cases h
  | .block id b, hd, K, env, H, a, w, x, env', H', hw, he, h, Q, hQ => by
    simp only [dstsOK] at hd
    simp only [evC] at h
    split at h
    · cases h
    · rename_i i e1 H1 h1
      refine wp_block (evC_sound hcf hG hp hm b hd K env H a w _ _ _ hw he h1 _ fun a1 w1 hp1 => ?_)
      split at h
      · rename_i hi
        injection h with h; injection h with h2 h; injection h with h3 h4; subst h2 h3 h4
        simp only [Ex.out, Exit.inBlock, hi, if_true]; exact hQ _ _ hp1
      · rename_i hi
        injection h with h; injection h with h2 h; injection h with h3 h4; subst h2 h3 h4
        simp only [Ex.out, Exit.inBlock, hi, if_false]; exact hQ _ _ hp1
    · rename_i x1 e1 H1 h1 hx1
      injection h with h; injection h with h2 h; injection h with h3 h4; subst h2 h3 h4
      refine wp_block (evC_sound hcf hG hp hm b hd K env H a w _ _ _ hw he hx1 _ fun a1 w1 hp1 => ?_)
      cases x1 with
      | normal => exact hQ _ _ hp1
      | exit i => exact absurd rfl (h1 _)
      | ret => exact hQ _ _ hp1
  | .loop b, hd, K, env, H, a, w, x, env', H', hw, he, h, Q, hQ => by
    simp only [dstsOK] at hd
    simp only [evC] at h
    have ih := evC_sound hcf hG hp hm b hd
    have key : ∀ m K env H a w, WR base R K H w → EnvRel K N env a → loopA (evC P G pure bf cf n live b) m env H = some (x, env', H') → (∀ a' w', RegPost base R N K w env' H' a' w' → Q x.out a' w') → Code.rounds P b Q m a w := by
      intro m
      induction m with
      | zero => intro K env H a w hw he h hQ; simp [loopA] at h
      | succ m ihm =>
        intro K env H a w hw he h hQ
        simp only [loopA] at h
        rw [rounds_succ]
        split at h
        · cases h
        · rename_i e1 H1 h1
          refine ih K env H a w _ _ _ hw he h1 _ fun a1 w1 ⟨K1, k1, k2, k3, k4⟩ => ?_
          exact ihm K1 e1 H1 a1 w1 k2 k4 h fun a' w' hp' => hQ a' w' (hp'.comp k1 k3)
        · rename_i x1 e1 H1 h1 hx1
          injection h with h; injection h with h2 h; injection h with h3 h4; subst h2 h3 h4
          refine ih K env H a w _ _ _ hw he hx1 _ fun a1 w1 hp1 => ?_
          cases x1 with
          | normal => exact absurd rfl (h1)
          | exit i => exact hQ _ _ hp1
          | ret => exact hQ _ _ hp1
    exact wp_loop_rounds n (key n K env H a w hw he h hQ)
  | .rangeFunc _ _ _ _, hd, K, env, H, a, w, x, env', H', hw, he, h, Q, hQ => by simp [evC] at h
  | .scope _, hd, K, env, H, a, w, x, env', H', hw, he, h, Q, hQ => by simp [evC] at h
  | .goto _, hd, K, env, H, a, w, x, env', H', hw, he, h, Q, hQ => by simp [evC] at h
  | .refuse _, hd, K, env, H, a, w, x, env', H', hw, he, h, Q, hQ => by simp [evC] at h
end
end Go.Proofs.YtggoggdcnahkaaaDoor
