/- The evaluator's operations, held against the machine's (7): all of them. -/
import Derived.Test.YtggoggdcnahkaaaDoorAe9
set_option linter.unusedVariables false
set_option linter.unusedSimpArgs false
namespace Go.Proofs.YtggoggdcnahkaaaDoor
open Go Go.RowKit

/-- A call: it goes through code, or the machine answers itself. -/
def Goes (P : Program) (base : Nat) (R : Nat → Nat → Option Value) (K : KW) (w : World) (f : FuncId) (args : Array Value) (r : AV) (H' : Heap) : Prop :=
  ((∃ fn, P.funcs[f]? = some fn ∧ fn.body.isNone = false ∧ (fn.name == "runtime.NumGoroutine") = false) ∧ Calls P f args w fun e w' => ∃ v, e = .returned v ∧ OpPost base R K w r H' v w') ∨
  ∃ v w', (callFunc f args).run P w = .ok (.value v) w' ∧ OpPost base R K w r H' v w'

/-- What is known of calls. -/
def CfOK (P : Program) (G : Nat → Nat → Option Value) (cf : FuncId → List AV → Heap → Option (AV × Heap)) : Prop :=
  ∀ f avs H r H', cf f avs H = some (r, H') →
    ∀ base R K w args, Gr G base R → WR base R K H w → RelL K avs args.toList → Goes P base R K w f args r H'

section
variable {P : Program} {base N : Nat} {R : Nat → Nat → Option Value} {K : KW} {H H' : Heap} {w : World} {o : Oper} {a : Act} {env : Env} {r : AV} {G : Nat → Nat → Option Value} {cf : FuncId → List AV → Heap → Option (AV × Heap)}

theorem do_call (hcf : CfOK P G cf) (hG : Gr G base R) (hw : WR base R K H w) (he : EnvRel K N env a) {c : Call} {f : Operand} {g : FuncId} {caps l : List AV} (hop : o.op = .call c) (hc : c.callee = .value f) (hf : valA env f = some (.clo g caps)) (hl : valsA env c.args.toList = some l)
    (h : cf g (l ++ caps) H = some (r, H')) : Does P base R K w o a r H' := by
  have hf' := valA_rel he hf
  simp only [Rel] at hf'
  obtain ⟨vs, hv, hr⟩ := hf'
  have harg : RelL K (l ++ caps) (c.args.map a.eval ++ vs.toArray).toList := by
    have := RelL_append (args_of he hl) hr
    simpa using this
  rcases hcf _ _ _ _ _ h base R K w _ hG hw harg with ⟨⟨fn, h1, h2, h3⟩, h4⟩ | ⟨v, w', h1, h2⟩
  · refine .inr (.inr ⟨g, c.args.map a.eval ++ vs.toArray, ?_, h4⟩)
    simp only [execOp, hop, resolve, hc, hv, Deferred.ofValue, Sem.run_bind, Sem.run_pure, Result.andThen_ok, invoke, callFunc, run_program, h1, h3, h2]
    simp
  · refine .inl ⟨v, w', ?_, h2⟩
    simp only [execOp, hop, resolve, hc, hv, Deferred.ofValue, Sem.run_bind, Sem.run_pure, Result.andThen_ok, invoke]
    have : (#[] ++ c.args.map a.eval ++ vs.toArray : Array Value) = c.args.map a.eval ++ vs.toArray := by simp
    first
      | exact h1
      | (rw [this]; exact h1)
      | (simp only [this]; exact h1)

theorem src_ok (hw : WR base R K H w) {tx : TypeId} {sz : Nat} {y : AV} {v : Value} {ys : List AV} (hr : Rel K y v) (h : srcA P tx sz H y = some ys) : ∃ news, Src P sz tx v ys.length news w ∧ News K ys sz news := by
  unfold srcA at h
  split at h
  · split at h
    · rename_i hk
      injection h with h; subst h
      obtain ⟨e', he'⟩ := Option.isSome_iff_exists.1 hk.1
      exact news_sl hw hr (elT_under he') hk.2
    · cases h
  · split at h
    · rename_i hk
      obtain ⟨hk1, rfl⟩ := hk
      injection h with h; subst h
      have hr' := hr
      simp only [Rel] at hr'
      rw [hr'.1]
      exact news_str (strT_under hk1)
    · cases h
  · split at h
    · rename_i hk
      obtain ⟨hk1, rfl⟩ := hk
      obtain ⟨e', he'⟩ := Option.isSome_iff_exists.1 hk1
      split at h
      · rename_i hH
        split at h
        · rename_i hc
          obtain ⟨rfl, rfl⟩ := hc
          obtain ⟨news, h1, _⟩ := news_view hw hr (elT_under he') hH h
          exact ⟨news, h1⟩
        · cases h
      · cases h
    · cases h
  · cases h

theorem do_append (hw : WR base R K H w) (he : EnvRel K N env a) {bf : TypeId → Bool} {c : Call} {l : List AV} (hop : o.op = .call c) (hc : c.callee = .builtin .append) (hl : valsA env c.args.toList = some l) (h : appendC P bf c.argTypes l H = some (r, H')) : Does P base R K w o a r H' := by
  unfold appendC at h
  split at h
  · rename_i x y
    split at h
    · rename_i t tx htt
      split at h
      · rename_i e hte
        split at h
        · rename_i sz bytes z hs hb hz
          split at h
          · rename_i hcond
            obtain ⟨u, v, hargs, hr1, hr2⟩ := args_two (args_of he hl)
            have hty : c.argTypes = #[t, tx] := by apply Array.ext'; simpa using htt
            split at h
            · rename_i ys hys
              obtain ⟨news, k1, k2⟩ := src_ok hw hr2 hys
              obtain ⟨v', w', hrun, hp⟩ := append_ok (ty := o.type) hw hte hs hb hz hcond hr1 k1 k2 h
              refine .inl ⟨v', w', ?_, hp⟩
              obtain ⟨cs, hcs⟩ := run_builtin (P := P) (w := w) (a := a) hop hc
              rw [hcs, hargs]
              simp only [builtin, Sem.run_bind, hty, hrun, Result.andThen_ok]
              rfl
            · cases h
          · cases h
        · cases h
      · cases h
    · cases h
  · cases h

theorem do_copy (hw : WR base R K H w) (he : EnvRel K N env a) {c : Call} {l : List AV} (hop : o.op = .call c) (hc : c.callee = .builtin .copy) (hl : valsA env c.args.toList = some l) (h : copyC P c.argTypes l H = some (r, H')) : Does P base R K w o a r H' := by
  unfold copyC at h
  split at h
  · rename_i τ e sz q n y t tx htt
    split at h
    · rename_i hsz
      rw [Option.bind_eq_some_iff] at hsz
      obtain ⟨el, hte, hsz⟩ := hsz
      split at h
      · rename_i ys hys
        split at h
        · rename_i hlen
          split at h
          · rename_i e' cs sz' hτ
            split at h
            · rename_i hcond
              obtain ⟨rfl, rfl, hfit⟩ := hcond
              injection h with h; injection h with h1 h2; subst h1 h2
              obtain ⟨u, v, hargs, hr1, hr2⟩ := args_two (args_of he hl)
              obtain ⟨news, hs, hn⟩ := src_ok hw hr2 hys
              simp only [Rel] at hr1
              obtain ⟨g, m, A, cp, hg, hpos, hem, rfl, hcap, h6, h7⟩ := hr1
              obtain ⟨hb, e0, e1, _, arr, T, hh, hsize, hr, ho, hpc⟩ := hw.tok hτ hg
              subst e1
              have hnl := hn.len
              have hcl := RelL_length hr
              have hfl := RelL_length hn.flat
              have hty : c.argTypes = #[t, tx] := by apply Array.ext'; simpa using htt
              obtain ⟨bcs, hbcs⟩ := run_builtin (P := P) (w := w) (a := a) hop hc
              have hplen : (putCells cs (q * sz') (ys.flatMap AV.cells)).length = cs.length := by unfold putCells; simp only [List.length_append, List.length_take, List.length_drop]; omega
              rcases h6 with h6 | ⟨b, p, rfl, h6⟩
              · have hy : ys = [] := List.eq_nil_of_length_eq_zero (by omega)
                subst hy
                have hnews : news = [] := List.eq_nil_of_length_eq_zero (by simpa using hnl)
                subst hnews
                have hset : H.set τ (.buf e' (putCells cs (q * sz') (([] : List AV).flatMap AV.cells)) sz') = H := by
                  apply List.ext_getElem?
                  intro j
                  rw [List.getElem?_set]
                  split
                  · rename_i e; subst e; rw [hτ]; rw [if_pos (List.getElem?_eq_some_iff.1 hτ).1]; simp [putCells]
                  · rfl
                refine .inl ⟨.int .i64 0, w, ?_, ?_⟩
                · have hcopy : (Builtin.copy_ #[t, tx] o.type #[.slice A n cp, v]).run P w = .ok (.int .i64 0) w := by
                    cases A <;> (rcases hs.kind with ⟨e', hk⟩ | hk <;> (have h1 := hs.len; have h2 := hs.cells; simp at h1 h2; simp [Builtin.copy_, run_underlying (elT_under hte), h1, run_sizeOf hsz, h2, goInt, storeCells]))
                  rw [hbcs, hargs]
                  simp only [builtin, Sem.run_bind, hty, hcopy]
                  rfl
                · rw [hset]; exact OpPost.same hw (by simp [Rel, Value.oneCell'])
              · obtain ⟨rfl, rfl⟩ := h6 rfl
                have hst := run_storeCells_at P b (q * sz') T news 0 arr w hh (by simp at hcl ⊢; omega) hn.one
                simp only [Nat.add_zero] at hst
                generalize harr : (arr.toList.take (q * sz') ++ news ++ arr.toList.drop (q * sz' + news.length)).toArray = arr' at hst
                have hal : arr'.size = arr.size := by rw [← harr]; simp at hcl ⊢; omega
                have htake : arr'.toList.take (putCells cs (q * sz') (ys.flatMap AV.cells)).length = (arr.toList.take cs.length).take (q * sz') ++ news ++ (arr.toList.take cs.length).drop (q * sz' + news.length) := by
                  rw [hplen, ← harr, List.toList_toArray]
                  exact take_put _ _ _ _ (by omega) (by simpa using hsize)
                have hrel : RelL K (putCells cs (q * sz') (ys.flatMap AV.cells)) (arr'.toList.take (putCells cs (q * sz') (ys.flatMap AV.cells)).length) := by
                  rw [htake, putCells, ← hfl]
                  exact RelL_append (RelL_append (RelL_take hr _) hn.flat) (RelL_drop hr _)
                have hone : ∀ u ∈ arr'.toList.take (putCells cs (q * sz') (ys.flatMap AV.cells)).length, u.oneCell' = true := by
                  rw [htake]
                  intro u hu
                  simp only [List.mem_append] at hu
                  rcases hu with (hu | hu) | hu
                  · exact ho u (List.mem_of_mem_take hu)
                  · exact hn.one u hu
                  · exact ho u (List.mem_of_mem_drop hu)
                have hw1 := hw.setBuf hτ hg hh (by rw [hplen]; omega) hrel hone (by omega)
                refine .inl ⟨.int .i64 ys.length, _, ?_, K, KW.le.refl K, hw1, ⟨rfl, rfl, rfl, by simp [World.setRow], fun i hi => ?_⟩, by simp [Rel, Value.oneCell']⟩
                · have hcopy : (Builtin.copy_ #[t, tx] o.type #[.slice (some ⟨b, q * sz', none⟩) n cp, v]).run P w = .ok (.int .i64 ys.length) (w.setRow b arr') := by
                    rcases hs.kind with ⟨e', hk⟩ | hk <;> simp [Builtin.copy_, run_underlying (elT_under hte), hs.len, Nat.min_eq_left hlen, run_sizeOf hsz, hs.cells, goInt, hst]
                  rw [hbcs, hargs]
                  simp only [builtin, Sem.run_bind, hty, hcopy]
                  rfl
                · simp only [World.setRow, Array.getElem?_modify]; rw [if_neg (by omega)]
            · cases h
          · cases h
        · cases h
      · cases h
    · cases h
  · cases h

theorem do_builtin (hw : WR base R K H w) (he : EnvRel K N env a) {c : Call} {b : Builtin} {l : List AV} (hop : o.op = .call c) (hc : c.callee = .builtin b) (hl : valsA env c.args.toList = some l) (h : builtinN P b c.argTypes o.type l = some r) : Does P base R K w o a r H := by
  unfold builtinN at h
  split at h
  · rename_i xs p
    split at h
    · rename_i e he'
      injection h with h; subst h
      exact do_len hw he hop hc hl he'
    · cases h
  · split at h
    · rename_i e he'
      injection h with h; subst h
      exact do_lenB hw he hop hc hl he'
    · cases h
  · rename_i s
    split at h
    · rename_i he'
      injection h with h; subst h
      exact do_lenS hw he hop hc hl he'
    · cases h
  · split at h
    · rename_i vs hvs
      exact do_minmax hw he hop hl hvs (.inl ⟨hc, h⟩)
    · cases h
  · split at h
    · rename_i vs hvs
      exact do_minmax hw he hop hl hvs (.inr ⟨hc, h⟩)
    · cases h
  · cases h

theorem mapH {x : Option AV} (h : x.map (·, H) = some (r, H')) : x = some r ∧ H' = H := by
  rw [Option.map_eq_some_iff] at h
  obtain ⟨y, hy, h⟩ := h
  injection h with h1 h2; subst h1 h2
  exact ⟨hy, rfl⟩

theorem evN_sound (hw : WR base R K H w) (he : EnvRel K N env a) (h : evN P o env = some r) : Does P base R K w o a r H := by
  unfold evN at h
  split at h
  · rename_i x hop
    exact do_move hw he (.inl hop) h
  · rename_i x hop
    exact do_move hw he (.inr hop) h
  · rename_i c x y hop
    split at h
    · rename_i t hc
      exact do_pick hw he hop hc h
    · cases h
  · rename_i t parts hop
    split at h
    · rename_i zs ps l hz hps hl
      rw [Option.map_eq_some_iff] at h
      obtain ⟨cs, hcs, h⟩ := h
      subst h
      exact do_build hw he hop hz hps hl hcs
    · cases h
  · rename_i t n parts hop
    split at h
    · rename_i e l ht hl
      split at h
      · rename_i sz z xs hs hz hx
        split at h
        · rename_i hc
          injection h with h; subst h
          exact do_buildSlice hw he hop ht hl hs hz hx hc
        · cases h
      · cases h
    · cases h
  · rename_i x hop
    split at h
    · rename_i τ k hx
      injection h with h; subst h
      exact do_nil hw he hop hx (.inl ⟨_, _, rfl⟩)
    · rename_i cs k hx
      injection h with h; subst h
      exact do_nil hw he hop hx (.inr (.inl ⟨_, _, rfl⟩))
    · rename_i f caps hx
      injection h with h; subst h
      exact do_nil hw he hop hx (.inr (.inr (.inl ⟨_, _, rfl⟩)))
    · rename_i τ e k hx
      injection h with h; subst h
      exact do_nil hw he hop hx (.inr (.inr (.inr ⟨_, _, _, rfl⟩)))
    · cases h
  · rename_i b t x y t' hop
    split at h
    · rename_i u v hx hy
      split at h
      · rename_i u' v' hu hv
        exact do_bin hw he hop (by rw [hx]; exact hu) (by rw [hy]; exact hv) h
      · exact do_cmp hw he hop hx hy h
    · cases h
  · rename_i b t x hop
    split at h
    · rename_i u hx
      exact do_un hw he hop hx h
    · cases h
  · rename_i s d x hop
    split at h
    · rename_i v hx
      exact do_conv hw he hop hx h
    · rename_i xs p hx
      split at h
      · rename_i e hs hd
        split at h
        · rename_i bs hu hb
          injection h with h; subst h
          exact do_str hw he hop hx hs hd hu hb
        · cases h
      · cases h
    · cases h
  · rename_i t x hop
    split at h
    · rename_i v ht hx
      injection h with h; subst h
      exact do_iface hw he hop ht hx
    · cases h
  · rename_i f first caps hop
    split at h
    · rename_i h0
      rw [Option.map_eq_some_iff] at h
      obtain ⟨l, hl, h⟩ := h
      subst h
      exact do_func hw he hop h0 hl
    · cases h
  · rename_i t l c hop
    split at h
    · rename_i e n m ht hl hc
      split at h
      · rename_i sz bytes z hs hb hz
        split at h
        · rename_i hcond
          injection h with h; subst h
          exact do_makeSlice hw he hop ht hl hc hs hb hz hcond
        · cases h
      · cases h
    · cases h
  · rename_i t x lo hi hop
    split at h
    · rename_i s hx ht
      split at h
      · rename_i lo' hi' hlo hhi
        split at h
        · rename_i hc
          injection h with h; subst h
          exact do_sliceS hw he hop hx hlo hhi hc.1 hc.2
        · cases h
      · cases h
    · rename_i xs p e hx ht
      split at h
      · rename_i lo' hi' hlo hhi
        split at h
        · rename_i sz hs
          split at h
          · rename_i hwd
            exact do_slice hw he hop hx ht hlo hhi hs hwd h
          · cases h
        · cases h
      · cases h
    · rename_i τ ep sz q n e hx ht
      split at h
      · rename_i lo' hi' hlo hhi
        split at h
        · rename_i hc
          injection h with h; subst h
          exact do_sliceB hw he hop hx ht hlo hhi hc.1 hc.2
        · cases h
      · cases h
    · cases h
  · rename_i s x f hop
    split at h
    · rename_i off ft hf
      split at h
      · rename_i n hn
        split at h
        · rename_i τ k hx
          injection h with h; subst h
          exact do_fieldAddr hw he hop hf hn hx (.inl ⟨_, _, rfl, rfl⟩)
        · rename_i cs k hx
          injection h with h; subst h
          exact do_fieldAddr hw he hop hf hn hx (.inr (.inl ⟨_, _, rfl, rfl⟩))
        · rename_i τ e k hx
          injection h with h; subst h
          exact do_fieldAddr hw he hop hf hn hx (.inr (.inr ⟨_, _, _, rfl, rfl⟩))
        · cases h
      · cases h
    · cases h
  · rename_i t x f hop
    split at h
    · rename_i off ft cs hf hx
      exact do_field hw he hop hf hx h
    · cases h
  · rename_i t x i hop
    split at h
    · rename_i len e ht
      split at h
      · rename_i v n sz hx hi hs
        split at h
        · rename_i hlt
          exact do_indexArr hw he hop ht hx hi hs hlt h
        · cases h
      · cases h
    split at h
    · rename_i e xs p n ht hx hi
      split at h
      · rename_i sz y hs hy
        split at h
        · rename_i hc
          injection h with h; subst h
          exact do_indexAddr hw he hop ht hx hi hs hy hc
        · cases h
      · cases h
    · rename_i e τ ep sz q m n ht hx hi
      split at h
      · rename_i hc
        injection h with h; subst h
        exact do_indexAddrB hw he hop ht hx hi hc.1 hc.2
      · cases h
    · cases h
  · rename_i t x i hop
    split at h
    · rename_i s n ht hx hi
      split at h
      · rename_i b hb
        injection h with h; subst h
        exact do_index hw he hop ht hx hi hb
      · cases h
    · cases h
  · rename_i x i hop
    split at h
    · rename_i cs hx
      exact do_extract hw he hop hx h
    · cases h
  · rename_i c hop
    split at h
    · rename_i b hc
      split at h
      · rename_i l hl
        exact do_builtin hw he hop hc hl h
      · cases h
    · cases h
  · cases h

theorem evOp_sound {bf : TypeId → Bool} (hcf : CfOK P G cf) (hG : Gr G base R) (hw : WR base R K H w) (he : EnvRel K N env a) (h : evOp P G bf cf o env H = some (r, H')) : Does P base R K w o a r H' := by
  unfold evOp at h
  split at h
  · rename_i e hop
    split at h
    · rename_i z hz
      injection h with h; injection h with h1 h2; subst h1 h2
      exact do_alloc hw hop hz
    · cases h
  · rename_i e x hop
    split at h
    · rename_i v hv
      split at h
      · rename_i ht
        injection h with h; injection h with h1 h2; subst h1 h2
        exact do_box hw he hop hv ht
      · cases h
    · cases h
  · rename_i t x hop
    split at h
    · rename_i τ k hx
      split at h
      · rename_i cs hH
        obtain ⟨hl, rfl⟩ := mapH h
        exact do_load_ptr hw he hop hx hH hl
      · cases h
    · rename_i cs k hx
      obtain ⟨hl, rfl⟩ := mapH h
      exact do_load_ip hw he hop hx hl
    · rename_i τ e k hx
      split at h
      · cases h
      split at h
      · rename_i e' cs sz hH
        split at h
        · rename_i hc
          subst hc
          obtain ⟨hl, rfl⟩ := mapH h
          exact do_load_bp hw he hop hx hH hl
        · cases h
      · cases h
    · rename_i b k hx
      split at h
      · rename_i n v ha hn hv
        split at h
        · rename_i ho
          injection h with h; injection h with h1 h2; subst h1 h2
          exact do_load_g hw he hG hop hx ha hn hv ho
        · cases h
      · cases h
    · cases h
  · rename_i t x y hop
    split at h
    · rename_i τ k v n hx hy hn
      split at h
      · rename_i cs hH
        split at h
        · rename_i hc
          injection h with h; injection h with h1 h2; subst h1 h2
          exact do_store hw he hop hx hy hn hH hc
        · cases h
      · cases h
    · rename_i τ e k v n hx hy hn
      split at h
      · rename_i e' cs sz hH
        split at h
        · rename_i hc
          obtain ⟨rfl, hc⟩ := hc
          injection h with h; injection h with h1 h2; subst h1 h2
          exact do_store_bp hw he hop hx hy hn hH hc
        · cases h
      · cases h
    · cases h
  · rename_i c hop
    split at h
    · rename_i hc
      split at h
      · rename_i l hl
        exact do_append hw he hop hc hl h
      · cases h
    · rename_i hc
      split at h
      · rename_i l hl
        exact do_copy hw he hop hc hl h
      · cases h
    · obtain ⟨hl, rfl⟩ := mapH h
      exact evN_sound hw he hl
    · rename_i f hc
      split at h
      · rename_i g caps l hf hl
        exact do_call hcf hG hw he hop hc hf hl h
      · cases h
    · cases h
  · rename_i t l c hop
    split at h
    · split at h
      · rename_i xs hx
        split at h
        · rename_i sz hsz
          split at h
          · injection h with h; injection h with h1 h2; subst h1 h2
            simp only [evN, hop] at hx
            split at hx
            · rename_i e n m ht hl hc
              split at hx
              · rename_i sz' bytes z hs hb hz
                split at hx
                · rename_i hcond
                  injection hx with hx; injection hx with hx _; subst hx
                  rw [ht] at hsz
                  simp only [Option.bind_some, hs] at hsz
                  injection hsz with hsz; subst hsz
                  rw [List.length_replicate]
                  exact do_makeB hw he hop ht hl hc hs hb hz hcond
                · cases hx
              · cases hx
            · cases hx
          · cases h
        · cases h
      · cases h
    · obtain ⟨hl, rfl⟩ := mapH h
      exact evN_sound hw he hl
  · obtain ⟨hl, rfl⟩ := mapH h
    exact evN_sound hw he hl

/-! Regions, in the text's order -/
theorem wantedA_rel (he : EnvRel K N env a) {ops : Array Oper} {b : Bool} (h : wantedA ops o env = some b) : Region.wanted o (yielded ops a.tmps) = b := by
  unfold wantedA at h
  unfold Region.wanted
  split at h
  · rename_i hg; injection h with h; rw [hg]; exact h
  · rename_i j want hg
    rw [hg]
    simp only
    unfold yielded
    split at h
    · rename_i t ht
      rw [ht]
      simp only [Option.bind_some]
      split at h
      · rename_i b' hb
        injection h with h
        have := he.slot t _ hb
        simp only [Rel] at this
        have h2 := this.1
        have hget : a.tmps[t]? = some (.bool b') := by
          rw [Array.getD_eq_getD_getElem?] at h2
          cases hv : a.tmps[t]? with
          | none => rw [hv] at h2; cases h2
          | some v => rw [hv] at h2; simp at h2; rw [h2]
        rw [hget, ← h]
        simp
      · rename_i cs hb
        injection h with h
        have := he.slot t _ hb
        simp only [Rel] at this
        obtain ⟨vs, h2, _⟩ := this
        rw [Array.getD_eq_getD_getElem?] at h2
        cases hv : a.tmps[t]? with
        | none => rw [← h]; rfl
        | some v => rw [hv] at h2; simp at h2; rw [h2, ← h]; rfl
      · cases h
    · cases h

/-- What a stretch of operations leaves. -/
def RegPost (base : Nat) (R : Nat → Nat → Option Value) (N : Nat) (K : KW) (w : World) (env' : Env) (H' : Heap) (a' : Act) (w' : World) : Prop :=
  ∃ K', K.le K' ∧ WR base R K' H' w' ∧ Below base w w' ∧ EnvRel K' N env' a'

theorem evOps_sound {bf : TypeId → Bool} (hcf : CfOK P G cf) (hG : Gr G base R) {ops : Array Oper} : ∀ (l : List Oper) (K : KW) (env : Env) (H : Heap) (a : Act) (w : World) (env' : Env) (H' : Heap), (∀ o ∈ l, ∀ d, o.dst = some d → d < N) → WR base R K H w → EnvRel K N env a → evOps P G bf cf ops l env H = some (env', H') →
    ∀ Q : Exit → Act → World → Prop, (∀ a' w', RegPost base R N K w env' H' a' w' → Q .normal a' w') → wpList P ops Q l a w
  | [], K, env, H, a, w, env', H', hd, hw, he, h, Q, hQ => by
    simp only [evOps] at h; injection h with h; injection h with h1 h2; subst h1 h2
    exact hQ a w ⟨K, KW.le.refl K, hw, Below.refl _ _, he⟩
  | o :: rest, K, env, H, a, w, env', H', hd, hw, he, h, Q, hQ => by
    simp only [evOps] at h
    split at h
    · cases h
    · rename_i b hb
      have hwant := wantedA_rel he hb
      unfold wpList
      rw [hwant]
      cases b with
      | true =>
        simp only [if_true] at h ⊢
        split at h
        · cases h
        · rename_i v H1 hv
          refine .inl ((evOp_sound hcf hG hw he hv).wp fun u w1 ⟨K1, k1, k2, k3, k4⟩ => ?_)
          refine evOps_sound hcf hG rest K1 _ H1 _ w1 env' H' (fun o' ho' => hd o' (by simp [ho'])) k2 ((he.mono k1).put (hd o (by simp)) k4) h Q fun a' w' ⟨K2, l1, l2, l3, l4⟩ => hQ a' w' ⟨K2, k1.trans l1, l2, k3.trans l3, l4⟩
      | false =>
        simp only [Bool.false_eq_true, if_false] at h ⊢
        refine evOps_sound hcf hG rest K _ H _ w env' H' (fun o' ho' => hd o' (by simp [ho'])) hw (he.put (hd o (by simp)) ?_) h Q hQ
        simp [Rel, RelL, undef]
end
end Go.Proofs.YtggoggdcnahkaaaDoor
