/- The evaluator's operations, held against the machine's (5): texts, the language's own functions. -/
import Derived.Test.YtggoggdcnahkaaaDoorAe7
set_option linter.unusedVariables false
set_option linter.unusedSimpArgs false
namespace Go.Proofs.YtggoggdcnahkaaaDoor
open Go Go.RowKit

def numOf : AV → Int
  | .s (.int .u8 n) => n
  | _ => 0
theorem mapM_bytes : ∀ (xs : List AV) (bs : List UInt8), xs.mapM byteOf = some bs → bs = xs.map (fun x => UInt8.ofNat (numOf x).toNat) ∧ ∀ x ∈ xs, x = .s (.int .u8 (numOf x))
  | [], bs, h => by simp at h; simp [h]
  | x :: xs, bs, h => by
    simp only [List.mapM_cons, Option.bind_eq_bind, Option.bind_eq_some_iff, Option.pure_def, Option.some.injEq] at h
    obtain ⟨b, hb, bs', hbs, rfl⟩ := h
    obtain ⟨e1, e2⟩ := mapM_bytes xs bs' hbs
    unfold byteOf at hb
    split at hb
    · rename_i n
      injection hb with hb
      refine ⟨by simp [numOf, hb, e1], fun y hy => ?_⟩
      rcases List.mem_cons.1 hy with rfl | hy
      · rfl
      · exact e2 y hy
    · cases hb

section
variable {P : Program} {base N : Nat} {R : Nat → Nat → Option Value} {K : KW} {H : Heap} {w : World} {o : Oper} {a : Act} {env : Env} {r : AV}

theorem do_str (hw : WR base R K H w) (he : EnvRel K N env a) {src dst e : TypeId} {x : Operand} {xs : List AV} {p : Prov} {bs : List UInt8} (hop : o.op = .convert src dst x) (hx : valA env x = some (.sl xs p)) (hs : elT P src = some e) (hd : strT P dst = some true)
    (hu : u8T P e = some true) (hb : xs.mapM byteOf = some bs) : Does P base R K w o a (.s (.string ⟨bs.toArray⟩)) H := by
  obtain ⟨e1, e2⟩ := mapM_bytes xs bs hb
  have h1 := valA_rel he hx
  simp only [Rel] at h1
  obtain ⟨A, c, sz, hv, _, _, hr⟩ := h1
  have hstr : strOfNums (xs.map numOf) = ⟨bs.toArray⟩ := by simp [strOfNums, e1]
  refine Does.val hw (v := .string ⟨bs.toArray⟩) ?_ (by simp [Rel, Value.oneCell'])
  rcases hr with hr | ⟨b, q, rfl, hr⟩
  · subst hr
    have hbs : bs = [] := by simpa using e1
    subst hbs
    cases A with
    | none =>
      have := run_convert_bytes_nil (P := P) w src e (elT_under hs) (u8T_under hu) 0 c dst (strT_under hd)
      simp only [execOp, hop, hv, Sem.run_bind, List.length_nil, this, Result.andThen_ok]; rfl
    | some ad =>
      obtain ⟨b, q, sp⟩ := ad
      rw [show (⟨b, q, sp⟩ : Addr) = ⟨b, q, sp⟩ from rfl] at hv
      have : (convert src dst (.slice (some ⟨b, q, sp⟩) 0 c)).run P w = .ok (.string ⟨#[]⟩) w := by
        rw [run_convert_bytes_string w src dst e _ 0 c (elT_under hs) (u8T_under hu) (strT_under hd)]
        simp [Conv.bytesToString, loadCells, loadCellsFrom, ByteArray.empty, ByteArray.emptyWithCapacity]
        rfl
      simp only [execOp, hop, hv, Sem.run_bind, List.length_nil, this, Result.andThen_ok]; rfl
  · have := run_convert_bytes_arg (P := P) w src e (elT_under hs) (u8T_under hu) b q xs.length c (xs.map numOf) (by simp) (fun i hi => by
      obtain ⟨h2, h3⟩ := (RelE_iff.1 hr) i xs[i] (List.getElem?_eq_getElem hi)
      have hx' := e2 xs[i] (List.getElem_mem hi)
      rw [hx'] at h2 h3
      simp only [AV.cells, List.length_cons, List.length_nil, Nat.zero_add] at h2
      subst h2
      simp only [AV.cells, RelC, Rel, Nat.mul_one] at h3
      obtain ⟨⟨v, a1, _, a3, _⟩, _⟩ := h3
      rw [hw.pcs _ _ _ a1, a3]
      simp [List.getD, hi]) dst (strT_under hd)
    rw [hstr] at this
    simp only [execOp, hop, hv, Sem.run_bind, this, Result.andThen_ok]; rfl

/-! The language's own functions -/
theorem run_builtin {c : Call} {b : Builtin} (hop : o.op = .call c) (hc : c.callee = .builtin b) :
    ∃ cs, (execOp a.eval o).run P w = (builtin b c.argTypes o.type cs (c.args.map a.eval)).run P w := by
  refine ⟨c.args.map fun | .const _ => true | _ => false, ?_⟩
  simp only [execOp, hop, resolve, hc, Sem.run_bind, Sem.run_pure, Result.andThen_ok, invoke]
  rfl

theorem args_of {c : Call} {l : List AV} (he : EnvRel K N env a) (hl : valsA env c.args.toList = some l) : RelL K l (c.args.map a.eval).toList := by
  have := valsA_rel he hl
  simpa using this

theorem args_one {xs : Array Value} {x : AV} (h : RelL K [x] xs.toList) : ∃ v, xs = #[v] ∧ Rel K x v := by
  simp only [RelL] at h
  obtain ⟨u, us, e, h1, rfl⟩ := h
  exact ⟨u, by apply Array.ext'; simpa using e, h1⟩
theorem args_two {xs : Array Value} {x y : AV} (h : RelL K [x, y] xs.toList) : ∃ u v, xs = #[u, v] ∧ Rel K x u ∧ Rel K y v := by
  simp only [RelL] at h
  obtain ⟨u, us, e, h1, v, vs, rfl, h2, rfl⟩ := h
  exact ⟨u, v, by apply Array.ext'; simpa using e, h1, h2⟩

theorem do_len (hw : WR base R K H w) (he : EnvRel K N env a) {c : Call} {xs : List AV} {p : Prov} {e : TypeId} (hop : o.op = .call c) (hc : c.callee = .builtin .len) (hl : valsA env c.args.toList = some [.sl xs p]) (ht : (c.argTypes[0]?).bind (elT P) = some e) :
    Does P base R K w o a (.s (.int .i64 xs.length)) H := by
  obtain ⟨v, hv, hr⟩ := args_one (args_of he hl)
  rw [Option.bind_eq_some_iff] at ht
  obtain ⟨t, ht, hte⟩ := ht
  simp only [Rel] at hr
  obtain ⟨A, cp, sz, rfl, _⟩ := hr
  refine Does.val hw (v := .int .i64 xs.length) ?_ (by simp [Rel, Value.oneCell'])
  obtain ⟨cs, hcs⟩ := run_builtin (P := P) (w := w) (a := a) hop hc
  rw [hcs, hv]
  simp [builtin, Builtin.len_, ht, run_underlying (elT_under hte), goInt]

theorem do_lenB (hw : WR base R K H w) (he : EnvRel K N env a) {c : Call} {τ ep sz q n : Nat} {e : TypeId} (hop : o.op = .call c) (hc : c.callee = .builtin .len) (hl : valsA env c.args.toList = some [.bs τ ep sz q n]) (ht : (c.argTypes[0]?).bind (elT P) = some e) :
    Does P base R K w o a (.s (.int .i64 n)) H := by
  obtain ⟨v, hv, hr⟩ := args_one (args_of he hl)
  rw [Option.bind_eq_some_iff] at ht
  obtain ⟨t, ht, hte⟩ := ht
  simp only [Rel] at hr
  obtain ⟨g, m, A, cp, _, _, _, rfl, _⟩ := hr
  refine Does.val hw (v := .int .i64 n) ?_ (by simp [Rel, Value.oneCell'])
  obtain ⟨cs, hcs⟩ := run_builtin (P := P) (w := w) (a := a) hop hc
  rw [hcs, hv]
  simp [builtin, Builtin.len_, ht, run_underlying (elT_under hte), goInt]

theorem do_lenS (hw : WR base R K H w) (he : EnvRel K N env a) {c : Call} {s : ByteArray} (hop : o.op = .call c) (hc : c.callee = .builtin .len) (hl : valsA env c.args.toList = some [.s (.string s)]) (ht : (c.argTypes[0]?).bind (strT P) = some true) :
    Does P base R K w o a (.s (.int .i64 s.size)) H := by
  obtain ⟨v, hv, hr⟩ := args_one (args_of he hl)
  rw [Option.bind_eq_some_iff] at ht
  obtain ⟨t, ht, hte⟩ := ht
  simp only [Rel] at hr
  refine Does.val hw (v := .int .i64 s.size) ?_ (by simp [Rel, Value.oneCell'])
  obtain ⟨cs, hcs⟩ := run_builtin (P := P) (w := w) (a := a) hop hc
  rw [hcs, hv, hr.1]
  simp [builtin, Builtin.len_, ht, run_underlying (strT_under hte), goInt]

theorem conc_list : ∀ {l : List AV} {vs us : List Value}, RelL K l us → l.mapM conc = some vs → us = vs
  | [], vs, us, h, hm => by simp at hm; simp only [RelL] at h; rw [h, hm]
  | x :: l, vs, us, h, hm => by
    simp only [List.mapM_cons, Option.bind_eq_bind, Option.bind_eq_some_iff, Option.pure_def, Option.some.injEq] at hm
    obtain ⟨v, hv, vs', hvs, rfl⟩ := hm
    simp only [RelL] at h
    obtain ⟨u, us', rfl, h1, h2⟩ := h
    rw [conc_rel h1 hv, conc_list h2 hvs]

theorem do_minmax (hw : WR base R K H w) (he : EnvRel K N env a) {c : Call} {l : List AV} {vs : List Value} (hop : o.op = .call c) (hl : valsA env c.args.toList = some l) (hm : l.mapM conc = some vs)
    (h : c.callee = .builtin .min ∧ scalarOf (pureRun P (Builtin.min_ c.argTypes o.type vs.toArray)) = some r ∨ c.callee = .builtin .max ∧ scalarOf (pureRun P (Builtin.max_ c.argTypes o.type vs.toArray)) = some r) : Does P base R K w o a r H := by
  have hargs : c.args.map a.eval = vs.toArray := by
    apply Array.ext'
    rw [conc_list (args_of he hl) hm]
  rcases h with ⟨hc, h⟩ | ⟨hc, h⟩
  all_goals
    obtain ⟨q, hq, hr⟩ := scalarOf_rel (K := K) h
    have hrun := pureRun_run _ _ hq w
    refine Does.val hw (v := q) ?_ hr
    obtain ⟨cs, hcs⟩ := run_builtin (P := P) (w := w) (a := a) hop hc
    rw [hcs, hargs]
    simp only [builtin, Sem.run_bind, hrun, Result.andThen_ok]
    rfl

/-! append -/
theorem run_append_row (w : World) (t tx ty e : TypeId) (i : TypeInfo) (ht : P.underlying t = some (.slice e)) (hi : P.info? e = some i) (g sLen sCap : Nat) (cur : Array Value) (T : TypeId) (x : Value) (n : Nat) (news : List Value) (hs : Src P i.size tx x n news w)
    (hroom : sLen + n ≤ sCap) (hg : w.heap[g]? = some (.cells cur T (0, 0))) (hfit : sLen * i.size + news.length ≤ cur.size) :
    (Builtin.append_ #[t, tx] ty #[.slice (some ⟨g, 0, none⟩) sLen sCap, x]).run P w = .ok (.slice (some ⟨g, 0, none⟩) (sLen + n) sCap) (w.setRow g (cur.toList.take (sLen * i.size) ++ news ++ cur.toList.drop (sLen * i.size + news.length)).toArray) := by
  have hst := run_storeCells_at P g (sLen * i.size) T news 0 cur w hg (by simpa using hfit) hs.one
  simp only [Nat.add_zero] at hst
  rcases hs.kind with ⟨e', hk⟩ | hk <;> simp [Builtin.append_, run_underlying ht, run_underlying hk, sizeOf, typeInfo, hi, hs.len, hroom, hs.cells, add_lit, hst]

theorem run_append_none (w : World) (t tx ty e : TypeId) (i : TypeInfo) (ht : P.underlying t = some (.slice e)) (hi : P.info? e = some i) (A : Option Addr) (sLen sCap : Nat) (x : Value) (hs : Src P i.size tx x 0 [] w) (hc : sLen ≤ sCap) :
    (Builtin.append_ #[t, tx] ty #[.slice A sLen sCap, x]).run P w = .ok (.slice A sLen sCap) w := by
  rcases hs.kind with ⟨e', hk⟩ | hk <;> cases A <;> simp [Builtin.append_, run_underlying ht, run_underlying hk, sizeOf, typeInfo, hi, hs.len, hc, hs.cells, storeCells]

/-- What is appended: its cells, and how they read anywhere else. -/
structure News (K : KW) (ys : List AV) (sz : Nat) (news : List Value) : Prop where
  len : news.length = ys.length * sz
  one : ∀ u ∈ news, u.oneCell' = true
  at_ : ∀ (K' : KW) (b o : Nat), K.le K' → (∀ j u, news[j]? = some u → K'.pc b (o + j) = some u) → RelE K' b sz o ys
  flat : RelL K (ys.flatMap AV.cells) news

theorem RelE_flatRel {b sz : Nat} : ∀ {o : Nat} {xs : List AV} {news : List Value}, RelE K b sz o xs → news.length = xs.length * sz → (∀ j v, news[j]? = some v → K.pc b (o + j) = some v) → RelL K (xs.flatMap AV.cells) news
  | o, [], news, h, hl, hp => by
    have : news = [] := List.eq_nil_of_length_eq_zero (by simpa using hl)
    subst this; simp [RelL]
  | o, x :: xs, news, h, hl, hp => by
    rw [RelE_cons] at h
    obtain ⟨⟨h1, h2⟩, hr⟩ := h
    simp only [List.length_cons, Nat.succ_mul] at hl
    have e : news = news.take sz ++ news.drop sz := (List.take_append_drop sz news).symm
    rw [List.flatMap_cons, e]
    refine RelL_append (RelL_of (by simp; omega) fun i c v hc hv => ?_) (RelE_flatRel hr (by simp; omega) fun j v hv => ?_)
    · rw [List.getElem?_take] at hv
      split at hv
      · obtain ⟨v', a1, _, a3⟩ := (RelC_iff.1 h2) i c hc
        have := hp i v hv
        rw [a1] at this; injection this with this; subst this
        exact a3
      · cases hv
    · rw [List.getElem?_drop] at hv
      have := hp _ v hv
      rwa [← Nat.add_assoc] at this

theorem news_sl (hw : WR base R K H w) {tx e' : TypeId} {ys : List AV} {p : Prov} {v : Value} {size : Nat} (hr : Rel K (.sl ys p) v) (hk : P.underlying tx = some (.slice e')) (hwd : widths size ys = true) :
    ∃ news, Src P size tx v ys.length news w ∧ News K ys size news := by
  simp only [Rel] at hr
  obtain ⟨A, c, szy, rfl, _, _, hr⟩ := hr
  by_cases hne : ys = []
  · subst hne
    refine ⟨[], ?_, ⟨by simp, by simp, fun _ _ _ _ _ => by simp [RelE], by simp [RelL]⟩⟩
    cases A with
    | none => exact Src.ofNil w hk c
    | some ad => exact Src.ofSlice w hk ad 0 c [] (by simp) (by simp) (by simp)
  · rcases hr with hr | ⟨b, q, rfl, hr⟩
    · exact absurd hr hne
    · have hsz := RelE_width hr hwd hne
      subst hsz
      obtain ⟨news, e1, e2, e3⟩ := RelE_cells hr
      refine ⟨news, Src.ofSlice w hk ⟨b, q, none⟩ ys.length c news e1 (fun j u hu => by rw [add_lit]; exact hw.pcs _ _ _ (e2 j u hu)) e3, ⟨e1, e3, fun K' b' o' hle h => RelE_move hle hr fun j v hj hv => ?_, RelE_flatRel hr e1 e2⟩⟩
      obtain ⟨u, hu⟩ : ∃ u, news[j]? = some u := ⟨news[j]'(by omega), List.getElem?_eq_getElem (by omega)⟩
      have := e2 j u hu
      rw [hv] at this; injection this with this; subst this
      exact h j _ hu

theorem flat_bytes (s : ByteArray) : (bytesA s).flatMap AV.cells = bytesA s := by
  unfold bytesA
  generalize s.data.toList = l
  induction l with
  | nil => rfl
  | cons b l ih => rw [List.map_cons, List.flatMap_cons, ih]; rfl
theorem news_str {tx : TypeId} {s : ByteArray} (hk : P.underlying tx = some .string) : ∃ news, Src P 1 tx (.string s) (bytesA s).length news w ∧ News K (bytesA s) 1 news := by
  have hl : (bytesA s).length = s.size := by simp [bytesA]
  rw [hl]
  refine ⟨byteCells s, Src.ofString w hk s, ⟨by rw [byteCells_length, hl]; simp, ?_, ?_, ?_⟩⟩
  · intro u hu
    obtain ⟨b, _, rfl⟩ := List.mem_map.1 hu
    rfl
  · intro K' b o hle h
    rw [RelE_iff]
    intro i x hx
    unfold bytesA at hx
    rw [List.getElem?_map, Option.map_eq_some_iff] at hx
    obtain ⟨c, hc, rfl⟩ := hx
    refine ⟨rfl, ?_⟩
    simp only [AV.cells, RelC, Rel]
    exact ⟨⟨.int .u8 c.toNat, by rw [Nat.mul_one]; exact h i _ (by simp [byteCells, hc]), rfl, rfl, rfl⟩, trivial⟩
  · rw [flat_bytes]
    refine RelL_of (by rw [byteCells_length, hl]) fun i x v hx hv => ?_
    unfold bytesA at hx
    rw [List.getElem?_map, Option.map_eq_some_iff] at hx
    obtain ⟨c, hc, rfl⟩ := hx
    simp [byteCells, hc] at hv
    subst hv
    simp [Rel, Value.oneCell']

theorem cell_one {x : AV} {v : Value} (h : Rel K x v) (ho : v.oneCell' = true) : x.cells = [x] ∧ x.isTup = false := by
  cases x with
  | agg cs => simp only [Rel] at h; obtain ⟨vs, rfl, _⟩ := h; simp [Value.oneCell'] at ho
  | tup cs => simp only [Rel] at h; obtain ⟨vs, rfl, _⟩ := h; simp [Value.oneCell'] at ho
  | _ => exact ⟨rfl, rfl⟩

theorem view_get {cs ys : List AV} {vals : List Value} {sz q n : Nat} (hr : RelL K cs vals) (ho : ∀ u ∈ vals, u.oneCell' = true) (hv : viewA cs sz q n = some ys) :
    (q + n) * sz ≤ cs.length ∧ ys.length = n ∧ ∀ i x, ys[i]? = some x → x.cells = (cs.drop ((q + i) * sz)).take sz ∧ x.isTup = false := by
  unfold viewA at hv
  split at hv
  · rename_i hle
    split at hv
    · rename_i h1
      subst h1
      injection hv with hv; subst hv
      simp only [Nat.mul_one] at hle ⊢
      refine ⟨hle, by simp; omega, fun i x hx => ?_⟩
      rw [List.getElem?_take] at hx
      split at hx
      · rw [List.getElem?_drop] at hx
        obtain ⟨v, hv, hrv⟩ := RelL_get hr _ _ hx
        obtain ⟨e1, e2⟩ := cell_one hrv (ho v (List.mem_of_getElem? hv))
        refine ⟨?_, e2⟩
        rw [e1]
        apply List.ext_getElem?
        intro j
        rw [List.getElem?_take]
        cases j with
        | zero => simp [hx]
        | succ j => simp
      · cases hx
    · injection hv with hv; subst hv
      refine ⟨hle, by simp, fun i x hx => ?_⟩
      rw [List.getElem?_map, Option.map_eq_some_iff] at hx
      obtain ⟨j, hj, rfl⟩ := hx
      obtain ⟨hi, hij⟩ := List.getElem?_eq_some_iff.1 hj
      simp at hij; subst hij
      exact ⟨rfl, rfl⟩
  · cases hv

theorem range_flat (cs : List AV) (sz q : Nat) : ∀ n, ((List.range n).flatMap fun i => (cs.drop ((q + i) * sz)).take sz) = (cs.drop (q * sz)).take (n * sz)
  | 0 => by simp
  | n + 1 => by
    rw [List.range_succ, List.flatMap_append, range_flat cs sz q n, Nat.succ_mul, List.take_add, List.drop_drop]
    simp only [List.flatMap_cons, List.flatMap_nil, List.append_nil]
    rw [Nat.add_mul]
theorem view_flat {cs ys : List AV} {vals : List Value} {sz q n : Nat} (hr : RelL K cs vals) (ho : ∀ u ∈ vals, u.oneCell' = true) (hv : viewA cs sz q n = some ys) : ys.flatMap AV.cells = (cs.drop (q * sz)).take (n * sz) := by
  unfold viewA at hv
  split at hv
  · split at hv
    · rename_i h1
      subst h1
      injection hv with hv; subst hv
      simp only [Nat.mul_one]
      have key : ∀ (l : List AV), (∀ x ∈ l, x.cells = [x]) → l.flatMap AV.cells = l := by
        intro l
        induction l with
        | nil => intro _; rfl
        | cons x l ih => intro h; rw [List.flatMap_cons, ih fun y hy => h y (by simp [hy]), h x (by simp)]; rfl
      refine key _ fun x hx => ?_
      have hx' := List.mem_of_mem_drop (List.mem_of_mem_take hx)
      obtain ⟨i, hi⟩ := List.mem_iff_getElem?.1 hx'
      obtain ⟨v, hv, hrv⟩ := RelL_get hr _ _ hi
      exact (cell_one hrv (ho v (List.mem_of_getElem? hv))).1
    · injection hv with hv; subst hv
      rw [← range_flat cs sz q n, List.flatMap_map]
      rfl
  · cases hv

theorem view_news {w : World} {g sz q n : Nat} {cs ys : List AV} {arr : Array Value} {T : TypeId} (hh : w.heap[g]? = some (.cells arr T (0, 0))) (hsz : cs.length ≤ arr.size) (hrl : RelL K cs (arr.toList.take cs.length)) (ho : ∀ u ∈ arr.toList.take cs.length, u.oneCell' = true) (hv : viewA cs sz q n = some ys) :
    ∃ news, News K ys sz news ∧ ∀ j u, news[j]? = some u → w.cell? ⟨g, q * sz + j, none⟩ = some u := by
  obtain ⟨v1, v2, v3⟩ := view_get hrl ho hv
  have hl1 : (((arr.toList.take cs.length).drop (q * sz)).take (n * sz)).length = n * sz := by
    rw [Nat.add_mul] at v1
    simp; omega
  refine ⟨((arr.toList.take cs.length).drop (q * sz)).take (n * sz), ⟨by rw [hl1, v2], fun u hu => ho u (List.mem_of_mem_drop (List.mem_of_mem_take hu)), fun K' b' o' hle hpc => ?_, by rw [view_flat hrl ho hv]; exact RelL_take (RelL_drop hrl _) _⟩, fun j u hu => ?_⟩
  · rw [RelE_iff]
    intro i x hx
    obtain ⟨x1, x2⟩ := v3 i x hx
    have hi : i < n := by rw [← v2]; exact (List.getElem?_eq_some_iff.1 hx).1
    have hle2 : (q + i) * sz + sz ≤ cs.length := by
      rw [← Nat.succ_mul]
      exact Nat.le_trans (Nat.mul_le_mul_right _ (by omega)) v1
    refine ⟨by rw [x1]; simp; omega, ?_⟩
    rw [x1, RelC_iff]
    intro k y hy
    rw [List.getElem?_take] at hy
    split at hy
    · rename_i hk'
      rw [List.getElem?_drop] at hy
      obtain ⟨u, hu, hru⟩ := RelL_get hrl _ _ hy
      refine ⟨u, ?_, ho u (List.mem_of_getElem? hu), Rel.mono hle _ _ hru⟩
      rw [Nat.add_assoc]
      refine hpc _ u ?_
      have hlt : i * sz + k < n * sz := by
        have : (i + 1) * sz ≤ n * sz := Nat.mul_le_mul_right _ hi
        rw [Nat.succ_mul] at this
        omega
      rw [List.getElem?_take, if_pos hlt, List.getElem?_drop]
      rw [show q * sz + (i * sz + k) = (q + i) * sz + k by rw [Nat.add_mul]; omega]
      exact hu
    · cases hy
  · rw [List.getElem?_take] at hu
    split at hu
    · rw [List.getElem?_drop, List.getElem?_take] at hu
      split at hu
      · rw [cell_row hh]; simpa using hu
      · cases hu
    · cases hu

theorem news_view (hw : WR base R K H w) {tx e' : TypeId} {τ ep sz q n : Nat} {cs ys : List AV} {v : Value} (hr : Rel K (.bs τ ep sz q n) v) (hk : P.underlying tx = some (.slice e')) (hH : H[τ]? = some (.buf ep cs sz)) (hv : viewA cs sz q n = some ys) :
    ∃ news, (Src P sz tx v ys.length news w ∧ News K ys sz news) ∧ ∃ g m A c, K.loc τ = some (g, sz, m) ∧ v = .slice A n c ∧ n ≤ c ∧ (c = 0 ∨ A = some ⟨g, q * sz, none⟩) ∧ ys.length = n ∧ ∀ j u, news[j]? = some u → w.cell? ⟨g, q * sz + j, none⟩ = some u := by
  simp only [Rel] at hr
  obtain ⟨g, m, A, c, hg, h2, h3, rfl, h5, h6, h7⟩ := hr
  obtain ⟨_, _, e1, _, arr, T, hh, hsz, hrl, ho, _⟩ := hw.tok hH hg
  obtain ⟨v1, v2, v3⟩ := view_get hrl ho hv
  have hlen := RelL_length hrl
  have hcells : ∀ j u, (arr.toList.take cs.length)[j]? = some u → w.cell? ⟨g, j, none⟩ = some u := by
    intro j u hu
    rw [cell_row hh]
    rw [List.getElem?_take] at hu
    split at hu
    · simpa using hu
    · cases hu
  have hl1 : (((arr.toList.take cs.length).drop (q * sz)).take (n * sz)).length = n * sz := by
    rw [Nat.add_mul] at v1
    simp; omega
  refine ⟨((arr.toList.take cs.length).drop (q * sz)).take (n * sz), ⟨?_, ⟨by rw [hl1, v2], fun u hu => ho u (List.mem_of_mem_drop (List.mem_of_mem_take hu)), fun K' b' o' hle hpc => ?_, by rw [view_flat hrl ho hv]; exact RelL_take (RelL_drop hrl _) _⟩⟩, g, m, A, c, hg, rfl, h5, h6.imp id (fun ⟨b, p, hA, hbp⟩ => by rw [hA, (hbp e1).1, (hbp e1).2]), v2, fun j u hu => by
    rw [List.getElem?_take] at hu
    split at hu
    · rw [List.getElem?_drop] at hu
      exact hcells _ u hu
    · cases hu⟩
  · rw [v2]
    rcases h6 with h6 | ⟨b, p, rfl, h6⟩
    · have hn0 : n = 0 := by omega
      subst hn0 h6
      simp only [Nat.zero_mul, List.take_zero]
      cases A with
      | none => exact Src.ofNil w hk 0
      | some ad => exact Src.ofSlice w hk ad 0 0 [] (by simp) (by simp) (by simp)
    · obtain ⟨rfl, rfl⟩ := h6 e1
      refine Src.ofSlice w hk ⟨b, q * sz, none⟩ n c _ hl1 (fun j u hu => ?_) (fun u hu => ho u (List.mem_of_mem_drop (List.mem_of_mem_take hu)))
      rw [add_lit]
      rw [List.getElem?_take] at hu
      split at hu
      · rw [List.getElem?_drop] at hu
        exact hcells _ u hu
      · cases hu
  · rw [RelE_iff]
    intro i x hx
    obtain ⟨x1, x2⟩ := v3 i x hx
    have hi : i < n := by rw [← v2]; exact (List.getElem?_eq_some_iff.1 hx).1
    have hle2 : (q + i) * sz + sz ≤ cs.length := by
      rw [← Nat.succ_mul]
      exact Nat.le_trans (Nat.mul_le_mul_right _ (by omega)) v1
    refine ⟨by rw [x1]; simp; omega, ?_⟩
    rw [x1, RelC_iff]
    intro k y hy
    rw [List.getElem?_take] at hy
    split at hy
    · rename_i hk'
      rw [List.getElem?_drop] at hy
      obtain ⟨u, hu, hru⟩ := RelL_get hrl _ _ hy
      refine ⟨u, ?_, ho u (List.mem_of_getElem? hu), Rel.mono hle _ _ hru⟩
      rw [Nat.add_assoc]
      refine hpc _ u ?_
      have hlt : i * sz + k < n * sz := by
        have : (i + 1) * sz ≤ n * sz := Nat.mul_le_mul_right _ hi
        rw [Nat.succ_mul] at this
        omega
      rw [List.getElem?_take, if_pos hlt, List.getElem?_drop]
      rw [show q * sz + (i * sz + k) = (q + i) * sz + k by rw [Nat.add_mul]; omega]
      exact hu
    · cases hy
end
end Go.Proofs.YtggoggdcnahkaaaDoor
