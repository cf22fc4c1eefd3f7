/- Words for texts that a program prints of functions' code. -/
import Derived.Test.YtggoggdcnahkaaaDoorAe22
set_option linter.unusedVariables false
set_option linter.unusedSimpArgs false
namespace Go.Proofs.YtggoggdcnahkaaaDoor
open Go Go.RowKit

theorem thenN {K : Env → Heap → Prop} {Q : Ex → Env → Heap → Prop} {e : Env} {h : Heap} (hk : K e h) : thenQ K Q .normal e h := hk
theorem thenX {K : Env → Heap → Prop} {Q : Ex → Env → Heap → Prop} {k : Nat} {e : Env} {h : Heap} (hq : Q (.exit k) e h) : thenQ K Q (.exit k) e h := hq
theorem thenR {K : Env → Heap → Prop} {Q : Ex → Env → Heap → Prop} {e : Env} {h : Heap} (hq : Q .ret e h) : thenQ K Q .ret e h := hq
theorem blockN {id : Nat} {Q : Ex → Env → Heap → Prop} {e : Env} {h : Heap} (hq : Q .normal e h) : blockQ id Q .normal e h := hq
theorem blockR {id : Nat} {Q : Ex → Env → Heap → Prop} {e : Env} {h : Heap} (hq : Q .ret e h) : blockQ id Q .ret e h := hq
theorem blockE {id : Nat} {Q : Ex → Env → Heap → Prop} {e : Env} {h : Heap} (hq : Q .normal e h) : blockQ id Q (.exit id) e h := by
  simp only [blockQ, if_true]; exact hq
theorem blockX {id k : Nat} {Q : Ex → Env → Heap → Prop} {e : Env} {h : Heap} (hn : k ≠ id) (hq : Q (.exit k) e h) : blockQ id Q (.exit k) e h := by
  simp only [blockQ, hn, if_false]; exact hq

theorem res1 {P : Program} {e : Env} {h : Heap} {t : Nat} {v : AV} (h1 : e t = some v) : resA P e h [.tmp t] = some [v] := by simp [resA, h1]
theorem res2 {P : Program} {e : Env} {h : Heap} {t u : Nat} {v w : AV} (h1 : e t = some v) (h2 : e u = some w) : resA P e h [.tmp t, .tmp u] = some [v, w] := by simp [resA, h1, h2]
theorem res3 {P : Program} {e : Env} {h : Heap} {t u s : Nat} {v w x : AV} (h1 : e t = some v) (h2 : e u = some w) (h3 : e s = some x) : resA P e h [.tmp t, .tmp u, .tmp s] = some [v, w, x] := by simp [resA, h1, h2, h3]
theorem res4 {P : Program} {e : Env} {h : Heap} {t u s r : Nat} {v w x y : AV} (h1 : e t = some v) (h2 : e u = some w) (h3 : e s = some x) (h4 : e r = some y) : resA P e h [.tmp t, .tmp u, .tmp s, .tmp r] = some [v, w, x, y] := by simp [resA, h1, h2, h3, h4]
theorem endQ {P : Program} {fi : FnInfo} {v : AV} {x : Ex} {e : Env} {h : Heap} {res : List ResultVar} {vs : List AV} (hx : ∀ k, x ≠ .exit k) (hr : fi.res = res) (h1 : resA P e h res = some vs) (h2 : finA h (oneOf vs) = some v) : EndP P fi v x e h := ⟨hx, vs, by rw [hr]; exact h1, h2⟩
theorem ret_ne : ∀ k, Ex.ret ≠ .exit k := fun _ h => by cases h
theorem normal_ne : ∀ k, Ex.normal ≠ .exit k := fun _ h => by cases h

/-- Kinds of elements. -/
def kAV (k : IntKind) (x : Int) : AV := .s (.int k x)
def boolAV (b : Bool) : AV := .s (.bool b)
def strAV (s : ByteArray) : AV := .s (.string s)

/-- How many cells an element has that is appended, and bytes. -/
def appT (P : Program) (t : TypeId) : Option (Nat × Nat) := match elT P t with
  | some e => match szT P e, byT P e, zeroT P e with
    | some sz, some bytes, some z => if 0 < sz ∧ 0 < bytes ∧ z.cells.size = sz then some (sz, bytes) else none
    | _, _, _ => none
  | none => none
theorem appendC_of {P : Program} {bf : TypeId → Bool} {t tx : TypeId} {x y : AV} {H : Heap} {sz bytes : Nat} {ys : List AV} (ht : appT P t = some (sz, bytes)) (hb : bf t = false) (hy : srcA P tx sz H y = some ys) : appendC P bf #[t, tx] [x, y] H = appendA false H sz bytes x ys := by
  unfold appT at ht
  simp only [appendC]
  cases h1 : elT P t with
  | none => rw [h1] at ht; cases ht
  | some e =>
    rw [h1] at ht
    simp only at ht ⊢
    split at ht
    · rename_i s b z e1 e2 e3
      split at ht
      · rename_i hc
        injection ht with ht; injection ht with f1 f2
        subst f1 f2
        simp only [e1, e2, e3, hc, hy, hb, and_self, if_true]
      · cases ht
    · cases ht
theorem src_sl {P : Program} {tx : TypeId} {sz : Nat} {H : Heap} {ys : List AV} {p : Prov} (h1 : (elT P tx).isSome = true) (h2 : widths sz ys = true) : srcA P tx sz H (.sl ys p) = some ys := by
  simp only [srcA, h1, h2, and_self, if_true]
theorem app_typed {sz bytes : Nat} {H : Heap} {xs ys zs : List AV} {p : Prov} (h : AppOK sz H xs p) (hy : widths sz ys = true) (hz : xs ++ ys = zs) (hl : (xs.length + ys.length) * bytes ≤ roomA) :
    ∃ p' H', appendA false H sz bytes (.sl xs p) ys = some (.sl zs p', H') ∧ AppOK sz H' zs p' := by
  subst hz
  obtain ⟨p', H', h1, h2, _⟩ := append_app h hy hl
  exact ⟨p', H', h1, h2⟩
/-- The state of a row that grows, behind so many tokens: what stands behind these. -/
def AppT (sz k : Nat) (Hs : Heap) (xs : List AV) (p : Prov) : Prop := widths sz xs = true ∧ (p = .full ∨ ∃ j, p = .own (k + j) ∧ Hs[j]? = some (.own xs.length sz))
theorem AppT.nil {sz k : Nat} {Hs : Heap} : AppT sz k Hs [] .full := ⟨rfl, .inl rfl⟩
theorem AppT.lit {sz k : Nat} {Hs : Heap} {xs : List AV} (h : widths sz xs = true) : AppT sz k Hs xs .full := ⟨h, .inl rfl⟩
theorem AppT.ext {sz k : Nat} {Hs L : Heap} {xs : List AV} {p : Prov} (h : AppT sz k Hs xs p) : AppT sz k (Hs ++ L) xs p := by
  refine ⟨h.1, ?_⟩
  rcases h.2 with h | ⟨j, h1, h2⟩
  · exact .inl h
  · exact .inr ⟨j, h1, by rw [List.getElem?_append_left (List.getElem?_eq_some_iff.1 h2).1]; exact h2⟩
theorem app_tail {sz bytes k : Nat} (pre : Heap) {Hs : Heap} {xs ys zs : List AV} {p : Prov} (hk : pre.length = k) (h : AppT sz k Hs xs p) (hy : widths sz ys = true) (hz : xs ++ ys = zs) (hl : (xs.length + ys.length) * bytes ≤ roomA) :
    ∃ p' Hs', appendA false (pre ++ Hs) sz bytes (.sl xs p) ys = some (.sl zs p', pre ++ Hs') ∧ AppT sz k Hs' zs p' := by
  subst hz
  obtain ⟨hw, h⟩ := h
  have hw2 : widths sz (xs ++ ys) = true := by simp only [widths, List.all_append] at hw hy ⊢; simp [hw, hy]
  unfold appendA
  simp only [hl, if_true]
  rcases h with rfl | ⟨j, rfl, hj⟩
  · by_cases hn : ys.isEmpty = true
    · have : ys = [] := by simpa using hn
      subst this
      exact ⟨.full, Hs, by simp, ⟨by simpa using hw, .inl rfl⟩⟩
    · refine ⟨.own (pre ++ Hs).length, Hs ++ [.own (xs.length + ys.length) sz], ?_, ⟨hw2, .inr ⟨Hs.length, by simp [hk], by simp⟩⟩⟩
      simp only [hn, hw, Bool.false_eq_true, if_false, List.append_assoc]
      rfl
  · have hlt := (List.getElem?_eq_some_iff.1 hj).1
    have hget : (pre ++ Hs)[k + j]? = some (.own xs.length sz) := by
      rw [List.getElem?_append_right (by omega), hk, Nat.add_sub_cancel_left]; exact hj
    refine ⟨.own (k + j), Hs.set j (.own (xs.length + ys.length) sz), ?_, ⟨hw2, .inr ⟨j, rfl, ?_⟩⟩⟩
    · simp only [hget, and_self, if_true]
      rw [List.set_append_right _ _ (by omega), hk, Nat.add_sub_cancel_left]
    · rw [List.getElem?_set_self hlt]; simp
theorem app_nil {sz : Nat} {H : Heap} : AppOK sz H [] .full := ⟨rfl, .inl rfl⟩

theorem get_map {α : Type} {f : α → AV} {l : List α} {n : Nat} {x : α} (h : l[n]? = some x) : (l.map f)[n]? = some (f x) := by rw [List.getElem?_map, h]; rfl
theorem at_nat {i : Int} (h : 0 ≤ i) : i = (i.toNat : Int) := (Int.toNat_of_nonneg h).symm
theorem widths_map {α : Type} {f : α → AV} {k : Nat} (h : ∀ x, (f x).cells.length = k ∧ (f x).isTup = false) (l : List α) : widths k (l.map f) = true := by
  simp only [widths, List.all_map, List.all_eq_true]
  intro x _
  simp [h x]
theorem shut_sl {xs ys : List AV} {p : Prov} (h : AV.shutL 0 xs = some ys) : AV.shut 0 (.sl xs p) = some (.sl ys .ro) := by rw [shut0_sl, h]; rfl
theorem shut_cons {m : Nat} {x y : AV} {xs ys : List AV} (h1 : AV.shut m x = some y) (h2 : AV.shutL m xs = some ys) : AV.shutL m (x :: xs) = some (y :: ys) := by simp only [AV.shutL, h1, h2]
theorem shut_tup {m : Nat} {xs ys : List AV} (h : AV.shutL m xs = some ys) : AV.shut m (.tup xs) = some (.tup ys) := by simp only [AV.shut, h, Option.map_some]
theorem shut_agg {m : Nat} {xs ys : List AV} (h : AV.shutL m xs = some ys) : AV.shut m (.agg xs) = some (.agg ys) := by simp only [AV.shut, h, Option.map_some]
theorem fin_of {H : Heap} {v w : AV} (hb : ∀ τ e sz q n, v ≠ .bs τ e sz q n) (h : AV.shut 0 v = some w) : finA H v = some w := by
  unfold finA
  split
  · rename_i τ e sz q n; exact absurd rfl (hb τ e sz q n)
  · exact h
theorem shutL_len {m : Nat} : ∀ {xs ys : List AV}, AV.shutL m xs = some ys → ys.length = xs.length
  | [], ys, h => by simp only [AV.shutL] at h; injection h with h; subst h; rfl
  | x :: xs, ys, h => by
    obtain ⟨y, zs, rfl, _, h2⟩ := shutL_cons h
    simp only [List.length_cons, shutL_len h2]
/-- A call that looks at no token hears its arguments as they are when their rows are closed. -/
theorem pure_shut {P : Program} {T : Tab} {n : Nat} {f : FuncId} {fi : FnInfo} {args bs : List AV} {H : Heap} (hX : T.X f = none) (hOH : T.OH f = none) (hO : T.O f = none) (hC : T.C f = some fi) (hp : fi.pure = true) (h1 : AV.shutL 0 args = some bs) (h2 : AV.shutL 0 bs = some bs) : evF P T n f args H = evF P T n f bs H := by
  cases n with
  | zero => rfl
  | succ n =>
    rw [evF_call hX hOH hO, evF_call hX hOH hO]
    simp only [callL, hC, hp, h1, h2, shutL_len h1, if_true]
theorem shut_to {xs ys zs : List AV} (h : AV.shutL 0 xs = some ys) (e : ys = zs) : AV.shutL 0 xs = some zs := e ▸ h
theorem late_get {A : Heap} {b : Rec} : (A ++ [b])[A.length]? = some b := by simp
theorem late_set {A : Heap} {b c : Rec} : (A ++ [b]).set A.length c = A ++ [c] := by simp
theorem get_ext {X L : Heap} {i : Nat} {b : Rec} (h : X[i]? = some b) : (X ++ L)[i]? = some b := by
  rw [List.getElem?_append_left (List.getElem?_eq_some_iff.1 h).1]; exact h
theorem get_cons {X : Heap} {r : Rec} {i : Nat} {b : Rec} (h : X[i]? = some b) : (r :: X)[i + 1]? = some b := by simpa using h
theorem set_ext {X X' L : Heap} {i : Nat} {b c : Rec} (hg : X[i]? = some b) (h : X.set i c = X') : (X ++ L).set i c = X' ++ L := by
  rw [List.set_append_left _ _ (List.getElem?_eq_some_iff.1 hg).1, h]
theorem set_cons {X X' : Heap} {r : Rec} {i : Nat} {c : Rec} (h : X.set i c = X') : (r :: X).set (i + 1) c = r :: X' := by rw [List.set_cons_succ, h]
/-- A row's first growth: what stood behind stays. -/
theorem app_full {sz bytes k : Nat} (pre : Heap) {Hs : Heap} {xs ys zs : List AV} (hk : pre.length = k) (hw : widths sz xs = true) (hy : widths sz ys = true) (hz : xs ++ ys = zs) (hl : (xs.length + ys.length) * bytes ≤ roomA) :
    ∃ p' L, appendA false (pre ++ Hs) sz bytes (.sl xs .full) ys = some (.sl zs p', pre ++ (Hs ++ L)) ∧ AppT sz k (Hs ++ L) zs p' := by
  subst hz
  have hw2 : widths sz (xs ++ ys) = true := by simp only [widths, List.all_append] at hw hy ⊢; simp [hw, hy]
  unfold appendA
  simp only [hl, if_true]
  by_cases hn : ys.isEmpty = true
  · have : ys = [] := by simpa using hn
    subst this
    exact ⟨.full, [], by simp, ⟨by simpa using hw, .inl rfl⟩⟩
  · refine ⟨.own (pre ++ Hs).length, [.own (xs.length + ys.length) sz], ?_, ⟨hw2, .inr ⟨Hs.length, by simp [hk], by simp⟩⟩⟩
    simp only [hn, hw, Bool.false_eq_true, if_false, List.append_assoc]
    rfl
theorem cuts_ok {s : ByteArray} {L U : Int} (h : 0 ≤ L ∧ L ≤ U ∧ U ≤ (s.size : Int)) : (L = (L.toNat : Int) ∧ U = (U.toNat : Int)) ∧ L.toNat ≤ U.toNat ∧ U.toNat ≤ s.size := by omega
theorem cut_l {α : Type} {f : α → AV} {sz : Nat} {l : List α} {L U : Int} (b : Bool) (h : 0 ≤ L ∧ L ≤ U ∧ U ≤ (l.length : Int)) (hw : widths sz (l.map f) = true) : (L = (L.toNat : Int) ∧ U = (U.toNat : Int)) ∧ L.toNat ≤ U.toNat ∧ U.toNat ≤ (l.map f).length ∧ (b = false → widths sz (l.map f) = true) ∧ ((l.map f).take U.toNat).drop L.toNat = ((l.take U.toNat).drop L.toNat).map f := by
  refine ⟨by omega, by omega, by rw [List.length_map]; omega, fun _ => hw, by rw [List.map_drop, List.map_take]⟩
theorem cut_e {α : Type} {f : α → AV} {sz : Nat} {l : List α} {L : Int} (b : Bool) (h : 0 ≤ L ∧ L ≤ (l.length : Int) ∧ (l.length : Int) ≤ (l.length : Int)) (hw : widths sz (l.map f) = true) : (L = (L.toNat : Int) ∧ ((l.map f).length : Int) = ((l.length : Int).toNat : Int)) ∧ L.toNat ≤ (l.length : Int).toNat ∧ (l.length : Int).toNat ≤ (l.map f).length ∧ (b = false → widths sz (l.map f) = true) ∧ ((l.map f).take (l.length : Int).toNat).drop L.toNat = ((l.take (l.length : Int).toNat).drop L.toNat).map f := by
  refine ⟨by rw [List.length_map]; omega, by omega, by rw [List.length_map]; omega, fun _ => hw, by rw [List.map_drop, List.map_take]⟩
theorem resN {P : Program} {e : Env} {h : Heap} : resA P e h [] = some [] := rfl
theorem resT {P : Program} {e : Env} {h : Heap} {t : Nat} {v : AV} {rs : List ResultVar} {vs : List AV} (h1 : e t = some v) (h2 : resA P e h rs = some vs) : resA P e h (.tmp t :: rs) = some (v :: vs) := by simp only [resA, h1, h2]
theorem resC {P : Program} {e : Env} {h : Heap} {p τ : Nat} {ty : TypeId} {cs : List AV} {v : AV} {rs : List ResultVar} {vs : List AV} (h1 : e p = some (.ptr τ 0)) (h2 : h[τ]? = some (.box cs)) (h3 : loadA P ty cs 0 = some v) (h4 : resA P e h rs = some vs) : resA P e h (.cell p ty :: rs) = some (v :: vs) := by simp only [resA, h1, h4, h2, h3, Option.map_some]
/-! Functions that a row is handed to -/
theorem Closed.own {H : Heap} {τ n sz : Nat} (h : Closed H) : Closed (H.set τ (.own n sz)) := by
  intro r hr
  rw [List.length_set]
  rcases List.mem_or_eq_of_mem_set hr with hr | rfl
  · exact h r hr
  · rfl
theorem Closed.push {H : Heap} {b : Rec} (h : Closed H) (hb : b.shut H.length = some b) : Closed (H ++ [b]) := by
  intro r hr
  rw [List.length_append]
  rcases List.mem_append.1 hr with hr | hr
  · exact rec_up (by omega) r (h r hr)
  · rw [List.mem_singleton] at hr
    subst hr
    exact rec_up (by omega) r hb
theorem closed_append {H H' : Heap} {sz bytes : Nat} {xs ys : List AV} {p : Prov} {v : AV} (hc : Closed H) (h : appendA false H sz bytes (.sl xs p) ys = some (v, H')) : Closed H' := by
  unfold appendA at h
  simp only at h
  split at h
  · split at h
    · split at h
      · split at h
        · injection h with h; injection h with _ h; subst h; exact hc.own
        · cases h
      · cases h
    · split at h
      · injection h with h; injection h with _ h; subst h; exact hc
      · split at h
        · cases h
        · simp only [Bool.false_eq_true, if_false] at h
          injection h with h; injection h with _ h; subst h; exact hc.push rfl
    · split at h
      · injection h with h; injection h with _ h; subst h; exact hc
      · cases h
  · cases h
theorem row_append {sz bytes : Nat} {p0 : Prov} {H0 H : Heap} {xs ys zs : List AV} {p : Prov} (h : App sz p0 H0 xs p H) (hc : Closed H) (hy : widths sz ys = true) (hz : xs ++ ys = zs) (hl : (xs.length + ys.length) * bytes ≤ roomA) :
    ∃ p' H', appendA false H sz bytes (.sl xs p) ys = some (.sl zs p', H') ∧ App sz p0 H0 zs p' H' ∧ Closed H' ∧ ∀ (τ : Nat) (cs : List AV), H[τ]? = some (.box cs) → H'[τ]? = some (.box cs) := by
  subst hz
  obtain ⟨p', H', h1, h2⟩ := h.append hy hl
  exact ⟨p', H', h1, h2, closed_append hc h1, fun τ cs => (appendA_box h1 τ cs).1⟩
theorem App.box {sz : Nat} {p0 : Prov} {H0 H : Heap} {xs cs : List AV} {p : Prov} (h : App sz p0 H0 xs p H) : App sz p0 H0 xs p (H ++ [.box cs]) := by
  obtain ⟨⟨hw, hp⟩, hs, hf, ho, hl⟩ := h
  refine ⟨⟨hw, ?_⟩, ⟨by rw [List.length_append]; have := hs.1; omega, fun τ ht hn => ?_⟩, hf, ho, hl⟩
  · rcases hp with hp | ⟨τ, h1, h2⟩
    · exact .inl hp
    · exact .inr ⟨τ, h1, by rw [List.getElem?_append_left (List.getElem?_eq_some_iff.1 h2).1]; exact h2⟩
  · have := hs.1
    rw [List.getElem?_append_left (by omega)]; exact hs.2 τ ht hn
theorem App.trans {sz : Nat} {p0 p p' : Prov} {H0 H H' : Heap} {xs zs : List AV} (h : App sz p0 H0 xs p H) (k : App sz p H zs p' H') : App sz p0 H0 zs p' H' := by
  refine ⟨k.ok, ⟨Nat.le_trans h.stay.1 k.stay.1, fun τ ht hn => ?_⟩, ?_, fun τ e => k.own0 τ (h.own0 τ e), h.lt0⟩
  · have h1 := h.stay.1
    rw [k.stay.2 τ (by omega), h.stay.2 τ ht hn]
    intro e
    subst e
    rcases h.from_ with ⟨τ', e1, e2⟩ | ⟨e1, _⟩
    · injection e1 with e1; subst e1
      rcases e2 with e2 | e2
      · exact hn e2
      · omega
    · cases e1
  · rcases k.from_ with ⟨τ, e1, e2⟩ | ⟨e1, e2⟩
    · left
      refine ⟨τ, e1, ?_⟩
      rcases e2 with e2 | e2
      · rcases h.from_ with ⟨τ', f1, f2⟩ | ⟨f1, _⟩
        · rw [e2] at f1; injection f1 with f1; subst f1; exact f2
        · rw [e2] at f1; cases f1
      · exact .inr (Nat.le_trans h.stay.1 e2)
    · rcases h.from_ with ⟨τ', f1, f2⟩ | ⟨f1, f2⟩
      · rw [e2] at f1; cases f1
      · exact .inr ⟨e1, f2⟩
theorem App.keeps {sz : Nat} {p0 p p' : Prov} {H0 H H' : Heap} {xs zs : List AV} (h : App sz p0 H0 xs p H) (k : App sz p H zs p' H') : ∀ (τ : Nat) (cs : List AV), H[τ]? = some (.box cs) → H'[τ]? = some (.box cs) := by
  intro τ cs hb
  rw [k.stay.2 τ (List.getElem?_eq_some_iff.1 hb).1]
  · exact hb
  · intro e
    rcases h.ok.2 with e1 | ⟨τ', e1, e2⟩
    · rw [e] at e1; cases e1
    · rw [e] at e1; injection e1 with e1; subst e1
      rw [hb] at e2; cases e2
theorem shut_consM {m : Nat} {x y : AV} {xs ys : List AV} (h1 : AV.shut m x = some y) (h2 : AV.shutL m xs = some ys) : AV.shutL m (x :: xs) = some (y :: ys) := by simp only [AV.shutL, h1, h2]
theorem shut_slM {m : Nat} {xs ys : List AV} (h : AV.shutL m xs = some ys) : AV.shut m (.sl xs .ro) = some (.sl ys .ro) := by simp only [AV.shut, h, Option.map_some]
theorem shut_aggM {m : Nat} {xs ys : List AV} (h : AV.shutL m xs = some ys) : AV.shut m (.agg xs) = some (.agg ys) := by simp only [AV.shut, h, Option.map_some]
theorem box_shut {m : Nat} {xs : List AV} (h : AV.shut m (.agg xs) = some (.agg xs)) : (Rec.box xs).shut m = some (.box xs) := by
  simp only [AV.shut, Option.map_eq_some_iff] at h
  obtain ⟨ys, h1, h2⟩ := h
  injection h2 with h2
  subst h2
  simp only [Rec.shut, h1, Option.map_some]
theorem App.setbox {sz : Nat} {p0 : Prov} {H0 H : Heap} {xs cs ds : List AV} {p : Prov} {τ : Nat} (h : App sz p0 H0 xs p H) (hb : H[τ]? = some (.box cs)) (hge : H0.length ≤ τ) : App sz p0 H0 xs p (H.set τ (.box ds)) := by
  obtain ⟨⟨hw, hp⟩, hs, hf, ho, hl⟩ := h
  refine ⟨⟨hw, ?_⟩, ⟨by rw [List.length_set]; exact hs.1, fun σ ht hn => ?_⟩, hf, ho, hl⟩
  · rcases hp with hp | ⟨σ, h1, h2⟩
    · exact .inl hp
    · refine .inr ⟨σ, h1, ?_⟩
      rw [List.getElem?_set_ne]
      · exact h2
      · intro e; subst e; rw [hb] at h2; cases h2
  · rw [List.getElem?_set_ne (by omega)]; exact hs.2 σ ht hn
theorem box_open {H H2 H3 : Heap} {b0 b1 : Rec} (h1 : H ++ [b0] = H2) (h2 : H2.set H.length b1 = H3) (hc : Closed H) (hb : b1.shut H.length = some b1) : Closed H3 := by
  subst h1 h2
  rw [late_set]
  exact hc.push hb
theorem set_at {H H2 : Heap} {τ : Nat} {b c : Rec} (h1 : H[τ]? = some b) (h2 : H.set τ c = H2) : H2[τ]? = some c := by
  subst h2
  rw [List.getElem?_set_self (List.getElem?_eq_some_iff.1 h1).1]
theorem tok_ne {H : Heap} {t : Nat} {b : Rec} (h : H[t]? = some b) : H.length ≠ t := by
  have := (List.getElem?_eq_some_iff.1 h).1
  omega
theorem set_off {H H2 : Heap} {τ σ : Nat} {b c : Rec} (h : H[σ]? = some b) (h2 : H.set τ c = H2) (hn : τ ≠ σ) : H2[σ]? = some b := by
  subst h2
  rw [List.getElem?_set_ne hn]; exact h
theorem Closed.setbox {H H2 : Heap} {τ : Nat} {c : Rec} (h : Closed H) (h2 : H.set τ c = H2) (hb : c.shut H.length = some c) : Closed H2 := by
  subst h2
  intro r hr
  rw [List.length_set]
  rcases List.mem_or_eq_of_mem_set hr with hr | rfl
  · exact h r hr
  · exact hb
/-- What such a function hands back. -/
def RowPost (sz : Nat) (p : Prov) (H : Heap) (zs : List AV) : AV → Heap → Prop := fun v H' => ∃ p', v = .sl zs p' ∧ App sz p H zs p' H' ∧ Closed H'
theorem row_ret {P : Program} {fi : FnInfo} {sz : Nat} {p0 : Prov} {H0 H : Heap} {xs : List AV} {p : Prov} {x : Ex} {e : Env} {t : Nat} (hx : ∀ k, x ≠ .exit k) (hr : fi.res = [.tmp t]) (hk : fi.keep = 1) (ht : e t = some (.sl xs p)) (h : App sz p0 H0 xs p H) (hc : Closed H0) (hs : AV.shutL H0.length xs = some xs) : EndI P fi H0.length (RowPost sz p0 H0 xs) x e H := by
  obtain ⟨p', H', h1, h2, h3, _⟩ := h.ret hc hs
  exact ⟨hx, [.sl xs p], .sl xs p', H', by rw [hr]; exact res1 ht, by rw [hk]; exact h1, p', rfl, h2, h3⟩
theorem row_call {P : Program} {T : Tab} {n : Nat} {f : FuncId} {args : List AV} {sz : Nat} {p : Prov} {H : Heap} {zs : List AV} (h : ∃ v H', evF P T n f args H = some (v, H') ∧ RowPost sz p H zs v H') : ∃ p' H', evF P T n f args H = some (.sl zs p', H') ∧ App sz p H zs p' H' ∧ Closed H' := by
  obtain ⟨v, H', h1, p', rfl, h2, h3⟩ := h
  exact ⟨p', H', h1, h2, h3⟩
theorem AppT.of_ok {sz : Nat} {H : Heap} {xs : List AV} {p : Prov} (h : AppOK sz H xs p) : AppT sz 0 H xs p := by
  refine ⟨h.1, ?_⟩
  rcases h.2 with h | ⟨τ, h1, h2⟩
  · exact .inl h
  · exact .inr ⟨τ, by rw [Nat.zero_add]; exact h1, h2⟩
theorem closed_nil : Closed [] := fun r h => by cases h
/-- How a loop ends: the function with it, or not. -/
inductive LO (R S : Type) where
  | ret (r : R)
  | out (s : S)
/-- What holds of it. -/
def LOQ {R S : Type} (o : LO R S) (f : R → Prop) (g : S → Prop) : Prop := match o with
  | .ret r => f r
  | .out s => g s
theorem LOQ.r {R S : Type} {r : R} {f : R → Prop} {g : S → Prop} (h : f r) : LOQ (.ret r) f g := h
theorem LOQ.o {R S : Type} {s : S} {f : R → Prop} {g : S → Prop} (h : g s) : LOQ (.out s) f g := h
end Go.Proofs.YtggoggdcnahkaaaDoor
