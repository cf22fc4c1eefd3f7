/- Which instructions may be. -/
import Derived.Test.YtggoggdcnahkaaaDoorNice2
set_option linter.unusedVariables false
set_option linter.unusedSimpArgs false
set_option maxRecDepth 100000
namespace Go.Proofs.YtggoggdcnahkaaaDoor
open Go Go.RowKit Go.Proofs
def num32 (x : Int) : Bool := decide (0 ≤ x) && decide (x ≤ 4294967295)
def bareB (a b v t : Int) (l : List Int) (body els : List Ins) (has : Bool) : Bool := decide (a = 0) && decide (b = 0) && decide (v = 0) && decide (t = 0) && decide (l.length = 0) && decide (body.length = 0) && decide (els.length = 0) && !has
mutual
def mayI : Ins → Bool
  | .mk op a b v t l body els has => match opAt op with
    | none => false
    | some (k, _, g, _, _) =>
      if k = 2 then decide (0 ≤ t) && decide (t ≤ 2) && mayL body && mayL els && !(!decide (op = 4) && has || !has && decide (0 < els.length)) && bareB a b v 0 l [] [] false
      else if k = 10 then !(decide (g = 1) && decide (4294967295 < v)) && bareB a b 0 t l body els has
      else if k = 7 ∨ k = 8 then num32 a && num32 b && bareB 0 0 v t l body els has
      else if op = 14 then !decide (l.length = 0) && l.all num32 && bareB a b v t [] body els has
      else if k = 4 ∨ k = 6 ∨ (k = 3 ∧ op ≠ 15) then num32 a && bareB 0 b v t l body els has
      else bareB a b v t l body els has
def mayL : List Ins → Bool
  | [] => true
  | x :: xs => mayI x && mayL xs
end
theorem mayL_append : ∀ a b, mayL (a ++ b) = (mayL a && mayL b)
  | [], b => rfl
  | x :: a, b => by simp [mayL, mayL_append a b, Bool.and_assoc]
theorem mayL_all : ∀ l, mayL l = l.all mayI
  | [] => rfl
  | x :: l => by rw [mayL, mayL_all l]; rfl
def gNum (x : Int) : Option Bool := some (num32 x)
def gBare : Ins → Option Bool
  | .mk op a b v t l body els has => some (bareB a b v t l body els has)
theorem num_S (n : Nat) (x : Int) : S30 n x = some (num32 x) := by
  unfold S30 num32
  by_cases h : 0 ≤ x <;> simp [h]
theorem bare_S (n : Nat) : ∀ x, S33 n x = gBare x
  | .mk op a b v t l body els has => by
    unfold S33 gBare bareB
    by_cases h1 : a = 0 <;> by_cases h2 : b = 0 <;> by_cases h3 : v = 0 <;> by_cases h4 : t = 0 <;> by_cases h5 : l.length = 0 <;> by_cases h6 : body.length = 0 <;> by_cases h7 : els.length = 0 <;> simp [h1, h2, h3, h4, h5, h6, h7]
theorem block_may {n : Nat} (gM : List Ins → Option Bool) (op a b v t : Int) (l : List Int) (body els : List Ins) (has : Bool) (h1 : gM body = some (mayL body)) (h2 : gM els = some (mayL els)) :
    S29 gM gBare n (.mk op a b v t l body els has) = some (decide (0 ≤ t) && decide (t ≤ 2) && mayL body && mayL els && !(!decide (op = 4) && has || !has && decide (0 < els.length)) && bareB a b v 0 l [] [] false) := by
  unfold S29
  simp only [h1, h2, Option.bind_some, gBare]
  by_cases t1 : t < 0
  · have : ¬ 0 ≤ t := by omega
    simp [t1, this]
  · have t1' : 0 ≤ t := by omega
    by_cases t2 : 2 < t
    · have : ¬ t ≤ 2 := by omega
      simp [t1, t1', t2, this]
    · have t2' : t ≤ 2 := by omega
      cases hb : mayL body
      · simp [t1, t2]
      · cases he : mayL els
        · simp [t1, t2]
        · by_cases o4 : op = 4
          · cases has
            · by_cases hl : 0 < els.length <;> simp [t1, t2, t1', t2', o4, hl]
            · simp [t1, t2, t1', t2', o4]
          · cases has
            · by_cases hl : 0 < els.length <;> simp [t1, t2, t1', t2', o4, hl]
            · simp [t1, t2, t1', t2', o4]
theorem brt_name {nm : ByteArray} {op : Int} (h : ∀ p ∈ nameAt, (nm.toList == p.1.toList) = decide (op = (p.2 : Int))) : (nm.toList == (⟨#[98, 114, 95, 116, 97, 98, 108, 101]⟩ : ByteArray).toList) = decide (op = 14) ∧ (nm.toList == (⟨#[114, 101, 116, 117, 114, 110]⟩ : ByteArray).toList) = decide (op = 15) :=
  ⟨h (⟨#[98, 114, 95, 116, 97, 98, 108, 101]⟩, 14) (by simp [nameAt]), h (⟨#[114, 101, 116, 117, 114, 110]⟩, 15) (by simp [nameAt])⟩
theorem may_S {n : Nat} (gB : Ins → Option Bool) (gC : List Int → AV → Option Bool) (op a b v t : Int) (l : List Int) (body els : List Ins) (has : Bool)
    (hC : gC l (.clo 32 []) = some (l.any fun x => !num32 x))
    (hB : gB (.mk op a b v t l body els has) = some (decide (0 ≤ t) && decide (t ≤ 2) && mayL body && mayL els && !(!decide (op = 4) && has || !has && decide (0 < els.length)) && bareB a b v 0 l [] [] false)) :
    S17 gLook gBare gB gNum gC n (.mk op a b v t l body els has) = some (mayI (.mk op a b v t l body els has)) := by
  rw [mayI]
  unfold S17
  simp only [gLook, Option.bind_some, gBare, gNum, hB, hC]
  cases ho : opAt op with
  | none => rw [look_none ho]; simp
  | some r =>
    obtain ⟨kd, tk, gv, bys, sg⟩ := r
    obtain ⟨nm, hl, hnm⟩ := look_at ho
    obtain ⟨n14, n15⟩ := brt_name hnm
    rw [hl]
    simp only [Option.bind_some, Bool.false_eq_true, if_false, n14, n15]
    by_cases k2 : kd = 2
    · simp [k2]
    · by_cases k10 : kd = 10
      · by_cases hg : gv = 1
        · by_cases hv : 4294967295 < v <;> simp [k10, hg, hv]
        · simp [k10, hg]
      · by_cases k7 : kd = 7
        · cases ha : num32 a <;> cases hb : num32 b <;> simp [k7, ha, hb]
        · by_cases k8 : kd = 8
          · cases ha : num32 a <;> cases hb : num32 b <;> simp [k8, ha, hb]
          · by_cases o14 : op = 14
            · by_cases hl0 : l.length = 0
              · simp [k2, k10, k7, k8, o14, hl0]
              · have hall : (l.any fun x => !num32 x) = !l.all num32 := by simp [List.not_all_eq_any_not]
                rw [hall]
                cases hx : l.all num32 <;> simp [k2, k10, k7, k8, o14, hl0, hx]
            · by_cases k4 : kd = 4
              · cases ha : num32 a <;> simp [k4, o14, ha]
              · by_cases k6 : kd = 6
                · cases ha : num32 a <;> simp [k6, o14, ha]
                · by_cases k3 : kd = 3
                  · by_cases o15 : op = 15
                    · simp [k3, o14, o15]
                    · cases ha : num32 a <;> simp [k3, o14, o15, ha]
                  · simp [k2, k10, k7, k8, o14, k4, k6, k3]

/-! Is there one in a row -/
theorem idxI_loop {n : Nat} {f1 : FuncId} {c1 : List AV} (p1 : Ins → Option Bool) (pb : Ins → Bool) (l : List Ins) (hl : l.length < 2 ^ 60) (h : ∀ x ∈ l, p1 x = some (pb x)) : ∀ (d i k : Nat), i + d = l.length → d < k →
    (∃ j : Int, 0 ≤ j ∧ L28_0 f1 c1 p1 n k l (l.length : Int) (i : Int) = some (.ret j) ∧ (l.drop i).any pb = true) ∨ (L28_0 f1 c1 p1 n k l (l.length : Int) (i : Int) = some (.out ()) ∧ (l.drop i).any pb = false)
  | 0, i, k, hi, hk => by
    obtain ⟨k, rfl⟩ : ∃ j, k = j + 1 := ⟨k - 1, by omega⟩
    have hd : decide ((i : Int) < (l.length : Int)) = false := by simp; omega
    right
    rw [L28_0, hd, List.drop_eq_nil_of_le (by omega)]
    simp
  | d + 1, i, k, hi, hk => by
    obtain ⟨k, rfl⟩ : ∃ j, k = j + 1 := ⟨k - 1, by omega⟩
    have hlt : i < l.length := by omega
    have hd : decide ((i : Int) < (l.length : Int)) = true := by simp; omega
    have hw : IntKind.i64.wrap ((i : Int) + 1) = ((i + 1 : Nat) : Int) := by rw [wrap64 (by omega) (by omega)]; rfl
    have hx := h l[i] (List.getElem_mem hlt)
    have ih := idxI_loop (n := n) (f1 := f1) (c1 := c1) p1 pb l hl h d (i + 1) k (by omega) (by omega)
    have e : L28_0 f1 c1 p1 n (k + 1) l (l.length : Int) (i : Int) = if pb l[i] = true then some (.ret (i : Int)) else L28_0 f1 c1 p1 n k l (l.length : Int) ((i + 1 : Nat) : Int) := by
      rw [L28_0, hd, if_pos rfl, if_pos (by omega), Int.toNat_natCast, List.getElem?_eq_getElem hlt, Option.bind_some]
      generalize l[i] = x at *
      obtain ⟨op, a, b, v, t, ls, body, els, has⟩ := x
      simp only
      rw [hx, Option.bind_some, hw]
    rw [e, drop_cons hlt, List.any_cons]
    cases hp : pb l[i] with
    | true => left; exact ⟨i, by omega, by simp, by simp⟩
    | false => simpa using ih
theorem idxI_S {n : Nat} {f1 : FuncId} {c1 : List AV} (p1 : Ins → Option Bool) (pb : Ins → Bool) (l : List Ins) (hl : l.length < 2 ^ 60) (hn : l.length < n) (h : ∀ x ∈ l, p1 x = some (pb x)) : ∃ r, S28 f1 c1 p1 n l = some r ∧ decide (0 ≤ r) = l.any pb := by
  unfold S28
  rw [show (0 : Int) = ((0 : Nat) : Int) from rfl]
  rcases idxI_loop (n := n) (f1 := f1) (c1 := c1) p1 pb l hl h l.length 0 n (by omega) hn with ⟨j, h0, h1, h2⟩ | ⟨h1, h2⟩
  · refine ⟨j, by rw [h1]; rfl, ?_⟩
    rw [List.drop_zero] at h2
    simp [h0, h2]
  · refine ⟨-1, by rw [h1]; rfl, ?_⟩
    rw [List.drop_zero] at h2
    simp [h2]
theorem idxN_loop {n : Nat} {f1 : FuncId} {c1 : List AV} (p1 : Int → Option Bool) (pb : Int → Bool) (l : List Int) (hl : l.length < 2 ^ 60) (h : ∀ x ∈ l, p1 x = some (pb x)) : ∀ (d i k : Nat), i + d = l.length → d < k →
    (∃ j : Int, 0 ≤ j ∧ L48_0 f1 c1 p1 n k l (l.length : Int) (i : Int) = some (.ret j) ∧ (l.drop i).any pb = true) ∨ (L48_0 f1 c1 p1 n k l (l.length : Int) (i : Int) = some (.out ()) ∧ (l.drop i).any pb = false)
  | 0, i, k, hi, hk => by
    obtain ⟨k, rfl⟩ : ∃ j, k = j + 1 := ⟨k - 1, by omega⟩
    have hd : decide ((i : Int) < (l.length : Int)) = false := by simp; omega
    right
    rw [L48_0, hd, List.drop_eq_nil_of_le (by omega)]
    simp
  | d + 1, i, k, hi, hk => by
    obtain ⟨k, rfl⟩ : ∃ j, k = j + 1 := ⟨k - 1, by omega⟩
    have hlt : i < l.length := by omega
    have hd : decide ((i : Int) < (l.length : Int)) = true := by simp; omega
    have hw : IntKind.i64.wrap ((i : Int) + 1) = ((i + 1 : Nat) : Int) := by rw [wrap64 (by omega) (by omega)]; rfl
    have hx := h l[i] (List.getElem_mem hlt)
    have ih := idxN_loop (n := n) (f1 := f1) (c1 := c1) p1 pb l hl h d (i + 1) k (by omega) (by omega)
    have e : L48_0 f1 c1 p1 n (k + 1) l (l.length : Int) (i : Int) = if pb l[i] = true then some (.ret (i : Int)) else L48_0 f1 c1 p1 n k l (l.length : Int) ((i + 1 : Nat) : Int) := by
      rw [L48_0, hd, if_pos rfl, if_pos (by omega), Int.toNat_natCast, List.getElem?_eq_getElem hlt, Option.bind_some, hx, Option.bind_some, hw]
    rw [e, drop_cons hlt, List.any_cons]
    cases hp : pb l[i] with
    | true => left; exact ⟨i, by omega, by simp, by simp⟩
    | false => simpa using ih
theorem idxN_S {n : Nat} {f1 : FuncId} {c1 : List AV} (p1 : Int → Option Bool) (pb : Int → Bool) (l : List Int) (hl : l.length < 2 ^ 60) (hn : l.length < n) (h : ∀ x ∈ l, p1 x = some (pb x)) : ∃ r, S48 f1 c1 p1 n l = some r ∧ decide (0 ≤ r) = l.any pb := by
  unfold S48
  rw [show (0 : Int) = ((0 : Nat) : Int) from rfl]
  rcases idxN_loop (n := n) (f1 := f1) (c1 := c1) p1 pb l hl h l.length 0 n (by omega) hn with ⟨j, h0, h1, h2⟩ | ⟨h1, h2⟩
  · refine ⟨j, by rw [h1]; rfl, ?_⟩
    rw [List.drop_zero] at h2
    simp [h0, h2]
  · refine ⟨-1, by rw [h1]; rfl, ?_⟩
    rw [List.drop_zero] at h2
    simp [h2]
/-- Over the evaluator: is there one of whole numbers. -/
theorem hasN_ev (m : Int) {n : Nat} {f1 : FuncId} (pb : Int → Bool) (l : List Int) (q : Prov) (H : Heap) (hl : l.length < 2 ^ 60) (hn : l.length + 2 < n) (h : ∀ x ∈ l, ∀ H, evF P (T m) (n - 2) f1 [.s (.int .i64 x)] H = some (.s (.bool (pb x)), H)) :
    evF P (T m) n 31 [.sl (l.map intAV) q, .clo f1 []] H = some (.s (.bool (l.any pb)), H) := by
  obtain ⟨k, rfl⟩ : ∃ k, n = k + 2 := ⟨n - 2, by omega⟩
  classical
  let p1 : Int → Option Bool := fun x => if x ∈ l then some (pb x) else none
  have hp1 : ∀ (a : Int) (r : Bool) (H : Heap), p1 a = some r → evF P (T m) k f1 ([.s (.int .i64 a)] ++ []) H = some (.s (.bool r), H) := by
    intro a r H hr
    simp only [p1] at hr
    split at hr
    · rename_i hm
      injection hr with hr; subst hr
      exact h a hm H
    · cases hr
  obtain ⟨r, h1, h2⟩ := idxN_S (n := k) (f1 := f1) (c1 := []) p1 pb l hl (by omega) (fun x hx => if_pos hx)
  let g : List Int → AV → Option Int := fun l' a => if l' = l ∧ a = .clo f1 [] then some r else none
  refine S31_ok g (fun l' a q' r' H' ha hg => ?_) f1 [] rfl (fun _ => none) (fun _ _ _ h => by cases h) l q (l.any pb) H ?_
  · simp only [g] at hg
    split at hg
    · rename_i hc
      obtain ⟨rfl, rfl⟩ := hc
      injection hg with hg; subst hg
      exact S48_ok f1 [] rfl p1 hp1 l' q' r H' h1
    · cases hg
  · unfold S31
    rw [show g l (.clo f1 []) = some r from if_pos ⟨rfl, rfl⟩, Option.bind_some, h2]
theorem hasI_ev (m : Int) {n : Nat} {f1 : FuncId} (pb : Ins → Bool) (l : List Ins) (q : Prov) (H : Heap) (hl : l.length < 2 ^ 60) (hn : l.length + 2 < n) (h : ∀ x ∈ l, ∀ H, evF P (T m) (n - 2) f1 [x.av] H = some (.s (.bool (pb x)), H)) :
    evF P (T m) n 15 [.sl (insAVs l) q, .clo f1 []] H = some (.s (.bool (l.any pb)), H) := by
  obtain ⟨k, rfl⟩ : ∃ k, n = k + 2 := ⟨n - 2, by omega⟩
  classical
  let p1 : Ins → Option Bool := fun x => if x ∈ l then some (pb x) else none
  have hp1 : ∀ (a : Ins) (r : Bool) (H : Heap), p1 a = some r → evF P (T m) k f1 ([a.av] ++ []) H = some (.s (.bool r), H) := by
    intro a r H hr
    simp only [p1] at hr
    split at hr
    · rename_i hm
      injection hr with hr; subst hr
      exact h a hm H
    · cases hr
  obtain ⟨r, h1, h2⟩ := idxI_S (n := k) (f1 := f1) (c1 := []) p1 pb l hl (by omega) (fun x hx => if_pos hx)
  let g : List Ins → AV → Option Int := fun l' a => if l' = l ∧ a = .clo f1 [] then some r else none
  refine S15_ok g (fun l' a q' r' H' ha hg => ?_) f1 [] rfl (fun _ => none) (fun _ _ _ h => by cases h) l q (l.any pb) H ?_
  · simp only [g] at hg
    split at hg
    · rename_i hc
      obtain ⟨rfl, rfl⟩ := hc
      injection hg with hg; subst hg
      exact S28_ok f1 [] rfl p1 hp1 l' q' r H' h1
    · cases hg
  · unfold S15
    rw [show g l (.clo f1 []) = some r from if_pos ⟨rfl, rfl⟩, Option.bind_some, h2]
theorem num_ev (m : Int) {n : Nat} (hn : 1 ≤ n) (x : Int) (H : Heap) : evF P (T m) n 30 [.s (.int .i64 x)] H = some (.s (.bool (num32 x)), H) := by
  obtain ⟨k, rfl⟩ : ∃ k, n = k + 1 := ⟨n - 1, by omega⟩
  exact S30_ok x _ H (num_S k x)
theorem nnum_ev (m : Int) {n : Nat} (hn : 2 ≤ n) (x : Int) (H : Heap) : evF P (T m) n 32 [.s (.int .i64 x)] H = some (.s (.bool (!num32 x)), H) := by
  obtain ⟨k, rfl⟩ : ∃ k, n = k + 1 := ⟨n - 1, by omega⟩
  exact S32_ok gNum (fun a r H h => by injection h with h; subst h; exact num_ev m (by omega) a H) x _ H rfl
theorem bare_ev (m : Int) {n : Nat} (hn : 1 ≤ n) (x : Ins) (r : Bool) (H : Heap) (h : gBare x = some r) : evF P (T m) n 33 [x.av] H = some (.s (.bool r), H) := by
  obtain ⟨k, rfl⟩ : ∃ k, n = k + 1 := ⟨n - 1, by omega⟩
  exact S33_ok x _ H (by rw [bare_S]; exact h)
mutual
theorem mayI_ev (m : Int) : ∀ (x : Ins) (n : Nat) (H : Heap), 10 * x.sz + 93 ≤ n → x.sz < 2 ^ 40 → evF P (T m) n 17 [x.av] H = some (.s (.bool (mayI x)), H)
  | .mk op a b v t l body els has, n, H, hn, hs => by
    obtain ⟨k, rfl⟩ : ∃ k, n = k + 1 := ⟨n - 1, by omega⟩
    obtain ⟨j, rfl⟩ : ∃ j, k = j + 1 := ⟨k - 1, by omega⟩
    simp only [Ins.sz] at hn hs
    have hb := fun q H => mayL_ev m body j q H (by omega) (by omega)
    have he := fun q H => mayL_ev m els j q H (by omega) (by omega)
    classical
    let gM : List Ins → Option Bool := fun y => if y = body ∨ y = els then some (mayL y) else none
    let bv : Bool := decide (0 ≤ t) && decide (t ≤ 2) && mayL body && mayL els && !(!decide (op = 4) && has || !has && decide (0 < els.length)) && bareB a b v 0 l [] [] false
    have hblock : ∀ H, evF P (T m) (j + 1) 29 [(Ins.mk op a b v t l body els has).av] H = some (.s (.bool bv), H) := fun H =>
      S29_ok gM (fun y q r H h => by
        simp only [gM] at h
        split at h
        · rename_i hc
          injection h with h; subst h
          rcases hc with rfl | rfl
          · exact hb q H
          · exact he q H
        · cases h) gBare (fun x r H h => bare_ev m (by omega) x r H h) _ _ H (block_may gM op a b v t l body els has (if_pos (Or.inl rfl)) (if_pos (Or.inr rfl)))
    let gB : Ins → Option Bool := fun y => if y = .mk op a b v t l body els has then some bv else none
    let gC : List Int → AV → Option Bool := fun y c => if y = l ∧ c = .clo 32 [] then some (l.any fun x => !num32 x) else none
    refine S17_ok gLook (fun a r H h => by injection h with h; subst h; exact look_any m (by omega) a H) gBare (fun x r H h => bare_ev m (by omega) x r H h) gB (fun y r H h => ?_) gNum (fun a r H h => by injection h with h; subst h; exact num_ev m (by omega) a H) gC (fun y c q r H _ h => ?_) _ _ H (may_S gB gC op a b v t l body els has (if_pos ⟨rfl, rfl⟩) (if_pos rfl))
    · simp only [gB] at h
      split at h
      · rename_i hc; subst hc
        injection h with h; subst h
        exact hblock H
      · cases h
    · simp only [gC] at h
      split at h
      · rename_i hc
        obtain ⟨rfl, rfl⟩ := hc
        injection h with h; subst h
        exact hasN_ev m (fun x => !num32 x) y q H (by omega) (by omega) (fun x _ H => nnum_ev m (by omega) x H)
      · cases h
theorem mayL_ev (m : Int) : ∀ (l : List Ins) (n : Nat) (q : Prov) (H : Heap), 10 * szL l + 100 ≤ n → szL l < 2 ^ 40 → evF P (T m) n 9 [.sl (insAVs l) q] H = some (.s (.bool (mayL l)), H)
  | l, n, q, H, hn, hs => by
    have hall := mayA_ev m l (n - 4) (by omega) hs
    have hlen := length_le_szL l
    obtain ⟨k, rfl⟩ : ∃ k, n = k + 1 := ⟨n - 1, by omega⟩
    have hc : ∀ q H, evF P (T m) k 15 [.sl (insAVs l) q, .clo 16 []] H = some (.s (.bool (l.any fun x => !mayI x)), H) := fun q H =>
      hasI_ev m (fun x => !mayI x) l q H (by omega) (by omega) (fun x hx H => by
        obtain ⟨j, hj⟩ : ∃ j, k - 2 = j + 1 := ⟨k - 3, by omega⟩
        rw [hj]
        classical
        let g : Ins → Option Bool := fun y => if y = x then some (mayI x) else none
        refine S16_ok g (fun y r H h => ?_) x _ H ?_
        · simp only [g] at h
          split at h
          · rename_i hy; subst hy
            injection h with h; subst h
            have := hall y hx H
            rw [show k + 1 - 4 = j by omega] at this
            exact this
          · cases h
        · obtain ⟨op, a, b, v, t, ls, body, els, has⟩ := x
          unfold S16
          show (g (Ins.mk op a b v t ls body els has)).bind (fun r3 => some (!r3)) = _
          rw [show g (Ins.mk op a b v t ls body els has) = some (mayI (Ins.mk op a b v t ls body els has)) from if_pos rfl]
          rfl)
    classical
    let g : List Ins → AV → Option Bool := fun y c => if y = l ∧ c = .clo 16 [] then some (l.any fun x => !mayI x) else none
    refine S9_ok g (fun y c q r H _ h => ?_) l q _ H ?_
    · simp only [g] at h
      split at h
      · rename_i hy
        obtain ⟨rfl, rfl⟩ := hy
        injection h with h; subst h
        exact hc q H
      · cases h
    · unfold S9
      rw [show g l (.clo 16 []) = some (l.any fun x => !mayI x) from if_pos ⟨rfl, rfl⟩, Option.bind_some, mayL_all, List.all_eq_not_any_not]
theorem mayA_ev (m : Int) : ∀ (l : List Ins) (n : Nat), 10 * szL l + 93 ≤ n → szL l < 2 ^ 40 → ∀ x ∈ l, ∀ H, evF P (T m) n 17 [x.av] H = some (.s (.bool (mayI x)), H)
  | [], n, hn, hs, x, hx => by cases hx
  | y :: l, n, hn, hs, x, hx => by
    simp only [szL] at hn hs
    rcases List.mem_cons.1 hx with e | hx
    · intro H
      rw [e]
      exact mayI_ev m y n H (by omega) (by omega)
    · exact mayA_ev m l n (by omega) (by omega) x hx
end
/-- What expr.Put answers. -/
def putR (l : List Ins) : List Int × Err := if mayL l = true then (listB l ++ [11], .nil) else ([], .code 1)
theorem Put_ev (m : Int) (l : List Ins) (n : Nat) (q : Prov) (H : Heap) (hn : 10 * szL l + 110 ≤ n) (hs : szL l < 2 ^ 36) : evF P (T m) n 6 [.sl (insAVs l) q] H = some (.tup [.sl (u8s (putR l).1) .ro, (putR l).2.av], H) := by
  obtain ⟨k, rfl⟩ : ∃ k, n = k + 1 := ⟨n - 1, by omega⟩
  have hlb := listB_len l
  classical
  let gM : List Ins → Option Bool := fun y => if y = l then some (mayL l) else none
  let gL : List Int → List Ins → Option (List Int) := fun a y => if a = [] ∧ y = l then some (listB l) else none
  refine S6_ok gL (fun a y q0 q1 r H ok cl h => ?_) gM (fun y q r H h => ?_) l q _ H ?_
  · simp only [gL] at h
    split at h
    · rename_i hc
      obtain ⟨rfl, rfl⟩ := hc
      injection h with h; subst h
      have := list_ev m y k [] q0 q1 H (by omega) (by simp; omega) ok cl
      simpa using this
    · cases h
  · simp only [gM] at h
    split at h
    · rename_i hc; subst hc
      injection h with h; subst h
      exact mayL_ev m y k q H (by omega) (by omega)
    · cases h
  · unfold S6 putR
    rw [show gM l = some (mayL l) from if_pos rfl, Option.bind_some]
    cases hm : mayL l with
    | false => rfl
    | true =>
      simp only [Bool.not_true, Bool.false_eq_true, if_false, if_true]
      rw [show gL [] l = some (listB l) from if_pos ⟨rfl, rfl⟩, Option.bind_some, if_pos (room1 (by omega))]
end Go.Proofs.YtggoggdcnahkaaaDoor
