/- Instructions' bytes, as they are written. -/
import Derived.Test.YtggoggdcnahkaaaDoorNice1
set_option linter.unusedVariables false
set_option linter.unusedSimpArgs false
set_option maxRecDepth 100000
namespace Go.Proofs.YtggoggdcnahkaaaDoor
open Go Go.RowKit Go.Proofs
def gBlock (t : Int) : Option Int := some (blockB t)
def gPut (n : Nat) (acc l : List Int) : Option (List Int) := if l.length + 12 < n ∧ acc.length + 10 * l.length ≤ 2 ^ 45 then some (acc ++ putsI l) else none
def gPutS (v : Int) : Option (List Int) := if -(2 ^ 63) ≤ v ∧ v < 2 ^ 63 then some (putSI 9 v) else none
theorem gPut_some {n : Nat} {acc l : List Int} (h1 : l.length + 12 < n) (h2 : acc.length + 10 * l.length ≤ 2 ^ 45) : gPut n acc l = some (acc ++ putsI l) := by
  unfold gPut; rw [if_pos ⟨h1, h2⟩]
theorem gPutS_some (x : Int) : gPutS (IntKind.i64.wrap x) = some (putSI 9 (IntKind.i64.wrap x)) := by
  unfold gPutS; rw [if_pos (wrapS_range x)]
theorem mergeB {α : Type} {c : Bool} {a b : α} {x : Option α} (h : x = if c = true then some a else some b) : x = some (if c = true then a else b) := by
  rw [h]; cases c <;> rfl

theorem one_S {n : Nat} (gl : List Int → List Ins → Option (List Int)) (op a b v t : Int) (l : List Int) (body els : List Ins) (has : Bool) (acc : List Int) (hn : l.length + 20 < n) (ha : acc.length + 30 * (Ins.mk op a b v t l body els has).sz ≤ 2 ^ 44)
    (h1 : ∀ q : List Int, q.length ≤ acc.length + 2 → gl q body = some (q ++ listB body)) (h2 : ∀ q : List Int, q.length ≤ acc.length + 3 + 30 * szL body → gl q els = some (q ++ listB els)) :
    S18 gBlock gl (gPut n) gPutS gLook n acc (.mk op a b v t l body els has) = some (acc ++ oneB (.mk op a b v t l body els has)) := by
  have hlb := listB_len body
  have hle := listB_len els
  simp only [Ins.sz] at ha
  rw [oneB]
  unfold S18
  simp only [gLook, Option.bind_some]
  cases ho : opAt op with
  | none => rw [look_none ho]; simp
  | some r =>
    obtain ⟨kd, tk, gv, bys, sg⟩ := r
    obtain ⟨nm, hl, _⟩ := look_at ho
    rw [hl]
    simp only [Option.bind_some, Bool.false_eq_true, if_false]
    rw [if_pos (room1 (by omega)), wrap8]
    by_cases k2 : kd = 2
    · subst k2
      simp only [decide_true, if_true]
      rw [gBlock, Option.bind_some, if_pos (room1 (by simp; omega)), h1 _ (by simp), Option.bind_some]
      cases has with
      | true =>
        rw [if_pos rfl, if_pos (room1 (by simp; omega)), h2 _ (by simp; omega), Option.bind_some, if_pos (room1 (by simp; omega))]
        simp
      | false =>
        rw [if_neg (by decide), if_pos (room1 (by simp; omega))]
        simp
    · have e2 : decide (kd = 2) = false := by simpa using k2
      rw [e2]
      simp only [Bool.false_eq_true, if_false, k2]
      by_cases k78 : kd = 7 ∨ kd = 8
      · have hv : ((if decide (kd = 7) = true then some true else some (decide (kd = 8))) : Option Bool) = some true := by
          rcases k78 with h | h <;> simp [h]
        rw [hv, Option.bind_some, if_pos rfl, gPut_some (by simp; omega) (by simp; omega), if_pos k78]
        simp
      · have hv : ((if decide (kd = 7) = true then some true else some (decide (kd = 8))) : Option Bool) = some false := by
          have h7 : kd ≠ 7 := fun h => k78 (.inl h)
          have h8 : kd ≠ 8 := fun h => k78 (.inr h)
          simp [h7, h8]
        rw [hv, Option.bind_some, if_neg (by decide), if_neg k78]
        by_cases k9 : kd = 9
        · subst k9
          simp only [decide_true, if_true]
          rw [if_pos (room1 (by simp; omega))]
          simp
        · have e9 : decide (kd = 9) = false := by simpa using k9
          rw [e9, if_neg (by decide), if_neg k9]
          by_cases k10 : kd = 10
          · subst k10
            simp only [decide_true, if_true]
            by_cases hg : gv = 1
            · subst hg
              simp only [decide_true, Option.bind_some, if_true, and_self]
              have hpl := putSI_len 9 (IntKind.i64.wrap (IntKind.i32.wrap (IntKind.u32.wrap v)))
              rw [gPutS_some, Option.bind_some, if_pos (room1 (by simp; omega))]
              simp
            · have eg : decide (gv = 1) = false := by simpa using hg
              have hpl := putSI_len 9 (IntKind.i64.wrap v)
              rw [eg]
              simp only [Option.bind_some, Bool.false_eq_true, if_false, hg, and_false]
              rw [gPutS_some, Option.bind_some, if_pos (room1 (by simp; omega))]
              simp
          · have e10 : decide (kd = 10) = false := by simpa using k10
            rw [e10]
            simp only [Bool.false_eq_true, if_false, Option.bind_some, k10, false_and]
            by_cases o14 : op = 14
            · subst o14
              have p4 := putsI_len [IntKind.i64.wrap ((l.length : Int) - 1)]
              simp only [List.length_cons, List.length_nil] at p4
              simp only [decide_true, if_true]
              rw [gPut_some (by simp; omega) (by simp; omega), Option.bind_some, gPut_some (by omega) (by simp; omega)]
              simp
            · have e14 : decide (op = 14) = false := by simpa using o14
              rw [e14, if_neg (by decide), if_neg o14]
              have p2 := putsI_len [a]
              simp only [List.length_cons, List.length_nil] at p2
              by_cases o17 : op = 17
              · subst o17
                simp only [decide_true, if_true]
                rw [gPut_some (by simp; omega) (by simp; omega), Option.bind_some, if_pos (room1 (by simp; omega))]
                simp
              · have e17 : decide (op = 17) = false := by simpa using o17
                rw [e17, if_neg (by decide), if_neg o17]
                have hv : ((if decide (kd = 4) = true then some true else if decide (kd = 6) = true then some true else if decide (op = 12) = true then some true else some (decide (op = 13))) : Option Bool) = some (decide (kd = 4 ∨ kd = 6 ∨ op = 12 ∨ op = 13)) := by
                  by_cases a1 : kd = 4
                  · simp [a1]
                  · by_cases a2 : kd = 6
                    · simp [a2]
                    · by_cases a3 : op = 12
                      · simp [a3]
                      · simp [a1, a2, a3]
                rw [hv, Option.bind_some]
                by_cases hk : kd = 4 ∨ kd = 6 ∨ op = 12 ∨ op = 13
                · rw [if_pos (by simpa using hk), if_pos hk, gPut_some (by simp; omega) (by simp; omega)]
                  simp
                · rw [if_neg (by simpa using hk), if_neg hk]

/-- Rows of instructions: from a place on. -/
theorem list_loop {n : Nat} (go : List Int → Ins → Option (List Int)) (l : List Ins) (hl : l.length < 2 ^ 60) (B : Nat) (h : ∀ x ∈ l, ∀ q : List Int, q.length + 30 * x.sz ≤ B → go q x = some (q ++ oneB x)) :
    ∀ (d i k : Nat) (acc : List Int), i + d = l.length → d < k → acc.length + 30 * szL (l.drop i) ≤ B → L10_0 go n k acc l (l.length : Int) (i : Int) = some (.out (acc ++ listB (l.drop i)))
  | 0, i, k, acc, hi, hk, ha => by
    obtain ⟨k, rfl⟩ : ∃ j, k = j + 1 := ⟨k - 1, by omega⟩
    have hd : decide ((i : Int) < (l.length : Int)) = false := by simp; omega
    rw [L10_0, hd, List.drop_eq_nil_of_le (by omega)]
    simp [listB]
  | d + 1, i, k, acc, hi, hk, ha => by
    obtain ⟨k, rfl⟩ : ∃ j, k = j + 1 := ⟨k - 1, by omega⟩
    have hlt : i < l.length := by omega
    have hd : decide ((i : Int) < (l.length : Int)) = true := by simp; omega
    have hw : IntKind.i64.wrap ((i : Int) + 1) = ((i + 1 : Nat) : Int) := by rw [wrap64 (by omega) (by omega)]; rfl
    rw [drop_cons hlt] at ha ⊢
    simp only [szL, listB] at ha ⊢
    have hx := h l[i] (List.getElem_mem hlt) acc (by omega)
    have hlen := oneB_len l[i]
    have ih := list_loop (n := n) go l hl B h d (i + 1) k (acc ++ oneB l[i]) (by omega) (by omega) (by simp; omega)
    rw [L10_0, hd, if_pos rfl, if_pos (by omega), Int.toNat_natCast, List.getElem?_eq_getElem hlt, Option.bind_some]
    generalize l[i] = x at *
    obtain ⟨op, a, b, v, t, ls, body, els, has⟩ := x
    simp only
    rw [hx, Option.bind_some, hw, ih, List.append_assoc]
theorem list_S {n : Nat} (go : List Int → Ins → Option (List Int)) (l : List Ins) (acc : List Int) (B : Nat) (h : ∀ x ∈ l, ∀ q : List Int, q.length + 30 * x.sz ≤ B → go q x = some (q ++ oneB x)) (hl : l.length < n) (hl2 : l.length < 2 ^ 60) (ha : acc.length + 30 * szL l ≤ B) :
    S10 go n acc l = some (acc ++ listB l) := by
  unfold S10
  rw [show (0 : Int) = ((0 : Nat) : Int) from rfl, list_loop go l hl2 B h l.length 0 n acc (by omega) hl (by simpa using ha)]
  simp

/-! Over the evaluator -/
abbrev u8s (l : List Int) : List AV := l.map (kAV .u8)
theorem look_any (m : Int) {n : Nat} (hn : 61 ≤ n) (op : Int) (H : Heap) : evF P (T m) n 20 [.s (.int .i64 op)] H = some (.tup [(lookR op).1.av, (lookR op).2.av], H) :=
  evF_mono (P := P) (T := T m) hn _ _ _ _ (look_ok m op H)
theorem put_ev (m : Int) {n : Nat} (hn : 12 ≤ n) (acc l : List Int) (q0 q1 : Prov) (r : List Int) (H : Heap) (hok : AppOK 1 H (u8s acc) q0) (hcl : Closed H) (h : gPut n acc l = some r) :
    ∃ p' H', evF P (T m) n 35 [.sl (u8s acc) q0, .sl (l.map intAV) q1] H = some (.sl (u8s r) p', H') ∧ App 1 q0 H (u8s r) p' H' ∧ Closed H' := by
  unfold gPut at h
  split at h
  · rename_i hc
    injection h with h; subst h
    obtain ⟨k, rfl⟩ : ∃ k, n = k + 1 := ⟨n - 1, by omega⟩
    obtain ⟨k, rfl⟩ : ∃ j, k = j + 1 := ⟨k - 1, by omega⟩
    have hg : ∀ (a r : List Int) , True := fun _ _ => trivial
    exact S35_ok gPutU (fun a r H h => by
      unfold gPutU at h
      split at h
      · rename_i hc2
        injection h with h; subst h
        exact S49_ok a _ H (putU_S (n := k) (by omega) hc2.1 hc2.2)
      · cases h) acc l q0 q1 _ H hok hcl (puts_S (by omega) hc.2)
  · cases h
mutual
theorem one_ev (m : Int) : ∀ (x : Ins) (n : Nat) (acc : List Int) (p : Prov) (H : Heap), 3 * x.sz + 98 ≤ n → acc.length + 30 * x.sz ≤ 2 ^ 44 → AppOK 1 H (u8s acc) p → Closed H →
    ∃ p' H', evF P (T m) n 18 [.sl (u8s acc) p, x.av] H = some (.sl (u8s (acc ++ oneB x)) p', H') ∧ App 1 p H (u8s (acc ++ oneB x)) p' H' ∧ Closed H'
  | .mk op a b v t l body els has, n, acc, p, H, hn, ha, hok, hcl => by
    obtain ⟨k, rfl⟩ : ∃ k, n = k + 1 := ⟨n - 1, by omega⟩
    simp only [Ins.sz] at hn ha
    have hb := list_ev m body
    have he := list_ev m els
    classical
    let gl : List Int → List Ins → Option (List Int) := fun q y => if y = body ∧ q.length ≤ acc.length + 2 ∨ y = els ∧ q.length ≤ acc.length + 3 + 30 * szL body then some (q ++ listB y) else none
    refine S18_ok gBlock (fun a r H h => ?_) gl (fun q y q0 q1 r H ok cl h => ?_) (gPut k) (fun q y q0 q1 r H ok cl h => put_ev m (by omega) q y q0 q1 r H ok cl h) gPutS (fun a r H h => ?_) gLook (fun a r H h => ?_) acc _ p _ H hok hcl (one_S gl op a b v t l body els has acc (by omega) (by simp only [Ins.sz]; omega) (fun q hq => ?_) (fun q hq => ?_))
    · injection h with h; subst h
      obtain ⟨j, rfl⟩ : ∃ j, k = j + 1 := ⟨k - 1, by omega⟩
      exact S34_ok a _ H (block_S j a)
    · simp only [gl] at h
      split at h
      · rename_i hc
        injection h with h; subst h
        rcases hc with ⟨rfl, hq⟩ | ⟨rfl, hq⟩
        · exact hb k q q0 q1 H (by omega) (by omega) ok cl
        · exact he k q q0 q1 H (by omega) (by omega) ok cl
      · cases h
    · unfold gPutS at h
      split at h
      · rename_i hc
        injection h with h; subst h
        obtain ⟨j, rfl⟩ : ∃ j, k = j + 1 := ⟨k - 1, by omega⟩
        exact S36_ok a _ H (putS_S (n := j) (by omega) hc.1 hc.2)
      · cases h
    · injection h with h; subst h
      exact look_any m (by omega) a H
    · exact if_pos (Or.inl ⟨rfl, hq⟩)
    · exact if_pos (Or.inr ⟨rfl, hq⟩)
theorem list_ev (m : Int) : ∀ (l : List Ins) (n : Nat) (acc : List Int) (p q : Prov) (H : Heap), 3 * szL l + 100 ≤ n → acc.length + 30 * szL l ≤ 2 ^ 44 → AppOK 1 H (u8s acc) p → Closed H →
    ∃ p' H', evF P (T m) n 10 [.sl (u8s acc) p, .sl (insAVs l) q] H = some (.sl (u8s (acc ++ listB l)) p', H') ∧ App 1 p H (u8s (acc ++ listB l)) p' H' ∧ Closed H'
  | l, n, acc, p, q, H, hn, ha, hok, hcl => by
    obtain ⟨k, rfl⟩ : ∃ k, n = k + 1 := ⟨n - 1, by omega⟩
    have hlen := length_le_szL l
    have hall := all_ev m l k (by omega)
    classical
    let go : List Int → Ins → Option (List Int) := fun r x => if x ∈ l ∧ r.length + 30 * x.sz ≤ 2 ^ 44 then some (r ++ oneB x) else none
    refine S10_ok go (fun r x q0 s H ok cl h => ?_) acc l p q _ H hok hcl (list_S go l acc (2 ^ 44) (fun x hx r hr => ?_) (by omega) (by omega) ha)
    · simp only [go] at h
      split at h
      · rename_i hc
        injection h with h; subst h
        exact hall x hc.1 r q0 H hc.2 ok cl
      · cases h
    · simp only [go]
      rw [if_pos ⟨hx, hr⟩]
theorem all_ev (m : Int) : ∀ (l : List Ins) (n : Nat), 3 * szL l + 98 ≤ n → ∀ x ∈ l, ∀ (acc : List Int) (p : Prov) (H : Heap), acc.length + 30 * x.sz ≤ 2 ^ 44 → AppOK 1 H (u8s acc) p → Closed H →
    ∃ p' H', evF P (T m) n 18 [.sl (u8s acc) p, x.av] H = some (.sl (u8s (acc ++ oneB x)) p', H') ∧ App 1 p H (u8s (acc ++ oneB x)) p' H' ∧ Closed H'
  | [], n, hn, x, hx => by cases hx
  | y :: l, n, hn, x, hx => by
    simp only [szL] at hn
    rcases List.mem_cons.1 hx with e | hx
    · intro acc p H h1 h2 h3
      rw [e] at h1 ⊢
      exact one_ev m y n acc p H (by omega) h1 h2 h3
    · exact all_ev m l n (by omega) x hx
end
end Go.Proofs.YtggoggdcnahkaaaDoor
