/- How many instructions count, and how deep they are. -/
import Derived.Test.YtggoggdcnahkaaaDoorNice3
set_option linter.unusedVariables false
set_option linter.unusedSimpArgs false
set_option maxRecDepth 100000
namespace Go.Proofs.YtggoggdcnahkaaaDoor
open Go Go.RowKit Go.Proofs
def cntStep (op : Int) (p q s : Int × Int) : Int × Int :=
  (IntKind.i64.wrap (IntKind.i64.wrap (IntKind.i64.wrap (s.1 + 1) + p.1) + q.1),
    if 2 ≤ op ∧ op ≤ 4 then
      (if (if s.2 < IntKind.i64.wrap (p.2 + 1) then IntKind.i64.wrap (p.2 + 1) else s.2) < IntKind.i64.wrap (q.2 + 1) then IntKind.i64.wrap (q.2 + 1)
       else if s.2 < IntKind.i64.wrap (p.2 + 1) then IntKind.i64.wrap (p.2 + 1) else s.2)
    else s.2)
mutual
def cntI : Ins → Int × Int → Int × Int
  | .mk op a b v t l body els has, s => cntStep op (cntL body (0, 0)) (cntL els (0, 0)) s
def cntL : List Ins → Int × Int → Int × Int
  | [], s => s
  | x :: xs, s => cntL xs (cntI x s)
end
def Ins.bodies : Ins → List Ins × List Ins
  | .mk op a b v t l body els has => (body, els)
theorem count_loop {n : Nat} (g : List Ins → Option (Int × Int)) (l : List Ins) (hl : l.length < 2 ^ 60) (h : ∀ x ∈ l, g x.bodies.1 = some (cntL x.bodies.1 (0, 0)) ∧ g x.bodies.2 = some (cntL x.bodies.2 (0, 0))) :
    ∀ (d i k : Nat) (s : Int × Int), i + d = l.length → d < k → L5_0 g n k l s.1 s.2 (i : Int) = some (.out (cntL (l.drop i) s))
  | 0, i, k, s, hi, hk => by
    obtain ⟨k, rfl⟩ : ∃ j, k = j + 1 := ⟨k - 1, by omega⟩
    have hd : decide ((i : Int) < (l.length : Int)) = false := by simp; omega
    rw [L5_0, hd, List.drop_eq_nil_of_le (by omega)]
    simp [cntL]
  | d + 1, i, k, s, hi, hk => by
    obtain ⟨k, rfl⟩ : ∃ j, k = j + 1 := ⟨k - 1, by omega⟩
    have hlt : i < l.length := by omega
    have hd : decide ((i : Int) < (l.length : Int)) = true := by simp; omega
    have hw : IntKind.i64.wrap ((i : Int) + 1) = ((i + 1 : Nat) : Int) := by rw [wrap64 (by omega) (by omega)]; rfl
    rw [drop_cons hlt]
    have hx := h l[i] (List.getElem_mem hlt)
    have ih := fun s => count_loop (n := n) g l hl h d (i + 1) k s (by omega) (by omega)
    rw [L5_0, hd, if_pos rfl, if_pos (by omega), Int.toNat_natCast, List.getElem?_eq_getElem hlt, Option.bind_some]
    generalize l[i] = x at *
    obtain ⟨op, a, b, v, t, ls, body, els, has⟩ := x
    simp only [Ins.bodies] at hx
    simp only [hx.1, hx.2, Option.bind_some, hw]
    rw [cntL, cntI]
    rcases hp : cntL body (0, 0) with ⟨p1, p2⟩
    rcases hq : cntL els (0, 0) with ⟨q1, q2⟩
    by_cases o1 : 2 ≤ op
    · by_cases o2 : op ≤ 4
      · by_cases c1 : s.2 < IntKind.i64.wrap (p2 + 1)
        · by_cases c2 : IntKind.i64.wrap (p2 + 1) < IntKind.i64.wrap (q2 + 1)
          · have := ih (cntStep op (p1, p2) (q1, q2) s)
            simp only [cntStep, o1, o2, c1, c2, and_self, if_true] at this ⊢
            simpa [o1, o2, c1, c2] using this
          · have := ih (cntStep op (p1, p2) (q1, q2) s)
            simp only [cntStep, o1, o2, c1, c2, and_self, if_true, if_false] at this ⊢
            simpa [o1, o2, c1, c2] using this
        · by_cases c2 : s.2 < IntKind.i64.wrap (q2 + 1)
          · have := ih (cntStep op (p1, p2) (q1, q2) s)
            simp only [cntStep, o1, o2, c1, c2, and_self, if_true, if_false] at this ⊢
            simpa [o1, o2, c1, c2] using this
          · have := ih (cntStep op (p1, p2) (q1, q2) s)
            simp only [cntStep, o1, o2, c1, c2, and_self, if_true, if_false] at this ⊢
            simpa [o1, o2, c1, c2] using this
      · have := ih (cntStep op (p1, p2) (q1, q2) s)
        simp only [cntStep, o1, o2, and_false, if_false] at this ⊢
        simpa [o1, o2] using this
    · have := ih (cntStep op (p1, p2) (q1, q2) s)
      simp only [cntStep, o1, false_and, if_false] at this ⊢
      simpa [o1] using this
theorem bodies_sz : ∀ {l : List Ins} {x : Ins}, x ∈ l → szL x.bodies.1 + 1 ≤ szL l ∧ szL x.bodies.2 + 1 ≤ szL l
  | y :: l, x, hx => by
    simp only [szL]
    rcases List.mem_cons.1 hx with e | hx
    · subst e
      obtain ⟨op, a, b, v, t, ls, body, els, has⟩ := x
      simp only [Ins.bodies, Ins.sz]
      omega
    · have := bodies_sz hx
      omega
theorem count_ev (m : Int) : ∀ (s : Nat) (l : List Ins) (n : Nat) (q : Prov) (H : Heap), szL l ≤ s → s + 2 ≤ n → s < 2 ^ 60 → evF P (T m) n 5 [.sl (insAVs l) q] H = some (.tup [.s (.int .i64 (cntL l (0, 0)).1), .s (.int .i64 (cntL l (0, 0)).2)], H)
  | s, l, n, q, H, hs, hn, hb => by
    have hlen := length_le_szL l
    obtain ⟨k, rfl⟩ : ∃ k, n = k + 1 := ⟨n - 1, by omega⟩
    classical
    let g : List Ins → Option (Int × Int) := fun y => if szL y + 1 ≤ s then some (cntL y (0, 0)) else none
    refine S5_ok g (fun y q r H h => ?_) l q _ H ?_
    · simp only [g] at h
      split at h
      · rename_i hy
        injection h with h; subst h
        obtain ⟨s', rfl⟩ : ∃ s', s = s' + 1 := ⟨s - 1, by omega⟩
        exact count_ev m s' y k q H (by omega) (by omega) (by omega)
      · cases h
    · unfold S5
      have := count_loop (n := k) g l (by omega) (fun x hx => by
        obtain ⟨h1, h2⟩ := bodies_sz hx
        exact ⟨if_pos (by omega), if_pos (by omega)⟩) l.length 0 k (0, 0) (by omega) (by omega)
      simp only [List.drop_zero] at this
      rw [show L5_0 g k k l 0 0 0 = _ from this]
      rfl
end Go.Proofs.YtggoggdcnahkaaaDoor
