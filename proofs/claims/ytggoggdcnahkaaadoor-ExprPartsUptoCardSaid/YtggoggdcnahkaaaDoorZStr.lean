/- Part of a proof over an evaluator of the loaded code: texts printed by a program of ours. -/
import Derived.Test.YtggoggdcnahkaaaDoorD2
set_option linter.unusedVariables false
set_option linter.unusedSimpArgs false
set_option maxRecDepth 100000
namespace Go.Proofs.YtggoggdcnahkaaaDoor
open Go Go.RowKit Go.Proofs
/-! internal/bytealg.hashStr[string] -/
def ZRetOK81 (r : Int × Int) (e : Env) (h : Heap) : Prop := ∃ vs, resA P e h [.tmp 2, .tmp 3] = some vs ∧ finA h (oneOf vs) = some (.tup [(.s (.int .u32 r.1)), (.s (.int .u32 r.2))])
theorem ZRetOK81.of {r : Int × Int} {e : Env} {h : Heap} {vs : List AV} (h1 : resA P e h [.tmp 2, .tmp 3] = some vs) (h2 : finA h (oneOf vs) = some (.tup [(.s (.int .u32 r.1)), (.s (.int .u32 r.2))])) : ZRetOK81 r e h := ⟨vs, h1, h2⟩
theorem ZRetOK81.endP {x : Ex} {r : Int × Int} {e : Env} {h : Heap} (hx : ∀ k, x ≠ .exit k) (hr : ZRetOK81 r e h) : EndP P F81 (.tup [(.s (.int .u32 r.1)), (.s (.int .u32 r.2))]) x e h := by
  obtain ⟨vs, h1, h2⟩ := hr
  exact endQ hx rfl h1 h2
def ZL81_0  (n : Nat) : Nat → ByteArray → Int → Int → Option (LO (Int × Int) (ByteArray × Int))
 | 0, _, _, _ => none
 | k + 1, s0, s4, s5 =>
  if (decide (s5 < (s0.size : Int))) then
   if (0 : Int) ≤ s5 then
    (s0.data.toList[s5.toNat]?).bind fun x12 =>
    ZL81_0  n k s0 (IntKind.u32.wrap ((IntKind.u32.wrap (s4 * 16777619)) + (IntKind.u32.wrap (x12.toNat : Int)))) (IntKind.i64.wrap (s5 + 1))
   else none
  else
   some (LO.out (s0, s4))
set_option maxHeartbeats 4000000 in
theorem ZL81_0_ok {m : Int} {n : Nat}  : ∀ (k : Nat) (s0 : ByteArray) (s4 : Int) (s5 : Int)  (e : Env) (he : Sat [(0, (.s (.string s0))), (4, (.s (.int .u32 s4))), (5, (.s (.int .i64 s5)))] e) (out : LO (Int × Int) (ByteArray × Int)) (h : ZL81_0  n k s0 s4 s5 = some out), ∃ x e' h', rdsOf P (T0 m) (evF P (T0 m) n) n 81 0 k e [] = some (x, e', h') ∧ LOQ out (fun r => (fun x e h => x = .ret ∧ ZRetOK81 r e h) x e' h') (fun o => (fun x e h => x = .exit 0 ∧ Sat [(0, (.s (.string o.1))), (4, (.s (.int .u32 o.2)))] e ∧ h = []) x e' h') := by
  intro k
  induction k with
  | zero => intro _ _ _ _ _ _ h; cases h
  | succ k ih =>
    intro s0 s4 s5  e he out h
    dsimp only [ZL81_0] at h
    refine rds_step (rd_of (fi := F81) (c81z m) rfl ?_)
    refine Runs.sq ?_
    refine Runs.sq ?_
    refine Runs.region he [] [(0, (.s (.string s0))), (4, (.s (.int .u32 s4))), (5, (.s (.int .i64 s5))), (12, (.s (.bool (decide (s5 < (s0.size : Int))))))] (h := []) (fun env => by kernel_rfl) trivial (fun e8 he7 => ?_)
    refine thenN ?_
    by_cases hb9 : (decide (s5 < (s0.size : Int))) = true
    · rw [if_pos hb9] at h
      refine Runs.cond (he7.get (t := 12) (v := (.s (.bool (decide (s5 < (s0.size : Int)))))) (by kernel_rfl)) (fun _ => ?_) (fun h0 => absurd (hb9.symm.trans h0) (by decide))
      refine Runs.skip ?_
      refine thenN ?_
      refine Runs.sq ?_
      refine Runs.block ?_
      by_cases hg10 : (0 : Int) ≤ s5
      rotate_left
      · rw [if_neg hg10] at h; cases h
      rw [if_pos hg10] at h
      obtain ⟨x12, hx11, h⟩ := Option.bind_eq_some_iff.1 h
      refine Runs.region he7 [(4, .ch s5.toNat x12)] [(0, (.s (.string s0))), (4, (.s (.int .u32 (IntKind.u32.wrap ((IntKind.u32.wrap (s4 * 16777619)) + (IntKind.u32.wrap (x12.toNat : Int))))))), (5, (.s (.int .i64 s5)))] (h := []) (fun env => by kernel_rfl) (And.intro (And.intro (at_nat hg10) hx11) trivial) (fun e14 he13 => ?_)
      refine blockN ?_
      refine thenN ?_
      refine Runs.region he13 [] [(0, (.s (.string s0))), (4, (.s (.int .u32 (IntKind.u32.wrap ((IntKind.u32.wrap (s4 * 16777619)) + (IntKind.u32.wrap (x12.toNat : Int))))))), (5, (.s (.int .i64 (IntKind.i64.wrap (s5 + 1)))))] (h := []) (fun env => by kernel_rfl) trivial (fun e16 he15 => ?_)
      refine thenN ?_
      exact ih s0 (IntKind.u32.wrap ((IntKind.u32.wrap (s4 * 16777619)) + (IntKind.u32.wrap (x12.toNat : Int)))) (IntKind.i64.wrap (s5 + 1))  _ (he15.sub (by kernel_rfl)) _ h
    · rw [if_neg hb9] at h
      refine Runs.cond (he7.get (t := 12) (v := (.s (.bool (decide (s5 < (s0.size : Int)))))) (by kernel_rfl)) (fun h0 => absurd h0 hb9) (fun _ => ?_)
      refine Runs.exit ?_
      refine thenX ?_
      refine thenX ?_
      obtain rfl := Option.some.inj h
      exact LOQ.o ⟨rfl, he7.sub (by kernel_rfl), rfl⟩
def ZL81_1  (n : Nat) : Nat → Int → Int → Int → Int → Option (LO (Int × Int) (Int × Int))
 | 0, _, _, _, _ => none
 | k + 1, s4, s6, s7, s8 =>
  if (decide (0 < s8)) then
   if (!decide ((andA .i64 s8 1) = 0)) then
    ZL81_1  n k s4 (IntKind.u32.wrap (s6 * s7)) (IntKind.u32.wrap (s7 * s7)) (shrA .i64 s8 1)
   else
    ZL81_1  n k s4 s6 (IntKind.u32.wrap (s7 * s7)) (shrA .i64 s8 1)
  else
   some (LO.out (s4, s6))
set_option maxHeartbeats 4000000 in
theorem ZL81_1_ok {m : Int} {n : Nat}  : ∀ (k : Nat) (s4 : Int) (s6 : Int) (s7 : Int) (s8 : Int)  (e : Env) (he : Sat [(4, (.s (.int .u32 s4))), (6, (.s (.int .u32 s6))), (7, (.s (.int .u32 s7))), (8, (.s (.int .i64 s8)))] e) (out : LO (Int × Int) (Int × Int)) (h : ZL81_1  n k s4 s6 s7 s8 = some out), ∃ x e' h', rdsOf P (T0 m) (evF P (T0 m) n) n 81 1 k e [] = some (x, e', h') ∧ LOQ out (fun r => (fun x e h => x = .ret ∧ ZRetOK81 r e h) x e' h') (fun o => (fun x e h => x = .exit 2 ∧ Sat [(4, (.s (.int .u32 o.1))), (6, (.s (.int .u32 o.2)))] e ∧ h = []) x e' h') := by
  intro k
  induction k with
  | zero => intro _ _ _ _ _ _ _ h; cases h
  | succ k ih =>
    intro s4 s6 s7 s8  e he out h
    dsimp only [ZL81_1] at h
    refine rds_step (rd_of (fi := F81) (c81z m) rfl ?_)
    refine Runs.sq ?_
    refine Runs.sq ?_
    refine Runs.region he [] [(4, (.s (.int .u32 s4))), (6, (.s (.int .u32 s6))), (7, (.s (.int .u32 s7))), (8, (.s (.int .i64 s8))), (25, (.s (.bool (decide (0 < s8)))))] (h := []) (fun env => by kernel_rfl) trivial (fun e34 he33 => ?_)
    refine thenN ?_
    by_cases hb35 : (decide (0 < s8)) = true
    · rw [if_pos hb35] at h
      refine Runs.cond (he33.get (t := 25) (v := (.s (.bool (decide (0 < s8))))) (by kernel_rfl)) (fun _ => ?_) (fun h0 => absurd (hb35.symm.trans h0) (by decide))
      refine Runs.skip ?_
      refine thenN ?_
      refine Runs.sq ?_
      refine Runs.block ?_
      refine Runs.sq ?_
      refine Runs.sq ?_
      refine Runs.region he33 [] [(4, (.s (.int .u32 s4))), (6, (.s (.int .u32 s6))), (7, (.s (.int .u32 s7))), (8, (.s (.int .i64 s8))), (30, (.s (.bool (!decide ((andA .i64 s8 1) = 0)))))] (h := []) (fun env => by kernel_rfl) trivial (fun e37 he36 => ?_)
      refine thenN ?_
      by_cases hb38 : (!decide ((andA .i64 s8 1) = 0)) = true
      · rw [if_pos hb38] at h
        refine Runs.cond (he36.get (t := 30) (v := (.s (.bool (!decide ((andA .i64 s8 1) = 0))))) (by kernel_rfl)) (fun _ => ?_) (fun h0 => absurd (hb38.symm.trans h0) (by decide))
        refine Runs.region he36 [] [(4, (.s (.int .u32 s4))), (6, (.s (.int .u32 (IntKind.u32.wrap (s6 * s7))))), (7, (.s (.int .u32 s7))), (8, (.s (.int .i64 s8)))] (h := []) (fun env => by kernel_rfl) trivial (fun e40 he39 => ?_)
        refine thenN ?_
        refine Runs.region he39 [] [(4, (.s (.int .u32 s4))), (6, (.s (.int .u32 (IntKind.u32.wrap (s6 * s7))))), (7, (.s (.int .u32 (IntKind.u32.wrap (s7 * s7))))), (8, (.s (.int .i64 s8)))] (h := []) (fun env => by kernel_rfl) trivial (fun e42 he41 => ?_)
        refine blockN ?_
        refine thenN ?_
        refine Runs.region he41 [] [(4, (.s (.int .u32 s4))), (6, (.s (.int .u32 (IntKind.u32.wrap (s6 * s7))))), (7, (.s (.int .u32 (IntKind.u32.wrap (s7 * s7))))), (8, (.s (.int .i64 (shrA .i64 s8 1))))] (h := []) (fun env => by kernel_rfl) trivial (fun e44 he43 => ?_)
        refine thenN ?_
        exact ih s4 (IntKind.u32.wrap (s6 * s7)) (IntKind.u32.wrap (s7 * s7)) (shrA .i64 s8 1)  _ (he43.sub (by kernel_rfl)) _ h
      · rw [if_neg hb38] at h
        refine Runs.cond (he36.get (t := 30) (v := (.s (.bool (!decide ((andA .i64 s8 1) = 0))))) (by kernel_rfl)) (fun h0 => absurd h0 hb38) (fun _ => ?_)
        refine Runs.skip ?_
        refine thenN ?_
        refine Runs.region he36 [] [(4, (.s (.int .u32 s4))), (6, (.s (.int .u32 s6))), (7, (.s (.int .u32 (IntKind.u32.wrap (s7 * s7))))), (8, (.s (.int .i64 s8)))] (h := []) (fun env => by kernel_rfl) trivial (fun e46 he45 => ?_)
        refine blockN ?_
        refine thenN ?_
        refine Runs.region he45 [] [(4, (.s (.int .u32 s4))), (6, (.s (.int .u32 s6))), (7, (.s (.int .u32 (IntKind.u32.wrap (s7 * s7))))), (8, (.s (.int .i64 (shrA .i64 s8 1))))] (h := []) (fun env => by kernel_rfl) trivial (fun e48 he47 => ?_)
        refine thenN ?_
        exact ih s4 s6 (IntKind.u32.wrap (s7 * s7)) (shrA .i64 s8 1)  _ (he47.sub (by kernel_rfl)) _ h
    · rw [if_neg hb35] at h
      refine Runs.cond (he33.get (t := 25) (v := (.s (.bool (decide (0 < s8))))) (by kernel_rfl)) (fun h0 => absurd h0 hb35) (fun _ => ?_)
      refine Runs.exit ?_
      refine thenX ?_
      refine thenX ?_
      obtain rfl := Option.some.inj h
      exact LOQ.o ⟨rfl, he33.sub (by kernel_rfl), rfl⟩
def ZS81  (n : Nat) (a0 : ByteArray) : Option (Int × Int) :=
 (ZL81_0  n n a0 (0 : Int) (0 : Int)).bind fun lo17 => match lo17 with
 | .ret _ => none
 | .out o23 =>
  (ZL81_1  n n o23.2 (1 : Int) (16777619 : Int) (o23.1.size : Int)).bind fun lo49 => match lo49 with
  | .ret _ => none
  | .out o55 =>
   some (o55.1, o55.2)
set_option maxHeartbeats 4000000 in
theorem ZS81_ok {m : Int} {n : Nat}  (a0 : ByteArray)  (r : Int × Int) (H : Heap) (h : ZS81  n a0 = some r) : evF P (T0 m) (n + 1) 81 [(.s (.string a0))] H = some ((.tup [(.s (.int .u32 r.1)), (.s (.int .u32 r.2))]), H) := by
  refine call_pure' (fi := F81) (bs := [(.s (.string a0))]) (x81z m) (tOHz m _) (o81z m) (c81z m) rfl rfl (shut_cons rfl rfl) ?_
  dsimp only [ZS81] at h
  have he : Sat [(0, (.s (.string a0)))] (argEnv [(.s (.string a0))]) := Sat.cons rfl (Sat.nil)
  refine (show Runs P (T0 m) (evF P (T0 m) n) n 81 F81 0 F81.body (argEnv [(.s (.string a0))]) [] _ from ?_)
  generalize argEnv [(.s (.string a0))] = e at he ⊢
  refine Runs.sq ?_
  refine Runs.region he [] [(0, (.s (.string a0)))] (h := []) (fun env => by kernel_rfl) trivial (fun e2 he1 => ?_)
  refine thenN ?_
  refine Runs.sq ?_
  refine Runs.region he1 [] [(0, (.s (.string a0))), (4, (.s (.int .u32 0)))] (h := []) (fun env => by kernel_rfl) trivial (fun e4 he3 => ?_)
  refine thenN ?_
  refine Runs.sq ?_
  refine Runs.sq ?_
  refine Runs.region he3 [] [(0, (.s (.string a0))), (4, (.s (.int .u32 0))), (5, (.s (.int .i64 0)))] (h := []) (fun env => by kernel_rfl) trivial (fun e6 he5 => ?_)
  refine thenN ?_
  refine Runs.block ?_
  obtain ⟨lo17, hl18, h⟩ := Option.bind_eq_some_iff.1 h
  obtain ⟨x19, e20, he20, hd22, hq21⟩ := ZL81_0_ok  n a0 (0 : Int) (0 : Int)  _ (he5.sub (by kernel_rfl)) lo17 hl18
  refine Runs.loop ⟨x19, e20, he20, by rw [lpOf_eq]; exact hd22, ?_⟩
  cases lo17 with
  | ret rx19 =>
    dsimp only at h
    cases h
  | out o23 =>
    dsimp only at h
    obtain ⟨rfl, he24, hh25⟩ := hq21
    rw [hh25]
    refine blockE ?_
    refine thenN ?_
    refine Runs.sq ?_
    refine Runs.region he24 [] [(0, (.s (.string o23.1))), (4, (.s (.int .u32 o23.2))), (6, (.s (.int .u32 1))), (7, (.s (.int .u32 16777619)))] (h := []) (fun env => by kernel_rfl) trivial (fun e30 he29 => ?_)
    refine thenN ?_
    refine Runs.sq ?_
    refine Runs.sq ?_
    refine Runs.region he29 [] [(4, (.s (.int .u32 o23.2))), (6, (.s (.int .u32 1))), (7, (.s (.int .u32 16777619))), (8, (.s (.int .i64 (o23.1.size : Int))))] (h := []) (fun env => by kernel_rfl) trivial (fun e32 he31 => ?_)
    refine thenN ?_
    refine Runs.block ?_
    obtain ⟨lo49, hl50, h⟩ := Option.bind_eq_some_iff.1 h
    obtain ⟨x51, e52, he52, hd54, hq53⟩ := ZL81_1_ok  n o23.2 (1 : Int) (16777619 : Int) (o23.1.size : Int)  _ (he31.sub (by kernel_rfl)) lo49 hl50
    refine Runs.loop ⟨x51, e52, he52, by rw [lpOf_eq]; exact hd54, ?_⟩
    cases lo49 with
    | ret rx51 =>
      dsimp only at h
      cases h
    | out o55 =>
      dsimp only at h
      obtain ⟨rfl, he56, hh57⟩ := hq53
      rw [hh57]
      refine blockE ?_
      refine thenN ?_
      refine Runs.sq ?_
      refine Runs.region he56 [] [(2, (.s (.int .u32 o55.1))), (3, (.s (.int .u32 o55.2)))] (h := []) (fun env => by kernel_rfl) trivial (fun e62 he61 => ?_)
      refine thenN ?_
      refine Runs.ret ?_
      obtain rfl := Option.some.inj h
      exact ZRetOK81.endP ret_ne (ZRetOK81.of (resT (he61.get (t := 2) (v := (.s (.int .u32 o55.1))) (by kernel_rfl)) (resT (he61.get (t := 3) (v := (.s (.int .u32 o55.2))) (by kernel_rfl)) resN)) (fin_of (fun _ _ _ _ _ h => by cases h) (shut_tup (shut_cons rfl (shut_cons rfl rfl)))))
/-! internal/bytealg.IndexRabinKarp[string] -/
def ZRetOK79 (r : Int) (e : Env) (h : Heap) : Prop := ∃ vs, resA P e h [.tmp 4] = some vs ∧ finA h (oneOf vs) = some (.s (.int .i64 r))
theorem ZRetOK79.of {r : Int} {e : Env} {h : Heap} {vs : List AV} (h1 : resA P e h [.tmp 4] = some vs) (h2 : finA h (oneOf vs) = some (.s (.int .i64 r))) : ZRetOK79 r e h := ⟨vs, h1, h2⟩
theorem ZRetOK79.endP {x : Ex} {r : Int} {e : Env} {h : Heap} (hx : ∀ k, x ≠ .exit k) (hr : ZRetOK79 r e h) : EndP P F79 (.s (.int .i64 r)) x e h := by
  obtain ⟨vs, h1, h2⟩ := hr
  exact endQ hx rfl h1 h2
def ZL79_0 (g81 : ByteArray → Option (Int × Int)) (n : Nat) : Nat → ByteArray → ByteArray → Int → Int → Int → Int → Int → Option (LO Int (ByteArray × ByteArray × Int × Int × Int × Int))
 | 0, _, _, _, _, _, _, _ => none
 | k + 1, s0, s1, s5, s6, s7, s8, s9 =>
  if (decide (s9 < s7)) then
   if (0 : Int) ≤ s9 then
    (s0.data.toList[s9.toNat]?).bind fun x18 =>
    ZL79_0 g81 n k s0 s1 s5 s6 s7 (IntKind.u32.wrap ((IntKind.u32.wrap (s8 * 16777619)) + (IntKind.u32.wrap (x18.toNat : Int)))) (IntKind.i64.wrap (s9 + 1))
   else none
  else
   some (LO.out (s0, s1, s5, s6, s7, s8))
set_option maxHeartbeats 4000000 in
theorem ZL79_0_ok {m : Int} {n : Nat} (g81 : ByteArray → Option (Int × Int)) (hg81 : ∀ (a0 : ByteArray) (r : Int × Int) (H : Heap), g81 a0 = some r → evF P (T0 m) n 81 [(.s (.string a0))] H = some ((.tup [(.s (.int .u32 r.1)), (.s (.int .u32 r.2))]), H)) : ∀ (k : Nat) (s0 : ByteArray) (s1 : ByteArray) (s5 : Int) (s6 : Int) (s7 : Int) (s8 : Int) (s9 : Int)  (e : Env) (he : Sat [(0, (.s (.string s0))), (1, (.s (.string s1))), (5, (.s (.int .u32 s5))), (6, (.s (.int .u32 s6))), (7, (.s (.int .i64 s7))), (8, (.s (.int .u32 s8))), (9, (.s (.int .i64 s9)))] e) (out : LO Int (ByteArray × ByteArray × Int × Int × Int × Int)) (h : ZL79_0 g81 n k s0 s1 s5 s6 s7 s8 s9 = some out), ∃ x e' h', rdsOf P (T0 m) (evF P (T0 m) n) n 79 0 k e [] = some (x, e', h') ∧ LOQ out (fun r => (fun x e h => x = .ret ∧ ZRetOK79 r e h) x e' h') (fun o => (fun x e h => x = .exit 0 ∧ Sat [(0, (.s (.string o.1))), (1, (.s (.string o.2.1))), (5, (.s (.int .u32 o.2.2.1))), (6, (.s (.int .u32 o.2.2.2.1))), (7, (.s (.int .i64 o.2.2.2.2.1))), (8, (.s (.int .u32 o.2.2.2.2.2)))] e ∧ h = []) x e' h') := by
  intro k
  induction k with
  | zero => intro _ _ _ _ _ _ _ _ _ _ h; cases h
  | succ k ih =>
    intro s0 s1 s5 s6 s7 s8 s9  e he out h
    dsimp only [ZL79_0] at h
    refine rds_step (rd_of (fi := F79) (c79z m) rfl ?_)
    refine Runs.sq ?_
    refine Runs.sq ?_
    refine Runs.region he [] [(0, (.s (.string s0))), (1, (.s (.string s1))), (5, (.s (.int .u32 s5))), (6, (.s (.int .u32 s6))), (7, (.s (.int .i64 s7))), (8, (.s (.int .u32 s8))), (9, (.s (.int .i64 s9))), (20, (.s (.bool (decide (s9 < s7)))))] (h := []) (fun env => by kernel_rfl) trivial (fun e14 he13 => ?_)
    refine thenN ?_
    by_cases hb15 : (decide (s9 < s7)) = true
    · rw [if_pos hb15] at h
      refine Runs.cond (he13.get (t := 20) (v := (.s (.bool (decide (s9 < s7))))) (by kernel_rfl)) (fun _ => ?_) (fun h0 => absurd (hb15.symm.trans h0) (by decide))
      refine Runs.skip ?_
      refine thenN ?_
      refine Runs.sq ?_
      refine Runs.block ?_
      by_cases hg16 : (0 : Int) ≤ s9
      rotate_left
      · rw [if_neg hg16] at h; cases h
      rw [if_pos hg16] at h
      obtain ⟨x18, hx17, h⟩ := Option.bind_eq_some_iff.1 h
      refine Runs.region he13 [(4, .ch s9.toNat x18)] [(0, (.s (.string s0))), (1, (.s (.string s1))), (5, (.s (.int .u32 s5))), (6, (.s (.int .u32 s6))), (7, (.s (.int .i64 s7))), (8, (.s (.int .u32 (IntKind.u32.wrap ((IntKind.u32.wrap (s8 * 16777619)) + (IntKind.u32.wrap (x18.toNat : Int))))))), (9, (.s (.int .i64 s9)))] (h := []) (fun env => by kernel_rfl) (And.intro (And.intro (at_nat hg16) hx17) trivial) (fun e20 he19 => ?_)
      refine blockN ?_
      refine thenN ?_
      refine Runs.region he19 [] [(0, (.s (.string s0))), (1, (.s (.string s1))), (5, (.s (.int .u32 s5))), (6, (.s (.int .u32 s6))), (7, (.s (.int .i64 s7))), (8, (.s (.int .u32 (IntKind.u32.wrap ((IntKind.u32.wrap (s8 * 16777619)) + (IntKind.u32.wrap (x18.toNat : Int))))))), (9, (.s (.int .i64 (IntKind.i64.wrap (s9 + 1)))))] (h := []) (fun env => by kernel_rfl) trivial (fun e22 he21 => ?_)
      refine thenN ?_
      exact ih s0 s1 s5 s6 s7 (IntKind.u32.wrap ((IntKind.u32.wrap (s8 * 16777619)) + (IntKind.u32.wrap (x18.toNat : Int)))) (IntKind.i64.wrap (s9 + 1))  _ (he21.sub (by kernel_rfl)) _ h
    · rw [if_neg hb15] at h
      refine Runs.cond (he13.get (t := 20) (v := (.s (.bool (decide (s9 < s7))))) (by kernel_rfl)) (fun h0 => absurd h0 hb15) (fun _ => ?_)
      refine Runs.exit ?_
      refine thenX ?_
      refine thenX ?_
      obtain rfl := Option.some.inj h
      exact LOQ.o ⟨rfl, he13.sub (by kernel_rfl), rfl⟩
def ZL79_1 (g81 : ByteArray → Option (Int × Int)) (n : Nat) : Nat → ByteArray → ByteArray → Int → Int → Int → Int → Int → Option (LO Int Unit)
 | 0, _, _, _, _, _, _, _ => none
 | k + 1, s0, s1, s5, s6, s7, s8, s10 =>
  if (decide (s10 < (s0.size : Int))) then
   if (0 : Int) ≤ s10 then
    (s0.data.toList[s10.toNat]?).bind fun x55 =>
    if (0 : Int) ≤ (IntKind.i64.wrap (s10 - s7)) then
     (s0.data.toList[(IntKind.i64.wrap (s10 - s7)).toNat]?).bind fun x60 =>
     (show Option (Bool) from
      if (decide ((IntKind.u32.wrap ((IntKind.u32.wrap ((IntKind.u32.wrap (s8 * 16777619)) + (IntKind.u32.wrap (x55.toNat : Int)))) - (IntKind.u32.wrap (s6 * (IntKind.u32.wrap (x60.toNat : Int)))))) = s5)) then
       if (0 : Int) ≤ (IntKind.i64.wrap ((IntKind.i64.wrap (s10 + 1)) - s7)) ∧ (IntKind.i64.wrap ((IntKind.i64.wrap (s10 + 1)) - s7)) ≤ (IntKind.i64.wrap (s10 + 1)) ∧ (IntKind.i64.wrap (s10 + 1)) ≤ (s0.size : Int) then
        some ((s0.extract (IntKind.i64.wrap ((IntKind.i64.wrap (s10 + 1)) - s7)).toNat (IntKind.i64.wrap (s10 + 1)).toNat).toList == (s1 : ByteArray).toList)
       else none
      else
       some false).bind fun v65 =>
     if v65 then
      some (LO.ret (IntKind.i64.wrap ((IntKind.i64.wrap (s10 + 1)) - s7)))
     else
      ZL79_1 g81 n k s0 s1 s5 s6 s7 (IntKind.u32.wrap ((IntKind.u32.wrap ((IntKind.u32.wrap (s8 * 16777619)) + (IntKind.u32.wrap (x55.toNat : Int)))) - (IntKind.u32.wrap (s6 * (IntKind.u32.wrap (x60.toNat : Int)))))) (IntKind.i64.wrap (s10 + 1))
    else none
   else none
  else
   some (LO.out ())
set_option maxHeartbeats 4000000 in
theorem ZL79_1_ok {m : Int} {n : Nat} (g81 : ByteArray → Option (Int × Int)) (hg81 : ∀ (a0 : ByteArray) (r : Int × Int) (H : Heap), g81 a0 = some r → evF P (T0 m) n 81 [(.s (.string a0))] H = some ((.tup [(.s (.int .u32 r.1)), (.s (.int .u32 r.2))]), H)) : ∀ (k : Nat) (s0 : ByteArray) (s1 : ByteArray) (s5 : Int) (s6 : Int) (s7 : Int) (s8 : Int) (s10 : Int)  (e : Env) (he : Sat [(0, (.s (.string s0))), (1, (.s (.string s1))), (5, (.s (.int .u32 s5))), (6, (.s (.int .u32 s6))), (7, (.s (.int .i64 s7))), (8, (.s (.int .u32 s8))), (10, (.s (.int .i64 s10)))] e) (out : LO Int Unit) (h : ZL79_1 g81 n k s0 s1 s5 s6 s7 s8 s10 = some out), ∃ x e' h', rdsOf P (T0 m) (evF P (T0 m) n) n 79 1 k e [] = some (x, e', h') ∧ LOQ out (fun r => (fun x e h => x = .ret ∧ ZRetOK79 r e h) x e' h') (fun o => (fun x e h => x = .exit 2 ∧ Sat [] e ∧ h = []) x e' h') := by
  intro k
  induction k with
  | zero => intro _ _ _ _ _ _ _ _ _ _ h; cases h
  | succ k ih =>
    intro s0 s1 s5 s6 s7 s8 s10  e he out h
    dsimp only [ZL79_1] at h
    refine rds_step (rd_of (fi := F79) (c79z m) rfl ?_)
    refine Runs.sq ?_
    refine Runs.sq ?_
    refine Runs.region he [] [(0, (.s (.string s0))), (1, (.s (.string s1))), (5, (.s (.int .u32 s5))), (6, (.s (.int .u32 s6))), (7, (.s (.int .i64 s7))), (8, (.s (.int .u32 s8))), (10, (.s (.int .i64 s10))), (44, (.s (.bool (decide (s10 < (s0.size : Int))))))] (h := []) (fun env => by kernel_rfl) trivial (fun e49 he48 => ?_)
    refine thenN ?_
    by_cases hb50 : (decide (s10 < (s0.size : Int))) = true
    · rw [if_pos hb50] at h
      refine Runs.cond (he48.get (t := 44) (v := (.s (.bool (decide (s10 < (s0.size : Int)))))) (by kernel_rfl)) (fun _ => ?_) (fun h0 => absurd (hb50.symm.trans h0) (by decide))
      refine Runs.skip ?_
      refine thenN ?_
      refine Runs.block ?_
      refine Runs.sq ?_
      refine Runs.region he48 [] [(0, (.s (.string s0))), (1, (.s (.string s1))), (5, (.s (.int .u32 s5))), (6, (.s (.int .u32 s6))), (7, (.s (.int .i64 s7))), (8, (.s (.int .u32 (IntKind.u32.wrap (s8 * 16777619))))), (10, (.s (.int .i64 s10)))] (h := []) (fun env => by kernel_rfl) trivial (fun e52 he51 => ?_)
      refine thenN ?_
      refine Runs.sq ?_
      by_cases hg53 : (0 : Int) ≤ s10
      rotate_left
      · rw [if_neg hg53] at h; cases h
      rw [if_pos hg53] at h
      obtain ⟨x55, hx54, h⟩ := Option.bind_eq_some_iff.1 h
      refine Runs.region he51 [(3, .ch s10.toNat x55)] [(0, (.s (.string s0))), (1, (.s (.string s1))), (5, (.s (.int .u32 s5))), (6, (.s (.int .u32 s6))), (7, (.s (.int .i64 s7))), (8, (.s (.int .u32 (IntKind.u32.wrap ((IntKind.u32.wrap (s8 * 16777619)) + (IntKind.u32.wrap (x55.toNat : Int))))))), (10, (.s (.int .i64 s10)))] (h := []) (fun env => by kernel_rfl) (And.intro (And.intro (at_nat hg53) hx54) trivial) (fun e57 he56 => ?_)
      refine thenN ?_
      refine Runs.sq ?_
      by_cases hg58 : (0 : Int) ≤ (IntKind.i64.wrap (s10 - s7))
      rotate_left
      · rw [if_neg hg58] at h; cases h
      rw [if_pos hg58] at h
      obtain ⟨x60, hx59, h⟩ := Option.bind_eq_some_iff.1 h
      refine Runs.region he56 [(6, .ch ((IntKind.i64.wrap (s10 - s7)).toNat) x60)] [(0, (.s (.string s0))), (1, (.s (.string s1))), (5, (.s (.int .u32 s5))), (6, (.s (.int .u32 s6))), (7, (.s (.int .i64 s7))), (8, (.s (.int .u32 (IntKind.u32.wrap ((IntKind.u32.wrap ((IntKind.u32.wrap (s8 * 16777619)) + (IntKind.u32.wrap (x55.toNat : Int)))) - (IntKind.u32.wrap (s6 * (IntKind.u32.wrap (x60.toNat : Int))))))))), (10, (.s (.int .i64 s10)))] (h := []) (fun env => by kernel_rfl) (And.intro (And.intro (at_nat hg58) hx59) trivial) (fun e62 he61 => ?_)
      refine thenN ?_
      refine Runs.sq ?_
      refine Runs.region he61 [] [(0, (.s (.string s0))), (1, (.s (.string s1))), (5, (.s (.int .u32 s5))), (6, (.s (.int .u32 s6))), (7, (.s (.int .i64 s7))), (8, (.s (.int .u32 (IntKind.u32.wrap ((IntKind.u32.wrap ((IntKind.u32.wrap (s8 * 16777619)) + (IntKind.u32.wrap (x55.toNat : Int)))) - (IntKind.u32.wrap (s6 * (IntKind.u32.wrap (x60.toNat : Int))))))))), (10, (.s (.int .i64 (IntKind.i64.wrap (s10 + 1)))))] (h := []) (fun env => by kernel_rfl) trivial (fun e64 he63 => ?_)
      refine thenN ?_
      refine Runs.sq ?_
      obtain ⟨v65, hm66, h⟩ := Option.bind_eq_some_iff.1 h
      refine Runs.mono (Q := fun x e h => x = .normal ∧ Sat [(0, (.s (.string s0))), (1, (.s (.string s1))), (5, (.s (.int .u32 s5))), (6, (.s (.int .u32 s6))), (7, (.s (.int .i64 s7))), (8, (.s (.int .u32 (IntKind.u32.wrap ((IntKind.u32.wrap ((IntKind.u32.wrap (s8 * 16777619)) + (IntKind.u32.wrap (x55.toNat : Int)))) - (IntKind.u32.wrap (s6 * (IntKind.u32.wrap (x60.toNat : Int))))))))), (10, (.s (.int .i64 (IntKind.i64.wrap (s10 + 1))))), (77, (.s (.bool v65)))] e ∧ h = []) ?_ ?_
      · by_cases hb67 : (decide ((IntKind.u32.wrap ((IntKind.u32.wrap ((IntKind.u32.wrap (s8 * 16777619)) + (IntKind.u32.wrap (x55.toNat : Int)))) - (IntKind.u32.wrap (s6 * (IntKind.u32.wrap (x60.toNat : Int)))))) = s5)) = true
        · rw [if_pos hb67] at hm66
          by_cases hg68 : (0 : Int) ≤ (IntKind.i64.wrap ((IntKind.i64.wrap (s10 + 1)) - s7)) ∧ (IntKind.i64.wrap ((IntKind.i64.wrap (s10 + 1)) - s7)) ≤ (IntKind.i64.wrap (s10 + 1)) ∧ (IntKind.i64.wrap (s10 + 1)) ≤ (s0.size : Int)
          rotate_left
          · rw [if_neg hg68] at hm66; cases hm66
          rw [if_pos hg68] at hm66
          obtain rfl := Option.some.inj hm66
          exact Runs.region he63 [(3, .b true), (9, .cuts ((IntKind.i64.wrap ((IntKind.i64.wrap (s10 + 1)) - s7)).toNat) ((IntKind.i64.wrap (s10 + 1)).toNat))] [(0, (.s (.string s0))), (1, (.s (.string s1))), (5, (.s (.int .u32 s5))), (6, (.s (.int .u32 s6))), (7, (.s (.int .i64 s7))), (8, (.s (.int .u32 (IntKind.u32.wrap ((IntKind.u32.wrap ((IntKind.u32.wrap (s8 * 16777619)) + (IntKind.u32.wrap (x55.toNat : Int)))) - (IntKind.u32.wrap (s6 * (IntKind.u32.wrap (x60.toNat : Int))))))))), (10, (.s (.int .i64 (IntKind.i64.wrap (s10 + 1))))), (77, (.s (.bool ((s0.extract (IntKind.i64.wrap ((IntKind.i64.wrap (s10 + 1)) - s7)).toNat (IntKind.i64.wrap (s10 + 1)).toNat).toList == (s1 : ByteArray).toList))))] (h := []) (fun env => by kernel_rfl) (And.intro hb67 (And.intro (cuts_ok hg68) trivial)) (fun _ h => ⟨rfl, h, rfl⟩)
        · rw [if_neg hb67] at hm66
          obtain rfl := Option.some.inj hm66
          exact Runs.region he63 [(3, .b false)] [(0, (.s (.string s0))), (1, (.s (.string s1))), (5, (.s (.int .u32 s5))), (6, (.s (.int .u32 s6))), (7, (.s (.int .i64 s7))), (8, (.s (.int .u32 (IntKind.u32.wrap ((IntKind.u32.wrap ((IntKind.u32.wrap (s8 * 16777619)) + (IntKind.u32.wrap (x55.toNat : Int)))) - (IntKind.u32.wrap (s6 * (IntKind.u32.wrap (x60.toNat : Int))))))))), (10, (.s (.int .i64 (IntKind.i64.wrap (s10 + 1))))), (77, (.s (.bool false)))] (h := []) (fun env => by kernel_rfl) (And.intro (Bool.eq_false_iff.2 hb67) trivial) (fun _ h => ⟨rfl, h, rfl⟩)
      rintro _ e70 h71 ⟨rfl, he69, hh72⟩
      rw [hh72]
      refine thenN ?_
      by_cases hb73 : v65 = true
      · rw [if_pos hb73] at h
        refine Runs.cond (he69.get (t := 77) (v := (.s (.bool v65))) (by kernel_rfl)) (fun _ => ?_) (fun h0 => absurd (hb73.symm.trans h0) (by decide))
        refine Runs.sq ?_
        refine Runs.region he69 [] [(4, (.s (.int .i64 (IntKind.i64.wrap ((IntKind.i64.wrap (s10 + 1)) - s7)))))] (h := []) (fun env => by kernel_rfl) trivial (fun e75 he74 => ?_)
        refine thenN ?_
        refine Runs.ret ?_
        refine blockR ?_
        refine thenR ?_
        obtain rfl := Option.some.inj h
        exact LOQ.r ⟨rfl, ZRetOK79.of (resT (he74.get (t := 4) (v := (.s (.int .i64 (IntKind.i64.wrap ((IntKind.i64.wrap (s10 + 1)) - s7))))) (by kernel_rfl)) resN) (fin_of (fun _ _ _ _ _ h => by cases h) rfl)⟩
      · rw [if_neg hb73] at h
        refine Runs.cond (he69.get (t := 77) (v := (.s (.bool v65))) (by kernel_rfl)) (fun h0 => absurd h0 hb73) (fun _ => ?_)
        refine Runs.skip ?_
        refine blockN ?_
        refine thenN ?_
        exact ih s0 s1 s5 s6 s7 (IntKind.u32.wrap ((IntKind.u32.wrap ((IntKind.u32.wrap (s8 * 16777619)) + (IntKind.u32.wrap (x55.toNat : Int)))) - (IntKind.u32.wrap (s6 * (IntKind.u32.wrap (x60.toNat : Int)))))) (IntKind.i64.wrap (s10 + 1))  _ (he69.sub (by kernel_rfl)) _ h
    · rw [if_neg hb50] at h
      refine Runs.cond (he48.get (t := 44) (v := (.s (.bool (decide (s10 < (s0.size : Int)))))) (by kernel_rfl)) (fun h0 => absurd h0 hb50) (fun _ => ?_)
      refine Runs.exit ?_
      refine thenX ?_
      refine thenX ?_
      obtain rfl := Option.some.inj h
      exact LOQ.o ⟨rfl, he48.sub (by kernel_rfl), rfl⟩
def ZS79 (g81 : ByteArray → Option (Int × Int)) (n : Nat) (a0 : ByteArray) (a1 : ByteArray) : Option (Int) :=
 (g81 a1).bind fun r3 =>
 match r3 with
 | (r3_0, r3_1) =>
  (ZL79_0 g81 n n a0 a1 r3_0 r3_1 (a1.size : Int) (0 : Int) (0 : Int)).bind fun lo23 => match lo23 with
  | .ret _ => none
  | .out o29 =>
   (show Option (Bool) from
    if (decide (o29.2.2.2.2.2 = o29.2.2.1)) then
     if (0 : Int) ≤ 0 ∧ 0 ≤ o29.2.2.2.2.1 ∧ o29.2.2.2.2.1 ≤ (o29.1.size : Int) then
      some ((o29.1.extract (0 : Int).toNat o29.2.2.2.2.1.toNat).toList == (o29.2.1 : ByteArray).toList)
     else none
    else
     some false).bind fun v35 =>
   if v35 then
    some (0 : Int)
   else
    (ZL79_1 g81 n n o29.1 o29.2.1 o29.2.2.1 o29.2.2.2.1 o29.2.2.2.2.1 o29.2.2.2.2.2 o29.2.2.2.2.1).bind fun lo76 => match lo76 with
    | .ret rx78 =>
     some rx78
    | .out o82 =>
     some ((-1) : Int)
set_option maxHeartbeats 4000000 in
theorem ZS79_ok {m : Int} {n : Nat} (g81 : ByteArray → Option (Int × Int)) (hg81 : ∀ (a0 : ByteArray) (r : Int × Int) (H : Heap), g81 a0 = some r → evF P (T0 m) n 81 [(.s (.string a0))] H = some ((.tup [(.s (.int .u32 r.1)), (.s (.int .u32 r.2))]), H)) (a0 : ByteArray) (a1 : ByteArray)  (r : Int) (H : Heap) (h : ZS79 g81 n a0 a1 = some r) : evF P (T0 m) (n + 1) 79 [(.s (.string a0)), (.s (.string a1))] H = some ((.s (.int .i64 r)), H) := by
  refine call_pure' (fi := F79) (bs := [(.s (.string a0)), (.s (.string a1))]) (x79z m) (tOHz m _) (o79z m) (c79z m) rfl rfl (shut_cons rfl (shut_cons rfl rfl)) ?_
  dsimp only [ZS79] at h
  have he : Sat [(0, (.s (.string a0))), (1, (.s (.string a1)))] (argEnv [(.s (.string a0)), (.s (.string a1))]) := Sat.cons rfl (Sat.cons rfl (Sat.nil))
  refine (show Runs P (T0 m) (evF P (T0 m) n) n 79 F79 0 F79.body (argEnv [(.s (.string a0)), (.s (.string a1))]) [] _ from ?_)
  generalize argEnv [(.s (.string a0)), (.s (.string a1))] = e at he ⊢
  refine Runs.sq ?_
  refine Runs.region he [] [(0, (.s (.string a0))), (1, (.s (.string a1)))] (h := []) (fun env => by kernel_rfl) trivial (fun e2 he1 => ?_)
  refine thenN ?_
  refine Runs.sq ?_
  obtain ⟨r3, hr4, h⟩ := Option.bind_eq_some_iff.1 h
  obtain ⟨r3_0, r3_1⟩ := r3
  dsimp only at h
  refine Runs.region he1 [(1, .f (.tup [(.s (.int .u32 r3_0)), (.s (.int .u32 r3_1))]) [])] [(0, (.s (.string a0))), (1, (.s (.string a1))), (5, (.s (.int .u32 r3_0))), (6, (.s (.int .u32 r3_1)))] (h := []) (fun env => by kernel_rfl) (And.intro (hg81 a1  _ []  hr4) trivial) (fun e6 he5 => ?_)
  refine thenN ?_
  refine Runs.sq ?_
  refine Runs.region he5 [] [(0, (.s (.string a0))), (1, (.s (.string a1))), (5, (.s (.int .u32 r3_0))), (6, (.s (.int .u32 r3_1))), (7, (.s (.int .i64 (a1.size : Int))))] (h := []) (fun env => by kernel_rfl) trivial (fun e8 he7 => ?_)
  refine thenN ?_
  refine Runs.sq ?_
  refine Runs.region he7 [] [(0, (.s (.string a0))), (1, (.s (.string a1))), (5, (.s (.int .u32 r3_0))), (6, (.s (.int .u32 r3_1))), (7, (.s (.int .i64 (a1.size : Int)))), (8, (.s (.int .u32 0)))] (h := []) (fun env => by kernel_rfl) trivial (fun e10 he9 => ?_)
  refine thenN ?_
  refine Runs.sq ?_
  refine Runs.sq ?_
  refine Runs.region he9 [] [(0, (.s (.string a0))), (1, (.s (.string a1))), (5, (.s (.int .u32 r3_0))), (6, (.s (.int .u32 r3_1))), (7, (.s (.int .i64 (a1.size : Int)))), (8, (.s (.int .u32 0))), (9, (.s (.int .i64 0)))] (h := []) (fun env => by kernel_rfl) trivial (fun e12 he11 => ?_)
  refine thenN ?_
  refine Runs.block ?_
  obtain ⟨lo23, hl24, h⟩ := Option.bind_eq_some_iff.1 h
  obtain ⟨x25, e26, he26, hd28, hq27⟩ := ZL79_0_ok g81 hg81 n a0 a1 r3_0 r3_1 (a1.size : Int) (0 : Int) (0 : Int)  _ (he11.sub (by kernel_rfl)) lo23 hl24
  refine Runs.loop ⟨x25, e26, he26, by rw [lpOf_eq]; exact hd28, ?_⟩
  cases lo23 with
  | ret rx25 =>
    dsimp only at h
    cases h
  | out o29 =>
    dsimp only at h
    obtain ⟨rfl, he30, hh31⟩ := hq27
    rw [hh31]
    refine blockE ?_
    refine thenN ?_
    refine Runs.sq ?_
    refine Runs.sq ?_
    obtain ⟨v35, hm36, h⟩ := Option.bind_eq_some_iff.1 h
    refine Runs.mono (Q := fun x e h => x = .normal ∧ Sat [(0, (.s (.string o29.1))), (1, (.s (.string o29.2.1))), (5, (.s (.int .u32 o29.2.2.1))), (6, (.s (.int .u32 o29.2.2.2.1))), (7, (.s (.int .i64 o29.2.2.2.2.1))), (8, (.s (.int .u32 o29.2.2.2.2.2))), (39, (.s (.bool v35)))] e ∧ h = []) ?_ ?_
    · by_cases hb37 : (decide (o29.2.2.2.2.2 = o29.2.2.1)) = true
      · rw [if_pos hb37] at hm36
        by_cases hg38 : (0 : Int) ≤ 0 ∧ 0 ≤ o29.2.2.2.2.1 ∧ o29.2.2.2.2.1 ≤ (o29.1.size : Int)
        rotate_left
        · rw [if_neg hg38] at hm36; cases hm36
        rw [if_pos hg38] at hm36
        obtain rfl := Option.some.inj hm36
        exact Runs.region he30 [(3, .b true), (6, .cuts ((0 : Int).toNat) o29.2.2.2.2.1.toNat)] [(0, (.s (.string o29.1))), (1, (.s (.string o29.2.1))), (5, (.s (.int .u32 o29.2.2.1))), (6, (.s (.int .u32 o29.2.2.2.1))), (7, (.s (.int .i64 o29.2.2.2.2.1))), (8, (.s (.int .u32 o29.2.2.2.2.2))), (39, (.s (.bool ((o29.1.extract (0 : Int).toNat o29.2.2.2.2.1.toNat).toList == (o29.2.1 : ByteArray).toList))))] (h := []) (fun env => by kernel_rfl) (And.intro hb37 (And.intro (cuts_ok hg38) trivial)) (fun _ h => ⟨rfl, h, rfl⟩)
      · rw [if_neg hb37] at hm36
        obtain rfl := Option.some.inj hm36
        exact Runs.region he30 [(3, .b false)] [(0, (.s (.string o29.1))), (1, (.s (.string o29.2.1))), (5, (.s (.int .u32 o29.2.2.1))), (6, (.s (.int .u32 o29.2.2.2.1))), (7, (.s (.int .i64 o29.2.2.2.2.1))), (8, (.s (.int .u32 o29.2.2.2.2.2))), (39, (.s (.bool false)))] (h := []) (fun env => by kernel_rfl) (And.intro (Bool.eq_false_iff.2 hb37) trivial) (fun _ h => ⟨rfl, h, rfl⟩)
    rintro _ e40 h41 ⟨rfl, he39, hh42⟩
    rw [hh42]
    refine thenN ?_
    by_cases hb43 : v35 = true
    · rw [if_pos hb43] at h
      refine Runs.cond (he39.get (t := 39) (v := (.s (.bool v35))) (by kernel_rfl)) (fun _ => ?_) (fun h0 => absurd (hb43.symm.trans h0) (by decide))
      refine Runs.sq ?_
      refine Runs.region he39 [] [(4, (.s (.int .i64 0)))] (h := []) (fun env => by kernel_rfl) trivial (fun e45 he44 => ?_)
      refine thenN ?_
      refine Runs.ret ?_
      refine thenR ?_
      obtain rfl := Option.some.inj h
      exact ZRetOK79.endP ret_ne (ZRetOK79.of (resT (he44.get (t := 4) (v := (.s (.int .i64 0))) (by kernel_rfl)) resN) (fin_of (fun _ _ _ _ _ h => by cases h) rfl))
    · rw [if_neg hb43] at h
      refine Runs.cond (he39.get (t := 39) (v := (.s (.bool v35))) (by kernel_rfl)) (fun h0 => absurd h0 hb43) (fun _ => ?_)
      refine Runs.skip ?_
      refine thenN ?_
      refine Runs.sq ?_
      refine Runs.sq ?_
      refine Runs.region he39 [] [(0, (.s (.string o29.1))), (1, (.s (.string o29.2.1))), (5, (.s (.int .u32 o29.2.2.1))), (6, (.s (.int .u32 o29.2.2.2.1))), (7, (.s (.int .i64 o29.2.2.2.2.1))), (8, (.s (.int .u32 o29.2.2.2.2.2))), (10, (.s (.int .i64 o29.2.2.2.2.1)))] (h := []) (fun env => by kernel_rfl) trivial (fun e47 he46 => ?_)
      refine thenN ?_
      refine Runs.block ?_
      obtain ⟨lo76, hl77, h⟩ := Option.bind_eq_some_iff.1 h
      obtain ⟨x78, e79, he79, hd81, hq80⟩ := ZL79_1_ok g81 hg81 n o29.1 o29.2.1 o29.2.2.1 o29.2.2.2.1 o29.2.2.2.2.1 o29.2.2.2.2.2 o29.2.2.2.2.1  _ (he46.sub (by kernel_rfl)) lo76 hl77
      refine Runs.loop ⟨x78, e79, he79, by rw [lpOf_eq]; exact hd81, ?_⟩
      cases lo76 with
      | ret rx78 =>
        dsimp only at h
        obtain ⟨rfl, hq80⟩ := hq80
        refine blockR ?_
        refine thenR ?_
        obtain rfl := Option.some.inj h
        exact ZRetOK79.endP ret_ne hq80
      | out o82 =>
        dsimp only at h
        obtain ⟨rfl, he83, hh84⟩ := hq80
        rw [hh84]
        refine blockE ?_
        refine thenN ?_
        refine Runs.sq ?_
        refine Runs.region he83 [] [(4, (.s (.int .i64 (-1))))] (h := []) (fun env => by kernel_rfl) trivial (fun e89 he88 => ?_)
        refine thenN ?_
        refine Runs.ret ?_
        obtain rfl := Option.some.inj h
        exact ZRetOK79.endP ret_ne (ZRetOK79.of (resT (he88.get (t := 4) (v := (.s (.int .i64 (-1)))) (by kernel_rfl)) resN) (fin_of (fun _ _ _ _ _ h => by cases h) rfl))
/-! internal/bytealg.Cutover -/
def ZRetOK78 (r : Int) (e : Env) (h : Heap) : Prop := ∃ vs, resA P e h [.tmp 2] = some vs ∧ finA h (oneOf vs) = some (.s (.int .i64 r))
theorem ZRetOK78.of {r : Int} {e : Env} {h : Heap} {vs : List AV} (h1 : resA P e h [.tmp 2] = some vs) (h2 : finA h (oneOf vs) = some (.s (.int .i64 r))) : ZRetOK78 r e h := ⟨vs, h1, h2⟩
theorem ZRetOK78.endP {x : Ex} {r : Int} {e : Env} {h : Heap} (hx : ∀ k, x ≠ .exit k) (hr : ZRetOK78 r e h) : EndP P F78 (.s (.int .i64 r)) x e h := by
  obtain ⟨vs, h1, h2⟩ := hr
  exact endQ hx rfl h1 h2
def ZS78  (n : Nat) (a0 : Int) : Option (Int) :=
 some (IntKind.i64.wrap (((IntKind.i64.wrap (a0 + 16)) : Int).tdiv 8))
set_option maxHeartbeats 4000000 in
theorem ZS78_ok {m : Int} {n : Nat}  (a0 : Int)  (r : Int) (H : Heap) (h : ZS78  n a0 = some r) : evF P (T0 m) (n + 1) 78 [(.s (.int .i64 a0))] H = some ((.s (.int .i64 r)), H) := by
  refine call_pure' (fi := F78) (bs := [(.s (.int .i64 a0))]) (x78z m) (tOHz m _) (o78z m) (c78z m) rfl rfl (shut_cons rfl rfl) ?_
  dsimp only [ZS78] at h
  have he : Sat [(0, (.s (.int .i64 a0)))] (argEnv [(.s (.int .i64 a0))]) := Sat.cons rfl (Sat.nil)
  refine (show Runs P (T0 m) (evF P (T0 m) n) n 78 F78 0 F78.body (argEnv [(.s (.int .i64 a0))]) [] _ from ?_)
  generalize argEnv [(.s (.int .i64 a0))] = e at he ⊢
  refine Runs.sq ?_
  refine Runs.region he [] [(0, (.s (.int .i64 a0)))] (h := []) (fun env => by kernel_rfl) trivial (fun e2 he1 => ?_)
  refine thenN ?_
  refine Runs.sq ?_
  refine Runs.region he1 [] [(2, (.s (.int .i64 (IntKind.i64.wrap (((IntKind.i64.wrap (a0 + 16)) : Int).tdiv 8)))))] (h := []) (fun env => by kernel_rfl) trivial (fun e4 he3 => ?_)
  refine thenN ?_
  refine Runs.ret ?_
  obtain rfl := Option.some.inj h
  exact ZRetOK78.endP ret_ne (ZRetOK78.of (resT (he3.get (t := 2) (v := (.s (.int .i64 (IntKind.i64.wrap (((IntKind.i64.wrap (a0 + 16)) : Int).tdiv 8))))) (by kernel_rfl)) resN) (fin_of (fun _ _ _ _ _ h => by cases h) rfl))
/-! internal/stringslite.IndexByte -/
def ZRetOK76 (r : Int) (e : Env) (h : Heap) : Prop := ∃ vs, resA P e h [.tmp 4] = some vs ∧ finA h (oneOf vs) = some (.s (.int .i64 r))
theorem ZRetOK76.of {r : Int} {e : Env} {h : Heap} {vs : List AV} (h1 : resA P e h [.tmp 4] = some vs) (h2 : finA h (oneOf vs) = some (.s (.int .i64 r))) : ZRetOK76 r e h := ⟨vs, h1, h2⟩
theorem ZRetOK76.endP {x : Ex} {r : Int} {e : Env} {h : Heap} (hx : ∀ k, x ≠ .exit k) (hr : ZRetOK76 r e h) : EndP P F76 (.s (.int .i64 r)) x e h := by
  obtain ⟨vs, h1, h2⟩ := hr
  exact endQ hx rfl h1 h2
def ZS76 (g80 : ByteArray → Int → Option Int) (n : Nat) (a0 : ByteArray) (a1 : Int) : Option (Int) :=
 (g80 a0 a1).bind fun r3 =>
 some r3
set_option maxHeartbeats 4000000 in
theorem ZS76_ok {m : Int} {n : Nat} (g80 : ByteArray → Int → Option Int) (hg80 : ∀ (a0 : ByteArray) (a1 : Int) (r : Int) (H : Heap), g80 a0 a1 = some r → evF P (T0 m) n 80 [(.s (.string a0)), (.s (.int .u8 a1))] H = some ((.s (.int .i64 r)), H)) (a0 : ByteArray) (a1 : Int)  (r : Int) (H : Heap) (h : ZS76 g80 n a0 a1 = some r) : evF P (T0 m) (n + 1) 76 [(.s (.string a0)), (.s (.int .u8 a1))] H = some ((.s (.int .i64 r)), H) := by
  refine call_pure' (fi := F76) (bs := [(.s (.string a0)), (.s (.int .u8 a1))]) (x76z m) (tOHz m _) (o76z m) (c76z m) rfl rfl (shut_cons rfl (shut_cons rfl rfl)) ?_
  dsimp only [ZS76] at h
  have he : Sat [(0, (.s (.string a0))), (1, (.s (.int .u8 a1)))] (argEnv [(.s (.string a0)), (.s (.int .u8 a1))]) := Sat.cons rfl (Sat.cons rfl (Sat.nil))
  refine (show Runs P (T0 m) (evF P (T0 m) n) n 76 F76 0 F76.body (argEnv [(.s (.string a0)), (.s (.int .u8 a1))]) [] _ from ?_)
  generalize argEnv [(.s (.string a0)), (.s (.int .u8 a1))] = e at he ⊢
  refine Runs.sq ?_
  refine Runs.region he [] [(0, (.s (.string a0))), (1, (.s (.int .u8 a1)))] (h := []) (fun env => by kernel_rfl) trivial (fun e2 he1 => ?_)
  refine thenN ?_
  refine Runs.sq ?_
  obtain ⟨r3, hr4, h⟩ := Option.bind_eq_some_iff.1 h
  refine Runs.region he1 [(2, .f (.s (.int .i64 r3)) [])] [(4, (.s (.int .i64 r3)))] (h := []) (fun env => by kernel_rfl) (And.intro (hg80 a0 a1  _ []  hr4) trivial) (fun e6 he5 => ?_)
  refine thenN ?_
  refine Runs.ret ?_
  obtain rfl := Option.some.inj h
  exact ZRetOK76.endP ret_ne (ZRetOK76.of (resT (he5.get (t := 4) (v := (.s (.int .i64 r3))) (by kernel_rfl)) resN) (fin_of (fun _ _ _ _ _ h => by cases h) rfl))
/-! internal/stringslite.Index -/
def ZRetOK73 (r : Int) (e : Env) (h : Heap) : Prop := ∃ vs, resA P e h [.tmp 4] = some vs ∧ finA h (oneOf vs) = some (.s (.int .i64 r))
theorem ZRetOK73.of {r : Int} {e : Env} {h : Heap} {vs : List AV} (h1 : resA P e h [.tmp 4] = some vs) (h2 : finA h (oneOf vs) = some (.s (.int .i64 r))) : ZRetOK73 r e h := ⟨vs, h1, h2⟩
theorem ZRetOK73.endP {x : Ex} {r : Int} {e : Env} {h : Heap} (hx : ∀ k, x ≠ .exit k) (hr : ZRetOK73 r e h) : EndP P F73 (.s (.int .i64 r)) x e h := by
  obtain ⟨vs, h1, h2⟩ := hr
  exact endQ hx rfl h1 h2
def ZL73_0 (g78 : Int → Option Int) (g79 : ByteArray → ByteArray → Option Int) (g77 : ByteArray → ByteArray → Option Int) (g76 : ByteArray → Int → Option Int) (m : Int) (n : Nat) : Nat → ByteArray → ByteArray → Int → Int → Int → Int → Int → Int → Option (LO Int Unit)
 | 0, _, _, _, _, _, _, _, _ => none
 | k + 1, s0, s1, s5, s6, s7, s8, s9, s10 =>
  if (decide (s8 < s9)) then
   if (0 : Int) ≤ s8 then
    (s0.data.toList[s8.toNat]?).bind fun x63 =>
    if (!decide ((x63.toNat : Int) = s6)) then
     if (0 : Int) ≤ (IntKind.i64.wrap (s8 + 1)) ∧ (IntKind.i64.wrap (s8 + 1)) ≤ s9 ∧ s9 ≤ (s0.size : Int) then
      (g76 (s0.extract (IntKind.i64.wrap (s8 + 1)).toNat s9.toNat) s6).bind fun r68 =>
      if (decide (r68 < 0)) then
       some (LO.ret ((-1) : Int))
      else
       (show Option (Bool) from
        if (0 : Int) ≤ (IntKind.i64.wrap ((IntKind.i64.wrap (s8 + (IntKind.i64.wrap (r68 + 1)))) + 1)) then
         (s0.data.toList[(IntKind.i64.wrap ((IntKind.i64.wrap (s8 + (IntKind.i64.wrap (r68 + 1)))) + 1)).toNat]?).bind fun x83 =>
         if (decide ((x83.toNat : Int) = s7)) then
          if (0 : Int) ≤ (IntKind.i64.wrap (s8 + (IntKind.i64.wrap (r68 + 1)))) ∧ (IntKind.i64.wrap (s8 + (IntKind.i64.wrap (r68 + 1)))) ≤ (IntKind.i64.wrap ((IntKind.i64.wrap (s8 + (IntKind.i64.wrap (r68 + 1)))) + s5)) ∧ (IntKind.i64.wrap ((IntKind.i64.wrap (s8 + (IntKind.i64.wrap (r68 + 1)))) + s5)) ≤ (s0.size : Int) then
           some ((s0.extract (IntKind.i64.wrap (s8 + (IntKind.i64.wrap (r68 + 1)))).toNat (IntKind.i64.wrap ((IntKind.i64.wrap (s8 + (IntKind.i64.wrap (r68 + 1)))) + s5)).toNat).toList == (s1 : ByteArray).toList)
          else none
         else
          some false
        else none).bind fun v79 =>
       if v79 then
        some (LO.ret (IntKind.i64.wrap (s8 + (IntKind.i64.wrap (r68 + 1)))))
       else
        (show Option (Bool) from
         if (decide (s5 ≤ m)) then
          (g78 (IntKind.i64.wrap ((IntKind.i64.wrap (s8 + (IntKind.i64.wrap (r68 + 1)))) + 1))).bind fun r100 =>
          some (decide (r100 < (IntKind.i64.wrap (s10 + 1))))
         else
          some false).bind fun v97 =>
        if v97 then
         if (0 : Int) ≤ (IntKind.i64.wrap ((IntKind.i64.wrap (s8 + (IntKind.i64.wrap (r68 + 1)))) + 1)) ∧ (IntKind.i64.wrap ((IntKind.i64.wrap (s8 + (IntKind.i64.wrap (r68 + 1)))) + 1)) ≤ (s0.size : Int) ∧ (s0.size : Int) ≤ (s0.size : Int) then
          (g77 (s0.extract (IntKind.i64.wrap ((IntKind.i64.wrap (s8 + (IntKind.i64.wrap (r68 + 1)))) + 1)).toNat (s0.size : Int).toNat) s1).bind fun r108 =>
          if (decide (0 ≤ r108)) then
           some (LO.ret (IntKind.i64.wrap (r108 + (IntKind.i64.wrap ((IntKind.i64.wrap (s8 + (IntKind.i64.wrap (r68 + 1)))) + 1)))))
          else
           some (LO.ret ((-1) : Int))
         else none
        else
         (show Option (Bool) from
          if (decide (m < s5)) then
           if (decide ((IntKind.i64.wrap (4 + (shrA .i64 (IntKind.i64.wrap ((IntKind.i64.wrap (s8 + (IntKind.i64.wrap (r68 + 1)))) + 1)) 4))) ≤ (IntKind.i64.wrap (s10 + 1)))) then
            some (decide ((IntKind.i64.wrap ((IntKind.i64.wrap (s8 + (IntKind.i64.wrap (r68 + 1)))) + 1)) < s9))
           else
            some false
          else
           some false).bind fun v119 =>
         if v119 then
          if (0 : Int) ≤ (IntKind.i64.wrap ((IntKind.i64.wrap (s8 + (IntKind.i64.wrap (r68 + 1)))) + 1)) ∧ (IntKind.i64.wrap ((IntKind.i64.wrap (s8 + (IntKind.i64.wrap (r68 + 1)))) + 1)) ≤ (s0.size : Int) ∧ (s0.size : Int) ≤ (s0.size : Int) then
           (g79 (s0.extract (IntKind.i64.wrap ((IntKind.i64.wrap (s8 + (IntKind.i64.wrap (r68 + 1)))) + 1)).toNat (s0.size : Int).toNat) s1).bind fun r129 =>
           if (decide (r129 < 0)) then
            some (LO.ret ((-1) : Int))
           else
            some (LO.ret (IntKind.i64.wrap ((IntKind.i64.wrap ((IntKind.i64.wrap (s8 + (IntKind.i64.wrap (r68 + 1)))) + 1)) + r129)))
          else none
         else
          ZL73_0 g78 g79 g77 g76 m n k s0 s1 s5 s6 s7 (IntKind.i64.wrap ((IntKind.i64.wrap (s8 + (IntKind.i64.wrap (r68 + 1)))) + 1)) s9 (IntKind.i64.wrap (s10 + 1))
     else none
    else
     (show Option (Bool) from
      if (0 : Int) ≤ (IntKind.i64.wrap (s8 + 1)) then
       (s0.data.toList[(IntKind.i64.wrap (s8 + 1)).toNat]?).bind fun x144 =>
       if (decide ((x144.toNat : Int) = s7)) then
        if (0 : Int) ≤ s8 ∧ s8 ≤ (IntKind.i64.wrap (s8 + s5)) ∧ (IntKind.i64.wrap (s8 + s5)) ≤ (s0.size : Int) then
         some ((s0.extract s8.toNat (IntKind.i64.wrap (s8 + s5)).toNat).toList == (s1 : ByteArray).toList)
        else none
       else
        some false
      else none).bind fun v140 =>
     if v140 then
      some (LO.ret s8)
     else
      (show Option (Bool) from
       if (decide (s5 ≤ m)) then
        (g78 (IntKind.i64.wrap (s8 + 1))).bind fun r161 =>
        some (decide (r161 < (IntKind.i64.wrap (s10 + 1))))
       else
        some false).bind fun v158 =>
      if v158 then
       if (0 : Int) ≤ (IntKind.i64.wrap (s8 + 1)) ∧ (IntKind.i64.wrap (s8 + 1)) ≤ (s0.size : Int) ∧ (s0.size : Int) ≤ (s0.size : Int) then
        (g77 (s0.extract (IntKind.i64.wrap (s8 + 1)).toNat (s0.size : Int).toNat) s1).bind fun r169 =>
        if (decide (0 ≤ r169)) then
         some (LO.ret (IntKind.i64.wrap (r169 + (IntKind.i64.wrap (s8 + 1)))))
        else
         some (LO.ret ((-1) : Int))
       else none
      else
       (show Option (Bool) from
        if (decide (m < s5)) then
         if (decide ((IntKind.i64.wrap (4 + (shrA .i64 (IntKind.i64.wrap (s8 + 1)) 4))) ≤ (IntKind.i64.wrap (s10 + 1)))) then
          some (decide ((IntKind.i64.wrap (s8 + 1)) < s9))
         else
          some false
        else
         some false).bind fun v180 =>
       if v180 then
        if (0 : Int) ≤ (IntKind.i64.wrap (s8 + 1)) ∧ (IntKind.i64.wrap (s8 + 1)) ≤ (s0.size : Int) ∧ (s0.size : Int) ≤ (s0.size : Int) then
         (g79 (s0.extract (IntKind.i64.wrap (s8 + 1)).toNat (s0.size : Int).toNat) s1).bind fun r190 =>
         if (decide (r190 < 0)) then
          some (LO.ret ((-1) : Int))
         else
          some (LO.ret (IntKind.i64.wrap ((IntKind.i64.wrap (s8 + 1)) + r190)))
        else none
       else
        ZL73_0 g78 g79 g77 g76 m n k s0 s1 s5 s6 s7 (IntKind.i64.wrap (s8 + 1)) s9 (IntKind.i64.wrap (s10 + 1))
   else none
  else
   some (LO.out ())
set_option maxHeartbeats 4000000 in
theorem ZL73_0_ok {m : Int} {n : Nat} (g78 : Int → Option Int) (hg78 : ∀ (a0 : Int) (r : Int) (H : Heap), g78 a0 = some r → evF P (T0 m) n 78 [(.s (.int .i64 a0))] H = some ((.s (.int .i64 r)), H)) (g79 : ByteArray → ByteArray → Option Int) (hg79 : ∀ (a0 : ByteArray) (a1 : ByteArray) (r : Int) (H : Heap), g79 a0 a1 = some r → evF P (T0 m) n 79 [(.s (.string a0)), (.s (.string a1))] H = some ((.s (.int .i64 r)), H)) (g77 : ByteArray → ByteArray → Option Int) (hg77 : ∀ (a0 : ByteArray) (a1 : ByteArray) (r : Int) (H : Heap), g77 a0 a1 = some r → evF P (T0 m) n 77 [(.s (.string a0)), (.s (.string a1))] H = some ((.s (.int .i64 r)), H)) (g76 : ByteArray → Int → Option Int) (hg76 : ∀ (a0 : ByteArray) (a1 : Int) (r : Int) (H : Heap), g76 a0 a1 = some r → evF P (T0 m) n 76 [(.s (.string a0)), (.s (.int .u8 a1))] H = some ((.s (.int .i64 r)), H)) : ∀ (k : Nat) (s0 : ByteArray) (s1 : ByteArray) (s5 : Int) (s6 : Int) (s7 : Int) (s8 : Int) (s9 : Int) (s10 : Int)  (e : Env) (he : Sat [(0, (.s (.string s0))), (1, (.s (.string s1))), (5, (.s (.int .i64 s5))), (6, (.s (.int .u8 s6))), (7, (.s (.int .u8 s7))), (8, (.s (.int .i64 s8))), (9, (.s (.int .i64 s9))), (10, (.s (.int .i64 s10)))] e) (out : LO Int Unit) (h : ZL73_0 g78 g79 g77 g76 m n k s0 s1 s5 s6 s7 s8 s9 s10 = some out), ∃ x e' h', rdsOf P (T0 m) (evF P (T0 m) n) n 73 0 k e [] = some (x, e', h') ∧ LOQ out (fun r => (fun x e h => x = .ret ∧ ZRetOK73 r e h) x e' h') (fun o => (fun x e h => x = .exit 1 ∧ Sat [] e ∧ h = []) x e' h') := by
  intro k
  induction k with
  | zero => intro _ _ _ _ _ _ _ _ _ _ _ h; cases h
  | succ k ih =>
    intro s0 s1 s5 s6 s7 s8 s9 s10  e he out h
    dsimp only [ZL73_0] at h
    refine rds_step (rd_of (fi := F73) (c73z m) rfl ?_)
    refine Runs.sq ?_
    refine Runs.sq ?_
    refine Runs.region he [] [(0, (.s (.string s0))), (1, (.s (.string s1))), (5, (.s (.int .i64 s5))), (6, (.s (.int .u8 s6))), (7, (.s (.int .u8 s7))), (8, (.s (.int .i64 s8))), (9, (.s (.int .i64 s9))), (10, (.s (.int .i64 s10))), (59, (.s (.bool (decide (s8 < s9)))))] (h := []) (fun env => by kernel_rfl) trivial (fun e59 he58 => ?_)
    refine thenN ?_
    by_cases hb60 : (decide (s8 < s9)) = true
    · rw [if_pos hb60] at h
      refine Runs.cond (he58.get (t := 59) (v := (.s (.bool (decide (s8 < s9))))) (by kernel_rfl)) (fun _ => ?_) (fun h0 => absurd (hb60.symm.trans h0) (by decide))
      refine Runs.skip ?_
      refine thenN ?_
      refine Runs.block ?_
      refine Runs.sq ?_
      refine Runs.sq ?_
      by_cases hg61 : (0 : Int) ≤ s8
      rotate_left
      · rw [if_neg hg61] at h; cases h
      rw [if_pos hg61] at h
      obtain ⟨x63, hx62, h⟩ := Option.bind_eq_some_iff.1 h
      refine Runs.region he58 [(2, .ch s8.toNat x63)] [(0, (.s (.string s0))), (1, (.s (.string s1))), (5, (.s (.int .i64 s5))), (6, (.s (.int .u8 s6))), (7, (.s (.int .u8 s7))), (8, (.s (.int .i64 s8))), (9, (.s (.int .i64 s9))), (10, (.s (.int .i64 s10))), (64, (.s (.bool (!decide ((x63.toNat : Int) = s6)))))] (h := []) (fun env => by kernel_rfl) (And.intro (And.intro (at_nat hg61) hx62) trivial) (fun e65 he64 => ?_)
      refine thenN ?_
      by_cases hb66 : (!decide ((x63.toNat : Int) = s6)) = true
      · rw [if_pos hb66] at h
        refine Runs.cond (he64.get (t := 64) (v := (.s (.bool (!decide ((x63.toNat : Int) = s6))))) (by kernel_rfl)) (fun _ => ?_) (fun h0 => absurd (hb66.symm.trans h0) (by decide))
        refine Runs.sq ?_
        by_cases hg67 : (0 : Int) ≤ (IntKind.i64.wrap (s8 + 1)) ∧ (IntKind.i64.wrap (s8 + 1)) ≤ s9 ∧ s9 ≤ (s0.size : Int)
        rotate_left
        · rw [if_neg hg67] at h; cases h
        rw [if_pos hg67] at h
        obtain ⟨r68, hr69, h⟩ := Option.bind_eq_some_iff.1 h
        refine Runs.region he64 [(4, .cuts ((IntKind.i64.wrap (s8 + 1)).toNat) s9.toNat), (6, .f (.s (.int .i64 r68)) [])] [(0, (.s (.string s0))), (1, (.s (.string s1))), (5, (.s (.int .i64 s5))), (6, (.s (.int .u8 s6))), (7, (.s (.int .u8 s7))), (8, (.s (.int .i64 s8))), (9, (.s (.int .i64 s9))), (10, (.s (.int .i64 s10))), (11, (.s (.int .i64 r68)))] (h := []) (fun env => by kernel_rfl) (And.intro (cuts_ok hg67) (And.intro (hg76 (s0.extract (IntKind.i64.wrap (s8 + 1)).toNat s9.toNat) s6  _ []  hr69) trivial)) (fun e71 he70 => ?_)
        refine thenN ?_
        refine Runs.sq ?_
        refine Runs.sq ?_
        refine Runs.region he70 [] [(0, (.s (.string s0))), (1, (.s (.string s1))), (5, (.s (.int .i64 s5))), (6, (.s (.int .u8 s6))), (7, (.s (.int .u8 s7))), (8, (.s (.int .i64 s8))), (9, (.s (.int .i64 s9))), (10, (.s (.int .i64 s10))), (11, (.s (.int .i64 r68))), (73, (.s (.bool (decide (r68 < 0)))))] (h := []) (fun env => by kernel_rfl) trivial (fun e73 he72 => ?_)
        refine thenN ?_
        by_cases hb74 : (decide (r68 < 0)) = true
        · rw [if_pos hb74] at h
          refine Runs.cond (he72.get (t := 73) (v := (.s (.bool (decide (r68 < 0))))) (by kernel_rfl)) (fun _ => ?_) (fun h0 => absurd (hb74.symm.trans h0) (by decide))
          refine Runs.sq ?_
          refine Runs.region he72 [] [(4, (.s (.int .i64 (-1))))] (h := []) (fun env => by kernel_rfl) trivial (fun e76 he75 => ?_)
          refine thenN ?_
          refine Runs.ret ?_
          refine thenR ?_
          refine thenR ?_
          refine blockR ?_
          refine thenR ?_
          obtain rfl := Option.some.inj h
          exact LOQ.r ⟨rfl, ZRetOK73.of (resT (he75.get (t := 4) (v := (.s (.int .i64 (-1)))) (by kernel_rfl)) resN) (fin_of (fun _ _ _ _ _ h => by cases h) rfl)⟩
        · rw [if_neg hb74] at h
          refine Runs.cond (he72.get (t := 73) (v := (.s (.bool (decide (r68 < 0))))) (by kernel_rfl)) (fun h0 => absurd h0 hb74) (fun _ => ?_)
          refine Runs.skip ?_
          refine thenN ?_
          refine Runs.region he72 [] [(0, (.s (.string s0))), (1, (.s (.string s1))), (5, (.s (.int .i64 s5))), (6, (.s (.int .u8 s6))), (7, (.s (.int .u8 s7))), (8, (.s (.int .i64 (IntKind.i64.wrap (s8 + (IntKind.i64.wrap (r68 + 1))))))), (9, (.s (.int .i64 s9))), (10, (.s (.int .i64 s10)))] (h := []) (fun env => by kernel_rfl) trivial (fun e78 he77 => ?_)
          refine thenN ?_
          refine Runs.sq ?_
          refine Runs.sq ?_
          obtain ⟨v79, hm80, h⟩ := Option.bind_eq_some_iff.1 h
          refine Runs.mono (Q := fun x e h => x = .normal ∧ Sat [(0, (.s (.string s0))), (1, (.s (.string s1))), (5, (.s (.int .i64 s5))), (6, (.s (.int .u8 s6))), (7, (.s (.int .u8 s7))), (8, (.s (.int .i64 (IntKind.i64.wrap (s8 + (IntKind.i64.wrap (r68 + 1))))))), (9, (.s (.int .i64 s9))), (10, (.s (.int .i64 s10))), (93, (.s (.bool v79)))] e ∧ h = []) ?_ ?_
          · by_cases hg81 : (0 : Int) ≤ (IntKind.i64.wrap ((IntKind.i64.wrap (s8 + (IntKind.i64.wrap (r68 + 1)))) + 1))
            rotate_left
            · rw [if_neg hg81] at hm80; cases hm80
            rw [if_pos hg81] at hm80
            obtain ⟨x83, hx82, hm80⟩ := Option.bind_eq_some_iff.1 hm80
            by_cases hb84 : (decide ((x83.toNat : Int) = s7)) = true
            · rw [if_pos hb84] at hm80
              by_cases hg85 : (0 : Int) ≤ (IntKind.i64.wrap (s8 + (IntKind.i64.wrap (r68 + 1)))) ∧ (IntKind.i64.wrap (s8 + (IntKind.i64.wrap (r68 + 1)))) ≤ (IntKind.i64.wrap ((IntKind.i64.wrap (s8 + (IntKind.i64.wrap (r68 + 1)))) + s5)) ∧ (IntKind.i64.wrap ((IntKind.i64.wrap (s8 + (IntKind.i64.wrap (r68 + 1)))) + s5)) ≤ (s0.size : Int)
              rotate_left
              · rw [if_neg hg85] at hm80; cases hm80
              rw [if_pos hg85] at hm80
              obtain rfl := Option.some.inj hm80
              exact Runs.region he77 [(3, .ch ((IntKind.i64.wrap ((IntKind.i64.wrap (s8 + (IntKind.i64.wrap (r68 + 1)))) + 1)).toNat) x83), (6, .b true), (12, .cuts ((IntKind.i64.wrap (s8 + (IntKind.i64.wrap (r68 + 1)))).toNat) ((IntKind.i64.wrap ((IntKind.i64.wrap (s8 + (IntKind.i64.wrap (r68 + 1)))) + s5)).toNat))] [(0, (.s (.string s0))), (1, (.s (.string s1))), (5, (.s (.int .i64 s5))), (6, (.s (.int .u8 s6))), (7, (.s (.int .u8 s7))), (8, (.s (.int .i64 (IntKind.i64.wrap (s8 + (IntKind.i64.wrap (r68 + 1))))))), (9, (.s (.int .i64 s9))), (10, (.s (.int .i64 s10))), (93, (.s (.bool ((s0.extract (IntKind.i64.wrap (s8 + (IntKind.i64.wrap (r68 + 1)))).toNat (IntKind.i64.wrap ((IntKind.i64.wrap (s8 + (IntKind.i64.wrap (r68 + 1)))) + s5)).toNat).toList == (s1 : ByteArray).toList))))] (h := []) (fun env => by kernel_rfl) (And.intro (And.intro (at_nat hg81) hx82) (And.intro hb84 (And.intro (cuts_ok hg85) trivial))) (fun _ h => ⟨rfl, h, rfl⟩)
            · rw [if_neg hb84] at hm80
              obtain rfl := Option.some.inj hm80
              exact Runs.region he77 [(3, .ch ((IntKind.i64.wrap ((IntKind.i64.wrap (s8 + (IntKind.i64.wrap (r68 + 1)))) + 1)).toNat) x83), (6, .b false)] [(0, (.s (.string s0))), (1, (.s (.string s1))), (5, (.s (.int .i64 s5))), (6, (.s (.int .u8 s6))), (7, (.s (.int .u8 s7))), (8, (.s (.int .i64 (IntKind.i64.wrap (s8 + (IntKind.i64.wrap (r68 + 1))))))), (9, (.s (.int .i64 s9))), (10, (.s (.int .i64 s10))), (93, (.s (.bool false)))] (h := []) (fun env => by kernel_rfl) (And.intro (And.intro (at_nat hg81) hx82) (And.intro (Bool.eq_false_iff.2 hb84) trivial)) (fun _ h => ⟨rfl, h, rfl⟩)
          rintro _ e87 h88 ⟨rfl, he86, hh89⟩
          rw [hh89]
          refine thenN ?_
          by_cases hb90 : v79 = true
          · rw [if_pos hb90] at h
            refine Runs.cond (he86.get (t := 93) (v := (.s (.bool v79))) (by kernel_rfl)) (fun _ => ?_) (fun h0 => absurd (hb90.symm.trans h0) (by decide))
            refine Runs.sq ?_
            refine Runs.region he86 [] [(4, (.s (.int .i64 (IntKind.i64.wrap (s8 + (IntKind.i64.wrap (r68 + 1)))))))] (h := []) (fun env => by kernel_rfl) trivial (fun e92 he91 => ?_)
            refine thenN ?_
            refine Runs.ret ?_
            refine thenR ?_
            refine blockR ?_
            refine thenR ?_
            obtain rfl := Option.some.inj h
            exact LOQ.r ⟨rfl, ZRetOK73.of (resT (he91.get (t := 4) (v := (.s (.int .i64 (IntKind.i64.wrap (s8 + (IntKind.i64.wrap (r68 + 1))))))) (by kernel_rfl)) resN) (fin_of (fun _ _ _ _ _ h => by cases h) rfl)⟩
          · rw [if_neg hb90] at h
            refine Runs.cond (he86.get (t := 93) (v := (.s (.bool v79))) (by kernel_rfl)) (fun h0 => absurd h0 hb90) (fun _ => ?_)
            refine Runs.skip ?_
            refine thenN ?_
            refine Runs.sq ?_
            refine Runs.region he86 [] [(0, (.s (.string s0))), (1, (.s (.string s1))), (5, (.s (.int .i64 s5))), (6, (.s (.int .u8 s6))), (7, (.s (.int .u8 s7))), (8, (.s (.int .i64 (IntKind.i64.wrap ((IntKind.i64.wrap (s8 + (IntKind.i64.wrap (r68 + 1)))) + 1))))), (9, (.s (.int .i64 s9))), (10, (.s (.int .i64 s10)))] (h := []) (fun env => by kernel_rfl) trivial (fun e94 he93 => ?_)
            refine thenN ?_
            refine Runs.sq ?_
            refine Runs.region he93 [] [(0, (.s (.string s0))), (1, (.s (.string s1))), (5, (.s (.int .i64 s5))), (6, (.s (.int .u8 s6))), (7, (.s (.int .u8 s7))), (8, (.s (.int .i64 (IntKind.i64.wrap ((IntKind.i64.wrap (s8 + (IntKind.i64.wrap (r68 + 1)))) + 1))))), (9, (.s (.int .i64 s9))), (10, (.s (.int .i64 (IntKind.i64.wrap (s10 + 1)))))] (h := []) (fun env => by kernel_rfl) trivial (fun e96 he95 => ?_)
            refine thenN ?_
            refine Runs.sq ?_
            obtain ⟨v97, hm98, h⟩ := Option.bind_eq_some_iff.1 h
            refine Runs.mono (Q := fun x e h => x = .normal ∧ Sat [(0, (.s (.string s0))), (1, (.s (.string s1))), (5, (.s (.int .i64 s5))), (6, (.s (.int .u8 s6))), (7, (.s (.int .u8 s7))), (8, (.s (.int .i64 (IntKind.i64.wrap ((IntKind.i64.wrap (s8 + (IntKind.i64.wrap (r68 + 1)))) + 1))))), (9, (.s (.int .i64 s9))), (10, (.s (.int .i64 (IntKind.i64.wrap (s10 + 1))))), (107, (.s (.bool v97)))] e ∧ h = []) ?_ ?_
            · by_cases hb99 : (decide (s5 ≤ m)) = true
              · rw [if_pos hb99] at hm98
                obtain ⟨r100, hr101, hm98⟩ := Option.bind_eq_some_iff.1 hm98
                obtain rfl := Option.some.inj hm98
                exact Runs.region he95 [(3, .b true), (6, .f (.s (.int .i64 r100)) [])] [(0, (.s (.string s0))), (1, (.s (.string s1))), (5, (.s (.int .i64 s5))), (6, (.s (.int .u8 s6))), (7, (.s (.int .u8 s7))), (8, (.s (.int .i64 (IntKind.i64.wrap ((IntKind.i64.wrap (s8 + (IntKind.i64.wrap (r68 + 1)))) + 1))))), (9, (.s (.int .i64 s9))), (10, (.s (.int .i64 (IntKind.i64.wrap (s10 + 1))))), (107, (.s (.bool (decide (r100 < (IntKind.i64.wrap (s10 + 1)))))))] (h := []) (fun env => by kernel_rfl) (And.intro hb99 (And.intro (hg78 (IntKind.i64.wrap ((IntKind.i64.wrap (s8 + (IntKind.i64.wrap (r68 + 1)))) + 1))  _ []  hr101) trivial)) (fun _ h => ⟨rfl, h, rfl⟩)
              · rw [if_neg hb99] at hm98
                obtain rfl := Option.some.inj hm98
                exact Runs.region he95 [(3, .b false)] [(0, (.s (.string s0))), (1, (.s (.string s1))), (5, (.s (.int .i64 s5))), (6, (.s (.int .u8 s6))), (7, (.s (.int .u8 s7))), (8, (.s (.int .i64 (IntKind.i64.wrap ((IntKind.i64.wrap (s8 + (IntKind.i64.wrap (r68 + 1)))) + 1))))), (9, (.s (.int .i64 s9))), (10, (.s (.int .i64 (IntKind.i64.wrap (s10 + 1))))), (107, (.s (.bool false)))] (h := []) (fun env => by kernel_rfl) (And.intro (Bool.eq_false_iff.2 hb99) trivial) (fun _ h => ⟨rfl, h, rfl⟩)
            rintro _ e103 h104 ⟨rfl, he102, hh105⟩
            rw [hh105]
            refine thenN ?_
            by_cases hb106 : v97 = true
            · rw [if_pos hb106] at h
              refine Runs.cond (he102.get (t := 107) (v := (.s (.bool v97))) (by kernel_rfl)) (fun _ => ?_) (fun h0 => absurd (hb106.symm.trans h0) (by decide))
              refine Runs.sq ?_
              by_cases hg107 : (0 : Int) ≤ (IntKind.i64.wrap ((IntKind.i64.wrap (s8 + (IntKind.i64.wrap (r68 + 1)))) + 1)) ∧ (IntKind.i64.wrap ((IntKind.i64.wrap (s8 + (IntKind.i64.wrap (r68 + 1)))) + 1)) ≤ (s0.size : Int) ∧ (s0.size : Int) ≤ (s0.size : Int)
              rotate_left
              · rw [if_neg hg107] at h; cases h
              rw [if_pos hg107] at h
              obtain ⟨r108, hr109, h⟩ := Option.bind_eq_some_iff.1 h
              refine Runs.region he102 [(2, .cuts ((IntKind.i64.wrap ((IntKind.i64.wrap (s8 + (IntKind.i64.wrap (r68 + 1)))) + 1)).toNat) ((s0.size : Int).toNat)), (4, .f (.s (.int .i64 r108)) [])] [(8, (.s (.int .i64 (IntKind.i64.wrap ((IntKind.i64.wrap (s8 + (IntKind.i64.wrap (r68 + 1)))) + 1))))), (12, (.s (.int .i64 r108)))] (h := []) (fun env => by kernel_rfl) (And.intro (cuts_ok hg107) (And.intro (hg77 (s0.extract (IntKind.i64.wrap ((IntKind.i64.wrap (s8 + (IntKind.i64.wrap (r68 + 1)))) + 1)).toNat (s0.size : Int).toNat) s1  _ []  hr109) trivial)) (fun e111 he110 => ?_)
              refine thenN ?_
              refine Runs.sq ?_
              refine Runs.sq ?_
              refine Runs.region he110 [] [(8, (.s (.int .i64 (IntKind.i64.wrap ((IntKind.i64.wrap (s8 + (IntKind.i64.wrap (r68 + 1)))) + 1))))), (12, (.s (.int .i64 r108))), (114, (.s (.bool (decide (0 ≤ r108)))))] (h := []) (fun env => by kernel_rfl) trivial (fun e113 he112 => ?_)
              refine thenN ?_
              by_cases hb114 : (decide (0 ≤ r108)) = true
              · rw [if_pos hb114] at h
                refine Runs.cond (he112.get (t := 114) (v := (.s (.bool (decide (0 ≤ r108))))) (by kernel_rfl)) (fun _ => ?_) (fun h0 => absurd (hb114.symm.trans h0) (by decide))
                refine Runs.sq ?_
                refine Runs.region he112 [] [(4, (.s (.int .i64 (IntKind.i64.wrap (r108 + (IntKind.i64.wrap ((IntKind.i64.wrap (s8 + (IntKind.i64.wrap (r68 + 1)))) + 1)))))))] (h := []) (fun env => by kernel_rfl) trivial (fun e116 he115 => ?_)
                refine thenN ?_
                refine Runs.ret ?_
                refine thenR ?_
                refine blockR ?_
                refine thenR ?_
                obtain rfl := Option.some.inj h
                exact LOQ.r ⟨rfl, ZRetOK73.of (resT (he115.get (t := 4) (v := (.s (.int .i64 (IntKind.i64.wrap (r108 + (IntKind.i64.wrap ((IntKind.i64.wrap (s8 + (IntKind.i64.wrap (r68 + 1)))) + 1))))))) (by kernel_rfl)) resN) (fin_of (fun _ _ _ _ _ h => by cases h) rfl)⟩
              · rw [if_neg hb114] at h
                refine Runs.cond (he112.get (t := 114) (v := (.s (.bool (decide (0 ≤ r108))))) (by kernel_rfl)) (fun h0 => absurd h0 hb114) (fun _ => ?_)
                refine Runs.skip ?_
                refine thenN ?_
                refine Runs.sq ?_
                refine Runs.region he112 [] [(4, (.s (.int .i64 (-1))))] (h := []) (fun env => by kernel_rfl) trivial (fun e118 he117 => ?_)
                refine thenN ?_
                refine Runs.ret ?_
                refine blockR ?_
                refine thenR ?_
                obtain rfl := Option.some.inj h
                exact LOQ.r ⟨rfl, ZRetOK73.of (resT (he117.get (t := 4) (v := (.s (.int .i64 (-1)))) (by kernel_rfl)) resN) (fin_of (fun _ _ _ _ _ h => by cases h) rfl)⟩
            · rw [if_neg hb106] at h
              refine Runs.cond (he102.get (t := 107) (v := (.s (.bool v97))) (by kernel_rfl)) (fun h0 => absurd h0 hb106) (fun _ => ?_)
              refine Runs.sq ?_
              obtain ⟨v119, hm120, h⟩ := Option.bind_eq_some_iff.1 h
              refine Runs.mono (Q := fun x e h => x = .normal ∧ Sat [(0, (.s (.string s0))), (1, (.s (.string s1))), (5, (.s (.int .i64 s5))), (6, (.s (.int .u8 s6))), (7, (.s (.int .u8 s7))), (8, (.s (.int .i64 (IntKind.i64.wrap ((IntKind.i64.wrap (s8 + (IntKind.i64.wrap (r68 + 1)))) + 1))))), (9, (.s (.int .i64 s9))), (10, (.s (.int .i64 (IntKind.i64.wrap (s10 + 1))))), (132, (.s (.bool v119)))] e ∧ h = []) ?_ ?_
              · by_cases hb121 : (decide (m < s5)) = true
                · rw [if_pos hb121] at hm120
                  by_cases hb122 : (decide ((IntKind.i64.wrap (4 + (shrA .i64 (IntKind.i64.wrap ((IntKind.i64.wrap (s8 + (IntKind.i64.wrap (r68 + 1)))) + 1)) 4))) ≤ (IntKind.i64.wrap (s10 + 1)))) = true
                  · rw [if_pos hb122] at hm120
                    obtain rfl := Option.some.inj hm120
                    exact Runs.region he102 [(3, .b true), (10, .b true)] [(0, (.s (.string s0))), (1, (.s (.string s1))), (5, (.s (.int .i64 s5))), (6, (.s (.int .u8 s6))), (7, (.s (.int .u8 s7))), (8, (.s (.int .i64 (IntKind.i64.wrap ((IntKind.i64.wrap (s8 + (IntKind.i64.wrap (r68 + 1)))) + 1))))), (9, (.s (.int .i64 s9))), (10, (.s (.int .i64 (IntKind.i64.wrap (s10 + 1))))), (132, (.s (.bool (decide ((IntKind.i64.wrap ((IntKind.i64.wrap (s8 + (IntKind.i64.wrap (r68 + 1)))) + 1)) < s9)))))] (h := []) (fun env => by kernel_rfl) (And.intro hb121 (And.intro hb122 trivial)) (fun _ h => ⟨rfl, h, rfl⟩)
                  · rw [if_neg hb122] at hm120
                    obtain rfl := Option.some.inj hm120
                    exact Runs.region he102 [(3, .b true), (10, .b false)] [(0, (.s (.string s0))), (1, (.s (.string s1))), (5, (.s (.int .i64 s5))), (6, (.s (.int .u8 s6))), (7, (.s (.int .u8 s7))), (8, (.s (.int .i64 (IntKind.i64.wrap ((IntKind.i64.wrap (s8 + (IntKind.i64.wrap (r68 + 1)))) + 1))))), (9, (.s (.int .i64 s9))), (10, (.s (.int .i64 (IntKind.i64.wrap (s10 + 1))))), (132, (.s (.bool false)))] (h := []) (fun env => by kernel_rfl) (And.intro hb121 (And.intro (Bool.eq_false_iff.2 hb122) trivial)) (fun _ h => ⟨rfl, h, rfl⟩)
                · rw [if_neg hb121] at hm120
                  obtain rfl := Option.some.inj hm120
                  exact Runs.region he102 [(3, .b false)] [(0, (.s (.string s0))), (1, (.s (.string s1))), (5, (.s (.int .i64 s5))), (6, (.s (.int .u8 s6))), (7, (.s (.int .u8 s7))), (8, (.s (.int .i64 (IntKind.i64.wrap ((IntKind.i64.wrap (s8 + (IntKind.i64.wrap (r68 + 1)))) + 1))))), (9, (.s (.int .i64 s9))), (10, (.s (.int .i64 (IntKind.i64.wrap (s10 + 1))))), (132, (.s (.bool false)))] (h := []) (fun env => by kernel_rfl) (And.intro (Bool.eq_false_iff.2 hb121) trivial) (fun _ h => ⟨rfl, h, rfl⟩)
              rintro _ e124 h125 ⟨rfl, he123, hh126⟩
              rw [hh126]
              refine thenN ?_
              by_cases hb127 : v119 = true
              · rw [if_pos hb127] at h
                refine Runs.cond (he123.get (t := 132) (v := (.s (.bool v119))) (by kernel_rfl)) (fun _ => ?_) (fun h0 => absurd (hb127.symm.trans h0) (by decide))
                refine Runs.sq ?_
                by_cases hg128 : (0 : Int) ≤ (IntKind.i64.wrap ((IntKind.i64.wrap (s8 + (IntKind.i64.wrap (r68 + 1)))) + 1)) ∧ (IntKind.i64.wrap ((IntKind.i64.wrap (s8 + (IntKind.i64.wrap (r68 + 1)))) + 1)) ≤ (s0.size : Int) ∧ (s0.size : Int) ≤ (s0.size : Int)
                rotate_left
                · rw [if_neg hg128] at h; cases h
                rw [if_pos hg128] at h
                obtain ⟨r129, hr130, h⟩ := Option.bind_eq_some_iff.1 h
                refine Runs.region he123 [(2, .cuts ((IntKind.i64.wrap ((IntKind.i64.wrap (s8 + (IntKind.i64.wrap (r68 + 1)))) + 1)).toNat) ((s0.size : Int).toNat)), (4, .f (.s (.int .i64 r129)) [])] [(8, (.s (.int .i64 (IntKind.i64.wrap ((IntKind.i64.wrap (s8 + (IntKind.i64.wrap (r68 + 1)))) + 1))))), (13, (.s (.int .i64 r129)))] (h := []) (fun env => by kernel_rfl) (And.intro (cuts_ok hg128) (And.intro (hg79 (s0.extract (IntKind.i64.wrap ((IntKind.i64.wrap (s8 + (IntKind.i64.wrap (r68 + 1)))) + 1)).toNat (s0.size : Int).toNat) s1  _ []  hr130) trivial)) (fun e132 he131 => ?_)
                refine thenN ?_
                refine Runs.sq ?_
                refine Runs.sq ?_
                refine Runs.region he131 [] [(8, (.s (.int .i64 (IntKind.i64.wrap ((IntKind.i64.wrap (s8 + (IntKind.i64.wrap (r68 + 1)))) + 1))))), (13, (.s (.int .i64 r129))), (139, (.s (.bool (decide (r129 < 0)))))] (h := []) (fun env => by kernel_rfl) trivial (fun e134 he133 => ?_)
                refine thenN ?_
                by_cases hb135 : (decide (r129 < 0)) = true
                · rw [if_pos hb135] at h
                  refine Runs.cond (he133.get (t := 139) (v := (.s (.bool (decide (r129 < 0))))) (by kernel_rfl)) (fun _ => ?_) (fun h0 => absurd (hb135.symm.trans h0) (by decide))
                  refine Runs.sq ?_
                  refine Runs.region he133 [] [(4, (.s (.int .i64 (-1))))] (h := []) (fun env => by kernel_rfl) trivial (fun e137 he136 => ?_)
                  refine thenN ?_
                  refine Runs.ret ?_
                  refine thenR ?_
                  refine blockR ?_
                  refine thenR ?_
                  obtain rfl := Option.some.inj h
                  exact LOQ.r ⟨rfl, ZRetOK73.of (resT (he136.get (t := 4) (v := (.s (.int .i64 (-1)))) (by kernel_rfl)) resN) (fin_of (fun _ _ _ _ _ h => by cases h) rfl)⟩
                · rw [if_neg hb135] at h
                  refine Runs.cond (he133.get (t := 139) (v := (.s (.bool (decide (r129 < 0))))) (by kernel_rfl)) (fun h0 => absurd h0 hb135) (fun _ => ?_)
                  refine Runs.skip ?_
                  refine thenN ?_
                  refine Runs.sq ?_
                  refine Runs.region he133 [] [(4, (.s (.int .i64 (IntKind.i64.wrap ((IntKind.i64.wrap ((IntKind.i64.wrap (s8 + (IntKind.i64.wrap (r68 + 1)))) + 1)) + r129)))))] (h := []) (fun env => by kernel_rfl) trivial (fun e139 he138 => ?_)
                  refine thenN ?_
                  refine Runs.ret ?_
                  refine blockR ?_
                  refine thenR ?_
                  obtain rfl := Option.some.inj h
                  exact LOQ.r ⟨rfl, ZRetOK73.of (resT (he138.get (t := 4) (v := (.s (.int .i64 (IntKind.i64.wrap ((IntKind.i64.wrap ((IntKind.i64.wrap (s8 + (IntKind.i64.wrap (r68 + 1)))) + 1)) + r129))))) (by kernel_rfl)) resN) (fin_of (fun _ _ _ _ _ h => by cases h) rfl)⟩
              · rw [if_neg hb127] at h
                refine Runs.cond (he123.get (t := 132) (v := (.s (.bool v119))) (by kernel_rfl)) (fun h0 => absurd h0 hb127) (fun _ => ?_)
                refine Runs.skip ?_
                refine blockN ?_
                refine thenN ?_
                exact ih s0 s1 s5 s6 s7 (IntKind.i64.wrap ((IntKind.i64.wrap (s8 + (IntKind.i64.wrap (r68 + 1)))) + 1)) s9 (IntKind.i64.wrap (s10 + 1))  _ (he123.sub (by kernel_rfl)) _ h
      · rw [if_neg hb66] at h
        refine Runs.cond (he64.get (t := 64) (v := (.s (.bool (!decide ((x63.toNat : Int) = s6))))) (by kernel_rfl)) (fun h0 => absurd h0 hb66) (fun _ => ?_)
        refine Runs.skip ?_
        refine thenN ?_
        refine Runs.sq ?_
        refine Runs.sq ?_
        obtain ⟨v140, hm141, h⟩ := Option.bind_eq_some_iff.1 h
        refine Runs.mono (Q := fun x e h => x = .normal ∧ Sat [(0, (.s (.string s0))), (1, (.s (.string s1))), (5, (.s (.int .i64 s5))), (6, (.s (.int .u8 s6))), (7, (.s (.int .u8 s7))), (8, (.s (.int .i64 s8))), (9, (.s (.int .i64 s9))), (10, (.s (.int .i64 s10))), (93, (.s (.bool v140)))] e ∧ h = []) ?_ ?_
        · by_cases hg142 : (0 : Int) ≤ (IntKind.i64.wrap (s8 + 1))
          rotate_left
          · rw [if_neg hg142] at hm141; cases hm141
          rw [if_pos hg142] at hm141
          obtain ⟨x144, hx143, hm141⟩ := Option.bind_eq_some_iff.1 hm141
          by_cases hb145 : (decide ((x144.toNat : Int) = s7)) = true
          · rw [if_pos hb145] at hm141
            by_cases hg146 : (0 : Int) ≤ s8 ∧ s8 ≤ (IntKind.i64.wrap (s8 + s5)) ∧ (IntKind.i64.wrap (s8 + s5)) ≤ (s0.size : Int)
            rotate_left
            · rw [if_neg hg146] at hm141; cases hm141
            rw [if_pos hg146] at hm141
            obtain rfl := Option.some.inj hm141
            exact Runs.region he64 [(3, .ch ((IntKind.i64.wrap (s8 + 1)).toNat) x144), (6, .b true), (12, .cuts s8.toNat ((IntKind.i64.wrap (s8 + s5)).toNat))] [(0, (.s (.string s0))), (1, (.s (.string s1))), (5, (.s (.int .i64 s5))), (6, (.s (.int .u8 s6))), (7, (.s (.int .u8 s7))), (8, (.s (.int .i64 s8))), (9, (.s (.int .i64 s9))), (10, (.s (.int .i64 s10))), (93, (.s (.bool ((s0.extract s8.toNat (IntKind.i64.wrap (s8 + s5)).toNat).toList == (s1 : ByteArray).toList))))] (h := []) (fun env => by kernel_rfl) (And.intro (And.intro (at_nat hg142) hx143) (And.intro hb145 (And.intro (cuts_ok hg146) trivial))) (fun _ h => ⟨rfl, h, rfl⟩)
          · rw [if_neg hb145] at hm141
            obtain rfl := Option.some.inj hm141
            exact Runs.region he64 [(3, .ch ((IntKind.i64.wrap (s8 + 1)).toNat) x144), (6, .b false)] [(0, (.s (.string s0))), (1, (.s (.string s1))), (5, (.s (.int .i64 s5))), (6, (.s (.int .u8 s6))), (7, (.s (.int .u8 s7))), (8, (.s (.int .i64 s8))), (9, (.s (.int .i64 s9))), (10, (.s (.int .i64 s10))), (93, (.s (.bool false)))] (h := []) (fun env => by kernel_rfl) (And.intro (And.intro (at_nat hg142) hx143) (And.intro (Bool.eq_false_iff.2 hb145) trivial)) (fun _ h => ⟨rfl, h, rfl⟩)
        rintro _ e148 h149 ⟨rfl, he147, hh150⟩
        rw [hh150]
        refine thenN ?_
        by_cases hb151 : v140 = true
        · rw [if_pos hb151] at h
          refine Runs.cond (he147.get (t := 93) (v := (.s (.bool v140))) (by kernel_rfl)) (fun _ => ?_) (fun h0 => absurd (hb151.symm.trans h0) (by decide))
          refine Runs.sq ?_
          refine Runs.region he147 [] [(4, (.s (.int .i64 s8)))] (h := []) (fun env => by kernel_rfl) trivial (fun e153 he152 => ?_)
          refine thenN ?_
          refine Runs.ret ?_
          refine thenR ?_
          refine blockR ?_
          refine thenR ?_
          obtain rfl := Option.some.inj h
          exact LOQ.r ⟨rfl, ZRetOK73.of (resT (he152.get (t := 4) (v := (.s (.int .i64 s8))) (by kernel_rfl)) resN) (fin_of (fun _ _ _ _ _ h => by cases h) rfl)⟩
        · rw [if_neg hb151] at h
          refine Runs.cond (he147.get (t := 93) (v := (.s (.bool v140))) (by kernel_rfl)) (fun h0 => absurd h0 hb151) (fun _ => ?_)
          refine Runs.skip ?_
          refine thenN ?_
          refine Runs.sq ?_
          refine Runs.region he147 [] [(0, (.s (.string s0))), (1, (.s (.string s1))), (5, (.s (.int .i64 s5))), (6, (.s (.int .u8 s6))), (7, (.s (.int .u8 s7))), (8, (.s (.int .i64 (IntKind.i64.wrap (s8 + 1))))), (9, (.s (.int .i64 s9))), (10, (.s (.int .i64 s10)))] (h := []) (fun env => by kernel_rfl) trivial (fun e155 he154 => ?_)
          refine thenN ?_
          refine Runs.sq ?_
          refine Runs.region he154 [] [(0, (.s (.string s0))), (1, (.s (.string s1))), (5, (.s (.int .i64 s5))), (6, (.s (.int .u8 s6))), (7, (.s (.int .u8 s7))), (8, (.s (.int .i64 (IntKind.i64.wrap (s8 + 1))))), (9, (.s (.int .i64 s9))), (10, (.s (.int .i64 (IntKind.i64.wrap (s10 + 1)))))] (h := []) (fun env => by kernel_rfl) trivial (fun e157 he156 => ?_)
          refine thenN ?_
          refine Runs.sq ?_
          obtain ⟨v158, hm159, h⟩ := Option.bind_eq_some_iff.1 h
          refine Runs.mono (Q := fun x e h => x = .normal ∧ Sat [(0, (.s (.string s0))), (1, (.s (.string s1))), (5, (.s (.int .i64 s5))), (6, (.s (.int .u8 s6))), (7, (.s (.int .u8 s7))), (8, (.s (.int .i64 (IntKind.i64.wrap (s8 + 1))))), (9, (.s (.int .i64 s9))), (10, (.s (.int .i64 (IntKind.i64.wrap (s10 + 1))))), (107, (.s (.bool v158)))] e ∧ h = []) ?_ ?_
          · by_cases hb160 : (decide (s5 ≤ m)) = true
            · rw [if_pos hb160] at hm159
              obtain ⟨r161, hr162, hm159⟩ := Option.bind_eq_some_iff.1 hm159
              obtain rfl := Option.some.inj hm159
              exact Runs.region he156 [(3, .b true), (6, .f (.s (.int .i64 r161)) [])] [(0, (.s (.string s0))), (1, (.s (.string s1))), (5, (.s (.int .i64 s5))), (6, (.s (.int .u8 s6))), (7, (.s (.int .u8 s7))), (8, (.s (.int .i64 (IntKind.i64.wrap (s8 + 1))))), (9, (.s (.int .i64 s9))), (10, (.s (.int .i64 (IntKind.i64.wrap (s10 + 1))))), (107, (.s (.bool (decide (r161 < (IntKind.i64.wrap (s10 + 1)))))))] (h := []) (fun env => by kernel_rfl) (And.intro hb160 (And.intro (hg78 (IntKind.i64.wrap (s8 + 1))  _ []  hr162) trivial)) (fun _ h => ⟨rfl, h, rfl⟩)
            · rw [if_neg hb160] at hm159
              obtain rfl := Option.some.inj hm159
              exact Runs.region he156 [(3, .b false)] [(0, (.s (.string s0))), (1, (.s (.string s1))), (5, (.s (.int .i64 s5))), (6, (.s (.int .u8 s6))), (7, (.s (.int .u8 s7))), (8, (.s (.int .i64 (IntKind.i64.wrap (s8 + 1))))), (9, (.s (.int .i64 s9))), (10, (.s (.int .i64 (IntKind.i64.wrap (s10 + 1))))), (107, (.s (.bool false)))] (h := []) (fun env => by kernel_rfl) (And.intro (Bool.eq_false_iff.2 hb160) trivial) (fun _ h => ⟨rfl, h, rfl⟩)
          rintro _ e164 h165 ⟨rfl, he163, hh166⟩
          rw [hh166]
          refine thenN ?_
          by_cases hb167 : v158 = true
          · rw [if_pos hb167] at h
            refine Runs.cond (he163.get (t := 107) (v := (.s (.bool v158))) (by kernel_rfl)) (fun _ => ?_) (fun h0 => absurd (hb167.symm.trans h0) (by decide))
            refine Runs.sq ?_
            by_cases hg168 : (0 : Int) ≤ (IntKind.i64.wrap (s8 + 1)) ∧ (IntKind.i64.wrap (s8 + 1)) ≤ (s0.size : Int) ∧ (s0.size : Int) ≤ (s0.size : Int)
            rotate_left
            · rw [if_neg hg168] at h; cases h
            rw [if_pos hg168] at h
            obtain ⟨r169, hr170, h⟩ := Option.bind_eq_some_iff.1 h
            refine Runs.region he163 [(2, .cuts ((IntKind.i64.wrap (s8 + 1)).toNat) ((s0.size : Int).toNat)), (4, .f (.s (.int .i64 r169)) [])] [(8, (.s (.int .i64 (IntKind.i64.wrap (s8 + 1))))), (12, (.s (.int .i64 r169)))] (h := []) (fun env => by kernel_rfl) (And.intro (cuts_ok hg168) (And.intro (hg77 (s0.extract (IntKind.i64.wrap (s8 + 1)).toNat (s0.size : Int).toNat) s1  _ []  hr170) trivial)) (fun e172 he171 => ?_)
            refine thenN ?_
            refine Runs.sq ?_
            refine Runs.sq ?_
            refine Runs.region he171 [] [(8, (.s (.int .i64 (IntKind.i64.wrap (s8 + 1))))), (12, (.s (.int .i64 r169))), (114, (.s (.bool (decide (0 ≤ r169)))))] (h := []) (fun env => by kernel_rfl) trivial (fun e174 he173 => ?_)
            refine thenN ?_
            by_cases hb175 : (decide (0 ≤ r169)) = true
            · rw [if_pos hb175] at h
              refine Runs.cond (he173.get (t := 114) (v := (.s (.bool (decide (0 ≤ r169))))) (by kernel_rfl)) (fun _ => ?_) (fun h0 => absurd (hb175.symm.trans h0) (by decide))
              refine Runs.sq ?_
              refine Runs.region he173 [] [(4, (.s (.int .i64 (IntKind.i64.wrap (r169 + (IntKind.i64.wrap (s8 + 1)))))))] (h := []) (fun env => by kernel_rfl) trivial (fun e177 he176 => ?_)
              refine thenN ?_
              refine Runs.ret ?_
              refine thenR ?_
              refine blockR ?_
              refine thenR ?_
              obtain rfl := Option.some.inj h
              exact LOQ.r ⟨rfl, ZRetOK73.of (resT (he176.get (t := 4) (v := (.s (.int .i64 (IntKind.i64.wrap (r169 + (IntKind.i64.wrap (s8 + 1))))))) (by kernel_rfl)) resN) (fin_of (fun _ _ _ _ _ h => by cases h) rfl)⟩
            · rw [if_neg hb175] at h
              refine Runs.cond (he173.get (t := 114) (v := (.s (.bool (decide (0 ≤ r169))))) (by kernel_rfl)) (fun h0 => absurd h0 hb175) (fun _ => ?_)
              refine Runs.skip ?_
              refine thenN ?_
              refine Runs.sq ?_
              refine Runs.region he173 [] [(4, (.s (.int .i64 (-1))))] (h := []) (fun env => by kernel_rfl) trivial (fun e179 he178 => ?_)
              refine thenN ?_
              refine Runs.ret ?_
              refine blockR ?_
              refine thenR ?_
              obtain rfl := Option.some.inj h
              exact LOQ.r ⟨rfl, ZRetOK73.of (resT (he178.get (t := 4) (v := (.s (.int .i64 (-1)))) (by kernel_rfl)) resN) (fin_of (fun _ _ _ _ _ h => by cases h) rfl)⟩
          · rw [if_neg hb167] at h
            refine Runs.cond (he163.get (t := 107) (v := (.s (.bool v158))) (by kernel_rfl)) (fun h0 => absurd h0 hb167) (fun _ => ?_)
            refine Runs.sq ?_
            obtain ⟨v180, hm181, h⟩ := Option.bind_eq_some_iff.1 h
            refine Runs.mono (Q := fun x e h => x = .normal ∧ Sat [(0, (.s (.string s0))), (1, (.s (.string s1))), (5, (.s (.int .i64 s5))), (6, (.s (.int .u8 s6))), (7, (.s (.int .u8 s7))), (8, (.s (.int .i64 (IntKind.i64.wrap (s8 + 1))))), (9, (.s (.int .i64 s9))), (10, (.s (.int .i64 (IntKind.i64.wrap (s10 + 1))))), (132, (.s (.bool v180)))] e ∧ h = []) ?_ ?_
            · by_cases hb182 : (decide (m < s5)) = true
              · rw [if_pos hb182] at hm181
                by_cases hb183 : (decide ((IntKind.i64.wrap (4 + (shrA .i64 (IntKind.i64.wrap (s8 + 1)) 4))) ≤ (IntKind.i64.wrap (s10 + 1)))) = true
                · rw [if_pos hb183] at hm181
                  obtain rfl := Option.some.inj hm181
                  exact Runs.region he163 [(3, .b true), (10, .b true)] [(0, (.s (.string s0))), (1, (.s (.string s1))), (5, (.s (.int .i64 s5))), (6, (.s (.int .u8 s6))), (7, (.s (.int .u8 s7))), (8, (.s (.int .i64 (IntKind.i64.wrap (s8 + 1))))), (9, (.s (.int .i64 s9))), (10, (.s (.int .i64 (IntKind.i64.wrap (s10 + 1))))), (132, (.s (.bool (decide ((IntKind.i64.wrap (s8 + 1)) < s9)))))] (h := []) (fun env => by kernel_rfl) (And.intro hb182 (And.intro hb183 trivial)) (fun _ h => ⟨rfl, h, rfl⟩)
                · rw [if_neg hb183] at hm181
                  obtain rfl := Option.some.inj hm181
                  exact Runs.region he163 [(3, .b true), (10, .b false)] [(0, (.s (.string s0))), (1, (.s (.string s1))), (5, (.s (.int .i64 s5))), (6, (.s (.int .u8 s6))), (7, (.s (.int .u8 s7))), (8, (.s (.int .i64 (IntKind.i64.wrap (s8 + 1))))), (9, (.s (.int .i64 s9))), (10, (.s (.int .i64 (IntKind.i64.wrap (s10 + 1))))), (132, (.s (.bool false)))] (h := []) (fun env => by kernel_rfl) (And.intro hb182 (And.intro (Bool.eq_false_iff.2 hb183) trivial)) (fun _ h => ⟨rfl, h, rfl⟩)
              · rw [if_neg hb182] at hm181
                obtain rfl := Option.some.inj hm181
                exact Runs.region he163 [(3, .b false)] [(0, (.s (.string s0))), (1, (.s (.string s1))), (5, (.s (.int .i64 s5))), (6, (.s (.int .u8 s6))), (7, (.s (.int .u8 s7))), (8, (.s (.int .i64 (IntKind.i64.wrap (s8 + 1))))), (9, (.s (.int .i64 s9))), (10, (.s (.int .i64 (IntKind.i64.wrap (s10 + 1))))), (132, (.s (.bool false)))] (h := []) (fun env => by kernel_rfl) (And.intro (Bool.eq_false_iff.2 hb182) trivial) (fun _ h => ⟨rfl, h, rfl⟩)
            rintro _ e185 h186 ⟨rfl, he184, hh187⟩
            rw [hh187]
            refine thenN ?_
            by_cases hb188 : v180 = true
            · rw [if_pos hb188] at h
              refine Runs.cond (he184.get (t := 132) (v := (.s (.bool v180))) (by kernel_rfl)) (fun _ => ?_) (fun h0 => absurd (hb188.symm.trans h0) (by decide))
              refine Runs.sq ?_
              by_cases hg189 : (0 : Int) ≤ (IntKind.i64.wrap (s8 + 1)) ∧ (IntKind.i64.wrap (s8 + 1)) ≤ (s0.size : Int) ∧ (s0.size : Int) ≤ (s0.size : Int)
              rotate_left
              · rw [if_neg hg189] at h; cases h
              rw [if_pos hg189] at h
              obtain ⟨r190, hr191, h⟩ := Option.bind_eq_some_iff.1 h
              refine Runs.region he184 [(2, .cuts ((IntKind.i64.wrap (s8 + 1)).toNat) ((s0.size : Int).toNat)), (4, .f (.s (.int .i64 r190)) [])] [(8, (.s (.int .i64 (IntKind.i64.wrap (s8 + 1))))), (13, (.s (.int .i64 r190)))] (h := []) (fun env => by kernel_rfl) (And.intro (cuts_ok hg189) (And.intro (hg79 (s0.extract (IntKind.i64.wrap (s8 + 1)).toNat (s0.size : Int).toNat) s1  _ []  hr191) trivial)) (fun e193 he192 => ?_)
              refine thenN ?_
              refine Runs.sq ?_
              refine Runs.sq ?_
              refine Runs.region he192 [] [(8, (.s (.int .i64 (IntKind.i64.wrap (s8 + 1))))), (13, (.s (.int .i64 r190))), (139, (.s (.bool (decide (r190 < 0)))))] (h := []) (fun env => by kernel_rfl) trivial (fun e195 he194 => ?_)
              refine thenN ?_
              by_cases hb196 : (decide (r190 < 0)) = true
              · rw [if_pos hb196] at h
                refine Runs.cond (he194.get (t := 139) (v := (.s (.bool (decide (r190 < 0))))) (by kernel_rfl)) (fun _ => ?_) (fun h0 => absurd (hb196.symm.trans h0) (by decide))
                refine Runs.sq ?_
                refine Runs.region he194 [] [(4, (.s (.int .i64 (-1))))] (h := []) (fun env => by kernel_rfl) trivial (fun e198 he197 => ?_)
                refine thenN ?_
                refine Runs.ret ?_
                refine thenR ?_
                refine blockR ?_
                refine thenR ?_
                obtain rfl := Option.some.inj h
                exact LOQ.r ⟨rfl, ZRetOK73.of (resT (he197.get (t := 4) (v := (.s (.int .i64 (-1)))) (by kernel_rfl)) resN) (fin_of (fun _ _ _ _ _ h => by cases h) rfl)⟩
              · rw [if_neg hb196] at h
                refine Runs.cond (he194.get (t := 139) (v := (.s (.bool (decide (r190 < 0))))) (by kernel_rfl)) (fun h0 => absurd h0 hb196) (fun _ => ?_)
                refine Runs.skip ?_
                refine thenN ?_
                refine Runs.sq ?_
                refine Runs.region he194 [] [(4, (.s (.int .i64 (IntKind.i64.wrap ((IntKind.i64.wrap (s8 + 1)) + r190)))))] (h := []) (fun env => by kernel_rfl) trivial (fun e200 he199 => ?_)
                refine thenN ?_
                refine Runs.ret ?_
                refine blockR ?_
                refine thenR ?_
                obtain rfl := Option.some.inj h
                exact LOQ.r ⟨rfl, ZRetOK73.of (resT (he199.get (t := 4) (v := (.s (.int .i64 (IntKind.i64.wrap ((IntKind.i64.wrap (s8 + 1)) + r190))))) (by kernel_rfl)) resN) (fin_of (fun _ _ _ _ _ h => by cases h) rfl)⟩
            · rw [if_neg hb188] at h
              refine Runs.cond (he184.get (t := 132) (v := (.s (.bool v180))) (by kernel_rfl)) (fun h0 => absurd h0 hb188) (fun _ => ?_)
              refine Runs.skip ?_
              refine blockN ?_
              refine thenN ?_
              exact ih s0 s1 s5 s6 s7 (IntKind.i64.wrap (s8 + 1)) s9 (IntKind.i64.wrap (s10 + 1))  _ (he184.sub (by kernel_rfl)) _ h
    · rw [if_neg hb60] at h
      refine Runs.cond (he58.get (t := 59) (v := (.s (.bool (decide (s8 < s9))))) (by kernel_rfl)) (fun h0 => absurd h0 hb60) (fun _ => ?_)
      refine Runs.exit ?_
      refine thenX ?_
      refine thenX ?_
      obtain rfl := Option.some.inj h
      exact LOQ.o ⟨rfl, he58.sub (by kernel_rfl), rfl⟩
def ZS73 (g78 : Int → Option Int) (g79 : ByteArray → ByteArray → Option Int) (g77 : ByteArray → ByteArray → Option Int) (g76 : ByteArray → Int → Option Int) (m : Int) (n : Nat) (a0 : ByteArray) (a1 : ByteArray) : Option (Int) :=
 (show Option (Bool) from
  if (decide ((a1.size : Int) = 0)) then
   some true
  else
   some (a1.toList == (a0 : ByteArray).toList)).bind fun v5 =>
 if v5 then
  some (0 : Int)
 else
  if (decide ((a1.size : Int) = 1)) then
   if (0 : Int) ≤ 0 then
    (a1.data.toList[(0 : Int).toNat]?).bind fun x20 =>
    (g76 a0 (x20.toNat : Int)).bind fun r21 =>
    some r21
   else none
  else
   if (decide ((a0.size : Int) ≤ (a1.size : Int))) then
    some ((-1) : Int)
   else
    (show Option (Bool) from
     if (decide ((a1.size : Int) ≤ m)) then
      some (decide ((a0.size : Int) ≤ 64))
     else
      some false).bind fun v30 =>
    if v30 then
     (g77 a0 a1).bind fun r38 =>
     some r38
    else
     if (0 : Int) ≤ 0 then
      (a1.data.toList[(0 : Int).toNat]?).bind fun x44 =>
      if (0 : Int) ≤ 1 then
       (a1.data.toList[(1 : Int).toNat]?).bind fun x49 =>
       (ZL73_0 g78 g79 g77 g76 m n n a0 a1 (a1.size : Int) (x44.toNat : Int) (x49.toNat : Int) (0 : Int) (IntKind.i64.wrap ((IntKind.i64.wrap ((a0.size : Int) - (a1.size : Int))) + 1)) (0 : Int)).bind fun lo201 => match lo201 with
       | .ret rx203 =>
        some rx203
       | .out o207 =>
        some ((-1) : Int)
      else none
     else none
set_option maxHeartbeats 4000000 in
theorem ZS73_ok {m : Int} {n : Nat} (g78 : Int → Option Int) (hg78 : ∀ (a0 : Int) (r : Int) (H : Heap), g78 a0 = some r → evF P (T0 m) n 78 [(.s (.int .i64 a0))] H = some ((.s (.int .i64 r)), H)) (g79 : ByteArray → ByteArray → Option Int) (hg79 : ∀ (a0 : ByteArray) (a1 : ByteArray) (r : Int) (H : Heap), g79 a0 a1 = some r → evF P (T0 m) n 79 [(.s (.string a0)), (.s (.string a1))] H = some ((.s (.int .i64 r)), H)) (g77 : ByteArray → ByteArray → Option Int) (hg77 : ∀ (a0 : ByteArray) (a1 : ByteArray) (r : Int) (H : Heap), g77 a0 a1 = some r → evF P (T0 m) n 77 [(.s (.string a0)), (.s (.string a1))] H = some ((.s (.int .i64 r)), H)) (g76 : ByteArray → Int → Option Int) (hg76 : ∀ (a0 : ByteArray) (a1 : Int) (r : Int) (H : Heap), g76 a0 a1 = some r → evF P (T0 m) n 76 [(.s (.string a0)), (.s (.int .u8 a1))] H = some ((.s (.int .i64 r)), H)) (a0 : ByteArray) (a1 : ByteArray)  (r : Int) (H : Heap) (h : ZS73 g78 g79 g77 g76 m n a0 a1 = some r) : evF P (T0 m) (n + 1) 73 [(.s (.string a0)), (.s (.string a1))] H = some ((.s (.int .i64 r)), H) := by
  refine call_pure' (fi := F73) (bs := [(.s (.string a0)), (.s (.string a1))]) (x73z m) (tOHz m _) (o73z m) (c73z m) rfl rfl (shut_cons rfl (shut_cons rfl rfl)) ?_
  dsimp only [ZS73] at h
  have he : Sat [(0, (.s (.string a0))), (1, (.s (.string a1)))] (argEnv [(.s (.string a0)), (.s (.string a1))]) := Sat.cons rfl (Sat.cons rfl (Sat.nil))
  refine (show Runs P (T0 m) (evF P (T0 m) n) n 73 F73 0 F73.body (argEnv [(.s (.string a0)), (.s (.string a1))]) [] _ from ?_)
  generalize argEnv [(.s (.string a0)), (.s (.string a1))] = e at he ⊢
  refine Runs.sq ?_
  refine Runs.region he [] [(0, (.s (.string a0))), (1, (.s (.string a1)))] (h := []) (fun env => by kernel_rfl) trivial (fun e2 he1 => ?_)
  refine thenN ?_
  refine Runs.sq ?_
  refine Runs.region he1 [] [(0, (.s (.string a0))), (1, (.s (.string a1))), (5, (.s (.int .i64 (a1.size : Int))))] (h := []) (fun env => by kernel_rfl) trivial (fun e4 he3 => ?_)
  refine thenN ?_
  refine Runs.sq ?_
  refine Runs.block ?_
  refine Runs.sq ?_
  obtain ⟨v5, hm6, h⟩ := Option.bind_eq_some_iff.1 h
  refine Runs.mono (Q := fun x e h => x = .normal ∧ Sat [(0, (.s (.string a0))), (1, (.s (.string a1))), (5, (.s (.int .i64 (a1.size : Int)))), (16, (.s (.bool v5)))] e ∧ h = []) ?_ ?_
  · by_cases hb7 : (decide ((a1.size : Int) = 0)) = true
    · rw [if_pos hb7] at hm6
      obtain rfl := Option.some.inj hm6
      exact Runs.region he3 [(2, .b true)] [(0, (.s (.string a0))), (1, (.s (.string a1))), (5, (.s (.int .i64 (a1.size : Int)))), (16, (.s (.bool true)))] (h := []) (fun env => by kernel_rfl) (And.intro hb7 trivial) (fun _ h => ⟨rfl, h, rfl⟩)
    · rw [if_neg hb7] at hm6
      obtain rfl := Option.some.inj hm6
      exact Runs.region he3 [(2, .b false)] [(0, (.s (.string a0))), (1, (.s (.string a1))), (5, (.s (.int .i64 (a1.size : Int)))), (16, (.s (.bool (a1.toList == (a0 : ByteArray).toList))))] (h := []) (fun env => by kernel_rfl) (And.intro (Bool.eq_false_iff.2 hb7) trivial) (fun _ h => ⟨rfl, h, rfl⟩)
  rintro _ e9 h10 ⟨rfl, he8, hh11⟩
  rw [hh11]
  refine thenN ?_
  by_cases hb12 : v5 = true
  · rw [if_pos hb12] at h
    refine Runs.cond (he8.get (t := 16) (v := (.s (.bool v5))) (by kernel_rfl)) (fun _ => ?_) (fun h0 => absurd (hb12.symm.trans h0) (by decide))
    refine Runs.sq ?_
    refine Runs.region he8 [] [(4, (.s (.int .i64 0)))] (h := []) (fun env => by kernel_rfl) trivial (fun e14 he13 => ?_)
    refine thenN ?_
    refine Runs.ret ?_
    refine blockR ?_
    refine thenR ?_
    obtain rfl := Option.some.inj h
    exact ZRetOK73.endP ret_ne (ZRetOK73.of (resT (he13.get (t := 4) (v := (.s (.int .i64 0))) (by kernel_rfl)) resN) (fin_of (fun _ _ _ _ _ h => by cases h) rfl))
  · rw [if_neg hb12] at h
    refine Runs.cond (he8.get (t := 16) (v := (.s (.bool v5))) (by kernel_rfl)) (fun h0 => absurd h0 hb12) (fun _ => ?_)
    refine Runs.sq ?_
    refine Runs.region he8 [] [(0, (.s (.string a0))), (1, (.s (.string a1))), (5, (.s (.int .i64 (a1.size : Int)))), (24, (.s (.bool (decide ((a1.size : Int) = 1)))))] (h := []) (fun env => by kernel_rfl) trivial (fun e16 he15 => ?_)
    refine thenN ?_
    by_cases hb17 : (decide ((a1.size : Int) = 1)) = true
    · rw [if_pos hb17] at h
      refine Runs.cond (he15.get (t := 24) (v := (.s (.bool (decide ((a1.size : Int) = 1))))) (by kernel_rfl)) (fun _ => ?_) (fun h0 => absurd (hb17.symm.trans h0) (by decide))
      refine Runs.sq ?_
      by_cases hg18 : (0 : Int) ≤ 0
      rotate_left
      · rw [if_neg hg18] at h; cases h
      rw [if_pos hg18] at h
      obtain ⟨x20, hx19, h⟩ := Option.bind_eq_some_iff.1 h
      obtain ⟨r21, hr22, h⟩ := Option.bind_eq_some_iff.1 h
      refine Runs.region he15 [(2, .ch ((0 : Int).toNat) x20), (3, .f (.s (.int .i64 r21)) [])] [(4, (.s (.int .i64 r21)))] (h := []) (fun env => by kernel_rfl) (And.intro (And.intro (at_nat hg18) hx19) (And.intro (hg76 a0 (x20.toNat : Int)  _ []  hr22) trivial)) (fun e24 he23 => ?_)
      refine thenN ?_
      refine Runs.ret ?_
      refine blockR ?_
      refine thenR ?_
      obtain rfl := Option.some.inj h
      exact ZRetOK73.endP ret_ne (ZRetOK73.of (resT (he23.get (t := 4) (v := (.s (.int .i64 r21))) (by kernel_rfl)) resN) (fin_of (fun _ _ _ _ _ h => by cases h) rfl))
    · rw [if_neg hb17] at h
      refine Runs.cond (he15.get (t := 24) (v := (.s (.bool (decide ((a1.size : Int) = 1))))) (by kernel_rfl)) (fun h0 => absurd h0 hb17) (fun _ => ?_)
      refine Runs.sq ?_
      refine Runs.region he15 [] [(0, (.s (.string a0))), (1, (.s (.string a1))), (5, (.s (.int .i64 (a1.size : Int)))), (31, (.s (.bool (decide ((a0.size : Int) ≤ (a1.size : Int))))))] (h := []) (fun env => by kernel_rfl) trivial (fun e26 he25 => ?_)
      refine thenN ?_
      by_cases hb27 : (decide ((a0.size : Int) ≤ (a1.size : Int))) = true
      · rw [if_pos hb27] at h
        refine Runs.cond (he25.get (t := 31) (v := (.s (.bool (decide ((a0.size : Int) ≤ (a1.size : Int)))))) (by kernel_rfl)) (fun _ => ?_) (fun h0 => absurd (hb27.symm.trans h0) (by decide))
        refine Runs.sq ?_
        refine Runs.region he25 [] [(4, (.s (.int .i64 (-1))))] (h := []) (fun env => by kernel_rfl) trivial (fun e29 he28 => ?_)
        refine thenN ?_
        refine Runs.ret ?_
        refine blockR ?_
        refine thenR ?_
        obtain rfl := Option.some.inj h
        exact ZRetOK73.endP ret_ne (ZRetOK73.of (resT (he28.get (t := 4) (v := (.s (.int .i64 (-1)))) (by kernel_rfl)) resN) (fin_of (fun _ _ _ _ _ h => by cases h) rfl))
      · rw [if_neg hb27] at h
        refine Runs.cond (he25.get (t := 31) (v := (.s (.bool (decide ((a0.size : Int) ≤ (a1.size : Int)))))) (by kernel_rfl)) (fun h0 => absurd h0 hb27) (fun _ => ?_)
        refine Runs.sq ?_
        obtain ⟨v30, hm31, h⟩ := Option.bind_eq_some_iff.1 h
        refine Runs.mono (Q := fun x e h => x = .normal ∧ Sat [(0, (.s (.string a0))), (1, (.s (.string a1))), (5, (.s (.int .i64 (a1.size : Int)))), (36, (.s (.bool v30)))] e ∧ h = []) ?_ ?_
        · by_cases hb32 : (decide ((a1.size : Int) ≤ m)) = true
          · rw [if_pos hb32] at hm31
            obtain rfl := Option.some.inj hm31
            exact Runs.region he25 [(3, .b true)] [(0, (.s (.string a0))), (1, (.s (.string a1))), (5, (.s (.int .i64 (a1.size : Int)))), (36, (.s (.bool (decide ((a0.size : Int) ≤ 64)))))] (h := []) (fun env => by kernel_rfl) (And.intro hb32 trivial) (fun _ h => ⟨rfl, h, rfl⟩)
          · rw [if_neg hb32] at hm31
            obtain rfl := Option.some.inj hm31
            exact Runs.region he25 [(3, .b false)] [(0, (.s (.string a0))), (1, (.s (.string a1))), (5, (.s (.int .i64 (a1.size : Int)))), (36, (.s (.bool false)))] (h := []) (fun env => by kernel_rfl) (And.intro (Bool.eq_false_iff.2 hb32) trivial) (fun _ h => ⟨rfl, h, rfl⟩)
        rintro _ e34 h35 ⟨rfl, he33, hh36⟩
        rw [hh36]
        refine thenN ?_
        by_cases hb37 : v30 = true
        · rw [if_pos hb37] at h
          refine Runs.cond (he33.get (t := 36) (v := (.s (.bool v30))) (by kernel_rfl)) (fun _ => ?_) (fun h0 => absurd (hb37.symm.trans h0) (by decide))
          refine Runs.sq ?_
          obtain ⟨r38, hr39, h⟩ := Option.bind_eq_some_iff.1 h
          refine Runs.region he33 [(2, .f (.s (.int .i64 r38)) [])] [(4, (.s (.int .i64 r38)))] (h := []) (fun env => by kernel_rfl) (And.intro (hg77 a0 a1  _ []  hr39) trivial) (fun e41 he40 => ?_)
          refine thenN ?_
          refine Runs.ret ?_
          refine blockR ?_
          refine thenR ?_
          obtain rfl := Option.some.inj h
          exact ZRetOK73.endP ret_ne (ZRetOK73.of (resT (he40.get (t := 4) (v := (.s (.int .i64 r38))) (by kernel_rfl)) resN) (fin_of (fun _ _ _ _ _ h => by cases h) rfl))
        · rw [if_neg hb37] at h
          refine Runs.cond (he33.get (t := 36) (v := (.s (.bool v30))) (by kernel_rfl)) (fun h0 => absurd h0 hb37) (fun _ => ?_)
          refine Runs.skip ?_
          refine blockN ?_
          refine thenN ?_
          refine Runs.sq ?_
          by_cases hg42 : (0 : Int) ≤ 0
          rotate_left
          · rw [if_neg hg42] at h; cases h
          rw [if_pos hg42] at h
          obtain ⟨x44, hx43, h⟩ := Option.bind_eq_some_iff.1 h
          refine Runs.region he33 [(1, .ch ((0 : Int).toNat) x44)] [(0, (.s (.string a0))), (1, (.s (.string a1))), (5, (.s (.int .i64 (a1.size : Int)))), (6, (.s (.int .u8 (x44.toNat : Int))))] (h := []) (fun env => by kernel_rfl) (And.intro (And.intro (at_nat hg42) hx43) trivial) (fun e46 he45 => ?_)
          refine thenN ?_
          refine Runs.sq ?_
          by_cases hg47 : (0 : Int) ≤ 1
          rotate_left
          · rw [if_neg hg47] at h; cases h
          rw [if_pos hg47] at h
          obtain ⟨x49, hx48, h⟩ := Option.bind_eq_some_iff.1 h
          refine Runs.region he45 [(1, .ch ((1 : Int).toNat) x49)] [(0, (.s (.string a0))), (1, (.s (.string a1))), (5, (.s (.int .i64 (a1.size : Int)))), (6, (.s (.int .u8 (x44.toNat : Int)))), (7, (.s (.int .u8 (x49.toNat : Int))))] (h := []) (fun env => by kernel_rfl) (And.intro (And.intro (at_nat hg47) hx48) trivial) (fun e51 he50 => ?_)
          refine thenN ?_
          refine Runs.sq ?_
          refine Runs.region he50 [] [(0, (.s (.string a0))), (1, (.s (.string a1))), (5, (.s (.int .i64 (a1.size : Int)))), (6, (.s (.int .u8 (x44.toNat : Int)))), (7, (.s (.int .u8 (x49.toNat : Int)))), (8, (.s (.int .i64 0)))] (h := []) (fun env => by kernel_rfl) trivial (fun e53 he52 => ?_)
          refine thenN ?_
          refine Runs.sq ?_
          refine Runs.region he52 [] [(0, (.s (.string a0))), (1, (.s (.string a1))), (5, (.s (.int .i64 (a1.size : Int)))), (6, (.s (.int .u8 (x44.toNat : Int)))), (7, (.s (.int .u8 (x49.toNat : Int)))), (8, (.s (.int .i64 0))), (9, (.s (.int .i64 (IntKind.i64.wrap ((IntKind.i64.wrap ((a0.size : Int) - (a1.size : Int))) + 1)))))] (h := []) (fun env => by kernel_rfl) trivial (fun e55 he54 => ?_)
          refine thenN ?_
          refine Runs.sq ?_
          refine Runs.region he54 [] [(0, (.s (.string a0))), (1, (.s (.string a1))), (5, (.s (.int .i64 (a1.size : Int)))), (6, (.s (.int .u8 (x44.toNat : Int)))), (7, (.s (.int .u8 (x49.toNat : Int)))), (8, (.s (.int .i64 0))), (9, (.s (.int .i64 (IntKind.i64.wrap ((IntKind.i64.wrap ((a0.size : Int) - (a1.size : Int))) + 1))))), (10, (.s (.int .i64 0)))] (h := []) (fun env => by kernel_rfl) trivial (fun e57 he56 => ?_)
          refine thenN ?_
          refine Runs.sq ?_
          refine Runs.block ?_
          obtain ⟨lo201, hl202, h⟩ := Option.bind_eq_some_iff.1 h
          obtain ⟨x203, e204, he204, hd206, hq205⟩ := ZL73_0_ok g78 hg78 g79 hg79 g77 hg77 g76 hg76 n a0 a1 (a1.size : Int) (x44.toNat : Int) (x49.toNat : Int) (0 : Int) (IntKind.i64.wrap ((IntKind.i64.wrap ((a0.size : Int) - (a1.size : Int))) + 1)) (0 : Int)  _ (he56.sub (by kernel_rfl)) lo201 hl202
          refine Runs.loop ⟨x203, e204, he204, by rw [lpOf_eq]; exact hd206, ?_⟩
          cases lo201 with
          | ret rx203 =>
            dsimp only at h
            obtain ⟨rfl, hq205⟩ := hq205
            refine blockR ?_
            refine thenR ?_
            obtain rfl := Option.some.inj h
            exact ZRetOK73.endP ret_ne hq205
          | out o207 =>
            dsimp only at h
            obtain ⟨rfl, he208, hh209⟩ := hq205
            rw [hh209]
            refine blockE ?_
            refine thenN ?_
            refine Runs.sq ?_
            refine Runs.region he208 [] [(4, (.s (.int .i64 (-1))))] (h := []) (fun env => by kernel_rfl) trivial (fun e214 he213 => ?_)
            refine thenN ?_
            refine Runs.ret ?_
            obtain rfl := Option.some.inj h
            exact ZRetOK73.endP ret_ne (ZRetOK73.of (resT (he213.get (t := 4) (v := (.s (.int .i64 (-1)))) (by kernel_rfl)) resN) (fin_of (fun _ _ _ _ _ h => by cases h) rfl))
/-! strings.Index -/
def ZRetOK70 (r : Int) (e : Env) (h : Heap) : Prop := ∃ vs, resA P e h [.tmp 4] = some vs ∧ finA h (oneOf vs) = some (.s (.int .i64 r))
theorem ZRetOK70.of {r : Int} {e : Env} {h : Heap} {vs : List AV} (h1 : resA P e h [.tmp 4] = some vs) (h2 : finA h (oneOf vs) = some (.s (.int .i64 r))) : ZRetOK70 r e h := ⟨vs, h1, h2⟩
theorem ZRetOK70.endP {x : Ex} {r : Int} {e : Env} {h : Heap} (hx : ∀ k, x ≠ .exit k) (hr : ZRetOK70 r e h) : EndP P F70 (.s (.int .i64 r)) x e h := by
  obtain ⟨vs, h1, h2⟩ := hr
  exact endQ hx rfl h1 h2
def ZS70 (g73 : ByteArray → ByteArray → Option Int) (n : Nat) (a0 : ByteArray) (a1 : ByteArray) : Option (Int) :=
 (g73 a0 a1).bind fun r3 =>
 some r3
set_option maxHeartbeats 4000000 in
theorem ZS70_ok {m : Int} {n : Nat} (g73 : ByteArray → ByteArray → Option Int) (hg73 : ∀ (a0 : ByteArray) (a1 : ByteArray) (r : Int) (H : Heap), g73 a0 a1 = some r → evF P (T0 m) n 73 [(.s (.string a0)), (.s (.string a1))] H = some ((.s (.int .i64 r)), H)) (a0 : ByteArray) (a1 : ByteArray)  (r : Int) (H : Heap) (h : ZS70 g73 n a0 a1 = some r) : evF P (T0 m) (n + 1) 70 [(.s (.string a0)), (.s (.string a1))] H = some ((.s (.int .i64 r)), H) := by
  refine call_pure' (fi := F70) (bs := [(.s (.string a0)), (.s (.string a1))]) (x70z m) (tOHz m _) (o70z m) (c70z m) rfl rfl (shut_cons rfl (shut_cons rfl rfl)) ?_
  dsimp only [ZS70] at h
  have he : Sat [(0, (.s (.string a0))), (1, (.s (.string a1)))] (argEnv [(.s (.string a0)), (.s (.string a1))]) := Sat.cons rfl (Sat.cons rfl (Sat.nil))
  refine (show Runs P (T0 m) (evF P (T0 m) n) n 70 F70 0 F70.body (argEnv [(.s (.string a0)), (.s (.string a1))]) [] _ from ?_)
  generalize argEnv [(.s (.string a0)), (.s (.string a1))] = e at he ⊢
  refine Runs.sq ?_
  refine Runs.region he [] [(0, (.s (.string a0))), (1, (.s (.string a1)))] (h := []) (fun env => by kernel_rfl) trivial (fun e2 he1 => ?_)
  refine thenN ?_
  refine Runs.sq ?_
  obtain ⟨r3, hr4, h⟩ := Option.bind_eq_some_iff.1 h
  refine Runs.region he1 [(2, .f (.s (.int .i64 r3)) [])] [(4, (.s (.int .i64 r3)))] (h := []) (fun env => by kernel_rfl) (And.intro (hg73 a0 a1  _ []  hr4) trivial) (fun e6 he5 => ?_)
  refine thenN ?_
  refine Runs.ret ?_
  obtain rfl := Option.some.inj h
  exact ZRetOK70.endP ret_ne (ZRetOK70.of (resT (he5.get (t := 4) (v := (.s (.int .i64 r3))) (by kernel_rfl)) resN) (fin_of (fun _ _ _ _ _ h => by cases h) rfl))
/-! strings.Contains -/
def ZRetOK61 (r : Bool) (e : Env) (h : Heap) : Prop := ∃ vs, resA P e h [.tmp 4] = some vs ∧ finA h (oneOf vs) = some (.s (.bool r))
theorem ZRetOK61.of {r : Bool} {e : Env} {h : Heap} {vs : List AV} (h1 : resA P e h [.tmp 4] = some vs) (h2 : finA h (oneOf vs) = some (.s (.bool r))) : ZRetOK61 r e h := ⟨vs, h1, h2⟩
theorem ZRetOK61.endP {x : Ex} {r : Bool} {e : Env} {h : Heap} (hx : ∀ k, x ≠ .exit k) (hr : ZRetOK61 r e h) : EndP P F61 (.s (.bool r)) x e h := by
  obtain ⟨vs, h1, h2⟩ := hr
  exact endQ hx rfl h1 h2
def ZS61 (g70 : ByteArray → ByteArray → Option Int) (n : Nat) (a0 : ByteArray) (a1 : ByteArray) : Option (Bool) :=
 (g70 a0 a1).bind fun r3 =>
 some (decide (0 ≤ r3))
set_option maxHeartbeats 4000000 in
theorem ZS61_ok {m : Int} {n : Nat} (g70 : ByteArray → ByteArray → Option Int) (hg70 : ∀ (a0 : ByteArray) (a1 : ByteArray) (r : Int) (H : Heap), g70 a0 a1 = some r → evF P (T0 m) n 70 [(.s (.string a0)), (.s (.string a1))] H = some ((.s (.int .i64 r)), H)) (a0 : ByteArray) (a1 : ByteArray)  (r : Bool) (H : Heap) (h : ZS61 g70 n a0 a1 = some r) : evF P (T0 m) (n + 1) 61 [(.s (.string a0)), (.s (.string a1))] H = some ((.s (.bool r)), H) := by
  refine call_pure' (fi := F61) (bs := [(.s (.string a0)), (.s (.string a1))]) (x61z m) (tOHz m _) (o61z m) (c61z m) rfl rfl (shut_cons rfl (shut_cons rfl rfl)) ?_
  dsimp only [ZS61] at h
  have he : Sat [(0, (.s (.string a0))), (1, (.s (.string a1)))] (argEnv [(.s (.string a0)), (.s (.string a1))]) := Sat.cons rfl (Sat.cons rfl (Sat.nil))
  refine (show Runs P (T0 m) (evF P (T0 m) n) n 61 F61 0 F61.body (argEnv [(.s (.string a0)), (.s (.string a1))]) [] _ from ?_)
  generalize argEnv [(.s (.string a0)), (.s (.string a1))] = e at he ⊢
  refine Runs.sq ?_
  refine Runs.region he [] [(0, (.s (.string a0))), (1, (.s (.string a1)))] (h := []) (fun env => by kernel_rfl) trivial (fun e2 he1 => ?_)
  refine thenN ?_
  refine Runs.sq ?_
  obtain ⟨r3, hr4, h⟩ := Option.bind_eq_some_iff.1 h
  refine Runs.region he1 [(2, .f (.s (.int .i64 r3)) [])] [(4, (.s (.bool (decide (0 ≤ r3)))))] (h := []) (fun env => by kernel_rfl) (And.intro (hg70 a0 a1  _ []  hr4) trivial) (fun e6 he5 => ?_)
  refine thenN ?_
  refine Runs.ret ?_
  obtain rfl := Option.some.inj h
  exact ZRetOK61.endP ret_ne (ZRetOK61.of (resT (he5.get (t := 4) (v := (.s (.bool (decide (0 ≤ r3))))) (by kernel_rfl)) resN) (fin_of (fun _ _ _ _ _ h => by cases h) rfl))
end Go.Proofs.YtggoggdcnahkaaaDoor
