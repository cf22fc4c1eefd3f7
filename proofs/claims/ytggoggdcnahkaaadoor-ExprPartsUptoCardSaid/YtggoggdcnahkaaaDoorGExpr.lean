/- Functions of the program, printed: each with what it answers, and the proof of it. -/
import Derived.Test.YtggoggdcnahkaaaDoorTab
set_option linter.unusedVariables false
set_option linter.unusedSimpArgs false
set_option maxRecDepth 100000
namespace Go.Proofs.YtggoggdcnahkaaaDoor
open Go Go.RowKit Go.Proofs
/-! grommet/leb.PutU -/
def RetOK49 (r : (List Int)) (e : Env) (h : Heap) : Prop := ∃ vs, resA P e h [.tmp 2] = some vs ∧ finA h (oneOf vs) = some (.sl (r.map (kAV .u8)) .ro)
theorem RetOK49.of {r : (List Int)} {e : Env} {h : Heap} {vs : List AV} (h1 : resA P e h [.tmp 2] = some vs) (h2 : finA h (oneOf vs) = some (.sl (r.map (kAV .u8)) .ro)) : RetOK49 r e h := ⟨vs, h1, h2⟩
theorem RetOK49.endP {x : Ex} {r : (List Int)} {e : Env} {h : Heap} (hx : ∀ k, x ≠ .exit k) (hr : RetOK49 r e h) : EndP P F49 (.sl (r.map (kAV .u8)) .ro) x e h := by
  obtain ⟨vs, h1, h2⟩ := hr
  exact endQ hx rfl h1 h2
def L49_0  (n : Nat) : Nat → Int → (List Int) → Option (LO (List Int) (Int × (List Int)))
 | 0, _, _ => none
 | k + 1, s0, s3 =>
  if (decide (128 ≤ s0)) then
   if (s3.length + 1) * 1 ≤ roomA then
    L49_0  n k (shrA .u64 s0 7) (s3 ++ [(orA .u8 (IntKind.u8.wrap s0) 128)])
   else none
  else
   some (LO.out (s0, s3))
set_option maxHeartbeats 4000000 in
theorem L49_0_ok {m : Int} {n : Nat}  : ∀ (k : Nat) (s0 : Int) (s3 : List Int) (ps3_ : Prov) (e : Env) (H : Heap) (hk : AppT 1 0 H (s3.map (kAV .u8)) ps3_) (he : Sat [(0, (.s (.int .u64 s0))), (3, (.sl (s3.map (kAV .u8)) ps3_))] e) (out : LO (List Int) (Int × (List Int))) (h : L49_0  n k s0 s3 = some out), ∃ x e' h', rdsOf P (T m) (evF P (T m) n) n 49 0 k e H = some (x, e', h') ∧ LOQ out (fun r => (fun x e h => x = .ret ∧ RetOK49 r e h) x e' h') (fun o => (fun x e h => x = .exit 0 ∧ ∃ ps3_, ∃ Hs, AppT 1 0 Hs (o.2.map (kAV .u8)) ps3_ ∧ Sat [(0, (.s (.int .u64 o.1))), (3, (.sl (o.2.map (kAV .u8)) ps3_))] e ∧ h = Hs) x e' h') := by
  intro k
  induction k with
  | zero => intro _ _ _ _ _ _ _ _ h; cases h
  | succ k ih =>
    intro s0 s3 ps3_ e H hk he out h
    dsimp only [L49_0] at h
    refine rds_step (rd_of (fi := F49) (c49 m) rfl ?_)
    refine Runs.sq ?_
    refine Runs.sq ?_
    refine Runs.region he [] [(0, (.s (.int .u64 s0))), (3, (.sl (s3.map (kAV .u8)) ps3_)), (5, (.s (.bool (decide (128 ≤ s0)))))] (h := H) (fun env => by kernel_rfl) trivial (fun e6 he5 => ?_)
    refine thenN ?_
    by_cases hb7 : (decide (128 ≤ s0)) = true
    · rw [if_pos hb7] at h
      refine Runs.cond (he5.get (t := 5) (v := (.s (.bool (decide (128 ≤ s0))))) (by kernel_rfl)) (fun _ => ?_) (fun h0 => absurd (hb7.symm.trans h0) (by decide))
      refine Runs.skip ?_
      refine thenN ?_
      refine Runs.block ?_
      refine Runs.sq ?_
      by_cases hr12 : (s3.length + 1) * 1 ≤ roomA
      rotate_left
      · rw [if_neg hr12] at h; cases h
      rw [if_pos hr12] at h
      obtain ⟨p8, H9, ha10, hk11⟩ := app_tail (bytes := 1) (ys := [(.s (.int .u8 (orA .u8 (IntKind.u8.wrap s0) 128)))]) (zs := ((s3 ++ [(orA .u8 (IntKind.u8.wrap s0) 128)]).map (kAV .u8))) [] rfl hk rfl (List.map_append (f := (kAV .u8)) (l₁ := (s3 : List Int)) (l₂ := ([(orA .u8 (IntKind.u8.wrap s0) 128)] : List Int))).symm (by first | exact hr12 | simpa [insAVs_length] using hr12)
      refine Runs.region he5 [(5, .f (.sl ((s3 ++ [(orA .u8 (IntKind.u8.wrap s0) 128)]).map (kAV .u8)) p8) H9)] [(0, (.s (.int .u64 s0))), (3, (.sl ((s3 ++ [(orA .u8 (IntKind.u8.wrap s0) 128)]).map (kAV .u8)) p8))] (h := H9) (fun env => by kernel_rfl) (And.intro ((appendC_of (sz := 1) (bytes := 1) (t := 26) (tx := 26) (bf := (F49.bf.contains ·)) (x := (.sl (s3.map (kAV .u8)) ps3_)) (H := H) (by kernel_rfl) (by kernel_rfl) (src_sl (P := P) (tx := 26) (H := H) (p := .full) (by kernel_rfl) rfl)).trans ha10) trivial) (fun e14 he13 => ?_)
      refine thenN ?_
      refine Runs.region he13 [] [(0, (.s (.int .u64 (shrA .u64 s0 7)))), (3, (.sl ((s3 ++ [(orA .u8 (IntKind.u8.wrap s0) 128)]).map (kAV .u8)) p8))] (h := H9) (fun env => by kernel_rfl) trivial (fun e16 he15 => ?_)
      refine blockN ?_
      refine thenN ?_
      exact ih (shrA .u64 s0 7) (s3 ++ [(orA .u8 (IntKind.u8.wrap s0) 128)]) p8 _ H9 hk11 (he15.sub (by kernel_rfl)) _ h
    · rw [if_neg hb7] at h
      refine Runs.cond (he5.get (t := 5) (v := (.s (.bool (decide (128 ≤ s0))))) (by kernel_rfl)) (fun h0 => absurd h0 hb7) (fun _ => ?_)
      refine Runs.exit ?_
      refine thenX ?_
      refine thenX ?_
      obtain rfl := Option.some.inj h
      exact LOQ.o ⟨rfl, ps3_, H, hk, he5.sub (by kernel_rfl), rfl⟩
def S49  (n : Nat) (a0 : Int) : Option ((List Int)) :=
 (L49_0  n n a0 []).bind fun lo17 => match lo17 with
 | .ret _ => none
 | .out o23 =>
  if (o23.2.length + 1) * 1 ≤ roomA then
   some (o23.2 ++ [(IntKind.u8.wrap o23.1)])
  else none
set_option maxHeartbeats 4000000 in
theorem S49_ok {m : Int} {n : Nat}  (a0 : Int)  (r : (List Int)) (H : Heap) (h : S49  n a0 = some r) : evF P (T m) (n + 1) 49 [(.s (.int .u64 a0))] H = some ((.sl (r.map (kAV .u8)) .ro), H) := by
  refine call_pure' (fi := F49) (bs := [(.s (.int .u64 a0))]) (x49 m) (oh49 m) (o49 m) (c49 m) rfl rfl (shut_cons rfl rfl) ?_
  dsimp only [S49] at h
  have he : Sat [(0, (.s (.int .u64 a0)))] (argEnv [(.s (.int .u64 a0))]) := Sat.cons rfl (Sat.nil)
  refine (show Runs P (T m) (evF P (T m) n) n 49 F49 0 F49.body (argEnv [(.s (.int .u64 a0))]) [] _ from ?_)
  generalize argEnv [(.s (.int .u64 a0))] = e at he ⊢
  refine Runs.sq ?_
  refine Runs.region he [] [(0, (.s (.int .u64 a0)))] (h := []) (fun env => by kernel_rfl) trivial (fun e2 he1 => ?_)
  refine thenN ?_
  refine Runs.sq ?_
  refine Runs.region he1 [] [(0, (.s (.int .u64 a0))), (3, (.sl [] .full))] (h := []) (fun env => by kernel_rfl) trivial (fun e4 he3 => ?_)
  refine thenN ?_
  refine Runs.sq ?_
  refine Runs.block ?_
  obtain ⟨lo17, hl18, h⟩ := Option.bind_eq_some_iff.1 h
  obtain ⟨x19, e20, he20, hd22, hq21⟩ := L49_0_ok  n a0 [] .full _ [] (AppT.nil (sz := 1) (k := 0) (Hs := [])) (he3.sub (by kernel_rfl)) lo17 hl18
  refine Runs.loop ⟨x19, e20, he20, by rw [lpOf_eq]; exact hd22, ?_⟩
  cases lo17 with
  | ret rx19 =>
    dsimp only at h
    cases h
  | out o23 =>
    dsimp only at h
    obtain ⟨rfl, p28, H26, hk27, he24, hh25⟩ := hq21
    rw [hh25]
    refine blockE ?_
    refine thenN ?_
    refine Runs.sq ?_
    by_cases hr34 : (o23.2.length + 1) * 1 ≤ roomA
    rotate_left
    · rw [if_neg hr34] at h; cases h
    rw [if_pos hr34] at h
    obtain ⟨p30, H31, ha32, hk33⟩ := app_tail (bytes := 1) (ys := [(.s (.int .u8 (IntKind.u8.wrap o23.1)))]) (zs := ((o23.2 ++ [(IntKind.u8.wrap o23.1)]).map (kAV .u8))) [] rfl hk27 rfl (List.map_append (f := (kAV .u8)) (l₁ := (o23.2 : List Int)) (l₂ := ([(IntKind.u8.wrap o23.1)] : List Int))).symm (by first | exact hr34 | simpa [insAVs_length] using hr34)
    refine Runs.region he24 [(4, .f (.sl ((o23.2 ++ [(IntKind.u8.wrap o23.1)]).map (kAV .u8)) p30) H31)] [(2, (.sl ((o23.2 ++ [(IntKind.u8.wrap o23.1)]).map (kAV .u8)) p30))] (h := H31) (fun env => by kernel_rfl) (And.intro ((appendC_of (sz := 1) (bytes := 1) (t := 26) (tx := 26) (bf := (F49.bf.contains ·)) (x := (.sl (o23.2.map (kAV .u8)) p28)) (H := H26) (by kernel_rfl) (by kernel_rfl) (src_sl (P := P) (tx := 26) (H := H26) (p := .full) (by kernel_rfl) rfl)).trans ha32) trivial) (fun e36 he35 => ?_)
    refine thenN ?_
    refine Runs.ret ?_
    obtain rfl := Option.some.inj h
    exact RetOK49.endP ret_ne (RetOK49.of (resT (he35.get (t := 2) (v := (.sl ((o23.2 ++ [(IntKind.u8.wrap o23.1)]).map (kAV .u8)) p30)) (by kernel_rfl)) resN) (fin_of (fun _ _ _ _ _ h => by cases h) (shut_sl (shutL_map (fun _ => rfl) (o23.2 ++ [(IntKind.u8.wrap o23.1)])))))
/-! grommet/leb.PutS -/
def RetOK36 (r : (List Int)) (e : Env) (h : Heap) : Prop := ∃ vs, resA P e h [.tmp 2] = some vs ∧ finA h (oneOf vs) = some (.sl (r.map (kAV .u8)) .ro)
theorem RetOK36.of {r : (List Int)} {e : Env} {h : Heap} {vs : List AV} (h1 : resA P e h [.tmp 2] = some vs) (h2 : finA h (oneOf vs) = some (.sl (r.map (kAV .u8)) .ro)) : RetOK36 r e h := ⟨vs, h1, h2⟩
theorem RetOK36.endP {x : Ex} {r : (List Int)} {e : Env} {h : Heap} (hx : ∀ k, x ≠ .exit k) (hr : RetOK36 r e h) : EndP P F36 (.sl (r.map (kAV .u8)) .ro) x e h := by
  obtain ⟨vs, h1, h2⟩ := hr
  exact endQ hx rfl h1 h2
def L36_0  (n : Nat) : Nat → Int → (List Int) → Option (LO (List Int) (Int × (List Int)))
 | 0, _, _ => none
 | k + 1, s0, s3 =>
  (show Option (Bool) from
   if (decide (s0 < (-64))) then
    some true
   else
    some (decide (64 ≤ s0))).bind fun v5 =>
  if v5 then
   if (s3.length + 1) * 1 ≤ roomA then
    L36_0  n k (shrA .i64 s0 7) (s3 ++ [(orA .u8 (IntKind.u8.wrap s0) 128)])
   else none
  else
   some (LO.out (s0, s3))
set_option maxHeartbeats 4000000 in
theorem L36_0_ok {m : Int} {n : Nat}  : ∀ (k : Nat) (s0 : Int) (s3 : List Int) (ps3_ : Prov) (e : Env) (H : Heap) (hk : AppT 1 0 H (s3.map (kAV .u8)) ps3_) (he : Sat [(0, (.s (.int .i64 s0))), (3, (.sl (s3.map (kAV .u8)) ps3_))] e) (out : LO (List Int) (Int × (List Int))) (h : L36_0  n k s0 s3 = some out), ∃ x e' h', rdsOf P (T m) (evF P (T m) n) n 36 0 k e H = some (x, e', h') ∧ LOQ out (fun r => (fun x e h => x = .ret ∧ RetOK36 r e h) x e' h') (fun o => (fun x e h => x = .exit 0 ∧ ∃ ps3_, ∃ Hs, AppT 1 0 Hs (o.2.map (kAV .u8)) ps3_ ∧ Sat [(0, (.s (.int .i64 o.1))), (3, (.sl (o.2.map (kAV .u8)) ps3_))] e ∧ h = Hs) x e' h') := by
  intro k
  induction k with
  | zero => intro _ _ _ _ _ _ _ _ h; cases h
  | succ k ih =>
    intro s0 s3 ps3_ e H hk he out h
    dsimp only [L36_0] at h
    refine rds_step (rd_of (fi := F36) (c36 m) rfl ?_)
    refine Runs.sq ?_
    refine Runs.sq ?_
    obtain ⟨v5, hm6, h⟩ := Option.bind_eq_some_iff.1 h
    refine Runs.mono (Q := fun x e h => x = .normal ∧ Sat [(0, (.s (.int .i64 s0))), (3, (.sl (s3.map (kAV .u8)) ps3_)), (9, (.s (.bool v5)))] e ∧ h = H) ?_ ?_
    · by_cases hb7 : (decide (s0 < (-64))) = true
      · rw [if_pos hb7] at hm6
        obtain rfl := Option.some.inj hm6
        exact Runs.region he [(2, .b true)] [(0, (.s (.int .i64 s0))), (3, (.sl (s3.map (kAV .u8)) ps3_)), (9, (.s (.bool true)))] (h := H) (fun env => by kernel_rfl) (And.intro hb7 trivial) (fun _ h => ⟨rfl, h, rfl⟩)
      · rw [if_neg hb7] at hm6
        obtain rfl := Option.some.inj hm6
        exact Runs.region he [(2, .b false)] [(0, (.s (.int .i64 s0))), (3, (.sl (s3.map (kAV .u8)) ps3_)), (9, (.s (.bool (decide (64 ≤ s0)))))] (h := H) (fun env => by kernel_rfl) (And.intro (Bool.eq_false_iff.2 hb7) trivial) (fun _ h => ⟨rfl, h, rfl⟩)
    rintro _ e9 h10 ⟨rfl, he8, hh11⟩
    rw [hh11]
    refine thenN ?_
    by_cases hb12 : v5 = true
    · rw [if_pos hb12] at h
      refine Runs.cond (he8.get (t := 9) (v := (.s (.bool v5))) (by kernel_rfl)) (fun _ => ?_) (fun h0 => absurd (hb12.symm.trans h0) (by decide))
      refine Runs.skip ?_
      refine thenN ?_
      refine Runs.block ?_
      refine Runs.sq ?_
      by_cases hr17 : (s3.length + 1) * 1 ≤ roomA
      rotate_left
      · rw [if_neg hr17] at h; cases h
      rw [if_pos hr17] at h
      obtain ⟨p13, H14, ha15, hk16⟩ := app_tail (bytes := 1) (ys := [(.s (.int .u8 (orA .u8 (IntKind.u8.wrap s0) 128)))]) (zs := ((s3 ++ [(orA .u8 (IntKind.u8.wrap s0) 128)]).map (kAV .u8))) [] rfl hk rfl (List.map_append (f := (kAV .u8)) (l₁ := (s3 : List Int)) (l₂ := ([(orA .u8 (IntKind.u8.wrap s0) 128)] : List Int))).symm (by first | exact hr17 | simpa [insAVs_length] using hr17)
      refine Runs.region he8 [(5, .f (.sl ((s3 ++ [(orA .u8 (IntKind.u8.wrap s0) 128)]).map (kAV .u8)) p13) H14)] [(0, (.s (.int .i64 s0))), (3, (.sl ((s3 ++ [(orA .u8 (IntKind.u8.wrap s0) 128)]).map (kAV .u8)) p13))] (h := H14) (fun env => by kernel_rfl) (And.intro ((appendC_of (sz := 1) (bytes := 1) (t := 26) (tx := 26) (bf := (F36.bf.contains ·)) (x := (.sl (s3.map (kAV .u8)) ps3_)) (H := H) (by kernel_rfl) (by kernel_rfl) (src_sl (P := P) (tx := 26) (H := H) (p := .full) (by kernel_rfl) rfl)).trans ha15) trivial) (fun e19 he18 => ?_)
      refine thenN ?_
      refine Runs.region he18 [] [(0, (.s (.int .i64 (shrA .i64 s0 7)))), (3, (.sl ((s3 ++ [(orA .u8 (IntKind.u8.wrap s0) 128)]).map (kAV .u8)) p13))] (h := H14) (fun env => by kernel_rfl) trivial (fun e21 he20 => ?_)
      refine blockN ?_
      refine thenN ?_
      exact ih (shrA .i64 s0 7) (s3 ++ [(orA .u8 (IntKind.u8.wrap s0) 128)]) p13 _ H14 hk16 (he20.sub (by kernel_rfl)) _ h
    · rw [if_neg hb12] at h
      refine Runs.cond (he8.get (t := 9) (v := (.s (.bool v5))) (by kernel_rfl)) (fun h0 => absurd h0 hb12) (fun _ => ?_)
      refine Runs.exit ?_
      refine thenX ?_
      refine thenX ?_
      obtain rfl := Option.some.inj h
      exact LOQ.o ⟨rfl, ps3_, H, hk, he8.sub (by kernel_rfl), rfl⟩
def S36  (n : Nat) (a0 : Int) : Option ((List Int)) :=
 (L36_0  n n a0 []).bind fun lo22 => match lo22 with
 | .ret _ => none
 | .out o28 =>
  if (o28.2.length + 1) * 1 ≤ roomA then
   some (o28.2 ++ [(andA .u8 (IntKind.u8.wrap o28.1) 127)])
  else none
set_option maxHeartbeats 4000000 in
theorem S36_ok {m : Int} {n : Nat}  (a0 : Int)  (r : (List Int)) (H : Heap) (h : S36  n a0 = some r) : evF P (T m) (n + 1) 36 [(.s (.int .i64 a0))] H = some ((.sl (r.map (kAV .u8)) .ro), H) := by
  refine call_pure' (fi := F36) (bs := [(.s (.int .i64 a0))]) (x36 m) (oh36 m) (o36 m) (c36 m) rfl rfl (shut_cons rfl rfl) ?_
  dsimp only [S36] at h
  have he : Sat [(0, (.s (.int .i64 a0)))] (argEnv [(.s (.int .i64 a0))]) := Sat.cons rfl (Sat.nil)
  refine (show Runs P (T m) (evF P (T m) n) n 36 F36 0 F36.body (argEnv [(.s (.int .i64 a0))]) [] _ from ?_)
  generalize argEnv [(.s (.int .i64 a0))] = e at he ⊢
  refine Runs.sq ?_
  refine Runs.region he [] [(0, (.s (.int .i64 a0)))] (h := []) (fun env => by kernel_rfl) trivial (fun e2 he1 => ?_)
  refine thenN ?_
  refine Runs.sq ?_
  refine Runs.region he1 [] [(0, (.s (.int .i64 a0))), (3, (.sl [] .full))] (h := []) (fun env => by kernel_rfl) trivial (fun e4 he3 => ?_)
  refine thenN ?_
  refine Runs.sq ?_
  refine Runs.block ?_
  obtain ⟨lo22, hl23, h⟩ := Option.bind_eq_some_iff.1 h
  obtain ⟨x24, e25, he25, hd27, hq26⟩ := L36_0_ok  n a0 [] .full _ [] (AppT.nil (sz := 1) (k := 0) (Hs := [])) (he3.sub (by kernel_rfl)) lo22 hl23
  refine Runs.loop ⟨x24, e25, he25, by rw [lpOf_eq]; exact hd27, ?_⟩
  cases lo22 with
  | ret rx24 =>
    dsimp only at h
    cases h
  | out o28 =>
    dsimp only at h
    obtain ⟨rfl, p33, H31, hk32, he29, hh30⟩ := hq26
    rw [hh30]
    refine blockE ?_
    refine thenN ?_
    refine Runs.sq ?_
    by_cases hr39 : (o28.2.length + 1) * 1 ≤ roomA
    rotate_left
    · rw [if_neg hr39] at h; cases h
    rw [if_pos hr39] at h
    obtain ⟨p35, H36, ha37, hk38⟩ := app_tail (bytes := 1) (ys := [(.s (.int .u8 (andA .u8 (IntKind.u8.wrap o28.1) 127)))]) (zs := ((o28.2 ++ [(andA .u8 (IntKind.u8.wrap o28.1) 127)]).map (kAV .u8))) [] rfl hk32 rfl (List.map_append (f := (kAV .u8)) (l₁ := (o28.2 : List Int)) (l₂ := ([(andA .u8 (IntKind.u8.wrap o28.1) 127)] : List Int))).symm (by first | exact hr39 | simpa [insAVs_length] using hr39)
    refine Runs.region he29 [(5, .f (.sl ((o28.2 ++ [(andA .u8 (IntKind.u8.wrap o28.1) 127)]).map (kAV .u8)) p35) H36)] [(2, (.sl ((o28.2 ++ [(andA .u8 (IntKind.u8.wrap o28.1) 127)]).map (kAV .u8)) p35))] (h := H36) (fun env => by kernel_rfl) (And.intro ((appendC_of (sz := 1) (bytes := 1) (t := 26) (tx := 26) (bf := (F36.bf.contains ·)) (x := (.sl (o28.2.map (kAV .u8)) p33)) (H := H31) (by kernel_rfl) (by kernel_rfl) (src_sl (P := P) (tx := 26) (H := H31) (p := .full) (by kernel_rfl) rfl)).trans ha37) trivial) (fun e41 he40 => ?_)
    refine thenN ?_
    refine Runs.ret ?_
    obtain rfl := Option.some.inj h
    exact RetOK36.endP ret_ne (RetOK36.of (resT (he40.get (t := 2) (v := (.sl ((o28.2 ++ [(andA .u8 (IntKind.u8.wrap o28.1) 127)]).map (kAV .u8)) p35)) (by kernel_rfl)) resN) (fin_of (fun _ _ _ _ _ h => by cases h) (shut_sl (shutL_map (fun _ => rfl) (o28.2 ++ [(andA .u8 (IntKind.u8.wrap o28.1) 127)])))))
/-! grommet/expr.blockType -/
def RetOK34 (r : Int) (e : Env) (h : Heap) : Prop := ∃ vs, resA P e h [.tmp 2] = some vs ∧ finA h (oneOf vs) = some (.s (.int .u8 r))
theorem RetOK34.of {r : Int} {e : Env} {h : Heap} {vs : List AV} (h1 : resA P e h [.tmp 2] = some vs) (h2 : finA h (oneOf vs) = some (.s (.int .u8 r))) : RetOK34 r e h := ⟨vs, h1, h2⟩
theorem RetOK34.endP {x : Ex} {r : Int} {e : Env} {h : Heap} (hx : ∀ k, x ≠ .exit k) (hr : RetOK34 r e h) : EndP P F34 (.s (.int .u8 r)) x e h := by
  obtain ⟨vs, h1, h2⟩ := hr
  exact endQ hx rfl h1 h2
def S34  (n : Nat) (a0 : Int) : Option (Int) :=
 if (decide (a0 = 1)) then
  some (127 : Int)
 else
  if (decide (a0 = 2)) then
   some (126 : Int)
  else
   some (64 : Int)
set_option maxHeartbeats 4000000 in
theorem S34_ok {m : Int} {n : Nat}  (a0 : Int)  (r : Int) (H : Heap) (h : S34  n a0 = some r) : evF P (T m) (n + 1) 34 [(.s (.int .i64 a0))] H = some ((.s (.int .u8 r)), H) := by
  refine call_pure' (fi := F34) (bs := [(.s (.int .i64 a0))]) (x34 m) (oh34 m) (o34 m) (c34 m) rfl rfl (shut_cons rfl rfl) ?_
  dsimp only [S34] at h
  have he : Sat [(0, (.s (.int .i64 a0)))] (argEnv [(.s (.int .i64 a0))]) := Sat.cons rfl (Sat.nil)
  refine (show Runs P (T m) (evF P (T m) n) n 34 F34 0 F34.body (argEnv [(.s (.int .i64 a0))]) [] _ from ?_)
  generalize argEnv [(.s (.int .i64 a0))] = e at he ⊢
  refine Runs.sq ?_
  refine Runs.region he [] [(0, (.s (.int .i64 a0)))] (h := []) (fun env => by kernel_rfl) trivial (fun e2 he1 => ?_)
  refine thenN ?_
  refine Runs.sq ?_
  refine Runs.sq ?_
  refine Runs.region he1 [] [(3, (.s (.int .i64 a0)))] (h := []) (fun env => by kernel_rfl) trivial (fun e4 he3 => ?_)
  refine thenN ?_
  refine Runs.block ?_
  refine Runs.sq ?_
  refine Runs.region he3 [] [(3, (.s (.int .i64 a0))), (4, (.s (.bool (decide (a0 = 1)))))] (h := []) (fun env => by kernel_rfl) trivial (fun e6 he5 => ?_)
  refine thenN ?_
  by_cases hb7 : (decide (a0 = 1)) = true
  · rw [if_pos hb7] at h
    refine Runs.cond (he5.get (t := 4) (v := (.s (.bool (decide (a0 = 1))))) (by kernel_rfl)) (fun _ => ?_) (fun h0 => absurd (hb7.symm.trans h0) (by decide))
    refine Runs.sq ?_
    refine Runs.region he5 [] [(2, (.s (.int .u8 127)))] (h := []) (fun env => by kernel_rfl) trivial (fun e9 he8 => ?_)
    refine thenN ?_
    refine Runs.ret ?_
    refine blockR ?_
    refine thenR ?_
    obtain rfl := Option.some.inj h
    exact RetOK34.endP ret_ne (RetOK34.of (resT (he8.get (t := 2) (v := (.s (.int .u8 127))) (by kernel_rfl)) resN) (fin_of (fun _ _ _ _ _ h => by cases h) rfl))
  · rw [if_neg hb7] at h
    refine Runs.cond (he5.get (t := 4) (v := (.s (.bool (decide (a0 = 1))))) (by kernel_rfl)) (fun h0 => absurd h0 hb7) (fun _ => ?_)
    refine Runs.sq ?_
    refine Runs.region he5 [] [(6, (.s (.bool (decide (a0 = 2)))))] (h := []) (fun env => by kernel_rfl) trivial (fun e11 he10 => ?_)
    refine thenN ?_
    by_cases hb12 : (decide (a0 = 2)) = true
    · rw [if_pos hb12] at h
      refine Runs.cond (he10.get (t := 6) (v := (.s (.bool (decide (a0 = 2))))) (by kernel_rfl)) (fun _ => ?_) (fun h0 => absurd (hb12.symm.trans h0) (by decide))
      refine Runs.sq ?_
      refine Runs.region he10 [] [(2, (.s (.int .u8 126)))] (h := []) (fun env => by kernel_rfl) trivial (fun e14 he13 => ?_)
      refine thenN ?_
      refine Runs.ret ?_
      refine blockR ?_
      refine thenR ?_
      obtain rfl := Option.some.inj h
      exact RetOK34.endP ret_ne (RetOK34.of (resT (he13.get (t := 2) (v := (.s (.int .u8 126))) (by kernel_rfl)) resN) (fin_of (fun _ _ _ _ _ h => by cases h) rfl))
    · rw [if_neg hb12] at h
      refine Runs.cond (he10.get (t := 6) (v := (.s (.bool (decide (a0 = 2))))) (by kernel_rfl)) (fun h0 => absurd h0 hb12) (fun _ => ?_)
      refine Runs.skip ?_
      refine blockN ?_
      refine thenN ?_
      refine Runs.sq ?_
      refine Runs.region he10 [] [(2, (.s (.int .u8 64)))] (h := []) (fun env => by kernel_rfl) trivial (fun e16 he15 => ?_)
      refine thenN ?_
      refine Runs.ret ?_
      obtain rfl := Option.some.inj h
      exact RetOK34.endP ret_ne (RetOK34.of (resT (he15.get (t := 2) (v := (.s (.int .u8 64))) (by kernel_rfl)) resN) (fin_of (fun _ _ _ _ _ h => by cases h) rfl))
/-! grommet/expr.put -/
def L35_0 (g49 : Int → Option (List Int)) (n : Nat) : Nat → (List Int) → (List Int) → Int → Int → Option (LO (List Int) (List Int))
 | 0, _, _, _, _ => none
 | k + 1, s0, s7, s8, s9 =>
  if (decide (s9 < s8)) then
   if (0 : Int) ≤ s9 then
    (s7[s9.toNat]?).bind fun x10 =>
    (g49 (IntKind.u64.wrap x10)).bind fun r13 =>
    if (s0.length + r13.length) * 1 ≤ roomA then
     L35_0 g49 n k (s0 ++ r13) s7 s8 (IntKind.i64.wrap (s9 + 1))
    else none
   else none
  else
   some (LO.out (s0))
set_option maxHeartbeats 4000000 in
theorem L35_0_ok {m : Int} {n : Nat} {p0 : Prov} {H0 : Heap} (g49 : Int → Option (List Int)) (hg49 : ∀ (a0 : Int) (r : (List Int)) (H : Heap), g49 a0 = some r → evF P (T m) n 49 [(.s (.int .u64 a0))] H = some ((.sl (r.map (kAV .u8)) .ro), H)) : ∀ (k : Nat) (s0 : List Int) (s7 : List Int) (s8 : Int) (s9 : Int) (ps0_ : Prov) (ps7_ : Prov) (e : Env) (H : Heap) (hk : App 1 p0 H0 (s0.map (kAV .u8)) ps0_ H) (hcl : Closed H) (he : Sat [(0, (.sl (s0.map (kAV .u8)) ps0_)), (7, (.sl (s7.map intAV) ps7_)), (8, (.s (.int .i64 s8))), (9, (.s (.int .i64 s9)))] e) (out : LO (List Int) (List Int)) (h : L35_0 g49 n k s0 s7 s8 s9 = some out), ∃ x e' h', rdsOf P (T m) (evF P (T m) n) n 35 0 k e H = some (x, e', h') ∧ LOQ out (fun r => False) (fun o => (fun x e h => x = .exit 0 ∧ ∃ ps0_, ∃ Hs, App 1 p0 H0 (o.map (kAV .u8)) ps0_ Hs ∧ Closed Hs ∧ Sat [(0, (.sl (o.map (kAV .u8)) ps0_))] e ∧ h = Hs) x e' h') := by
  intro k
  induction k with
  | zero => intro _ _ _ _ _ _ _ _ _ _ _ _ h; cases h
  | succ k ih =>
    intro s0 s7 s8 s9 ps0_ ps7_ e H hk hcl he out h
    dsimp only [L35_0] at h
    refine rds_step (rd_of (fi := F35) (c35 m) rfl ?_)
    refine Runs.sq ?_
    refine Runs.region he [] [(0, (.sl (s0.map (kAV .u8)) ps0_)), (7, (.sl (s7.map intAV) ps7_)), (8, (.s (.int .i64 s8))), (9, (.s (.int .i64 s9))), (10, (.s (.bool (decide (s9 < s8)))))] (h := H) (fun env => by kernel_rfl) trivial (fun e6 he5 => ?_)
    refine thenN ?_
    refine Runs.sq ?_
    by_cases hb7 : (decide (s9 < s8)) = true
    · rw [if_pos hb7] at h
      refine Runs.cond (he5.get (t := 10) (v := (.s (.bool (decide (s9 < s8))))) (by kernel_rfl)) (fun _ => ?_) (fun h0 => absurd (hb7.symm.trans h0) (by decide))
      refine Runs.skip ?_
      refine thenN ?_
      refine Runs.sq ?_
      refine Runs.block ?_
      refine Runs.sq ?_
      by_cases hg8 : (0 : Int) ≤ s9
      rotate_left
      · rw [if_neg hg8] at h; cases h
      rw [if_pos hg8] at h
      obtain ⟨x10, hx9, h⟩ := Option.bind_eq_some_iff.1 h
      refine Runs.region he5 [(0, .e s9.toNat (.s (.int .i64 x10)))] [(0, (.sl (s0.map (kAV .u8)) ps0_)), (6, (.s (.int .i64 x10))), (7, (.sl (s7.map intAV) ps7_)), (8, (.s (.int .i64 s8))), (9, (.s (.int .i64 s9)))] (h := H) (fun env => by kernel_rfl) (And.intro (And.intro (at_nat hg8) (get_map (f := intAV) hx9)) trivial) (fun e12 he11 => ?_)
      refine thenN ?_
      obtain ⟨r13, hr14, h⟩ := Option.bind_eq_some_iff.1 h
      by_cases hr21 : (s0.length + r13.length) * 1 ≤ roomA
      rotate_left
      · rw [if_neg hr21] at h; cases h
      rw [if_pos hr21] at h
      obtain ⟨p15, H16, ha17, hk18, hcl19, hbx20⟩ := row_append (bytes := 1) (ys := (r13.map (kAV .u8))) (zs := ((s0 ++ r13).map (kAV .u8))) hk hcl (widths_map (f := (kAV .u8)) (k := 1) (fun _ => ⟨rfl, rfl⟩) r13) (List.map_append (f := (kAV .u8)) (l₁ := (s0 : List Int)) (l₂ := (r13 : List Int))).symm (by first | exact hr21 | simpa [insAVs_length] using hr21)
      refine Runs.region he11 [(3, .f (.sl (r13.map (kAV .u8)) .ro) H), (4, .f (.sl ((s0 ++ r13).map (kAV .u8)) p15) H16)] [(0, (.sl ((s0 ++ r13).map (kAV .u8)) p15)), (7, (.sl (s7.map intAV) ps7_)), (8, (.s (.int .i64 s8))), (9, (.s (.int .i64 s9)))] (h := H16) (fun env => by kernel_rfl) (And.intro (hg49 (IntKind.u64.wrap x10)  _ H  hr14) (And.intro ((appendC_of (sz := 1) (bytes := 1) (t := 26) (tx := 26) (bf := (F35.bf.contains ·)) (x := (.sl (s0.map (kAV .u8)) ps0_)) (H := H) (by kernel_rfl) (by kernel_rfl) (src_sl (P := P) (tx := 26) (H := H) (p := .ro) (by kernel_rfl) (widths_map (f := (kAV .u8)) (k := 1) (fun _ => ⟨rfl, rfl⟩) r13))).trans ha17) trivial)) (fun e23 he22 => ?_)
      refine blockN ?_
      refine thenN ?_
      refine Runs.region he22 [] [(0, (.sl ((s0 ++ r13).map (kAV .u8)) p15)), (7, (.sl (s7.map intAV) ps7_)), (8, (.s (.int .i64 s8))), (9, (.s (.int .i64 (IntKind.i64.wrap (s9 + 1)))))] (h := H16) (fun env => by kernel_rfl) trivial (fun e25 he24 => ?_)
      refine thenN ?_
      exact ih (s0 ++ r13) s7 s8 (IntKind.i64.wrap (s9 + 1)) p15 ps7_ _ H16 hk18 hcl19 (he24.sub (by kernel_rfl)) _ h
    · rw [if_neg hb7] at h
      refine Runs.cond (he5.get (t := 10) (v := (.s (.bool (decide (s9 < s8))))) (by kernel_rfl)) (fun h0 => absurd h0 hb7) (fun _ => ?_)
      refine Runs.exit ?_
      refine thenX ?_
      refine thenX ?_
      obtain rfl := Option.some.inj h
      exact LOQ.o ⟨rfl, ps0_, H, hk, hcl, he5.sub (by kernel_rfl), rfl⟩
def S35 (g49 : Int → Option (List Int)) (n : Nat) (a0 : List Int) (a1 : List Int) : Option ((List Int)) :=
 (L35_0 g49 n n a0 a1 (a1.length : Int) (0 : Int)).bind fun lo26 => match lo26 with
 | .ret _ => none
 | .out o32 =>
  some o32
set_option maxHeartbeats 4000000 in
theorem S35_ok {m : Int} {n : Nat} (g49 : Int → Option (List Int)) (hg49 : ∀ (a0 : Int) (r : (List Int)) (H : Heap), g49 a0 = some r → evF P (T m) n 49 [(.s (.int .u64 a0))] H = some ((.sl (r.map (kAV .u8)) .ro), H)) (a0 : List Int) (a1 : List Int) (q0 q1 : Prov) (r : (List Int)) (H : Heap) (hok : AppOK 1 H (a0.map (kAV .u8)) q0) (hcl : Closed H) (h : S35 g49 n a0 a1 = some r) : ∃ p' H', evF P (T m) (n + 1) 35 [.sl (a0.map (kAV .u8)) q0, .sl (a1.map intAV) q1] H = some (.sl (r.map (kAV .u8)) p', H') ∧ App 1 q0 H (r.map (kAV .u8)) p' H' ∧ Closed H' := by
  refine row_call (call_imp (fi := F35) (x35 m) (oh35 m) (o35 m) (c35 m) rfl rfl ?_)
  dsimp only [S35] at h
  have he : Sat [(0, (.sl (a0.map (kAV .u8)) q0)), (1, (.sl (a1.map intAV) q1))] (argEnv [(.sl (a0.map (kAV .u8)) q0), (.sl (a1.map intAV) q1)]) := Sat.cons rfl (Sat.cons rfl (Sat.nil))
  refine (show Runs P (T m) (evF P (T m) n) n 35 F35 0 F35.body (argEnv [(.sl (a0.map (kAV .u8)) q0), (.sl (a1.map intAV) q1)]) H _ from ?_)
  generalize argEnv [(.sl (a0.map (kAV .u8)) q0), (.sl (a1.map intAV) q1)] = e at he ⊢
  have hk0 := App.start hok
  refine Runs.sq ?_
  refine Runs.region he [] [(0, (.sl (a0.map (kAV .u8)) q0)), (1, (.sl (a1.map intAV) q1))] (h := H) (fun env => by kernel_rfl) trivial (fun e2 he1 => ?_)
  refine thenN ?_
  refine Runs.sq ?_
  refine Runs.sq ?_
  refine Runs.region he1 [(1, .i (a1.length : Int))] [(0, (.sl (a0.map (kAV .u8)) q0)), (7, (.sl (a1.map intAV) q1)), (8, (.s (.int .i64 (a1.length : Int)))), (9, (.s (.int .i64 0)))] (h := H) (fun env => by kernel_rfl) (And.intro (len_map (l := a1) (f := intAV)) trivial) (fun e4 he3 => ?_)
  refine thenN ?_
  refine Runs.block ?_
  obtain ⟨lo26, hl27, h⟩ := Option.bind_eq_some_iff.1 h
  obtain ⟨x28, e29, he29, hd31, hq30⟩ := L35_0_ok (p0 := q0) (H0 := H) g49 hg49 n a0 a1 (a1.length : Int) (0 : Int) q0 q1 _ H hk0 hcl (he3.sub (by kernel_rfl)) lo26 hl27
  refine Runs.loop ⟨x28, e29, he29, by rw [lpOf_eq]; exact hd31, ?_⟩
  cases lo26 with
  | ret rx28 =>
    dsimp only at h
    cases h
  | out o32 =>
    dsimp only at h
    obtain ⟨rfl, p37, H35, hk36, hcl38, he33, hh34⟩ := hq30
    rw [hh34]
    refine blockE ?_
    refine thenN ?_
    refine Runs.sq ?_
    refine Runs.region he33 [] [(4, (.sl (o32.map (kAV .u8)) p37))] (h := H35) (fun env => by kernel_rfl) trivial (fun e40 he39 => ?_)
    refine thenN ?_
    refine Runs.ret ?_
    obtain rfl := Option.some.inj h
    exact row_ret ret_ne rfl rfl (he39.get (t := 4) (v := (.sl (o32.map (kAV .u8)) p37)) (by kernel_rfl)) hk36 hcl (shutL_map (fun _ => rfl) o32)
/-! grommet/expr.one -/
def S18 (g34 : Int → Option Int) (g10 : (List Int) → (List Ins) → Option (List Int)) (g35 : (List Int) → (List Int) → Option (List Int)) (g36 : Int → Option (List Int)) (g20 : Int → Option (OpR × Err)) (n : Nat) (a0 : List Int) (a1 : Ins) : Option ((List Int)) :=
 match a1 with
 | .mk a1_op a1_a a1_b a1_v a1_t a1_l a1_body a1_els a1_has =>
 (g20 a1_op).bind fun r9 =>
 match r9 with
 | (r9_0, r9_1) =>
  (show Option (Bool) from
   match r9_1 with
   | .nil =>
    some false
   | .code c29 =>
    some true).bind fun v27 =>
  if v27 then
   some a0
  else
   if (a0.length + 1) * 1 ≤ roomA then
    if (decide (r9_0.kind = 2)) then
     (g34 a1_t).bind fun r51 =>
     if ((a0 ++ [(IntKind.u8.wrap a1_op)]).length + 1) * 1 ≤ roomA then
      (g10 ((a0 ++ [(IntKind.u8.wrap a1_op)]) ++ [r51]) a1_body).bind fun r62 =>
      if a1_has then
       if (r62.length + 1) * 1 ≤ roomA then
        (g10 (r62 ++ [(5 : Int)]) a1_els).bind fun r86 =>
        if (r86.length + 1) * 1 ≤ roomA then
         some (r86 ++ [(11 : Int)])
        else none
       else none
      else
       if (r62.length + 1) * 1 ≤ roomA then
        some (r62 ++ [(11 : Int)])
       else none
     else none
    else
     (show Option (Bool) from
      if (decide (r9_0.kind = 7)) then
       some true
      else
       some (decide (r9_0.kind = 8))).bind fun v120 =>
     if v120 then
      (g35 (a0 ++ [(IntKind.u8.wrap a1_op)]) [a1_a, a1_b]).bind fun r128 =>
      some r128
     else
      if (decide (r9_0.kind = 9)) then
       if ((a0 ++ [(IntKind.u8.wrap a1_op)]).length + 1) * 1 ≤ roomA then
        some ((a0 ++ [(IntKind.u8.wrap a1_op)]) ++ [(0 : Int)])
       else none
      else
       (show Option (Bool) from
        if (decide (r9_0.kind = 10)) then
         some (decide (r9_0.gives = 1))
        else
         some false).bind fun v154 =>
       if v154 then
        (g36 (IntKind.i64.wrap (IntKind.i32.wrap (IntKind.u32.wrap a1_v)))).bind fun r162 =>
        if ((a0 ++ [(IntKind.u8.wrap a1_op)]).length + r162.length) * 1 ≤ roomA then
         some ((a0 ++ [(IntKind.u8.wrap a1_op)]) ++ r162)
        else none
       else
        if (decide (r9_0.kind = 10)) then
         (g36 (IntKind.i64.wrap a1_v)).bind fun r178 =>
         if ((a0 ++ [(IntKind.u8.wrap a1_op)]).length + r178.length) * 1 ≤ roomA then
          some ((a0 ++ [(IntKind.u8.wrap a1_op)]) ++ r178)
         else none
        else
         if (decide (a1_op = 14)) then
          (g35 (a0 ++ [(IntKind.u8.wrap a1_op)]) [(IntKind.i64.wrap ((a1_l.length : Int) - 1))]).bind fun r194 =>
          (g35 r194 a1_l).bind fun r204 =>
          some r204
         else
          if (decide (a1_op = 17)) then
           (g35 (a0 ++ [(IntKind.u8.wrap a1_op)]) [a1_a]).bind fun r219 =>
           if (r219.length + 1) * 1 ≤ roomA then
            some (r219 ++ [(0 : Int)])
           else none
          else
           (show Option (Bool) from
            if (decide (r9_0.kind = 4)) then
             some true
            else
             if (decide (r9_0.kind = 6)) then
              some true
             else
              if (decide (a1_op = 12)) then
               some true
              else
               some (decide (a1_op = 13))).bind fun v240 =>
           if v240 then
            (g35 (a0 ++ [(IntKind.u8.wrap a1_op)]) [a1_a]).bind fun r250 =>
            some r250
           else
            some (a0 ++ [(IntKind.u8.wrap a1_op)])
   else none
set_option maxHeartbeats 4000000 in
theorem S18_ok {m : Int} {n : Nat} (g34 : Int → Option Int) (hg34 : ∀ (a0 : Int) (r : Int) (H : Heap), g34 a0 = some r → evF P (T m) n 34 [(.s (.int .i64 a0))] H = some ((.s (.int .u8 r)), H)) (g10 : (List Int) → (List Ins) → Option (List Int)) (hg10 : ∀ (a0 : List Int) (a1 : List Ins) (q0 q1 : Prov) (r : (List Int)) (H : Heap), AppOK 1 H (a0.map (kAV .u8)) q0 → Closed H → g10 a0 a1 = some r → ∃ p' H', evF P (T m) n 10 [.sl (a0.map (kAV .u8)) q0, .sl (insAVs a1) q1] H = some (.sl (r.map (kAV .u8)) p', H') ∧ App 1 q0 H (r.map (kAV .u8)) p' H' ∧ Closed H') (g35 : (List Int) → (List Int) → Option (List Int)) (hg35 : ∀ (a0 : List Int) (a1 : List Int) (q0 q1 : Prov) (r : (List Int)) (H : Heap), AppOK 1 H (a0.map (kAV .u8)) q0 → Closed H → g35 a0 a1 = some r → ∃ p' H', evF P (T m) n 35 [.sl (a0.map (kAV .u8)) q0, .sl (a1.map intAV) q1] H = some (.sl (r.map (kAV .u8)) p', H') ∧ App 1 q0 H (r.map (kAV .u8)) p' H' ∧ Closed H') (g36 : Int → Option (List Int)) (hg36 : ∀ (a0 : Int) (r : (List Int)) (H : Heap), g36 a0 = some r → evF P (T m) n 36 [(.s (.int .i64 a0))] H = some ((.sl (r.map (kAV .u8)) .ro), H)) (g20 : Int → Option (OpR × Err)) (hg20 : ∀ (a0 : Int) (r : OpR × Err) (H : Heap), g20 a0 = some r → evF P (T m) n 20 [(.s (.int .i64 a0))] H = some ((.tup [(OpR.av r.1), (Err.av r.2)]), H)) (a0 : List Int) (a1 : Ins) (q0 : Prov) (r : (List Int)) (H : Heap) (hok : AppOK 1 H (a0.map (kAV .u8)) q0) (hcl : Closed H) (h : S18 g34 g10 g35 g36 g20 n a0 a1 = some r) : ∃ p' H', evF P (T m) (n + 1) 18 [.sl (a0.map (kAV .u8)) q0, (Ins.av a1)] H = some (.sl (r.map (kAV .u8)) p', H') ∧ App 1 q0 H (r.map (kAV .u8)) p' H' ∧ Closed H' := by
  refine row_call (call_imp (fi := F18) (x18 m) (oh18 m) (o18 m) (c18 m) rfl rfl ?_)
  obtain ⟨a1_op, a1_a, a1_b, a1_v, a1_t, a1_l, a1_body, a1_els, a1_has⟩ := a1
  dsimp only [S18] at h
  have he : Sat [(0, (.sl (a0.map (kAV .u8)) q0)), (1, (.agg [(.s (.int .i64 a1_op)), (.s (.int .i64 a1_a)), (.s (.int .i64 a1_b)), (.s (.int .u64 a1_v)), (.s (.int .i64 a1_t)), (.sl (a1_l.map intAV) .ro), (.sl (insAVs a1_body) .ro), (.sl (insAVs a1_els) .ro), (.s (.bool a1_has))]))] (argEnv [(.sl (a0.map (kAV .u8)) q0), (.agg [(.s (.int .i64 a1_op)), (.s (.int .i64 a1_a)), (.s (.int .i64 a1_b)), (.s (.int .u64 a1_v)), (.s (.int .i64 a1_t)), (.sl (a1_l.map intAV) .ro), (.sl (insAVs a1_body) .ro), (.sl (insAVs a1_els) .ro), (.s (.bool a1_has))])]) := Sat.cons rfl (Sat.cons rfl (Sat.nil))
  refine (show Runs P (T m) (evF P (T m) n) n 18 F18 0 F18.body (argEnv [(.sl (a0.map (kAV .u8)) q0), (.agg [(.s (.int .i64 a1_op)), (.s (.int .i64 a1_a)), (.s (.int .i64 a1_b)), (.s (.int .u64 a1_v)), (.s (.int .i64 a1_t)), (.sl (a1_l.map intAV) .ro), (.sl (insAVs a1_body) .ro), (.sl (insAVs a1_els) .ro), (.s (.bool a1_has))])]) H _ from ?_)
  generalize argEnv [(.sl (a0.map (kAV .u8)) q0), (.agg [(.s (.int .i64 a1_op)), (.s (.int .i64 a1_a)), (.s (.int .i64 a1_b)), (.s (.int .u64 a1_v)), (.s (.int .i64 a1_t)), (.sl (a1_l.map intAV) .ro), (.sl (insAVs a1_body) .ro), (.sl (insAVs a1_els) .ro), (.s (.bool a1_has))])] = e at he ⊢
  have hk0 := App.start hok
  refine Runs.sq ?_
  obtain ⟨H1, hH2⟩ : ∃ X : Heap, H ++ [Rec.box [(.s (.int .i64 a1_op)), (.s (.int .i64 a1_a)), (.s (.int .i64 a1_b)), (.s (.int .u64 a1_v)), (.s (.int .i64 a1_t)), (.sl (a1_l.map intAV) .ro), (.sl (insAVs a1_body) .ro), (.sl (insAVs a1_els) .ro), (.s (.bool a1_has))]] = X := ⟨_, rfl⟩
  have hb3 : H1[H.length]? = some (Rec.box [(.s (.int .i64 a1_op)), (.s (.int .i64 a1_a)), (.s (.int .i64 a1_b)), (.s (.int .u64 a1_v)), (.s (.int .i64 a1_t)), (.sl (a1_l.map intAV) .ro), (.sl (insAVs a1_body) .ro), (.sl (insAVs a1_els) .ro), (.s (.bool a1_has))]) := hH2 ▸ late_get
  have hk4 := (hH2 ▸ App.box (cs := [(.s (.int .i64 a1_op)), (.s (.int .i64 a1_a)), (.s (.int .i64 a1_b)), (.s (.int .u64 a1_v)), (.s (.int .i64 a1_t)), (.sl (a1_l.map intAV) .ro), (.sl (insAVs a1_body) .ro), (.sl (insAVs a1_els) .ro), (.s (.bool a1_has))]) hk0 : App _ _ _ _ _ H1)
  have hge6 := hk0.stay.1
  have hcl5 : Closed H1 := hH2 ▸ Closed.push hcl (box_shut (shut_aggM (shut_consM rfl (shut_consM rfl (shut_consM rfl (shut_consM rfl (shut_consM rfl (shut_consM (shut_slM (shutL_map (fun _ => rfl) a1_l)) (shut_consM (shut_slM (Ins.shutL _ a1_body)) (shut_consM (shut_slM (Ins.shutL _ a1_els)) (shut_consM rfl rfl)))))))))))
  refine Runs.region he [(0, .nb H.length H1)] [(0, (.sl (a0.map (kAV .u8)) q0)), (3, (.ptr H.length 0))] (h := H1) (fun env => by kernel_rfl) (And.intro (And.intro (rfl : H.length = H.length) hH2) trivial) (fun e8 he7 => ?_)
  refine thenN ?_
  refine Runs.sq ?_
  obtain ⟨r9, hr10, h⟩ := Option.bind_eq_some_iff.1 h
  obtain ⟨r9_0, r9_1⟩ := r9
  dsimp only at h
  have hne18 := tok_ne hb3
  obtain ⟨H11, hH12⟩ : ∃ X : Heap, H1 ++ [Rec.box [(.s (.int .i64 0)), (.s (.string ⟨#[]⟩)), (.s (.int .i64 0)), (.sl [] .full), (.s (.int .i64 0)), (.s (.int .i64 0)), (.s (.bool false))]] = X := ⟨_, rfl⟩
  have hb13 : H11[H1.length]? = some (Rec.box [(.s (.int .i64 0)), (.s (.string ⟨#[]⟩)), (.s (.int .i64 0)), (.sl [] .full), (.s (.int .i64 0)), (.s (.int .i64 0)), (.s (.bool false))]) := hH12 ▸ late_get
  have hk14 := (hH12 ▸ App.box (cs := [(.s (.int .i64 0)), (.s (.string ⟨#[]⟩)), (.s (.int .i64 0)), (.sl [] .full), (.s (.int .i64 0)), (.s (.int .i64 0)), (.s (.bool false))]) hk4 : App _ _ _ _ _ H11)
  have hge16 := hk4.stay.1
  have hb17 : H11[H.length]? = some (Rec.box [(.s (.int .i64 a1_op)), (.s (.int .i64 a1_a)), (.s (.int .i64 a1_b)), (.s (.int .u64 a1_v)), (.s (.int .i64 a1_t)), (.sl (a1_l.map intAV) .ro), (.sl (insAVs a1_body) .ro), (.sl (insAVs a1_els) .ro), (.s (.bool a1_has))]) := hH12 ▸ get_ext hb3
  obtain ⟨H19, hH20⟩ : ∃ X : Heap, List.set H11 H1.length (Rec.box [(.s (.int .i64 r9_0.byte)), (.s (.string r9_0.name)), (.s (.int .i64 r9_0.kind)), (.sl (r9_0.takes.map intAV) .ro), (.s (.int .i64 r9_0.gives)), (.s (.int .i64 r9_0.bytes)), (.s (.bool r9_0.signed))]) = X := ⟨_, rfl⟩
  have hb21 := set_at hb13 hH20
  have hk22 := (hH20 ▸ App.setbox (ds := [(.s (.int .i64 r9_0.byte)), (.s (.string r9_0.name)), (.s (.int .i64 r9_0.kind)), (.sl (r9_0.takes.map intAV) .ro), (.s (.int .i64 r9_0.gives)), (.s (.int .i64 r9_0.bytes)), (.s (.bool r9_0.signed))]) hk14 hb13 hge16 : App _ _ _ _ _ H19)
  have hcl23 : Closed H19 := box_open hH12 hH20 hcl5 (box_shut (shut_aggM (shut_consM rfl (shut_consM rfl (shut_consM rfl (shut_consM (shut_slM (shutL_map (fun _ => rfl) r9_0.takes)) (shut_consM rfl (shut_consM rfl (shut_consM rfl rfl)))))))))
  have hb24 := set_off hb17 hH20 hne18
  refine Runs.region he7 [(1, .c [(.s (.int .i64 a1_op)), (.s (.int .i64 a1_a)), (.s (.int .i64 a1_b)), (.s (.int .u64 a1_v)), (.s (.int .i64 a1_t)), (.sl (a1_l.map intAV) .ro), (.sl (insAVs a1_body) .ro), (.sl (insAVs a1_els) .ro), (.s (.bool a1_has))]), (2, .f (.tup [(.agg [(.s (.int .i64 r9_0.byte)), (.s (.string r9_0.name)), (.s (.int .i64 r9_0.kind)), (.sl (r9_0.takes.map intAV) .ro), (.s (.int .i64 r9_0.gives)), (.s (.int .i64 r9_0.bytes)), (.s (.bool r9_0.signed))]), (Err.av r9_1)]) H1), (6, .nb H1.length H11), (7, .st [(.s (.int .i64 0)), (.s (.string ⟨#[]⟩)), (.s (.int .i64 0)), (.sl [] .full), (.s (.int .i64 0)), (.s (.int .i64 0)), (.s (.bool false))] H19)] [(0, (.sl (a0.map (kAV .u8)) q0)), (3, (.ptr H.length 0)), (5, (.ptr H1.length 0)), (6, (Err.av r9_1))] (h := H19) (fun env => by kernel_rfl) (And.intro hb3 (And.intro (hg20 a1_op  _ H1  hr10) (And.intro (And.intro (rfl : H1.length = H1.length) hH12) (And.intro (And.intro hb13 hH20) trivial)))) (fun e26 he25 => ?_)
  refine thenN ?_
  refine Runs.sq ?_
  refine Runs.sq ?_
  obtain ⟨v27, hm28, h⟩ := Option.bind_eq_some_iff.1 h
  refine Runs.mono (Q := fun x e h => x = .normal ∧ Sat [(0, (.sl (a0.map (kAV .u8)) q0)), (3, (.ptr H.length 0)), (5, (.ptr H1.length 0)), (14, (.s (.bool v27)))] e ∧ h = H19) ?_ ?_
  · cases r9_1 with
    | nil =>
      dsimp only at hm28
      obtain rfl := Option.some.inj hm28
      exact Runs.region he25 [] [(0, (.sl (a0.map (kAV .u8)) q0)), (3, (.ptr H.length 0)), (5, (.ptr H1.length 0)), (14, (.s (.bool false)))] (h := H19) (fun env => by kernel_rfl) trivial (fun _ h => ⟨rfl, h, rfl⟩)
    | code c29 =>
      dsimp only at hm28
      obtain rfl := Option.some.inj hm28
      exact Runs.region he25 [] [(0, (.sl (a0.map (kAV .u8)) q0)), (3, (.ptr H.length 0)), (5, (.ptr H1.length 0)), (14, (.s (.bool true)))] (h := H19) (fun env => by kernel_rfl) trivial (fun _ h => ⟨rfl, h, rfl⟩)
  rintro _ e31 h32 ⟨rfl, he30, hh33⟩
  rw [hh33]
  refine thenN ?_
  by_cases hb34 : v27 = true
  · rw [if_pos hb34] at h
    refine Runs.cond (he30.get (t := 14) (v := (.s (.bool v27))) (by kernel_rfl)) (fun _ => ?_) (fun h0 => absurd (hb34.symm.trans h0) (by decide))
    refine Runs.sq ?_
    refine Runs.region he30 [] [(4, (.sl (a0.map (kAV .u8)) q0))] (h := H19) (fun env => by kernel_rfl) trivial (fun e36 he35 => ?_)
    refine thenN ?_
    refine Runs.ret ?_
    refine thenR ?_
    obtain rfl := Option.some.inj h
    exact row_ret ret_ne rfl rfl (he35.get (t := 4) (v := (.sl (a0.map (kAV .u8)) q0)) (by kernel_rfl)) hk22 hcl (shutL_map (fun _ => rfl) a0)
  · rw [if_neg hb34] at h
    refine Runs.cond (he30.get (t := 14) (v := (.s (.bool v27))) (by kernel_rfl)) (fun h0 => absurd h0 hb34) (fun _ => ?_)
    refine Runs.skip ?_
    refine thenN ?_
    refine Runs.sq ?_
    by_cases hr43 : (a0.length + 1) * 1 ≤ roomA
    rotate_left
    · rw [if_neg hr43] at h; cases h
    rw [if_pos hr43] at h
    obtain ⟨p37, H38, ha39, hk40, hcl41, hbx42⟩ := row_append (bytes := 1) (ys := [(.s (.int .u8 (IntKind.u8.wrap a1_op)))]) (zs := ((a0 ++ [(IntKind.u8.wrap a1_op)]).map (kAV .u8))) hk22 hcl23 rfl (List.map_append (f := (kAV .u8)) (l₁ := (a0 : List Int)) (l₂ := ([(IntKind.u8.wrap a1_op)] : List Int))).symm (by first | exact hr43 | simpa [insAVs_length] using hr43)
    have hb44 := hbx42 _ _ hb24
    have hb45 := hbx42 _ _ hb21
    refine Runs.region he30 [(2, .c [(.s (.int .i64 a1_op)), (.s (.int .i64 a1_a)), (.s (.int .i64 a1_b)), (.s (.int .u64 a1_v)), (.s (.int .i64 a1_t)), (.sl (a1_l.map intAV) .ro), (.sl (insAVs a1_body) .ro), (.sl (insAVs a1_els) .ro), (.s (.bool a1_has))]), (5, .f (.sl ((a0 ++ [(IntKind.u8.wrap a1_op)]).map (kAV .u8)) p37) H38)] [(0, (.sl ((a0 ++ [(IntKind.u8.wrap a1_op)]).map (kAV .u8)) p37)), (3, (.ptr H.length 0)), (5, (.ptr H1.length 0))] (h := H38) (fun env => by kernel_rfl) (And.intro hb24 (And.intro ((appendC_of (sz := 1) (bytes := 1) (t := 26) (tx := 26) (bf := (F18.bf.contains ·)) (x := (.sl (a0.map (kAV .u8)) q0)) (H := H19) (by kernel_rfl) (by kernel_rfl) (src_sl (P := P) (tx := 26) (H := H19) (p := .full) (by kernel_rfl) rfl)).trans ha39) trivial)) (fun e47 he46 => ?_)
    refine thenN ?_
    refine Runs.sq ?_
    refine Runs.block ?_
    refine Runs.sq ?_
    refine Runs.region he46 [(1, .c [(.s (.int .i64 r9_0.byte)), (.s (.string r9_0.name)), (.s (.int .i64 r9_0.kind)), (.sl (r9_0.takes.map intAV) .ro), (.s (.int .i64 r9_0.gives)), (.s (.int .i64 r9_0.bytes)), (.s (.bool r9_0.signed))])] [(0, (.sl ((a0 ++ [(IntKind.u8.wrap a1_op)]).map (kAV .u8)) p37)), (3, (.ptr H.length 0)), (5, (.ptr H1.length 0)), (22, (.s (.bool (decide (r9_0.kind = 2)))))] (h := H38) (fun env => by kernel_rfl) (And.intro hb45 trivial) (fun e49 he48 => ?_)
    refine thenN ?_
    by_cases hb50 : (decide (r9_0.kind = 2)) = true
    · rw [if_pos hb50] at h
      refine Runs.cond (he48.get (t := 22) (v := (.s (.bool (decide (r9_0.kind = 2))))) (by kernel_rfl)) (fun _ => ?_) (fun h0 => absurd (hb50.symm.trans h0) (by decide))
      refine Runs.sq ?_
      obtain ⟨r51, hr52, h⟩ := Option.bind_eq_some_iff.1 h
      by_cases hr59 : ((a0 ++ [(IntKind.u8.wrap a1_op)]).length + 1) * 1 ≤ roomA
      rotate_left
      · rw [if_neg hr59] at h; cases h
      rw [if_pos hr59] at h
      obtain ⟨p53, H54, ha55, hk56, hcl57, hbx58⟩ := row_append (bytes := 1) (ys := [(.s (.int .u8 r51))]) (zs := (((a0 ++ [(IntKind.u8.wrap a1_op)]) ++ [r51]).map (kAV .u8))) hk40 hcl41 rfl (List.map_append (f := (kAV .u8)) (l₁ := ((a0 ++ [(IntKind.u8.wrap a1_op)]) : List Int)) (l₂ := ([r51] : List Int))).symm (by first | exact hr59 | simpa [insAVs_length] using hr59)
      have hb60 := hbx58 _ _ hb44
      have hb61 := hbx58 _ _ hb45
      obtain ⟨r62, hr63, h⟩ := Option.bind_eq_some_iff.1 h
      obtain ⟨p64, H65, ha66, hk67, hcl69⟩ := hg10 ((a0 ++ [(IntKind.u8.wrap a1_op)]) ++ [r51]) a1_body p53 .ro _ H54 hk56.ok hcl57 hr63
      have hk68 := hk56.trans hk67
      have hb70 := hk56.keeps hk67 _ _ hb60
      have hb71 := hk56.keeps hk67 _ _ hb61
      refine Runs.region he48 [(2, .c [(.s (.int .i64 a1_op)), (.s (.int .i64 a1_a)), (.s (.int .i64 a1_b)), (.s (.int .u64 a1_v)), (.s (.int .i64 a1_t)), (.sl (a1_l.map intAV) .ro), (.sl (insAVs a1_body) .ro), (.sl (insAVs a1_els) .ro), (.s (.bool a1_has))]), (3, .f (.s (.int .u8 r51)) H38), (5, .f (.sl (((a0 ++ [(IntKind.u8.wrap a1_op)]) ++ [r51]).map (kAV .u8)) p53) H54), (7, .c [(.s (.int .i64 a1_op)), (.s (.int .i64 a1_a)), (.s (.int .i64 a1_b)), (.s (.int .u64 a1_v)), (.s (.int .i64 a1_t)), (.sl (a1_l.map intAV) .ro), (.sl (insAVs a1_body) .ro), (.sl (insAVs a1_els) .ro), (.s (.bool a1_has))]), (8, .f (.sl (r62.map (kAV .u8)) p64) H65)] [(0, (.sl (r62.map (kAV .u8)) p64)), (3, (.ptr H.length 0))] (h := H65) (fun env => by kernel_rfl) (And.intro hb44 (And.intro (hg34 a1_t  _ H38  hr52) (And.intro ((appendC_of (sz := 1) (bytes := 1) (t := 26) (tx := 26) (bf := (F18.bf.contains ·)) (x := (.sl ((a0 ++ [(IntKind.u8.wrap a1_op)]).map (kAV .u8)) p37)) (H := H38) (by kernel_rfl) (by kernel_rfl) (src_sl (P := P) (tx := 26) (H := H38) (p := .full) (by kernel_rfl) rfl)).trans ha55) (And.intro hb60 (And.intro ha66 trivial))))) (fun e73 he72 => ?_)
      refine thenN ?_
      refine Runs.sq ?_
      refine Runs.sq ?_
      refine Runs.region he72 [(1, .c [(.s (.int .i64 a1_op)), (.s (.int .i64 a1_a)), (.s (.int .i64 a1_b)), (.s (.int .u64 a1_v)), (.s (.int .i64 a1_t)), (.sl (a1_l.map intAV) .ro), (.sl (insAVs a1_body) .ro), (.sl (insAVs a1_els) .ro), (.s (.bool a1_has))])] [(0, (.sl (r62.map (kAV .u8)) p64)), (3, (.ptr H.length 0)), (36, (.s (.bool a1_has)))] (h := H65) (fun env => by kernel_rfl) (And.intro hb70 trivial) (fun e75 he74 => ?_)
      refine thenN ?_
      by_cases hb76 : a1_has = true
      · rw [if_pos hb76] at h
        refine Runs.cond (he74.get (t := 36) (v := (.s (.bool a1_has))) (by kernel_rfl)) (fun _ => ?_) (fun h0 => absurd (hb76.symm.trans h0) (by decide))
        by_cases hr83 : (r62.length + 1) * 1 ≤ roomA
        rotate_left
        · rw [if_neg hr83] at h; cases h
        rw [if_pos hr83] at h
        obtain ⟨p77, H78, ha79, hk80, hcl81, hbx82⟩ := row_append (bytes := 1) (ys := [(.s (.int .u8 5))]) (zs := ((r62 ++ [(5 : Int)]).map (kAV .u8))) hk68 hcl69 rfl (List.map_append (f := (kAV .u8)) (l₁ := (r62 : List Int)) (l₂ := ([(5 : Int)] : List Int))).symm (by first | exact hr83 | simpa [insAVs_length] using hr83)
        have hb84 := hbx82 _ _ hb70
        have hb85 := hbx82 _ _ hb71
        obtain ⟨r86, hr87, h⟩ := Option.bind_eq_some_iff.1 h
        obtain ⟨p88, H89, ha90, hk91, hcl93⟩ := hg10 (r62 ++ [(5 : Int)]) a1_els p77 .ro _ H78 hk80.ok hcl81 hr87
        have hk92 := hk80.trans hk91
        have hb94 := hk80.keeps hk91 _ _ hb84
        have hb95 := hk80.keeps hk91 _ _ hb85
        refine Runs.region he74 [(2, .f (.sl ((r62 ++ [(5 : Int)]).map (kAV .u8)) p77) H78), (4, .c [(.s (.int .i64 a1_op)), (.s (.int .i64 a1_a)), (.s (.int .i64 a1_b)), (.s (.int .u64 a1_v)), (.s (.int .i64 a1_t)), (.sl (a1_l.map intAV) .ro), (.sl (insAVs a1_body) .ro), (.sl (insAVs a1_els) .ro), (.s (.bool a1_has))]), (5, .f (.sl (r86.map (kAV .u8)) p88) H89)] [(0, (.sl (r86.map (kAV .u8)) p88))] (h := H89) (fun env => by kernel_rfl) (And.intro ((appendC_of (sz := 1) (bytes := 1) (t := 26) (tx := 26) (bf := (F18.bf.contains ·)) (x := (.sl (r62.map (kAV .u8)) p64)) (H := H65) (by kernel_rfl) (by kernel_rfl) (src_sl (P := P) (tx := 26) (H := H65) (p := .full) (by kernel_rfl) rfl)).trans ha79) (And.intro hb84 (And.intro ha90 trivial))) (fun e97 he96 => ?_)
        refine thenN ?_
        refine Runs.sq ?_
        by_cases hr104 : (r86.length + 1) * 1 ≤ roomA
        rotate_left
        · rw [if_neg hr104] at h; cases h
        rw [if_pos hr104] at h
        obtain ⟨p98, H99, ha100, hk101, hcl102, hbx103⟩ := row_append (bytes := 1) (ys := [(.s (.int .u8 11))]) (zs := ((r86 ++ [(11 : Int)]).map (kAV .u8))) hk92 hcl93 rfl (List.map_append (f := (kAV .u8)) (l₁ := (r86 : List Int)) (l₂ := ([(11 : Int)] : List Int))).symm (by first | exact hr104 | simpa [insAVs_length] using hr104)
        have hb105 := hbx103 _ _ hb94
        have hb106 := hbx103 _ _ hb95
        refine Runs.region he96 [(2, .f (.sl ((r86 ++ [(11 : Int)]).map (kAV .u8)) p98) H99)] [(4, (.sl ((r86 ++ [(11 : Int)]).map (kAV .u8)) p98))] (h := H99) (fun env => by kernel_rfl) (And.intro ((appendC_of (sz := 1) (bytes := 1) (t := 26) (tx := 26) (bf := (F18.bf.contains ·)) (x := (.sl (r86.map (kAV .u8)) p88)) (H := H89) (by kernel_rfl) (by kernel_rfl) (src_sl (P := P) (tx := 26) (H := H89) (p := .full) (by kernel_rfl) rfl)).trans ha100) trivial) (fun e108 he107 => ?_)
        refine thenN ?_
        refine Runs.ret ?_
        refine blockR ?_
        refine thenR ?_
        obtain rfl := Option.some.inj h
        exact row_ret ret_ne rfl rfl (he107.get (t := 4) (v := (.sl ((r86 ++ [(11 : Int)]).map (kAV .u8)) p98)) (by kernel_rfl)) hk101 hcl (shutL_map (fun _ => rfl) (r86 ++ [(11 : Int)]))
      · rw [if_neg hb76] at h
        refine Runs.cond (he74.get (t := 36) (v := (.s (.bool a1_has))) (by kernel_rfl)) (fun h0 => absurd h0 hb76) (fun _ => ?_)
        refine Runs.skip ?_
        refine thenN ?_
        refine Runs.sq ?_
        by_cases hr115 : (r62.length + 1) * 1 ≤ roomA
        rotate_left
        · rw [if_neg hr115] at h; cases h
        rw [if_pos hr115] at h
        obtain ⟨p109, H110, ha111, hk112, hcl113, hbx114⟩ := row_append (bytes := 1) (ys := [(.s (.int .u8 11))]) (zs := ((r62 ++ [(11 : Int)]).map (kAV .u8))) hk68 hcl69 rfl (List.map_append (f := (kAV .u8)) (l₁ := (r62 : List Int)) (l₂ := ([(11 : Int)] : List Int))).symm (by first | exact hr115 | simpa [insAVs_length] using hr115)
        have hb116 := hbx114 _ _ hb70
        have hb117 := hbx114 _ _ hb71
        refine Runs.region he74 [(2, .f (.sl ((r62 ++ [(11 : Int)]).map (kAV .u8)) p109) H110)] [(4, (.sl ((r62 ++ [(11 : Int)]).map (kAV .u8)) p109))] (h := H110) (fun env => by kernel_rfl) (And.intro ((appendC_of (sz := 1) (bytes := 1) (t := 26) (tx := 26) (bf := (F18.bf.contains ·)) (x := (.sl (r62.map (kAV .u8)) p64)) (H := H65) (by kernel_rfl) (by kernel_rfl) (src_sl (P := P) (tx := 26) (H := H65) (p := .full) (by kernel_rfl) rfl)).trans ha111) trivial) (fun e119 he118 => ?_)
        refine thenN ?_
        refine Runs.ret ?_
        refine blockR ?_
        refine thenR ?_
        obtain rfl := Option.some.inj h
        exact row_ret ret_ne rfl rfl (he118.get (t := 4) (v := (.sl ((r62 ++ [(11 : Int)]).map (kAV .u8)) p109)) (by kernel_rfl)) hk112 hcl (shutL_map (fun _ => rfl) (r62 ++ [(11 : Int)]))
    · rw [if_neg hb50] at h
      refine Runs.cond (he48.get (t := 22) (v := (.s (.bool (decide (r9_0.kind = 2))))) (by kernel_rfl)) (fun h0 => absurd h0 hb50) (fun _ => ?_)
      refine Runs.sq ?_
      obtain ⟨v120, hm121, h⟩ := Option.bind_eq_some_iff.1 h
      refine Runs.mono (Q := fun x e h => x = .normal ∧ Sat [(0, (.sl ((a0 ++ [(IntKind.u8.wrap a1_op)]).map (kAV .u8)) p37)), (3, (.ptr H.length 0)), (5, (.ptr H1.length 0)), (46, (.s (.bool v120)))] e ∧ h = H38) ?_ ?_
      · by_cases hb122 : (decide (r9_0.kind = 7)) = true
        · rw [if_pos hb122] at hm121
          obtain rfl := Option.some.inj hm121
          exact Runs.region he48 [(1, .c [(.s (.int .i64 r9_0.byte)), (.s (.string r9_0.name)), (.s (.int .i64 r9_0.kind)), (.sl (r9_0.takes.map intAV) .ro), (.s (.int .i64 r9_0.gives)), (.s (.int .i64 r9_0.bytes)), (.s (.bool r9_0.signed))]), (3, .b true)] [(0, (.sl ((a0 ++ [(IntKind.u8.wrap a1_op)]).map (kAV .u8)) p37)), (3, (.ptr H.length 0)), (5, (.ptr H1.length 0)), (46, (.s (.bool true)))] (h := H38) (fun env => by kernel_rfl) (And.intro hb45 (And.intro hb122 trivial)) (fun _ h => ⟨rfl, h, rfl⟩)
        · rw [if_neg hb122] at hm121
          obtain rfl := Option.some.inj hm121
          exact Runs.region he48 [(1, .c [(.s (.int .i64 r9_0.byte)), (.s (.string r9_0.name)), (.s (.int .i64 r9_0.kind)), (.sl (r9_0.takes.map intAV) .ro), (.s (.int .i64 r9_0.gives)), (.s (.int .i64 r9_0.bytes)), (.s (.bool r9_0.signed))]), (3, .b false), (5, .c [(.s (.int .i64 r9_0.byte)), (.s (.string r9_0.name)), (.s (.int .i64 r9_0.kind)), (.sl (r9_0.takes.map intAV) .ro), (.s (.int .i64 r9_0.gives)), (.s (.int .i64 r9_0.bytes)), (.s (.bool r9_0.signed))])] [(0, (.sl ((a0 ++ [(IntKind.u8.wrap a1_op)]).map (kAV .u8)) p37)), (3, (.ptr H.length 0)), (5, (.ptr H1.length 0)), (46, (.s (.bool (decide (r9_0.kind = 8)))))] (h := H38) (fun env => by kernel_rfl) (And.intro hb45 (And.intro (Bool.eq_false_iff.2 hb122) (And.intro hb45 trivial))) (fun _ h => ⟨rfl, h, rfl⟩)
      rintro _ e124 h125 ⟨rfl, he123, hh126⟩
      rw [hh126]
      refine thenN ?_
      by_cases hb127 : v120 = true
      · rw [if_pos hb127] at h
        refine Runs.cond (he123.get (t := 46) (v := (.s (.bool v120))) (by kernel_rfl)) (fun _ => ?_) (fun h0 => absurd (hb127.symm.trans h0) (by decide))
        refine Runs.sq ?_
        obtain ⟨r128, hr129, h⟩ := Option.bind_eq_some_iff.1 h
        obtain ⟨p130, H131, ha132, hk133, hcl135⟩ := hg35 (a0 ++ [(IntKind.u8.wrap a1_op)]) [a1_a, a1_b] p37 .full _ H38 hk40.ok hcl41 hr129
        have hk134 := hk40.trans hk133
        have hb136 := hk40.keeps hk133 _ _ hb44
        have hb137 := hk40.keeps hk133 _ _ hb45
        refine Runs.region he123 [(2, .c [(.s (.int .i64 a1_op)), (.s (.int .i64 a1_a)), (.s (.int .i64 a1_b)), (.s (.int .u64 a1_v)), (.s (.int .i64 a1_t)), (.sl (a1_l.map intAV) .ro), (.sl (insAVs a1_body) .ro), (.sl (insAVs a1_els) .ro), (.s (.bool a1_has))]), (4, .c [(.s (.int .i64 a1_op)), (.s (.int .i64 a1_a)), (.s (.int .i64 a1_b)), (.s (.int .u64 a1_v)), (.s (.int .i64 a1_t)), (.sl (a1_l.map intAV) .ro), (.sl (insAVs a1_body) .ro), (.sl (insAVs a1_els) .ro), (.s (.bool a1_has))]), (6, .f (.sl (r128.map (kAV .u8)) p130) H131)] [(4, (.sl (r128.map (kAV .u8)) p130))] (h := H131) (fun env => by kernel_rfl) (And.intro hb44 (And.intro hb44 (And.intro ha132 trivial))) (fun e139 he138 => ?_)
        refine thenN ?_
        refine Runs.ret ?_
        refine blockR ?_
        refine thenR ?_
        obtain rfl := Option.some.inj h
        exact row_ret ret_ne rfl rfl (he138.get (t := 4) (v := (.sl (r128.map (kAV .u8)) p130)) (by kernel_rfl)) hk134 hcl (shutL_map (fun _ => rfl) r128)
      · rw [if_neg hb127] at h
        refine Runs.cond (he123.get (t := 46) (v := (.s (.bool v120))) (by kernel_rfl)) (fun h0 => absurd h0 hb127) (fun _ => ?_)
        refine Runs.sq ?_
        refine Runs.region he123 [(1, .c [(.s (.int .i64 r9_0.byte)), (.s (.string r9_0.name)), (.s (.int .i64 r9_0.kind)), (.sl (r9_0.takes.map intAV) .ro), (.s (.int .i64 r9_0.gives)), (.s (.int .i64 r9_0.bytes)), (.s (.bool r9_0.signed))])] [(0, (.sl ((a0 ++ [(IntKind.u8.wrap a1_op)]).map (kAV .u8)) p37)), (3, (.ptr H.length 0)), (5, (.ptr H1.length 0)), (62, (.s (.bool (decide (r9_0.kind = 9)))))] (h := H38) (fun env => by kernel_rfl) (And.intro hb45 trivial) (fun e141 he140 => ?_)
        refine thenN ?_
        by_cases hb142 : (decide (r9_0.kind = 9)) = true
        · rw [if_pos hb142] at h
          refine Runs.cond (he140.get (t := 62) (v := (.s (.bool (decide (r9_0.kind = 9))))) (by kernel_rfl)) (fun _ => ?_) (fun h0 => absurd (hb142.symm.trans h0) (by decide))
          refine Runs.sq ?_
          by_cases hr149 : ((a0 ++ [(IntKind.u8.wrap a1_op)]).length + 1) * 1 ≤ roomA
          rotate_left
          · rw [if_neg hr149] at h; cases h
          rw [if_pos hr149] at h
          obtain ⟨p143, H144, ha145, hk146, hcl147, hbx148⟩ := row_append (bytes := 1) (ys := [(.s (.int .u8 0))]) (zs := (((a0 ++ [(IntKind.u8.wrap a1_op)]) ++ [(0 : Int)]).map (kAV .u8))) hk40 hcl41 rfl (List.map_append (f := (kAV .u8)) (l₁ := ((a0 ++ [(IntKind.u8.wrap a1_op)]) : List Int)) (l₂ := ([(0 : Int)] : List Int))).symm (by first | exact hr149 | simpa [insAVs_length] using hr149)
          have hb150 := hbx148 _ _ hb44
          have hb151 := hbx148 _ _ hb45
          refine Runs.region he140 [(2, .f (.sl (((a0 ++ [(IntKind.u8.wrap a1_op)]) ++ [(0 : Int)]).map (kAV .u8)) p143) H144)] [(4, (.sl (((a0 ++ [(IntKind.u8.wrap a1_op)]) ++ [(0 : Int)]).map (kAV .u8)) p143))] (h := H144) (fun env => by kernel_rfl) (And.intro ((appendC_of (sz := 1) (bytes := 1) (t := 26) (tx := 26) (bf := (F18.bf.contains ·)) (x := (.sl ((a0 ++ [(IntKind.u8.wrap a1_op)]).map (kAV .u8)) p37)) (H := H38) (by kernel_rfl) (by kernel_rfl) (src_sl (P := P) (tx := 26) (H := H38) (p := .full) (by kernel_rfl) rfl)).trans ha145) trivial) (fun e153 he152 => ?_)
          refine thenN ?_
          refine Runs.ret ?_
          refine blockR ?_
          refine thenR ?_
          obtain rfl := Option.some.inj h
          exact row_ret ret_ne rfl rfl (he152.get (t := 4) (v := (.sl (((a0 ++ [(IntKind.u8.wrap a1_op)]) ++ [(0 : Int)]).map (kAV .u8)) p143)) (by kernel_rfl)) hk146 hcl (shutL_map (fun _ => rfl) ((a0 ++ [(IntKind.u8.wrap a1_op)]) ++ [(0 : Int)]))
        · rw [if_neg hb142] at h
          refine Runs.cond (he140.get (t := 62) (v := (.s (.bool (decide (r9_0.kind = 9))))) (by kernel_rfl)) (fun h0 => absurd h0 hb142) (fun _ => ?_)
          refine Runs.sq ?_
          obtain ⟨v154, hm155, h⟩ := Option.bind_eq_some_iff.1 h
          refine Runs.mono (Q := fun x e h => x = .normal ∧ Sat [(0, (.sl ((a0 ++ [(IntKind.u8.wrap a1_op)]).map (kAV .u8)) p37)), (3, (.ptr H.length 0)), (5, (.ptr H1.length 0)), (69, (.s (.bool v154)))] e ∧ h = H38) ?_ ?_
          · by_cases hb156 : (decide (r9_0.kind = 10)) = true
            · rw [if_pos hb156] at hm155
              obtain rfl := Option.some.inj hm155
              exact Runs.region he140 [(1, .c [(.s (.int .i64 r9_0.byte)), (.s (.string r9_0.name)), (.s (.int .i64 r9_0.kind)), (.sl (r9_0.takes.map intAV) .ro), (.s (.int .i64 r9_0.gives)), (.s (.int .i64 r9_0.bytes)), (.s (.bool r9_0.signed))]), (3, .b true), (5, .c [(.s (.int .i64 r9_0.byte)), (.s (.string r9_0.name)), (.s (.int .i64 r9_0.kind)), (.sl (r9_0.takes.map intAV) .ro), (.s (.int .i64 r9_0.gives)), (.s (.int .i64 r9_0.bytes)), (.s (.bool r9_0.signed))])] [(0, (.sl ((a0 ++ [(IntKind.u8.wrap a1_op)]).map (kAV .u8)) p37)), (3, (.ptr H.length 0)), (5, (.ptr H1.length 0)), (69, (.s (.bool (decide (r9_0.gives = 1)))))] (h := H38) (fun env => by kernel_rfl) (And.intro hb45 (And.intro hb156 (And.intro hb45 trivial))) (fun _ h => ⟨rfl, h, rfl⟩)
            · rw [if_neg hb156] at hm155
              obtain rfl := Option.some.inj hm155
              exact Runs.region he140 [(1, .c [(.s (.int .i64 r9_0.byte)), (.s (.string r9_0.name)), (.s (.int .i64 r9_0.kind)), (.sl (r9_0.takes.map intAV) .ro), (.s (.int .i64 r9_0.gives)), (.s (.int .i64 r9_0.bytes)), (.s (.bool r9_0.signed))]), (3, .b false)] [(0, (.sl ((a0 ++ [(IntKind.u8.wrap a1_op)]).map (kAV .u8)) p37)), (3, (.ptr H.length 0)), (5, (.ptr H1.length 0)), (69, (.s (.bool false)))] (h := H38) (fun env => by kernel_rfl) (And.intro hb45 (And.intro (Bool.eq_false_iff.2 hb156) trivial)) (fun _ h => ⟨rfl, h, rfl⟩)
          rintro _ e158 h159 ⟨rfl, he157, hh160⟩
          rw [hh160]
          refine thenN ?_
          by_cases hb161 : v154 = true
          · rw [if_pos hb161] at h
            refine Runs.cond (he157.get (t := 69) (v := (.s (.bool v154))) (by kernel_rfl)) (fun _ => ?_) (fun h0 => absurd (hb161.symm.trans h0) (by decide))
            refine Runs.sq ?_
            obtain ⟨r162, hr163, h⟩ := Option.bind_eq_some_iff.1 h
            by_cases hr170 : ((a0 ++ [(IntKind.u8.wrap a1_op)]).length + r162.length) * 1 ≤ roomA
            rotate_left
            · rw [if_neg hr170] at h; cases h
            rw [if_pos hr170] at h
            obtain ⟨p164, H165, ha166, hk167, hcl168, hbx169⟩ := row_append (bytes := 1) (ys := (r162.map (kAV .u8))) (zs := (((a0 ++ [(IntKind.u8.wrap a1_op)]) ++ r162).map (kAV .u8))) hk40 hcl41 (widths_map (f := (kAV .u8)) (k := 1) (fun _ => ⟨rfl, rfl⟩) r162) (List.map_append (f := (kAV .u8)) (l₁ := ((a0 ++ [(IntKind.u8.wrap a1_op)]) : List Int)) (l₂ := (r162 : List Int))).symm (by first | exact hr170 | simpa [insAVs_length] using hr170)
            have hb171 := hbx169 _ _ hb44
            have hb172 := hbx169 _ _ hb45
            refine Runs.region he157 [(2, .c [(.s (.int .i64 a1_op)), (.s (.int .i64 a1_a)), (.s (.int .i64 a1_b)), (.s (.int .u64 a1_v)), (.s (.int .i64 a1_t)), (.sl (a1_l.map intAV) .ro), (.sl (insAVs a1_body) .ro), (.sl (insAVs a1_els) .ro), (.s (.bool a1_has))]), (6, .f (.sl (r162.map (kAV .u8)) .ro) H38), (7, .f (.sl (((a0 ++ [(IntKind.u8.wrap a1_op)]) ++ r162).map (kAV .u8)) p164) H165)] [(4, (.sl (((a0 ++ [(IntKind.u8.wrap a1_op)]) ++ r162).map (kAV .u8)) p164))] (h := H165) (fun env => by kernel_rfl) (And.intro hb44 (And.intro (hg36 (IntKind.i64.wrap (IntKind.i32.wrap (IntKind.u32.wrap a1_v)))  _ H38  hr163) (And.intro ((appendC_of (sz := 1) (bytes := 1) (t := 26) (tx := 26) (bf := (F18.bf.contains ·)) (x := (.sl ((a0 ++ [(IntKind.u8.wrap a1_op)]).map (kAV .u8)) p37)) (H := H38) (by kernel_rfl) (by kernel_rfl) (src_sl (P := P) (tx := 26) (H := H38) (p := .ro) (by kernel_rfl) (widths_map (f := (kAV .u8)) (k := 1) (fun _ => ⟨rfl, rfl⟩) r162))).trans ha166) trivial))) (fun e174 he173 => ?_)
            refine thenN ?_
            refine Runs.ret ?_
            refine blockR ?_
            refine thenR ?_
            obtain rfl := Option.some.inj h
            exact row_ret ret_ne rfl rfl (he173.get (t := 4) (v := (.sl (((a0 ++ [(IntKind.u8.wrap a1_op)]) ++ r162).map (kAV .u8)) p164)) (by kernel_rfl)) hk167 hcl (shutL_map (fun _ => rfl) ((a0 ++ [(IntKind.u8.wrap a1_op)]) ++ r162))
          · rw [if_neg hb161] at h
            refine Runs.cond (he157.get (t := 69) (v := (.s (.bool v154))) (by kernel_rfl)) (fun h0 => absurd h0 hb161) (fun _ => ?_)
            refine Runs.sq ?_
            refine Runs.region he157 [(1, .c [(.s (.int .i64 r9_0.byte)), (.s (.string r9_0.name)), (.s (.int .i64 r9_0.kind)), (.sl (r9_0.takes.map intAV) .ro), (.s (.int .i64 r9_0.gives)), (.s (.int .i64 r9_0.bytes)), (.s (.bool r9_0.signed))])] [(0, (.sl ((a0 ++ [(IntKind.u8.wrap a1_op)]).map (kAV .u8)) p37)), (3, (.ptr H.length 0)), (5, (.ptr H1.length 0)), (86, (.s (.bool (decide (r9_0.kind = 10)))))] (h := H38) (fun env => by kernel_rfl) (And.intro hb45 trivial) (fun e176 he175 => ?_)
            refine thenN ?_
            by_cases hb177 : (decide (r9_0.kind = 10)) = true
            · rw [if_pos hb177] at h
              refine Runs.cond (he175.get (t := 86) (v := (.s (.bool (decide (r9_0.kind = 10))))) (by kernel_rfl)) (fun _ => ?_) (fun h0 => absurd (hb177.symm.trans h0) (by decide))
              refine Runs.sq ?_
              obtain ⟨r178, hr179, h⟩ := Option.bind_eq_some_iff.1 h
              by_cases hr186 : ((a0 ++ [(IntKind.u8.wrap a1_op)]).length + r178.length) * 1 ≤ roomA
              rotate_left
              · rw [if_neg hr186] at h; cases h
              rw [if_pos hr186] at h
              obtain ⟨p180, H181, ha182, hk183, hcl184, hbx185⟩ := row_append (bytes := 1) (ys := (r178.map (kAV .u8))) (zs := (((a0 ++ [(IntKind.u8.wrap a1_op)]) ++ r178).map (kAV .u8))) hk40 hcl41 (widths_map (f := (kAV .u8)) (k := 1) (fun _ => ⟨rfl, rfl⟩) r178) (List.map_append (f := (kAV .u8)) (l₁ := ((a0 ++ [(IntKind.u8.wrap a1_op)]) : List Int)) (l₂ := (r178 : List Int))).symm (by first | exact hr186 | simpa [insAVs_length] using hr186)
              have hb187 := hbx185 _ _ hb44
              have hb188 := hbx185 _ _ hb45
              refine Runs.region he175 [(2, .c [(.s (.int .i64 a1_op)), (.s (.int .i64 a1_a)), (.s (.int .i64 a1_b)), (.s (.int .u64 a1_v)), (.s (.int .i64 a1_t)), (.sl (a1_l.map intAV) .ro), (.sl (insAVs a1_body) .ro), (.sl (insAVs a1_els) .ro), (.s (.bool a1_has))]), (4, .f (.sl (r178.map (kAV .u8)) .ro) H38), (5, .f (.sl (((a0 ++ [(IntKind.u8.wrap a1_op)]) ++ r178).map (kAV .u8)) p180) H181)] [(4, (.sl (((a0 ++ [(IntKind.u8.wrap a1_op)]) ++ r178).map (kAV .u8)) p180))] (h := H181) (fun env => by kernel_rfl) (And.intro hb44 (And.intro (hg36 (IntKind.i64.wrap a1_v)  _ H38  hr179) (And.intro ((appendC_of (sz := 1) (bytes := 1) (t := 26) (tx := 26) (bf := (F18.bf.contains ·)) (x := (.sl ((a0 ++ [(IntKind.u8.wrap a1_op)]).map (kAV .u8)) p37)) (H := H38) (by kernel_rfl) (by kernel_rfl) (src_sl (P := P) (tx := 26) (H := H38) (p := .ro) (by kernel_rfl) (widths_map (f := (kAV .u8)) (k := 1) (fun _ => ⟨rfl, rfl⟩) r178))).trans ha182) trivial))) (fun e190 he189 => ?_)
              refine thenN ?_
              refine Runs.ret ?_
              refine blockR ?_
              refine thenR ?_
              obtain rfl := Option.some.inj h
              exact row_ret ret_ne rfl rfl (he189.get (t := 4) (v := (.sl (((a0 ++ [(IntKind.u8.wrap a1_op)]) ++ r178).map (kAV .u8)) p180)) (by kernel_rfl)) hk183 hcl (shutL_map (fun _ => rfl) ((a0 ++ [(IntKind.u8.wrap a1_op)]) ++ r178))
            · rw [if_neg hb177] at h
              refine Runs.cond (he175.get (t := 86) (v := (.s (.bool (decide (r9_0.kind = 10))))) (by kernel_rfl)) (fun h0 => absurd h0 hb177) (fun _ => ?_)
              refine Runs.sq ?_
              refine Runs.region he175 [(1, .c [(.s (.int .i64 a1_op)), (.s (.int .i64 a1_a)), (.s (.int .i64 a1_b)), (.s (.int .u64 a1_v)), (.s (.int .i64 a1_t)), (.sl (a1_l.map intAV) .ro), (.sl (insAVs a1_body) .ro), (.sl (insAVs a1_els) .ro), (.s (.bool a1_has))])] [(0, (.sl ((a0 ++ [(IntKind.u8.wrap a1_op)]).map (kAV .u8)) p37)), (3, (.ptr H.length 0)), (5, (.ptr H1.length 0)), (96, (.s (.bool (decide (a1_op = 14)))))] (h := H38) (fun env => by kernel_rfl) (And.intro hb44 trivial) (fun e192 he191 => ?_)
              refine thenN ?_
              by_cases hb193 : (decide (a1_op = 14)) = true
              · rw [if_pos hb193] at h
                refine Runs.cond (he191.get (t := 96) (v := (.s (.bool (decide (a1_op = 14))))) (by kernel_rfl)) (fun _ => ?_) (fun h0 => absurd (hb193.symm.trans h0) (by decide))
                refine Runs.sq ?_
                obtain ⟨r194, hr195, h⟩ := Option.bind_eq_some_iff.1 h
                obtain ⟨p196, H197, ha198, hk199, hcl201⟩ := hg35 (a0 ++ [(IntKind.u8.wrap a1_op)]) [(IntKind.i64.wrap ((a1_l.length : Int) - 1))] p37 .full _ H38 hk40.ok hcl41 hr195
                have hk200 := hk40.trans hk199
                have hb202 := hk40.keeps hk199 _ _ hb44
                have hb203 := hk40.keeps hk199 _ _ hb45
                obtain ⟨r204, hr205, h⟩ := Option.bind_eq_some_iff.1 h
                obtain ⟨p206, H207, ha208, hk209, hcl211⟩ := hg35 r194 a1_l p196 .ro _ H197 hk200.ok hcl201 hr205
                have hk210 := hk200.trans hk209
                have hb212 := hk200.keeps hk209 _ _ hb202
                have hb213 := hk200.keeps hk209 _ _ hb203
                refine Runs.regionX he191 [(8, 6)] [(2, .c [(.s (.int .i64 a1_op)), (.s (.int .i64 a1_a)), (.s (.int .i64 a1_b)), (.s (.int .u64 a1_v)), (.s (.int .i64 a1_t)), (.sl (a1_l.map intAV) .ro), (.sl (insAVs a1_body) .ro), (.sl (insAVs a1_els) .ro), (.s (.bool a1_has))]), (3, .i (a1_l.length : Int)), (6, .f (.sl (r194.map (kAV .u8)) p196) H197), (8, .c [(.s (.int .i64 a1_op)), (.s (.int .i64 a1_a)), (.s (.int .i64 a1_b)), (.s (.int .u64 a1_v)), (.s (.int .i64 a1_t)), (.sl (a1_l.map intAV) .ro), (.sl (insAVs a1_body) .ro), (.sl (insAVs a1_els) .ro), (.s (.bool a1_has))]), (9, .f (.sl (r204.map (kAV .u8)) p206) H207)] [(4, (.sl (r204.map (kAV .u8)) p206))] (h := H207) (fun env => by kernel_rfl) (And.intro (And.intro hb44 (And.intro (len_map (l := a1_l) (f := intAV)) (And.intro ha198 (And.intro hb202 (And.intro ha208 trivial))))) (And.intro (hb44.trans hb202.symm) trivial)) (fun e215 he214 => ?_)
                refine thenN ?_
                refine Runs.ret ?_
                refine blockR ?_
                refine thenR ?_
                obtain rfl := Option.some.inj h
                exact row_ret ret_ne rfl rfl (he214.get (t := 4) (v := (.sl (r204.map (kAV .u8)) p206)) (by kernel_rfl)) hk210 hcl (shutL_map (fun _ => rfl) r204)
              · rw [if_neg hb193] at h
                refine Runs.cond (he191.get (t := 96) (v := (.s (.bool (decide (a1_op = 14))))) (by kernel_rfl)) (fun h0 => absurd h0 hb193) (fun _ => ?_)
                refine Runs.sq ?_
                refine Runs.region he191 [(1, .c [(.s (.int .i64 a1_op)), (.s (.int .i64 a1_a)), (.s (.int .i64 a1_b)), (.s (.int .u64 a1_v)), (.s (.int .i64 a1_t)), (.sl (a1_l.map intAV) .ro), (.sl (insAVs a1_body) .ro), (.sl (insAVs a1_els) .ro), (.s (.bool a1_has))])] [(0, (.sl ((a0 ++ [(IntKind.u8.wrap a1_op)]).map (kAV .u8)) p37)), (3, (.ptr H.length 0)), (5, (.ptr H1.length 0)), (110, (.s (.bool (decide (a1_op = 17)))))] (h := H38) (fun env => by kernel_rfl) (And.intro hb44 trivial) (fun e217 he216 => ?_)
                refine thenN ?_
                by_cases hb218 : (decide (a1_op = 17)) = true
                · rw [if_pos hb218] at h
                  refine Runs.cond (he216.get (t := 110) (v := (.s (.bool (decide (a1_op = 17))))) (by kernel_rfl)) (fun _ => ?_) (fun h0 => absurd (hb218.symm.trans h0) (by decide))
                  refine Runs.sq ?_
                  obtain ⟨r219, hr220, h⟩ := Option.bind_eq_some_iff.1 h
                  obtain ⟨p221, H222, ha223, hk224, hcl226⟩ := hg35 (a0 ++ [(IntKind.u8.wrap a1_op)]) [a1_a] p37 .full _ H38 hk40.ok hcl41 hr220
                  have hk225 := hk40.trans hk224
                  have hb227 := hk40.keeps hk224 _ _ hb44
                  have hb228 := hk40.keeps hk224 _ _ hb45
                  by_cases hr235 : (r219.length + 1) * 1 ≤ roomA
                  rotate_left
                  · rw [if_neg hr235] at h; cases h
                  rw [if_pos hr235] at h
                  obtain ⟨p229, H230, ha231, hk232, hcl233, hbx234⟩ := row_append (bytes := 1) (ys := [(.s (.int .u8 0))]) (zs := ((r219 ++ [(0 : Int)]).map (kAV .u8))) hk225 hcl226 rfl (List.map_append (f := (kAV .u8)) (l₁ := (r219 : List Int)) (l₂ := ([(0 : Int)] : List Int))).symm (by first | exact hr235 | simpa [insAVs_length] using hr235)
                  have hb236 := hbx234 _ _ hb227
                  have hb237 := hbx234 _ _ hb228
                  refine Runs.region he216 [(2, .c [(.s (.int .i64 a1_op)), (.s (.int .i64 a1_a)), (.s (.int .i64 a1_b)), (.s (.int .u64 a1_v)), (.s (.int .i64 a1_t)), (.sl (a1_l.map intAV) .ro), (.sl (insAVs a1_body) .ro), (.sl (insAVs a1_els) .ro), (.s (.bool a1_has))]), (4, .f (.sl (r219.map (kAV .u8)) p221) H222), (6, .f (.sl ((r219 ++ [(0 : Int)]).map (kAV .u8)) p229) H230)] [(4, (.sl ((r219 ++ [(0 : Int)]).map (kAV .u8)) p229))] (h := H230) (fun env => by kernel_rfl) (And.intro hb44 (And.intro ha223 (And.intro ((appendC_of (sz := 1) (bytes := 1) (t := 26) (tx := 26) (bf := (F18.bf.contains ·)) (x := (.sl (r219.map (kAV .u8)) p221)) (H := H222) (by kernel_rfl) (by kernel_rfl) (src_sl (P := P) (tx := 26) (H := H222) (p := .full) (by kernel_rfl) rfl)).trans ha231) trivial))) (fun e239 he238 => ?_)
                  refine thenN ?_
                  refine Runs.ret ?_
                  refine blockR ?_
                  refine thenR ?_
                  obtain rfl := Option.some.inj h
                  exact row_ret ret_ne rfl rfl (he238.get (t := 4) (v := (.sl ((r219 ++ [(0 : Int)]).map (kAV .u8)) p229)) (by kernel_rfl)) hk232 hcl (shutL_map (fun _ => rfl) (r219 ++ [(0 : Int)]))
                · rw [if_neg hb218] at h
                  refine Runs.cond (he216.get (t := 110) (v := (.s (.bool (decide (a1_op = 17))))) (by kernel_rfl)) (fun h0 => absurd h0 hb218) (fun _ => ?_)
                  refine Runs.sq ?_
                  obtain ⟨v240, hm241, h⟩ := Option.bind_eq_some_iff.1 h
                  refine Runs.mono (Q := fun x e h => x = .normal ∧ Sat [(0, (.sl ((a0 ++ [(IntKind.u8.wrap a1_op)]).map (kAV .u8)) p37)), (3, (.ptr H.length 0)), (121, (.s (.bool v240)))] e ∧ h = H38) ?_ ?_
                  · by_cases hb242 : (decide (r9_0.kind = 4)) = true
                    · rw [if_pos hb242] at hm241
                      obtain rfl := Option.some.inj hm241
                      exact Runs.region he216 [(1, .c [(.s (.int .i64 r9_0.byte)), (.s (.string r9_0.name)), (.s (.int .i64 r9_0.kind)), (.sl (r9_0.takes.map intAV) .ro), (.s (.int .i64 r9_0.gives)), (.s (.int .i64 r9_0.bytes)), (.s (.bool r9_0.signed))]), (3, .b true)] [(0, (.sl ((a0 ++ [(IntKind.u8.wrap a1_op)]).map (kAV .u8)) p37)), (3, (.ptr H.length 0)), (121, (.s (.bool true)))] (h := H38) (fun env => by kernel_rfl) (And.intro hb45 (And.intro hb242 trivial)) (fun _ h => ⟨rfl, h, rfl⟩)
                    · rw [if_neg hb242] at hm241
                      by_cases hb243 : (decide (r9_0.kind = 6)) = true
                      · rw [if_pos hb243] at hm241
                        obtain rfl := Option.some.inj hm241
                        exact Runs.region he216 [(1, .c [(.s (.int .i64 r9_0.byte)), (.s (.string r9_0.name)), (.s (.int .i64 r9_0.kind)), (.sl (r9_0.takes.map intAV) .ro), (.s (.int .i64 r9_0.gives)), (.s (.int .i64 r9_0.bytes)), (.s (.bool r9_0.signed))]), (3, .b false), (5, .c [(.s (.int .i64 r9_0.byte)), (.s (.string r9_0.name)), (.s (.int .i64 r9_0.kind)), (.sl (r9_0.takes.map intAV) .ro), (.s (.int .i64 r9_0.gives)), (.s (.int .i64 r9_0.bytes)), (.s (.bool r9_0.signed))]), (8, .b true)] [(0, (.sl ((a0 ++ [(IntKind.u8.wrap a1_op)]).map (kAV .u8)) p37)), (3, (.ptr H.length 0)), (121, (.s (.bool true)))] (h := H38) (fun env => by kernel_rfl) (And.intro hb45 (And.intro (Bool.eq_false_iff.2 hb242) (And.intro hb45 (And.intro hb243 trivial)))) (fun _ h => ⟨rfl, h, rfl⟩)
                      · rw [if_neg hb243] at hm241
                        by_cases hb244 : (decide (a1_op = 12)) = true
                        · rw [if_pos hb244] at hm241
                          obtain rfl := Option.some.inj hm241
                          exact Runs.region he216 [(1, .c [(.s (.int .i64 r9_0.byte)), (.s (.string r9_0.name)), (.s (.int .i64 r9_0.kind)), (.sl (r9_0.takes.map intAV) .ro), (.s (.int .i64 r9_0.gives)), (.s (.int .i64 r9_0.bytes)), (.s (.bool r9_0.signed))]), (3, .b false), (5, .c [(.s (.int .i64 r9_0.byte)), (.s (.string r9_0.name)), (.s (.int .i64 r9_0.kind)), (.sl (r9_0.takes.map intAV) .ro), (.s (.int .i64 r9_0.gives)), (.s (.int .i64 r9_0.bytes)), (.s (.bool r9_0.signed))]), (8, .b false), (10, .c [(.s (.int .i64 a1_op)), (.s (.int .i64 a1_a)), (.s (.int .i64 a1_b)), (.s (.int .u64 a1_v)), (.s (.int .i64 a1_t)), (.sl (a1_l.map intAV) .ro), (.sl (insAVs a1_body) .ro), (.sl (insAVs a1_els) .ro), (.s (.bool a1_has))]), (13, .b true)] [(0, (.sl ((a0 ++ [(IntKind.u8.wrap a1_op)]).map (kAV .u8)) p37)), (3, (.ptr H.length 0)), (121, (.s (.bool true)))] (h := H38) (fun env => by kernel_rfl) (And.intro hb45 (And.intro (Bool.eq_false_iff.2 hb242) (And.intro hb45 (And.intro (Bool.eq_false_iff.2 hb243) (And.intro hb44 (And.intro hb244 trivial)))))) (fun _ h => ⟨rfl, h, rfl⟩)
                        · rw [if_neg hb244] at hm241
                          obtain rfl := Option.some.inj hm241
                          exact Runs.region he216 [(1, .c [(.s (.int .i64 r9_0.byte)), (.s (.string r9_0.name)), (.s (.int .i64 r9_0.kind)), (.sl (r9_0.takes.map intAV) .ro), (.s (.int .i64 r9_0.gives)), (.s (.int .i64 r9_0.bytes)), (.s (.bool r9_0.signed))]), (3, .b false), (5, .c [(.s (.int .i64 r9_0.byte)), (.s (.string r9_0.name)), (.s (.int .i64 r9_0.kind)), (.sl (r9_0.takes.map intAV) .ro), (.s (.int .i64 r9_0.gives)), (.s (.int .i64 r9_0.bytes)), (.s (.bool r9_0.signed))]), (8, .b false), (10, .c [(.s (.int .i64 a1_op)), (.s (.int .i64 a1_a)), (.s (.int .i64 a1_b)), (.s (.int .u64 a1_v)), (.s (.int .i64 a1_t)), (.sl (a1_l.map intAV) .ro), (.sl (insAVs a1_body) .ro), (.sl (insAVs a1_els) .ro), (.s (.bool a1_has))]), (13, .b false), (15, .c [(.s (.int .i64 a1_op)), (.s (.int .i64 a1_a)), (.s (.int .i64 a1_b)), (.s (.int .u64 a1_v)), (.s (.int .i64 a1_t)), (.sl (a1_l.map intAV) .ro), (.sl (insAVs a1_body) .ro), (.sl (insAVs a1_els) .ro), (.s (.bool a1_has))])] [(0, (.sl ((a0 ++ [(IntKind.u8.wrap a1_op)]).map (kAV .u8)) p37)), (3, (.ptr H.length 0)), (121, (.s (.bool (decide (a1_op = 13)))))] (h := H38) (fun env => by kernel_rfl) (And.intro hb45 (And.intro (Bool.eq_false_iff.2 hb242) (And.intro hb45 (And.intro (Bool.eq_false_iff.2 hb243) (And.intro hb44 (And.intro (Bool.eq_false_iff.2 hb244) (And.intro hb44 trivial))))))) (fun _ h => ⟨rfl, h, rfl⟩)
                  rintro _ e246 h247 ⟨rfl, he245, hh248⟩
                  rw [hh248]
                  refine thenN ?_
                  by_cases hb249 : v240 = true
                  · rw [if_pos hb249] at h
                    refine Runs.cond (he245.get (t := 121) (v := (.s (.bool v240))) (by kernel_rfl)) (fun _ => ?_) (fun h0 => absurd (hb249.symm.trans h0) (by decide))
                    refine Runs.sq ?_
                    obtain ⟨r250, hr251, h⟩ := Option.bind_eq_some_iff.1 h
                    obtain ⟨p252, H253, ha254, hk255, hcl257⟩ := hg35 (a0 ++ [(IntKind.u8.wrap a1_op)]) [a1_a] p37 .full _ H38 hk40.ok hcl41 hr251
                    have hk256 := hk40.trans hk255
                    have hb258 := hk40.keeps hk255 _ _ hb44
                    have hb259 := hk40.keeps hk255 _ _ hb45
                    refine Runs.region he245 [(2, .c [(.s (.int .i64 a1_op)), (.s (.int .i64 a1_a)), (.s (.int .i64 a1_b)), (.s (.int .u64 a1_v)), (.s (.int .i64 a1_t)), (.sl (a1_l.map intAV) .ro), (.sl (insAVs a1_body) .ro), (.sl (insAVs a1_els) .ro), (.s (.bool a1_has))]), (4, .f (.sl (r250.map (kAV .u8)) p252) H253)] [(4, (.sl (r250.map (kAV .u8)) p252))] (h := H253) (fun env => by kernel_rfl) (And.intro hb44 (And.intro ha254 trivial)) (fun e261 he260 => ?_)
                    refine thenN ?_
                    refine Runs.ret ?_
                    refine blockR ?_
                    refine thenR ?_
                    obtain rfl := Option.some.inj h
                    exact row_ret ret_ne rfl rfl (he260.get (t := 4) (v := (.sl (r250.map (kAV .u8)) p252)) (by kernel_rfl)) hk256 hcl (shutL_map (fun _ => rfl) r250)
                  · rw [if_neg hb249] at h
                    refine Runs.cond (he245.get (t := 121) (v := (.s (.bool v240))) (by kernel_rfl)) (fun h0 => absurd h0 hb249) (fun _ => ?_)
                    refine Runs.skip ?_
                    refine blockN ?_
                    refine thenN ?_
                    refine Runs.sq ?_
                    refine Runs.region he245 [] [(4, (.sl ((a0 ++ [(IntKind.u8.wrap a1_op)]).map (kAV .u8)) p37))] (h := H38) (fun env => by kernel_rfl) trivial (fun e263 he262 => ?_)
                    refine thenN ?_
                    refine Runs.ret ?_
                    obtain rfl := Option.some.inj h
                    exact row_ret ret_ne rfl rfl (he262.get (t := 4) (v := (.sl ((a0 ++ [(IntKind.u8.wrap a1_op)]).map (kAV .u8)) p37)) (by kernel_rfl)) hk40 hcl (shutL_map (fun _ => rfl) (a0 ++ [(IntKind.u8.wrap a1_op)]))
/-! grommet/expr.list -/
def L10_0 (g18 : (List Int) → Ins → Option (List Int)) (n : Nat) : Nat → (List Int) → (List Ins) → Int → Int → Option (LO (List Int) (List Int))
 | 0, _, _, _, _ => none
 | k + 1, s0, s7, s8, s9 =>
  if (decide (s9 < s8)) then
   if (0 : Int) ≤ s9 then
    (s7[s9.toNat]?).bind fun x10 =>
    match x10 with
    | .mk x10_op x10_a x10_b x10_v x10_t x10_l x10_body x10_els x10_has =>
     (g18 s0 (Ins.mk x10_op x10_a x10_b x10_v x10_t x10_l x10_body x10_els x10_has)).bind fun r24 =>
     L10_0 g18 n k r24 s7 s8 (IntKind.i64.wrap (s9 + 1))
   else none
  else
   some (LO.out (s0))
set_option maxHeartbeats 4000000 in
theorem L10_0_ok {m : Int} {n : Nat} {p0 : Prov} {H0 : Heap} (g18 : (List Int) → Ins → Option (List Int)) (hg18 : ∀ (a0 : List Int) (a1 : Ins) (q0 : Prov) (r : (List Int)) (H : Heap), AppOK 1 H (a0.map (kAV .u8)) q0 → Closed H → g18 a0 a1 = some r → ∃ p' H', evF P (T m) n 18 [.sl (a0.map (kAV .u8)) q0, (Ins.av a1)] H = some (.sl (r.map (kAV .u8)) p', H') ∧ App 1 q0 H (r.map (kAV .u8)) p' H' ∧ Closed H') : ∀ (k : Nat) (s0 : List Int) (s7 : List Ins) (s8 : Int) (s9 : Int) (ps0_ : Prov) (ps7_ : Prov) (e : Env) (H : Heap) (hk : App 1 p0 H0 (s0.map (kAV .u8)) ps0_ H) (hcl : Closed H) (he : Sat [(0, (.sl (s0.map (kAV .u8)) ps0_)), (7, (.sl (insAVs s7) ps7_)), (8, (.s (.int .i64 s8))), (9, (.s (.int .i64 s9)))] e) (out : LO (List Int) (List Int)) (h : L10_0 g18 n k s0 s7 s8 s9 = some out), ∃ x e' h', rdsOf P (T m) (evF P (T m) n) n 10 0 k e H = some (x, e', h') ∧ LOQ out (fun r => False) (fun o => (fun x e h => x = .exit 0 ∧ ∃ ps0_, ∃ Hs, App 1 p0 H0 (o.map (kAV .u8)) ps0_ Hs ∧ Closed Hs ∧ Sat [(0, (.sl (o.map (kAV .u8)) ps0_))] e ∧ h = Hs) x e' h') := by
  intro k
  induction k with
  | zero => intro _ _ _ _ _ _ _ _ _ _ _ _ h; cases h
  | succ k ih =>
    intro s0 s7 s8 s9 ps0_ ps7_ e H hk hcl he out h
    dsimp only [L10_0] at h
    refine rds_step (rd_of (fi := F10) (c10 m) rfl ?_)
    refine Runs.sq ?_
    refine Runs.region he [] [(0, (.sl (s0.map (kAV .u8)) ps0_)), (7, (.sl (insAVs s7) ps7_)), (8, (.s (.int .i64 s8))), (9, (.s (.int .i64 s9))), (10, (.s (.bool (decide (s9 < s8)))))] (h := H) (fun env => by kernel_rfl) trivial (fun e6 he5 => ?_)
    refine thenN ?_
    refine Runs.sq ?_
    by_cases hb7 : (decide (s9 < s8)) = true
    · rw [if_pos hb7] at h
      refine Runs.cond (he5.get (t := 10) (v := (.s (.bool (decide (s9 < s8))))) (by kernel_rfl)) (fun _ => ?_) (fun h0 => absurd (hb7.symm.trans h0) (by decide))
      refine Runs.skip ?_
      refine thenN ?_
      refine Runs.sq ?_
      refine Runs.block ?_
      refine Runs.sq ?_
      by_cases hg8 : (0 : Int) ≤ s9
      rotate_left
      · rw [if_neg hg8] at h; cases h
      rw [if_pos hg8] at h
      obtain ⟨x10, hx9, h⟩ := Option.bind_eq_some_iff.1 h
      obtain ⟨x10_op, x10_a, x10_b, x10_v, x10_t, x10_l, x10_body, x10_els, x10_has⟩ := x10
      dsimp only at h
      obtain ⟨H11, hH12⟩ : ∃ X : Heap, H ++ [Rec.box [(.s (.int .i64 0)), (.s (.int .i64 0)), (.s (.int .i64 0)), (.s (.int .u64 0)), (.s (.int .i64 0)), (.sl [] .full), (.sl [] .full), (.sl [] .full), (.s (.bool false))]] = X := ⟨_, rfl⟩
      have hb13 : H11[H.length]? = some (Rec.box [(.s (.int .i64 0)), (.s (.int .i64 0)), (.s (.int .i64 0)), (.s (.int .u64 0)), (.s (.int .i64 0)), (.sl [] .full), (.sl [] .full), (.sl [] .full), (.s (.bool false))]) := hH12 ▸ late_get
      have hk14 := (hH12 ▸ App.box (cs := [(.s (.int .i64 0)), (.s (.int .i64 0)), (.s (.int .i64 0)), (.s (.int .u64 0)), (.s (.int .i64 0)), (.sl [] .full), (.sl [] .full), (.sl [] .full), (.s (.bool false))]) hk : App _ _ _ _ _ H11)
      have hge16 := hk.stay.1
      obtain ⟨H17, hH18⟩ : ∃ X : Heap, List.set H11 H.length (Rec.box [(.s (.int .i64 x10_op)), (.s (.int .i64 x10_a)), (.s (.int .i64 x10_b)), (.s (.int .u64 x10_v)), (.s (.int .i64 x10_t)), (.sl (x10_l.map intAV) .ro), (.sl (insAVs x10_body) .ro), (.sl (insAVs x10_els) .ro), (.s (.bool x10_has))]) = X := ⟨_, rfl⟩
      have hb19 := set_at hb13 hH18
      have hk20 := (hH18 ▸ App.setbox (ds := [(.s (.int .i64 x10_op)), (.s (.int .i64 x10_a)), (.s (.int .i64 x10_b)), (.s (.int .u64 x10_v)), (.s (.int .i64 x10_t)), (.sl (x10_l.map intAV) .ro), (.sl (insAVs x10_body) .ro), (.sl (insAVs x10_els) .ro), (.s (.bool x10_has))]) hk14 hb13 hge16 : App _ _ _ _ _ H17)
      have hcl21 : Closed H17 := box_open hH12 hH18 hcl (box_shut (shut_aggM (shut_consM rfl (shut_consM rfl (shut_consM rfl (shut_consM rfl (shut_consM rfl (shut_consM (shut_slM (shutL_map (fun _ => rfl) x10_l)) (shut_consM (shut_slM (Ins.shutL _ x10_body)) (shut_consM (shut_slM (Ins.shutL _ x10_els)) (shut_consM rfl rfl)))))))))))
      refine Runs.region he5 [(0, .e s9.toNat (.agg [(.s (.int .i64 x10_op)), (.s (.int .i64 x10_a)), (.s (.int .i64 x10_b)), (.s (.int .u64 x10_v)), (.s (.int .i64 x10_t)), (.sl (x10_l.map intAV) .ro), (.sl (insAVs x10_body) .ro), (.sl (insAVs x10_els) .ro), (.s (.bool x10_has))])), (2, .nb H.length H11), (3, .st [(.s (.int .i64 0)), (.s (.int .i64 0)), (.s (.int .i64 0)), (.s (.int .u64 0)), (.s (.int .i64 0)), (.sl [] .full), (.sl [] .full), (.sl [] .full), (.s (.bool false))] H17)] [(0, (.sl (s0.map (kAV .u8)) ps0_)), (6, (.ptr H.length 0)), (7, (.sl (insAVs s7) ps7_)), (8, (.s (.int .i64 s8))), (9, (.s (.int .i64 s9)))] (h := H17) (fun env => by kernel_rfl) (And.intro (And.intro (at_nat hg8) (insAVs_at hx9)) (And.intro (And.intro (rfl : H.length = H.length) hH12) (And.intro (And.intro hb13 hH18) trivial))) (fun e23 he22 => ?_)
      refine thenN ?_
      obtain ⟨r24, hr25, h⟩ := Option.bind_eq_some_iff.1 h
      obtain ⟨p26, H27, ha28, hk29, hcl31⟩ := hg18 s0 (Ins.mk x10_op x10_a x10_b x10_v x10_t x10_l x10_body x10_els x10_has) ps0_  _ H17 hk20.ok hcl21 hr25
      have hk30 := hk20.trans hk29
      have hb32 := hk20.keeps hk29 _ _ hb19
      refine Runs.region he22 [(1, .c [(.s (.int .i64 x10_op)), (.s (.int .i64 x10_a)), (.s (.int .i64 x10_b)), (.s (.int .u64 x10_v)), (.s (.int .i64 x10_t)), (.sl (x10_l.map intAV) .ro), (.sl (insAVs x10_body) .ro), (.sl (insAVs x10_els) .ro), (.s (.bool x10_has))]), (2, .f (.sl (r24.map (kAV .u8)) p26) H27)] [(0, (.sl (r24.map (kAV .u8)) p26)), (7, (.sl (insAVs s7) ps7_)), (8, (.s (.int .i64 s8))), (9, (.s (.int .i64 s9)))] (h := H27) (fun env => by kernel_rfl) (And.intro hb19 (And.intro ha28 trivial)) (fun e34 he33 => ?_)
      refine blockN ?_
      refine thenN ?_
      refine Runs.region he33 [] [(0, (.sl (r24.map (kAV .u8)) p26)), (7, (.sl (insAVs s7) ps7_)), (8, (.s (.int .i64 s8))), (9, (.s (.int .i64 (IntKind.i64.wrap (s9 + 1)))))] (h := H27) (fun env => by kernel_rfl) trivial (fun e36 he35 => ?_)
      refine thenN ?_
      exact ih r24 s7 s8 (IntKind.i64.wrap (s9 + 1)) p26 ps7_ _ H27 hk30 hcl31 (he35.sub (by kernel_rfl)) _ h
    · rw [if_neg hb7] at h
      refine Runs.cond (he5.get (t := 10) (v := (.s (.bool (decide (s9 < s8))))) (by kernel_rfl)) (fun h0 => absurd h0 hb7) (fun _ => ?_)
      refine Runs.exit ?_
      refine thenX ?_
      refine thenX ?_
      obtain rfl := Option.some.inj h
      exact LOQ.o ⟨rfl, ps0_, H, hk, hcl, he5.sub (by kernel_rfl), rfl⟩
def S10 (g18 : (List Int) → Ins → Option (List Int)) (n : Nat) (a0 : List Int) (a1 : List Ins) : Option ((List Int)) :=
 (L10_0 g18 n n a0 a1 (a1.length : Int) (0 : Int)).bind fun lo37 => match lo37 with
 | .ret _ => none
 | .out o43 =>
  some o43
set_option maxHeartbeats 4000000 in
theorem S10_ok {m : Int} {n : Nat} (g18 : (List Int) → Ins → Option (List Int)) (hg18 : ∀ (a0 : List Int) (a1 : Ins) (q0 : Prov) (r : (List Int)) (H : Heap), AppOK 1 H (a0.map (kAV .u8)) q0 → Closed H → g18 a0 a1 = some r → ∃ p' H', evF P (T m) n 18 [.sl (a0.map (kAV .u8)) q0, (Ins.av a1)] H = some (.sl (r.map (kAV .u8)) p', H') ∧ App 1 q0 H (r.map (kAV .u8)) p' H' ∧ Closed H') (a0 : List Int) (a1 : List Ins) (q0 q1 : Prov) (r : (List Int)) (H : Heap) (hok : AppOK 1 H (a0.map (kAV .u8)) q0) (hcl : Closed H) (h : S10 g18 n a0 a1 = some r) : ∃ p' H', evF P (T m) (n + 1) 10 [.sl (a0.map (kAV .u8)) q0, .sl (insAVs a1) q1] H = some (.sl (r.map (kAV .u8)) p', H') ∧ App 1 q0 H (r.map (kAV .u8)) p' H' ∧ Closed H' := by
  refine row_call (call_imp (fi := F10) (x10 m) (oh10 m) (o10 m) (c10 m) rfl rfl ?_)
  dsimp only [S10] at h
  have he : Sat [(0, (.sl (a0.map (kAV .u8)) q0)), (1, (.sl (insAVs a1) q1))] (argEnv [(.sl (a0.map (kAV .u8)) q0), (.sl (insAVs a1) q1)]) := Sat.cons rfl (Sat.cons rfl (Sat.nil))
  refine (show Runs P (T m) (evF P (T m) n) n 10 F10 0 F10.body (argEnv [(.sl (a0.map (kAV .u8)) q0), (.sl (insAVs a1) q1)]) H _ from ?_)
  generalize argEnv [(.sl (a0.map (kAV .u8)) q0), (.sl (insAVs a1) q1)] = e at he ⊢
  have hk0 := App.start hok
  refine Runs.sq ?_
  refine Runs.region he [] [(0, (.sl (a0.map (kAV .u8)) q0)), (1, (.sl (insAVs a1) q1))] (h := H) (fun env => by kernel_rfl) trivial (fun e2 he1 => ?_)
  refine thenN ?_
  refine Runs.sq ?_
  refine Runs.sq ?_
  refine Runs.region he1 [(1, .i (a1.length : Int))] [(0, (.sl (a0.map (kAV .u8)) q0)), (7, (.sl (insAVs a1) q1)), (8, (.s (.int .i64 (a1.length : Int)))), (9, (.s (.int .i64 0)))] (h := H) (fun env => by kernel_rfl) (And.intro (len_ins (l := a1)) trivial) (fun e4 he3 => ?_)
  refine thenN ?_
  refine Runs.block ?_
  obtain ⟨lo37, hl38, h⟩ := Option.bind_eq_some_iff.1 h
  obtain ⟨x39, e40, he40, hd42, hq41⟩ := L10_0_ok (p0 := q0) (H0 := H) g18 hg18 n a0 a1 (a1.length : Int) (0 : Int) q0 q1 _ H hk0 hcl (he3.sub (by kernel_rfl)) lo37 hl38
  refine Runs.loop ⟨x39, e40, he40, by rw [lpOf_eq]; exact hd42, ?_⟩
  cases lo37 with
  | ret rx39 =>
    dsimp only at h
    cases h
  | out o43 =>
    dsimp only at h
    obtain ⟨rfl, p48, H46, hk47, hcl49, he44, hh45⟩ := hq41
    rw [hh45]
    refine blockE ?_
    refine thenN ?_
    refine Runs.sq ?_
    refine Runs.region he44 [] [(4, (.sl (o43.map (kAV .u8)) p48))] (h := H46) (fun env => by kernel_rfl) trivial (fun e51 he50 => ?_)
    refine thenN ?_
    refine Runs.ret ?_
    obtain rfl := Option.some.inj h
    exact row_ret ret_ne rfl rfl (he50.get (t := 4) (v := (.sl (o43.map (kAV .u8)) p48)) (by kernel_rfl)) hk47 hcl (shutL_map (fun _ => rfl) o43)
/-! grommet/expr.Put -/
def RetOK6 (r : (List Int) × Err) (e : Env) (h : Heap) : Prop := ∃ vs, resA P e h [.tmp 2, .tmp 3] = some vs ∧ finA h (oneOf vs) = some (.tup [(.sl (r.1.map (kAV .u8)) .ro), (Err.av r.2)])
theorem RetOK6.of {r : (List Int) × Err} {e : Env} {h : Heap} {vs : List AV} (h1 : resA P e h [.tmp 2, .tmp 3] = some vs) (h2 : finA h (oneOf vs) = some (.tup [(.sl (r.1.map (kAV .u8)) .ro), (Err.av r.2)])) : RetOK6 r e h := ⟨vs, h1, h2⟩
theorem RetOK6.endP {x : Ex} {r : (List Int) × Err} {e : Env} {h : Heap} (hx : ∀ k, x ≠ .exit k) (hr : RetOK6 r e h) : EndP P F6 (.tup [(.sl (r.1.map (kAV .u8)) .ro), (Err.av r.2)]) x e h := by
  obtain ⟨vs, h1, h2⟩ := hr
  exact endQ hx rfl h1 h2
def S6 (g10 : (List Int) → (List Ins) → Option (List Int)) (g9 : (List Ins) → Option Bool) (n : Nat) (a0 : List Ins) : Option ((List Int) × Err) :=
 (g9 a0).bind fun r3 =>
 if (!r3) then
  some ([], (Err.code 1))
 else
  (g10 [] a0).bind fun r10 =>
  if (r10.length + 1) * 1 ≤ roomA then
   some ((r10 ++ [(11 : Int)]), Err.nil)
  else none
set_option maxHeartbeats 4000000 in
theorem S6_ok {m : Int} {n : Nat} (g10 : (List Int) → (List Ins) → Option (List Int)) (hg10 : ∀ (a0 : List Int) (a1 : List Ins) (q0 q1 : Prov) (r : (List Int)) (H : Heap), AppOK 1 H (a0.map (kAV .u8)) q0 → Closed H → g10 a0 a1 = some r → ∃ p' H', evF P (T m) n 10 [.sl (a0.map (kAV .u8)) q0, .sl (insAVs a1) q1] H = some (.sl (r.map (kAV .u8)) p', H') ∧ App 1 q0 H (r.map (kAV .u8)) p' H' ∧ Closed H') (g9 : (List Ins) → Option Bool) (hg9 : ∀ (a0 : List Ins) (q0 : Prov) (r : Bool) (H : Heap), g9 a0 = some r → evF P (T m) n 9 [.sl (insAVs a0) q0] H = some ((.s (.bool r)), H)) (a0 : List Ins) (q0 : Prov) (r : (List Int) × Err) (H : Heap) (h : S6 g10 g9 n a0 = some r) : evF P (T m) (n + 1) 6 [.sl (insAVs a0) q0] H = some ((.tup [(.sl (r.1.map (kAV .u8)) .ro), (Err.av r.2)]), H) := by
  refine call_pure' (fi := F6) (bs := [(.sl (insAVs a0) .ro)]) (x6 m) (oh6 m) (o6 m) (c6 m) rfl rfl (shut_cons (shut_sl (Ins.shutL 0 a0)) rfl) ?_
  dsimp only [S6] at h
  have he : Sat [(0, (.sl (insAVs a0) .ro))] (argEnv [(.sl (insAVs a0) .ro)]) := Sat.cons rfl (Sat.nil)
  refine (show Runs P (T m) (evF P (T m) n) n 6 F6 0 F6.body (argEnv [(.sl (insAVs a0) .ro)]) [] _ from ?_)
  generalize argEnv [(.sl (insAVs a0) .ro)] = e at he ⊢
  refine Runs.sq ?_
  refine Runs.region he [] [(0, (.sl (insAVs a0) .ro))] (h := []) (fun env => by kernel_rfl) trivial (fun e2 he1 => ?_)
  refine thenN ?_
  refine Runs.sq ?_
  refine Runs.sq ?_
  obtain ⟨r3, hr4, h⟩ := Option.bind_eq_some_iff.1 h
  refine Runs.region he1 [(1, .f (.s (.bool r3)) [])] [(0, (.sl (insAVs a0) .ro)), (6, (.s (.bool (!r3))))] (h := []) (fun env => by kernel_rfl) (And.intro (hg9 a0 .ro _ []  hr4) trivial) (fun e6 he5 => ?_)
  refine thenN ?_
  by_cases hb7 : (!r3) = true
  · rw [if_pos hb7] at h
    refine Runs.cond (he5.get (t := 6) (v := (.s (.bool (!r3)))) (by kernel_rfl)) (fun _ => ?_) (fun h0 => absurd (hb7.symm.trans h0) (by decide))
    refine Runs.sq ?_
    refine Runs.region he5 [] [(2, (.sl [] .full)), (3, (.ifc 39 (.s (.int .i64 1))))] (h := []) (fun env => by kernel_rfl) trivial (fun e9 he8 => ?_)
    refine thenN ?_
    refine Runs.ret ?_
    refine thenR ?_
    obtain rfl := Option.some.inj h
    exact RetOK6.endP ret_ne (RetOK6.of (resT (he8.get (t := 2) (v := (.sl [] .full)) (by kernel_rfl)) (resT (he8.get (t := 3) (v := (.ifc 39 (.s (.int .i64 1)))) (by kernel_rfl)) resN)) (fin_of (fun _ _ _ _ _ h => by cases h) (shut_tup (shut_cons (shut_sl rfl) (shut_cons rfl rfl)))))
  · rw [if_neg hb7] at h
    refine Runs.cond (he5.get (t := 6) (v := (.s (.bool (!r3)))) (by kernel_rfl)) (fun h0 => absurd h0 hb7) (fun _ => ?_)
    refine Runs.skip ?_
    refine thenN ?_
    refine Runs.sq ?_
    obtain ⟨r10, hr11, h⟩ := Option.bind_eq_some_iff.1 h
    obtain ⟨p12, H13, ha14, hk15, hcl17⟩ := hg10 [] a0 .full .ro _ [] (app_nil (sz := 1)) closed_nil hr11
    have hk16 := AppT.of_ok hk15.ok
    by_cases hr22 : (r10.length + 1) * 1 ≤ roomA
    rotate_left
    · rw [if_neg hr22] at h; cases h
    rw [if_pos hr22] at h
    obtain ⟨p18, H19, ha20, hk21⟩ := app_tail (bytes := 1) (ys := [(.s (.int .u8 11))]) (zs := ((r10 ++ [(11 : Int)]).map (kAV .u8))) [] rfl hk16 rfl (List.map_append (f := (kAV .u8)) (l₁ := (r10 : List Int)) (l₂ := ([(11 : Int)] : List Int))).symm (by first | exact hr22 | simpa [insAVs_length] using hr22)
    refine Runs.region he5 [(1, .f (.sl (r10.map (kAV .u8)) p12) H13), (3, .f (.sl ((r10 ++ [(11 : Int)]).map (kAV .u8)) p18) H19)] [(2, (.sl ((r10 ++ [(11 : Int)]).map (kAV .u8)) p18)), (3, (.s .nilIface))] (h := H19) (fun env => by kernel_rfl) (And.intro ha14 (And.intro ((appendC_of (sz := 1) (bytes := 1) (t := 26) (tx := 26) (bf := (F6.bf.contains ·)) (x := (.sl (r10.map (kAV .u8)) p12)) (H := H13) (by kernel_rfl) (by kernel_rfl) (src_sl (P := P) (tx := 26) (H := H13) (p := .full) (by kernel_rfl) rfl)).trans ha20) trivial)) (fun e24 he23 => ?_)
    refine thenN ?_
    refine Runs.ret ?_
    obtain rfl := Option.some.inj h
    exact RetOK6.endP ret_ne (RetOK6.of (resT (he23.get (t := 2) (v := (.sl ((r10 ++ [(11 : Int)]).map (kAV .u8)) p18)) (by kernel_rfl)) (resT (he23.get (t := 3) (v := (.s .nilIface)) (by kernel_rfl)) resN)) (fin_of (fun _ _ _ _ _ h => by cases h) (shut_tup (shut_cons (shut_sl (shutL_map (fun _ => rfl) (r10 ++ [(11 : Int)]))) (shut_cons rfl rfl)))))
/-! grommet/tree.number -/
def RetOK30 (r : Bool) (e : Env) (h : Heap) : Prop := ∃ vs, resA P e h [.tmp 2] = some vs ∧ finA h (oneOf vs) = some (.s (.bool r))
theorem RetOK30.of {r : Bool} {e : Env} {h : Heap} {vs : List AV} (h1 : resA P e h [.tmp 2] = some vs) (h2 : finA h (oneOf vs) = some (.s (.bool r))) : RetOK30 r e h := ⟨vs, h1, h2⟩
theorem RetOK30.endP {x : Ex} {r : Bool} {e : Env} {h : Heap} (hx : ∀ k, x ≠ .exit k) (hr : RetOK30 r e h) : EndP P F30 (.s (.bool r)) x e h := by
  obtain ⟨vs, h1, h2⟩ := hr
  exact endQ hx rfl h1 h2
def S30  (n : Nat) (a0 : Int) : Option (Bool) :=
 (show Option (Bool) from
  if (decide (0 ≤ a0)) then
   some (decide (a0 ≤ 4294967295))
  else
   some false).bind fun v3 =>
 some v3
set_option maxHeartbeats 4000000 in
theorem S30_ok {m : Int} {n : Nat}  (a0 : Int)  (r : Bool) (H : Heap) (h : S30  n a0 = some r) : evF P (T m) (n + 1) 30 [(.s (.int .i64 a0))] H = some ((.s (.bool r)), H) := by
  refine call_pure' (fi := F30) (bs := [(.s (.int .i64 a0))]) (x30 m) (oh30 m) (o30 m) (c30 m) rfl rfl (shut_cons rfl rfl) ?_
  dsimp only [S30] at h
  have he : Sat [(0, (.s (.int .i64 a0)))] (argEnv [(.s (.int .i64 a0))]) := Sat.cons rfl (Sat.nil)
  refine (show Runs P (T m) (evF P (T m) n) n 30 F30 0 F30.body (argEnv [(.s (.int .i64 a0))]) [] _ from ?_)
  generalize argEnv [(.s (.int .i64 a0))] = e at he ⊢
  refine Runs.sq ?_
  refine Runs.region he [] [(0, (.s (.int .i64 a0)))] (h := []) (fun env => by kernel_rfl) trivial (fun e2 he1 => ?_)
  refine thenN ?_
  refine Runs.sq ?_
  obtain ⟨v3, hm4, h⟩ := Option.bind_eq_some_iff.1 h
  refine Runs.mono (Q := fun x e h => x = .normal ∧ Sat [(2, (.s (.bool v3)))] e ∧ h = []) ?_ ?_
  · by_cases hb5 : (decide (0 ≤ a0)) = true
    · rw [if_pos hb5] at hm4
      obtain rfl := Option.some.inj hm4
      exact Runs.region he1 [(2, .b true)] [(2, (.s (.bool (decide (a0 ≤ 4294967295)))))] (h := []) (fun env => by kernel_rfl) (And.intro hb5 trivial) (fun _ h => ⟨rfl, h, rfl⟩)
    · rw [if_neg hb5] at hm4
      obtain rfl := Option.some.inj hm4
      exact Runs.region he1 [(2, .b false)] [(2, (.s (.bool false)))] (h := []) (fun env => by kernel_rfl) (And.intro (Bool.eq_false_iff.2 hb5) trivial) (fun _ h => ⟨rfl, h, rfl⟩)
  rintro _ e7 h8 ⟨rfl, he6, hh9⟩
  rw [hh9]
  refine thenN ?_
  refine Runs.ret ?_
  obtain rfl := Option.some.inj h
  exact RetOK30.endP ret_ne (RetOK30.of (resT (he6.get (t := 2) (v := (.s (.bool v3))) (by kernel_rfl)) resN) (fin_of (fun _ _ _ _ _ h => by cases h) rfl))
/-! grommet/tree.may$1 -/
def RetOK32 (r : Bool) (e : Env) (h : Heap) : Prop := ∃ vs, resA P e h [.tmp 2] = some vs ∧ finA h (oneOf vs) = some (.s (.bool r))
theorem RetOK32.of {r : Bool} {e : Env} {h : Heap} {vs : List AV} (h1 : resA P e h [.tmp 2] = some vs) (h2 : finA h (oneOf vs) = some (.s (.bool r))) : RetOK32 r e h := ⟨vs, h1, h2⟩
theorem RetOK32.endP {x : Ex} {r : Bool} {e : Env} {h : Heap} (hx : ∀ k, x ≠ .exit k) (hr : RetOK32 r e h) : EndP P F32 (.s (.bool r)) x e h := by
  obtain ⟨vs, h1, h2⟩ := hr
  exact endQ hx rfl h1 h2
def S32 (g30 : Int → Option Bool) (n : Nat) (a0 : Int) : Option (Bool) :=
 (g30 a0).bind fun r3 =>
 some (!r3)
set_option maxHeartbeats 4000000 in
theorem S32_ok {m : Int} {n : Nat} (g30 : Int → Option Bool) (hg30 : ∀ (a0 : Int) (r : Bool) (H : Heap), g30 a0 = some r → evF P (T m) n 30 [(.s (.int .i64 a0))] H = some ((.s (.bool r)), H)) (a0 : Int)  (r : Bool) (H : Heap) (h : S32 g30 n a0 = some r) : evF P (T m) (n + 1) 32 [(.s (.int .i64 a0))] H = some ((.s (.bool r)), H) := by
  refine call_pure' (fi := F32) (bs := [(.s (.int .i64 a0))]) (x32 m) (oh32 m) (o32 m) (c32 m) rfl rfl (shut_cons rfl rfl) ?_
  dsimp only [S32] at h
  have he : Sat [(0, (.s (.int .i64 a0)))] (argEnv [(.s (.int .i64 a0))]) := Sat.cons rfl (Sat.nil)
  refine (show Runs P (T m) (evF P (T m) n) n 32 F32 0 F32.body (argEnv [(.s (.int .i64 a0))]) [] _ from ?_)
  generalize argEnv [(.s (.int .i64 a0))] = e at he ⊢
  refine Runs.sq ?_
  refine Runs.region he [] [(0, (.s (.int .i64 a0)))] (h := []) (fun env => by kernel_rfl) trivial (fun e2 he1 => ?_)
  refine thenN ?_
  refine Runs.sq ?_
  obtain ⟨r3, hr4, h⟩ := Option.bind_eq_some_iff.1 h
  refine Runs.region he1 [(1, .f (.s (.bool r3)) [])] [(2, (.s (.bool (!r3))))] (h := []) (fun env => by kernel_rfl) (And.intro (hg30 a0  _ []  hr4) trivial) (fun e6 he5 => ?_)
  refine thenN ?_
  refine Runs.ret ?_
  obtain rfl := Option.some.inj h
  exact RetOK32.endP ret_ne (RetOK32.of (resT (he5.get (t := 2) (v := (.s (.bool (!r3)))) (by kernel_rfl)) resN) (fin_of (fun _ _ _ _ _ h => by cases h) rfl))
/-! grommet/tree.bare -/
def RetOK33 (r : Bool) (e : Env) (h : Heap) : Prop := ∃ vs, resA P e h [.tmp 2] = some vs ∧ finA h (oneOf vs) = some (.s (.bool r))
theorem RetOK33.of {r : Bool} {e : Env} {h : Heap} {vs : List AV} (h1 : resA P e h [.tmp 2] = some vs) (h2 : finA h (oneOf vs) = some (.s (.bool r))) : RetOK33 r e h := ⟨vs, h1, h2⟩
theorem RetOK33.endP {x : Ex} {r : Bool} {e : Env} {h : Heap} (hx : ∀ k, x ≠ .exit k) (hr : RetOK33 r e h) : EndP P F33 (.s (.bool r)) x e h := by
  obtain ⟨vs, h1, h2⟩ := hr
  exact endQ hx rfl h1 h2
def S33  (n : Nat) (a0 : Ins) : Option (Bool) :=
 match a0 with
 | .mk a0_op a0_a a0_b a0_v a0_t a0_l a0_body a0_els a0_has =>
 (show Option (Bool) from
  if (decide (a0_a = 0)) then
   if (decide (a0_b = 0)) then
    if (decide (a0_v = 0)) then
     if (decide (a0_t = 0)) then
      if (decide ((a0_l.length : Int) = 0)) then
       if (decide ((a0_body.length : Int) = 0)) then
        if (decide ((a0_els.length : Int) = 0)) then
         some (!a0_has)
        else
         some false
       else
        some false
      else
       some false
     else
      some false
    else
     some false
   else
    some false
  else
   some false).bind fun v3 =>
 some v3
set_option maxHeartbeats 4000000 in
theorem S33_ok {m : Int} {n : Nat}  (a0 : Ins)  (r : Bool) (H : Heap) (h : S33  n a0 = some r) : evF P (T m) (n + 1) 33 [(Ins.av a0)] H = some ((.s (.bool r)), H) := by
  refine call_pure' (fi := F33) (bs := [(Ins.av a0)]) (x33 m) (oh33 m) (o33 m) (c33 m) rfl rfl (shut_cons (Ins.shut 0 a0) rfl) ?_
  obtain ⟨a0_op, a0_a, a0_b, a0_v, a0_t, a0_l, a0_body, a0_els, a0_has⟩ := a0
  dsimp only [S33] at h
  have he : Sat [(0, (.agg [(.s (.int .i64 a0_op)), (.s (.int .i64 a0_a)), (.s (.int .i64 a0_b)), (.s (.int .u64 a0_v)), (.s (.int .i64 a0_t)), (.sl (a0_l.map intAV) .ro), (.sl (insAVs a0_body) .ro), (.sl (insAVs a0_els) .ro), (.s (.bool a0_has))]))] (argEnv [(.agg [(.s (.int .i64 a0_op)), (.s (.int .i64 a0_a)), (.s (.int .i64 a0_b)), (.s (.int .u64 a0_v)), (.s (.int .i64 a0_t)), (.sl (a0_l.map intAV) .ro), (.sl (insAVs a0_body) .ro), (.sl (insAVs a0_els) .ro), (.s (.bool a0_has))])]) := Sat.cons rfl (Sat.nil)
  refine (show Runs P (T m) (evF P (T m) n) n 33 F33 0 F33.body (argEnv [(.agg [(.s (.int .i64 a0_op)), (.s (.int .i64 a0_a)), (.s (.int .i64 a0_b)), (.s (.int .u64 a0_v)), (.s (.int .i64 a0_t)), (.sl (a0_l.map intAV) .ro), (.sl (insAVs a0_body) .ro), (.sl (insAVs a0_els) .ro), (.s (.bool a0_has))])]) [] _ from ?_)
  generalize argEnv [(.agg [(.s (.int .i64 a0_op)), (.s (.int .i64 a0_a)), (.s (.int .i64 a0_b)), (.s (.int .u64 a0_v)), (.s (.int .i64 a0_t)), (.sl (a0_l.map intAV) .ro), (.sl (insAVs a0_body) .ro), (.sl (insAVs a0_els) .ro), (.s (.bool a0_has))])] = e at he ⊢
  refine Runs.sq ?_
  refine Runs.region he [] [(1, (.ptr 0 0))] (h := [Rec.box [(.s (.int .i64 a0_op)), (.s (.int .i64 a0_a)), (.s (.int .i64 a0_b)), (.s (.int .u64 a0_v)), (.s (.int .i64 a0_t)), (.sl (a0_l.map intAV) .ro), (.sl (insAVs a0_body) .ro), (.sl (insAVs a0_els) .ro), (.s (.bool a0_has))]]) (fun env => by kernel_rfl) trivial (fun e2 he1 => ?_)
  refine thenN ?_
  refine Runs.sq ?_
  obtain ⟨v3, hm4, h⟩ := Option.bind_eq_some_iff.1 h
  refine Runs.mono (Q := fun x e h => x = .normal ∧ Sat [(2, (.s (.bool v3)))] e ∧ h = [Rec.box [(.s (.int .i64 a0_op)), (.s (.int .i64 a0_a)), (.s (.int .i64 a0_b)), (.s (.int .u64 a0_v)), (.s (.int .i64 a0_t)), (.sl (a0_l.map intAV) .ro), (.sl (insAVs a0_body) .ro), (.sl (insAVs a0_els) .ro), (.s (.bool a0_has))]]) ?_ ?_
  · by_cases hb5 : (decide (a0_a = 0)) = true
    · rw [if_pos hb5] at hm4
      by_cases hb6 : (decide (a0_b = 0)) = true
      · rw [if_pos hb6] at hm4
        by_cases hb7 : (decide (a0_v = 0)) = true
        · rw [if_pos hb7] at hm4
          by_cases hb8 : (decide (a0_t = 0)) = true
          · rw [if_pos hb8] at hm4
            by_cases hb9 : (decide ((a0_l.length : Int) = 0)) = true
            · rw [if_pos hb9] at hm4
              by_cases hb10 : (decide ((a0_body.length : Int) = 0)) = true
              · rw [if_pos hb10] at hm4
                by_cases hb11 : (decide ((a0_els.length : Int) = 0)) = true
                · rw [if_pos hb11] at hm4
                  obtain rfl := Option.some.inj hm4
                  exact Runs.region he1 [(3, .b true), (8, .b true), (13, .b true), (18, .b true), (21, .i (a0_l.length : Int)), (24, .b true), (27, .i (a0_body.length : Int)), (30, .b true), (33, .i (a0_els.length : Int)), (36, .b true)] [(2, (.s (.bool (!a0_has))))] (h := [Rec.box [(.s (.int .i64 a0_op)), (.s (.int .i64 a0_a)), (.s (.int .i64 a0_b)), (.s (.int .u64 a0_v)), (.s (.int .i64 a0_t)), (.sl (a0_l.map intAV) .ro), (.sl (insAVs a0_body) .ro), (.sl (insAVs a0_els) .ro), (.s (.bool a0_has))]]) (fun env => by kernel_rfl) (And.intro hb5 (And.intro hb6 (And.intro hb7 (And.intro hb8 (And.intro (len_map (l := a0_l) (f := intAV)) (And.intro hb9 (And.intro (len_ins (l := a0_body)) (And.intro hb10 (And.intro (len_ins (l := a0_els)) (And.intro hb11 trivial)))))))))) (fun _ h => ⟨rfl, h, rfl⟩)
                · rw [if_neg hb11] at hm4
                  obtain rfl := Option.some.inj hm4
                  exact Runs.region he1 [(3, .b true), (8, .b true), (13, .b true), (18, .b true), (21, .i (a0_l.length : Int)), (24, .b true), (27, .i (a0_body.length : Int)), (30, .b true), (33, .i (a0_els.length : Int)), (36, .b false)] [(2, (.s (.bool false)))] (h := [Rec.box [(.s (.int .i64 a0_op)), (.s (.int .i64 a0_a)), (.s (.int .i64 a0_b)), (.s (.int .u64 a0_v)), (.s (.int .i64 a0_t)), (.sl (a0_l.map intAV) .ro), (.sl (insAVs a0_body) .ro), (.sl (insAVs a0_els) .ro), (.s (.bool a0_has))]]) (fun env => by kernel_rfl) (And.intro hb5 (And.intro hb6 (And.intro hb7 (And.intro hb8 (And.intro (len_map (l := a0_l) (f := intAV)) (And.intro hb9 (And.intro (len_ins (l := a0_body)) (And.intro hb10 (And.intro (len_ins (l := a0_els)) (And.intro (Bool.eq_false_iff.2 hb11) trivial)))))))))) (fun _ h => ⟨rfl, h, rfl⟩)
              · rw [if_neg hb10] at hm4
                obtain rfl := Option.some.inj hm4
                exact Runs.region he1 [(3, .b true), (8, .b true), (13, .b true), (18, .b true), (21, .i (a0_l.length : Int)), (24, .b true), (27, .i (a0_body.length : Int)), (30, .b false)] [(2, (.s (.bool false)))] (h := [Rec.box [(.s (.int .i64 a0_op)), (.s (.int .i64 a0_a)), (.s (.int .i64 a0_b)), (.s (.int .u64 a0_v)), (.s (.int .i64 a0_t)), (.sl (a0_l.map intAV) .ro), (.sl (insAVs a0_body) .ro), (.sl (insAVs a0_els) .ro), (.s (.bool a0_has))]]) (fun env => by kernel_rfl) (And.intro hb5 (And.intro hb6 (And.intro hb7 (And.intro hb8 (And.intro (len_map (l := a0_l) (f := intAV)) (And.intro hb9 (And.intro (len_ins (l := a0_body)) (And.intro (Bool.eq_false_iff.2 hb10) trivial)))))))) (fun _ h => ⟨rfl, h, rfl⟩)
            · rw [if_neg hb9] at hm4
              obtain rfl := Option.some.inj hm4
              exact Runs.region he1 [(3, .b true), (8, .b true), (13, .b true), (18, .b true), (21, .i (a0_l.length : Int)), (24, .b false)] [(2, (.s (.bool false)))] (h := [Rec.box [(.s (.int .i64 a0_op)), (.s (.int .i64 a0_a)), (.s (.int .i64 a0_b)), (.s (.int .u64 a0_v)), (.s (.int .i64 a0_t)), (.sl (a0_l.map intAV) .ro), (.sl (insAVs a0_body) .ro), (.sl (insAVs a0_els) .ro), (.s (.bool a0_has))]]) (fun env => by kernel_rfl) (And.intro hb5 (And.intro hb6 (And.intro hb7 (And.intro hb8 (And.intro (len_map (l := a0_l) (f := intAV)) (And.intro (Bool.eq_false_iff.2 hb9) trivial)))))) (fun _ h => ⟨rfl, h, rfl⟩)
          · rw [if_neg hb8] at hm4
            obtain rfl := Option.some.inj hm4
            exact Runs.region he1 [(3, .b true), (8, .b true), (13, .b true), (18, .b false)] [(2, (.s (.bool false)))] (h := [Rec.box [(.s (.int .i64 a0_op)), (.s (.int .i64 a0_a)), (.s (.int .i64 a0_b)), (.s (.int .u64 a0_v)), (.s (.int .i64 a0_t)), (.sl (a0_l.map intAV) .ro), (.sl (insAVs a0_body) .ro), (.sl (insAVs a0_els) .ro), (.s (.bool a0_has))]]) (fun env => by kernel_rfl) (And.intro hb5 (And.intro hb6 (And.intro hb7 (And.intro (Bool.eq_false_iff.2 hb8) trivial)))) (fun _ h => ⟨rfl, h, rfl⟩)
        · rw [if_neg hb7] at hm4
          obtain rfl := Option.some.inj hm4
          exact Runs.region he1 [(3, .b true), (8, .b true), (13, .b false)] [(2, (.s (.bool false)))] (h := [Rec.box [(.s (.int .i64 a0_op)), (.s (.int .i64 a0_a)), (.s (.int .i64 a0_b)), (.s (.int .u64 a0_v)), (.s (.int .i64 a0_t)), (.sl (a0_l.map intAV) .ro), (.sl (insAVs a0_body) .ro), (.sl (insAVs a0_els) .ro), (.s (.bool a0_has))]]) (fun env => by kernel_rfl) (And.intro hb5 (And.intro hb6 (And.intro (Bool.eq_false_iff.2 hb7) trivial))) (fun _ h => ⟨rfl, h, rfl⟩)
      · rw [if_neg hb6] at hm4
        obtain rfl := Option.some.inj hm4
        exact Runs.region he1 [(3, .b true), (8, .b false)] [(2, (.s (.bool false)))] (h := [Rec.box [(.s (.int .i64 a0_op)), (.s (.int .i64 a0_a)), (.s (.int .i64 a0_b)), (.s (.int .u64 a0_v)), (.s (.int .i64 a0_t)), (.sl (a0_l.map intAV) .ro), (.sl (insAVs a0_body) .ro), (.sl (insAVs a0_els) .ro), (.s (.bool a0_has))]]) (fun env => by kernel_rfl) (And.intro hb5 (And.intro (Bool.eq_false_iff.2 hb6) trivial)) (fun _ h => ⟨rfl, h, rfl⟩)
    · rw [if_neg hb5] at hm4
      obtain rfl := Option.some.inj hm4
      exact Runs.region he1 [(3, .b false)] [(2, (.s (.bool false)))] (h := [Rec.box [(.s (.int .i64 a0_op)), (.s (.int .i64 a0_a)), (.s (.int .i64 a0_b)), (.s (.int .u64 a0_v)), (.s (.int .i64 a0_t)), (.sl (a0_l.map intAV) .ro), (.sl (insAVs a0_body) .ro), (.sl (insAVs a0_els) .ro), (.s (.bool a0_has))]]) (fun env => by kernel_rfl) (And.intro (Bool.eq_false_iff.2 hb5) trivial) (fun _ h => ⟨rfl, h, rfl⟩)
  rintro _ e13 h14 ⟨rfl, he12, hh15⟩
  rw [hh15]
  refine thenN ?_
  refine Runs.ret ?_
  obtain rfl := Option.some.inj h
  exact RetOK33.endP ret_ne (RetOK33.of (resT (he12.get (t := 2) (v := (.s (.bool v3))) (by kernel_rfl)) resN) (fin_of (fun _ _ _ _ _ h => by cases h) rfl))
/-! grommet/tree.block -/
def RetOK29 (r : Bool) (e : Env) (h : Heap) : Prop := ∃ vs, resA P e h [.tmp 2] = some vs ∧ finA h (oneOf vs) = some (.s (.bool r))
theorem RetOK29.of {r : Bool} {e : Env} {h : Heap} {vs : List AV} (h1 : resA P e h [.tmp 2] = some vs) (h2 : finA h (oneOf vs) = some (.s (.bool r))) : RetOK29 r e h := ⟨vs, h1, h2⟩
theorem RetOK29.endP {x : Ex} {r : Bool} {e : Env} {h : Heap} (hx : ∀ k, x ≠ .exit k) (hr : RetOK29 r e h) : EndP P F29 (.s (.bool r)) x e h := by
  obtain ⟨vs, h1, h2⟩ := hr
  exact endQ hx rfl h1 h2
def S29 (g9 : (List Ins) → Option Bool) (g33 : Ins → Option Bool) (n : Nat) (a0 : Ins) : Option (Bool) :=
 match a0 with
 | .mk a0_op a0_a a0_b a0_v a0_t a0_l a0_body a0_els a0_has =>
 (show Option (Bool) from
  if (decide (a0_t < 0)) then
   some true
  else
   if (decide (2 < a0_t)) then
    some true
   else
    (g9 a0_body).bind fun r7 =>
    if (!r7) then
     some true
    else
     (g9 a0_els).bind fun r10 =>
     some (!r10)).bind fun v3 =>
 if v3 then
  some false
 else
  (show Option (Bool) from
   if (!decide (a0_op = 4)) then
    if a0_has then
     some true
    else
     some (decide (0 < (a0_els.length : Int)))
   else
    if (!a0_has) then
     some (decide (0 < (a0_els.length : Int)))
    else
     some false).bind fun v19 =>
  if v19 then
   some false
  else
   (g33 (Ins.mk a0_op a0_a a0_b a0_v (0 : Int) a0_l [] [] false)).bind fun r32 =>
   some r32
set_option maxHeartbeats 4000000 in
theorem S29_ok {m : Int} {n : Nat} (g9 : (List Ins) → Option Bool) (hg9 : ∀ (a0 : List Ins) (q0 : Prov) (r : Bool) (H : Heap), g9 a0 = some r → evF P (T m) n 9 [.sl (insAVs a0) q0] H = some ((.s (.bool r)), H)) (g33 : Ins → Option Bool) (hg33 : ∀ (a0 : Ins) (r : Bool) (H : Heap), g33 a0 = some r → evF P (T m) n 33 [(Ins.av a0)] H = some ((.s (.bool r)), H)) (a0 : Ins)  (r : Bool) (H : Heap) (h : S29 g9 g33 n a0 = some r) : evF P (T m) (n + 1) 29 [(Ins.av a0)] H = some ((.s (.bool r)), H) := by
  refine call_pure' (fi := F29) (bs := [(Ins.av a0)]) (x29 m) (oh29 m) (o29 m) (c29 m) rfl rfl (shut_cons (Ins.shut 0 a0) rfl) ?_
  obtain ⟨a0_op, a0_a, a0_b, a0_v, a0_t, a0_l, a0_body, a0_els, a0_has⟩ := a0
  dsimp only [S29] at h
  have he : Sat [(0, (.agg [(.s (.int .i64 a0_op)), (.s (.int .i64 a0_a)), (.s (.int .i64 a0_b)), (.s (.int .u64 a0_v)), (.s (.int .i64 a0_t)), (.sl (a0_l.map intAV) .ro), (.sl (insAVs a0_body) .ro), (.sl (insAVs a0_els) .ro), (.s (.bool a0_has))]))] (argEnv [(.agg [(.s (.int .i64 a0_op)), (.s (.int .i64 a0_a)), (.s (.int .i64 a0_b)), (.s (.int .u64 a0_v)), (.s (.int .i64 a0_t)), (.sl (a0_l.map intAV) .ro), (.sl (insAVs a0_body) .ro), (.sl (insAVs a0_els) .ro), (.s (.bool a0_has))])]) := Sat.cons rfl (Sat.nil)
  refine (show Runs P (T m) (evF P (T m) n) n 29 F29 0 F29.body (argEnv [(.agg [(.s (.int .i64 a0_op)), (.s (.int .i64 a0_a)), (.s (.int .i64 a0_b)), (.s (.int .u64 a0_v)), (.s (.int .i64 a0_t)), (.sl (a0_l.map intAV) .ro), (.sl (insAVs a0_body) .ro), (.sl (insAVs a0_els) .ro), (.s (.bool a0_has))])]) [] _ from ?_)
  generalize argEnv [(.agg [(.s (.int .i64 a0_op)), (.s (.int .i64 a0_a)), (.s (.int .i64 a0_b)), (.s (.int .u64 a0_v)), (.s (.int .i64 a0_t)), (.sl (a0_l.map intAV) .ro), (.sl (insAVs a0_body) .ro), (.sl (insAVs a0_els) .ro), (.s (.bool a0_has))])] = e at he ⊢
  refine Runs.sq ?_
  refine Runs.region he [] [(1, (.ptr 0 0))] (h := [Rec.box [(.s (.int .i64 a0_op)), (.s (.int .i64 a0_a)), (.s (.int .i64 a0_b)), (.s (.int .u64 a0_v)), (.s (.int .i64 a0_t)), (.sl (a0_l.map intAV) .ro), (.sl (insAVs a0_body) .ro), (.sl (insAVs a0_els) .ro), (.s (.bool a0_has))]]) (fun env => by kernel_rfl) trivial (fun e2 he1 => ?_)
  refine thenN ?_
  refine Runs.sq ?_
  refine Runs.sq ?_
  obtain ⟨v3, hm4, h⟩ := Option.bind_eq_some_iff.1 h
  refine Runs.mono (Q := fun x e h => x = .normal ∧ Sat [(1, (.ptr 0 0)), (22, (.s (.bool v3)))] e ∧ h = [Rec.box [(.s (.int .i64 a0_op)), (.s (.int .i64 a0_a)), (.s (.int .i64 a0_b)), (.s (.int .u64 a0_v)), (.s (.int .i64 a0_t)), (.sl (a0_l.map intAV) .ro), (.sl (insAVs a0_body) .ro), (.sl (insAVs a0_els) .ro), (.s (.bool a0_has))]]) ?_ ?_
  · by_cases hb5 : (decide (a0_t < 0)) = true
    · rw [if_pos hb5] at hm4
      obtain rfl := Option.some.inj hm4
      exact Runs.region he1 [(3, .b true)] [(1, (.ptr 0 0)), (22, (.s (.bool true)))] (h := [Rec.box [(.s (.int .i64 a0_op)), (.s (.int .i64 a0_a)), (.s (.int .i64 a0_b)), (.s (.int .u64 a0_v)), (.s (.int .i64 a0_t)), (.sl (a0_l.map intAV) .ro), (.sl (insAVs a0_body) .ro), (.sl (insAVs a0_els) .ro), (.s (.bool a0_has))]]) (fun env => by kernel_rfl) (And.intro hb5 trivial) (fun _ h => ⟨rfl, h, rfl⟩)
    · rw [if_neg hb5] at hm4
      by_cases hb6 : (decide (2 < a0_t)) = true
      · rw [if_pos hb6] at hm4
        obtain rfl := Option.some.inj hm4
        exact Runs.region he1 [(3, .b false), (8, .b true)] [(1, (.ptr 0 0)), (22, (.s (.bool true)))] (h := [Rec.box [(.s (.int .i64 a0_op)), (.s (.int .i64 a0_a)), (.s (.int .i64 a0_b)), (.s (.int .u64 a0_v)), (.s (.int .i64 a0_t)), (.sl (a0_l.map intAV) .ro), (.sl (insAVs a0_body) .ro), (.sl (insAVs a0_els) .ro), (.s (.bool a0_has))]]) (fun env => by kernel_rfl) (And.intro (Bool.eq_false_iff.2 hb5) (And.intro hb6 trivial)) (fun _ h => ⟨rfl, h, rfl⟩)
      · rw [if_neg hb6] at hm4
        obtain ⟨r7, hr8, hm4⟩ := Option.bind_eq_some_iff.1 hm4
        by_cases hb9 : (!r7) = true
        · rw [if_pos hb9] at hm4
          obtain rfl := Option.some.inj hm4
          exact Runs.region he1 [(3, .b false), (8, .b false), (11, .f (.s (.bool r7)) [Rec.box [(.s (.int .i64 a0_op)), (.s (.int .i64 a0_a)), (.s (.int .i64 a0_b)), (.s (.int .u64 a0_v)), (.s (.int .i64 a0_t)), (.sl (a0_l.map intAV) .ro), (.sl (insAVs a0_body) .ro), (.sl (insAVs a0_els) .ro), (.s (.bool a0_has))]]), (14, .b true)] [(1, (.ptr 0 0)), (22, (.s (.bool true)))] (h := [Rec.box [(.s (.int .i64 a0_op)), (.s (.int .i64 a0_a)), (.s (.int .i64 a0_b)), (.s (.int .u64 a0_v)), (.s (.int .i64 a0_t)), (.sl (a0_l.map intAV) .ro), (.sl (insAVs a0_body) .ro), (.sl (insAVs a0_els) .ro), (.s (.bool a0_has))]]) (fun env => by kernel_rfl) (And.intro (Bool.eq_false_iff.2 hb5) (And.intro (Bool.eq_false_iff.2 hb6) (And.intro (hg9 a0_body .ro _ [Rec.box [(.s (.int .i64 a0_op)), (.s (.int .i64 a0_a)), (.s (.int .i64 a0_b)), (.s (.int .u64 a0_v)), (.s (.int .i64 a0_t)), (.sl (a0_l.map intAV) .ro), (.sl (insAVs a0_body) .ro), (.sl (insAVs a0_els) .ro), (.s (.bool a0_has))]]  hr8) (And.intro hb9 trivial)))) (fun _ h => ⟨rfl, h, rfl⟩)
        · rw [if_neg hb9] at hm4
          obtain ⟨r10, hr11, hm4⟩ := Option.bind_eq_some_iff.1 hm4
          obtain rfl := Option.some.inj hm4
          exact Runs.region he1 [(3, .b false), (8, .b false), (11, .f (.s (.bool r7)) [Rec.box [(.s (.int .i64 a0_op)), (.s (.int .i64 a0_a)), (.s (.int .i64 a0_b)), (.s (.int .u64 a0_v)), (.s (.int .i64 a0_t)), (.sl (a0_l.map intAV) .ro), (.sl (insAVs a0_body) .ro), (.sl (insAVs a0_els) .ro), (.s (.bool a0_has))]]), (14, .b false), (17, .f (.s (.bool r10)) [Rec.box [(.s (.int .i64 a0_op)), (.s (.int .i64 a0_a)), (.s (.int .i64 a0_b)), (.s (.int .u64 a0_v)), (.s (.int .i64 a0_t)), (.sl (a0_l.map intAV) .ro), (.sl (insAVs a0_body) .ro), (.sl (insAVs a0_els) .ro), (.s (.bool a0_has))]])] [(1, (.ptr 0 0)), (22, (.s (.bool (!r10))))] (h := [Rec.box [(.s (.int .i64 a0_op)), (.s (.int .i64 a0_a)), (.s (.int .i64 a0_b)), (.s (.int .u64 a0_v)), (.s (.int .i64 a0_t)), (.sl (a0_l.map intAV) .ro), (.sl (insAVs a0_body) .ro), (.sl (insAVs a0_els) .ro), (.s (.bool a0_has))]]) (fun env => by kernel_rfl) (And.intro (Bool.eq_false_iff.2 hb5) (And.intro (Bool.eq_false_iff.2 hb6) (And.intro (hg9 a0_body .ro _ [Rec.box [(.s (.int .i64 a0_op)), (.s (.int .i64 a0_a)), (.s (.int .i64 a0_b)), (.s (.int .u64 a0_v)), (.s (.int .i64 a0_t)), (.sl (a0_l.map intAV) .ro), (.sl (insAVs a0_body) .ro), (.sl (insAVs a0_els) .ro), (.s (.bool a0_has))]]  hr8) (And.intro (Bool.eq_false_iff.2 hb9) (And.intro (hg9 a0_els .ro _ [Rec.box [(.s (.int .i64 a0_op)), (.s (.int .i64 a0_a)), (.s (.int .i64 a0_b)), (.s (.int .u64 a0_v)), (.s (.int .i64 a0_t)), (.sl (a0_l.map intAV) .ro), (.sl (insAVs a0_body) .ro), (.sl (insAVs a0_els) .ro), (.s (.bool a0_has))]]  hr11) trivial))))) (fun _ h => ⟨rfl, h, rfl⟩)
  rintro _ e13 h14 ⟨rfl, he12, hh15⟩
  rw [hh15]
  refine thenN ?_
  by_cases hb16 : v3 = true
  · rw [if_pos hb16] at h
    refine Runs.cond (he12.get (t := 22) (v := (.s (.bool v3))) (by kernel_rfl)) (fun _ => ?_) (fun h0 => absurd (hb16.symm.trans h0) (by decide))
    refine Runs.sq ?_
    refine Runs.region he12 [] [(2, (.s (.bool false)))] (h := [Rec.box [(.s (.int .i64 a0_op)), (.s (.int .i64 a0_a)), (.s (.int .i64 a0_b)), (.s (.int .u64 a0_v)), (.s (.int .i64 a0_t)), (.sl (a0_l.map intAV) .ro), (.sl (insAVs a0_body) .ro), (.sl (insAVs a0_els) .ro), (.s (.bool a0_has))]]) (fun env => by kernel_rfl) trivial (fun e18 he17 => ?_)
    refine thenN ?_
    refine Runs.ret ?_
    refine thenR ?_
    obtain rfl := Option.some.inj h
    exact RetOK29.endP ret_ne (RetOK29.of (resT (he17.get (t := 2) (v := (.s (.bool false))) (by kernel_rfl)) resN) (fin_of (fun _ _ _ _ _ h => by cases h) rfl))
  · rw [if_neg hb16] at h
    refine Runs.cond (he12.get (t := 22) (v := (.s (.bool v3))) (by kernel_rfl)) (fun h0 => absurd h0 hb16) (fun _ => ?_)
    refine Runs.skip ?_
    refine thenN ?_
    refine Runs.sq ?_
    refine Runs.sq ?_
    obtain ⟨v19, hm20, h⟩ := Option.bind_eq_some_iff.1 h
    refine Runs.mono (Q := fun x e h => x = .normal ∧ Sat [(1, (.ptr 0 0)), (40, (.s (.bool v19)))] e ∧ h = [Rec.box [(.s (.int .i64 a0_op)), (.s (.int .i64 a0_a)), (.s (.int .i64 a0_b)), (.s (.int .u64 a0_v)), (.s (.int .i64 a0_t)), (.sl (a0_l.map intAV) .ro), (.sl (insAVs a0_body) .ro), (.sl (insAVs a0_els) .ro), (.s (.bool a0_has))]]) ?_ ?_
    · by_cases hb21 : (!decide (a0_op = 4)) = true
      · rw [if_pos hb21] at hm20
        cases a0_has with
        | true =>
          rw [if_pos rfl] at hm20
          obtain rfl := Option.some.inj hm20
          exact Runs.region he12 [(3, .b true)] [(1, (.ptr 0 0)), (40, (.s (.bool true)))] (h := [Rec.box [(.s (.int .i64 a0_op)), (.s (.int .i64 a0_a)), (.s (.int .i64 a0_b)), (.s (.int .u64 a0_v)), (.s (.int .i64 a0_t)), (.sl (a0_l.map intAV) .ro), (.sl (insAVs a0_body) .ro), (.sl (insAVs a0_els) .ro), (.s (.bool true))]]) (fun env => by kernel_rfl) (And.intro hb21 trivial) (fun _ h => ⟨rfl, h, rfl⟩)
        | false =>
          rw [if_neg Bool.false_ne_true] at hm20
          obtain rfl := Option.some.inj hm20
          exact Runs.region he12 [(3, .b true), (14, .i (a0_els.length : Int))] [(1, (.ptr 0 0)), (40, (.s (.bool (decide (0 < (a0_els.length : Int))))))] (h := [Rec.box [(.s (.int .i64 a0_op)), (.s (.int .i64 a0_a)), (.s (.int .i64 a0_b)), (.s (.int .u64 a0_v)), (.s (.int .i64 a0_t)), (.sl (a0_l.map intAV) .ro), (.sl (insAVs a0_body) .ro), (.sl (insAVs a0_els) .ro), (.s (.bool false))]]) (fun env => by kernel_rfl) (And.intro hb21 (And.intro (len_ins (l := a0_els)) trivial)) (fun _ h => ⟨rfl, h, rfl⟩)
      · rw [if_neg hb21] at hm20
        by_cases hb22 : (!a0_has) = true
        · rw [if_pos hb22] at hm20
          obtain rfl := Option.some.inj hm20
          exact Runs.region he12 [(3, .b false), (11, .b true), (14, .i (a0_els.length : Int))] [(1, (.ptr 0 0)), (40, (.s (.bool (decide (0 < (a0_els.length : Int))))))] (h := [Rec.box [(.s (.int .i64 a0_op)), (.s (.int .i64 a0_a)), (.s (.int .i64 a0_b)), (.s (.int .u64 a0_v)), (.s (.int .i64 a0_t)), (.sl (a0_l.map intAV) .ro), (.sl (insAVs a0_body) .ro), (.sl (insAVs a0_els) .ro), (.s (.bool a0_has))]]) (fun env => by kernel_rfl) (And.intro (Bool.eq_false_iff.2 hb21) (And.intro hb22 (And.intro (len_ins (l := a0_els)) trivial))) (fun _ h => ⟨rfl, h, rfl⟩)
        · rw [if_neg hb22] at hm20
          obtain rfl := Option.some.inj hm20
          exact Runs.region he12 [(3, .b false), (11, .b false)] [(1, (.ptr 0 0)), (40, (.s (.bool false)))] (h := [Rec.box [(.s (.int .i64 a0_op)), (.s (.int .i64 a0_a)), (.s (.int .i64 a0_b)), (.s (.int .u64 a0_v)), (.s (.int .i64 a0_t)), (.sl (a0_l.map intAV) .ro), (.sl (insAVs a0_body) .ro), (.sl (insAVs a0_els) .ro), (.s (.bool a0_has))]]) (fun env => by kernel_rfl) (And.intro (Bool.eq_false_iff.2 hb21) (And.intro (Bool.eq_false_iff.2 hb22) trivial)) (fun _ h => ⟨rfl, h, rfl⟩)
    rintro _ e24 h25 ⟨rfl, he23, hh26⟩
    rw [hh26]
    refine thenN ?_
    by_cases hb27 : v19 = true
    · rw [if_pos hb27] at h
      refine Runs.cond (he23.get (t := 40) (v := (.s (.bool v19))) (by kernel_rfl)) (fun _ => ?_) (fun h0 => absurd (hb27.symm.trans h0) (by decide))
      refine Runs.sq ?_
      refine Runs.region he23 [] [(2, (.s (.bool false)))] (h := [Rec.box [(.s (.int .i64 a0_op)), (.s (.int .i64 a0_a)), (.s (.int .i64 a0_b)), (.s (.int .u64 a0_v)), (.s (.int .i64 a0_t)), (.sl (a0_l.map intAV) .ro), (.sl (insAVs a0_body) .ro), (.sl (insAVs a0_els) .ro), (.s (.bool a0_has))]]) (fun env => by kernel_rfl) trivial (fun e29 he28 => ?_)
      refine thenN ?_
      refine Runs.ret ?_
      refine thenR ?_
      obtain rfl := Option.some.inj h
      exact RetOK29.endP ret_ne (RetOK29.of (resT (he28.get (t := 2) (v := (.s (.bool false))) (by kernel_rfl)) resN) (fin_of (fun _ _ _ _ _ h => by cases h) rfl))
    · rw [if_neg hb27] at h
      refine Runs.cond (he23.get (t := 40) (v := (.s (.bool v19))) (by kernel_rfl)) (fun h0 => absurd h0 hb27) (fun _ => ?_)
      refine Runs.skip ?_
      refine thenN ?_
      refine Runs.sq ?_
      refine Runs.region he23 [] [(1, (.ptr 0 0))] (h := [Rec.box [(.s (.int .i64 a0_op)), (.s (.int .i64 a0_a)), (.s (.int .i64 a0_b)), (.s (.int .u64 a0_v)), (.s (.int .i64 0)), (.sl (a0_l.map intAV) .ro), (.sl [] .full), (.sl [] .full), (.s (.bool false))]]) (fun env => by kernel_rfl) trivial (fun e31 he30 => ?_)
      refine thenN ?_
      refine Runs.sq ?_
      obtain ⟨r32, hr33, h⟩ := Option.bind_eq_some_iff.1 h
      refine Runs.region he30 [(1, .f (.s (.bool r32)) [Rec.box [(.s (.int .i64 a0_op)), (.s (.int .i64 a0_a)), (.s (.int .i64 a0_b)), (.s (.int .u64 a0_v)), (.s (.int .i64 0)), (.sl (a0_l.map intAV) .ro), (.sl [] .full), (.sl [] .full), (.s (.bool false))]])] [(2, (.s (.bool r32)))] (h := [Rec.box [(.s (.int .i64 a0_op)), (.s (.int .i64 a0_a)), (.s (.int .i64 a0_b)), (.s (.int .u64 a0_v)), (.s (.int .i64 0)), (.sl (a0_l.map intAV) .ro), (.sl [] .full), (.sl [] .full), (.s (.bool false))]]) (fun env => by kernel_rfl) (And.intro ((pure_shut (P := P) (T := T m) (n := n) (fi := F33) (args := [(.agg [(.s (.int .i64 a0_op)), (.s (.int .i64 a0_a)), (.s (.int .i64 a0_b)), (.s (.int .u64 a0_v)), (.s (.int .i64 0)), (.sl (a0_l.map intAV) .ro), (.sl [] .full), (.sl [] .full), (.s (.bool false))])]) (bs := [(Ins.av (Ins.mk a0_op a0_a a0_b a0_v (0 : Int) a0_l [] [] false))]) (H := [Rec.box [(.s (.int .i64 a0_op)), (.s (.int .i64 a0_a)), (.s (.int .i64 a0_b)), (.s (.int .u64 a0_v)), (.s (.int .i64 0)), (.sl (a0_l.map intAV) .ro), (.sl [] .full), (.sl [] .full), (.s (.bool false))]]) (x33 m) (oh33 m) (o33 m) (c33 m) rfl (shut_cons (shut_agg (shut_cons rfl (shut_cons rfl (shut_cons rfl (shut_cons rfl (shut_cons rfl (shut_cons (shut_sl (shutL_map (fun _ => rfl) a0_l)) (shut_cons (shut_sl rfl) (shut_cons (shut_sl rfl) (shut_cons rfl rfl)))))))))) rfl) (shut_cons (Ins.shut 0 (Ins.mk a0_op a0_a a0_b a0_v (0 : Int) a0_l [] [] false)) rfl)).trans (hg33 (Ins.mk a0_op a0_a a0_b a0_v (0 : Int) a0_l [] [] false)  _ [Rec.box [(.s (.int .i64 a0_op)), (.s (.int .i64 a0_a)), (.s (.int .i64 a0_b)), (.s (.int .u64 a0_v)), (.s (.int .i64 0)), (.sl (a0_l.map intAV) .ro), (.sl [] .full), (.sl [] .full), (.s (.bool false))]]  hr33)) trivial) (fun e35 he34 => ?_)
      refine thenN ?_
      refine Runs.ret ?_
      obtain rfl := Option.some.inj h
      exact RetOK29.endP ret_ne (RetOK29.of (resT (he34.get (t := 2) (v := (.s (.bool r32))) (by kernel_rfl)) resN) (fin_of (fun _ _ _ _ _ h => by cases h) rfl))
/-! grommet/tree.may -/
def RetOK17 (r : Bool) (e : Env) (h : Heap) : Prop := ∃ vs, resA P e h [.tmp 2] = some vs ∧ finA h (oneOf vs) = some (.s (.bool r))
theorem RetOK17.of {r : Bool} {e : Env} {h : Heap} {vs : List AV} (h1 : resA P e h [.tmp 2] = some vs) (h2 : finA h (oneOf vs) = some (.s (.bool r))) : RetOK17 r e h := ⟨vs, h1, h2⟩
theorem RetOK17.endP {x : Ex} {r : Bool} {e : Env} {h : Heap} (hx : ∀ k, x ≠ .exit k) (hr : RetOK17 r e h) : EndP P F17 (.s (.bool r)) x e h := by
  obtain ⟨vs, h1, h2⟩ := hr
  exact endQ hx rfl h1 h2
def S17 (g20 : Int → Option (OpR × Err)) (g33 : Ins → Option Bool) (g29 : Ins → Option Bool) (g30 : Int → Option Bool) (g31 : (List Int) → AV → Option Bool) (n : Nat) (a0 : Ins) : Option (Bool) :=
 match a0 with
 | .mk a0_op a0_a a0_b a0_v a0_t a0_l a0_body a0_els a0_has =>
 (g20 a0_op).bind fun r3 =>
 match r3 with
 | (r3_0, r3_1) =>
  (show Option (Bool) from
   match r3_1 with
   | .nil =>
    some false
   | .code c9 =>
    some true).bind fun v7 =>
  if v7 then
   some false
  else
   if (decide (r3_0.kind = 2)) then
    (g29 (Ins.mk a0_op a0_a a0_b a0_v a0_t a0_l a0_body a0_els a0_has)).bind fun r20 =>
    some r20
   else
    if (decide (r3_0.kind = 10)) then
     (show Option (Bool) from
      if (decide (r3_0.gives = 1)) then
       some (decide (4294967295 < a0_v))
      else
       some false).bind fun v27 =>
     if v27 then
      some false
     else
      (g33 (Ins.mk a0_op a0_a a0_b (0 : Int) a0_t a0_l a0_body a0_els a0_has)).bind fun r39 =>
      some r39
    else
     (show Option (Bool) from
      if (decide (r3_0.kind = 7)) then
       some true
      else
       some (decide (r3_0.kind = 8))).bind fun v43 =>
     if v43 then
      (show Option (Bool) from
       (g30 a0_a).bind fun r53 =>
       if (!r53) then
        some true
       else
        (g30 a0_b).bind fun r56 =>
        some (!r56)).bind fun v51 =>
      if v51 then
       some false
      else
       (g33 (Ins.mk a0_op (0 : Int) (0 : Int) a0_v a0_t a0_l a0_body a0_els a0_has)).bind fun r67 =>
       some r67
     else
      if (r3_0.name.toList == (⟨#[98, 114, 95, 116, 97, 98, 108, 101]⟩ : ByteArray).toList) then
       (show Option (Bool) from
        if (decide ((a0_l.length : Int) = 0)) then
         some true
        else
         (g31 a0_l (.clo 32 [])).bind fun r77 =>
         some r77).bind fun v74 =>
       if v74 then
        some false
       else
        (g33 (Ins.mk a0_op a0_a a0_b a0_v a0_t [] a0_body a0_els a0_has)).bind fun r88 =>
        some r88
      else
       (show Option (Bool) from
        if (decide (r3_0.kind = 4)) then
         some true
        else
         if (decide (r3_0.kind = 6)) then
          some true
         else
          if (decide (r3_0.kind = 3)) then
           some (!(r3_0.name.toList == (⟨#[114, 101, 116, 117, 114, 110]⟩ : ByteArray).toList))
          else
           some false).bind fun v92 =>
       if v92 then
        (g30 a0_a).bind fun r102 =>
        if (!r102) then
         some false
        else
         (g33 (Ins.mk a0_op (0 : Int) a0_b a0_v a0_t a0_l a0_body a0_els a0_has)).bind fun r111 =>
         some r111
       else
        (g33 (Ins.mk a0_op a0_a a0_b a0_v a0_t a0_l a0_body a0_els a0_has)).bind fun r115 =>
        some r115
set_option maxHeartbeats 4000000 in
theorem S17_ok {m : Int} {n : Nat} (g20 : Int → Option (OpR × Err)) (hg20 : ∀ (a0 : Int) (r : OpR × Err) (H : Heap), g20 a0 = some r → evF P (T m) n 20 [(.s (.int .i64 a0))] H = some ((.tup [(OpR.av r.1), (Err.av r.2)]), H)) (g33 : Ins → Option Bool) (hg33 : ∀ (a0 : Ins) (r : Bool) (H : Heap), g33 a0 = some r → evF P (T m) n 33 [(Ins.av a0)] H = some ((.s (.bool r)), H)) (g29 : Ins → Option Bool) (hg29 : ∀ (a0 : Ins) (r : Bool) (H : Heap), g29 a0 = some r → evF P (T m) n 29 [(Ins.av a0)] H = some ((.s (.bool r)), H)) (g30 : Int → Option Bool) (hg30 : ∀ (a0 : Int) (r : Bool) (H : Heap), g30 a0 = some r → evF P (T m) n 30 [(.s (.int .i64 a0))] H = some ((.s (.bool r)), H)) (g31 : (List Int) → AV → Option Bool) (hg31 : ∀ (a0 : List Int) (a1 : AV) (q0 : Prov) (r : Bool) (H : Heap), AV.shut 0 a1 = some a1 → g31 a0 a1 = some r → evF P (T m) n 31 [.sl (a0.map intAV) q0, a1] H = some ((.s (.bool r)), H)) (a0 : Ins)  (r : Bool) (H : Heap) (h : S17 g20 g33 g29 g30 g31 n a0 = some r) : evF P (T m) (n + 1) 17 [(Ins.av a0)] H = some ((.s (.bool r)), H) := by
  refine call_pure' (fi := F17) (bs := [(Ins.av a0)]) (x17 m) (oh17 m) (o17 m) (c17 m) rfl rfl (shut_cons (Ins.shut 0 a0) rfl) ?_
  obtain ⟨a0_op, a0_a, a0_b, a0_v, a0_t, a0_l, a0_body, a0_els, a0_has⟩ := a0
  dsimp only [S17] at h
  have he : Sat [(0, (.agg [(.s (.int .i64 a0_op)), (.s (.int .i64 a0_a)), (.s (.int .i64 a0_b)), (.s (.int .u64 a0_v)), (.s (.int .i64 a0_t)), (.sl (a0_l.map intAV) .ro), (.sl (insAVs a0_body) .ro), (.sl (insAVs a0_els) .ro), (.s (.bool a0_has))]))] (argEnv [(.agg [(.s (.int .i64 a0_op)), (.s (.int .i64 a0_a)), (.s (.int .i64 a0_b)), (.s (.int .u64 a0_v)), (.s (.int .i64 a0_t)), (.sl (a0_l.map intAV) .ro), (.sl (insAVs a0_body) .ro), (.sl (insAVs a0_els) .ro), (.s (.bool a0_has))])]) := Sat.cons rfl (Sat.nil)
  refine (show Runs P (T m) (evF P (T m) n) n 17 F17 0 F17.body (argEnv [(.agg [(.s (.int .i64 a0_op)), (.s (.int .i64 a0_a)), (.s (.int .i64 a0_b)), (.s (.int .u64 a0_v)), (.s (.int .i64 a0_t)), (.sl (a0_l.map intAV) .ro), (.sl (insAVs a0_body) .ro), (.sl (insAVs a0_els) .ro), (.s (.bool a0_has))])]) [] _ from ?_)
  generalize argEnv [(.agg [(.s (.int .i64 a0_op)), (.s (.int .i64 a0_a)), (.s (.int .i64 a0_b)), (.s (.int .u64 a0_v)), (.s (.int .i64 a0_t)), (.sl (a0_l.map intAV) .ro), (.sl (insAVs a0_body) .ro), (.sl (insAVs a0_els) .ro), (.s (.bool a0_has))])] = e at he ⊢
  refine Runs.sq ?_
  refine Runs.region he [] [(1, (.ptr 0 0))] (h := [Rec.box [(.s (.int .i64 a0_op)), (.s (.int .i64 a0_a)), (.s (.int .i64 a0_b)), (.s (.int .u64 a0_v)), (.s (.int .i64 a0_t)), (.sl (a0_l.map intAV) .ro), (.sl (insAVs a0_body) .ro), (.sl (insAVs a0_els) .ro), (.s (.bool a0_has))]]) (fun env => by kernel_rfl) trivial (fun e2 he1 => ?_)
  refine thenN ?_
  refine Runs.sq ?_
  obtain ⟨r3, hr4, h⟩ := Option.bind_eq_some_iff.1 h
  obtain ⟨r3_0, r3_1⟩ := r3
  dsimp only at h
  refine Runs.region he1 [(2, .f (.tup [(.agg [(.s (.int .i64 r3_0.byte)), (.s (.string r3_0.name)), (.s (.int .i64 r3_0.kind)), (.sl (r3_0.takes.map intAV) .ro), (.s (.int .i64 r3_0.gives)), (.s (.int .i64 r3_0.bytes)), (.s (.bool r3_0.signed))]), (Err.av r3_1)]) [Rec.box [(.s (.int .i64 a0_op)), (.s (.int .i64 a0_a)), (.s (.int .i64 a0_b)), (.s (.int .u64 a0_v)), (.s (.int .i64 a0_t)), (.sl (a0_l.map intAV) .ro), (.sl (insAVs a0_body) .ro), (.sl (insAVs a0_els) .ro), (.s (.bool a0_has))]])] [(1, (.ptr 0 0)), (3, (.ptr 1 0)), (4, (Err.av r3_1))] (h := [Rec.box [(.s (.int .i64 a0_op)), (.s (.int .i64 a0_a)), (.s (.int .i64 a0_b)), (.s (.int .u64 a0_v)), (.s (.int .i64 a0_t)), (.sl (a0_l.map intAV) .ro), (.sl (insAVs a0_body) .ro), (.sl (insAVs a0_els) .ro), (.s (.bool a0_has))], Rec.box [(.s (.int .i64 r3_0.byte)), (.s (.string r3_0.name)), (.s (.int .i64 r3_0.kind)), (.sl (r3_0.takes.map intAV) .ro), (.s (.int .i64 r3_0.gives)), (.s (.int .i64 r3_0.bytes)), (.s (.bool r3_0.signed))]]) (fun env => by kernel_rfl) (And.intro (hg20 a0_op  _ [Rec.box [(.s (.int .i64 a0_op)), (.s (.int .i64 a0_a)), (.s (.int .i64 a0_b)), (.s (.int .u64 a0_v)), (.s (.int .i64 a0_t)), (.sl (a0_l.map intAV) .ro), (.sl (insAVs a0_body) .ro), (.sl (insAVs a0_els) .ro), (.s (.bool a0_has))]]  hr4) trivial) (fun e6 he5 => ?_)
  refine thenN ?_
  refine Runs.sq ?_
  refine Runs.sq ?_
  obtain ⟨v7, hm8, h⟩ := Option.bind_eq_some_iff.1 h
  refine Runs.mono (Q := fun x e h => x = .normal ∧ Sat [(1, (.ptr 0 0)), (3, (.ptr 1 0)), (12, (.s (.bool v7)))] e ∧ h = [Rec.box [(.s (.int .i64 a0_op)), (.s (.int .i64 a0_a)), (.s (.int .i64 a0_b)), (.s (.int .u64 a0_v)), (.s (.int .i64 a0_t)), (.sl (a0_l.map intAV) .ro), (.sl (insAVs a0_body) .ro), (.sl (insAVs a0_els) .ro), (.s (.bool a0_has))], Rec.box [(.s (.int .i64 r3_0.byte)), (.s (.string r3_0.name)), (.s (.int .i64 r3_0.kind)), (.sl (r3_0.takes.map intAV) .ro), (.s (.int .i64 r3_0.gives)), (.s (.int .i64 r3_0.bytes)), (.s (.bool r3_0.signed))]]) ?_ ?_
  · cases r3_1 with
    | nil =>
      dsimp only at hm8
      obtain rfl := Option.some.inj hm8
      exact Runs.region he5 [] [(1, (.ptr 0 0)), (3, (.ptr 1 0)), (12, (.s (.bool false)))] (h := [Rec.box [(.s (.int .i64 a0_op)), (.s (.int .i64 a0_a)), (.s (.int .i64 a0_b)), (.s (.int .u64 a0_v)), (.s (.int .i64 a0_t)), (.sl (a0_l.map intAV) .ro), (.sl (insAVs a0_body) .ro), (.sl (insAVs a0_els) .ro), (.s (.bool a0_has))], Rec.box [(.s (.int .i64 r3_0.byte)), (.s (.string r3_0.name)), (.s (.int .i64 r3_0.kind)), (.sl (r3_0.takes.map intAV) .ro), (.s (.int .i64 r3_0.gives)), (.s (.int .i64 r3_0.bytes)), (.s (.bool r3_0.signed))]]) (fun env => by kernel_rfl) trivial (fun _ h => ⟨rfl, h, rfl⟩)
    | code c9 =>
      dsimp only at hm8
      obtain rfl := Option.some.inj hm8
      exact Runs.region he5 [] [(1, (.ptr 0 0)), (3, (.ptr 1 0)), (12, (.s (.bool true)))] (h := [Rec.box [(.s (.int .i64 a0_op)), (.s (.int .i64 a0_a)), (.s (.int .i64 a0_b)), (.s (.int .u64 a0_v)), (.s (.int .i64 a0_t)), (.sl (a0_l.map intAV) .ro), (.sl (insAVs a0_body) .ro), (.sl (insAVs a0_els) .ro), (.s (.bool a0_has))], Rec.box [(.s (.int .i64 r3_0.byte)), (.s (.string r3_0.name)), (.s (.int .i64 r3_0.kind)), (.sl (r3_0.takes.map intAV) .ro), (.s (.int .i64 r3_0.gives)), (.s (.int .i64 r3_0.bytes)), (.s (.bool r3_0.signed))]]) (fun env => by kernel_rfl) trivial (fun _ h => ⟨rfl, h, rfl⟩)
  rintro _ e11 h12 ⟨rfl, he10, hh13⟩
  rw [hh13]
  refine thenN ?_
  by_cases hb14 : v7 = true
  · rw [if_pos hb14] at h
    refine Runs.cond (he10.get (t := 12) (v := (.s (.bool v7))) (by kernel_rfl)) (fun _ => ?_) (fun h0 => absurd (hb14.symm.trans h0) (by decide))
    refine Runs.sq ?_
    refine Runs.region he10 [] [(2, (.s (.bool false)))] (h := [Rec.box [(.s (.int .i64 a0_op)), (.s (.int .i64 a0_a)), (.s (.int .i64 a0_b)), (.s (.int .u64 a0_v)), (.s (.int .i64 a0_t)), (.sl (a0_l.map intAV) .ro), (.sl (insAVs a0_body) .ro), (.sl (insAVs a0_els) .ro), (.s (.bool a0_has))], Rec.box [(.s (.int .i64 r3_0.byte)), (.s (.string r3_0.name)), (.s (.int .i64 r3_0.kind)), (.sl (r3_0.takes.map intAV) .ro), (.s (.int .i64 r3_0.gives)), (.s (.int .i64 r3_0.bytes)), (.s (.bool r3_0.signed))]]) (fun env => by kernel_rfl) trivial (fun e16 he15 => ?_)
    refine thenN ?_
    refine Runs.ret ?_
    refine thenR ?_
    obtain rfl := Option.some.inj h
    exact RetOK17.endP ret_ne (RetOK17.of (resT (he15.get (t := 2) (v := (.s (.bool false))) (by kernel_rfl)) resN) (fin_of (fun _ _ _ _ _ h => by cases h) rfl))
  · rw [if_neg hb14] at h
    refine Runs.cond (he10.get (t := 12) (v := (.s (.bool v7))) (by kernel_rfl)) (fun h0 => absurd h0 hb14) (fun _ => ?_)
    refine Runs.skip ?_
    refine thenN ?_
    refine Runs.sq ?_
    refine Runs.block ?_
    refine Runs.sq ?_
    refine Runs.region he10 [] [(1, (.ptr 0 0)), (3, (.ptr 1 0)), (13, (.s (.bool (decide (r3_0.kind = 2)))))] (h := [Rec.box [(.s (.int .i64 a0_op)), (.s (.int .i64 a0_a)), (.s (.int .i64 a0_b)), (.s (.int .u64 a0_v)), (.s (.int .i64 a0_t)), (.sl (a0_l.map intAV) .ro), (.sl (insAVs a0_body) .ro), (.sl (insAVs a0_els) .ro), (.s (.bool a0_has))], Rec.box [(.s (.int .i64 r3_0.byte)), (.s (.string r3_0.name)), (.s (.int .i64 r3_0.kind)), (.sl (r3_0.takes.map intAV) .ro), (.s (.int .i64 r3_0.gives)), (.s (.int .i64 r3_0.bytes)), (.s (.bool r3_0.signed))]]) (fun env => by kernel_rfl) trivial (fun e18 he17 => ?_)
    refine thenN ?_
    by_cases hb19 : (decide (r3_0.kind = 2)) = true
    · rw [if_pos hb19] at h
      refine Runs.cond (he17.get (t := 13) (v := (.s (.bool (decide (r3_0.kind = 2))))) (by kernel_rfl)) (fun _ => ?_) (fun h0 => absurd (hb19.symm.trans h0) (by decide))
      refine Runs.sq ?_
      obtain ⟨r20, hr21, h⟩ := Option.bind_eq_some_iff.1 h
      refine Runs.region he17 [(1, .f (.s (.bool r20)) [Rec.box [(.s (.int .i64 a0_op)), (.s (.int .i64 a0_a)), (.s (.int .i64 a0_b)), (.s (.int .u64 a0_v)), (.s (.int .i64 a0_t)), (.sl (a0_l.map intAV) .ro), (.sl (insAVs a0_body) .ro), (.sl (insAVs a0_els) .ro), (.s (.bool a0_has))], Rec.box [(.s (.int .i64 r3_0.byte)), (.s (.string r3_0.name)), (.s (.int .i64 r3_0.kind)), (.sl (r3_0.takes.map intAV) .ro), (.s (.int .i64 r3_0.gives)), (.s (.int .i64 r3_0.bytes)), (.s (.bool r3_0.signed))]])] [(2, (.s (.bool r20)))] (h := [Rec.box [(.s (.int .i64 a0_op)), (.s (.int .i64 a0_a)), (.s (.int .i64 a0_b)), (.s (.int .u64 a0_v)), (.s (.int .i64 a0_t)), (.sl (a0_l.map intAV) .ro), (.sl (insAVs a0_body) .ro), (.sl (insAVs a0_els) .ro), (.s (.bool a0_has))], Rec.box [(.s (.int .i64 r3_0.byte)), (.s (.string r3_0.name)), (.s (.int .i64 r3_0.kind)), (.sl (r3_0.takes.map intAV) .ro), (.s (.int .i64 r3_0.gives)), (.s (.int .i64 r3_0.bytes)), (.s (.bool r3_0.signed))]]) (fun env => by kernel_rfl) (And.intro (hg29 (Ins.mk a0_op a0_a a0_b a0_v a0_t a0_l a0_body a0_els a0_has)  _ [Rec.box [(.s (.int .i64 a0_op)), (.s (.int .i64 a0_a)), (.s (.int .i64 a0_b)), (.s (.int .u64 a0_v)), (.s (.int .i64 a0_t)), (.sl (a0_l.map intAV) .ro), (.sl (insAVs a0_body) .ro), (.sl (insAVs a0_els) .ro), (.s (.bool a0_has))], Rec.box [(.s (.int .i64 r3_0.byte)), (.s (.string r3_0.name)), (.s (.int .i64 r3_0.kind)), (.sl (r3_0.takes.map intAV) .ro), (.s (.int .i64 r3_0.gives)), (.s (.int .i64 r3_0.bytes)), (.s (.bool r3_0.signed))]]  hr21) trivial) (fun e23 he22 => ?_)
      refine thenN ?_
      refine Runs.ret ?_
      refine blockR ?_
      refine thenR ?_
      obtain rfl := Option.some.inj h
      exact RetOK17.endP ret_ne (RetOK17.of (resT (he22.get (t := 2) (v := (.s (.bool r20))) (by kernel_rfl)) resN) (fin_of (fun _ _ _ _ _ h => by cases h) rfl))
    · rw [if_neg hb19] at h
      refine Runs.cond (he17.get (t := 13) (v := (.s (.bool (decide (r3_0.kind = 2))))) (by kernel_rfl)) (fun h0 => absurd h0 hb19) (fun _ => ?_)
      refine Runs.sq ?_
      refine Runs.region he17 [] [(1, (.ptr 0 0)), (3, (.ptr 1 0)), (19, (.s (.bool (decide (r3_0.kind = 10)))))] (h := [Rec.box [(.s (.int .i64 a0_op)), (.s (.int .i64 a0_a)), (.s (.int .i64 a0_b)), (.s (.int .u64 a0_v)), (.s (.int .i64 a0_t)), (.sl (a0_l.map intAV) .ro), (.sl (insAVs a0_body) .ro), (.sl (insAVs a0_els) .ro), (.s (.bool a0_has))], Rec.box [(.s (.int .i64 r3_0.byte)), (.s (.string r3_0.name)), (.s (.int .i64 r3_0.kind)), (.sl (r3_0.takes.map intAV) .ro), (.s (.int .i64 r3_0.gives)), (.s (.int .i64 r3_0.bytes)), (.s (.bool r3_0.signed))]]) (fun env => by kernel_rfl) trivial (fun e25 he24 => ?_)
      refine thenN ?_
      by_cases hb26 : (decide (r3_0.kind = 10)) = true
      · rw [if_pos hb26] at h
        refine Runs.cond (he24.get (t := 19) (v := (.s (.bool (decide (r3_0.kind = 10))))) (by kernel_rfl)) (fun _ => ?_) (fun h0 => absurd (hb26.symm.trans h0) (by decide))
        refine Runs.sq ?_
        refine Runs.sq ?_
        obtain ⟨v27, hm28, h⟩ := Option.bind_eq_some_iff.1 h
        refine Runs.mono (Q := fun x e h => x = .normal ∧ Sat [(1, (.ptr 0 0)), (30, (.s (.bool v27)))] e ∧ h = [Rec.box [(.s (.int .i64 a0_op)), (.s (.int .i64 a0_a)), (.s (.int .i64 a0_b)), (.s (.int .u64 a0_v)), (.s (.int .i64 a0_t)), (.sl (a0_l.map intAV) .ro), (.sl (insAVs a0_body) .ro), (.sl (insAVs a0_els) .ro), (.s (.bool a0_has))], Rec.box [(.s (.int .i64 r3_0.byte)), (.s (.string r3_0.name)), (.s (.int .i64 r3_0.kind)), (.sl (r3_0.takes.map intAV) .ro), (.s (.int .i64 r3_0.gives)), (.s (.int .i64 r3_0.bytes)), (.s (.bool r3_0.signed))]]) ?_ ?_
        · by_cases hb29 : (decide (r3_0.gives = 1)) = true
          · rw [if_pos hb29] at hm28
            obtain rfl := Option.some.inj hm28
            exact Runs.region he24 [(3, .b true)] [(1, (.ptr 0 0)), (30, (.s (.bool (decide (4294967295 < a0_v)))))] (h := [Rec.box [(.s (.int .i64 a0_op)), (.s (.int .i64 a0_a)), (.s (.int .i64 a0_b)), (.s (.int .u64 a0_v)), (.s (.int .i64 a0_t)), (.sl (a0_l.map intAV) .ro), (.sl (insAVs a0_body) .ro), (.sl (insAVs a0_els) .ro), (.s (.bool a0_has))], Rec.box [(.s (.int .i64 r3_0.byte)), (.s (.string r3_0.name)), (.s (.int .i64 r3_0.kind)), (.sl (r3_0.takes.map intAV) .ro), (.s (.int .i64 r3_0.gives)), (.s (.int .i64 r3_0.bytes)), (.s (.bool r3_0.signed))]]) (fun env => by kernel_rfl) (And.intro hb29 trivial) (fun _ h => ⟨rfl, h, rfl⟩)
          · rw [if_neg hb29] at hm28
            obtain rfl := Option.some.inj hm28
            exact Runs.region he24 [(3, .b false)] [(1, (.ptr 0 0)), (30, (.s (.bool false)))] (h := [Rec.box [(.s (.int .i64 a0_op)), (.s (.int .i64 a0_a)), (.s (.int .i64 a0_b)), (.s (.int .u64 a0_v)), (.s (.int .i64 a0_t)), (.sl (a0_l.map intAV) .ro), (.sl (insAVs a0_body) .ro), (.sl (insAVs a0_els) .ro), (.s (.bool a0_has))], Rec.box [(.s (.int .i64 r3_0.byte)), (.s (.string r3_0.name)), (.s (.int .i64 r3_0.kind)), (.sl (r3_0.takes.map intAV) .ro), (.s (.int .i64 r3_0.gives)), (.s (.int .i64 r3_0.bytes)), (.s (.bool r3_0.signed))]]) (fun env => by kernel_rfl) (And.intro (Bool.eq_false_iff.2 hb29) trivial) (fun _ h => ⟨rfl, h, rfl⟩)
        rintro _ e31 h32 ⟨rfl, he30, hh33⟩
        rw [hh33]
        refine thenN ?_
        by_cases hb34 : v27 = true
        · rw [if_pos hb34] at h
          refine Runs.cond (he30.get (t := 30) (v := (.s (.bool v27))) (by kernel_rfl)) (fun _ => ?_) (fun h0 => absurd (hb34.symm.trans h0) (by decide))
          refine Runs.sq ?_
          refine Runs.region he30 [] [(2, (.s (.bool false)))] (h := [Rec.box [(.s (.int .i64 a0_op)), (.s (.int .i64 a0_a)), (.s (.int .i64 a0_b)), (.s (.int .u64 a0_v)), (.s (.int .i64 a0_t)), (.sl (a0_l.map intAV) .ro), (.sl (insAVs a0_body) .ro), (.sl (insAVs a0_els) .ro), (.s (.bool a0_has))], Rec.box [(.s (.int .i64 r3_0.byte)), (.s (.string r3_0.name)), (.s (.int .i64 r3_0.kind)), (.sl (r3_0.takes.map intAV) .ro), (.s (.int .i64 r3_0.gives)), (.s (.int .i64 r3_0.bytes)), (.s (.bool r3_0.signed))]]) (fun env => by kernel_rfl) trivial (fun e36 he35 => ?_)
          refine thenN ?_
          refine Runs.ret ?_
          refine thenR ?_
          refine blockR ?_
          refine thenR ?_
          obtain rfl := Option.some.inj h
          exact RetOK17.endP ret_ne (RetOK17.of (resT (he35.get (t := 2) (v := (.s (.bool false))) (by kernel_rfl)) resN) (fin_of (fun _ _ _ _ _ h => by cases h) rfl))
        · rw [if_neg hb34] at h
          refine Runs.cond (he30.get (t := 30) (v := (.s (.bool v27))) (by kernel_rfl)) (fun h0 => absurd h0 hb34) (fun _ => ?_)
          refine Runs.skip ?_
          refine thenN ?_
          refine Runs.region he30 [] [(1, (.ptr 0 0))] (h := [Rec.box [(.s (.int .i64 a0_op)), (.s (.int .i64 a0_a)), (.s (.int .i64 a0_b)), (.s (.int .u64 0)), (.s (.int .i64 a0_t)), (.sl (a0_l.map intAV) .ro), (.sl (insAVs a0_body) .ro), (.sl (insAVs a0_els) .ro), (.s (.bool a0_has))], Rec.box [(.s (.int .i64 r3_0.byte)), (.s (.string r3_0.name)), (.s (.int .i64 r3_0.kind)), (.sl (r3_0.takes.map intAV) .ro), (.s (.int .i64 r3_0.gives)), (.s (.int .i64 r3_0.bytes)), (.s (.bool r3_0.signed))]]) (fun env => by kernel_rfl) trivial (fun e38 he37 => ?_)
          refine blockN ?_
          refine thenN ?_
          refine Runs.sq ?_
          obtain ⟨r39, hr40, h⟩ := Option.bind_eq_some_iff.1 h
          refine Runs.region he37 [(1, .f (.s (.bool r39)) [Rec.box [(.s (.int .i64 a0_op)), (.s (.int .i64 a0_a)), (.s (.int .i64 a0_b)), (.s (.int .u64 0)), (.s (.int .i64 a0_t)), (.sl (a0_l.map intAV) .ro), (.sl (insAVs a0_body) .ro), (.sl (insAVs a0_els) .ro), (.s (.bool a0_has))], Rec.box [(.s (.int .i64 r3_0.byte)), (.s (.string r3_0.name)), (.s (.int .i64 r3_0.kind)), (.sl (r3_0.takes.map intAV) .ro), (.s (.int .i64 r3_0.gives)), (.s (.int .i64 r3_0.bytes)), (.s (.bool r3_0.signed))]])] [(2, (.s (.bool r39)))] (h := [Rec.box [(.s (.int .i64 a0_op)), (.s (.int .i64 a0_a)), (.s (.int .i64 a0_b)), (.s (.int .u64 0)), (.s (.int .i64 a0_t)), (.sl (a0_l.map intAV) .ro), (.sl (insAVs a0_body) .ro), (.sl (insAVs a0_els) .ro), (.s (.bool a0_has))], Rec.box [(.s (.int .i64 r3_0.byte)), (.s (.string r3_0.name)), (.s (.int .i64 r3_0.kind)), (.sl (r3_0.takes.map intAV) .ro), (.s (.int .i64 r3_0.gives)), (.s (.int .i64 r3_0.bytes)), (.s (.bool r3_0.signed))]]) (fun env => by kernel_rfl) (And.intro (hg33 (Ins.mk a0_op a0_a a0_b (0 : Int) a0_t a0_l a0_body a0_els a0_has)  _ [Rec.box [(.s (.int .i64 a0_op)), (.s (.int .i64 a0_a)), (.s (.int .i64 a0_b)), (.s (.int .u64 0)), (.s (.int .i64 a0_t)), (.sl (a0_l.map intAV) .ro), (.sl (insAVs a0_body) .ro), (.sl (insAVs a0_els) .ro), (.s (.bool a0_has))], Rec.box [(.s (.int .i64 r3_0.byte)), (.s (.string r3_0.name)), (.s (.int .i64 r3_0.kind)), (.sl (r3_0.takes.map intAV) .ro), (.s (.int .i64 r3_0.gives)), (.s (.int .i64 r3_0.bytes)), (.s (.bool r3_0.signed))]]  hr40) trivial) (fun e42 he41 => ?_)
          refine thenN ?_
          refine Runs.ret ?_
          obtain rfl := Option.some.inj h
          exact RetOK17.endP ret_ne (RetOK17.of (resT (he41.get (t := 2) (v := (.s (.bool r39))) (by kernel_rfl)) resN) (fin_of (fun _ _ _ _ _ h => by cases h) rfl))
      · rw [if_neg hb26] at h
        refine Runs.cond (he24.get (t := 19) (v := (.s (.bool (decide (r3_0.kind = 10))))) (by kernel_rfl)) (fun h0 => absurd h0 hb26) (fun _ => ?_)
        refine Runs.sq ?_
        obtain ⟨v43, hm44, h⟩ := Option.bind_eq_some_iff.1 h
        refine Runs.mono (Q := fun x e h => x = .normal ∧ Sat [(1, (.ptr 0 0)), (3, (.ptr 1 0)), (32, (.s (.bool v43)))] e ∧ h = [Rec.box [(.s (.int .i64 a0_op)), (.s (.int .i64 a0_a)), (.s (.int .i64 a0_b)), (.s (.int .u64 a0_v)), (.s (.int .i64 a0_t)), (.sl (a0_l.map intAV) .ro), (.sl (insAVs a0_body) .ro), (.sl (insAVs a0_els) .ro), (.s (.bool a0_has))], Rec.box [(.s (.int .i64 r3_0.byte)), (.s (.string r3_0.name)), (.s (.int .i64 r3_0.kind)), (.sl (r3_0.takes.map intAV) .ro), (.s (.int .i64 r3_0.gives)), (.s (.int .i64 r3_0.bytes)), (.s (.bool r3_0.signed))]]) ?_ ?_
        · by_cases hb45 : (decide (r3_0.kind = 7)) = true
          · rw [if_pos hb45] at hm44
            obtain rfl := Option.some.inj hm44
            exact Runs.region he24 [(3, .b true)] [(1, (.ptr 0 0)), (3, (.ptr 1 0)), (32, (.s (.bool true)))] (h := [Rec.box [(.s (.int .i64 a0_op)), (.s (.int .i64 a0_a)), (.s (.int .i64 a0_b)), (.s (.int .u64 a0_v)), (.s (.int .i64 a0_t)), (.sl (a0_l.map intAV) .ro), (.sl (insAVs a0_body) .ro), (.sl (insAVs a0_els) .ro), (.s (.bool a0_has))], Rec.box [(.s (.int .i64 r3_0.byte)), (.s (.string r3_0.name)), (.s (.int .i64 r3_0.kind)), (.sl (r3_0.takes.map intAV) .ro), (.s (.int .i64 r3_0.gives)), (.s (.int .i64 r3_0.bytes)), (.s (.bool r3_0.signed))]]) (fun env => by kernel_rfl) (And.intro hb45 trivial) (fun _ h => ⟨rfl, h, rfl⟩)
          · rw [if_neg hb45] at hm44
            obtain rfl := Option.some.inj hm44
            exact Runs.region he24 [(3, .b false)] [(1, (.ptr 0 0)), (3, (.ptr 1 0)), (32, (.s (.bool (decide (r3_0.kind = 8)))))] (h := [Rec.box [(.s (.int .i64 a0_op)), (.s (.int .i64 a0_a)), (.s (.int .i64 a0_b)), (.s (.int .u64 a0_v)), (.s (.int .i64 a0_t)), (.sl (a0_l.map intAV) .ro), (.sl (insAVs a0_body) .ro), (.sl (insAVs a0_els) .ro), (.s (.bool a0_has))], Rec.box [(.s (.int .i64 r3_0.byte)), (.s (.string r3_0.name)), (.s (.int .i64 r3_0.kind)), (.sl (r3_0.takes.map intAV) .ro), (.s (.int .i64 r3_0.gives)), (.s (.int .i64 r3_0.bytes)), (.s (.bool r3_0.signed))]]) (fun env => by kernel_rfl) (And.intro (Bool.eq_false_iff.2 hb45) trivial) (fun _ h => ⟨rfl, h, rfl⟩)
        rintro _ e47 h48 ⟨rfl, he46, hh49⟩
        rw [hh49]
        refine thenN ?_
        by_cases hb50 : v43 = true
        · rw [if_pos hb50] at h
          refine Runs.cond (he46.get (t := 32) (v := (.s (.bool v43))) (by kernel_rfl)) (fun _ => ?_) (fun h0 => absurd (hb50.symm.trans h0) (by decide))
          refine Runs.sq ?_
          refine Runs.sq ?_
          obtain ⟨v51, hm52, h⟩ := Option.bind_eq_some_iff.1 h
          refine Runs.mono (Q := fun x e h => x = .normal ∧ Sat [(1, (.ptr 0 0)), (50, (.s (.bool v51)))] e ∧ h = [Rec.box [(.s (.int .i64 a0_op)), (.s (.int .i64 a0_a)), (.s (.int .i64 a0_b)), (.s (.int .u64 a0_v)), (.s (.int .i64 a0_t)), (.sl (a0_l.map intAV) .ro), (.sl (insAVs a0_body) .ro), (.sl (insAVs a0_els) .ro), (.s (.bool a0_has))], Rec.box [(.s (.int .i64 r3_0.byte)), (.s (.string r3_0.name)), (.s (.int .i64 r3_0.kind)), (.sl (r3_0.takes.map intAV) .ro), (.s (.int .i64 r3_0.gives)), (.s (.int .i64 r3_0.bytes)), (.s (.bool r3_0.signed))]]) ?_ ?_
          · obtain ⟨r53, hr54, hm52⟩ := Option.bind_eq_some_iff.1 hm52
            by_cases hb55 : (!r53) = true
            · rw [if_pos hb55] at hm52
              obtain rfl := Option.some.inj hm52
              exact Runs.region he46 [(2, .f (.s (.bool r53)) [Rec.box [(.s (.int .i64 a0_op)), (.s (.int .i64 a0_a)), (.s (.int .i64 a0_b)), (.s (.int .u64 a0_v)), (.s (.int .i64 a0_t)), (.sl (a0_l.map intAV) .ro), (.sl (insAVs a0_body) .ro), (.sl (insAVs a0_els) .ro), (.s (.bool a0_has))], Rec.box [(.s (.int .i64 r3_0.byte)), (.s (.string r3_0.name)), (.s (.int .i64 r3_0.kind)), (.sl (r3_0.takes.map intAV) .ro), (.s (.int .i64 r3_0.gives)), (.s (.int .i64 r3_0.bytes)), (.s (.bool r3_0.signed))]]), (4, .b true)] [(1, (.ptr 0 0)), (50, (.s (.bool true)))] (h := [Rec.box [(.s (.int .i64 a0_op)), (.s (.int .i64 a0_a)), (.s (.int .i64 a0_b)), (.s (.int .u64 a0_v)), (.s (.int .i64 a0_t)), (.sl (a0_l.map intAV) .ro), (.sl (insAVs a0_body) .ro), (.sl (insAVs a0_els) .ro), (.s (.bool a0_has))], Rec.box [(.s (.int .i64 r3_0.byte)), (.s (.string r3_0.name)), (.s (.int .i64 r3_0.kind)), (.sl (r3_0.takes.map intAV) .ro), (.s (.int .i64 r3_0.gives)), (.s (.int .i64 r3_0.bytes)), (.s (.bool r3_0.signed))]]) (fun env => by kernel_rfl) (And.intro (hg30 a0_a  _ [Rec.box [(.s (.int .i64 a0_op)), (.s (.int .i64 a0_a)), (.s (.int .i64 a0_b)), (.s (.int .u64 a0_v)), (.s (.int .i64 a0_t)), (.sl (a0_l.map intAV) .ro), (.sl (insAVs a0_body) .ro), (.sl (insAVs a0_els) .ro), (.s (.bool a0_has))], Rec.box [(.s (.int .i64 r3_0.byte)), (.s (.string r3_0.name)), (.s (.int .i64 r3_0.kind)), (.sl (r3_0.takes.map intAV) .ro), (.s (.int .i64 r3_0.gives)), (.s (.int .i64 r3_0.bytes)), (.s (.bool r3_0.signed))]]  hr54) (And.intro hb55 trivial)) (fun _ h => ⟨rfl, h, rfl⟩)
            · rw [if_neg hb55] at hm52
              obtain ⟨r56, hr57, hm52⟩ := Option.bind_eq_some_iff.1 hm52
              obtain rfl := Option.some.inj hm52
              exact Runs.region he46 [(2, .f (.s (.bool r53)) [Rec.box [(.s (.int .i64 a0_op)), (.s (.int .i64 a0_a)), (.s (.int .i64 a0_b)), (.s (.int .u64 a0_v)), (.s (.int .i64 a0_t)), (.sl (a0_l.map intAV) .ro), (.sl (insAVs a0_body) .ro), (.sl (insAVs a0_els) .ro), (.s (.bool a0_has))], Rec.box [(.s (.int .i64 r3_0.byte)), (.s (.string r3_0.name)), (.s (.int .i64 r3_0.kind)), (.sl (r3_0.takes.map intAV) .ro), (.s (.int .i64 r3_0.gives)), (.s (.int .i64 r3_0.bytes)), (.s (.bool r3_0.signed))]]), (4, .b false), (7, .f (.s (.bool r56)) [Rec.box [(.s (.int .i64 a0_op)), (.s (.int .i64 a0_a)), (.s (.int .i64 a0_b)), (.s (.int .u64 a0_v)), (.s (.int .i64 a0_t)), (.sl (a0_l.map intAV) .ro), (.sl (insAVs a0_body) .ro), (.sl (insAVs a0_els) .ro), (.s (.bool a0_has))], Rec.box [(.s (.int .i64 r3_0.byte)), (.s (.string r3_0.name)), (.s (.int .i64 r3_0.kind)), (.sl (r3_0.takes.map intAV) .ro), (.s (.int .i64 r3_0.gives)), (.s (.int .i64 r3_0.bytes)), (.s (.bool r3_0.signed))]])] [(1, (.ptr 0 0)), (50, (.s (.bool (!r56))))] (h := [Rec.box [(.s (.int .i64 a0_op)), (.s (.int .i64 a0_a)), (.s (.int .i64 a0_b)), (.s (.int .u64 a0_v)), (.s (.int .i64 a0_t)), (.sl (a0_l.map intAV) .ro), (.sl (insAVs a0_body) .ro), (.sl (insAVs a0_els) .ro), (.s (.bool a0_has))], Rec.box [(.s (.int .i64 r3_0.byte)), (.s (.string r3_0.name)), (.s (.int .i64 r3_0.kind)), (.sl (r3_0.takes.map intAV) .ro), (.s (.int .i64 r3_0.gives)), (.s (.int .i64 r3_0.bytes)), (.s (.bool r3_0.signed))]]) (fun env => by kernel_rfl) (And.intro (hg30 a0_a  _ [Rec.box [(.s (.int .i64 a0_op)), (.s (.int .i64 a0_a)), (.s (.int .i64 a0_b)), (.s (.int .u64 a0_v)), (.s (.int .i64 a0_t)), (.sl (a0_l.map intAV) .ro), (.sl (insAVs a0_body) .ro), (.sl (insAVs a0_els) .ro), (.s (.bool a0_has))], Rec.box [(.s (.int .i64 r3_0.byte)), (.s (.string r3_0.name)), (.s (.int .i64 r3_0.kind)), (.sl (r3_0.takes.map intAV) .ro), (.s (.int .i64 r3_0.gives)), (.s (.int .i64 r3_0.bytes)), (.s (.bool r3_0.signed))]]  hr54) (And.intro (Bool.eq_false_iff.2 hb55) (And.intro (hg30 a0_b  _ [Rec.box [(.s (.int .i64 a0_op)), (.s (.int .i64 a0_a)), (.s (.int .i64 a0_b)), (.s (.int .u64 a0_v)), (.s (.int .i64 a0_t)), (.sl (a0_l.map intAV) .ro), (.sl (insAVs a0_body) .ro), (.sl (insAVs a0_els) .ro), (.s (.bool a0_has))], Rec.box [(.s (.int .i64 r3_0.byte)), (.s (.string r3_0.name)), (.s (.int .i64 r3_0.kind)), (.sl (r3_0.takes.map intAV) .ro), (.s (.int .i64 r3_0.gives)), (.s (.int .i64 r3_0.bytes)), (.s (.bool r3_0.signed))]]  hr57) trivial))) (fun _ h => ⟨rfl, h, rfl⟩)
          rintro _ e59 h60 ⟨rfl, he58, hh61⟩
          rw [hh61]
          refine thenN ?_
          by_cases hb62 : v51 = true
          · rw [if_pos hb62] at h
            refine Runs.cond (he58.get (t := 50) (v := (.s (.bool v51))) (by kernel_rfl)) (fun _ => ?_) (fun h0 => absurd (hb62.symm.trans h0) (by decide))
            refine Runs.sq ?_
            refine Runs.region he58 [] [(2, (.s (.bool false)))] (h := [Rec.box [(.s (.int .i64 a0_op)), (.s (.int .i64 a0_a)), (.s (.int .i64 a0_b)), (.s (.int .u64 a0_v)), (.s (.int .i64 a0_t)), (.sl (a0_l.map intAV) .ro), (.sl (insAVs a0_body) .ro), (.sl (insAVs a0_els) .ro), (.s (.bool a0_has))], Rec.box [(.s (.int .i64 r3_0.byte)), (.s (.string r3_0.name)), (.s (.int .i64 r3_0.kind)), (.sl (r3_0.takes.map intAV) .ro), (.s (.int .i64 r3_0.gives)), (.s (.int .i64 r3_0.bytes)), (.s (.bool r3_0.signed))]]) (fun env => by kernel_rfl) trivial (fun e64 he63 => ?_)
            refine thenN ?_
            refine Runs.ret ?_
            refine thenR ?_
            refine blockR ?_
            refine thenR ?_
            obtain rfl := Option.some.inj h
            exact RetOK17.endP ret_ne (RetOK17.of (resT (he63.get (t := 2) (v := (.s (.bool false))) (by kernel_rfl)) resN) (fin_of (fun _ _ _ _ _ h => by cases h) rfl))
          · rw [if_neg hb62] at h
            refine Runs.cond (he58.get (t := 50) (v := (.s (.bool v51))) (by kernel_rfl)) (fun h0 => absurd h0 hb62) (fun _ => ?_)
            refine Runs.skip ?_
            refine thenN ?_
            refine Runs.region he58 [] [(1, (.ptr 0 0))] (h := [Rec.box [(.s (.int .i64 a0_op)), (.s (.int .i64 0)), (.s (.int .i64 0)), (.s (.int .u64 a0_v)), (.s (.int .i64 a0_t)), (.sl (a0_l.map intAV) .ro), (.sl (insAVs a0_body) .ro), (.sl (insAVs a0_els) .ro), (.s (.bool a0_has))], Rec.box [(.s (.int .i64 r3_0.byte)), (.s (.string r3_0.name)), (.s (.int .i64 r3_0.kind)), (.sl (r3_0.takes.map intAV) .ro), (.s (.int .i64 r3_0.gives)), (.s (.int .i64 r3_0.bytes)), (.s (.bool r3_0.signed))]]) (fun env => by kernel_rfl) trivial (fun e66 he65 => ?_)
            refine blockN ?_
            refine thenN ?_
            refine Runs.sq ?_
            obtain ⟨r67, hr68, h⟩ := Option.bind_eq_some_iff.1 h
            refine Runs.region he65 [(1, .f (.s (.bool r67)) [Rec.box [(.s (.int .i64 a0_op)), (.s (.int .i64 0)), (.s (.int .i64 0)), (.s (.int .u64 a0_v)), (.s (.int .i64 a0_t)), (.sl (a0_l.map intAV) .ro), (.sl (insAVs a0_body) .ro), (.sl (insAVs a0_els) .ro), (.s (.bool a0_has))], Rec.box [(.s (.int .i64 r3_0.byte)), (.s (.string r3_0.name)), (.s (.int .i64 r3_0.kind)), (.sl (r3_0.takes.map intAV) .ro), (.s (.int .i64 r3_0.gives)), (.s (.int .i64 r3_0.bytes)), (.s (.bool r3_0.signed))]])] [(2, (.s (.bool r67)))] (h := [Rec.box [(.s (.int .i64 a0_op)), (.s (.int .i64 0)), (.s (.int .i64 0)), (.s (.int .u64 a0_v)), (.s (.int .i64 a0_t)), (.sl (a0_l.map intAV) .ro), (.sl (insAVs a0_body) .ro), (.sl (insAVs a0_els) .ro), (.s (.bool a0_has))], Rec.box [(.s (.int .i64 r3_0.byte)), (.s (.string r3_0.name)), (.s (.int .i64 r3_0.kind)), (.sl (r3_0.takes.map intAV) .ro), (.s (.int .i64 r3_0.gives)), (.s (.int .i64 r3_0.bytes)), (.s (.bool r3_0.signed))]]) (fun env => by kernel_rfl) (And.intro (hg33 (Ins.mk a0_op (0 : Int) (0 : Int) a0_v a0_t a0_l a0_body a0_els a0_has)  _ [Rec.box [(.s (.int .i64 a0_op)), (.s (.int .i64 0)), (.s (.int .i64 0)), (.s (.int .u64 a0_v)), (.s (.int .i64 a0_t)), (.sl (a0_l.map intAV) .ro), (.sl (insAVs a0_body) .ro), (.sl (insAVs a0_els) .ro), (.s (.bool a0_has))], Rec.box [(.s (.int .i64 r3_0.byte)), (.s (.string r3_0.name)), (.s (.int .i64 r3_0.kind)), (.sl (r3_0.takes.map intAV) .ro), (.s (.int .i64 r3_0.gives)), (.s (.int .i64 r3_0.bytes)), (.s (.bool r3_0.signed))]]  hr68) trivial) (fun e70 he69 => ?_)
            refine thenN ?_
            refine Runs.ret ?_
            obtain rfl := Option.some.inj h
            exact RetOK17.endP ret_ne (RetOK17.of (resT (he69.get (t := 2) (v := (.s (.bool r67))) (by kernel_rfl)) resN) (fin_of (fun _ _ _ _ _ h => by cases h) rfl))
        · rw [if_neg hb50] at h
          refine Runs.cond (he46.get (t := 32) (v := (.s (.bool v43))) (by kernel_rfl)) (fun h0 => absurd h0 hb50) (fun _ => ?_)
          refine Runs.sq ?_
          refine Runs.region he46 [] [(1, (.ptr 0 0)), (3, (.ptr 1 0)), (53, (.s (.bool (r3_0.name.toList == (⟨#[98, 114, 95, 116, 97, 98, 108, 101]⟩ : ByteArray).toList))))] (h := [Rec.box [(.s (.int .i64 a0_op)), (.s (.int .i64 a0_a)), (.s (.int .i64 a0_b)), (.s (.int .u64 a0_v)), (.s (.int .i64 a0_t)), (.sl (a0_l.map intAV) .ro), (.sl (insAVs a0_body) .ro), (.sl (insAVs a0_els) .ro), (.s (.bool a0_has))], Rec.box [(.s (.int .i64 r3_0.byte)), (.s (.string r3_0.name)), (.s (.int .i64 r3_0.kind)), (.sl (r3_0.takes.map intAV) .ro), (.s (.int .i64 r3_0.gives)), (.s (.int .i64 r3_0.bytes)), (.s (.bool r3_0.signed))]]) (fun env => by kernel_rfl) trivial (fun e72 he71 => ?_)
          refine thenN ?_
          by_cases hb73 : (r3_0.name.toList == (⟨#[98, 114, 95, 116, 97, 98, 108, 101]⟩ : ByteArray).toList) = true
          · rw [if_pos hb73] at h
            refine Runs.cond (he71.get (t := 53) (v := (.s (.bool (r3_0.name.toList == (⟨#[98, 114, 95, 116, 97, 98, 108, 101]⟩ : ByteArray).toList)))) (by kernel_rfl)) (fun _ => ?_) (fun h0 => absurd (hb73.symm.trans h0) (by decide))
            refine Runs.sq ?_
            refine Runs.sq ?_
            obtain ⟨v74, hm75, h⟩ := Option.bind_eq_some_iff.1 h
            refine Runs.mono (Q := fun x e h => x = .normal ∧ Sat [(1, (.ptr 0 0)), (65, (.s (.bool v74)))] e ∧ h = [Rec.box [(.s (.int .i64 a0_op)), (.s (.int .i64 a0_a)), (.s (.int .i64 a0_b)), (.s (.int .u64 a0_v)), (.s (.int .i64 a0_t)), (.sl (a0_l.map intAV) .ro), (.sl (insAVs a0_body) .ro), (.sl (insAVs a0_els) .ro), (.s (.bool a0_has))], Rec.box [(.s (.int .i64 r3_0.byte)), (.s (.string r3_0.name)), (.s (.int .i64 r3_0.kind)), (.sl (r3_0.takes.map intAV) .ro), (.s (.int .i64 r3_0.gives)), (.s (.int .i64 r3_0.bytes)), (.s (.bool r3_0.signed))]]) ?_ ?_
            · by_cases hb76 : (decide ((a0_l.length : Int) = 0)) = true
              · rw [if_pos hb76] at hm75
                obtain rfl := Option.some.inj hm75
                exact Runs.region he71 [(2, .i (a0_l.length : Int)), (4, .b true)] [(1, (.ptr 0 0)), (65, (.s (.bool true)))] (h := [Rec.box [(.s (.int .i64 a0_op)), (.s (.int .i64 a0_a)), (.s (.int .i64 a0_b)), (.s (.int .u64 a0_v)), (.s (.int .i64 a0_t)), (.sl (a0_l.map intAV) .ro), (.sl (insAVs a0_body) .ro), (.sl (insAVs a0_els) .ro), (.s (.bool a0_has))], Rec.box [(.s (.int .i64 r3_0.byte)), (.s (.string r3_0.name)), (.s (.int .i64 r3_0.kind)), (.sl (r3_0.takes.map intAV) .ro), (.s (.int .i64 r3_0.gives)), (.s (.int .i64 r3_0.bytes)), (.s (.bool r3_0.signed))]]) (fun env => by kernel_rfl) (And.intro (len_map (l := a0_l) (f := intAV)) (And.intro hb76 trivial)) (fun _ h => ⟨rfl, h, rfl⟩)
              · rw [if_neg hb76] at hm75
                obtain ⟨r77, hr78, hm75⟩ := Option.bind_eq_some_iff.1 hm75
                obtain rfl := Option.some.inj hm75
                exact Runs.region he71 [(2, .i (a0_l.length : Int)), (4, .b false), (7, .f (.s (.bool r77)) [Rec.box [(.s (.int .i64 a0_op)), (.s (.int .i64 a0_a)), (.s (.int .i64 a0_b)), (.s (.int .u64 a0_v)), (.s (.int .i64 a0_t)), (.sl (a0_l.map intAV) .ro), (.sl (insAVs a0_body) .ro), (.sl (insAVs a0_els) .ro), (.s (.bool a0_has))], Rec.box [(.s (.int .i64 r3_0.byte)), (.s (.string r3_0.name)), (.s (.int .i64 r3_0.kind)), (.sl (r3_0.takes.map intAV) .ro), (.s (.int .i64 r3_0.gives)), (.s (.int .i64 r3_0.bytes)), (.s (.bool r3_0.signed))]])] [(1, (.ptr 0 0)), (65, (.s (.bool r77)))] (h := [Rec.box [(.s (.int .i64 a0_op)), (.s (.int .i64 a0_a)), (.s (.int .i64 a0_b)), (.s (.int .u64 a0_v)), (.s (.int .i64 a0_t)), (.sl (a0_l.map intAV) .ro), (.sl (insAVs a0_body) .ro), (.sl (insAVs a0_els) .ro), (.s (.bool a0_has))], Rec.box [(.s (.int .i64 r3_0.byte)), (.s (.string r3_0.name)), (.s (.int .i64 r3_0.kind)), (.sl (r3_0.takes.map intAV) .ro), (.s (.int .i64 r3_0.gives)), (.s (.int .i64 r3_0.bytes)), (.s (.bool r3_0.signed))]]) (fun env => by kernel_rfl) (And.intro (len_map (l := a0_l) (f := intAV)) (And.intro (Bool.eq_false_iff.2 hb76) (And.intro (hg31 a0_l (.clo 32 []) .ro _ [Rec.box [(.s (.int .i64 a0_op)), (.s (.int .i64 a0_a)), (.s (.int .i64 a0_b)), (.s (.int .u64 a0_v)), (.s (.int .i64 a0_t)), (.sl (a0_l.map intAV) .ro), (.sl (insAVs a0_body) .ro), (.sl (insAVs a0_els) .ro), (.s (.bool a0_has))], Rec.box [(.s (.int .i64 r3_0.byte)), (.s (.string r3_0.name)), (.s (.int .i64 r3_0.kind)), (.sl (r3_0.takes.map intAV) .ro), (.s (.int .i64 r3_0.gives)), (.s (.int .i64 r3_0.bytes)), (.s (.bool r3_0.signed))]] rfl hr78) trivial))) (fun _ h => ⟨rfl, h, rfl⟩)
            rintro _ e80 h81 ⟨rfl, he79, hh82⟩
            rw [hh82]
            refine thenN ?_
            by_cases hb83 : v74 = true
            · rw [if_pos hb83] at h
              refine Runs.cond (he79.get (t := 65) (v := (.s (.bool v74))) (by kernel_rfl)) (fun _ => ?_) (fun h0 => absurd (hb83.symm.trans h0) (by decide))
              refine Runs.sq ?_
              refine Runs.region he79 [] [(2, (.s (.bool false)))] (h := [Rec.box [(.s (.int .i64 a0_op)), (.s (.int .i64 a0_a)), (.s (.int .i64 a0_b)), (.s (.int .u64 a0_v)), (.s (.int .i64 a0_t)), (.sl (a0_l.map intAV) .ro), (.sl (insAVs a0_body) .ro), (.sl (insAVs a0_els) .ro), (.s (.bool a0_has))], Rec.box [(.s (.int .i64 r3_0.byte)), (.s (.string r3_0.name)), (.s (.int .i64 r3_0.kind)), (.sl (r3_0.takes.map intAV) .ro), (.s (.int .i64 r3_0.gives)), (.s (.int .i64 r3_0.bytes)), (.s (.bool r3_0.signed))]]) (fun env => by kernel_rfl) trivial (fun e85 he84 => ?_)
              refine thenN ?_
              refine Runs.ret ?_
              refine thenR ?_
              refine blockR ?_
              refine thenR ?_
              obtain rfl := Option.some.inj h
              exact RetOK17.endP ret_ne (RetOK17.of (resT (he84.get (t := 2) (v := (.s (.bool false))) (by kernel_rfl)) resN) (fin_of (fun _ _ _ _ _ h => by cases h) rfl))
            · rw [if_neg hb83] at h
              refine Runs.cond (he79.get (t := 65) (v := (.s (.bool v74))) (by kernel_rfl)) (fun h0 => absurd h0 hb83) (fun _ => ?_)
              refine Runs.skip ?_
              refine thenN ?_
              refine Runs.region he79 [] [(1, (.ptr 0 0))] (h := [Rec.box [(.s (.int .i64 a0_op)), (.s (.int .i64 a0_a)), (.s (.int .i64 a0_b)), (.s (.int .u64 a0_v)), (.s (.int .i64 a0_t)), (.sl [] .full), (.sl (insAVs a0_body) .ro), (.sl (insAVs a0_els) .ro), (.s (.bool a0_has))], Rec.box [(.s (.int .i64 r3_0.byte)), (.s (.string r3_0.name)), (.s (.int .i64 r3_0.kind)), (.sl (r3_0.takes.map intAV) .ro), (.s (.int .i64 r3_0.gives)), (.s (.int .i64 r3_0.bytes)), (.s (.bool r3_0.signed))]]) (fun env => by kernel_rfl) trivial (fun e87 he86 => ?_)
              refine blockN ?_
              refine thenN ?_
              refine Runs.sq ?_
              obtain ⟨r88, hr89, h⟩ := Option.bind_eq_some_iff.1 h
              refine Runs.region he86 [(1, .f (.s (.bool r88)) [Rec.box [(.s (.int .i64 a0_op)), (.s (.int .i64 a0_a)), (.s (.int .i64 a0_b)), (.s (.int .u64 a0_v)), (.s (.int .i64 a0_t)), (.sl [] .full), (.sl (insAVs a0_body) .ro), (.sl (insAVs a0_els) .ro), (.s (.bool a0_has))], Rec.box [(.s (.int .i64 r3_0.byte)), (.s (.string r3_0.name)), (.s (.int .i64 r3_0.kind)), (.sl (r3_0.takes.map intAV) .ro), (.s (.int .i64 r3_0.gives)), (.s (.int .i64 r3_0.bytes)), (.s (.bool r3_0.signed))]])] [(2, (.s (.bool r88)))] (h := [Rec.box [(.s (.int .i64 a0_op)), (.s (.int .i64 a0_a)), (.s (.int .i64 a0_b)), (.s (.int .u64 a0_v)), (.s (.int .i64 a0_t)), (.sl [] .full), (.sl (insAVs a0_body) .ro), (.sl (insAVs a0_els) .ro), (.s (.bool a0_has))], Rec.box [(.s (.int .i64 r3_0.byte)), (.s (.string r3_0.name)), (.s (.int .i64 r3_0.kind)), (.sl (r3_0.takes.map intAV) .ro), (.s (.int .i64 r3_0.gives)), (.s (.int .i64 r3_0.bytes)), (.s (.bool r3_0.signed))]]) (fun env => by kernel_rfl) (And.intro ((pure_shut (P := P) (T := T m) (n := n) (fi := F33) (args := [(.agg [(.s (.int .i64 a0_op)), (.s (.int .i64 a0_a)), (.s (.int .i64 a0_b)), (.s (.int .u64 a0_v)), (.s (.int .i64 a0_t)), (.sl [] .full), (.sl (insAVs a0_body) .ro), (.sl (insAVs a0_els) .ro), (.s (.bool a0_has))])]) (bs := [(Ins.av (Ins.mk a0_op a0_a a0_b a0_v a0_t [] a0_body a0_els a0_has))]) (H := [Rec.box [(.s (.int .i64 a0_op)), (.s (.int .i64 a0_a)), (.s (.int .i64 a0_b)), (.s (.int .u64 a0_v)), (.s (.int .i64 a0_t)), (.sl [] .full), (.sl (insAVs a0_body) .ro), (.sl (insAVs a0_els) .ro), (.s (.bool a0_has))], Rec.box [(.s (.int .i64 r3_0.byte)), (.s (.string r3_0.name)), (.s (.int .i64 r3_0.kind)), (.sl (r3_0.takes.map intAV) .ro), (.s (.int .i64 r3_0.gives)), (.s (.int .i64 r3_0.bytes)), (.s (.bool r3_0.signed))]]) (x33 m) (oh33 m) (o33 m) (c33 m) rfl (shut_cons (shut_agg (shut_cons rfl (shut_cons rfl (shut_cons rfl (shut_cons rfl (shut_cons rfl (shut_cons (shut_sl rfl) (shut_cons (shut_sl (Ins.shutL 0 a0_body)) (shut_cons (shut_sl (Ins.shutL 0 a0_els)) (shut_cons rfl rfl)))))))))) rfl) (shut_cons (Ins.shut 0 (Ins.mk a0_op a0_a a0_b a0_v a0_t [] a0_body a0_els a0_has)) rfl)).trans (hg33 (Ins.mk a0_op a0_a a0_b a0_v a0_t [] a0_body a0_els a0_has)  _ [Rec.box [(.s (.int .i64 a0_op)), (.s (.int .i64 a0_a)), (.s (.int .i64 a0_b)), (.s (.int .u64 a0_v)), (.s (.int .i64 a0_t)), (.sl [] .full), (.sl (insAVs a0_body) .ro), (.sl (insAVs a0_els) .ro), (.s (.bool a0_has))], Rec.box [(.s (.int .i64 r3_0.byte)), (.s (.string r3_0.name)), (.s (.int .i64 r3_0.kind)), (.sl (r3_0.takes.map intAV) .ro), (.s (.int .i64 r3_0.gives)), (.s (.int .i64 r3_0.bytes)), (.s (.bool r3_0.signed))]]  hr89)) trivial) (fun e91 he90 => ?_)
              refine thenN ?_
              refine Runs.ret ?_
              obtain rfl := Option.some.inj h
              exact RetOK17.endP ret_ne (RetOK17.of (resT (he90.get (t := 2) (v := (.s (.bool r88))) (by kernel_rfl)) resN) (fin_of (fun _ _ _ _ _ h => by cases h) rfl))
          · rw [if_neg hb73] at h
            refine Runs.cond (he71.get (t := 53) (v := (.s (.bool (r3_0.name.toList == (⟨#[98, 114, 95, 116, 97, 98, 108, 101]⟩ : ByteArray).toList)))) (by kernel_rfl)) (fun h0 => absurd h0 hb73) (fun _ => ?_)
            refine Runs.sq ?_
            obtain ⟨v92, hm93, h⟩ := Option.bind_eq_some_iff.1 h
            refine Runs.mono (Q := fun x e h => x = .normal ∧ Sat [(1, (.ptr 0 0)), (67, (.s (.bool v92)))] e ∧ h = [Rec.box [(.s (.int .i64 a0_op)), (.s (.int .i64 a0_a)), (.s (.int .i64 a0_b)), (.s (.int .u64 a0_v)), (.s (.int .i64 a0_t)), (.sl (a0_l.map intAV) .ro), (.sl (insAVs a0_body) .ro), (.sl (insAVs a0_els) .ro), (.s (.bool a0_has))], Rec.box [(.s (.int .i64 r3_0.byte)), (.s (.string r3_0.name)), (.s (.int .i64 r3_0.kind)), (.sl (r3_0.takes.map intAV) .ro), (.s (.int .i64 r3_0.gives)), (.s (.int .i64 r3_0.bytes)), (.s (.bool r3_0.signed))]]) ?_ ?_
            · by_cases hb94 : (decide (r3_0.kind = 4)) = true
              · rw [if_pos hb94] at hm93
                obtain rfl := Option.some.inj hm93
                exact Runs.region he71 [(3, .b true)] [(1, (.ptr 0 0)), (67, (.s (.bool true)))] (h := [Rec.box [(.s (.int .i64 a0_op)), (.s (.int .i64 a0_a)), (.s (.int .i64 a0_b)), (.s (.int .u64 a0_v)), (.s (.int .i64 a0_t)), (.sl (a0_l.map intAV) .ro), (.sl (insAVs a0_body) .ro), (.sl (insAVs a0_els) .ro), (.s (.bool a0_has))], Rec.box [(.s (.int .i64 r3_0.byte)), (.s (.string r3_0.name)), (.s (.int .i64 r3_0.kind)), (.sl (r3_0.takes.map intAV) .ro), (.s (.int .i64 r3_0.gives)), (.s (.int .i64 r3_0.bytes)), (.s (.bool r3_0.signed))]]) (fun env => by kernel_rfl) (And.intro hb94 trivial) (fun _ h => ⟨rfl, h, rfl⟩)
              · rw [if_neg hb94] at hm93
                by_cases hb95 : (decide (r3_0.kind = 6)) = true
                · rw [if_pos hb95] at hm93
                  obtain rfl := Option.some.inj hm93
                  exact Runs.region he71 [(3, .b false), (8, .b true)] [(1, (.ptr 0 0)), (67, (.s (.bool true)))] (h := [Rec.box [(.s (.int .i64 a0_op)), (.s (.int .i64 a0_a)), (.s (.int .i64 a0_b)), (.s (.int .u64 a0_v)), (.s (.int .i64 a0_t)), (.sl (a0_l.map intAV) .ro), (.sl (insAVs a0_body) .ro), (.sl (insAVs a0_els) .ro), (.s (.bool a0_has))], Rec.box [(.s (.int .i64 r3_0.byte)), (.s (.string r3_0.name)), (.s (.int .i64 r3_0.kind)), (.sl (r3_0.takes.map intAV) .ro), (.s (.int .i64 r3_0.gives)), (.s (.int .i64 r3_0.bytes)), (.s (.bool r3_0.signed))]]) (fun env => by kernel_rfl) (And.intro (Bool.eq_false_iff.2 hb94) (And.intro hb95 trivial)) (fun _ h => ⟨rfl, h, rfl⟩)
                · rw [if_neg hb95] at hm93
                  by_cases hb96 : (decide (r3_0.kind = 3)) = true
                  · rw [if_pos hb96] at hm93
                    obtain rfl := Option.some.inj hm93
                    exact Runs.region he71 [(3, .b false), (8, .b false), (12, .b true)] [(1, (.ptr 0 0)), (67, (.s (.bool (!(r3_0.name.toList == (⟨#[114, 101, 116, 117, 114, 110]⟩ : ByteArray).toList)))))] (h := [Rec.box [(.s (.int .i64 a0_op)), (.s (.int .i64 a0_a)), (.s (.int .i64 a0_b)), (.s (.int .u64 a0_v)), (.s (.int .i64 a0_t)), (.sl (a0_l.map intAV) .ro), (.sl (insAVs a0_body) .ro), (.sl (insAVs a0_els) .ro), (.s (.bool a0_has))], Rec.box [(.s (.int .i64 r3_0.byte)), (.s (.string r3_0.name)), (.s (.int .i64 r3_0.kind)), (.sl (r3_0.takes.map intAV) .ro), (.s (.int .i64 r3_0.gives)), (.s (.int .i64 r3_0.bytes)), (.s (.bool r3_0.signed))]]) (fun env => by kernel_rfl) (And.intro (Bool.eq_false_iff.2 hb94) (And.intro (Bool.eq_false_iff.2 hb95) (And.intro hb96 trivial))) (fun _ h => ⟨rfl, h, rfl⟩)
                  · rw [if_neg hb96] at hm93
                    obtain rfl := Option.some.inj hm93
                    exact Runs.region he71 [(3, .b false), (8, .b false), (12, .b false)] [(1, (.ptr 0 0)), (67, (.s (.bool false)))] (h := [Rec.box [(.s (.int .i64 a0_op)), (.s (.int .i64 a0_a)), (.s (.int .i64 a0_b)), (.s (.int .u64 a0_v)), (.s (.int .i64 a0_t)), (.sl (a0_l.map intAV) .ro), (.sl (insAVs a0_body) .ro), (.sl (insAVs a0_els) .ro), (.s (.bool a0_has))], Rec.box [(.s (.int .i64 r3_0.byte)), (.s (.string r3_0.name)), (.s (.int .i64 r3_0.kind)), (.sl (r3_0.takes.map intAV) .ro), (.s (.int .i64 r3_0.gives)), (.s (.int .i64 r3_0.bytes)), (.s (.bool r3_0.signed))]]) (fun env => by kernel_rfl) (And.intro (Bool.eq_false_iff.2 hb94) (And.intro (Bool.eq_false_iff.2 hb95) (And.intro (Bool.eq_false_iff.2 hb96) trivial))) (fun _ h => ⟨rfl, h, rfl⟩)
            rintro _ e98 h99 ⟨rfl, he97, hh100⟩
            rw [hh100]
            refine thenN ?_
            by_cases hb101 : v92 = true
            · rw [if_pos hb101] at h
              refine Runs.cond (he97.get (t := 67) (v := (.s (.bool v92))) (by kernel_rfl)) (fun _ => ?_) (fun h0 => absurd (hb101.symm.trans h0) (by decide))
              refine Runs.sq ?_
              refine Runs.sq ?_
              obtain ⟨r102, hr103, h⟩ := Option.bind_eq_some_iff.1 h
              refine Runs.region he97 [(2, .f (.s (.bool r102)) [Rec.box [(.s (.int .i64 a0_op)), (.s (.int .i64 a0_a)), (.s (.int .i64 a0_b)), (.s (.int .u64 a0_v)), (.s (.int .i64 a0_t)), (.sl (a0_l.map intAV) .ro), (.sl (insAVs a0_body) .ro), (.sl (insAVs a0_els) .ro), (.s (.bool a0_has))], Rec.box [(.s (.int .i64 r3_0.byte)), (.s (.string r3_0.name)), (.s (.int .i64 r3_0.kind)), (.sl (r3_0.takes.map intAV) .ro), (.s (.int .i64 r3_0.gives)), (.s (.int .i64 r3_0.bytes)), (.s (.bool r3_0.signed))]])] [(1, (.ptr 0 0)), (89, (.s (.bool (!r102))))] (h := [Rec.box [(.s (.int .i64 a0_op)), (.s (.int .i64 a0_a)), (.s (.int .i64 a0_b)), (.s (.int .u64 a0_v)), (.s (.int .i64 a0_t)), (.sl (a0_l.map intAV) .ro), (.sl (insAVs a0_body) .ro), (.sl (insAVs a0_els) .ro), (.s (.bool a0_has))], Rec.box [(.s (.int .i64 r3_0.byte)), (.s (.string r3_0.name)), (.s (.int .i64 r3_0.kind)), (.sl (r3_0.takes.map intAV) .ro), (.s (.int .i64 r3_0.gives)), (.s (.int .i64 r3_0.bytes)), (.s (.bool r3_0.signed))]]) (fun env => by kernel_rfl) (And.intro (hg30 a0_a  _ [Rec.box [(.s (.int .i64 a0_op)), (.s (.int .i64 a0_a)), (.s (.int .i64 a0_b)), (.s (.int .u64 a0_v)), (.s (.int .i64 a0_t)), (.sl (a0_l.map intAV) .ro), (.sl (insAVs a0_body) .ro), (.sl (insAVs a0_els) .ro), (.s (.bool a0_has))], Rec.box [(.s (.int .i64 r3_0.byte)), (.s (.string r3_0.name)), (.s (.int .i64 r3_0.kind)), (.sl (r3_0.takes.map intAV) .ro), (.s (.int .i64 r3_0.gives)), (.s (.int .i64 r3_0.bytes)), (.s (.bool r3_0.signed))]]  hr103) trivial) (fun e105 he104 => ?_)
              refine thenN ?_
              by_cases hb106 : (!r102) = true
              · rw [if_pos hb106] at h
                refine Runs.cond (he104.get (t := 89) (v := (.s (.bool (!r102)))) (by kernel_rfl)) (fun _ => ?_) (fun h0 => absurd (hb106.symm.trans h0) (by decide))
                refine Runs.sq ?_
                refine Runs.region he104 [] [(2, (.s (.bool false)))] (h := [Rec.box [(.s (.int .i64 a0_op)), (.s (.int .i64 a0_a)), (.s (.int .i64 a0_b)), (.s (.int .u64 a0_v)), (.s (.int .i64 a0_t)), (.sl (a0_l.map intAV) .ro), (.sl (insAVs a0_body) .ro), (.sl (insAVs a0_els) .ro), (.s (.bool a0_has))], Rec.box [(.s (.int .i64 r3_0.byte)), (.s (.string r3_0.name)), (.s (.int .i64 r3_0.kind)), (.sl (r3_0.takes.map intAV) .ro), (.s (.int .i64 r3_0.gives)), (.s (.int .i64 r3_0.bytes)), (.s (.bool r3_0.signed))]]) (fun env => by kernel_rfl) trivial (fun e108 he107 => ?_)
                refine thenN ?_
                refine Runs.ret ?_
                refine thenR ?_
                refine blockR ?_
                refine thenR ?_
                obtain rfl := Option.some.inj h
                exact RetOK17.endP ret_ne (RetOK17.of (resT (he107.get (t := 2) (v := (.s (.bool false))) (by kernel_rfl)) resN) (fin_of (fun _ _ _ _ _ h => by cases h) rfl))
              · rw [if_neg hb106] at h
                refine Runs.cond (he104.get (t := 89) (v := (.s (.bool (!r102)))) (by kernel_rfl)) (fun h0 => absurd h0 hb106) (fun _ => ?_)
                refine Runs.skip ?_
                refine thenN ?_
                refine Runs.region he104 [] [(1, (.ptr 0 0))] (h := [Rec.box [(.s (.int .i64 a0_op)), (.s (.int .i64 0)), (.s (.int .i64 a0_b)), (.s (.int .u64 a0_v)), (.s (.int .i64 a0_t)), (.sl (a0_l.map intAV) .ro), (.sl (insAVs a0_body) .ro), (.sl (insAVs a0_els) .ro), (.s (.bool a0_has))], Rec.box [(.s (.int .i64 r3_0.byte)), (.s (.string r3_0.name)), (.s (.int .i64 r3_0.kind)), (.sl (r3_0.takes.map intAV) .ro), (.s (.int .i64 r3_0.gives)), (.s (.int .i64 r3_0.bytes)), (.s (.bool r3_0.signed))]]) (fun env => by kernel_rfl) trivial (fun e110 he109 => ?_)
                refine blockN ?_
                refine thenN ?_
                refine Runs.sq ?_
                obtain ⟨r111, hr112, h⟩ := Option.bind_eq_some_iff.1 h
                refine Runs.region he109 [(1, .f (.s (.bool r111)) [Rec.box [(.s (.int .i64 a0_op)), (.s (.int .i64 0)), (.s (.int .i64 a0_b)), (.s (.int .u64 a0_v)), (.s (.int .i64 a0_t)), (.sl (a0_l.map intAV) .ro), (.sl (insAVs a0_body) .ro), (.sl (insAVs a0_els) .ro), (.s (.bool a0_has))], Rec.box [(.s (.int .i64 r3_0.byte)), (.s (.string r3_0.name)), (.s (.int .i64 r3_0.kind)), (.sl (r3_0.takes.map intAV) .ro), (.s (.int .i64 r3_0.gives)), (.s (.int .i64 r3_0.bytes)), (.s (.bool r3_0.signed))]])] [(2, (.s (.bool r111)))] (h := [Rec.box [(.s (.int .i64 a0_op)), (.s (.int .i64 0)), (.s (.int .i64 a0_b)), (.s (.int .u64 a0_v)), (.s (.int .i64 a0_t)), (.sl (a0_l.map intAV) .ro), (.sl (insAVs a0_body) .ro), (.sl (insAVs a0_els) .ro), (.s (.bool a0_has))], Rec.box [(.s (.int .i64 r3_0.byte)), (.s (.string r3_0.name)), (.s (.int .i64 r3_0.kind)), (.sl (r3_0.takes.map intAV) .ro), (.s (.int .i64 r3_0.gives)), (.s (.int .i64 r3_0.bytes)), (.s (.bool r3_0.signed))]]) (fun env => by kernel_rfl) (And.intro (hg33 (Ins.mk a0_op (0 : Int) a0_b a0_v a0_t a0_l a0_body a0_els a0_has)  _ [Rec.box [(.s (.int .i64 a0_op)), (.s (.int .i64 0)), (.s (.int .i64 a0_b)), (.s (.int .u64 a0_v)), (.s (.int .i64 a0_t)), (.sl (a0_l.map intAV) .ro), (.sl (insAVs a0_body) .ro), (.sl (insAVs a0_els) .ro), (.s (.bool a0_has))], Rec.box [(.s (.int .i64 r3_0.byte)), (.s (.string r3_0.name)), (.s (.int .i64 r3_0.kind)), (.sl (r3_0.takes.map intAV) .ro), (.s (.int .i64 r3_0.gives)), (.s (.int .i64 r3_0.bytes)), (.s (.bool r3_0.signed))]]  hr112) trivial) (fun e114 he113 => ?_)
                refine thenN ?_
                refine Runs.ret ?_
                obtain rfl := Option.some.inj h
                exact RetOK17.endP ret_ne (RetOK17.of (resT (he113.get (t := 2) (v := (.s (.bool r111))) (by kernel_rfl)) resN) (fin_of (fun _ _ _ _ _ h => by cases h) rfl))
            · rw [if_neg hb101] at h
              refine Runs.cond (he97.get (t := 67) (v := (.s (.bool v92))) (by kernel_rfl)) (fun h0 => absurd h0 hb101) (fun _ => ?_)
              refine Runs.skip ?_
              refine blockN ?_
              refine thenN ?_
              refine Runs.sq ?_
              obtain ⟨r115, hr116, h⟩ := Option.bind_eq_some_iff.1 h
              refine Runs.region he97 [(1, .f (.s (.bool r115)) [Rec.box [(.s (.int .i64 a0_op)), (.s (.int .i64 a0_a)), (.s (.int .i64 a0_b)), (.s (.int .u64 a0_v)), (.s (.int .i64 a0_t)), (.sl (a0_l.map intAV) .ro), (.sl (insAVs a0_body) .ro), (.sl (insAVs a0_els) .ro), (.s (.bool a0_has))], Rec.box [(.s (.int .i64 r3_0.byte)), (.s (.string r3_0.name)), (.s (.int .i64 r3_0.kind)), (.sl (r3_0.takes.map intAV) .ro), (.s (.int .i64 r3_0.gives)), (.s (.int .i64 r3_0.bytes)), (.s (.bool r3_0.signed))]])] [(2, (.s (.bool r115)))] (h := [Rec.box [(.s (.int .i64 a0_op)), (.s (.int .i64 a0_a)), (.s (.int .i64 a0_b)), (.s (.int .u64 a0_v)), (.s (.int .i64 a0_t)), (.sl (a0_l.map intAV) .ro), (.sl (insAVs a0_body) .ro), (.sl (insAVs a0_els) .ro), (.s (.bool a0_has))], Rec.box [(.s (.int .i64 r3_0.byte)), (.s (.string r3_0.name)), (.s (.int .i64 r3_0.kind)), (.sl (r3_0.takes.map intAV) .ro), (.s (.int .i64 r3_0.gives)), (.s (.int .i64 r3_0.bytes)), (.s (.bool r3_0.signed))]]) (fun env => by kernel_rfl) (And.intro (hg33 (Ins.mk a0_op a0_a a0_b a0_v a0_t a0_l a0_body a0_els a0_has)  _ [Rec.box [(.s (.int .i64 a0_op)), (.s (.int .i64 a0_a)), (.s (.int .i64 a0_b)), (.s (.int .u64 a0_v)), (.s (.int .i64 a0_t)), (.sl (a0_l.map intAV) .ro), (.sl (insAVs a0_body) .ro), (.sl (insAVs a0_els) .ro), (.s (.bool a0_has))], Rec.box [(.s (.int .i64 r3_0.byte)), (.s (.string r3_0.name)), (.s (.int .i64 r3_0.kind)), (.sl (r3_0.takes.map intAV) .ro), (.s (.int .i64 r3_0.gives)), (.s (.int .i64 r3_0.bytes)), (.s (.bool r3_0.signed))]]  hr116) trivial) (fun e118 he117 => ?_)
              refine thenN ?_
              refine Runs.ret ?_
              obtain rfl := Option.some.inj h
              exact RetOK17.endP ret_ne (RetOK17.of (resT (he117.get (t := 2) (v := (.s (.bool r115))) (by kernel_rfl)) resN) (fin_of (fun _ _ _ _ _ h => by cases h) rfl))
/-! grommet/tree.May$1 -/
def RetOK16 (r : Bool) (e : Env) (h : Heap) : Prop := ∃ vs, resA P e h [.tmp 2] = some vs ∧ finA h (oneOf vs) = some (.s (.bool r))
theorem RetOK16.of {r : Bool} {e : Env} {h : Heap} {vs : List AV} (h1 : resA P e h [.tmp 2] = some vs) (h2 : finA h (oneOf vs) = some (.s (.bool r))) : RetOK16 r e h := ⟨vs, h1, h2⟩
theorem RetOK16.endP {x : Ex} {r : Bool} {e : Env} {h : Heap} (hx : ∀ k, x ≠ .exit k) (hr : RetOK16 r e h) : EndP P F16 (.s (.bool r)) x e h := by
  obtain ⟨vs, h1, h2⟩ := hr
  exact endQ hx rfl h1 h2
def S16 (g17 : Ins → Option Bool) (n : Nat) (a0 : Ins) : Option (Bool) :=
 match a0 with
 | .mk a0_op a0_a a0_b a0_v a0_t a0_l a0_body a0_els a0_has =>
 (g17 (Ins.mk a0_op a0_a a0_b a0_v a0_t a0_l a0_body a0_els a0_has)).bind fun r3 =>
 some (!r3)
set_option maxHeartbeats 4000000 in
theorem S16_ok {m : Int} {n : Nat} (g17 : Ins → Option Bool) (hg17 : ∀ (a0 : Ins) (r : Bool) (H : Heap), g17 a0 = some r → evF P (T m) n 17 [(Ins.av a0)] H = some ((.s (.bool r)), H)) (a0 : Ins)  (r : Bool) (H : Heap) (h : S16 g17 n a0 = some r) : evF P (T m) (n + 1) 16 [(Ins.av a0)] H = some ((.s (.bool r)), H) := by
  refine call_pure' (fi := F16) (bs := [(Ins.av a0)]) (x16 m) (oh16 m) (o16 m) (c16 m) rfl rfl (shut_cons (Ins.shut 0 a0) rfl) ?_
  obtain ⟨a0_op, a0_a, a0_b, a0_v, a0_t, a0_l, a0_body, a0_els, a0_has⟩ := a0
  dsimp only [S16] at h
  have he : Sat [(0, (.agg [(.s (.int .i64 a0_op)), (.s (.int .i64 a0_a)), (.s (.int .i64 a0_b)), (.s (.int .u64 a0_v)), (.s (.int .i64 a0_t)), (.sl (a0_l.map intAV) .ro), (.sl (insAVs a0_body) .ro), (.sl (insAVs a0_els) .ro), (.s (.bool a0_has))]))] (argEnv [(.agg [(.s (.int .i64 a0_op)), (.s (.int .i64 a0_a)), (.s (.int .i64 a0_b)), (.s (.int .u64 a0_v)), (.s (.int .i64 a0_t)), (.sl (a0_l.map intAV) .ro), (.sl (insAVs a0_body) .ro), (.sl (insAVs a0_els) .ro), (.s (.bool a0_has))])]) := Sat.cons rfl (Sat.nil)
  refine (show Runs P (T m) (evF P (T m) n) n 16 F16 0 F16.body (argEnv [(.agg [(.s (.int .i64 a0_op)), (.s (.int .i64 a0_a)), (.s (.int .i64 a0_b)), (.s (.int .u64 a0_v)), (.s (.int .i64 a0_t)), (.sl (a0_l.map intAV) .ro), (.sl (insAVs a0_body) .ro), (.sl (insAVs a0_els) .ro), (.s (.bool a0_has))])]) [] _ from ?_)
  generalize argEnv [(.agg [(.s (.int .i64 a0_op)), (.s (.int .i64 a0_a)), (.s (.int .i64 a0_b)), (.s (.int .u64 a0_v)), (.s (.int .i64 a0_t)), (.sl (a0_l.map intAV) .ro), (.sl (insAVs a0_body) .ro), (.sl (insAVs a0_els) .ro), (.s (.bool a0_has))])] = e at he ⊢
  refine Runs.sq ?_
  refine Runs.region he [] [(1, (.ptr 0 0))] (h := [Rec.box [(.s (.int .i64 a0_op)), (.s (.int .i64 a0_a)), (.s (.int .i64 a0_b)), (.s (.int .u64 a0_v)), (.s (.int .i64 a0_t)), (.sl (a0_l.map intAV) .ro), (.sl (insAVs a0_body) .ro), (.sl (insAVs a0_els) .ro), (.s (.bool a0_has))]]) (fun env => by kernel_rfl) trivial (fun e2 he1 => ?_)
  refine thenN ?_
  refine Runs.sq ?_
  obtain ⟨r3, hr4, h⟩ := Option.bind_eq_some_iff.1 h
  refine Runs.region he1 [(1, .f (.s (.bool r3)) [Rec.box [(.s (.int .i64 a0_op)), (.s (.int .i64 a0_a)), (.s (.int .i64 a0_b)), (.s (.int .u64 a0_v)), (.s (.int .i64 a0_t)), (.sl (a0_l.map intAV) .ro), (.sl (insAVs a0_body) .ro), (.sl (insAVs a0_els) .ro), (.s (.bool a0_has))]])] [(2, (.s (.bool (!r3))))] (h := [Rec.box [(.s (.int .i64 a0_op)), (.s (.int .i64 a0_a)), (.s (.int .i64 a0_b)), (.s (.int .u64 a0_v)), (.s (.int .i64 a0_t)), (.sl (a0_l.map intAV) .ro), (.sl (insAVs a0_body) .ro), (.sl (insAVs a0_els) .ro), (.s (.bool a0_has))]]) (fun env => by kernel_rfl) (And.intro (hg17 (Ins.mk a0_op a0_a a0_b a0_v a0_t a0_l a0_body a0_els a0_has)  _ [Rec.box [(.s (.int .i64 a0_op)), (.s (.int .i64 a0_a)), (.s (.int .i64 a0_b)), (.s (.int .u64 a0_v)), (.s (.int .i64 a0_t)), (.sl (a0_l.map intAV) .ro), (.sl (insAVs a0_body) .ro), (.sl (insAVs a0_els) .ro), (.s (.bool a0_has))]]  hr4) trivial) (fun e6 he5 => ?_)
  refine thenN ?_
  refine Runs.ret ?_
  obtain rfl := Option.some.inj h
  exact RetOK16.endP ret_ne (RetOK16.of (resT (he5.get (t := 2) (v := (.s (.bool (!r3)))) (by kernel_rfl)) resN) (fin_of (fun _ _ _ _ _ h => by cases h) rfl))
/-! slices.IndexFunc[[]grommet/api.Ins,grommet/api.Ins] -/
theorem shut_clo28 {f : FuncId} {cs : List AV} (h : AV.shutL 0 cs = some cs) : AV.shut 0 (.clo f cs) = some (.clo f cs) := by simp only [AV.shut, h, Option.map_some]
def RetOK28 (r : Int) (e : Env) (h : Heap) : Prop := ∃ vs, resA P e h [.tmp 4] = some vs ∧ finA h (oneOf vs) = some (.s (.int .i64 r))
theorem RetOK28.of {r : Int} {e : Env} {h : Heap} {vs : List AV} (h1 : resA P e h [.tmp 4] = some vs) (h2 : finA h (oneOf vs) = some (.s (.int .i64 r))) : RetOK28 r e h := ⟨vs, h1, h2⟩
theorem RetOK28.endP {x : Ex} {r : Int} {e : Env} {h : Heap} (hx : ∀ k, x ≠ .exit k) (hr : RetOK28 r e h) : EndP P F28 (.s (.int .i64 r)) x e h := by
  obtain ⟨vs, h1, h2⟩ := hr
  exact endQ hx rfl h1 h2
def L28_0  (f1 : FuncId) (c1 : List AV) (p1 : Ins → Option Bool) (n : Nat) : Nat → (List Ins) → Int → Int → Option (LO Int Unit)
 | 0, _, _, _ => none
 | k + 1, s0, s7, s8 =>
  if (decide (s8 < s7)) then
   if (0 : Int) ≤ s8 then
    (s0[s8.toNat]?).bind fun x12 =>
    match x12 with
    | .mk x12_op x12_a x12_b x12_v x12_t x12_l x12_body x12_els x12_has =>
     (p1 (Ins.mk x12_op x12_a x12_b x12_v x12_t x12_l x12_body x12_els x12_has)).bind fun r13 =>
     if r13 then
      some (LO.ret s8)
     else
      L28_0  f1 c1 p1 n k s0 s7 (IntKind.i64.wrap (s8 + 1))
   else none
  else
   some (LO.out ())
set_option maxHeartbeats 4000000 in
theorem L28_0_ok {m : Int} {n : Nat}  (f1 : FuncId) (c1 : List AV) (hc1 : AV.shutL 0 c1 = some c1) (p1 : Ins → Option Bool) (hp1 : ∀ (a0 : Ins) (r : Bool) (H : Heap), p1 a0 = some r → evF P (T m) n f1 ([(Ins.av a0)] ++ c1) H = some ((.s (.bool r)), H)) : ∀ (k : Nat) (s0 : List Ins) (s7 : Int) (s8 : Int) (ps0_ : Prov) (e : Env) (he : Sat [(0, (.sl (insAVs s0) ps0_)), (1, (.clo f1 c1)), (7, (.s (.int .i64 s7))), (8, (.s (.int .i64 s8)))] e) (out : LO Int Unit) (h : L28_0  f1 c1 p1 n k s0 s7 s8 = some out), ∃ x e' h', rdsOf P (T m) (evF P (T m) n) n 28 0 k e [] = some (x, e', h') ∧ LOQ out (fun r => (fun x e h => x = .ret ∧ RetOK28 r e h) x e' h') (fun o => (fun x e h => x = .exit 0 ∧ Sat [] e ∧ h = []) x e' h') := by
  intro k
  induction k with
  | zero => intro _ _ _ _ _ _ _ h; cases h
  | succ k ih =>
    intro s0 s7 s8 ps0_ e he out h
    dsimp only [L28_0] at h
    refine rds_step (rd_of (fi := F28) (c28 m) rfl ?_)
    refine Runs.sq ?_
    refine Runs.region he [] [(0, (.sl (insAVs s0) ps0_)), (1, (.clo f1 c1)), (7, (.s (.int .i64 s7))), (8, (.s (.int .i64 s8))), (9, (.s (.bool (decide (s8 < s7)))))] (h := []) (fun env => by kernel_rfl) trivial (fun e6 he5 => ?_)
    refine thenN ?_
    refine Runs.sq ?_
    by_cases hb7 : (decide (s8 < s7)) = true
    · rw [if_pos hb7] at h
      refine Runs.cond (he5.get (t := 9) (v := (.s (.bool (decide (s8 < s7))))) (by kernel_rfl)) (fun _ => ?_) (fun h0 => absurd (hb7.symm.trans h0) (by decide))
      refine Runs.skip ?_
      refine thenN ?_
      refine Runs.sq ?_
      refine Runs.block ?_
      refine Runs.sq ?_
      refine Runs.region he5 [] [(0, (.sl (insAVs s0) ps0_)), (1, (.clo f1 c1)), (5, (.s (.int .i64 s8))), (7, (.s (.int .i64 s7))), (8, (.s (.int .i64 s8)))] (h := []) (fun env => by kernel_rfl) trivial (fun e9 he8 => ?_)
      refine thenN ?_
      refine Runs.sq ?_
      by_cases hg10 : (0 : Int) ≤ s8
      rotate_left
      · rw [if_neg hg10] at h; cases h
      rw [if_pos hg10] at h
      obtain ⟨x12, hx11, h⟩ := Option.bind_eq_some_iff.1 h
      obtain ⟨x12_op, x12_a, x12_b, x12_v, x12_t, x12_l, x12_body, x12_els, x12_has⟩ := x12
      dsimp only at h
      obtain ⟨r13, hr14, h⟩ := Option.bind_eq_some_iff.1 h
      refine Runs.region he8 [(3, .e s8.toNat (.agg [(.s (.int .i64 x12_op)), (.s (.int .i64 x12_a)), (.s (.int .i64 x12_b)), (.s (.int .u64 x12_v)), (.s (.int .i64 x12_t)), (.sl (x12_l.map intAV) .ro), (.sl (insAVs x12_body) .ro), (.sl (insAVs x12_els) .ro), (.s (.bool x12_has))])), (5, .f (.s (.bool r13)) [])] [(0, (.sl (insAVs s0) ps0_)), (1, (.clo f1 c1)), (5, (.s (.int .i64 s8))), (7, (.s (.int .i64 s7))), (8, (.s (.int .i64 s8))), (16, (.s (.bool r13)))] (h := []) (fun env => by kernel_rfl) (And.intro (And.intro (at_nat hg10) (insAVs_at hx11)) (And.intro (hp1 (Ins.mk x12_op x12_a x12_b x12_v x12_t x12_l x12_body x12_els x12_has) _ [] hr14) trivial)) (fun e16 he15 => ?_)
      refine thenN ?_
      by_cases hb17 : r13 = true
      · rw [if_pos hb17] at h
        refine Runs.cond (he15.get (t := 16) (v := (.s (.bool r13))) (by kernel_rfl)) (fun _ => ?_) (fun h0 => absurd (hb17.symm.trans h0) (by decide))
        refine Runs.sq ?_
        refine Runs.region he15 [] [(4, (.s (.int .i64 s8)))] (h := []) (fun env => by kernel_rfl) trivial (fun e19 he18 => ?_)
        refine thenN ?_
        refine Runs.ret ?_
        refine blockR ?_
        refine thenR ?_
        refine thenR ?_
        obtain rfl := Option.some.inj h
        exact LOQ.r ⟨rfl, RetOK28.of (resT (he18.get (t := 4) (v := (.s (.int .i64 s8))) (by kernel_rfl)) resN) (fin_of (fun _ _ _ _ _ h => by cases h) rfl)⟩
      · rw [if_neg hb17] at h
        refine Runs.cond (he15.get (t := 16) (v := (.s (.bool r13))) (by kernel_rfl)) (fun h0 => absurd h0 hb17) (fun _ => ?_)
        refine Runs.skip ?_
        refine blockN ?_
        refine thenN ?_
        refine Runs.region he15 [] [(0, (.sl (insAVs s0) ps0_)), (1, (.clo f1 c1)), (7, (.s (.int .i64 s7))), (8, (.s (.int .i64 (IntKind.i64.wrap (s8 + 1)))))] (h := []) (fun env => by kernel_rfl) trivial (fun e21 he20 => ?_)
        refine thenN ?_
        exact ih s0 s7 (IntKind.i64.wrap (s8 + 1)) ps0_ _ (he20.sub (by kernel_rfl)) _ h
    · rw [if_neg hb7] at h
      refine Runs.cond (he5.get (t := 9) (v := (.s (.bool (decide (s8 < s7))))) (by kernel_rfl)) (fun h0 => absurd h0 hb7) (fun _ => ?_)
      refine Runs.exit ?_
      refine thenX ?_
      refine thenX ?_
      obtain rfl := Option.some.inj h
      exact LOQ.o ⟨rfl, he5.sub (by kernel_rfl), rfl⟩
def S28  (f1 : FuncId) (c1 : List AV) (p1 : Ins → Option Bool) (n : Nat) (a0 : List Ins) : Option (Int) :=
 (L28_0  f1 c1 p1 n n a0 (a0.length : Int) (0 : Int)).bind fun lo22 => match lo22 with
 | .ret rx24 =>
  some rx24
 | .out o28 =>
  some ((-1) : Int)
set_option maxHeartbeats 4000000 in
theorem S28_ok {m : Int} {n : Nat}  (f1 : FuncId) (c1 : List AV) (hc1 : AV.shutL 0 c1 = some c1) (p1 : Ins → Option Bool) (hp1 : ∀ (a0 : Ins) (r : Bool) (H : Heap), p1 a0 = some r → evF P (T m) n f1 ([(Ins.av a0)] ++ c1) H = some ((.s (.bool r)), H)) (a0 : List Ins) (q0 : Prov) (r : Int) (H : Heap) (h : S28  f1 c1 p1 n a0 = some r) : evF P (T m) (n + 1) 28 [.sl (insAVs a0) q0, (.clo f1 c1)] H = some ((.s (.int .i64 r)), H) := by
  refine call_pure' (fi := F28) (bs := [(.sl (insAVs a0) .ro), (.clo f1 c1)]) (x28 m) (oh28 m) (o28 m) (c28 m) rfl rfl (shut_cons (shut_sl (Ins.shutL 0 a0)) (shut_cons (shut_clo28 hc1) rfl)) ?_
  dsimp only [S28] at h
  have he : Sat [(0, (.sl (insAVs a0) .ro)), (1, (.clo f1 c1))] (argEnv [(.sl (insAVs a0) .ro), (.clo f1 c1)]) := Sat.cons rfl (Sat.cons rfl (Sat.nil))
  refine (show Runs P (T m) (evF P (T m) n) n 28 F28 0 F28.body (argEnv [(.sl (insAVs a0) .ro), (.clo f1 c1)]) [] _ from ?_)
  generalize argEnv [(.sl (insAVs a0) .ro), (.clo f1 c1)] = e at he ⊢
  refine Runs.sq ?_
  refine Runs.region he [] [(0, (.sl (insAVs a0) .ro)), (1, (.clo f1 c1))] (h := []) (fun env => by kernel_rfl) trivial (fun e2 he1 => ?_)
  refine thenN ?_
  refine Runs.sq ?_
  refine Runs.sq ?_
  refine Runs.region he1 [(1, .i (a0.length : Int))] [(0, (.sl (insAVs a0) .ro)), (1, (.clo f1 c1)), (7, (.s (.int .i64 (a0.length : Int)))), (8, (.s (.int .i64 0)))] (h := []) (fun env => by kernel_rfl) (And.intro (len_ins (l := a0)) trivial) (fun e4 he3 => ?_)
  refine thenN ?_
  refine Runs.block ?_
  obtain ⟨lo22, hl23, h⟩ := Option.bind_eq_some_iff.1 h
  obtain ⟨x24, e25, he25, hd27, hq26⟩ := L28_0_ok  f1 c1 hc1 p1 hp1 n a0 (a0.length : Int) (0 : Int) .ro _ (he3.sub (by kernel_rfl)) lo22 hl23
  refine Runs.loop ⟨x24, e25, he25, by rw [lpOf_eq]; exact hd27, ?_⟩
  cases lo22 with
  | ret rx24 =>
    dsimp only at h
    obtain ⟨rfl, hq26⟩ := hq26
    refine blockR ?_
    refine thenR ?_
    obtain rfl := Option.some.inj h
    exact RetOK28.endP ret_ne hq26
  | out o28 =>
    dsimp only at h
    obtain ⟨rfl, he29, hh30⟩ := hq26
    rw [hh30]
    refine blockE ?_
    refine thenN ?_
    refine Runs.sq ?_
    refine Runs.region he29 [] [(4, (.s (.int .i64 (-1))))] (h := []) (fun env => by kernel_rfl) trivial (fun e35 he34 => ?_)
    refine thenN ?_
    refine Runs.ret ?_
    obtain rfl := Option.some.inj h
    exact RetOK28.endP ret_ne (RetOK28.of (resT (he34.get (t := 4) (v := (.s (.int .i64 (-1)))) (by kernel_rfl)) resN) (fin_of (fun _ _ _ _ _ h => by cases h) rfl))
/-! slices.ContainsFunc[[]grommet/api.Ins,grommet/api.Ins] -/
theorem shut_clo15 {f : FuncId} {cs : List AV} (h : AV.shutL 0 cs = some cs) : AV.shut 0 (.clo f cs) = some (.clo f cs) := by simp only [AV.shut, h, Option.map_some]
def RetOK15 (r : Bool) (e : Env) (h : Heap) : Prop := ∃ vs, resA P e h [.tmp 4] = some vs ∧ finA h (oneOf vs) = some (.s (.bool r))
theorem RetOK15.of {r : Bool} {e : Env} {h : Heap} {vs : List AV} (h1 : resA P e h [.tmp 4] = some vs) (h2 : finA h (oneOf vs) = some (.s (.bool r))) : RetOK15 r e h := ⟨vs, h1, h2⟩
theorem RetOK15.endP {x : Ex} {r : Bool} {e : Env} {h : Heap} (hx : ∀ k, x ≠ .exit k) (hr : RetOK15 r e h) : EndP P F15 (.s (.bool r)) x e h := by
  obtain ⟨vs, h1, h2⟩ := hr
  exact endQ hx rfl h1 h2
def S15 (g28 : (List Ins) → AV → Option Int) (f1 : FuncId) (c1 : List AV) (p1 : Ins → Option Bool) (n : Nat) (a0 : List Ins) : Option (Bool) :=
 (g28 a0 (.clo f1 c1)).bind fun r3 =>
 some (decide (0 ≤ r3))
set_option maxHeartbeats 4000000 in
theorem S15_ok {m : Int} {n : Nat} (g28 : (List Ins) → AV → Option Int) (hg28 : ∀ (a0 : List Ins) (a1 : AV) (q0 : Prov) (r : Int) (H : Heap), AV.shut 0 a1 = some a1 → g28 a0 a1 = some r → evF P (T m) n 28 [.sl (insAVs a0) q0, a1] H = some ((.s (.int .i64 r)), H)) (f1 : FuncId) (c1 : List AV) (hc1 : AV.shutL 0 c1 = some c1) (p1 : Ins → Option Bool) (hp1 : ∀ (a0 : Ins) (r : Bool) (H : Heap), p1 a0 = some r → evF P (T m) n f1 ([(Ins.av a0)] ++ c1) H = some ((.s (.bool r)), H)) (a0 : List Ins) (q0 : Prov) (r : Bool) (H : Heap) (h : S15 g28 f1 c1 p1 n a0 = some r) : evF P (T m) (n + 1) 15 [.sl (insAVs a0) q0, (.clo f1 c1)] H = some ((.s (.bool r)), H) := by
  refine call_pure' (fi := F15) (bs := [(.sl (insAVs a0) .ro), (.clo f1 c1)]) (x15 m) (oh15 m) (o15 m) (c15 m) rfl rfl (shut_cons (shut_sl (Ins.shutL 0 a0)) (shut_cons (shut_clo15 hc1) rfl)) ?_
  dsimp only [S15] at h
  have he : Sat [(0, (.sl (insAVs a0) .ro)), (1, (.clo f1 c1))] (argEnv [(.sl (insAVs a0) .ro), (.clo f1 c1)]) := Sat.cons rfl (Sat.cons rfl (Sat.nil))
  refine (show Runs P (T m) (evF P (T m) n) n 15 F15 0 F15.body (argEnv [(.sl (insAVs a0) .ro), (.clo f1 c1)]) [] _ from ?_)
  generalize argEnv [(.sl (insAVs a0) .ro), (.clo f1 c1)] = e at he ⊢
  refine Runs.sq ?_
  refine Runs.region he [] [(0, (.sl (insAVs a0) .ro)), (1, (.clo f1 c1))] (h := []) (fun env => by kernel_rfl) trivial (fun e2 he1 => ?_)
  refine thenN ?_
  refine Runs.sq ?_
  obtain ⟨r3, hr4, h⟩ := Option.bind_eq_some_iff.1 h
  refine Runs.region he1 [(2, .f (.s (.int .i64 r3)) [])] [(4, (.s (.bool (decide (0 ≤ r3)))))] (h := []) (fun env => by kernel_rfl) (And.intro (hg28 a0 (.clo f1 c1) .ro _ [] (shut_clo15 hc1) hr4) trivial) (fun e6 he5 => ?_)
  refine thenN ?_
  refine Runs.ret ?_
  obtain rfl := Option.some.inj h
  exact RetOK15.endP ret_ne (RetOK15.of (resT (he5.get (t := 4) (v := (.s (.bool (decide (0 ≤ r3))))) (by kernel_rfl)) resN) (fin_of (fun _ _ _ _ _ h => by cases h) rfl))
/-! slices.IndexFunc[[]int,int] -/
theorem shut_clo48 {f : FuncId} {cs : List AV} (h : AV.shutL 0 cs = some cs) : AV.shut 0 (.clo f cs) = some (.clo f cs) := by simp only [AV.shut, h, Option.map_some]
def RetOK48 (r : Int) (e : Env) (h : Heap) : Prop := ∃ vs, resA P e h [.tmp 4] = some vs ∧ finA h (oneOf vs) = some (.s (.int .i64 r))
theorem RetOK48.of {r : Int} {e : Env} {h : Heap} {vs : List AV} (h1 : resA P e h [.tmp 4] = some vs) (h2 : finA h (oneOf vs) = some (.s (.int .i64 r))) : RetOK48 r e h := ⟨vs, h1, h2⟩
theorem RetOK48.endP {x : Ex} {r : Int} {e : Env} {h : Heap} (hx : ∀ k, x ≠ .exit k) (hr : RetOK48 r e h) : EndP P F48 (.s (.int .i64 r)) x e h := by
  obtain ⟨vs, h1, h2⟩ := hr
  exact endQ hx rfl h1 h2
def L48_0  (f1 : FuncId) (c1 : List AV) (p1 : Int → Option Bool) (n : Nat) : Nat → (List Int) → Int → Int → Option (LO Int Unit)
 | 0, _, _, _ => none
 | k + 1, s0, s7, s8 =>
  if (decide (s8 < s7)) then
   if (0 : Int) ≤ s8 then
    (s0[s8.toNat]?).bind fun x12 =>
    (p1 x12).bind fun r13 =>
    if r13 then
     some (LO.ret s8)
    else
     L48_0  f1 c1 p1 n k s0 s7 (IntKind.i64.wrap (s8 + 1))
   else none
  else
   some (LO.out ())
set_option maxHeartbeats 4000000 in
theorem L48_0_ok {m : Int} {n : Nat}  (f1 : FuncId) (c1 : List AV) (hc1 : AV.shutL 0 c1 = some c1) (p1 : Int → Option Bool) (hp1 : ∀ (a0 : Int) (r : Bool) (H : Heap), p1 a0 = some r → evF P (T m) n f1 ([(.s (.int .i64 a0))] ++ c1) H = some ((.s (.bool r)), H)) : ∀ (k : Nat) (s0 : List Int) (s7 : Int) (s8 : Int) (ps0_ : Prov) (e : Env) (he : Sat [(0, (.sl (s0.map intAV) ps0_)), (1, (.clo f1 c1)), (7, (.s (.int .i64 s7))), (8, (.s (.int .i64 s8)))] e) (out : LO Int Unit) (h : L48_0  f1 c1 p1 n k s0 s7 s8 = some out), ∃ x e' h', rdsOf P (T m) (evF P (T m) n) n 48 0 k e [] = some (x, e', h') ∧ LOQ out (fun r => (fun x e h => x = .ret ∧ RetOK48 r e h) x e' h') (fun o => (fun x e h => x = .exit 0 ∧ Sat [] e ∧ h = []) x e' h') := by
  intro k
  induction k with
  | zero => intro _ _ _ _ _ _ _ h; cases h
  | succ k ih =>
    intro s0 s7 s8 ps0_ e he out h
    dsimp only [L48_0] at h
    refine rds_step (rd_of (fi := F48) (c48 m) rfl ?_)
    refine Runs.sq ?_
    refine Runs.region he [] [(0, (.sl (s0.map intAV) ps0_)), (1, (.clo f1 c1)), (7, (.s (.int .i64 s7))), (8, (.s (.int .i64 s8))), (9, (.s (.bool (decide (s8 < s7)))))] (h := []) (fun env => by kernel_rfl) trivial (fun e6 he5 => ?_)
    refine thenN ?_
    refine Runs.sq ?_
    by_cases hb7 : (decide (s8 < s7)) = true
    · rw [if_pos hb7] at h
      refine Runs.cond (he5.get (t := 9) (v := (.s (.bool (decide (s8 < s7))))) (by kernel_rfl)) (fun _ => ?_) (fun h0 => absurd (hb7.symm.trans h0) (by decide))
      refine Runs.skip ?_
      refine thenN ?_
      refine Runs.sq ?_
      refine Runs.block ?_
      refine Runs.sq ?_
      refine Runs.region he5 [] [(0, (.sl (s0.map intAV) ps0_)), (1, (.clo f1 c1)), (5, (.s (.int .i64 s8))), (7, (.s (.int .i64 s7))), (8, (.s (.int .i64 s8)))] (h := []) (fun env => by kernel_rfl) trivial (fun e9 he8 => ?_)
      refine thenN ?_
      refine Runs.sq ?_
      by_cases hg10 : (0 : Int) ≤ s8
      rotate_left
      · rw [if_neg hg10] at h; cases h
      rw [if_pos hg10] at h
      obtain ⟨x12, hx11, h⟩ := Option.bind_eq_some_iff.1 h
      obtain ⟨r13, hr14, h⟩ := Option.bind_eq_some_iff.1 h
      refine Runs.region he8 [(3, .e s8.toNat (.s (.int .i64 x12))), (5, .f (.s (.bool r13)) [])] [(0, (.sl (s0.map intAV) ps0_)), (1, (.clo f1 c1)), (5, (.s (.int .i64 s8))), (7, (.s (.int .i64 s7))), (8, (.s (.int .i64 s8))), (16, (.s (.bool r13)))] (h := []) (fun env => by kernel_rfl) (And.intro (And.intro (at_nat hg10) (get_map (f := intAV) hx11)) (And.intro (hp1 x12 _ [] hr14) trivial)) (fun e16 he15 => ?_)
      refine thenN ?_
      by_cases hb17 : r13 = true
      · rw [if_pos hb17] at h
        refine Runs.cond (he15.get (t := 16) (v := (.s (.bool r13))) (by kernel_rfl)) (fun _ => ?_) (fun h0 => absurd (hb17.symm.trans h0) (by decide))
        refine Runs.sq ?_
        refine Runs.region he15 [] [(4, (.s (.int .i64 s8)))] (h := []) (fun env => by kernel_rfl) trivial (fun e19 he18 => ?_)
        refine thenN ?_
        refine Runs.ret ?_
        refine blockR ?_
        refine thenR ?_
        refine thenR ?_
        obtain rfl := Option.some.inj h
        exact LOQ.r ⟨rfl, RetOK48.of (resT (he18.get (t := 4) (v := (.s (.int .i64 s8))) (by kernel_rfl)) resN) (fin_of (fun _ _ _ _ _ h => by cases h) rfl)⟩
      · rw [if_neg hb17] at h
        refine Runs.cond (he15.get (t := 16) (v := (.s (.bool r13))) (by kernel_rfl)) (fun h0 => absurd h0 hb17) (fun _ => ?_)
        refine Runs.skip ?_
        refine blockN ?_
        refine thenN ?_
        refine Runs.region he15 [] [(0, (.sl (s0.map intAV) ps0_)), (1, (.clo f1 c1)), (7, (.s (.int .i64 s7))), (8, (.s (.int .i64 (IntKind.i64.wrap (s8 + 1)))))] (h := []) (fun env => by kernel_rfl) trivial (fun e21 he20 => ?_)
        refine thenN ?_
        exact ih s0 s7 (IntKind.i64.wrap (s8 + 1)) ps0_ _ (he20.sub (by kernel_rfl)) _ h
    · rw [if_neg hb7] at h
      refine Runs.cond (he5.get (t := 9) (v := (.s (.bool (decide (s8 < s7))))) (by kernel_rfl)) (fun h0 => absurd h0 hb7) (fun _ => ?_)
      refine Runs.exit ?_
      refine thenX ?_
      refine thenX ?_
      obtain rfl := Option.some.inj h
      exact LOQ.o ⟨rfl, he5.sub (by kernel_rfl), rfl⟩
def S48  (f1 : FuncId) (c1 : List AV) (p1 : Int → Option Bool) (n : Nat) (a0 : List Int) : Option (Int) :=
 (L48_0  f1 c1 p1 n n a0 (a0.length : Int) (0 : Int)).bind fun lo22 => match lo22 with
 | .ret rx24 =>
  some rx24
 | .out o28 =>
  some ((-1) : Int)
set_option maxHeartbeats 4000000 in
theorem S48_ok {m : Int} {n : Nat}  (f1 : FuncId) (c1 : List AV) (hc1 : AV.shutL 0 c1 = some c1) (p1 : Int → Option Bool) (hp1 : ∀ (a0 : Int) (r : Bool) (H : Heap), p1 a0 = some r → evF P (T m) n f1 ([(.s (.int .i64 a0))] ++ c1) H = some ((.s (.bool r)), H)) (a0 : List Int) (q0 : Prov) (r : Int) (H : Heap) (h : S48  f1 c1 p1 n a0 = some r) : evF P (T m) (n + 1) 48 [.sl (a0.map intAV) q0, (.clo f1 c1)] H = some ((.s (.int .i64 r)), H) := by
  refine call_pure' (fi := F48) (bs := [(.sl (a0.map intAV) .ro), (.clo f1 c1)]) (x48 m) (oh48 m) (o48 m) (c48 m) rfl rfl (shut_cons (shut_sl (shutL_map (fun _ => rfl) a0)) (shut_cons (shut_clo48 hc1) rfl)) ?_
  dsimp only [S48] at h
  have he : Sat [(0, (.sl (a0.map intAV) .ro)), (1, (.clo f1 c1))] (argEnv [(.sl (a0.map intAV) .ro), (.clo f1 c1)]) := Sat.cons rfl (Sat.cons rfl (Sat.nil))
  refine (show Runs P (T m) (evF P (T m) n) n 48 F48 0 F48.body (argEnv [(.sl (a0.map intAV) .ro), (.clo f1 c1)]) [] _ from ?_)
  generalize argEnv [(.sl (a0.map intAV) .ro), (.clo f1 c1)] = e at he ⊢
  refine Runs.sq ?_
  refine Runs.region he [] [(0, (.sl (a0.map intAV) .ro)), (1, (.clo f1 c1))] (h := []) (fun env => by kernel_rfl) trivial (fun e2 he1 => ?_)
  refine thenN ?_
  refine Runs.sq ?_
  refine Runs.sq ?_
  refine Runs.region he1 [(1, .i (a0.length : Int))] [(0, (.sl (a0.map intAV) .ro)), (1, (.clo f1 c1)), (7, (.s (.int .i64 (a0.length : Int)))), (8, (.s (.int .i64 0)))] (h := []) (fun env => by kernel_rfl) (And.intro (len_map (l := a0) (f := intAV)) trivial) (fun e4 he3 => ?_)
  refine thenN ?_
  refine Runs.block ?_
  obtain ⟨lo22, hl23, h⟩ := Option.bind_eq_some_iff.1 h
  obtain ⟨x24, e25, he25, hd27, hq26⟩ := L48_0_ok  f1 c1 hc1 p1 hp1 n a0 (a0.length : Int) (0 : Int) .ro _ (he3.sub (by kernel_rfl)) lo22 hl23
  refine Runs.loop ⟨x24, e25, he25, by rw [lpOf_eq]; exact hd27, ?_⟩
  cases lo22 with
  | ret rx24 =>
    dsimp only at h
    obtain ⟨rfl, hq26⟩ := hq26
    refine blockR ?_
    refine thenR ?_
    obtain rfl := Option.some.inj h
    exact RetOK48.endP ret_ne hq26
  | out o28 =>
    dsimp only at h
    obtain ⟨rfl, he29, hh30⟩ := hq26
    rw [hh30]
    refine blockE ?_
    refine thenN ?_
    refine Runs.sq ?_
    refine Runs.region he29 [] [(4, (.s (.int .i64 (-1))))] (h := []) (fun env => by kernel_rfl) trivial (fun e35 he34 => ?_)
    refine thenN ?_
    refine Runs.ret ?_
    obtain rfl := Option.some.inj h
    exact RetOK48.endP ret_ne (RetOK48.of (resT (he34.get (t := 4) (v := (.s (.int .i64 (-1)))) (by kernel_rfl)) resN) (fin_of (fun _ _ _ _ _ h => by cases h) rfl))
/-! slices.ContainsFunc[[]int,int] -/
theorem shut_clo31 {f : FuncId} {cs : List AV} (h : AV.shutL 0 cs = some cs) : AV.shut 0 (.clo f cs) = some (.clo f cs) := by simp only [AV.shut, h, Option.map_some]
def RetOK31 (r : Bool) (e : Env) (h : Heap) : Prop := ∃ vs, resA P e h [.tmp 4] = some vs ∧ finA h (oneOf vs) = some (.s (.bool r))
theorem RetOK31.of {r : Bool} {e : Env} {h : Heap} {vs : List AV} (h1 : resA P e h [.tmp 4] = some vs) (h2 : finA h (oneOf vs) = some (.s (.bool r))) : RetOK31 r e h := ⟨vs, h1, h2⟩
theorem RetOK31.endP {x : Ex} {r : Bool} {e : Env} {h : Heap} (hx : ∀ k, x ≠ .exit k) (hr : RetOK31 r e h) : EndP P F31 (.s (.bool r)) x e h := by
  obtain ⟨vs, h1, h2⟩ := hr
  exact endQ hx rfl h1 h2
def S31 (g48 : (List Int) → AV → Option Int) (f1 : FuncId) (c1 : List AV) (p1 : Int → Option Bool) (n : Nat) (a0 : List Int) : Option (Bool) :=
 (g48 a0 (.clo f1 c1)).bind fun r3 =>
 some (decide (0 ≤ r3))
set_option maxHeartbeats 4000000 in
theorem S31_ok {m : Int} {n : Nat} (g48 : (List Int) → AV → Option Int) (hg48 : ∀ (a0 : List Int) (a1 : AV) (q0 : Prov) (r : Int) (H : Heap), AV.shut 0 a1 = some a1 → g48 a0 a1 = some r → evF P (T m) n 48 [.sl (a0.map intAV) q0, a1] H = some ((.s (.int .i64 r)), H)) (f1 : FuncId) (c1 : List AV) (hc1 : AV.shutL 0 c1 = some c1) (p1 : Int → Option Bool) (hp1 : ∀ (a0 : Int) (r : Bool) (H : Heap), p1 a0 = some r → evF P (T m) n f1 ([(.s (.int .i64 a0))] ++ c1) H = some ((.s (.bool r)), H)) (a0 : List Int) (q0 : Prov) (r : Bool) (H : Heap) (h : S31 g48 f1 c1 p1 n a0 = some r) : evF P (T m) (n + 1) 31 [.sl (a0.map intAV) q0, (.clo f1 c1)] H = some ((.s (.bool r)), H) := by
  refine call_pure' (fi := F31) (bs := [(.sl (a0.map intAV) .ro), (.clo f1 c1)]) (x31 m) (oh31 m) (o31 m) (c31 m) rfl rfl (shut_cons (shut_sl (shutL_map (fun _ => rfl) a0)) (shut_cons (shut_clo31 hc1) rfl)) ?_
  dsimp only [S31] at h
  have he : Sat [(0, (.sl (a0.map intAV) .ro)), (1, (.clo f1 c1))] (argEnv [(.sl (a0.map intAV) .ro), (.clo f1 c1)]) := Sat.cons rfl (Sat.cons rfl (Sat.nil))
  refine (show Runs P (T m) (evF P (T m) n) n 31 F31 0 F31.body (argEnv [(.sl (a0.map intAV) .ro), (.clo f1 c1)]) [] _ from ?_)
  generalize argEnv [(.sl (a0.map intAV) .ro), (.clo f1 c1)] = e at he ⊢
  refine Runs.sq ?_
  refine Runs.region he [] [(0, (.sl (a0.map intAV) .ro)), (1, (.clo f1 c1))] (h := []) (fun env => by kernel_rfl) trivial (fun e2 he1 => ?_)
  refine thenN ?_
  refine Runs.sq ?_
  obtain ⟨r3, hr4, h⟩ := Option.bind_eq_some_iff.1 h
  refine Runs.region he1 [(2, .f (.s (.int .i64 r3)) [])] [(4, (.s (.bool (decide (0 ≤ r3)))))] (h := []) (fun env => by kernel_rfl) (And.intro (hg48 a0 (.clo f1 c1) .ro _ [] (shut_clo31 hc1) hr4) trivial) (fun e6 he5 => ?_)
  refine thenN ?_
  refine Runs.ret ?_
  obtain rfl := Option.some.inj h
  exact RetOK31.endP ret_ne (RetOK31.of (resT (he5.get (t := 4) (v := (.s (.bool (decide (0 ≤ r3))))) (by kernel_rfl)) resN) (fin_of (fun _ _ _ _ _ h => by cases h) rfl))
/-! grommet/tree.May -/
def RetOK9 (r : Bool) (e : Env) (h : Heap) : Prop := ∃ vs, resA P e h [.tmp 2] = some vs ∧ finA h (oneOf vs) = some (.s (.bool r))
theorem RetOK9.of {r : Bool} {e : Env} {h : Heap} {vs : List AV} (h1 : resA P e h [.tmp 2] = some vs) (h2 : finA h (oneOf vs) = some (.s (.bool r))) : RetOK9 r e h := ⟨vs, h1, h2⟩
theorem RetOK9.endP {x : Ex} {r : Bool} {e : Env} {h : Heap} (hx : ∀ k, x ≠ .exit k) (hr : RetOK9 r e h) : EndP P F9 (.s (.bool r)) x e h := by
  obtain ⟨vs, h1, h2⟩ := hr
  exact endQ hx rfl h1 h2
def S9 (g15 : (List Ins) → AV → Option Bool) (n : Nat) (a0 : List Ins) : Option (Bool) :=
 (g15 a0 (.clo 16 [])).bind fun r3 =>
 some (!r3)
set_option maxHeartbeats 4000000 in
theorem S9_ok {m : Int} {n : Nat} (g15 : (List Ins) → AV → Option Bool) (hg15 : ∀ (a0 : List Ins) (a1 : AV) (q0 : Prov) (r : Bool) (H : Heap), AV.shut 0 a1 = some a1 → g15 a0 a1 = some r → evF P (T m) n 15 [.sl (insAVs a0) q0, a1] H = some ((.s (.bool r)), H)) (a0 : List Ins) (q0 : Prov) (r : Bool) (H : Heap) (h : S9 g15 n a0 = some r) : evF P (T m) (n + 1) 9 [.sl (insAVs a0) q0] H = some ((.s (.bool r)), H) := by
  refine call_pure' (fi := F9) (bs := [(.sl (insAVs a0) .ro)]) (x9 m) (oh9 m) (o9 m) (c9 m) rfl rfl (shut_cons (shut_sl (Ins.shutL 0 a0)) rfl) ?_
  dsimp only [S9] at h
  have he : Sat [(0, (.sl (insAVs a0) .ro))] (argEnv [(.sl (insAVs a0) .ro)]) := Sat.cons rfl (Sat.nil)
  refine (show Runs P (T m) (evF P (T m) n) n 9 F9 0 F9.body (argEnv [(.sl (insAVs a0) .ro)]) [] _ from ?_)
  generalize argEnv [(.sl (insAVs a0) .ro)] = e at he ⊢
  refine Runs.sq ?_
  refine Runs.region he [] [(0, (.sl (insAVs a0) .ro))] (h := []) (fun env => by kernel_rfl) trivial (fun e2 he1 => ?_)
  refine thenN ?_
  refine Runs.sq ?_
  obtain ⟨r3, hr4, h⟩ := Option.bind_eq_some_iff.1 h
  refine Runs.region he1 [(1, .f (.s (.bool r3)) [])] [(2, (.s (.bool (!r3))))] (h := []) (fun env => by kernel_rfl) (And.intro (hg15 a0 (.clo 16 []) .ro _ [] rfl hr4) trivial) (fun e6 he5 => ?_)
  refine thenN ?_
  refine Runs.ret ?_
  obtain rfl := Option.some.inj h
  exact RetOK9.endP ret_ne (RetOK9.of (resT (he5.get (t := 2) (v := (.s (.bool (!r3)))) (by kernel_rfl)) resN) (fin_of (fun _ _ _ _ _ h => by cases h) rfl))
/-! grommet/grommetref05.Count -/
def RetOK5 (r : Int × Int) (e : Env) (h : Heap) : Prop := ∃ vs, resA P e h [.tmp 2, .tmp 3] = some vs ∧ finA h (oneOf vs) = some (.tup [(.s (.int .i64 r.1)), (.s (.int .i64 r.2))])
theorem RetOK5.of {r : Int × Int} {e : Env} {h : Heap} {vs : List AV} (h1 : resA P e h [.tmp 2, .tmp 3] = some vs) (h2 : finA h (oneOf vs) = some (.tup [(.s (.int .i64 r.1)), (.s (.int .i64 r.2))])) : RetOK5 r e h := ⟨vs, h1, h2⟩
theorem RetOK5.endP {x : Ex} {r : Int × Int} {e : Env} {h : Heap} (hx : ∀ k, x ≠ .exit k) (hr : RetOK5 r e h) : EndP P F5 (.tup [(.s (.int .i64 r.1)), (.s (.int .i64 r.2))]) x e h := by
  obtain ⟨vs, h1, h2⟩ := hr
  exact endQ hx rfl h1 h2
def L5_0 (g5 : (List Ins) → Option (Int × Int)) (n : Nat) : Nat → (List Ins) → Int → Int → Int → Option (LO (Int × Int) (Int × Int))
 | 0, _, _, _, _ => none
 | k + 1, s0, s4, s5, s6 =>
  if (decide (s6 < (s0.length : Int))) then
   if (0 : Int) ≤ s6 then
    (s0[s6.toNat]?).bind fun x14 =>
    match x14 with
    | .mk x14_op x14_a x14_b x14_v x14_t x14_l x14_body x14_els x14_has =>
     (g5 x14_body).bind fun r15 =>
     match r15 with
     | (r15_0, r15_1) =>
      (g5 x14_els).bind fun r19 =>
      match r19 with
      | (r19_0, r19_1) =>
       (show Option (Bool) from
        if (decide (2 ≤ x14_op)) then
         some (decide (x14_op ≤ 4))
        else
         some false).bind fun v25 =>
       if v25 then
        if (decide (s5 < (IntKind.i64.wrap (r15_1 + 1)))) then
         if (decide ((IntKind.i64.wrap (r15_1 + 1)) < (IntKind.i64.wrap (r19_1 + 1)))) then
          L5_0 g5 n k s0 (IntKind.i64.wrap ((IntKind.i64.wrap ((IntKind.i64.wrap (s4 + 1)) + r15_0)) + r19_0)) (IntKind.i64.wrap (r19_1 + 1)) (IntKind.i64.wrap (s6 + 1))
         else
          L5_0 g5 n k s0 (IntKind.i64.wrap ((IntKind.i64.wrap ((IntKind.i64.wrap (s4 + 1)) + r15_0)) + r19_0)) (IntKind.i64.wrap (r15_1 + 1)) (IntKind.i64.wrap (s6 + 1))
        else
         if (decide (s5 < (IntKind.i64.wrap (r19_1 + 1)))) then
          L5_0 g5 n k s0 (IntKind.i64.wrap ((IntKind.i64.wrap ((IntKind.i64.wrap (s4 + 1)) + r15_0)) + r19_0)) (IntKind.i64.wrap (r19_1 + 1)) (IntKind.i64.wrap (s6 + 1))
         else
          L5_0 g5 n k s0 (IntKind.i64.wrap ((IntKind.i64.wrap ((IntKind.i64.wrap (s4 + 1)) + r15_0)) + r19_0)) s5 (IntKind.i64.wrap (s6 + 1))
       else
        L5_0 g5 n k s0 (IntKind.i64.wrap ((IntKind.i64.wrap ((IntKind.i64.wrap (s4 + 1)) + r15_0)) + r19_0)) s5 (IntKind.i64.wrap (s6 + 1))
   else none
  else
   some (LO.out (s4, s5))
set_option maxHeartbeats 4000000 in
theorem L5_0_ok {m : Int} {n : Nat} (g5 : (List Ins) → Option (Int × Int)) (hg5 : ∀ (a0 : List Ins) (q0 : Prov) (r : Int × Int) (H : Heap), g5 a0 = some r → evF P (T m) n 5 [.sl (insAVs a0) q0] H = some ((.tup [(.s (.int .i64 r.1)), (.s (.int .i64 r.2))]), H)) : ∀ (k : Nat) (s0 : List Ins) (s4 : Int) (s5 : Int) (s6 : Int) (ps0_ : Prov) (e : Env) (he : Sat [(0, (.sl (insAVs s0) ps0_)), (4, (.s (.int .i64 s4))), (5, (.s (.int .i64 s5))), (6, (.s (.int .i64 s6)))] e) (out : LO (Int × Int) (Int × Int)) (h : L5_0 g5 n k s0 s4 s5 s6 = some out), ∃ x e' h', rdsOf P (T m) (evF P (T m) n) n 5 0 k e [] = some (x, e', h') ∧ LOQ out (fun r => (fun x e h => x = .ret ∧ RetOK5 r e h) x e' h') (fun o => (fun x e h => x = .exit 0 ∧ Sat [(4, (.s (.int .i64 o.1))), (5, (.s (.int .i64 o.2)))] e ∧ h = []) x e' h') := by
  intro k
  induction k with
  | zero => intro _ _ _ _ _ _ _ _ h; cases h
  | succ k ih =>
    intro s0 s4 s5 s6 ps0_ e he out h
    dsimp only [L5_0] at h
    refine rds_step (rd_of (fi := F5) (c5 m) rfl ?_)
    refine Runs.sq ?_
    refine Runs.sq ?_
    refine Runs.region he [(2, .i (s0.length : Int))] [(0, (.sl (insAVs s0) ps0_)), (4, (.s (.int .i64 s4))), (5, (.s (.int .i64 s5))), (6, (.s (.int .i64 s6))), (14, (.s (.bool (decide (s6 < (s0.length : Int))))))] (h := []) (fun env => by kernel_rfl) (And.intro (len_ins (l := s0)) trivial) (fun e10 he9 => ?_)
    refine thenN ?_
    by_cases hb11 : (decide (s6 < (s0.length : Int))) = true
    · rw [if_pos hb11] at h
      refine Runs.cond (he9.get (t := 14) (v := (.s (.bool (decide (s6 < (s0.length : Int)))))) (by kernel_rfl)) (fun _ => ?_) (fun h0 => absurd (hb11.symm.trans h0) (by decide))
      refine Runs.skip ?_
      refine thenN ?_
      refine Runs.sq ?_
      refine Runs.block ?_
      refine Runs.sq ?_
      by_cases hg12 : (0 : Int) ≤ s6
      rotate_left
      · rw [if_neg hg12] at h; cases h
      rw [if_pos hg12] at h
      obtain ⟨x14, hx13, h⟩ := Option.bind_eq_some_iff.1 h
      obtain ⟨x14_op, x14_a, x14_b, x14_v, x14_t, x14_l, x14_body, x14_els, x14_has⟩ := x14
      dsimp only at h
      obtain ⟨r15, hr16, h⟩ := Option.bind_eq_some_iff.1 h
      obtain ⟨r15_0, r15_1⟩ := r15
      dsimp only at h
      refine Runs.region he9 [(2, .e s6.toNat (.agg [(.s (.int .i64 x14_op)), (.s (.int .i64 x14_a)), (.s (.int .i64 x14_b)), (.s (.int .u64 x14_v)), (.s (.int .i64 x14_t)), (.sl (x14_l.map intAV) .ro), (.sl (insAVs x14_body) .ro), (.sl (insAVs x14_els) .ro), (.s (.bool x14_has))])), (5, .f (.tup [(.s (.int .i64 r15_0)), (.s (.int .i64 r15_1))]) [])] [(0, (.sl (insAVs s0) ps0_)), (4, (.s (.int .i64 s4))), (5, (.s (.int .i64 s5))), (6, (.s (.int .i64 s6))), (7, (.s (.int .i64 r15_0))), (8, (.s (.int .i64 r15_1)))] (h := []) (fun env => by kernel_rfl) (And.intro (And.intro (at_nat hg12) (insAVs_at hx13)) (And.intro (hg5 x14_body .ro _ []  hr16) trivial)) (fun e18 he17 => ?_)
      refine thenN ?_
      refine Runs.sq ?_
      obtain ⟨r19, hr20, h⟩ := Option.bind_eq_some_iff.1 h
      obtain ⟨r19_0, r19_1⟩ := r19
      dsimp only at h
      refine Runs.region he17 [(2, .e s6.toNat (.agg [(.s (.int .i64 x14_op)), (.s (.int .i64 x14_a)), (.s (.int .i64 x14_b)), (.s (.int .u64 x14_v)), (.s (.int .i64 x14_t)), (.sl (x14_l.map intAV) .ro), (.sl (insAVs x14_body) .ro), (.sl (insAVs x14_els) .ro), (.s (.bool x14_has))])), (5, .f (.tup [(.s (.int .i64 r19_0)), (.s (.int .i64 r19_1))]) [])] [(0, (.sl (insAVs s0) ps0_)), (4, (.s (.int .i64 s4))), (5, (.s (.int .i64 s5))), (6, (.s (.int .i64 s6))), (7, (.s (.int .i64 r15_0))), (8, (.s (.int .i64 r15_1))), (9, (.s (.int .i64 r19_0))), (10, (.s (.int .i64 r19_1)))] (h := []) (fun env => by kernel_rfl) (And.intro (And.intro (at_nat hg12) (insAVs_at hx13)) (And.intro (hg5 x14_els .ro _ []  hr20) trivial)) (fun e22 he21 => ?_)
      refine thenN ?_
      refine Runs.sq ?_
      refine Runs.region he21 [] [(0, (.sl (insAVs s0) ps0_)), (4, (.s (.int .i64 (IntKind.i64.wrap ((IntKind.i64.wrap ((IntKind.i64.wrap (s4 + 1)) + r15_0)) + r19_0))))), (5, (.s (.int .i64 s5))), (6, (.s (.int .i64 s6))), (8, (.s (.int .i64 r15_1))), (10, (.s (.int .i64 r19_1)))] (h := []) (fun env => by kernel_rfl) trivial (fun e24 he23 => ?_)
      refine thenN ?_
      refine Runs.sq ?_
      obtain ⟨v25, hm26, h⟩ := Option.bind_eq_some_iff.1 h
      refine Runs.mono (Q := fun x e h => x = .normal ∧ Sat [(0, (.sl (insAVs s0) ps0_)), (4, (.s (.int .i64 (IntKind.i64.wrap ((IntKind.i64.wrap ((IntKind.i64.wrap (s4 + 1)) + r15_0)) + r19_0))))), (5, (.s (.int .i64 s5))), (6, (.s (.int .i64 s6))), (8, (.s (.int .i64 r15_1))), (10, (.s (.int .i64 r19_1))), (54, (.s (.bool v25)))] e ∧ h = []) ?_ ?_
      · by_cases hb27 : (decide (2 ≤ x14_op)) = true
        · rw [if_pos hb27] at hm26
          obtain rfl := Option.some.inj hm26
          exact Runs.region he23 [(2, .e s6.toNat (.agg [(.s (.int .i64 x14_op)), (.s (.int .i64 x14_a)), (.s (.int .i64 x14_b)), (.s (.int .u64 x14_v)), (.s (.int .i64 x14_t)), (.sl (x14_l.map intAV) .ro), (.sl (insAVs x14_body) .ro), (.sl (insAVs x14_els) .ro), (.s (.bool x14_has))])), (6, .b true), (9, .e s6.toNat (.agg [(.s (.int .i64 x14_op)), (.s (.int .i64 x14_a)), (.s (.int .i64 x14_b)), (.s (.int .u64 x14_v)), (.s (.int .i64 x14_t)), (.sl (x14_l.map intAV) .ro), (.sl (insAVs x14_body) .ro), (.sl (insAVs x14_els) .ro), (.s (.bool x14_has))]))] [(0, (.sl (insAVs s0) ps0_)), (4, (.s (.int .i64 (IntKind.i64.wrap ((IntKind.i64.wrap ((IntKind.i64.wrap (s4 + 1)) + r15_0)) + r19_0))))), (5, (.s (.int .i64 s5))), (6, (.s (.int .i64 s6))), (8, (.s (.int .i64 r15_1))), (10, (.s (.int .i64 r19_1))), (54, (.s (.bool (decide (x14_op ≤ 4)))))] (h := []) (fun env => by kernel_rfl) (And.intro (And.intro (at_nat hg12) (insAVs_at hx13)) (And.intro hb27 (And.intro (And.intro (at_nat hg12) (insAVs_at hx13)) trivial))) (fun _ h => ⟨rfl, h, rfl⟩)
        · rw [if_neg hb27] at hm26
          obtain rfl := Option.some.inj hm26
          exact Runs.region he23 [(2, .e s6.toNat (.agg [(.s (.int .i64 x14_op)), (.s (.int .i64 x14_a)), (.s (.int .i64 x14_b)), (.s (.int .u64 x14_v)), (.s (.int .i64 x14_t)), (.sl (x14_l.map intAV) .ro), (.sl (insAVs x14_body) .ro), (.sl (insAVs x14_els) .ro), (.s (.bool x14_has))])), (6, .b false)] [(0, (.sl (insAVs s0) ps0_)), (4, (.s (.int .i64 (IntKind.i64.wrap ((IntKind.i64.wrap ((IntKind.i64.wrap (s4 + 1)) + r15_0)) + r19_0))))), (5, (.s (.int .i64 s5))), (6, (.s (.int .i64 s6))), (8, (.s (.int .i64 r15_1))), (10, (.s (.int .i64 r19_1))), (54, (.s (.bool false)))] (h := []) (fun env => by kernel_rfl) (And.intro (And.intro (at_nat hg12) (insAVs_at hx13)) (And.intro (Bool.eq_false_iff.2 hb27) trivial)) (fun _ h => ⟨rfl, h, rfl⟩)
      rintro _ e29 h30 ⟨rfl, he28, hh31⟩
      rw [hh31]
      refine thenN ?_
      by_cases hb32 : v25 = true
      · rw [if_pos hb32] at h
        refine Runs.cond (he28.get (t := 54) (v := (.s (.bool v25))) (by kernel_rfl)) (fun _ => ?_) (fun h0 => absurd (hb32.symm.trans h0) (by decide))
        refine Runs.sq ?_
        refine Runs.sq ?_
        refine Runs.region he28 [] [(0, (.sl (insAVs s0) ps0_)), (4, (.s (.int .i64 (IntKind.i64.wrap ((IntKind.i64.wrap ((IntKind.i64.wrap (s4 + 1)) + r15_0)) + r19_0))))), (5, (.s (.int .i64 s5))), (6, (.s (.int .i64 s6))), (8, (.s (.int .i64 r15_1))), (10, (.s (.int .i64 r19_1))), (58, (.s (.bool (decide (s5 < (IntKind.i64.wrap (r15_1 + 1)))))))] (h := []) (fun env => by kernel_rfl) trivial (fun e34 he33 => ?_)
        refine thenN ?_
        by_cases hb35 : (decide (s5 < (IntKind.i64.wrap (r15_1 + 1)))) = true
        · rw [if_pos hb35] at h
          refine Runs.cond (he33.get (t := 58) (v := (.s (.bool (decide (s5 < (IntKind.i64.wrap (r15_1 + 1))))))) (by kernel_rfl)) (fun _ => ?_) (fun h0 => absurd (hb35.symm.trans h0) (by decide))
          refine Runs.region he33 [] [(0, (.sl (insAVs s0) ps0_)), (4, (.s (.int .i64 (IntKind.i64.wrap ((IntKind.i64.wrap ((IntKind.i64.wrap (s4 + 1)) + r15_0)) + r19_0))))), (5, (.s (.int .i64 (IntKind.i64.wrap (r15_1 + 1))))), (6, (.s (.int .i64 s6))), (10, (.s (.int .i64 r19_1)))] (h := []) (fun env => by kernel_rfl) trivial (fun e37 he36 => ?_)
          refine thenN ?_
          refine Runs.sq ?_
          refine Runs.region he36 [] [(0, (.sl (insAVs s0) ps0_)), (4, (.s (.int .i64 (IntKind.i64.wrap ((IntKind.i64.wrap ((IntKind.i64.wrap (s4 + 1)) + r15_0)) + r19_0))))), (5, (.s (.int .i64 (IntKind.i64.wrap (r15_1 + 1))))), (6, (.s (.int .i64 s6))), (10, (.s (.int .i64 r19_1))), (64, (.s (.bool (decide ((IntKind.i64.wrap (r15_1 + 1)) < (IntKind.i64.wrap (r19_1 + 1)))))))] (h := []) (fun env => by kernel_rfl) trivial (fun e39 he38 => ?_)
          refine thenN ?_
          by_cases hb40 : (decide ((IntKind.i64.wrap (r15_1 + 1)) < (IntKind.i64.wrap (r19_1 + 1)))) = true
          · rw [if_pos hb40] at h
            refine Runs.cond (he38.get (t := 64) (v := (.s (.bool (decide ((IntKind.i64.wrap (r15_1 + 1)) < (IntKind.i64.wrap (r19_1 + 1))))))) (by kernel_rfl)) (fun _ => ?_) (fun h0 => absurd (hb40.symm.trans h0) (by decide))
            refine Runs.region he38 [] [(0, (.sl (insAVs s0) ps0_)), (4, (.s (.int .i64 (IntKind.i64.wrap ((IntKind.i64.wrap ((IntKind.i64.wrap (s4 + 1)) + r15_0)) + r19_0))))), (5, (.s (.int .i64 (IntKind.i64.wrap (r19_1 + 1))))), (6, (.s (.int .i64 s6)))] (h := []) (fun env => by kernel_rfl) trivial (fun e42 he41 => ?_)
            refine blockN ?_
            refine thenN ?_
            refine Runs.region he41 [] [(0, (.sl (insAVs s0) ps0_)), (4, (.s (.int .i64 (IntKind.i64.wrap ((IntKind.i64.wrap ((IntKind.i64.wrap (s4 + 1)) + r15_0)) + r19_0))))), (5, (.s (.int .i64 (IntKind.i64.wrap (r19_1 + 1))))), (6, (.s (.int .i64 (IntKind.i64.wrap (s6 + 1)))))] (h := []) (fun env => by kernel_rfl) trivial (fun e44 he43 => ?_)
            refine thenN ?_
            exact ih s0 (IntKind.i64.wrap ((IntKind.i64.wrap ((IntKind.i64.wrap (s4 + 1)) + r15_0)) + r19_0)) (IntKind.i64.wrap (r19_1 + 1)) (IntKind.i64.wrap (s6 + 1)) ps0_ _ (he43.sub (by kernel_rfl)) _ h
          · rw [if_neg hb40] at h
            refine Runs.cond (he38.get (t := 64) (v := (.s (.bool (decide ((IntKind.i64.wrap (r15_1 + 1)) < (IntKind.i64.wrap (r19_1 + 1))))))) (by kernel_rfl)) (fun h0 => absurd h0 hb40) (fun _ => ?_)
            refine Runs.skip ?_
            refine blockN ?_
            refine thenN ?_
            refine Runs.region he38 [] [(0, (.sl (insAVs s0) ps0_)), (4, (.s (.int .i64 (IntKind.i64.wrap ((IntKind.i64.wrap ((IntKind.i64.wrap (s4 + 1)) + r15_0)) + r19_0))))), (5, (.s (.int .i64 (IntKind.i64.wrap (r15_1 + 1))))), (6, (.s (.int .i64 (IntKind.i64.wrap (s6 + 1)))))] (h := []) (fun env => by kernel_rfl) trivial (fun e46 he45 => ?_)
            refine thenN ?_
            exact ih s0 (IntKind.i64.wrap ((IntKind.i64.wrap ((IntKind.i64.wrap (s4 + 1)) + r15_0)) + r19_0)) (IntKind.i64.wrap (r15_1 + 1)) (IntKind.i64.wrap (s6 + 1)) ps0_ _ (he45.sub (by kernel_rfl)) _ h
        · rw [if_neg hb35] at h
          refine Runs.cond (he33.get (t := 58) (v := (.s (.bool (decide (s5 < (IntKind.i64.wrap (r15_1 + 1))))))) (by kernel_rfl)) (fun h0 => absurd h0 hb35) (fun _ => ?_)
          refine Runs.skip ?_
          refine thenN ?_
          refine Runs.sq ?_
          refine Runs.region he33 [] [(0, (.sl (insAVs s0) ps0_)), (4, (.s (.int .i64 (IntKind.i64.wrap ((IntKind.i64.wrap ((IntKind.i64.wrap (s4 + 1)) + r15_0)) + r19_0))))), (5, (.s (.int .i64 s5))), (6, (.s (.int .i64 s6))), (10, (.s (.int .i64 r19_1))), (64, (.s (.bool (decide (s5 < (IntKind.i64.wrap (r19_1 + 1)))))))] (h := []) (fun env => by kernel_rfl) trivial (fun e48 he47 => ?_)
          refine thenN ?_
          by_cases hb49 : (decide (s5 < (IntKind.i64.wrap (r19_1 + 1)))) = true
          · rw [if_pos hb49] at h
            refine Runs.cond (he47.get (t := 64) (v := (.s (.bool (decide (s5 < (IntKind.i64.wrap (r19_1 + 1))))))) (by kernel_rfl)) (fun _ => ?_) (fun h0 => absurd (hb49.symm.trans h0) (by decide))
            refine Runs.region he47 [] [(0, (.sl (insAVs s0) ps0_)), (4, (.s (.int .i64 (IntKind.i64.wrap ((IntKind.i64.wrap ((IntKind.i64.wrap (s4 + 1)) + r15_0)) + r19_0))))), (5, (.s (.int .i64 (IntKind.i64.wrap (r19_1 + 1))))), (6, (.s (.int .i64 s6)))] (h := []) (fun env => by kernel_rfl) trivial (fun e51 he50 => ?_)
            refine blockN ?_
            refine thenN ?_
            refine Runs.region he50 [] [(0, (.sl (insAVs s0) ps0_)), (4, (.s (.int .i64 (IntKind.i64.wrap ((IntKind.i64.wrap ((IntKind.i64.wrap (s4 + 1)) + r15_0)) + r19_0))))), (5, (.s (.int .i64 (IntKind.i64.wrap (r19_1 + 1))))), (6, (.s (.int .i64 (IntKind.i64.wrap (s6 + 1)))))] (h := []) (fun env => by kernel_rfl) trivial (fun e53 he52 => ?_)
            refine thenN ?_
            exact ih s0 (IntKind.i64.wrap ((IntKind.i64.wrap ((IntKind.i64.wrap (s4 + 1)) + r15_0)) + r19_0)) (IntKind.i64.wrap (r19_1 + 1)) (IntKind.i64.wrap (s6 + 1)) ps0_ _ (he52.sub (by kernel_rfl)) _ h
          · rw [if_neg hb49] at h
            refine Runs.cond (he47.get (t := 64) (v := (.s (.bool (decide (s5 < (IntKind.i64.wrap (r19_1 + 1))))))) (by kernel_rfl)) (fun h0 => absurd h0 hb49) (fun _ => ?_)
            refine Runs.skip ?_
            refine blockN ?_
            refine thenN ?_
            refine Runs.region he47 [] [(0, (.sl (insAVs s0) ps0_)), (4, (.s (.int .i64 (IntKind.i64.wrap ((IntKind.i64.wrap ((IntKind.i64.wrap (s4 + 1)) + r15_0)) + r19_0))))), (5, (.s (.int .i64 s5))), (6, (.s (.int .i64 (IntKind.i64.wrap (s6 + 1)))))] (h := []) (fun env => by kernel_rfl) trivial (fun e55 he54 => ?_)
            refine thenN ?_
            exact ih s0 (IntKind.i64.wrap ((IntKind.i64.wrap ((IntKind.i64.wrap (s4 + 1)) + r15_0)) + r19_0)) s5 (IntKind.i64.wrap (s6 + 1)) ps0_ _ (he54.sub (by kernel_rfl)) _ h
      · rw [if_neg hb32] at h
        refine Runs.cond (he28.get (t := 54) (v := (.s (.bool v25))) (by kernel_rfl)) (fun h0 => absurd h0 hb32) (fun _ => ?_)
        refine Runs.skip ?_
        refine blockN ?_
        refine thenN ?_
        refine Runs.region he28 [] [(0, (.sl (insAVs s0) ps0_)), (4, (.s (.int .i64 (IntKind.i64.wrap ((IntKind.i64.wrap ((IntKind.i64.wrap (s4 + 1)) + r15_0)) + r19_0))))), (5, (.s (.int .i64 s5))), (6, (.s (.int .i64 (IntKind.i64.wrap (s6 + 1)))))] (h := []) (fun env => by kernel_rfl) trivial (fun e57 he56 => ?_)
        refine thenN ?_
        exact ih s0 (IntKind.i64.wrap ((IntKind.i64.wrap ((IntKind.i64.wrap (s4 + 1)) + r15_0)) + r19_0)) s5 (IntKind.i64.wrap (s6 + 1)) ps0_ _ (he56.sub (by kernel_rfl)) _ h
    · rw [if_neg hb11] at h
      refine Runs.cond (he9.get (t := 14) (v := (.s (.bool (decide (s6 < (s0.length : Int)))))) (by kernel_rfl)) (fun h0 => absurd h0 hb11) (fun _ => ?_)
      refine Runs.exit ?_
      refine thenX ?_
      refine thenX ?_
      obtain rfl := Option.some.inj h
      exact LOQ.o ⟨rfl, he9.sub (by kernel_rfl), rfl⟩
def S5 (g5 : (List Ins) → Option (Int × Int)) (n : Nat) (a0 : List Ins) : Option (Int × Int) :=
 (L5_0 g5 n n a0 (0 : Int) (0 : Int) (0 : Int)).bind fun lo58 => match lo58 with
 | .ret _ => none
 | .out o64 =>
  some (o64.1, o64.2)
set_option maxHeartbeats 4000000 in
theorem S5_ok {m : Int} {n : Nat} (g5 : (List Ins) → Option (Int × Int)) (hg5 : ∀ (a0 : List Ins) (q0 : Prov) (r : Int × Int) (H : Heap), g5 a0 = some r → evF P (T m) n 5 [.sl (insAVs a0) q0] H = some ((.tup [(.s (.int .i64 r.1)), (.s (.int .i64 r.2))]), H)) (a0 : List Ins) (q0 : Prov) (r : Int × Int) (H : Heap) (h : S5 g5 n a0 = some r) : evF P (T m) (n + 1) 5 [.sl (insAVs a0) q0] H = some ((.tup [(.s (.int .i64 r.1)), (.s (.int .i64 r.2))]), H) := by
  refine call_pure' (fi := F5) (bs := [(.sl (insAVs a0) .ro)]) (x5 m) (oh5 m) (o5 m) (c5 m) rfl rfl (shut_cons (shut_sl (Ins.shutL 0 a0)) rfl) ?_
  dsimp only [S5] at h
  have he : Sat [(0, (.sl (insAVs a0) .ro))] (argEnv [(.sl (insAVs a0) .ro)]) := Sat.cons rfl (Sat.nil)
  refine (show Runs P (T m) (evF P (T m) n) n 5 F5 0 F5.body (argEnv [(.sl (insAVs a0) .ro)]) [] _ from ?_)
  generalize argEnv [(.sl (insAVs a0) .ro)] = e at he ⊢
  refine Runs.sq ?_
  refine Runs.region he [] [(0, (.sl (insAVs a0) .ro))] (h := []) (fun env => by kernel_rfl) trivial (fun e2 he1 => ?_)
  refine thenN ?_
  refine Runs.sq ?_
  refine Runs.region he1 [] [(0, (.sl (insAVs a0) .ro)), (4, (.s (.int .i64 0)))] (h := []) (fun env => by kernel_rfl) trivial (fun e4 he3 => ?_)
  refine thenN ?_
  refine Runs.sq ?_
  refine Runs.region he3 [] [(0, (.sl (insAVs a0) .ro)), (4, (.s (.int .i64 0))), (5, (.s (.int .i64 0)))] (h := []) (fun env => by kernel_rfl) trivial (fun e6 he5 => ?_)
  refine thenN ?_
  refine Runs.sq ?_
  refine Runs.sq ?_
  refine Runs.region he5 [] [(0, (.sl (insAVs a0) .ro)), (4, (.s (.int .i64 0))), (5, (.s (.int .i64 0))), (6, (.s (.int .i64 0)))] (h := []) (fun env => by kernel_rfl) trivial (fun e8 he7 => ?_)
  refine thenN ?_
  refine Runs.block ?_
  obtain ⟨lo58, hl59, h⟩ := Option.bind_eq_some_iff.1 h
  obtain ⟨x60, e61, he61, hd63, hq62⟩ := L5_0_ok g5 hg5 n a0 (0 : Int) (0 : Int) (0 : Int) .ro _ (he7.sub (by kernel_rfl)) lo58 hl59
  refine Runs.loop ⟨x60, e61, he61, by rw [lpOf_eq]; exact hd63, ?_⟩
  cases lo58 with
  | ret rx60 =>
    dsimp only at h
    cases h
  | out o64 =>
    dsimp only at h
    obtain ⟨rfl, he65, hh66⟩ := hq62
    rw [hh66]
    refine blockE ?_
    refine thenN ?_
    refine Runs.sq ?_
    refine Runs.region he65 [] [(2, (.s (.int .i64 o64.1))), (3, (.s (.int .i64 o64.2)))] (h := []) (fun env => by kernel_rfl) trivial (fun e71 he70 => ?_)
    refine thenN ?_
    refine Runs.ret ?_
    obtain rfl := Option.some.inj h
    exact RetOK5.endP ret_ne (RetOK5.of (resT (he70.get (t := 2) (v := (.s (.int .i64 o64.1))) (by kernel_rfl)) (resT (he70.get (t := 3) (v := (.s (.int .i64 o64.2))) (by kernel_rfl)) resN)) (fin_of (fun _ _ _ _ _ h => by cases h) (shut_tup (shut_cons rfl (shut_cons rfl rfl)))))
end Go.Proofs.YtggoggdcnahkaaaDoor
