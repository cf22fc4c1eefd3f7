/- Functions of the program, printed: each with what it answers, and the proof of it. -/
import Derived.Test.YtggoggdcnahkaaaDoorTab
set_option linter.unusedVariables false
set_option linter.unusedSimpArgs false
set_option maxRecDepth 100000
namespace Go.Proofs.YtggoggdcnahkaaaDoor
open Go Go.RowKit Go.Proofs
/-! grommet/grommetlaw06.ExprParts -/
def RetOK3 (r : Bool) (e : Env) (h : Heap) : Prop := ∃ vs, resA P e h [.tmp 4] = some vs ∧ finA h (oneOf vs) = some (.s (.bool r))
theorem RetOK3.of {r : Bool} {e : Env} {h : Heap} {vs : List AV} (h1 : resA P e h [.tmp 4] = some vs) (h2 : finA h (oneOf vs) = some (.s (.bool r))) : RetOK3 r e h := ⟨vs, h1, h2⟩
theorem RetOK3.endP {x : Ex} {r : Bool} {e : Env} {h : Heap} (hx : ∀ k, x ≠ .exit k) (hr : RetOK3 r e h) : EndP P F3 (.s (.bool r)) x e h := by
  obtain ⟨vs, h1, h2⟩ := hr
  exact endQ hx rfl h1 h2
def S3 (g6 : (List Ins) → Option ((List Int) × Err)) (g4 : Option Bool) (g5 : (List Ins) → Option (Int × Int)) (n : Nat) (a0 : List Ins) (a1 : List Ins) : Option (Bool) :=
 (g4 ).bind fun r3 =>
 (g5 a0).bind fun r7 =>
 match r7 with
 | (r7_0, r7_1) =>
  (g5 a1).bind fun r11 =>
  match r11 with
  | (r11_0, r11_1) =>
   (show Option (Bool) from
    if (decide (1000 < r7_0)) then
     some true
    else
     some (decide (1000 < r11_0))).bind fun v15 =>
   if v15 then
    some r3
   else
    (g6 a0).bind fun r25 =>
    match r25 with
    | (r25_0, r25_1) =>
     (g6 a1).bind fun r29 =>
     match r29 with
     | (r29_0, r29_1) =>
      if (0 + a0.length) * 120 ≤ roomA then
       if (a0.length + a1.length) * 120 ≤ roomA then
        (g6 (a0 ++ a1)).bind fun r43 =>
        match r43 with
        | (r43_0, r43_1) =>
         (show Option (Bool) from
          match r25_1 with
          | .nil =>
           match r29_1 with
           | .nil =>
            some false
           | .code c50 =>
            some true
          | .code c49 =>
           some true).bind fun v47 =>
         if v47 then
          (show Option (Bool) from
           if r3 then
            match r43_1 with
            | .nil =>
             some false
            | .code c58 =>
             some true
           else
            some false).bind fun v56 =>
          some v56
         else
          (show Option (Bool) from
           if r3 then
            match r43_1 with
            | .nil =>
             if (decide (0 < (r25_0.length : Int))) then
              if (0 : Int) ≤ 0 ∧ 0 ≤ (IntKind.i64.wrap ((r25_0.length : Int) - 1)) ∧ (IntKind.i64.wrap ((r25_0.length : Int) - 1)) ≤ (r25_0.length : Int) then
               if (bytesOf ((r25_0.take (IntKind.i64.wrap ((r25_0.length : Int) - 1)).toNat).drop (0 : Int).toNat)).size + (bytesOf r29_0).size ≤ 4611686018427387904 then
                some (((bytesOf ((r25_0.take (IntKind.i64.wrap ((r25_0.length : Int) - 1)).toNat).drop (0 : Int).toNat)) ++ (bytesOf r29_0)).toList == ((bytesOf r43_0) : ByteArray).toList)
               else none
              else none
             else
              some false
            | .code c65 =>
             some false
           else
            some false).bind fun v63 =>
          some v63
       else none
      else none
set_option maxHeartbeats 4000000 in
theorem S3_ok {m : Int} {n : Nat} (g6 : (List Ins) → Option ((List Int) × Err)) (hg6 : ∀ (a0 : List Ins) (q0 : Prov) (r : (List Int) × Err) (H : Heap), g6 a0 = some r → evF P (T m) n 6 [.sl (insAVs a0) q0] H = some ((.tup [(.sl (r.1.map (kAV .u8)) .ro), (Err.av r.2)]), H)) (g4 : Option Bool) (hg4 : ∀  (r : Bool) (H : Heap), g4  = some r → evF P (T m) n 4 [] H = some ((.s (.bool r)), H)) (g5 : (List Ins) → Option (Int × Int)) (hg5 : ∀ (a0 : List Ins) (q0 : Prov) (r : Int × Int) (H : Heap), g5 a0 = some r → evF P (T m) n 5 [.sl (insAVs a0) q0] H = some ((.tup [(.s (.int .i64 r.1)), (.s (.int .i64 r.2))]), H)) (a0 : List Ins) (a1 : List Ins) (q0 q1 : Prov) (r : Bool) (H : Heap) (h : S3 g6 g4 g5 n a0 a1 = some r) : evF P (T m) (n + 1) 3 [.sl (insAVs a0) q0, .sl (insAVs a1) q1] H = some ((.s (.bool r)), H) := by
  refine call_pure' (fi := F3) (bs := [(.sl (insAVs a0) .ro), (.sl (insAVs a1) .ro)]) (x3 m) (oh3 m) (o3 m) (c3 m) rfl rfl (shut_cons (shut_sl (Ins.shutL 0 a0)) (shut_cons (shut_sl (Ins.shutL 0 a1)) rfl)) ?_
  dsimp only [S3] at h
  have he : Sat [(0, (.sl (insAVs a0) .ro)), (1, (.sl (insAVs a1) .ro))] (argEnv [(.sl (insAVs a0) .ro), (.sl (insAVs a1) .ro)]) := Sat.cons rfl (Sat.cons rfl (Sat.nil))
  refine (show Runs P (T m) (evF P (T m) n) n 3 F3 0 F3.body (argEnv [(.sl (insAVs a0) .ro), (.sl (insAVs a1) .ro)]) [] _ from ?_)
  generalize argEnv [(.sl (insAVs a0) .ro), (.sl (insAVs a1) .ro)] = e at he ⊢
  refine Runs.sq ?_
  refine Runs.region he [] [(0, (.sl (insAVs a0) .ro)), (1, (.sl (insAVs a1) .ro))] (h := []) (fun env => by kernel_rfl) trivial (fun e2 he1 => ?_)
  refine thenN ?_
  refine Runs.sq ?_
  obtain ⟨r3, hr4, h⟩ := Option.bind_eq_some_iff.1 h
  refine Runs.region he1 [(0, .f (.s (.bool r3)) [])] [(0, (.sl (insAVs a0) .ro)), (1, (.sl (insAVs a1) .ro)), (5, (.s (.bool r3)))] (h := []) (fun env => by kernel_rfl) (And.intro (hg4   _ []  hr4) trivial) (fun e6 he5 => ?_)
  refine thenN ?_
  refine Runs.sq ?_
  obtain ⟨r7, hr8, h⟩ := Option.bind_eq_some_iff.1 h
  obtain ⟨r7_0, r7_1⟩ := r7
  dsimp only at h
  refine Runs.region he5 [(1, .f (.tup [(.s (.int .i64 r7_0)), (.s (.int .i64 r7_1))]) [])] [(0, (.sl (insAVs a0) .ro)), (1, (.sl (insAVs a1) .ro)), (5, (.s (.bool r3))), (6, (.s (.int .i64 r7_0)))] (h := []) (fun env => by kernel_rfl) (And.intro (hg5 a0 .ro _ []  hr8) trivial) (fun e10 he9 => ?_)
  refine thenN ?_
  refine Runs.sq ?_
  obtain ⟨r11, hr12, h⟩ := Option.bind_eq_some_iff.1 h
  obtain ⟨r11_0, r11_1⟩ := r11
  dsimp only at h
  refine Runs.region he9 [(1, .f (.tup [(.s (.int .i64 r11_0)), (.s (.int .i64 r11_1))]) [])] [(0, (.sl (insAVs a0) .ro)), (1, (.sl (insAVs a1) .ro)), (5, (.s (.bool r3))), (6, (.s (.int .i64 r7_0))), (8, (.s (.int .i64 r11_0)))] (h := []) (fun env => by kernel_rfl) (And.intro (hg5 a1 .ro _ []  hr12) trivial) (fun e14 he13 => ?_)
  refine thenN ?_
  refine Runs.sq ?_
  refine Runs.sq ?_
  obtain ⟨v15, hm16, h⟩ := Option.bind_eq_some_iff.1 h
  refine Runs.mono (Q := fun x e h => x = .normal ∧ Sat [(0, (.sl (insAVs a0) .ro)), (1, (.sl (insAVs a1) .ro)), (5, (.s (.bool r3))), (32, (.s (.bool v15)))] e ∧ h = []) ?_ ?_
  · by_cases hb17 : (decide (1000 < r7_0)) = true
    · rw [if_pos hb17] at hm16
      obtain rfl := Option.some.inj hm16
      exact Runs.region he13 [(2, .b true)] [(0, (.sl (insAVs a0) .ro)), (1, (.sl (insAVs a1) .ro)), (5, (.s (.bool r3))), (32, (.s (.bool true)))] (h := []) (fun env => by kernel_rfl) (And.intro hb17 trivial) (fun _ h => ⟨rfl, h, rfl⟩)
    · rw [if_neg hb17] at hm16
      obtain rfl := Option.some.inj hm16
      exact Runs.region he13 [(2, .b false)] [(0, (.sl (insAVs a0) .ro)), (1, (.sl (insAVs a1) .ro)), (5, (.s (.bool r3))), (32, (.s (.bool (decide (1000 < r11_0)))))] (h := []) (fun env => by kernel_rfl) (And.intro (Bool.eq_false_iff.2 hb17) trivial) (fun _ h => ⟨rfl, h, rfl⟩)
  rintro _ e19 h20 ⟨rfl, he18, hh21⟩
  rw [hh21]
  refine thenN ?_
  by_cases hb22 : v15 = true
  · rw [if_pos hb22] at h
    refine Runs.cond (he18.get (t := 32) (v := (.s (.bool v15))) (by kernel_rfl)) (fun _ => ?_) (fun h0 => absurd (hb22.symm.trans h0) (by decide))
    refine Runs.sq ?_
    refine Runs.region he18 [] [(4, (.s (.bool r3)))] (h := []) (fun env => by kernel_rfl) trivial (fun e24 he23 => ?_)
    refine thenN ?_
    refine Runs.ret ?_
    refine thenR ?_
    obtain rfl := Option.some.inj h
    exact RetOK3.endP ret_ne (RetOK3.of (resT (he23.get (t := 4) (v := (.s (.bool r3))) (by kernel_rfl)) resN) (fin_of (fun _ _ _ _ _ h => by cases h) rfl))
  · rw [if_neg hb22] at h
    refine Runs.cond (he18.get (t := 32) (v := (.s (.bool v15))) (by kernel_rfl)) (fun h0 => absurd h0 hb22) (fun _ => ?_)
    refine Runs.skip ?_
    refine thenN ?_
    refine Runs.sq ?_
    obtain ⟨r25, hr26, h⟩ := Option.bind_eq_some_iff.1 h
    obtain ⟨r25_0, r25_1⟩ := r25
    dsimp only at h
    refine Runs.region he18 [(1, .f (.tup [(.sl (r25_0.map (kAV .u8)) .ro), (Err.av r25_1)]) [])] [(0, (.sl (insAVs a0) .ro)), (1, (.sl (insAVs a1) .ro)), (5, (.s (.bool r3))), (10, (.sl (r25_0.map (kAV .u8)) .ro)), (11, (Err.av r25_1))] (h := []) (fun env => by kernel_rfl) (And.intro (hg6 a0 .ro _ []  hr26) trivial) (fun e28 he27 => ?_)
    refine thenN ?_
    refine Runs.sq ?_
    obtain ⟨r29, hr30, h⟩ := Option.bind_eq_some_iff.1 h
    obtain ⟨r29_0, r29_1⟩ := r29
    dsimp only at h
    refine Runs.region he27 [(1, .f (.tup [(.sl (r29_0.map (kAV .u8)) .ro), (Err.av r29_1)]) [])] [(0, (.sl (insAVs a0) .ro)), (1, (.sl (insAVs a1) .ro)), (5, (.s (.bool r3))), (10, (.sl (r25_0.map (kAV .u8)) .ro)), (11, (Err.av r25_1)), (12, (.sl (r29_0.map (kAV .u8)) .ro)), (13, (Err.av r29_1))] (h := []) (fun env => by kernel_rfl) (And.intro (hg6 a1 .ro _ []  hr30) trivial) (fun e32 he31 => ?_)
    refine thenN ?_
    refine Runs.sq ?_
    by_cases hr37 : (0 + a0.length) * 120 ≤ roomA
    rotate_left
    · rw [if_neg hr37] at h; cases h
    rw [if_pos hr37] at h
    obtain ⟨p33, H34, ha35, hk36⟩ := app_full (sz := 9) (k := 0) (Hs := []) (bytes := 120) (xs := []) (ys := (insAVs a0)) (zs := (insAVs a0)) [] rfl rfl (insAVs_widths a0) (List.nil_append _) (by first | exact hr37 | simpa [insAVs_length] using hr37)
    by_cases hr42 : (a0.length + a1.length) * 120 ≤ roomA
    rotate_left
    · rw [if_neg hr42] at h; cases h
    rw [if_pos hr42] at h
    obtain ⟨p38, H39, ha40, hk41⟩ := app_tail (bytes := 120) (ys := (insAVs a1)) (zs := (insAVs (a0 ++ a1))) [] rfl hk36 (insAVs_widths a1) (insAVs_append a0 a1).symm (by first | exact hr42 | simpa [insAVs_length] using hr42)
    obtain ⟨r43, hr44, h⟩ := Option.bind_eq_some_iff.1 h
    obtain ⟨r43_0, r43_1⟩ := r43
    dsimp only at h
    refine Runs.region he31 [(2, .f (.sl (insAVs a0) p33) ([] ++ H34)), (4, .f (.sl (insAVs (a0 ++ a1)) p38) H39), (5, .f (.tup [(.sl (r43_0.map (kAV .u8)) .ro), (Err.av r43_1)]) H39)] [(5, (.s (.bool r3))), (10, (.sl (r25_0.map (kAV .u8)) .ro)), (11, (Err.av r25_1)), (12, (.sl (r29_0.map (kAV .u8)) .ro)), (13, (Err.av r29_1)), (14, (.sl (r43_0.map (kAV .u8)) .ro)), (15, (Err.av r43_1))] (h := H39) (fun env => by kernel_rfl) (And.intro ((appendC_of (sz := 9) (bytes := 120) (t := 22) (tx := 22) (bf := (F3.bf.contains ·)) (x := (.sl [] .full)) (H := []) (by kernel_rfl) (by kernel_rfl) (src_sl (P := P) (tx := 22) (H := []) (p := .ro) (by kernel_rfl) (insAVs_widths a0))).trans ha35) (And.intro ((appendC_of (sz := 9) (bytes := 120) (t := 22) (tx := 22) (bf := (F3.bf.contains ·)) (x := (.sl (insAVs a0) p33)) (H := ([] ++ H34)) (by kernel_rfl) (by kernel_rfl) (src_sl (P := P) (tx := 22) (H := ([] ++ H34)) (p := .ro) (by kernel_rfl) (insAVs_widths a1))).trans ha40) (And.intro (hg6 (a0 ++ a1) p38 _ H39  hr44) trivial))) (fun e46 he45 => ?_)
    refine thenN ?_
    refine Runs.sq ?_
    refine Runs.sq ?_
    obtain ⟨v47, hm48, h⟩ := Option.bind_eq_some_iff.1 h
    refine Runs.mono (Q := fun x e h => x = .normal ∧ Sat [(5, (.s (.bool r3))), (10, (.sl (r25_0.map (kAV .u8)) .ro)), (12, (.sl (r29_0.map (kAV .u8)) .ro)), (14, (.sl (r43_0.map (kAV .u8)) .ro)), (15, (Err.av r43_1)), (58, (.s (.bool v47)))] e ∧ h = H39) ?_ ?_
    · cases r25_1 with
      | nil =>
        dsimp only at hm48
        cases r29_1 with
        | nil =>
          dsimp only at hm48
          obtain rfl := Option.some.inj hm48
          exact Runs.region he45 [] [(5, (.s (.bool r3))), (10, (.sl (r25_0.map (kAV .u8)) .ro)), (12, (.sl (r29_0.map (kAV .u8)) .ro)), (14, (.sl (r43_0.map (kAV .u8)) .ro)), (15, (Err.av r43_1)), (58, (.s (.bool false)))] (h := H39) (fun env => by kernel_rfl) trivial (fun _ h => ⟨rfl, h, rfl⟩)
        | code c50 =>
          dsimp only at hm48
          obtain rfl := Option.some.inj hm48
          exact Runs.region he45 [] [(5, (.s (.bool r3))), (10, (.sl (r25_0.map (kAV .u8)) .ro)), (12, (.sl (r29_0.map (kAV .u8)) .ro)), (14, (.sl (r43_0.map (kAV .u8)) .ro)), (15, (Err.av r43_1)), (58, (.s (.bool true)))] (h := H39) (fun env => by kernel_rfl) trivial (fun _ h => ⟨rfl, h, rfl⟩)
      | code c49 =>
        dsimp only at hm48
        obtain rfl := Option.some.inj hm48
        exact Runs.region he45 [] [(5, (.s (.bool r3))), (10, (.sl (r25_0.map (kAV .u8)) .ro)), (12, (.sl (r29_0.map (kAV .u8)) .ro)), (14, (.sl (r43_0.map (kAV .u8)) .ro)), (15, (Err.av r43_1)), (58, (.s (.bool true)))] (h := H39) (fun env => by kernel_rfl) trivial (fun _ h => ⟨rfl, h, rfl⟩)
    rintro _ e52 h53 ⟨rfl, he51, hh54⟩
    rw [hh54]
    refine thenN ?_
    by_cases hb55 : v47 = true
    · rw [if_pos hb55] at h
      refine Runs.cond (he51.get (t := 58) (v := (.s (.bool v47))) (by kernel_rfl)) (fun _ => ?_) (fun h0 => absurd (hb55.symm.trans h0) (by decide))
      refine Runs.sq ?_
      obtain ⟨v56, hm57, h⟩ := Option.bind_eq_some_iff.1 h
      refine Runs.mono (Q := fun x e h => x = .normal ∧ Sat [(4, (.s (.bool v56)))] e ∧ h = H39) ?_ ?_
      · cases r3 with
        | true =>
          rw [if_pos rfl] at hm57
          cases r43_1 with
          | nil =>
            dsimp only at hm57
            obtain rfl := Option.some.inj hm57
            exact Runs.region he51 [] [(4, (.s (.bool false)))] (h := H39) (fun env => by kernel_rfl) trivial (fun _ h => ⟨rfl, h, rfl⟩)
          | code c58 =>
            dsimp only at hm57
            obtain rfl := Option.some.inj hm57
            exact Runs.region he51 [] [(4, (.s (.bool true)))] (h := H39) (fun env => by kernel_rfl) trivial (fun _ h => ⟨rfl, h, rfl⟩)
        | false =>
          rw [if_neg Bool.false_ne_true] at hm57
          obtain rfl := Option.some.inj hm57
          exact Runs.region he51 [] [(4, (.s (.bool false)))] (h := H39) (fun env => by kernel_rfl) trivial (fun _ h => ⟨rfl, h, rfl⟩)
      rintro _ e60 h61 ⟨rfl, he59, hh62⟩
      rw [hh62]
      refine thenN ?_
      refine Runs.ret ?_
      refine thenR ?_
      obtain rfl := Option.some.inj h
      exact RetOK3.endP ret_ne (RetOK3.of (resT (he59.get (t := 4) (v := (.s (.bool v56))) (by kernel_rfl)) resN) (fin_of (fun _ _ _ _ _ h => by cases h) rfl))
    · rw [if_neg hb55] at h
      refine Runs.cond (he51.get (t := 58) (v := (.s (.bool v47))) (by kernel_rfl)) (fun h0 => absurd h0 hb55) (fun _ => ?_)
      refine Runs.skip ?_
      refine thenN ?_
      refine Runs.sq ?_
      obtain ⟨v63, hm64, h⟩ := Option.bind_eq_some_iff.1 h
      refine Runs.mono (Q := fun x e h => x = .normal ∧ Sat [(4, (.s (.bool v63)))] e ∧ h = H39) ?_ ?_
      · cases r3 with
        | true =>
          rw [if_pos rfl] at hm64
          cases r43_1 with
          | nil =>
            dsimp only at hm64
            by_cases hb66 : (decide (0 < (r25_0.length : Int))) = true
            · rw [if_pos hb66] at hm64
              by_cases hg67 : (0 : Int) ≤ 0 ∧ 0 ≤ (IntKind.i64.wrap ((r25_0.length : Int) - 1)) ∧ (IntKind.i64.wrap ((r25_0.length : Int) - 1)) ≤ (r25_0.length : Int)
              rotate_left
              · rw [if_neg hg67] at hm64; cases hm64
              rw [if_pos hg67] at hm64
              by_cases hg68 : (bytesOf ((r25_0.take (IntKind.i64.wrap ((r25_0.length : Int) - 1)).toNat).drop (0 : Int).toNat)).size + (bytesOf r29_0).size ≤ 4611686018427387904
              rotate_left
              · rw [if_neg hg68] at hm64; cases hm64
              rw [if_pos hg68] at hm64
              obtain rfl := Option.some.inj hm64
              exact Runs.region he51 [(7, .i (r25_0.length : Int)), (10, .b true), (13, .i (r25_0.length : Int)), (15, .cut ((0 : Int).toNat) ((IntKind.i64.wrap ((r25_0.length : Int) - 1)).toNat) (((r25_0.take (IntKind.i64.wrap ((r25_0.length : Int) - 1)).toNat).drop (0 : Int).toNat).map (kAV .u8))), (16, .q (.s (.string (bytesOf ((r25_0.take (IntKind.i64.wrap ((r25_0.length : Int) - 1)).toNat).drop (0 : Int).toNat))))), (18, .q (.s (.string (bytesOf r29_0)))), (19, .q (.s (.string ((bytesOf ((r25_0.take (IntKind.i64.wrap ((r25_0.length : Int) - 1)).toNat).drop (0 : Int).toNat)) ++ (bytesOf r29_0))))), (21, .q (.s (.string (bytesOf r43_0))))] [(4, (.s (.bool (((bytesOf ((r25_0.take (IntKind.i64.wrap ((r25_0.length : Int) - 1)).toNat).drop (0 : Int).toNat)) ++ (bytesOf r29_0)).toList == ((bytesOf r43_0) : ByteArray).toList))))] (h := H39) (fun env => by kernel_rfl) (And.intro (len_map (l := r25_0) (f := (kAV .u8))) (And.intro hb66 (And.intro (len_map (l := r25_0) (f := (kAV .u8))) (And.intro (cut_l (f := (kAV .u8)) (sz := 1) true hg67 (widths_map (f := (kAV .u8)) (k := 1) (fun _ => ⟨rfl, rfl⟩) r25_0)) (And.intro (q_bytes ((r25_0.take (IntKind.i64.wrap ((r25_0.length : Int) - 1)).toNat).drop (0 : Int).toNat)) (And.intro (q_bytes r29_0) (And.intro (q_adds (P := P) 9 (.tmp 80) (.tmp 82) (bytesOf ((r25_0.take (IntKind.i64.wrap ((r25_0.length : Int) - 1)).toNat).drop (0 : Int).toNat)) (bytesOf r29_0) hg68) (And.intro (q_bytes r43_0) trivial)))))))) (fun _ h => ⟨rfl, h, rfl⟩)
            · rw [if_neg hb66] at hm64
              obtain rfl := Option.some.inj hm64
              exact Runs.region he51 [(7, .i (r25_0.length : Int)), (10, .b false)] [(4, (.s (.bool false)))] (h := H39) (fun env => by kernel_rfl) (And.intro (len_map (l := r25_0) (f := (kAV .u8))) (And.intro (Bool.eq_false_iff.2 hb66) trivial)) (fun _ h => ⟨rfl, h, rfl⟩)
          | code c65 =>
            dsimp only at hm64
            obtain rfl := Option.some.inj hm64
            exact Runs.region he51 [] [(4, (.s (.bool false)))] (h := H39) (fun env => by kernel_rfl) trivial (fun _ h => ⟨rfl, h, rfl⟩)
        | false =>
          rw [if_neg Bool.false_ne_true] at hm64
          obtain rfl := Option.some.inj hm64
          exact Runs.region he51 [] [(4, (.s (.bool false)))] (h := H39) (fun env => by kernel_rfl) trivial (fun _ h => ⟨rfl, h, rfl⟩)
      rintro _ e70 h71 ⟨rfl, he69, hh72⟩
      rw [hh72]
      refine thenN ?_
      refine Runs.ret ?_
      obtain rfl := Option.some.inj h
      exact RetOK3.endP ret_ne (RetOK3.of (resT (he69.get (t := 4) (v := (.s (.bool v63))) (by kernel_rfl)) resN) (fin_of (fun _ _ _ _ _ h => by cases h) rfl))
end Go.Proofs.YtggoggdcnahkaaaDoor
