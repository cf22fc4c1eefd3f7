/- Functions of the program, printed: each with what it answers, and the proof of it. -/
import Derived.Test.YtggoggdcnahkaaaDoorTab
set_option linter.unusedVariables false
set_option linter.unusedSimpArgs false
set_option maxRecDepth 100000
namespace Go.Proofs.YtggoggdcnahkaaaDoor
open Go Go.RowKit Go.Proofs
/-! grommet/op.float -/
def RetOK37 (r : Bool) (e : Env) (h : Heap) : Prop := ∃ vs, resA P e h [.tmp 2] = some vs ∧ finA h (oneOf vs) = some (.s (.bool r))
theorem RetOK37.of {r : Bool} {e : Env} {h : Heap} {vs : List AV} (h1 : resA P e h [.tmp 2] = some vs) (h2 : finA h (oneOf vs) = some (.s (.bool r))) : RetOK37 r e h := ⟨vs, h1, h2⟩
theorem RetOK37.endP {x : Ex} {r : Bool} {e : Env} {h : Heap} (hx : ∀ k, x ≠ .exit k) (hr : RetOK37 r e h) : EndP P F37 (.s (.bool r)) x e h := by
  obtain ⟨vs, h1, h2⟩ := hr
  exact endQ hx rfl h1 h2
def S37  (n : Nat) (a0 : Int) : Option (Bool) :=
 if (decide (a0 = 42)) then
  some true
 else
  if (decide (a0 = 43)) then
   some true
  else
   if (decide (a0 = 56)) then
    some true
   else
    if (decide (a0 = 57)) then
     some true
    else
     if (decide (a0 = 67)) then
      some true
     else
      if (decide (a0 = 68)) then
       some true
      else
       (show Option (Bool) from
        if (decide (91 ≤ a0)) then
         some (decide (a0 ≤ 102))
        else
         some false).bind fun v33 =>
       if v33 then
        some true
       else
        (show Option (Bool) from
         if (decide (139 ≤ a0)) then
          some (decide (a0 ≤ 166))
         else
          some false).bind fun v43 =>
        if v43 then
         some true
        else
         (show Option (Bool) from
          if (decide (168 ≤ a0)) then
           some (decide (a0 ≤ 171))
          else
           some false).bind fun v53 =>
         if v53 then
          some true
         else
          (show Option (Bool) from
           if (decide (174 ≤ a0)) then
            some (decide (a0 ≤ 191))
           else
            some false).bind fun v63 =>
          if v63 then
           some true
          else
           some false
set_option maxHeartbeats 4000000 in
theorem S37_ok {m : Int} {n : Nat}  (a0 : Int)  (r : Bool) (H : Heap) (h : S37  n a0 = some r) : evF P (T m) (n + 1) 37 [(.s (.int .i64 a0))] H = some ((.s (.bool r)), H) := by
  refine call_pure' (fi := F37) (bs := [(.s (.int .i64 a0))]) (x37 m) (oh37 m) (o37 m) (c37 m) rfl rfl (shut_cons rfl rfl) ?_
  dsimp only [S37] at h
  have he : Sat [(0, (.s (.int .i64 a0)))] (argEnv [(.s (.int .i64 a0))]) := Sat.cons rfl (Sat.nil)
  refine (show Runs P (T m) (evF P (T m) n) n 37 F37 0 F37.body (argEnv [(.s (.int .i64 a0))]) [] _ from ?_)
  generalize argEnv [(.s (.int .i64 a0))] = e at he ⊢
  refine Runs.sq ?_
  refine Runs.region he [] [(0, (.s (.int .i64 a0)))] (h := []) (fun env => by kernel_rfl) trivial (fun e2 he1 => ?_)
  refine thenN ?_
  refine Runs.sq ?_
  refine Runs.block ?_
  refine Runs.sq ?_
  refine Runs.sq ?_
  refine Runs.region he1 [] [(0, (.s (.int .i64 a0))), (3, (.s (.bool (decide (a0 = 42)))))] (h := []) (fun env => by kernel_rfl) trivial (fun e4 he3 => ?_)
  refine thenN ?_
  by_cases hb5 : (decide (a0 = 42)) = true
  · rw [if_pos hb5] at h
    refine Runs.cond (he3.get (t := 3) (v := (.s (.bool (decide (a0 = 42))))) (by kernel_rfl)) (fun _ => ?_) (fun h0 => absurd (hb5.symm.trans h0) (by decide))
    refine Runs.skip ?_
    refine thenN ?_
    refine Runs.cond (he3.get (t := 3) (v := (.s (.bool (decide (a0 = 42))))) (by kernel_rfl)) (fun _ => ?_) (fun h0 => absurd (hb5.symm.trans h0) (by decide))
    refine Runs.sq ?_
    refine Runs.region he3 [] [(2, (.s (.bool true)))] (h := []) (fun env => by kernel_rfl) trivial (fun e7 he6 => ?_)
    refine thenN ?_
    refine Runs.ret ?_
    refine blockR ?_
    refine thenR ?_
    obtain rfl := Option.some.inj h
    exact RetOK37.endP ret_ne (RetOK37.of (resT (he6.get (t := 2) (v := (.s (.bool true))) (by kernel_rfl)) resN) (fin_of (fun _ _ _ _ _ h => by cases h) rfl))
  · rw [if_neg hb5] at h
    refine Runs.cond (he3.get (t := 3) (v := (.s (.bool (decide (a0 = 42))))) (by kernel_rfl)) (fun h0 => absurd h0 hb5) (fun _ => ?_)
    refine Runs.sq ?_
    refine Runs.region he3 [] [(0, (.s (.int .i64 a0))), (3, (.s (.bool (decide (a0 = 43)))))] (h := []) (fun env => by kernel_rfl) trivial (fun e9 he8 => ?_)
    refine thenN ?_
    by_cases hb10 : (decide (a0 = 43)) = true
    · rw [if_pos hb10] at h
      refine Runs.cond (he8.get (t := 3) (v := (.s (.bool (decide (a0 = 43))))) (by kernel_rfl)) (fun _ => ?_) (fun h0 => absurd (hb10.symm.trans h0) (by decide))
      refine Runs.skip ?_
      refine thenN ?_
      refine Runs.cond (he8.get (t := 3) (v := (.s (.bool (decide (a0 = 43))))) (by kernel_rfl)) (fun _ => ?_) (fun h0 => absurd (hb10.symm.trans h0) (by decide))
      refine Runs.sq ?_
      refine Runs.region he8 [] [(2, (.s (.bool true)))] (h := []) (fun env => by kernel_rfl) trivial (fun e12 he11 => ?_)
      refine thenN ?_
      refine Runs.ret ?_
      refine blockR ?_
      refine thenR ?_
      obtain rfl := Option.some.inj h
      exact RetOK37.endP ret_ne (RetOK37.of (resT (he11.get (t := 2) (v := (.s (.bool true))) (by kernel_rfl)) resN) (fin_of (fun _ _ _ _ _ h => by cases h) rfl))
    · rw [if_neg hb10] at h
      refine Runs.cond (he8.get (t := 3) (v := (.s (.bool (decide (a0 = 43))))) (by kernel_rfl)) (fun h0 => absurd h0 hb10) (fun _ => ?_)
      refine Runs.sq ?_
      refine Runs.region he8 [] [(0, (.s (.int .i64 a0))), (3, (.s (.bool (decide (a0 = 56)))))] (h := []) (fun env => by kernel_rfl) trivial (fun e14 he13 => ?_)
      refine thenN ?_
      by_cases hb15 : (decide (a0 = 56)) = true
      · rw [if_pos hb15] at h
        refine Runs.cond (he13.get (t := 3) (v := (.s (.bool (decide (a0 = 56))))) (by kernel_rfl)) (fun _ => ?_) (fun h0 => absurd (hb15.symm.trans h0) (by decide))
        refine Runs.skip ?_
        refine thenN ?_
        refine Runs.cond (he13.get (t := 3) (v := (.s (.bool (decide (a0 = 56))))) (by kernel_rfl)) (fun _ => ?_) (fun h0 => absurd (hb15.symm.trans h0) (by decide))
        refine Runs.sq ?_
        refine Runs.region he13 [] [(2, (.s (.bool true)))] (h := []) (fun env => by kernel_rfl) trivial (fun e17 he16 => ?_)
        refine thenN ?_
        refine Runs.ret ?_
        refine blockR ?_
        refine thenR ?_
        obtain rfl := Option.some.inj h
        exact RetOK37.endP ret_ne (RetOK37.of (resT (he16.get (t := 2) (v := (.s (.bool true))) (by kernel_rfl)) resN) (fin_of (fun _ _ _ _ _ h => by cases h) rfl))
      · rw [if_neg hb15] at h
        refine Runs.cond (he13.get (t := 3) (v := (.s (.bool (decide (a0 = 56))))) (by kernel_rfl)) (fun h0 => absurd h0 hb15) (fun _ => ?_)
        refine Runs.sq ?_
        refine Runs.region he13 [] [(0, (.s (.int .i64 a0))), (3, (.s (.bool (decide (a0 = 57)))))] (h := []) (fun env => by kernel_rfl) trivial (fun e19 he18 => ?_)
        refine thenN ?_
        by_cases hb20 : (decide (a0 = 57)) = true
        · rw [if_pos hb20] at h
          refine Runs.cond (he18.get (t := 3) (v := (.s (.bool (decide (a0 = 57))))) (by kernel_rfl)) (fun _ => ?_) (fun h0 => absurd (hb20.symm.trans h0) (by decide))
          refine Runs.skip ?_
          refine thenN ?_
          refine Runs.cond (he18.get (t := 3) (v := (.s (.bool (decide (a0 = 57))))) (by kernel_rfl)) (fun _ => ?_) (fun h0 => absurd (hb20.symm.trans h0) (by decide))
          refine Runs.sq ?_
          refine Runs.region he18 [] [(2, (.s (.bool true)))] (h := []) (fun env => by kernel_rfl) trivial (fun e22 he21 => ?_)
          refine thenN ?_
          refine Runs.ret ?_
          refine blockR ?_
          refine thenR ?_
          obtain rfl := Option.some.inj h
          exact RetOK37.endP ret_ne (RetOK37.of (resT (he21.get (t := 2) (v := (.s (.bool true))) (by kernel_rfl)) resN) (fin_of (fun _ _ _ _ _ h => by cases h) rfl))
        · rw [if_neg hb20] at h
          refine Runs.cond (he18.get (t := 3) (v := (.s (.bool (decide (a0 = 57))))) (by kernel_rfl)) (fun h0 => absurd h0 hb20) (fun _ => ?_)
          refine Runs.sq ?_
          refine Runs.region he18 [] [(0, (.s (.int .i64 a0))), (3, (.s (.bool (decide (a0 = 67)))))] (h := []) (fun env => by kernel_rfl) trivial (fun e24 he23 => ?_)
          refine thenN ?_
          by_cases hb25 : (decide (a0 = 67)) = true
          · rw [if_pos hb25] at h
            refine Runs.cond (he23.get (t := 3) (v := (.s (.bool (decide (a0 = 67))))) (by kernel_rfl)) (fun _ => ?_) (fun h0 => absurd (hb25.symm.trans h0) (by decide))
            refine Runs.skip ?_
            refine thenN ?_
            refine Runs.cond (he23.get (t := 3) (v := (.s (.bool (decide (a0 = 67))))) (by kernel_rfl)) (fun _ => ?_) (fun h0 => absurd (hb25.symm.trans h0) (by decide))
            refine Runs.sq ?_
            refine Runs.region he23 [] [(2, (.s (.bool true)))] (h := []) (fun env => by kernel_rfl) trivial (fun e27 he26 => ?_)
            refine thenN ?_
            refine Runs.ret ?_
            refine blockR ?_
            refine thenR ?_
            obtain rfl := Option.some.inj h
            exact RetOK37.endP ret_ne (RetOK37.of (resT (he26.get (t := 2) (v := (.s (.bool true))) (by kernel_rfl)) resN) (fin_of (fun _ _ _ _ _ h => by cases h) rfl))
          · rw [if_neg hb25] at h
            refine Runs.cond (he23.get (t := 3) (v := (.s (.bool (decide (a0 = 67))))) (by kernel_rfl)) (fun h0 => absurd h0 hb25) (fun _ => ?_)
            refine Runs.region he23 [] [(0, (.s (.int .i64 a0))), (3, (.s (.bool (decide (a0 = 68)))))] (h := []) (fun env => by kernel_rfl) trivial (fun e29 he28 => ?_)
            refine thenN ?_
            by_cases hb30 : (decide (a0 = 68)) = true
            · rw [if_pos hb30] at h
              refine Runs.cond (he28.get (t := 3) (v := (.s (.bool (decide (a0 = 68))))) (by kernel_rfl)) (fun _ => ?_) (fun h0 => absurd (hb30.symm.trans h0) (by decide))
              refine Runs.sq ?_
              refine Runs.region he28 [] [(2, (.s (.bool true)))] (h := []) (fun env => by kernel_rfl) trivial (fun e32 he31 => ?_)
              refine thenN ?_
              refine Runs.ret ?_
              refine blockR ?_
              refine thenR ?_
              obtain rfl := Option.some.inj h
              exact RetOK37.endP ret_ne (RetOK37.of (resT (he31.get (t := 2) (v := (.s (.bool true))) (by kernel_rfl)) resN) (fin_of (fun _ _ _ _ _ h => by cases h) rfl))
            · rw [if_neg hb30] at h
              refine Runs.cond (he28.get (t := 3) (v := (.s (.bool (decide (a0 = 68))))) (by kernel_rfl)) (fun h0 => absurd h0 hb30) (fun _ => ?_)
              refine Runs.sq ?_
              refine Runs.sq ?_
              obtain ⟨v33, hm34, h⟩ := Option.bind_eq_some_iff.1 h
              refine Runs.mono (Q := fun x e h => x = .normal ∧ Sat [(0, (.s (.int .i64 a0))), (16, (.s (.bool v33)))] e ∧ h = []) ?_ ?_
              · by_cases hb35 : (decide (91 ≤ a0)) = true
                · rw [if_pos hb35] at hm34
                  obtain rfl := Option.some.inj hm34
                  exact Runs.region he28 [(2, .b true)] [(0, (.s (.int .i64 a0))), (16, (.s (.bool (decide (a0 ≤ 102)))))] (h := []) (fun env => by kernel_rfl) (And.intro hb35 trivial) (fun _ h => ⟨rfl, h, rfl⟩)
                · rw [if_neg hb35] at hm34
                  obtain rfl := Option.some.inj hm34
                  exact Runs.region he28 [(2, .b false)] [(0, (.s (.int .i64 a0))), (16, (.s (.bool false)))] (h := []) (fun env => by kernel_rfl) (And.intro (Bool.eq_false_iff.2 hb35) trivial) (fun _ h => ⟨rfl, h, rfl⟩)
              rintro _ e37 h38 ⟨rfl, he36, hh39⟩
              rw [hh39]
              refine thenN ?_
              by_cases hb40 : v33 = true
              · rw [if_pos hb40] at h
                refine Runs.cond (he36.get (t := 16) (v := (.s (.bool v33))) (by kernel_rfl)) (fun _ => ?_) (fun h0 => absurd (hb40.symm.trans h0) (by decide))
                refine Runs.skip ?_
                refine thenN ?_
                refine Runs.cond (he36.get (t := 16) (v := (.s (.bool v33))) (by kernel_rfl)) (fun _ => ?_) (fun h0 => absurd (hb40.symm.trans h0) (by decide))
                refine Runs.sq ?_
                refine Runs.region he36 [] [(2, (.s (.bool true)))] (h := []) (fun env => by kernel_rfl) trivial (fun e42 he41 => ?_)
                refine thenN ?_
                refine Runs.ret ?_
                refine blockR ?_
                refine thenR ?_
                obtain rfl := Option.some.inj h
                exact RetOK37.endP ret_ne (RetOK37.of (resT (he41.get (t := 2) (v := (.s (.bool true))) (by kernel_rfl)) resN) (fin_of (fun _ _ _ _ _ h => by cases h) rfl))
              · rw [if_neg hb40] at h
                refine Runs.cond (he36.get (t := 16) (v := (.s (.bool v33))) (by kernel_rfl)) (fun h0 => absurd h0 hb40) (fun _ => ?_)
                refine Runs.sq ?_
                obtain ⟨v43, hm44, h⟩ := Option.bind_eq_some_iff.1 h
                refine Runs.mono (Q := fun x e h => x = .normal ∧ Sat [(0, (.s (.int .i64 a0))), (16, (.s (.bool v43)))] e ∧ h = []) ?_ ?_
                · by_cases hb45 : (decide (139 ≤ a0)) = true
                  · rw [if_pos hb45] at hm44
                    obtain rfl := Option.some.inj hm44
                    exact Runs.region he36 [(2, .b true)] [(0, (.s (.int .i64 a0))), (16, (.s (.bool (decide (a0 ≤ 166)))))] (h := []) (fun env => by kernel_rfl) (And.intro hb45 trivial) (fun _ h => ⟨rfl, h, rfl⟩)
                  · rw [if_neg hb45] at hm44
                    obtain rfl := Option.some.inj hm44
                    exact Runs.region he36 [(2, .b false)] [(0, (.s (.int .i64 a0))), (16, (.s (.bool false)))] (h := []) (fun env => by kernel_rfl) (And.intro (Bool.eq_false_iff.2 hb45) trivial) (fun _ h => ⟨rfl, h, rfl⟩)
                rintro _ e47 h48 ⟨rfl, he46, hh49⟩
                rw [hh49]
                refine thenN ?_
                by_cases hb50 : v43 = true
                · rw [if_pos hb50] at h
                  refine Runs.cond (he46.get (t := 16) (v := (.s (.bool v43))) (by kernel_rfl)) (fun _ => ?_) (fun h0 => absurd (hb50.symm.trans h0) (by decide))
                  refine Runs.skip ?_
                  refine thenN ?_
                  refine Runs.cond (he46.get (t := 16) (v := (.s (.bool v43))) (by kernel_rfl)) (fun _ => ?_) (fun h0 => absurd (hb50.symm.trans h0) (by decide))
                  refine Runs.sq ?_
                  refine Runs.region he46 [] [(2, (.s (.bool true)))] (h := []) (fun env => by kernel_rfl) trivial (fun e52 he51 => ?_)
                  refine thenN ?_
                  refine Runs.ret ?_
                  refine blockR ?_
                  refine thenR ?_
                  obtain rfl := Option.some.inj h
                  exact RetOK37.endP ret_ne (RetOK37.of (resT (he51.get (t := 2) (v := (.s (.bool true))) (by kernel_rfl)) resN) (fin_of (fun _ _ _ _ _ h => by cases h) rfl))
                · rw [if_neg hb50] at h
                  refine Runs.cond (he46.get (t := 16) (v := (.s (.bool v43))) (by kernel_rfl)) (fun h0 => absurd h0 hb50) (fun _ => ?_)
                  refine Runs.sq ?_
                  obtain ⟨v53, hm54, h⟩ := Option.bind_eq_some_iff.1 h
                  refine Runs.mono (Q := fun x e h => x = .normal ∧ Sat [(0, (.s (.int .i64 a0))), (16, (.s (.bool v53)))] e ∧ h = []) ?_ ?_
                  · by_cases hb55 : (decide (168 ≤ a0)) = true
                    · rw [if_pos hb55] at hm54
                      obtain rfl := Option.some.inj hm54
                      exact Runs.region he46 [(2, .b true)] [(0, (.s (.int .i64 a0))), (16, (.s (.bool (decide (a0 ≤ 171)))))] (h := []) (fun env => by kernel_rfl) (And.intro hb55 trivial) (fun _ h => ⟨rfl, h, rfl⟩)
                    · rw [if_neg hb55] at hm54
                      obtain rfl := Option.some.inj hm54
                      exact Runs.region he46 [(2, .b false)] [(0, (.s (.int .i64 a0))), (16, (.s (.bool false)))] (h := []) (fun env => by kernel_rfl) (And.intro (Bool.eq_false_iff.2 hb55) trivial) (fun _ h => ⟨rfl, h, rfl⟩)
                  rintro _ e57 h58 ⟨rfl, he56, hh59⟩
                  rw [hh59]
                  refine thenN ?_
                  by_cases hb60 : v53 = true
                  · rw [if_pos hb60] at h
                    refine Runs.cond (he56.get (t := 16) (v := (.s (.bool v53))) (by kernel_rfl)) (fun _ => ?_) (fun h0 => absurd (hb60.symm.trans h0) (by decide))
                    refine Runs.skip ?_
                    refine thenN ?_
                    refine Runs.cond (he56.get (t := 16) (v := (.s (.bool v53))) (by kernel_rfl)) (fun _ => ?_) (fun h0 => absurd (hb60.symm.trans h0) (by decide))
                    refine Runs.sq ?_
                    refine Runs.region he56 [] [(2, (.s (.bool true)))] (h := []) (fun env => by kernel_rfl) trivial (fun e62 he61 => ?_)
                    refine thenN ?_
                    refine Runs.ret ?_
                    refine blockR ?_
                    refine thenR ?_
                    obtain rfl := Option.some.inj h
                    exact RetOK37.endP ret_ne (RetOK37.of (resT (he61.get (t := 2) (v := (.s (.bool true))) (by kernel_rfl)) resN) (fin_of (fun _ _ _ _ _ h => by cases h) rfl))
                  · rw [if_neg hb60] at h
                    refine Runs.cond (he56.get (t := 16) (v := (.s (.bool v53))) (by kernel_rfl)) (fun h0 => absurd h0 hb60) (fun _ => ?_)
                    obtain ⟨v63, hm64, h⟩ := Option.bind_eq_some_iff.1 h
                    refine Runs.mono (Q := fun x e h => x = .normal ∧ Sat [(16, (.s (.bool v63)))] e ∧ h = []) ?_ ?_
                    · by_cases hb65 : (decide (174 ≤ a0)) = true
                      · rw [if_pos hb65] at hm64
                        obtain rfl := Option.some.inj hm64
                        exact Runs.region he56 [(2, .b true)] [(16, (.s (.bool (decide (a0 ≤ 191)))))] (h := []) (fun env => by kernel_rfl) (And.intro hb65 trivial) (fun _ h => ⟨rfl, h, rfl⟩)
                      · rw [if_neg hb65] at hm64
                        obtain rfl := Option.some.inj hm64
                        exact Runs.region he56 [(2, .b false)] [(16, (.s (.bool false)))] (h := []) (fun env => by kernel_rfl) (And.intro (Bool.eq_false_iff.2 hb65) trivial) (fun _ h => ⟨rfl, h, rfl⟩)
                    rintro _ e67 h68 ⟨rfl, he66, hh69⟩
                    rw [hh69]
                    refine thenN ?_
                    by_cases hb70 : v63 = true
                    · rw [if_pos hb70] at h
                      refine Runs.cond (he66.get (t := 16) (v := (.s (.bool v63))) (by kernel_rfl)) (fun _ => ?_) (fun h0 => absurd (hb70.symm.trans h0) (by decide))
                      refine Runs.sq ?_
                      refine Runs.region he66 [] [(2, (.s (.bool true)))] (h := []) (fun env => by kernel_rfl) trivial (fun e72 he71 => ?_)
                      refine thenN ?_
                      refine Runs.ret ?_
                      refine blockR ?_
                      refine thenR ?_
                      obtain rfl := Option.some.inj h
                      exact RetOK37.endP ret_ne (RetOK37.of (resT (he71.get (t := 2) (v := (.s (.bool true))) (by kernel_rfl)) resN) (fin_of (fun _ _ _ _ _ h => by cases h) rfl))
                    · rw [if_neg hb70] at h
                      refine Runs.cond (he66.get (t := 16) (v := (.s (.bool v63))) (by kernel_rfl)) (fun h0 => absurd h0 hb70) (fun _ => ?_)
                      refine Runs.skip ?_
                      refine blockN ?_
                      refine thenN ?_
                      refine Runs.sq ?_
                      refine Runs.region he66 [] [(2, (.s (.bool false)))] (h := []) (fun env => by kernel_rfl) trivial (fun e74 he73 => ?_)
                      refine thenN ?_
                      refine Runs.ret ?_
                      obtain rfl := Option.some.inj h
                      exact RetOK37.endP ret_ne (RetOK37.of (resT (he73.get (t := 2) (v := (.s (.bool false))) (by kernel_rfl)) resN) (fin_of (fun _ _ _ _ _ h => by cases h) rfl))
/-! grommet/op.Look -/
def RetOK20 (r : OpR × Err) (e : Env) (h : Heap) : Prop := ∃ vs, resA P e h [.cell 2 59, .tmp 3] = some vs ∧ finA h (oneOf vs) = some (.tup [(OpR.av r.1), (Err.av r.2)])
theorem RetOK20.of {r : OpR × Err} {e : Env} {h : Heap} {vs : List AV} (h1 : resA P e h [.cell 2 59, .tmp 3] = some vs) (h2 : finA h (oneOf vs) = some (.tup [(OpR.av r.1), (Err.av r.2)])) : RetOK20 r e h := ⟨vs, h1, h2⟩
theorem RetOK20.endP {x : Ex} {r : OpR × Err} {e : Env} {h : Heap} (hx : ∀ k, x ≠ .exit k) (hr : RetOK20 r e h) : EndP P F20 (.tup [(OpR.av r.1), (Err.av r.2)]) x e h := by
  obtain ⟨vs, h1, h2⟩ := hr
  exact endQ hx rfl h1 h2
def L20_0 (g37 : Int → Option Bool) (g40 : OpR → Option OpR) (g38 : Option (List RowO)) (g39 : ByteArray → Option (List ByteArray)) (n : Nat) : Nat → Int → (List RowO) → Int → Int → Int → ByteArray → Int → (List Int) → Int → Int → Bool → Option (LO (OpR × Err) (Int × ByteArray × Int × (List Int) × Int × Int × Bool))
 | 0, _, _, _, _, _, _, _, _, _, _, _ => none
 | k + 1, s0, s11, s12, s13, b0_0, b0_1, b0_2, b0_3, b0_4, b0_5, b0_6 =>
  if (decide (s13 < s12)) then
   if (0 : Int) ≤ s13 then
    (s11[s13.toNat]?).bind fun x19 =>
    (g39 x19.names).bind fun r22 =>
    (show Option (Bool) from
     if (decide (x19.first ≤ s0)) then
      some (decide (s0 < (IntKind.i64.wrap (x19.first + (r22.length : Int)))))
     else
      some false).bind fun v26 =>
    if v26 then
     if (0 : Int) ≤ (IntKind.i64.wrap (s0 - x19.first)) then
      (r22[(IntKind.i64.wrap (s0 - x19.first)).toNat]?).bind fun x36 =>
      (g40 (OpR.mk s0 x36 x19.kind [] (0 : Int) (0 : Int) false)).bind fun r37 =>
      some (LO.ret ((OpR.mk r37.byte r37.name r37.kind r37.takes r37.gives r37.bytes r37.signed), Err.nil))
     else none
    else
     L20_0 g37 g40 g38 g39 n k s0 s11 s12 (IntKind.i64.wrap (s13 + 1)) b0_0 b0_1 b0_2 b0_3 b0_4 b0_5 b0_6
   else none
  else
   some (LO.out (b0_0, b0_1, b0_2, b0_3, b0_4, b0_5, b0_6))
set_option maxHeartbeats 4000000 in
theorem L20_0_ok {m : Int} {n : Nat} (g37 : Int → Option Bool) (hg37 : ∀ (a0 : Int) (r : Bool) (H : Heap), g37 a0 = some r → evF P (T m) n 37 [(.s (.int .i64 a0))] H = some ((.s (.bool r)), H)) (g40 : OpR → Option OpR) (hg40 : ∀ (a0 : OpR) (r : OpR) (H : Heap), g40 a0 = some r → evF P (T m) n 40 [(OpR.av a0)] H = some ((OpR.av r), H)) (g38 : Option (List RowO)) (hg38 : ∀  (r : (List RowO)) (H : Heap), g38  = some r → evF P (T m) n 38 [] H = some ((.sl (r.map RowO.av) .ro), H)) (g39 : ByteArray → Option (List ByteArray)) (hg39 : ∀ (a0 : ByteArray) (r : (List ByteArray)) (H : Heap), g39 a0 = some r → evF P (T m) n 39 [(.s (.string a0))] H = some ((.sl (r.map strAV) .ro), H)) : ∀ (k : Nat) (s0 : Int) (s11 : List RowO) (s12 : Int) (s13 : Int) (b0_0 : Int) (b0_1 : ByteArray) (b0_2 : Int) (b0_3 : List Int) (b0_4 : Int) (b0_5 : Int) (b0_6 : Bool) (ps11_ : Prov) (pb0_3_ : Prov) (e : Env) (H : Heap) (hk : AppT 1 1 H (b0_3.map intAV) pb0_3_) (he : Sat [(0, (.s (.int .i64 s0))), (2, (.ptr 0 0)), (11, (.sl (s11.map RowO.av) ps11_)), (12, (.s (.int .i64 s12))), (13, (.s (.int .i64 s13)))] e) (out : LO (OpR × Err) (Int × ByteArray × Int × (List Int) × Int × Int × Bool)) (h : L20_0 g37 g40 g38 g39 n k s0 s11 s12 s13 b0_0 b0_1 b0_2 b0_3 b0_4 b0_5 b0_6 = some out), ∃ x e' h', rdsOf P (T m) (evF P (T m) n) n 20 0 k e (Rec.box [(.s (.int .i64 b0_0)), (.s (.string b0_1)), (.s (.int .i64 b0_2)), (.sl (b0_3.map intAV) pb0_3_), (.s (.int .i64 b0_4)), (.s (.int .i64 b0_5)), (.s (.bool b0_6))] :: H) = some (x, e', h') ∧ LOQ out (fun r => (fun x e h => x = .ret ∧ RetOK20 r e h) x e' h') (fun o => (fun x e h => x = .exit 0 ∧ ∃ pb0_3_, ∃ Hs, AppT 1 1 Hs (o.2.2.2.1.map intAV) pb0_3_ ∧ Sat [(2, (.ptr 0 0))] e ∧ h = (Rec.box [(.s (.int .i64 o.1)), (.s (.string o.2.1)), (.s (.int .i64 o.2.2.1)), (.sl (o.2.2.2.1.map intAV) pb0_3_), (.s (.int .i64 o.2.2.2.2.1)), (.s (.int .i64 o.2.2.2.2.2.1)), (.s (.bool o.2.2.2.2.2.2))] :: Hs)) x e' h') := by
  intro k
  induction k with
  | zero => intro _ _ _ _ _ _ _ _ _ _ _ _ _ _ _ _ _ _ h; cases h
  | succ k ih =>
    intro s0 s11 s12 s13 b0_0 b0_1 b0_2 b0_3 b0_4 b0_5 b0_6 ps11_ pb0_3_ e H hk he out h
    dsimp only [L20_0] at h
    refine rds_step (rd_of (fi := F20) (c20 m) rfl ?_)
    refine Runs.sq ?_
    refine Runs.region he [] [(0, (.s (.int .i64 s0))), (2, (.ptr 0 0)), (11, (.sl (s11.map RowO.av) ps11_)), (12, (.s (.int .i64 s12))), (13, (.s (.int .i64 s13))), (14, (.s (.bool (decide (s13 < s12)))))] (h := (Rec.box [(.s (.int .i64 b0_0)), (.s (.string b0_1)), (.s (.int .i64 b0_2)), (.sl (b0_3.map intAV) pb0_3_), (.s (.int .i64 b0_4)), (.s (.int .i64 b0_5)), (.s (.bool b0_6))] :: H)) (fun env => by kernel_rfl) trivial (fun e15 he14 => ?_)
    refine thenN ?_
    refine Runs.sq ?_
    by_cases hb16 : (decide (s13 < s12)) = true
    · rw [if_pos hb16] at h
      refine Runs.cond (he14.get (t := 14) (v := (.s (.bool (decide (s13 < s12))))) (by kernel_rfl)) (fun _ => ?_) (fun h0 => absurd (hb16.symm.trans h0) (by decide))
      refine Runs.skip ?_
      refine thenN ?_
      refine Runs.sq ?_
      refine Runs.block ?_
      refine Runs.sq ?_
      by_cases hg17 : (0 : Int) ≤ s13
      rotate_left
      · rw [if_neg hg17] at h; cases h
      rw [if_pos hg17] at h
      obtain ⟨x19, hx18, h⟩ := Option.bind_eq_some_iff.1 h
      refine Runs.region he14 [(0, .e s13.toNat (.agg [(.s (.int .i64 x19.first)), (.s (.int .i64 x19.kind)), (.s (.string x19.names))])), (2, .n (H.length + 1)), (3, .st [(.s (.int .i64 0)), (.s (.int .i64 0)), (.s (.string ⟨#[]⟩))] (Rec.box [(.s (.int .i64 b0_0)), (.s (.string b0_1)), (.s (.int .i64 b0_2)), (.sl (b0_3.map intAV) pb0_3_), (.s (.int .i64 b0_4)), (.s (.int .i64 b0_5)), (.s (.bool b0_6))] :: (H ++ [Rec.box [(.s (.int .i64 x19.first)), (.s (.int .i64 x19.kind)), (.s (.string x19.names))]])))] [(0, (.s (.int .i64 s0))), (2, (.ptr 0 0)), (5, (.ptr (H.length + 1) 0)), (11, (.sl (s11.map RowO.av) ps11_)), (12, (.s (.int .i64 s12))), (13, (.s (.int .i64 s13)))] (h := (Rec.box [(.s (.int .i64 b0_0)), (.s (.string b0_1)), (.s (.int .i64 b0_2)), (.sl (b0_3.map intAV) pb0_3_), (.s (.int .i64 b0_4)), (.s (.int .i64 b0_5)), (.s (.bool b0_6))] :: (H ++ [Rec.box [(.s (.int .i64 x19.first)), (.s (.int .i64 x19.kind)), (.s (.string x19.names))]]))) (fun env => by kernel_rfl) (And.intro (And.intro (at_nat hg17) (get_map (f := RowO.av) hx18)) (And.intro (show List.length (Rec.box [(.s (.int .i64 b0_0)), (.s (.string b0_1)), (.s (.int .i64 b0_2)), (.sl (b0_3.map intAV) pb0_3_), (.s (.int .i64 b0_4)), (.s (.int .i64 b0_5)), (.s (.bool b0_6))] :: H) = (H.length + 1) from rfl) (And.intro (And.intro (show (Rec.box [(.s (.int .i64 b0_0)), (.s (.string b0_1)), (.s (.int .i64 b0_2)), (.sl (b0_3.map intAV) pb0_3_), (.s (.int .i64 b0_4)), (.s (.int .i64 b0_5)), (.s (.bool b0_6))] :: (H ++ [Rec.box [(.s (.int .i64 0)), (.s (.int .i64 0)), (.s (.string ⟨#[]⟩))]]))[(H.length + 1)]? = some (Rec.box [(.s (.int .i64 0)), (.s (.int .i64 0)), (.s (.string ⟨#[]⟩))]) from (get_cons late_get)) (show List.set (Rec.box [(.s (.int .i64 b0_0)), (.s (.string b0_1)), (.s (.int .i64 b0_2)), (.sl (b0_3.map intAV) pb0_3_), (.s (.int .i64 b0_4)), (.s (.int .i64 b0_5)), (.s (.bool b0_6))] :: (H ++ [Rec.box [(.s (.int .i64 0)), (.s (.int .i64 0)), (.s (.string ⟨#[]⟩))]])) (H.length + 1) (Rec.box [(.s (.int .i64 x19.first)), (.s (.int .i64 x19.kind)), (.s (.string x19.names))]) = (Rec.box [(.s (.int .i64 b0_0)), (.s (.string b0_1)), (.s (.int .i64 b0_2)), (.sl (b0_3.map intAV) pb0_3_), (.s (.int .i64 b0_4)), (.s (.int .i64 b0_5)), (.s (.bool b0_6))] :: (H ++ [Rec.box [(.s (.int .i64 x19.first)), (.s (.int .i64 x19.kind)), (.s (.string x19.names))]])) from (set_cons late_set))) trivial))) (fun e21 he20 => ?_)
      refine thenN ?_
      refine Runs.sq ?_
      obtain ⟨r22, hr23, h⟩ := Option.bind_eq_some_iff.1 h
      refine Runs.region he20 [(1, .c [(.s (.int .i64 x19.first)), (.s (.int .i64 x19.kind)), (.s (.string x19.names))]), (2, .f (.sl (r22.map strAV) .ro) (Rec.box [(.s (.int .i64 b0_0)), (.s (.string b0_1)), (.s (.int .i64 b0_2)), (.sl (b0_3.map intAV) pb0_3_), (.s (.int .i64 b0_4)), (.s (.int .i64 b0_5)), (.s (.bool b0_6))] :: (H ++ [Rec.box [(.s (.int .i64 x19.first)), (.s (.int .i64 x19.kind)), (.s (.string x19.names))]])))] [(0, (.s (.int .i64 s0))), (2, (.ptr 0 0)), (5, (.ptr (H.length + 1) 0)), (6, (.sl (r22.map strAV) .ro)), (11, (.sl (s11.map RowO.av) ps11_)), (12, (.s (.int .i64 s12))), (13, (.s (.int .i64 s13)))] (h := (Rec.box [(.s (.int .i64 b0_0)), (.s (.string b0_1)), (.s (.int .i64 b0_2)), (.sl (b0_3.map intAV) pb0_3_), (.s (.int .i64 b0_4)), (.s (.int .i64 b0_5)), (.s (.bool b0_6))] :: (H ++ [Rec.box [(.s (.int .i64 x19.first)), (.s (.int .i64 x19.kind)), (.s (.string x19.names))]]))) (fun env => by kernel_rfl) (And.intro (show (Rec.box [(.s (.int .i64 b0_0)), (.s (.string b0_1)), (.s (.int .i64 b0_2)), (.sl (b0_3.map intAV) pb0_3_), (.s (.int .i64 b0_4)), (.s (.int .i64 b0_5)), (.s (.bool b0_6))] :: (H ++ [Rec.box [(.s (.int .i64 x19.first)), (.s (.int .i64 x19.kind)), (.s (.string x19.names))]]))[(H.length + 1)]? = some (Rec.box [(.s (.int .i64 x19.first)), (.s (.int .i64 x19.kind)), (.s (.string x19.names))]) from (get_cons late_get)) (And.intro (hg39 x19.names  _ (Rec.box [(.s (.int .i64 b0_0)), (.s (.string b0_1)), (.s (.int .i64 b0_2)), (.sl (b0_3.map intAV) pb0_3_), (.s (.int .i64 b0_4)), (.s (.int .i64 b0_5)), (.s (.bool b0_6))] :: (H ++ [Rec.box [(.s (.int .i64 x19.first)), (.s (.int .i64 x19.kind)), (.s (.string x19.names))]]))  hr23) trivial)) (fun e25 he24 => ?_)
      refine thenN ?_
      refine Runs.sq ?_
      obtain ⟨v26, hm27, h⟩ := Option.bind_eq_some_iff.1 h
      refine Runs.mono (Q := fun x e h => x = .normal ∧ Sat [(0, (.s (.int .i64 s0))), (2, (.ptr 0 0)), (5, (.ptr (H.length + 1) 0)), (6, (.sl (r22.map strAV) .ro)), (11, (.sl (s11.map RowO.av) ps11_)), (12, (.s (.int .i64 s12))), (13, (.s (.int .i64 s13))), (32, (.s (.bool v26)))] e ∧ h = (Rec.box [(.s (.int .i64 b0_0)), (.s (.string b0_1)), (.s (.int .i64 b0_2)), (.sl (b0_3.map intAV) pb0_3_), (.s (.int .i64 b0_4)), (.s (.int .i64 b0_5)), (.s (.bool b0_6))] :: (H ++ [Rec.box [(.s (.int .i64 x19.first)), (.s (.int .i64 x19.kind)), (.s (.string x19.names))]]))) ?_ ?_
      · by_cases hb28 : (decide (x19.first ≤ s0)) = true
        · rw [if_pos hb28] at hm27
          obtain rfl := Option.some.inj hm27
          exact Runs.region he24 [(2, .c [(.s (.int .i64 x19.first)), (.s (.int .i64 x19.kind)), (.s (.string x19.names))]), (4, .b true), (7, .c [(.s (.int .i64 x19.first)), (.s (.int .i64 x19.kind)), (.s (.string x19.names))]), (9, .i (r22.length : Int))] [(0, (.s (.int .i64 s0))), (2, (.ptr 0 0)), (5, (.ptr (H.length + 1) 0)), (6, (.sl (r22.map strAV) .ro)), (11, (.sl (s11.map RowO.av) ps11_)), (12, (.s (.int .i64 s12))), (13, (.s (.int .i64 s13))), (32, (.s (.bool (decide (s0 < (IntKind.i64.wrap (x19.first + (r22.length : Int))))))))] (h := (Rec.box [(.s (.int .i64 b0_0)), (.s (.string b0_1)), (.s (.int .i64 b0_2)), (.sl (b0_3.map intAV) pb0_3_), (.s (.int .i64 b0_4)), (.s (.int .i64 b0_5)), (.s (.bool b0_6))] :: (H ++ [Rec.box [(.s (.int .i64 x19.first)), (.s (.int .i64 x19.kind)), (.s (.string x19.names))]]))) (fun env => by kernel_rfl) (And.intro (show (Rec.box [(.s (.int .i64 b0_0)), (.s (.string b0_1)), (.s (.int .i64 b0_2)), (.sl (b0_3.map intAV) pb0_3_), (.s (.int .i64 b0_4)), (.s (.int .i64 b0_5)), (.s (.bool b0_6))] :: (H ++ [Rec.box [(.s (.int .i64 x19.first)), (.s (.int .i64 x19.kind)), (.s (.string x19.names))]]))[(H.length + 1)]? = some (Rec.box [(.s (.int .i64 x19.first)), (.s (.int .i64 x19.kind)), (.s (.string x19.names))]) from (get_cons late_get)) (And.intro hb28 (And.intro (show (Rec.box [(.s (.int .i64 b0_0)), (.s (.string b0_1)), (.s (.int .i64 b0_2)), (.sl (b0_3.map intAV) pb0_3_), (.s (.int .i64 b0_4)), (.s (.int .i64 b0_5)), (.s (.bool b0_6))] :: (H ++ [Rec.box [(.s (.int .i64 x19.first)), (.s (.int .i64 x19.kind)), (.s (.string x19.names))]]))[(H.length + 1)]? = some (Rec.box [(.s (.int .i64 x19.first)), (.s (.int .i64 x19.kind)), (.s (.string x19.names))]) from (get_cons late_get)) (And.intro (len_map (l := r22) (f := strAV)) trivial)))) (fun _ h => ⟨rfl, h, rfl⟩)
        · rw [if_neg hb28] at hm27
          obtain rfl := Option.some.inj hm27
          exact Runs.region he24 [(2, .c [(.s (.int .i64 x19.first)), (.s (.int .i64 x19.kind)), (.s (.string x19.names))]), (4, .b false)] [(0, (.s (.int .i64 s0))), (2, (.ptr 0 0)), (5, (.ptr (H.length + 1) 0)), (6, (.sl (r22.map strAV) .ro)), (11, (.sl (s11.map RowO.av) ps11_)), (12, (.s (.int .i64 s12))), (13, (.s (.int .i64 s13))), (32, (.s (.bool false)))] (h := (Rec.box [(.s (.int .i64 b0_0)), (.s (.string b0_1)), (.s (.int .i64 b0_2)), (.sl (b0_3.map intAV) pb0_3_), (.s (.int .i64 b0_4)), (.s (.int .i64 b0_5)), (.s (.bool b0_6))] :: (H ++ [Rec.box [(.s (.int .i64 x19.first)), (.s (.int .i64 x19.kind)), (.s (.string x19.names))]]))) (fun env => by kernel_rfl) (And.intro (show (Rec.box [(.s (.int .i64 b0_0)), (.s (.string b0_1)), (.s (.int .i64 b0_2)), (.sl (b0_3.map intAV) pb0_3_), (.s (.int .i64 b0_4)), (.s (.int .i64 b0_5)), (.s (.bool b0_6))] :: (H ++ [Rec.box [(.s (.int .i64 x19.first)), (.s (.int .i64 x19.kind)), (.s (.string x19.names))]]))[(H.length + 1)]? = some (Rec.box [(.s (.int .i64 x19.first)), (.s (.int .i64 x19.kind)), (.s (.string x19.names))]) from (get_cons late_get)) (And.intro (Bool.eq_false_iff.2 hb28) trivial)) (fun _ h => ⟨rfl, h, rfl⟩)
      rintro _ e30 h31 ⟨rfl, he29, hh32⟩
      rw [hh32]
      refine thenN ?_
      by_cases hb33 : v26 = true
      · rw [if_pos hb33] at h
        refine Runs.cond (he29.get (t := 32) (v := (.s (.bool v26))) (by kernel_rfl)) (fun _ => ?_) (fun h0 => absurd (hb33.symm.trans h0) (by decide))
        refine Runs.sq ?_
        by_cases hg34 : (0 : Int) ≤ (IntKind.i64.wrap (s0 - x19.first))
        rotate_left
        · rw [if_neg hg34] at h; cases h
        rw [if_pos hg34] at h
        obtain ⟨x36, hx35, h⟩ := Option.bind_eq_some_iff.1 h
        obtain ⟨r37, hr38, h⟩ := Option.bind_eq_some_iff.1 h
        refine Runs.region he29 [(4, .c [(.s (.int .i64 x19.first)), (.s (.int .i64 x19.kind)), (.s (.string x19.names))]), (6, .e ((IntKind.i64.wrap (s0 - x19.first)).toNat) (.s (.string x36))), (9, .c [(.s (.int .i64 x19.first)), (.s (.int .i64 x19.kind)), (.s (.string x19.names))]), (11, .f (.agg [(.s (.int .i64 r37.byte)), (.s (.string r37.name)), (.s (.int .i64 r37.kind)), (.sl (r37.takes.map intAV) .ro), (.s (.int .i64 r37.gives)), (.s (.int .i64 r37.bytes)), (.s (.bool r37.signed))]) (Rec.box [(.s (.int .i64 b0_0)), (.s (.string b0_1)), (.s (.int .i64 b0_2)), (.sl (b0_3.map intAV) pb0_3_), (.s (.int .i64 b0_4)), (.s (.int .i64 b0_5)), (.s (.bool b0_6))] :: (H ++ [Rec.box [(.s (.int .i64 x19.first)), (.s (.int .i64 x19.kind)), (.s (.string x19.names))]])))] [(2, (.ptr 0 0)), (3, (.s .nilIface))] (h := (Rec.box [(.s (.int .i64 r37.byte)), (.s (.string r37.name)), (.s (.int .i64 r37.kind)), (.sl (r37.takes.map intAV) .ro), (.s (.int .i64 r37.gives)), (.s (.int .i64 r37.bytes)), (.s (.bool r37.signed))] :: (H ++ [Rec.box [(.s (.int .i64 x19.first)), (.s (.int .i64 x19.kind)), (.s (.string x19.names))]]))) (fun env => by kernel_rfl) (And.intro (show (Rec.box [(.s (.int .i64 b0_0)), (.s (.string b0_1)), (.s (.int .i64 b0_2)), (.sl (b0_3.map intAV) pb0_3_), (.s (.int .i64 b0_4)), (.s (.int .i64 b0_5)), (.s (.bool b0_6))] :: (H ++ [Rec.box [(.s (.int .i64 x19.first)), (.s (.int .i64 x19.kind)), (.s (.string x19.names))]]))[(H.length + 1)]? = some (Rec.box [(.s (.int .i64 x19.first)), (.s (.int .i64 x19.kind)), (.s (.string x19.names))]) from (get_cons late_get)) (And.intro (And.intro (at_nat hg34) (get_map (f := strAV) hx35)) (And.intro (show (Rec.box [(.s (.int .i64 b0_0)), (.s (.string b0_1)), (.s (.int .i64 b0_2)), (.sl (b0_3.map intAV) pb0_3_), (.s (.int .i64 b0_4)), (.s (.int .i64 b0_5)), (.s (.bool b0_6))] :: (H ++ [Rec.box [(.s (.int .i64 x19.first)), (.s (.int .i64 x19.kind)), (.s (.string x19.names))]]))[(H.length + 1)]? = some (Rec.box [(.s (.int .i64 x19.first)), (.s (.int .i64 x19.kind)), (.s (.string x19.names))]) from (get_cons late_get)) (And.intro ((pure_shut (P := P) (T := T m) (n := n) (fi := F40) (args := [(.agg [(.s (.int .i64 s0)), (.s (.string x36)), (.s (.int .i64 x19.kind)), (.sl [] .full), (.s (.int .i64 0)), (.s (.int .i64 0)), (.s (.bool false))])]) (bs := [(OpR.av (OpR.mk s0 x36 x19.kind [] (0 : Int) (0 : Int) false))]) (H := (Rec.box [(.s (.int .i64 b0_0)), (.s (.string b0_1)), (.s (.int .i64 b0_2)), (.sl (b0_3.map intAV) pb0_3_), (.s (.int .i64 b0_4)), (.s (.int .i64 b0_5)), (.s (.bool b0_6))] :: (H ++ [Rec.box [(.s (.int .i64 x19.first)), (.s (.int .i64 x19.kind)), (.s (.string x19.names))]]))) (x40 m) (oh40 m) (o40 m) (c40 m) rfl (shut_cons (shut_agg (shut_cons rfl (shut_cons rfl (shut_cons rfl (shut_cons (shut_sl rfl) (shut_cons rfl (shut_cons rfl (shut_cons rfl rfl)))))))) rfl) (shut_cons (OpR.shut 0 (OpR.mk s0 x36 x19.kind [] (0 : Int) (0 : Int) false)) rfl)).trans (hg40 (OpR.mk s0 x36 x19.kind [] (0 : Int) (0 : Int) false)  _ (Rec.box [(.s (.int .i64 b0_0)), (.s (.string b0_1)), (.s (.int .i64 b0_2)), (.sl (b0_3.map intAV) pb0_3_), (.s (.int .i64 b0_4)), (.s (.int .i64 b0_5)), (.s (.bool b0_6))] :: (H ++ [Rec.box [(.s (.int .i64 x19.first)), (.s (.int .i64 x19.kind)), (.s (.string x19.names))]]))  hr38)) trivial)))) (fun e40 he39 => ?_)
        refine thenN ?_
        refine Runs.ret ?_
        refine blockR ?_
        refine thenR ?_
        refine thenR ?_
        obtain rfl := Option.some.inj h
        exact LOQ.r ⟨rfl, RetOK20.of (resC (v := (.agg [(.s (.int .i64 r37.byte)), (.s (.string r37.name)), (.s (.int .i64 r37.kind)), (.sl (r37.takes.map intAV) .ro), (.s (.int .i64 r37.gives)), (.s (.int .i64 r37.bytes)), (.s (.bool r37.signed))])) (he39.get (t := 2) (v := (.ptr 0 0)) (by kernel_rfl)) (rfl : (Rec.box [(.s (.int .i64 r37.byte)), (.s (.string r37.name)), (.s (.int .i64 r37.kind)), (.sl (r37.takes.map intAV) .ro), (.s (.int .i64 r37.gives)), (.s (.int .i64 r37.bytes)), (.s (.bool r37.signed))] :: (H ++ [Rec.box [(.s (.int .i64 x19.first)), (.s (.int .i64 x19.kind)), (.s (.string x19.names))]]))[0]? = some (Rec.box [(.s (.int .i64 r37.byte)), (.s (.string r37.name)), (.s (.int .i64 r37.kind)), (.sl (r37.takes.map intAV) .ro), (.s (.int .i64 r37.gives)), (.s (.int .i64 r37.bytes)), (.s (.bool r37.signed))])) (by kernel_rfl) (resT (he39.get (t := 3) (v := (.s .nilIface)) (by kernel_rfl)) resN)) (fin_of (fun _ _ _ _ _ h => by cases h) (shut_tup (shut_cons (shut_agg (shut_cons rfl (shut_cons rfl (shut_cons rfl (shut_cons (shut_sl (shutL_map (fun _ => rfl) r37.takes)) (shut_cons rfl (shut_cons rfl (shut_cons rfl rfl)))))))) (shut_cons rfl rfl))))⟩
      · rw [if_neg hb33] at h
        refine Runs.cond (he29.get (t := 32) (v := (.s (.bool v26))) (by kernel_rfl)) (fun h0 => absurd h0 hb33) (fun _ => ?_)
        refine Runs.skip ?_
        refine blockN ?_
        refine thenN ?_
        refine Runs.region he29 [] [(0, (.s (.int .i64 s0))), (2, (.ptr 0 0)), (11, (.sl (s11.map RowO.av) ps11_)), (12, (.s (.int .i64 s12))), (13, (.s (.int .i64 (IntKind.i64.wrap (s13 + 1)))))] (h := (Rec.box [(.s (.int .i64 b0_0)), (.s (.string b0_1)), (.s (.int .i64 b0_2)), (.sl (b0_3.map intAV) pb0_3_), (.s (.int .i64 b0_4)), (.s (.int .i64 b0_5)), (.s (.bool b0_6))] :: (H ++ [Rec.box [(.s (.int .i64 x19.first)), (.s (.int .i64 x19.kind)), (.s (.string x19.names))]]))) (fun env => by kernel_rfl) trivial (fun e42 he41 => ?_)
        refine thenN ?_
        exact ih s0 s11 s12 (IntKind.i64.wrap (s13 + 1)) b0_0 b0_1 b0_2 b0_3 b0_4 b0_5 b0_6 ps11_ pb0_3_ _ (H ++ [Rec.box [(.s (.int .i64 x19.first)), (.s (.int .i64 x19.kind)), (.s (.string x19.names))]]) (AppT.ext hk) (he41.sub (by kernel_rfl)) _ h
    · rw [if_neg hb16] at h
      refine Runs.cond (he14.get (t := 14) (v := (.s (.bool (decide (s13 < s12))))) (by kernel_rfl)) (fun h0 => absurd h0 hb16) (fun _ => ?_)
      refine Runs.exit ?_
      refine thenX ?_
      refine thenX ?_
      obtain rfl := Option.some.inj h
      exact LOQ.o ⟨rfl, pb0_3_, H, hk, he14.sub (by kernel_rfl), rfl⟩
def S20 (g37 : Int → Option Bool) (g40 : OpR → Option OpR) (g38 : Option (List RowO)) (g39 : ByteArray → Option (List ByteArray)) (n : Nat) (a0 : Int) : Option (OpR × Err) :=
 (g37 a0).bind fun r3 =>
 if r3 then
  some ((OpR.mk (0 : Int) (⟨#[]⟩) (0 : Int) [] (0 : Int) (0 : Int) false), (Err.code 3))
 else
  (g38 ).bind fun r10 =>
  (L20_0 g37 g40 g38 g39 n n a0 r10 (r10.length : Int) (0 : Int) (0 : Int) (⟨#[]⟩) (0 : Int) [] (0 : Int) (0 : Int) false).bind fun lo43 => match lo43 with
  | .ret rx45 =>
   some rx45
  | .out o49 =>
   some ((OpR.mk (0 : Int) (⟨#[]⟩) (0 : Int) [] (0 : Int) (0 : Int) false), (Err.code 5))
set_option maxHeartbeats 4000000 in
theorem S20_ok {m : Int} {n : Nat} (g37 : Int → Option Bool) (hg37 : ∀ (a0 : Int) (r : Bool) (H : Heap), g37 a0 = some r → evF P (T m) n 37 [(.s (.int .i64 a0))] H = some ((.s (.bool r)), H)) (g40 : OpR → Option OpR) (hg40 : ∀ (a0 : OpR) (r : OpR) (H : Heap), g40 a0 = some r → evF P (T m) n 40 [(OpR.av a0)] H = some ((OpR.av r), H)) (g38 : Option (List RowO)) (hg38 : ∀  (r : (List RowO)) (H : Heap), g38  = some r → evF P (T m) n 38 [] H = some ((.sl (r.map RowO.av) .ro), H)) (g39 : ByteArray → Option (List ByteArray)) (hg39 : ∀ (a0 : ByteArray) (r : (List ByteArray)) (H : Heap), g39 a0 = some r → evF P (T m) n 39 [(.s (.string a0))] H = some ((.sl (r.map strAV) .ro), H)) (a0 : Int)  (r : OpR × Err) (H : Heap) (h : S20 g37 g40 g38 g39 n a0 = some r) : evF P (T m) (n + 1) 20 [(.s (.int .i64 a0))] H = some ((.tup [(OpR.av r.1), (Err.av r.2)]), H) := by
  refine call_pure' (fi := F20) (bs := [(.s (.int .i64 a0))]) (x20 m) (oh20 m) (o20 m) (c20 m) rfl rfl (shut_cons rfl rfl) ?_
  dsimp only [S20] at h
  have he : Sat [(0, (.s (.int .i64 a0)))] (argEnv [(.s (.int .i64 a0))]) := Sat.cons rfl (Sat.nil)
  refine (show Runs P (T m) (evF P (T m) n) n 20 F20 0 F20.body (argEnv [(.s (.int .i64 a0))]) [] _ from ?_)
  generalize argEnv [(.s (.int .i64 a0))] = e at he ⊢
  refine Runs.sq ?_
  refine Runs.region he [] [(0, (.s (.int .i64 a0))), (2, (.ptr 0 0))] (h := [Rec.box [(.s (.int .i64 0)), (.s (.string ⟨#[]⟩)), (.s (.int .i64 0)), (.sl [] .full), (.s (.int .i64 0)), (.s (.int .i64 0)), (.s (.bool false))]]) (fun env => by kernel_rfl) trivial (fun e2 he1 => ?_)
  refine thenN ?_
  refine Runs.sq ?_
  refine Runs.sq ?_
  obtain ⟨r3, hr4, h⟩ := Option.bind_eq_some_iff.1 h
  refine Runs.region he1 [(1, .f (.s (.bool r3)) [Rec.box [(.s (.int .i64 0)), (.s (.string ⟨#[]⟩)), (.s (.int .i64 0)), (.sl [] .full), (.s (.int .i64 0)), (.s (.int .i64 0)), (.s (.bool false))]])] [(0, (.s (.int .i64 a0))), (2, (.ptr 0 0)), (8, (.s (.bool r3)))] (h := [Rec.box [(.s (.int .i64 0)), (.s (.string ⟨#[]⟩)), (.s (.int .i64 0)), (.sl [] .full), (.s (.int .i64 0)), (.s (.int .i64 0)), (.s (.bool false))]]) (fun env => by kernel_rfl) (And.intro (hg37 a0  _ [Rec.box [(.s (.int .i64 0)), (.s (.string ⟨#[]⟩)), (.s (.int .i64 0)), (.sl [] .full), (.s (.int .i64 0)), (.s (.int .i64 0)), (.s (.bool false))]]  hr4) trivial) (fun e6 he5 => ?_)
  refine thenN ?_
  by_cases hb7 : r3 = true
  · rw [if_pos hb7] at h
    refine Runs.cond (he5.get (t := 8) (v := (.s (.bool r3))) (by kernel_rfl)) (fun _ => ?_) (fun h0 => absurd (hb7.symm.trans h0) (by decide))
    refine Runs.sq ?_
    refine Runs.region he5 [] [(2, (.ptr 0 0)), (3, (.ifc 39 (.s (.int .i64 3))))] (h := [Rec.box [(.s (.int .i64 0)), (.s (.string ⟨#[]⟩)), (.s (.int .i64 0)), (.sl [] .full), (.s (.int .i64 0)), (.s (.int .i64 0)), (.s (.bool false))]]) (fun env => by kernel_rfl) trivial (fun e9 he8 => ?_)
    refine thenN ?_
    refine Runs.ret ?_
    refine thenR ?_
    obtain rfl := Option.some.inj h
    exact RetOK20.endP ret_ne (RetOK20.of (resC (v := (.agg [(.s (.int .i64 0)), (.s (.string ⟨#[]⟩)), (.s (.int .i64 0)), (.sl [] .full), (.s (.int .i64 0)), (.s (.int .i64 0)), (.s (.bool false))])) (he8.get (t := 2) (v := (.ptr 0 0)) (by kernel_rfl)) (rfl : [Rec.box [(.s (.int .i64 0)), (.s (.string ⟨#[]⟩)), (.s (.int .i64 0)), (.sl [] .full), (.s (.int .i64 0)), (.s (.int .i64 0)), (.s (.bool false))]][0]? = some (Rec.box [(.s (.int .i64 0)), (.s (.string ⟨#[]⟩)), (.s (.int .i64 0)), (.sl [] .full), (.s (.int .i64 0)), (.s (.int .i64 0)), (.s (.bool false))])) (by kernel_rfl) (resT (he8.get (t := 3) (v := (.ifc 39 (.s (.int .i64 3)))) (by kernel_rfl)) resN)) (fin_of (fun _ _ _ _ _ h => by cases h) (shut_tup (shut_cons (shut_agg (shut_cons rfl (shut_cons rfl (shut_cons rfl (shut_cons (shut_sl rfl) (shut_cons rfl (shut_cons rfl (shut_cons rfl rfl)))))))) (shut_cons rfl rfl)))))
  · rw [if_neg hb7] at h
    refine Runs.cond (he5.get (t := 8) (v := (.s (.bool r3))) (by kernel_rfl)) (fun h0 => absurd h0 hb7) (fun _ => ?_)
    refine Runs.skip ?_
    refine thenN ?_
    refine Runs.sq ?_
    refine Runs.sq ?_
    obtain ⟨r10, hr11, h⟩ := Option.bind_eq_some_iff.1 h
    refine Runs.region he5 [(0, .f (.sl (r10.map RowO.av) .ro) [Rec.box [(.s (.int .i64 0)), (.s (.string ⟨#[]⟩)), (.s (.int .i64 0)), (.sl [] .full), (.s (.int .i64 0)), (.s (.int .i64 0)), (.s (.bool false))]]), (1, .i (r10.length : Int))] [(0, (.s (.int .i64 a0))), (2, (.ptr 0 0)), (11, (.sl (r10.map RowO.av) .ro)), (12, (.s (.int .i64 (r10.length : Int)))), (13, (.s (.int .i64 0)))] (h := [Rec.box [(.s (.int .i64 0)), (.s (.string ⟨#[]⟩)), (.s (.int .i64 0)), (.sl [] .full), (.s (.int .i64 0)), (.s (.int .i64 0)), (.s (.bool false))]]) (fun env => by kernel_rfl) (And.intro (hg38   _ [Rec.box [(.s (.int .i64 0)), (.s (.string ⟨#[]⟩)), (.s (.int .i64 0)), (.sl [] .full), (.s (.int .i64 0)), (.s (.int .i64 0)), (.s (.bool false))]]  hr11) (And.intro (len_map (l := r10) (f := RowO.av)) trivial)) (fun e13 he12 => ?_)
    refine thenN ?_
    refine Runs.block ?_
    obtain ⟨lo43, hl44, h⟩ := Option.bind_eq_some_iff.1 h
    obtain ⟨x45, e46, he46, hd48, hq47⟩ := L20_0_ok g37 hg37 g40 hg40 g38 hg38 g39 hg39 n a0 r10 (r10.length : Int) (0 : Int) (0 : Int) (⟨#[]⟩) (0 : Int) [] (0 : Int) (0 : Int) false .ro .full _ [] (AppT.nil (sz := 1) (k := 1) (Hs := [])) (he12.sub (by kernel_rfl)) lo43 hl44
    refine Runs.loop ⟨x45, e46, he46, by rw [lpOf_eq]; exact hd48, ?_⟩
    cases lo43 with
    | ret rx45 =>
      dsimp only at h
      obtain ⟨rfl, hq47⟩ := hq47
      refine blockR ?_
      refine thenR ?_
      obtain rfl := Option.some.inj h
      exact RetOK20.endP ret_ne hq47
    | out o49 =>
      dsimp only at h
      obtain ⟨rfl, p54, H52, hk53, he50, hh51⟩ := hq47
      rw [hh51]
      refine blockE ?_
      refine thenN ?_
      refine Runs.sq ?_
      refine Runs.region he50 [] [(2, (.ptr 0 0)), (3, (.ifc 39 (.s (.int .i64 5))))] (h := (Rec.box [(.s (.int .i64 0)), (.s (.string ⟨#[]⟩)), (.s (.int .i64 0)), (.sl [] .full), (.s (.int .i64 0)), (.s (.int .i64 0)), (.s (.bool false))] :: H52)) (fun env => by kernel_rfl) trivial (fun e57 he56 => ?_)
      refine thenN ?_
      refine Runs.ret ?_
      obtain rfl := Option.some.inj h
      exact RetOK20.endP ret_ne (RetOK20.of (resC (v := (.agg [(.s (.int .i64 0)), (.s (.string ⟨#[]⟩)), (.s (.int .i64 0)), (.sl [] .full), (.s (.int .i64 0)), (.s (.int .i64 0)), (.s (.bool false))])) (he56.get (t := 2) (v := (.ptr 0 0)) (by kernel_rfl)) (rfl : (Rec.box [(.s (.int .i64 0)), (.s (.string ⟨#[]⟩)), (.s (.int .i64 0)), (.sl [] .full), (.s (.int .i64 0)), (.s (.int .i64 0)), (.s (.bool false))] :: H52)[0]? = some (Rec.box [(.s (.int .i64 0)), (.s (.string ⟨#[]⟩)), (.s (.int .i64 0)), (.sl [] .full), (.s (.int .i64 0)), (.s (.int .i64 0)), (.s (.bool false))])) (by kernel_rfl) (resT (he56.get (t := 3) (v := (.ifc 39 (.s (.int .i64 5)))) (by kernel_rfl)) resN)) (fin_of (fun _ _ _ _ _ h => by cases h) (shut_tup (shut_cons (shut_agg (shut_cons rfl (shut_cons rfl (shut_cons rfl (shut_cons (shut_sl rfl) (shut_cons rfl (shut_cons rfl (shut_cons rfl rfl)))))))) (shut_cons rfl rfl)))))
end Go.Proofs.YtggoggdcnahkaaaDoor
