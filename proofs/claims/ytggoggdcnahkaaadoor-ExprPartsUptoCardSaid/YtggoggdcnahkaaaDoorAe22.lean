/- A function's code, region by region, with answers handed in where the evaluator would wait. -/
import Derived.Test.YtggoggdcnahkaaaDoorAe21
set_option linter.unusedVariables false
set_option linter.unusedSimpArgs false
namespace Go.Proofs.YtggoggdcnahkaaaDoor
open Go Go.RowKit

/-- What is handed in of one operation: how its test falls; how its number is spelled; what a call hands back; the element at a place; a text's letter; a box's cells; from where to where is cut. -/
inductive Ans where
  | b (t : Bool)
  | i (n : Int)
  | f (x : AV) (h : Heap)
  | e (n : Nat) (y : AV)
  | ch (n : Nat) (c : UInt8)
  | c (cs : List AV)
  | cut (lo hi : Nat) (ys : List AV)
  | cuts (lo hi : Nat)
  | q (v : AV)
  | n (τ : Nat)
  | st (cs : List AV) (h : Heap)
  | nb (τ : Nat) (h : Heap)

section
variable (P : Program) (G : Nat → Nat → Option Value) (pure : FuncId → Bool) (bf : TypeId → Bool) (cf : FuncId → List AV → Heap → Option (AV × Heap)) (live : List Nat) (lp : Nat → Env → Heap → Option (Ex × Env × Heap))

def intOf : Option AV → Option Int
  | some (.s (.int _ z)) => some z
  | _ => none
def optInt (env : Env) : Option Operand → Option (Option Int)
  | none => some none
  | some l => (intOf (valA env l)).map some
def isAt (z : Option Int) (n : Nat) : Prop := ∀ x, z = some x → x = (n : Int)

/-- An operation with an answer: what is to be shown of it, its value, the tokens behind it. -/
def ask (o : Oper) (env : Env) (H : Heap) : Ans → Option (Prop × AV × Heap)
  | .b t => match evOp P G bf cf o env H with
    | some (.s (.bool u), h) => some (u = t, .s (.bool t), h)
    | _ => none
  | .i n => match evOp P G bf cf o env H with
    | some (.s (.int k u), h) => some (u = n, .s (.int k n), h)
    | _ => none
  | .f x h => match o.op with
    | .call c => match c.callee with
      | .value f => match valA env f, valsA env c.args.toList with
        | some (.clo g caps), some l => some (cf g (l ++ caps) H = some (x, h), x, h)
        | _, _ => none
      | .builtin .append => match valsA env c.args.toList with
        | some l => some (appendC P bf c.argTypes l H = some (x, h), x, h)
        | none => none
      | _ => none
    | _ => none
  | .e n y => match o.op with
    | .indexAddr t x i => match arrT P t, elT P t, valA env x, intOf (valA env i) with
      | none, some e, some (.sl xs _), some z => if szT P e = some y.cells.length then some (z = (n : Int) ∧ xs[n]? = some y, .ip y.cells 0, H) else none
      | _, _, _, _ => none
    | _ => none
  | .ch n c => match o.op with
    | .index t x i => match strT P t, valA env x, intOf (valA env i) with
      | some true, some (.s (.string s)), some z => some (z = (n : Int) ∧ s.data.toList[n]? = some c, .s (.int .u8 c.toNat), H)
      | _, _, _ => none
    | _ => none
  | .c cs => match o.op with
    | .load t a => match valA env a with
      | some (.ptr τ k) => match loadA P t cs k with
        | some v => some (H[τ]? = some (.box cs), v, H)
        | none => none
      | _ => none
    | .store t a x => match valA env a, valA env x, szT P t with
      | some (.ptr τ k), some v, some n => if v.cells.length = n ∧ v.isTup = false ∧ k + n ≤ cs.length then some (H[τ]? = some (.box cs), .tup [], H.set τ (.box (putCells cs k v.cells))) else none
      | _, _, _ => none
    | _ => none
  | .cuts lo hi => match o.op with
    | .slice t x l h none => match optInt env l, optInt env h with
      | some zl, some zh => match valA env x, elT P t with
        | some (.s (.string s)), none => if strT P t = some true then some ((zl.getD 0 = (lo : Int) ∧ zh.getD s.size = (hi : Int)) ∧ lo ≤ hi ∧ hi ≤ s.size, .s (.string (s.extract lo hi)), H) else none
        | _, _ => none
      | _, _ => none
    | _ => none
  | .cut lo hi ys => match o.op with
    | .slice t x l h none => match optInt env l, optInt env h with
      | some zl, some zh => match valA env x, elT P t with
        | some (.sl xs p), some e => match szT P e with
          | some sz => some ((zl.getD 0 = (lo : Int) ∧ zh.getD xs.length = (hi : Int)) ∧ lo ≤ hi ∧ hi ≤ xs.length ∧ (zl.isNone = false → widths sz xs = true) ∧ (xs.take hi).drop lo = ys, .sl ys (provS (zl.map Int.toNat) (zh.map Int.toNat) p), H)
          | none => none
        | _, _ => none
      | _, _ => none
    | _ => none
  | .n τ => match o.op with
    | .alloc e => match (zeroT P e).bind constAV with
      | some z => some (H.length = τ, .ptr τ 0, H ++ [.box z.cells])
      | none => none
    | .box e x => match valA env x with
      | some v => if v.isTup = false then some (H.length = τ, .ptr τ 0, H ++ [.box v.cells]) else none
      | none => none
    | _ => none
  | .nb τ h => match o.op with
    | .alloc e => match (zeroT P e).bind constAV with
      | some z => some (H.length = τ ∧ H ++ [.box z.cells] = h, .ptr τ 0, h)
      | none => none
    | .box e x => match valA env x with
      | some v => if v.isTup = false then some (H.length = τ ∧ H ++ [.box v.cells] = h, .ptr τ 0, h) else none
      | none => none
    | _ => none
  | .st cs h => match o.op with
    | .store t a x => match valA env a, valA env x, szT P t with
      | some (.ptr τ k), some v, some n => if v.cells.length = n ∧ v.isTup = false ∧ k + n ≤ cs.length then some (H[τ]? = some (.box cs) ∧ H.set τ (.box (putCells cs k v.cells)) = h, .tup [], h) else none
      | _, _, _ => none
    | _ => none
  | .q v => match o.op with
    | .binOp op t x y _ => match valA env x, valA env y with
      | some a, some b => match conc a, conc b with
        | some u, some w => some (scalarOf (pureRun P (do eqGuard op t x y u w; binOp op t u w)) = some v, v, H)
        | _, _ => none
      | _, _ => none
    | .convert src dst x => match valA env x, elT P src, strT P dst, v with
      | some (.sl xs _), some e, some true, .s (.string s) => if u8T P e = some true then some (xs.mapM byteOf = some s.data.toList, v, H) else none
      | _, _, _, _ => none
    | _ => none

theorem natA_of {x : AV} {z : Int} {n : Nat} (h : intOf (some x) = some z) (hz : z = (n : Int)) : natA x = some n := by
  subst hz
  unfold intOf at h
  split at h
  · rename_i k z' he
    injection he with he; subst he
    injection h with h; subst h
    simp [natA]
  · cases h
theorem intOf_some {v : Option AV} {z : Int} (h : intOf v = some z) : ∃ x, v = some x ∧ intOf (some x) = some z := by
  cases v with
  | none => simp [intOf] at h
  | some x => exact ⟨x, rfl, h⟩

theorem optNat_of {env : Env} {l : Option Operand} {z : Option Int} (h : optInt env l = some z) (hz : ∀ x, z = some x → 0 ≤ x) : optNat env l = some (z.map Int.toNat) := by
  cases l with
  | none => simp only [optInt] at h; injection h with h; subst h; rfl
  | some l =>
    simp only [optInt, Option.map_eq_some_iff] at h
    obtain ⟨x, h1, h2⟩ := h
    subst h2
    obtain ⟨y, e, h3⟩ := intOf_some h1
    have h0 := hz x rfl
    have := natA_of (n := x.toNat) h3 (Int.toNat_of_nonneg h0).symm
    show ((valA env l).bind natA).map some = _
    rw [e, Option.bind_some, this]
    rfl

theorem ask_ok {o : Oper} {env : Env} {H : Heap} {a : Ans} {φ : Prop} {v : AV} {h : Heap} (ha : ask P G bf cf o env H a = some (φ, v, h)) (hφ : φ) : evOp P G bf cf o env H = some (v, h) := by
  cases a with
  | b t =>
    simp only [ask] at ha
    split at ha
    · rename_i u h' he
      injection ha with ha; injection ha with e1 e2; injection e2 with e2 e3
      subst e1 e2 e3
      subst hφ
      exact he
    · cases ha
  | i n =>
    simp only [ask] at ha
    split at ha
    · rename_i k u h' he
      injection ha with ha; injection ha with e1 e2; injection e2 with e2 e3
      subst e1 e2 e3
      subst hφ
      exact he
    · cases ha
  | f x h' =>
    simp only [ask] at ha
    split at ha
    · rename_i c ho
      split at ha
      · rename_i f hc
        split at ha
        · rename_i g caps l h1 h2
          injection ha with ha; injection ha with e1 e2; injection e2 with e2 e3
          subst e1 e2 e3
          simp only [evOp, ho, hc, h1, h2]
          exact hφ
        · cases ha
      · rename_i hc
        split at ha
        · rename_i l h1
          injection ha with ha; injection ha with e1 e2; injection e2 with e2 e3
          subst e1 e2 e3
          simp only [evOp, ho, hc, h1]
          exact hφ
        · cases ha
      · cases ha
    · cases ha
  | e n y =>
    simp only [ask] at ha
    split at ha
    · rename_i t x i ho
      split at ha
      · rename_i e xs p z h1 h2 h3 h4
        split at ha
        · rename_i hsz
          injection ha with ha; injection ha with e1 e2; injection e2 with e2 e3
          subst e1 e2 e3
          obtain ⟨hz, hx⟩ := hφ
          obtain ⟨iv, e5, h5⟩ := intOf_some h4
          have h6 := natA_of h5 hz
          simp only [evOp, evN, ho, h1, h2, h3, e5, Option.bind_some, h6, hsz, hx, if_true, Option.map_some]
        · cases ha
      · cases ha
    · cases ha
  | ch n c =>
    simp only [ask] at ha
    split at ha
    · rename_i t x i ho
      split at ha
      · rename_i s z h1 h2 h4
        injection ha with ha; injection ha with e1 e2; injection e2 with e2 e3
        subst e1 e2 e3
        obtain ⟨hz, hx⟩ := hφ
        obtain ⟨iv, e5, h5⟩ := intOf_some h4
        have h6 := natA_of h5 hz
        simp only [evOp, evN, ho, h1, h2, e5, Option.bind_some, h6, hx, Option.map_some]
      · cases ha
    · cases ha
  | c cs =>
    simp only [ask] at ha
    split at ha
    · rename_i t a ho
      split at ha
      · rename_i τ k h1
        split at ha
        · rename_i w hw
          injection ha with ha; injection ha with e1 e2; injection e2 with e2 e3
          subst e1 e2 e3
          simp only [evOp, ho, h1, hφ, hw, Option.map_some]
        · cases ha
      · cases ha
    · rename_i t a x ho
      split at ha
      · rename_i τ k w n h1 h2 h3
        split at ha
        · rename_i hc
          injection ha with ha; injection ha with e1 e2; injection e2 with e2 e3
          subst e1 e2 e3
          simp only [evOp, ho, h1, h2, h3, hφ, hc, and_self, if_true]
        · cases ha
      · cases ha
    · cases ha
  | cuts lo hi =>
    simp only [ask] at ha
    split at ha
    · rename_i t x l h' ho
      split at ha
      · rename_i zl zh hl hh
        split at ha
        · rename_i s h1 h2
          split at ha
          · rename_i hst
            injection ha with ha; injection ha with e1 e2; injection e2 with e2 e3
            subst e1 e2 e3
            obtain ⟨⟨g1, g2⟩, g3, g4⟩ := hφ
            have k1 : ∀ x, zl = some x → 0 ≤ x := fun x e => by subst e; simp at g1; omega
            have k2 : ∀ x, zh = some x → 0 ≤ x := fun x e => by subst e; simp at g2; omega
            have m1 : (zl.map Int.toNat).getD 0 = lo := by cases zl <;> simp at g1 ⊢ <;> omega
            have m2 : (zh.map Int.toNat).getD s.size = hi := by cases zh <;> simp at g2 ⊢ <;> omega
            simp only [evOp, evN, ho, h1, h2, optNat_of hl k1, optNat_of hh k2, m1, m2, hst, g3, g4, and_self, if_true, Option.map_some]
          · cases ha
        · cases ha
      · cases ha
    · cases ha
  | cut lo hi ys =>
    simp only [ask] at ha
    split at ha
    · rename_i t x l h' ho
      split at ha
      · rename_i zl zh hl hh
        split at ha
        · rename_i xs p e h1 h2
          split at ha
          · rename_i sz hsz
            injection ha with ha; injection ha with e1 e2; injection e2 with e2 e3
            subst e1 e2 e3
            obtain ⟨⟨g1, g2⟩, g3, g4, g5, rfl⟩ := hφ
            have k1 : ∀ x, zl = some x → 0 ≤ x := fun x e => by subst e; simp at g1; omega
            have k2 : ∀ x, zh = some x → 0 ≤ x := fun x e => by subst e; simp at g2; omega
            have m1 : (zl.map Int.toNat).getD 0 = lo := by cases zl <;> simp at g1 ⊢ <;> omega
            have m2 : (zh.map Int.toNat).getD xs.length = hi := by cases zh <;> simp at g2 ⊢ <;> omega
            have m3 : ((zl.map Int.toNat).isNone || widths sz xs) = true := by
              cases zl with
              | none => rfl
              | some z => rw [g5 rfl]; simp
            simp only [evOp, evN, ho, h1, h2, hsz, optNat_of hl k1, optNat_of hh k2, m3, if_true, sliceA, m1, m2, g3, g4, and_self, Option.map_some]
          · cases ha
        · cases ha
      · cases ha
    · cases ha
  | n τ =>
    simp only [ask] at ha
    split at ha
    · rename_i e ho
      split at ha
      · rename_i z hz
        injection ha with ha; injection ha with e1 e2; injection e2 with e2 e3
        subst e1 e2 e3
        simp only [evOp, ho, hz, hφ]
      · cases ha
    · rename_i e x ho
      split at ha
      · rename_i w hw
        split at ha
        · rename_i hc
          injection ha with ha; injection ha with e1 e2; injection e2 with e2 e3
          subst e1 e2 e3
          simp only [evOp, ho, hw, hc, hφ, if_true]
        · cases ha
      · cases ha
    · cases ha
  | nb τ h' =>
    simp only [ask] at ha
    split at ha
    · rename_i e ho
      split at ha
      · rename_i z hz
        injection ha with ha; injection ha with e1 e2; injection e2 with e2 e3
        subst e1 e2 e3
        simp only [evOp, ho, hz, hφ.1, hφ.2]
      · cases ha
    · rename_i e x ho
      split at ha
      · rename_i w hw
        split at ha
        · rename_i hc
          injection ha with ha; injection ha with e1 e2; injection e2 with e2 e3
          subst e1 e2 e3
          simp only [evOp, ho, hw, hc, hφ.1, hφ.2, if_true]
        · cases ha
      · cases ha
    · cases ha
  | st cs h' =>
    simp only [ask] at ha
    split at ha
    · rename_i t a x ho
      split at ha
      · rename_i τ k w n h1 h2 h3
        split at ha
        · rename_i hc
          injection ha with ha; injection ha with e1 e2; injection e2 with e2 e3
          subst e1 e2 e3
          simp only [evOp, ho, h1, h2, h3, hφ.1, hc, and_self, if_true, hφ.2]
        · cases ha
      · cases ha
    · cases ha
  | q w =>
    simp only [ask] at ha
    split at ha
    · rename_i op t x y ty ho
      split at ha
      · rename_i a b h1 h2
        split at ha
        · rename_i u w' h3 h4
          injection ha with ha; injection ha with e1 e2; injection e2 with e2 e3
          subst e1 e2 e3
          simp only [evOp, evN, ho, h1, h2, h3, h4, hφ, Option.map_some]
        · cases ha
      · cases ha
    · rename_i src dst x ho
      split at ha
      · rename_i xs p e2 s h1 h2 h3
        split at ha
        · rename_i hu
          injection ha with ha; injection ha with e1 e2; injection e2 with e2 e3
          subst e1 e2 e3
          simp only [evOp, evN, ho, h1, h2, h3, hu, hφ, Option.map_some, Array.toArray_toList]
        · cases ha
      · cases ha
    · cases ha

def evOpsS (ops : Array Oper) (sc : List (Nat × Ans)) : Nat → List Oper → Env → Heap → Option (Prop × Env × Heap)
  | _, [], env, H => some (True, env, H)
  | i, o :: rest, env, H =>
    match wantedA ops o env with
    | none => none
    | some b =>
      if b = true then
        match sc.lookup i with
        | some a => match ask P G bf cf o env H a with
          | none => none
          | some (φ, v, H') => match evOpsS ops sc (i + 1) rest (Env.put env o.dst v) H' with
            | none => none
            | some (ψ, e, h) => some (φ ∧ ψ, e, h)
        | none => match evOp P G bf cf o env H with
          | none => none
          | some (v, H') => evOpsS ops sc (i + 1) rest (Env.put env o.dst v) H'
      else evOpsS ops sc (i + 1) rest (Env.put env o.dst (.tup [])) H

theorem evOpsS_ok {ops : Array Oper} {sc : List (Nat × Ans)} : ∀ (l : List Oper) (i : Nat) (env : Env) (H : Heap) (φ : Prop) (e : Env) (h : Heap), evOpsS P G bf cf ops sc i l env H = some (φ, e, h) → φ → evOps P G bf cf ops l env H = some (e, h)
  | [], i, env, H, φ, e, h, hs, hφ => by
    simp only [evOpsS] at hs
    injection hs with hs; injection hs with e1 e2; injection e2 with e2 e3
    subst e2 e3
    rfl
  | o :: l, i, env, H, φ, e, h, hs, hφ => by
    simp only [evOpsS] at hs
    simp only [evOps]
    cases hw : wantedA ops o env with
    | none => rw [hw] at hs; cases hs
    | some b =>
      rw [hw] at hs
      simp only at hs ⊢
      cases b with
      | false =>
        simp only [Bool.false_eq_true, if_false] at hs ⊢
        exact evOpsS_ok l _ _ _ _ _ _ hs hφ
      | true =>
        simp only [if_true] at hs ⊢
        cases ha : sc.lookup i with
        | none =>
          rw [ha] at hs
          simp only at hs
          cases ho : evOp P G bf cf o env H with
          | none => rw [ho] at hs; cases hs
          | some x =>
            obtain ⟨v, H'⟩ := x
            rw [ho] at hs
            exact evOpsS_ok l _ _ _ _ _ _ hs hφ
        | some a =>
          rw [ha] at hs
          simp only at hs
          cases hk : ask P G bf cf o env H a with
          | none => rw [hk] at hs; cases hs
          | some x =>
            obtain ⟨φ1, v, H'⟩ := x
            rw [hk] at hs
            simp only at hs
            cases hr : evOpsS P G bf cf ops sc (i + 1) l (Env.put env o.dst v) H' with
            | none => rw [hr] at hs; cases hs
            | some y =>
              obtain ⟨ψ, e', h'⟩ := y
              rw [hr] at hs
              injection hs with hs; injection hs with e1 e2; injection e2 with e2 e3
              subst e1 e2 e3
              rw [ask_ok P G bf cf hk hφ.1]
              exact evOpsS_ok l _ _ _ _ _ _ hr hφ.2

end

/-- Slots that hold what is listed. -/
def Sat (L : List (Nat × AV)) (env : Env) : Prop := ∀ p ∈ L, env p.1 = some p.2
def over (L : List (Nat × AV)) (env : Env) : Env := fun t => match L.lookup t with
  | some v => some v
  | none => env t
theorem over_eq {L : List (Nat × AV)} {env : Env} (h : Sat L env) : over L env = env := by
  funext t
  unfold over
  cases hl : L.lookup t with
  | none => rfl
  | some v =>
    have : ∀ L : List (Nat × AV), L.lookup t = some v → (t, v) ∈ L := by
      intro L
      induction L with
      | nil => intro h; cases h
      | cons p L ih =>
        obtain ⟨k, w⟩ := p
        intro h
        simp only [List.lookup_cons] at h
        by_cases e : (t == k) = true
        · rw [e] at h
          simp only at h
          injection h with h; subst h
          have e' : t = k := by simpa using e
          subst e'
          exact List.mem_cons_self
        · have e' : (t == k) = false := by simpa using e
          rw [e'] at h
          exact List.mem_cons_of_mem _ (ih h)
    exact (h _ (this L hl)).symm
theorem Sat.nil {env : Env} : Sat [] env := fun _ h => by cases h
theorem Sat.cons {t : Nat} {v : AV} {L : List (Nat × AV)} {env : Env} (h : env t = some v) (hl : Sat L env) : Sat ((t, v) :: L) env := by
  intro p hp
  rcases List.mem_cons.1 hp with rfl | hp
  · exact h
  · exact hl p hp
theorem Sat.hd {t : Nat} {v : AV} {L : List (Nat × AV)} {env : Env} (h : Sat ((t, v) :: L) env) : env t = some v := h (t, v) List.mem_cons_self
theorem Sat.tl {t : Nat} {v : AV} {L : List (Nat × AV)} {env : Env} (h : Sat ((t, v) :: L) env) : Sat L env := fun p hp => h p (List.mem_cons_of_mem _ hp)
theorem Sat.get {L : List (Nat × AV)} {env : Env} (h : Sat L env) {t : Nat} {v : AV} (hl : L.lookup t = some v) : env t = some v := by
  have := congrFun (over_eq h) t
  unfold over at this
  rw [hl] at this
  exact this.symm
/-- What is listed of slots that are listed already. -/
theorem Sat.sub {L L' : List (Nat × AV)} {env : Env} (h : Sat L env) (hl : L'.map (fun p => L.lookup p.1) = L'.map (fun p => some p.2)) : Sat L' env := by
  intro p hp
  refine h.get ?_
  induction L' with
  | nil => cases hp
  | cons q L' ih =>
    simp only [List.map_cons, List.cons.injEq] at hl
    rcases List.mem_cons.1 hp with rfl | hp
    · exact hl.1
    · exact ih hl.2 hp
theorem sat_of_map {outs : List (Nat × AV)} {e : Env} (h : outs.map (fun p => e p.1) = outs.map (fun p => some p.2)) : Sat outs e := by
  intro p hp
  induction outs with
  | nil => cases hp
  | cons q L ih =>
    simp only [List.map_cons, List.cons.injEq] at h
    rcases List.mem_cons.1 hp with rfl | hp
    · exact h.1
    · exact ih h.2 hp

section
variable {P : Program} {T : Tab} {cf : FuncId → List AV → Heap → Option (AV × Heap)} {n : Nat} {f : FuncId} {fi : FnInfo}

/-- Code from a state on comes to an ending of which Q holds. -/
def Runs (P : Program) (T : Tab) (cf : FuncId → List AV → Heap → Option (AV × Heap)) (n : Nat) (f : FuncId) (fi : FnInfo) (i : Nat) (c : Code) (env : Env) (H : Heap) (Q : Ex → Env → Heap → Prop) : Prop :=
  ∃ x e h, evCL P T.G T.pure (fi.bf.contains ·) cf fi.live (lpOf P T cf n f) i c env H = some (x, e, h) ∧ Q x e h

/-- The state behind a region: what is to be shown, the slots asked for, the tokens. -/
def regS (P : Program) (T : Tab) (cf : FuncId → List AV → Heap → Option (AV × Heap)) (fi : FnInfo) (ops : Array Oper) (draw : Bool) (sc : List (Nat × Ans)) (outs : List Nat) (env : Env) (H : Heap) : Option (Prop × List (Option AV) × Heap) :=
  if draw = true ∧ regOK T.pure (fi.bf.contains ·) ops = false then none else
  match evOpsS P T.G (fi.bf.contains ·) cf ops sc 0 ops.toList env H with
  | none => none
  | some (φ, e, h) => some (φ, outs.map (fun t => if fi.live.contains t = true then e t else none), h)

theorem drawn_fine {ops : Array Oper} {draw : Bool} {env : Env} {H : Heap} (h : ¬(draw = true ∧ regOK T.pure (fi.bf.contains ·) ops = false)) : ¬DrawBad P T.G T.pure (fi.bf.contains ·) cf ops draw env H := fun hb => h ⟨hb.1, hb.2.1⟩
theorem Runs.region {i id : Nat} {ops : Array Oper} {draw : Bool} {env : Env} {H h : Heap} {Q : Ex → Env → Heap → Prop} {L : List (Nat × AV)} (hs : Sat L env) (sc : List (Nat × Ans)) (outs : List (Nat × AV)) {φ : Prop}
    (hk : ∀ env, regS P T cf fi ops draw sc (outs.map (·.1)) (over L env) H = some (φ, outs.map (fun p => some p.2), h)) (hφ : φ) (hQ : ∀ e, Sat outs e → Q .normal e h) : Runs P T cf n f fi i (.region id ops draw) env H Q := by
  have hk := hk env
  rw [over_eq hs] at hk
  unfold regS at hk
  split at hk
  · cases hk
  · rename_i hd
    cases he : evOpsS P T.G (fi.bf.contains ·) cf ops sc 0 ops.toList env H with
    | none => rw [he] at hk; cases hk
    | some x =>
      obtain ⟨ψ, e, h'⟩ := x
      rw [he] at hk
      injection hk with hk; injection hk with e1 e2; injection e2 with e2 e3
      subst e1 e3
      have := evOpsS_ok P T.G (fi.bf.contains ·) cf _ _ _ _ _ _ _ he hφ
      refine ⟨.normal, Env.trim fi.live e, h', ?_, hQ _ (sat_of_map ?_)⟩
      · simp only [evCL, drawn_fine hd, if_false, this]
      · rw [List.map_map] at e2
        simp only [trim_apply]
        exact e2
/-- The states of a region, with what is handed in. -/
def trS (P : Program) (G : Nat → Nat → Option Value) (bf : TypeId → Bool) (cf : FuncId → List AV → Heap → Option (AV × Heap)) (ops : Array Oper) (sc : List (Nat × Ans)) : Nat → List Oper → Env → Heap → List (Env × Heap)
  | _, [], env, H => [(env, H)]
  | i, o :: rest, env, H => (env, H) :: match wantedA ops o env with
    | none => []
    | some b => if b = true then match sc.lookup i with
        | some a => match ask P G bf cf o env H a with
          | none => []
          | some (_, v, H') => trS P G bf cf ops sc (i + 1) rest (Env.put env o.dst v) H'
        | none => match evOp P G bf cf o env H with
          | none => []
          | some (v, H') => trS P G bf cf ops sc (i + 1) rest (Env.put env o.dst v) H'
      else trS P G bf cf ops sc (i + 1) rest (Env.put env o.dst (.tup [])) H
theorem trS_ok {G : Nat → Nat → Option Value} {bf : TypeId → Bool} {ops : Array Oper} {sc : List (Nat × Ans)} : ∀ (l : List Oper) (i : Nat) (env : Env) (H : Heap) (φ : Prop) (e : Env) (h : Heap), evOpsS P G bf cf ops sc i l env H = some (φ, e, h) → φ → trA P G bf cf ops l env H = trS P G bf cf ops sc i l env H
  | [], i, env, H, φ, e, h, hs, hφ => rfl
  | o :: l, i, env, H, φ, e, h, hs, hφ => by
    simp only [evOpsS] at hs
    simp only [trA, trS]
    cases hw : wantedA ops o env with
    | none => rfl
    | some b =>
      rw [hw] at hs
      simp only at hs ⊢
      cases b with
      | false =>
        simp only [Bool.false_eq_true, if_false] at hs ⊢
        rw [trS_ok l _ _ _ _ _ _ hs hφ]
      | true =>
        simp only [if_true] at hs ⊢
        cases ha : sc.lookup i with
        | none =>
          rw [ha] at hs
          simp only at hs ⊢
          cases ho : evOp P G bf cf o env H with
          | none => rfl
          | some x =>
            obtain ⟨v, H'⟩ := x
            rw [ho] at hs
            simp only
            rw [trS_ok l _ _ _ _ _ _ hs hφ]
        | some a =>
          rw [ha] at hs
          simp only at hs ⊢
          cases hk : ask P G bf cf o env H a with
          | none => rw [hk] at hs; cases hs
          | some x =>
            obtain ⟨φ1, v, H'⟩ := x
            rw [hk] at hs
            simp only at hs ⊢
            cases hr : evOpsS P G bf cf ops sc (i + 1) l (Env.put env o.dst v) H' with
            | none => rw [hr] at hs; cases hs
            | some y =>
              obtain ⟨ψ, e', h'⟩ := y
              rw [hr] at hs
              injection hs with hs; injection hs with e1 e2; injection e2 with e2 e3
              subst e1 e2 e3
              rw [ask_ok P G bf cf hk hφ.1]
              simp only
              rw [trS_ok l _ _ _ _ _ _ hr hφ.2]
/-- What is to be shown of pairs that are let be. -/
def excS (ops : Array Oper) (tr : List (Env × Heap)) : List (Nat × Nat) → Prop
  | [] => True
  | p :: l => (match ops[p.1]?, tr[p.1]?, tr[p.2]?, tr[p.2 + 1]? with
    | some oa, some s, some sb, some sb' => match tokA s.1 oa with
      | some τ => sb.2[τ]? = sb'.2[τ]?
      | none => True
    | _, _, _, _ => True) ∧ excS ops tr l
theorem excS_ok {ops : Array Oper} {tr : List (Env × Heap)} : ∀ {exc : List (Nat × Nat)}, excS ops tr exc → excOK ops tr exc
  | [], _ => fun p hp => by cases hp
  | q :: l, h => by
    intro p hp oa s sb sb' h1 h2 h3 h4 τ ht
    rcases List.mem_cons.1 hp with rfl | hp
    · have := h.1
      simp only [h1, h2, h3, h4, ht] at this
      exact this
    · exact excS_ok h.2 p hp oa s sb sb' h1 h2 h3 h4 τ ht
def regX (P : Program) (T : Tab) (cf : FuncId → List AV → Heap → Option (AV × Heap)) (fi : FnInfo) (ops : Array Oper) (exc : List (Nat × Nat)) (sc : List (Nat × Ans)) (outs : List Nat) (env : Env) (H : Heap) : Option (Prop × List (Option AV) × Heap) :=
  if regOKx T.pure (fi.bf.contains ·) ops exc = false then none else
  match evOpsS P T.G (fi.bf.contains ·) cf ops sc 0 ops.toList env H with
  | none => none
  | some (φ, e, h) => some (φ ∧ excS ops (trS P T.G (fi.bf.contains ·) cf ops sc 0 ops.toList env H) exc, outs.map (fun t => if fi.live.contains t = true then e t else none), h)
theorem Runs.regionX {i id : Nat} {ops : Array Oper} {draw : Bool} {env : Env} {H h : Heap} {Q : Ex → Env → Heap → Prop} {L : List (Nat × AV)} (hs : Sat L env) (exc : List (Nat × Nat)) (sc : List (Nat × Ans)) (outs : List (Nat × AV)) {φ : Prop}
    (hk : ∀ env, regX P T cf fi ops exc sc (outs.map (·.1)) (over L env) H = some (φ, outs.map (fun p => some p.2), h)) (hφ : φ) (hQ : ∀ e, Sat outs e → Q .normal e h) : Runs P T cf n f fi i (.region id ops draw) env H Q := by
  have hk := hk env
  rw [over_eq hs] at hk
  unfold regX at hk
  split at hk
  · cases hk
  · rename_i hd
    cases he : evOpsS P T.G (fi.bf.contains ·) cf ops sc 0 ops.toList env H with
    | none => rw [he] at hk; cases hk
    | some x =>
      obtain ⟨ψ, e, h'⟩ := x
      rw [he] at hk
      injection hk with hk; injection hk with e1 e2; injection e2 with e2 e3
      subst e1 e3
      have := evOpsS_ok P T.G (fi.bf.contains ·) cf _ _ _ _ _ _ _ he hφ.1
      have hnb : ¬DrawBad P T.G T.pure (fi.bf.contains ·) cf ops draw env H := fun hb => hb.2.2 ⟨exc, by simpa using hd, by
        rw [trS_ok _ _ _ _ _ _ _ he hφ.1]
        exact excS_ok hφ.2⟩
      refine ⟨.normal, Env.trim fi.live e, h', ?_, hQ _ (sat_of_map ?_)⟩
      · simp only [evCL, hnb, if_false, this]
      · rw [List.map_map] at e2
        simp only [trim_apply]
        exact e2
theorem Runs.skip {i : Nat} {env : Env} {H : Heap} {Q : Ex → Env → Heap → Prop} (h : Q .normal env H) : Runs P T cf n f fi i .skip env H Q := ⟨_, _, _, rfl, h⟩
theorem Runs.label {i : Nat} {l : Nat} {env : Env} {H : Heap} {Q : Ex → Env → Heap → Prop} (h : Q .normal env H) : Runs P T cf n f fi i (.label l) env H Q := ⟨_, _, _, rfl, h⟩
theorem Runs.exit {i id : Nat} {env : Env} {H : Heap} {Q : Ex → Env → Heap → Prop} (h : Q (.exit id) env H) : Runs P T cf n f fi i (.exit id) env H Q := ⟨_, _, _, rfl, h⟩
theorem Runs.ret {i : Nat} {env : Env} {H : Heap} {Q : Ex → Env → Heap → Prop} (h : Q .ret env H) : Runs P T cf n f fi i .ret env H Q := ⟨_, _, _, rfl, h⟩
theorem Runs.seq {i : Nat} {a b : Code} {env : Env} {H : Heap} {Q : Ex → Env → Heap → Prop} {Qa : Ex → Env → Heap → Prop} (h : Runs P T cf n f fi i a env H Qa) (hn : ∀ e h, Qa .normal e h → Runs P T cf n f fi (i + nloops a) b e h Q) (hx : ∀ x e h, x ≠ .normal → Qa x e h → Q x e h) : Runs P T cf n f fi i (.seq a b) env H Q := by
  obtain ⟨x, e, h', h1, h2⟩ := h
  cases x with
  | normal =>
    obtain ⟨x2, e2, h3, h4, h5⟩ := hn e h' h2
    exact ⟨x2, e2, h3, by simp only [evCL, h1]; exact h4, h5⟩
  | exit k => exact ⟨_, _, _, by simp only [evCL, h1], hx _ _ _ (by simp) h2⟩
  | ret => exact ⟨_, _, _, by simp only [evCL, h1], hx _ _ _ (by simp) h2⟩
/-- Behind code: as the rest of it goes. -/
def thenQ (K : Env → Heap → Prop) (Q : Ex → Env → Heap → Prop) : Ex → Env → Heap → Prop
  | .normal, e, h => K e h
  | .exit k, e, h => Q (.exit k) e h
  | .ret, e, h => Q .ret e h
theorem Runs.sq {i : Nat} {a b : Code} {env : Env} {H : Heap} {Q : Ex → Env → Heap → Prop} (h : Runs P T cf n f fi i a env H (thenQ (fun e h => Runs P T cf n f fi (i + nloops a) b e h Q) Q)) : Runs P T cf n f fi i (.seq a b) env H Q :=
  Runs.seq h (fun _ _ h => h) fun x e h hx hq => by cases x <;> first | exact absurd rfl hx | exact hq
theorem Runs.cond {i : Nat} {c : Operand} {a b : Code} {env : Env} {H : Heap} {Q : Ex → Env → Heap → Prop} {t : Bool} (hc : valA env c = some (.s (.bool t))) (h1 : t = true → Runs P T cf n f fi i a env H Q) (h2 : t = false → Runs P T cf n f fi (i + nloops a) b env H Q) : Runs P T cf n f fi i (.cond c a b) env H Q := by
  cases t with
  | true => obtain ⟨x, e, h, r1, r2⟩ := h1 rfl; exact ⟨x, e, h, by simp only [evCL, hc, if_true]; exact r1, r2⟩
  | false => obtain ⟨x, e, h, r1, r2⟩ := h2 rfl; exact ⟨x, e, h, by simp only [evCL, hc, Bool.false_eq_true, if_false]; exact r1, r2⟩
theorem Runs.condT {i : Nat} {c : Operand} {a b : Code} {env : Env} {H : Heap} {Q : Ex → Env → Heap → Prop} (hc : valA env c = some (.s (.bool true))) (h1 : Runs P T cf n f fi i a env H Q) : Runs P T cf n f fi i (.cond c a b) env H Q := Runs.cond hc (fun _ => h1) (fun h => by cases h)
theorem Runs.condF {i : Nat} {c : Operand} {a b : Code} {env : Env} {H : Heap} {Q : Ex → Env → Heap → Prop} (hc : valA env c = some (.s (.bool false))) (h2 : Runs P T cf n f fi (i + nloops a) b env H Q) : Runs P T cf n f fi i (.cond c a b) env H Q := Runs.cond hc (fun h => by cases h) (fun _ => h2)
/-- A block's ending. -/
def blockQ (id : Nat) (Q : Ex → Env → Heap → Prop) : Ex → Env → Heap → Prop
  | .normal, e, h => Q .normal e h
  | .exit k, e, h => if k = id then Q .normal e h else Q (.exit k) e h
  | .ret, e, h => Q .ret e h
theorem Runs.block {i id : Nat} {b : Code} {env : Env} {H : Heap} {Q : Ex → Env → Heap → Prop} (h : Runs P T cf n f fi i b env H (blockQ id Q)) : Runs P T cf n f fi i (.block id b) env H Q := by
  obtain ⟨x, e, h', h1, h2⟩ := h
  cases x with
  | normal => exact ⟨.normal, e, h', by simp only [evCL, h1], h2⟩
  | exit k =>
    unfold blockQ at h2
    simp only at h2
    split at h2
    · rename_i hk; exact ⟨.normal, e, h', by simp only [evCL, h1, hk, if_true], h2⟩
    · rename_i hk; exact ⟨.exit k, e, h', by simp only [evCL, h1, hk, if_false], h2⟩
  | ret => exact ⟨.ret, e, h', by simp only [evCL, h1], h2⟩
theorem Runs.loop {i : Nat} {b : Code} {env : Env} {H : Heap} {Q : Ex → Env → Heap → Prop} (h : ∃ x e h, lpOf P T cf n f i env H = some (x, e, h) ∧ Q x e h) : Runs P T cf n f fi i (.loop b) env H Q := by
  obtain ⟨x, e, h', h1, h2⟩ := h
  exact ⟨x, e, h', by simp only [evCL]; exact h1, h2⟩
theorem Runs.mono {i : Nat} {c : Code} {env : Env} {H : Heap} {Q Q' : Ex → Env → Heap → Prop} (h : Runs P T cf n f fi i c env H Q) (hq : ∀ x e h, Q x e h → Q' x e h) : Runs P T cf n f fi i c env H Q' := by
  obtain ⟨x, e, h', h1, h2⟩ := h
  exact ⟨x, e, h', h1, hq _ _ _ h2⟩
/-- A round of a loop. -/
theorem rd_of {j : Nat} {b : Code} {env : Env} {H : Heap} {Q : Ex → Env → Heap → Prop} (hC : T.C f = some fi) (hb : loopAt fi.body j = some b) (h : Runs P T cf n f fi (j + 1) b env H Q) : ∃ x e h, rdOf P T cf n f j env H = some (x, e, h) ∧ Q x e h := by
  obtain ⟨x, e, h', h1, h2⟩ := h
  exact ⟨x, e, h', by simp only [rdOf, hC, hb]; exact h1, h2⟩

/-- How a function's code is to end. -/
def EndP (P : Program) (fi : FnInfo) (v : AV) : Ex → Env → Heap → Prop := fun x e h => (∀ k, x ≠ .exit k) ∧ ∃ vs, resA P e h fi.res = some vs ∧ finA h (oneOf vs) = some v
theorem call_pure {args : List AV} {H : Heap} {v : AV} (hX : T.X f = none) (hOH : T.OH f = none) (hO : T.O f = none) (hC : T.C f = some fi) (hp : fi.pure = true) (hl : args.length = fi.np) (hs : AV.shutL 0 args = some args)
    (h : Runs P T (evF P T n) n f fi 0 fi.body (argEnv args) [] (EndP P fi v)) : evF P T (n + 1) f args H = some (v, H) := by
  rw [evF_pure hX hOH hO hC hp hl hs]
  obtain ⟨x, e, h', h1, h2, vs, h3, h4⟩ := h
  simp only [runP, hC, h1]
  cases x with
  | exit k => exact absurd rfl (h2 k)
  | normal => simp only [h3, h4, Option.map_some]
  | ret => simp only [h3, h4, Option.map_some]
theorem call_pure' {args bs : List AV} {H : Heap} {v : AV} (hX : T.X f = none) (hOH : T.OH f = none) (hO : T.O f = none) (hC : T.C f = some fi) (hp : fi.pure = true) (hl : args.length = fi.np) (hs : AV.shutL 0 args = some bs)
    (h : Runs P T (evF P T n) n f fi 0 fi.body (argEnv bs) [] (EndP P fi v)) : evF P T (n + 1) f args H = some (v, H) := by
  rw [evF_call hX hOH hO]
  obtain ⟨x, e, h', h1, h2, vs, h3, h4⟩ := h
  simp only [callL, hC, hl, hp, hs, h1, if_true]
  cases x with
  | exit k => exact absurd rfl (h2 k)
  | normal => simp only [h3, h4, Option.map_some]
  | ret => simp only [h3, h4, Option.map_some]
/-- A call that may turn tokens: what is to hold of what it hands back. -/
def EndI (P : Program) (fi : FnInfo) (m : Nat) (Post : AV → Heap → Prop) : Ex → Env → Heap → Prop := fun x e h => (∀ k, x ≠ .exit k) ∧ ∃ vs v H', resA P e h fi.res = some vs ∧ truncA fi.keep m (oneOf vs) h = some (v, H') ∧ Post v H'
theorem call_imp {args : List AV} {H : Heap} {Post : AV → Heap → Prop} (hX : T.X f = none) (hOH : T.OH f = none) (hO : T.O f = none) (hC : T.C f = some fi) (hp : fi.pure = false) (hl : args.length = fi.np)
    (h : Runs P T (evF P T n) n f fi 0 fi.body (argEnv args) H (EndI P fi H.length Post)) : ∃ v H', evF P T (n + 1) f args H = some (v, H') ∧ Post v H' := by
  rw [evF_call hX hOH hO]
  obtain ⟨x, e, h', h1, h2, vs, v, H', h3, h4, h5⟩ := h
  refine ⟨v, H', ?_, h5⟩
  simp only [callL, hC, hl, hp, h1, Bool.false_eq_true, if_false, if_true]
  cases x with
  | exit k => exact absurd rfl (h2 k)
  | normal => simp only [h3, h4]
  | ret => simp only [h3, h4]
/-- Rounds, one by one. -/
theorem rds_step {j k : Nat} {env : Env} {H : Heap} {Q : Ex → Env → Heap → Prop} (h : ∃ x e h, rdOf P T cf n f j env H = some (x, e, h) ∧ thenQ (fun e h => ∃ x e' h', rdsOf P T cf n f j k e h = some (x, e', h') ∧ Q x e' h') Q x e h) : ∃ x e h, rdsOf P T cf n f j (k + 1) env H = some (x, e, h) ∧ Q x e h := by
  obtain ⟨x, e, h', h1, h2⟩ := h
  rw [rds_succ, h1]
  cases x with
  | normal => exact h2
  | exit k => exact ⟨_, _, _, rfl, h2⟩
  | ret => exact ⟨_, _, _, rfl, h2⟩
end
end Go.Proofs.YtggoggdcnahkaaaDoor
