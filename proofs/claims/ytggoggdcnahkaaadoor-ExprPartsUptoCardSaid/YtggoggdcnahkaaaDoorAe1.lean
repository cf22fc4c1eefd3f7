/- An abstract evaluator over loaded Go code, on tree values: the definitions. -/
import Derived.Orders
import Derived.LoopN
import Derived.Below
import Derived.Tactics
set_option linter.unusedVariables false
namespace Go.Proofs.YtggoggdcnahkaaaDoor
open Go

/-- May a slice's value be appended to in place: unknown, its capacity is its length, or it is the row of a token. -/
inductive Prov where
  | ro | full | own (τ : Nat)

/-- Abstract values: trees; 's' a scalar as it is; 'ip' an address within a row that is never written again; 'ptr' an address within a token; 'bs' a cut of a row that is written again, as that stands at a time e; 'bp' an address within one. -/
inductive AV where
  | s (v : Value)
  | agg (cs : List AV)
  | tup (cs : List AV)
  | sl (xs : List AV) (p : Prov)
  | ip (cs : List AV) (k : Nat)
  | ptr (τ k : Nat)
  | bs (τ e sz o n : Nat)
  | bp (τ e k : Nat)
  | ifc (t : TypeId) (x : AV)
  | clo (f : FuncId) (caps : List AV)

def AV.isTup : AV → Bool
  | .tup _ => true
  | _ => false
def AV.cells : AV → List AV
  | .agg cs => cs
  | x => [x]

/-- Tokens: a variable's cells; the row of a slice that is appended to: how many elements, of so many cells; a row that is written again: since when it stands as it does, its cells, how many an element has. -/
inductive Rec where
  | box (cs : List AV)
  | own (n sz : Nat)
  | buf (e : Nat) (cs : List AV) (sz : Nat)

abbrev Heap := List Rec
abbrev Env := Nat → Option AV

/-- What is known of memory for good: cells that are never written again; tokens' blocks, of how many cells their elements are (0: a variable's), how many they hold; how many cells blocks have. -/
structure KW where
  pc : Nat → Nat → Option Value
  loc : Nat → Option (Nat × Nat × Nat)
  rm : Nat → Option Nat

/-- More is known; a row may have grown, and moved. -/
structure KW.le (K K' : KW) : Prop where
  pc : ∀ b o v, K.pc b o = some v → K'.pc b o = some v
  loc : ∀ τ g sz m, K.loc τ = some (g, sz, m) → ∃ g' m', K'.loc τ = some (g', sz, m') ∧ (g' = g ∧ m' = m ∨ 0 < sz ∧ m < m')
  rm : ∀ g r, K.rm g = some r → K'.rm g = some r

theorem KW.le.refl (K : KW) : K.le K := ⟨fun _ _ _ h => h, fun _ g _ m h => ⟨g, m, h, .inl ⟨rfl, rfl⟩⟩, fun _ _ h => h⟩
theorem KW.le.trans {a b c : KW} (h : a.le b) (k : b.le c) : a.le c := by
  refine ⟨fun x o v hv => k.pc _ _ _ (h.pc _ _ _ hv), fun τ g sz m hg => ?_, fun g r hr => k.rm _ _ (h.rm _ _ hr)⟩
  obtain ⟨g1, m1, h1, d1⟩ := h.loc τ g sz m hg
  obtain ⟨g2, m2, h2, d2⟩ := k.loc τ g1 sz m1 h1
  refine ⟨g2, m2, h2, ?_⟩
  rcases d1 with ⟨rfl, rfl⟩ | ⟨e1, e2⟩
  · exact d2
  · rcases d2 with ⟨rfl, rfl⟩ | ⟨f1, f2⟩
    · exact .inr ⟨e1, e2⟩
    · exact .inr ⟨e1, by omega⟩
theorem KW.le.box {a b : KW} (h : a.le b) {τ g m : Nat} (hl : a.loc τ = some (g, 0, m)) : b.loc τ = some (g, 0, m) := by
  obtain ⟨g', m', h1, d⟩ := h.loc τ g 0 m hl
  rcases d with ⟨rfl, rfl⟩ | ⟨e, _⟩
  · exact h1
  · omega

/-- What a slice's origin says of its value. -/
def PRel (K : KW) : Prov → Option Addr → Nat → Nat → Nat → Prop
  | .ro, _, _, _, _ => True
  | .full, _, n, c, _ => c = n
  | .own τ, A, n, c, sz => ∃ g m, K.loc τ = some (g, sz, m) ∧ 0 < sz ∧ n ≤ m ∧ (n = m → A = some ⟨g, 0, none⟩ ∧ ∃ r, K.rm g = some r ∧ c * sz ≤ r)

mutual
def Rel (K : KW) : AV → Value → Prop
  | .s v0, v => v = v0 ∧ v0.oneCell' = true
  | .agg cs, v => ∃ vs : List Value, v = .agg vs.toArray ∧ RelL K cs vs ∧ ∀ u ∈ vs, u.oneCell' = true
  | .tup cs, v => ∃ vs : List Value, v = .tuple vs.toArray ∧ RelL K cs vs
  | .sl xs p, v => ∃ A c sz, v = .slice A xs.length c ∧ xs.length ≤ c ∧ PRel K p A xs.length c sz ∧ (xs = [] ∨ ∃ b o, A = some ⟨b, o, none⟩ ∧ RelE K b sz o xs)
  | .ip cs k, v => ∃ b o, v = .pointer (some ⟨b, o + k, none⟩) ∧ RelC K b o cs
  | .ptr τ k, v => ∃ g m, K.loc τ = some (g, 0, m) ∧ v = .pointer (some ⟨g, k, none⟩)
  | .bs τ e sz o n, v => ∃ g m A c, K.loc τ = some (g, sz, m) ∧ 0 < sz ∧ e ≤ m ∧ v = .slice A n c ∧ n ≤ c ∧ (c = 0 ∨ ∃ b q, A = some ⟨b, q, none⟩ ∧ (e = m → b = g ∧ q = o * sz)) ∧ (e = m → ∃ r, K.rm g = some r ∧ (o + c) * sz ≤ r)
  | .bp τ e k, v => ∃ g sz m b q, K.loc τ = some (g, sz, m) ∧ 0 < sz ∧ e ≤ m ∧ v = .pointer (some ⟨b, q, none⟩) ∧ (e = m → b = g ∧ q = k)
  | .ifc t x, v => ∃ u, v = .iface t u ∧ Rel K x u
  | .clo f caps, v => ∃ vs : List Value, v = .func (.func f) #[] vs.toArray ∧ RelL K caps vs
def RelL (K : KW) : List AV → List Value → Prop
  | [], vs => vs = []
  | x :: xs, vs => ∃ u us, vs = u :: us ∧ Rel K x u ∧ RelL K xs us
def RelC (K : KW) (b : Nat) : Nat → List AV → Prop
  | _, [] => True
  | o, c :: cs => (∃ v, K.pc b o = some v ∧ v.oneCell' = true ∧ Rel K c v) ∧ RelC K b (o + 1) cs
def RelE (K : KW) (b sz : Nat) : Nat → List AV → Prop
  | _, [] => True
  | o, .agg cs :: xs => (cs.length = sz ∧ RelC K b o cs) ∧ RelE K b sz (o + sz) xs
  | o, x :: xs => (1 = sz ∧ ∃ v, K.pc b o = some v ∧ v.oneCell' = true ∧ Rel K x v) ∧ RelE K b sz (o + sz) xs
end

/-! Values that leave a call: tokens from m on are let go -/
mutual
def AV.shut (m : Nat) : AV → Option AV
  | .s v => some (.s v)
  | .agg cs => (AV.shutL m cs).map .agg
  | .tup cs => (AV.shutL m cs).map .tup
  | .sl xs (.own τ) => (AV.shutL m xs).map fun ys => .sl ys (if τ < m then .own τ else .ro)
  | .sl xs _ => (AV.shutL m xs).map fun ys => .sl ys .ro
  | .ip cs k => (AV.shutL m cs).map fun ds => .ip ds k
  | .ptr τ k => if τ < m then some (.ptr τ k) else none
  | .bs τ e sz o n => if τ < m then some (.bs τ e sz o n) else none
  | .bp τ e k => if τ < m then some (.bp τ e k) else none
  | .ifc t x => (AV.shut m x).map (.ifc t)
  | .clo f caps => (AV.shutL m caps).map (.clo f)
def AV.shutL (m : Nat) : List AV → Option (List AV)
  | [] => some []
  | x :: xs => match AV.shut m x, AV.shutL m xs with
    | some y, some ys => some (y :: ys)
    | _, _ => none
end
def Rec.shut (m : Nat) : Rec → Option Rec
  | .box cs => (AV.shutL m cs).map .box
  | .own n sz => some (.own n sz)
  | .buf e cs sz => (AV.shutL m cs).map fun ds => .buf e ds sz
def shutH (m : Nat) : Heap → Option Heap
  | [] => some []
  | r :: rs => match r.shut m, shutH m rs with
    | some r', some rs' => some (r' :: rs')
    | _, _ => none

/-! Types -/
section
variable (P : Program)
def szT (t : TypeId) : Option Nat := (P.info? t).map (·.size)
def byT (t : TypeId) : Option Nat := (P.info? t).map (·.bytes)
def aggT (t : TypeId) : Option Bool := (P.underlying t).map fun | .struct _ | .array _ _ => true | _ => false
def elT (t : TypeId) : Option TypeId := match P.underlying t with | some (.slice e) => some e | _ => none
def arrT (t : TypeId) : Option (Nat × TypeId) := match P.underlying t with | some (.array n e) => some (n, e) | _ => none
def fldT (s : TypeId) (f : Nat) : Option (Nat × TypeId) := match P.underlying s with | some (.struct fs) => (fs[f]?).map fun x => (x.offset, x.type) | _ => none
def zeroT (t : TypeId) : Option Value := (P.info? t).bind (·.zero)
def ifT (t : TypeId) : Option Bool := (P.underlying t).map fun | .interface _ => true | _ => false
def strT (t : TypeId) : Option Bool := (P.underlying t).map fun | .string => true | _ => false
def u8T (t : TypeId) : Option Bool := (P.underlying t).map fun | .int .u8 => true | _ => false
/-- All that a struct type's fields are: offsets and sizes. -/
def placesT (t : TypeId) : Option (List (Nat × Nat)) := match P.underlying t with
  | some (.struct fs) => fs.toList.mapM fun f => (szT P f.type).map fun n => (f.offset, n)
  | _ => none

/-- What runs without a look at memory. -/
def pureRun {α : Type} : Sem α → Option α
  | .pure v => some v
  | .program k => pureRun (k P)
  | _ => none
end

def constCell : Value → AV
  | .slice none 0 0 => .sl [] .full
  | v => .s v
def constAV : Value → Option AV
  | .agg vs => if vs.toList.all (·.oneCell') then some (.agg (vs.toList.map constCell)) else none
  | .tuple _ => none
  | v => some (constCell v)
def valA (env : Env) : Operand → Option AV
  | .tmp t => env t
  | .const v => constAV v
  | .func f => some (.clo f [])
  | .global g => some (.s (.pointer (some ⟨g, 0, none⟩)))
def valsA (env : Env) : List Operand → Option (List AV)
  | [] => some []
  | x :: xs => match valA env x, valsA env xs with
    | some y, some ys => some (y :: ys)
    | _, _ => none
def Env.put (env : Env) (dst : Option Tmp) (v : AV) : Env :=
  match dst with
  | none => env
  | some d => fun t => if t = d then some v else env t

/-- A scalar, or an error over one, as a value. -/
def conc : AV → Option Value
  | .s v => some v
  | .ifc t (.s v) => some (.iface t v)
  | _ => none
def scalarOf : Option Value → Option AV
  | some (.iface t v) => if v.oneCell' then some (.ifc t (.s v)) else none
  | some v => if v.oneCell' then some (.s v) else none
  | none => none

section
variable (P : Program)
def loadA (t : TypeId) (cs : List AV) (k : Nat) : Option AV :=
  match aggT P t, szT P t with
  | some true, some n => if k + n ≤ cs.length then some (.agg ((cs.drop k).take n)) else none
  | some false, some _ => cs[k]?
  | _, _ => none
def putCells (cs : List AV) (k : Nat) (new : List AV) : List AV := cs.take k ++ new ++ cs.drop (k + new.length)
/-- The parts of a struct, filled in. -/
def fillA (ps : List (Nat × Nat)) : List AV → List (Nat × AV) → Option (List AV)
  | cs, [] => some cs
  | cs, (i, x) :: rest => match ps[i]? with
    | some (off, n) => if x.cells.length = n ∧ x.isTup = false ∧ off + n ≤ cs.length then fillA ps (putCells cs off x.cells) rest else none
    | none => none
def partsA (env : Env) : List (Nat × Operand) → Option (List (Nat × AV))
  | [] => some []
  | (i, x) :: xs => match valA env x, partsA env xs with
    | some y, some ys => some ((i, y) :: ys)
    | _, _ => none
/-- A literal's elements, one behind the other, none left out. -/
def inOrder : Nat → List (Nat × AV) → Option (List AV)
  | _, [] => some []
  | i, (j, x) :: rest => if j = i then (inOrder (i + 1) rest).map (x :: ·) else none
def bytesA (s : ByteArray) : List AV := s.data.toList.map fun b => .s (.int .u8 b.toNat)
def byteOf : AV → Option UInt8
  | .s (.int .u8 n) => some (UInt8.ofNat n.toNat)
  | _ => none
def roomA : Nat := 70368744177664
/-- The elements that a cut of a row has. -/
def viewA (cs : List AV) (sz o n : Nat) : Option (List AV) :=
  if (o + n) * sz ≤ cs.length then
    if sz = 1 then some ((cs.drop o).take n) else some ((List.range n).map fun i => .agg ((cs.drop ((o + i) * sz)).take sz))
  else none
def widths (sz : Nat) (ys : List AV) : Bool := ys.all fun x => x.cells.length == sz && !x.isTup
def appendA (bf : Bool) (H : Heap) (sz bytes : Nat) (x : AV) (ys : List AV) : Option (AV × Heap) :=
  match x with
  | .sl xs p => if (xs.length + ys.length) * bytes ≤ roomA then
      match p with
      | .own τ => match H[τ]? with
        | some (.own n sz') => if n = xs.length ∧ sz' = sz then some (.sl (xs ++ ys) (.own τ), H.set τ (.own (n + ys.length) sz)) else none
        | _ => none
      | .full => if ys.isEmpty then some (.sl xs .full, H) else if widths sz xs = false then none
        else if bf = true then some (.bs H.length 0 sz 0 (xs.length + ys.length), H ++ [.buf 0 ((xs ++ ys).flatMap AV.cells) sz])
        else some (.sl (xs ++ ys) (.own H.length), H ++ [.own (xs.length + ys.length) sz])
      | .ro => if ys.isEmpty then some (.sl xs .ro, H) else none
    else none
  | .bs τ e sz' o n => if (n + ys.length) * bytes ≤ roomA ∧ sz' = sz ∧ o = 0 then
      match H[τ]? with
      | some (.buf e' cs sz'') => if e' = e ∧ sz'' = sz ∧ n * sz ≤ cs.length then some (.bs τ (e + 1) sz 0 (n + ys.length), H.set τ (.buf (e + 1) (cs.take (n * sz) ++ ys.flatMap AV.cells) sz)) else none
      | _ => none
    else none
  | _ => none
def natA : AV → Option Nat
  | .s (.int _ n) => if 0 ≤ n then some n.toNat else none
  | _ => none
def optNat (env : Env) : Option Operand → Option (Option Nat)
  | none => some none
  | some l => ((valA env l).bind natA).map some
def provS : Option Nat → Option Nat → Prov → Prov
  | none, none, p => p
  | some _, none, .full => .full
  | _, _, _ => .ro
def sliceA (xs : List AV) (p : Prov) (lo hi : Option Nat) : Option AV :=
  if lo.getD 0 ≤ hi.getD xs.length ∧ hi.getD xs.length ≤ xs.length then
    some (.sl ((xs.take (hi.getD xs.length)).drop (lo.getD 0)) (provS lo hi p))
  else none

/-- Addresses, and interfaces' values, held against nil, and against each other. -/
def AV.isPtr : AV → Bool
  | .ptr _ _ | .ip _ _ | .bp _ _ _ => true
  | _ => false
def ptrT (t : TypeId) : Option TypeId := match P.underlying t with | some (.pointer e) => some e | _ => none
def cmpT (t : TypeId) : Option Bool := (P.info? t).map (·.comparable)
def eqA (t : TypeId) : AV → AV → Option Bool
  | .ifc _ _, .s .nilIface | .s .nilIface, .ifc _ _ => if ifT P t = some true then some false else none
  | .ifc tx (.ptr τ k), .ifc ty v => if ifT P t = some true then
      (if tx ≠ ty then some false else match v with
        | .ptr σ j => if τ = σ ∧ k = j ∧ ((ptrT P tx).bind (szT P)).any (0 < ·) = true ∧ cmpT P tx = some true then some true else none
        | _ => none)
    else none
  | .ifc tx _, .ifc ty (.ptr _ _) => if ifT P t = some true ∧ tx ≠ ty then some false else none
  | x, .s (.pointer none) => if x.isPtr = true ∧ (ptrT P t).isSome then some false else none
  | _, _ => none
def cmpA (op : BinOp) (t : TypeId) (x y : AV) : Option AV :=
  match op with
  | .eql => (eqA P t x y).map fun b => .s (.bool b)
  | .neq => (eqA P t x y).map fun b => .s (.bool !b)
  | _ => none

/-- An address some cells on. -/
def AV.moved (d : Nat) : AV → Option AV
  | .ptr τ k => some (.ptr τ (k + d))
  | .ip cs k => some (.ip cs (k + d))
  | .bp τ e k => some (.bp τ e (k + d))
  | .s (.pointer (some ⟨b, k, none⟩)) => some (.s (.pointer (some ⟨b, k + d, none⟩)))
  | _ => none

/-- Calls of the language's own functions that leave memory alone. -/
def builtinN (b : Builtin) (argTypes : Array TypeId) (type : TypeId) (args : List AV) : Option AV :=
  match b, args with
  | .len, [.sl xs _] => match (argTypes[0]?).bind (elT P) with
    | some _ => some (.s (.int .i64 xs.length))
    | none => none
  | .len, [.bs _ _ _ _ n] => match (argTypes[0]?).bind (elT P) with
    | some _ => some (.s (.int .i64 n))
    | none => none
  | .len, [.s (.string s)] => match (argTypes[0]?).bind (strT P) with
    | some true => some (.s (.int .i64 s.size))
    | _ => none
  | .min, args => match args.mapM conc with
    | some vs => scalarOf (pureRun P (Builtin.min_ argTypes type vs.toArray))
    | none => none
  | .max, args => match args.mapM conc with
    | some vs => scalarOf (pureRun P (Builtin.max_ argTypes type vs.toArray))
    | none => none
  | _, _ => none
/-- What is appended. -/
def srcA (tx : TypeId) (sz : Nat) (H : Heap) : AV → Option (List AV)
  | .sl ys _ => if (elT P tx).isSome ∧ widths sz ys = true then some ys else none
  | .s (.string s) => if strT P tx = some true ∧ sz = 1 then some (bytesA s) else none
  | .bs τ e sz' o n => if (elT P tx).isSome ∧ sz' = sz then match H[τ]? with
      | some (.buf e' cs sz'') => if e' = e ∧ sz'' = sz then viewA cs sz o n else none
      | _ => none
    else none
  | _ => none
def appendC (bf : TypeId → Bool) (argTypes : Array TypeId) (args : List AV) (H : Heap) : Option (AV × Heap) :=
  match args with
  | [x, y] => match argTypes.toList with
    | [t, tx] => match elT P t with
      | some e => match szT P e, byT P e, zeroT P e with
        | some sz, some bytes, some z => if 0 < sz ∧ 0 < bytes ∧ z.cells.size = sz then match srcA P tx sz H y with
            | some ys => appendA (bf t) H sz bytes x ys
            | none => none
          else none
        | _, _, _ => none
      | none => none
    | _ => none
  | _ => none

def copyC (argTypes : Array TypeId) (args : List AV) (H : Heap) : Option (AV × Heap) :=
  match args, argTypes.toList with
  | [.bs τ e sz q n, y], [t, tx] => if (elT P t).bind (szT P) = some sz then match srcA P tx sz H y with
      | some ys => if ys.length ≤ n then match H[τ]? with
          | some (.buf e' cs sz') => if e' = e ∧ sz' = sz ∧ q * sz + ys.length * sz ≤ cs.length then some (.s (.int .i64 ys.length), H.set τ (.buf e (putCells cs (q * sz) (ys.flatMap AV.cells)) sz)) else none
          | _ => none
        else none
      | none => none
    else none
  | _, _ => none

/-- One operation that neither reads nor turns tokens: its value. -/
def evN (o : Oper) (env : Env) : Option AV :=
  match o.op with
  | .move x | .assign x => valA env x
  | .pick c a b => match valA env c with
    | some (.s (.bool t)) => if t = true then valA env a else valA env b
    | _ => none
  | .build t parts => match (zeroT P t).bind constAV, placesT P t, partsA env parts.toList with
    | some (.agg zs), some ps, some l => (fillA ps zs l).map .agg
    | _, _, _ => none
  | .buildSlice t n parts => match elT P t, partsA env parts.toList with
    | some e, some l => match szT P e, zeroT P e, inOrder 0 l with
      | some sz, some z, some xs => if xs.length = n ∧ widths sz xs ∧ n * sz ≤ 16777216 ∧ z.cells.size = sz then some (.sl xs .full) else none
      | _, _, _ => none
    | _, _ => none
  | .nilCheck x => match valA env x with
    | some (.ptr τ k) => some (.ptr τ k)
    | some (.ip cs k) => some (.ip cs k)
    | some (.clo f caps) => some (.clo f caps)
    | some (.bp τ e k) => some (.bp τ e k)
    | _ => none
  | .binOp op t x y _ => match valA env x, valA env y with
    | some a, some b => match conc a, conc b with
      | some u, some v => scalarOf (pureRun P (do eqGuard op t x y u v; binOp op t u v))
      | _, _ => cmpA P op t a b
    | _, _ => none
  | .unOp op _ x => match (valA env x).bind conc with
    | some a => scalarOf (pureRun P (Op.unary op a))
    | none => none
  | .convert src dst x => match valA env x with
    | some (.s v) => scalarOf (pureRun P (convert src dst v))
    | some (.sl xs _) => match elT P src, strT P dst with
      | some e, some true => match u8T P e, xs.mapM byteOf with
        | some true, some bs => some (.s (.string ⟨bs.toArray⟩))
        | _, _ => none
      | _, _ => none
    | _ => none
  | .makeInterface t x => match ifT P t, valA env x with
    | some false, some v => some (.ifc t v)
    | _, _ => none
  | .makeFunc (.func f) first captured => if first.size = 0 then (valsA env captured.toList).map (.clo f) else none
  | .makeSlice t l c => match elT P t, (valA env l).bind natA, (valA env c).bind natA with
    | some e, some n, some m => match szT P e, byT P e, (zeroT P e).bind constAV with
      | some sz, some bytes, some z => if n = m ∧ z.cells.length = sz ∧ 0 < sz ∧ n * bytes ≤ roomA ∧ n ≤ roomA then some (.sl (List.replicate n z) .full) else none
      | _, _, _ => none
    | _, _, _ => none
  | .slice t x lo hi none => match valA env x, elT P t with
    | some (.s (.string s)), none =>
      match optNat env lo, optNat env hi with
      | some lo, some hi => if strT P t = some true ∧ lo.getD 0 ≤ hi.getD s.size ∧ hi.getD s.size ≤ s.size then some (.s (.string (s.extract (lo.getD 0) (hi.getD s.size)))) else none
      | _, _ => none
    | some (.sl xs p), some e =>
      match optNat env lo, optNat env hi with
      | some lo, some hi => match szT P e with
        | some sz => if lo.isNone || widths sz xs then sliceA xs p lo hi else none
        | none => none
      | _, _ => none
    | some (.bs τ ep sz o n), some e =>
      match optNat env lo, optNat env hi with
      | some lo, some hi => if szT P e = some sz ∧ lo.getD 0 ≤ hi.getD n ∧ hi.getD n ≤ n then some (.bs τ ep sz (o + lo.getD 0) (hi.getD n - lo.getD 0)) else none
      | _, _ => none
    | _, _ => none
  | .fieldAddr s x f => match fldT P s f with
    | some (off, ft) => match szT P ft with
      | some (_ + 1) => match valA env x with
        | some (.ptr τ k) => some (.ptr τ (k + off))
        | some (.ip cs k) => some (.ip cs (k + off))
        | some (.bp τ e k) => some (.bp τ e (k + off))
        | _ => none
      | _ => none
    | none => none
  | .field s x f => match fldT P s f, valA env x with
    | some (off, ft), some (.agg cs) => loadA P ft cs off
    | _, _ => none
  | .indexAddr t x i => match arrT P t with
   | some (len, e) => match valA env x, (valA env i).bind natA, szT P e with
    | some v, some n, some sz => if n < len then v.moved (n * sz) else none
    | _, _, _ => none
   | none => match elT P t, valA env x, (valA env i).bind natA with
    | some e, some (.sl xs _), some n => match szT P e, xs[n]? with
      | some sz, some y => if y.cells.length = sz then some (.ip y.cells 0) else none
      | _, _ => none
    | some e, some (.bs τ ep sz q m), some n => if szT P e = some sz ∧ n < m then some (.bp τ ep ((q + n) * sz)) else none
    | _, _, _ => none
  | .index t x i => match strT P t, valA env x, (valA env i).bind natA with
    | some true, some (.s (.string s)), some n => match s.data.toList[n]? with
      | some b => some (.s (.int .u8 b.toNat))
      | none => none
    | _, _, _ => none
  | .extract x i => match valA env x with
    | some (.tup cs) => cs[i]?
    | _ => none
  | .call c => match c.callee with
    | .builtin b => match valsA env c.args.toList with
      | some l => builtinN P b c.argTypes o.type l
      | none => none
    | _ => none
  | _ => none

/-- One operation: its value, and the tokens behind it. 'cf': functions' calls. -/
def evOp (G : Nat → Nat → Option Value) (bf : TypeId → Bool) (cf : FuncId → List AV → Heap → Option (AV × Heap)) (o : Oper) (env : Env) (H : Heap) : Option (AV × Heap) :=
  match o.op with
  | .alloc e => match (zeroT P e).bind constAV with
    | some z => some (.ptr H.length 0, H ++ [.box z.cells])
    | none => none
  | .box e x => match valA env x with
    | some v => if v.isTup = false then some (.ptr H.length 0, H ++ [.box v.cells]) else none
    | none => none
  | .load t a => match valA env a with
    | some (.ptr τ k) => match H[τ]? with
      | some (.box cs) => (loadA P t cs k).map (·, H)
      | _ => none
    | some (.ip cs k) => (loadA P t cs k).map (·, H)
    | some (.bp τ e k) => if bf 0 = true then none else match H[τ]? with
      | some (.buf e' cs _) => if e' = e then (loadA P t cs k).map (·, H) else none
      | _ => none
    | some (.s (.pointer (some ⟨b, k, none⟩))) => match aggT P t, szT P t, G b k with
      | some false, some _, some v => if v.oneCell' = true then some (.s v, H) else none
      | _, _, _ => none
    | _ => none
  | .store t a x => match valA env a, valA env x, szT P t with
    | some (.ptr τ k), some v, some n => match H[τ]? with
      | some (.box cs) => if v.cells.length = n ∧ v.isTup = false ∧ k + n ≤ cs.length then some (.tup [], H.set τ (.box (putCells cs k v.cells))) else none
      | _ => none
    | some (.bp τ e k), some v, some n => match H[τ]? with
      | some (.buf e' cs sz) => if e' = e ∧ v.cells.length = n ∧ v.isTup = false ∧ k + n ≤ cs.length then some (.tup [], H.set τ (.buf e (putCells cs k v.cells) sz)) else none
      | _ => none
    | _, _, _ => none
  | .call c => match c.callee with
    | .builtin .append => match valsA env c.args.toList with
      | some l => appendC P bf c.argTypes l H
      | none => none
    | .builtin .copy => match valsA env c.args.toList with
      | some l => copyC P c.argTypes l H
      | none => none
    | .builtin _ => (evN P o env).map (·, H)
    | .value f => match valA env f, valsA env c.args.toList with
      | some (.clo g caps), some l => cf g (l ++ caps) H
      | _, _ => none
    | .invoke _ _ => none
  | .makeSlice t l c => if bf t = true then match evN P o env with
      | some (.sl xs .full) => match (elT P t).bind (szT P) with
        | some sz => if 0 < sz ∧ widths sz xs = true then some (.bs H.length 0 sz 0 xs.length, H ++ [.buf 0 (xs.flatMap AV.cells) sz]) else none
        | none => none
      | _ => none
    else (evN P o env).map (·, H)
  | _ => (evN P o env).map (·, H)

def wantedA (ops : Array Oper) (o : Oper) (env : Env) : Option Bool :=
  match o.guard with
  | none => some true
  | some (j, want) => match (ops[j]?).bind (·.dst) with
    | some t => match env t with
      | some (.s (.bool b)) => some (b == want)
      | some (.tup _) => some false
      | _ => none
    | none => none

def evOps (G : Nat → Nat → Option Value) (bf : TypeId → Bool) (cf : FuncId → List AV → Heap → Option (AV × Heap)) (ops : Array Oper) : List Oper → Env → Heap → Option (Env × Heap)
  | [], env, H => some (env, H)
  | o :: rest, env, H =>
    match wantedA ops o env with
    | none => none
    | some b =>
      if b = true then
        match evOp P G bf cf o env H with
        | none => none
        | some (v, H') => evOps G bf cf ops rest (Env.put env o.dst v) H'
      else evOps G bf cf ops rest (Env.put env o.dst (.tup [])) H
end

/-- The slots that live on behind a region. -/
def E (l : List (Nat × AV)) : Env := fun t => l.lookup t
def Env.trim (live : List Nat) (env : Env) : Env := E (live.filterMap fun t => (env t).map fun v => (t, v))

/-! Values worked out ahead of the next step (nothing but speed: each is its last argument at its first) -/
def forceNat {α : Type} (m : Nat) (k : Nat → α) : α := match m with
  | 0 => k 0
  | m + 1 => k (m + 1)
def forceInt {α : Type} (n : Int) (k : Int → α) : α := match n with
  | .ofNat m => forceNat m fun m' => k (.ofNat m')
  | .negSucc m => forceNat m fun m' => k (.negSucc m')
def forceList {α β : Type} : List β → (List β → α) → α
  | [], k => k []
  | x :: xs, k => forceList xs fun l => k (x :: l)
def forceAV {α : Type} (v : AV) (k : AV → α) : α := match v with
  | .s (.int q n) => forceInt n fun n' => k (.s (.int q n'))
  | .s (.bool true) => k (.s (.bool true))
  | .s (.bool false) => k (.s (.bool false))
  | .sl xs p => forceList xs fun l => k (.sl l p)
  | .tup xs => forceList xs fun l => k (.tup l)
  | .agg xs => forceList xs fun l => k (.agg l)
  | .bs τ e sz q n => forceNat τ fun τ => forceNat e fun e => forceNat q fun q => forceNat n fun n => k (.bs τ e sz q n)
  | .ptr τ j => forceNat τ fun τ => forceNat j fun j => k (.ptr τ j)
  | .bp τ e j => forceNat τ fun τ => forceNat e fun e => forceNat j fun j => k (.bp τ e j)
  | v => k v
def forceAVs {α : Type} : List AV → (List AV → α) → α
  | [], k => k []
  | x :: xs, k => forceAV x fun x' => forceAVs xs fun l => k (x' :: l)
def forceH {α : Type} : Heap → (Heap → α) → α
  | [], k => k []
  | .box cs :: rs, k => forceAVs cs fun cs' => forceH rs fun l => k (.box cs' :: l)
  | .own n sz :: rs, k => forceNat n fun n' => forceH rs fun l => k (.own n' sz :: l)
  | .buf e cs sz :: rs, k => forceNat e fun e' => forceAVs cs fun cs' => forceH rs fun l => k (.buf e' cs' sz :: l)
def forceL {α : Type} (env : Env) : List Nat → (List (Nat × AV) → α) → α
  | [], k => k []
  | t :: ts, k => match env t with
    | none => forceL env ts k
    | some v => forceAV v fun v' => forceL env ts fun l => k ((t, v') :: l)

theorem forceNat_eq {α : Type} (m : Nat) (k : Nat → α) : forceNat m k = k m := by cases m <;> rfl
theorem forceInt_eq {α : Type} (n : Int) (k : Int → α) : forceInt n k = k n := by cases n <;> simp [forceInt, forceNat_eq]
theorem forceList_eq {α β : Type} : ∀ (l : List β) (k : List β → α), forceList l k = k l
  | [], k => rfl
  | x :: xs, k => by rw [forceList, forceList_eq xs]
theorem forceAV_eq {α : Type} (v : AV) (k : AV → α) : forceAV v k = k v := by
  unfold forceAV
  split <;> simp [forceNat_eq, forceInt_eq, forceList_eq]
theorem forceAVs_eq {α : Type} : ∀ (l : List AV) (k : List AV → α), forceAVs l k = k l
  | [], k => rfl
  | x :: xs, k => by rw [forceAVs, forceAV_eq, forceAVs_eq xs]
theorem forceH_eq {α : Type} : ∀ (l : Heap) (k : Heap → α), forceH l k = k l
  | [], k => rfl
  | .box cs :: xs, k => by rw [forceH, forceAVs_eq, forceH_eq xs]
  | .own n sz :: xs, k => by rw [forceH, forceNat_eq, forceH_eq xs]
  | .buf e cs sz :: xs, k => by rw [forceH, forceNat_eq, forceAVs_eq, forceH_eq xs]
theorem forceL_eq {α : Type} (env : Env) : ∀ (l : List Nat) (k : List (Nat × AV) → α), forceL env l k = k (l.filterMap fun t => (env t).map fun v => (t, v))
  | [], k => rfl
  | t :: ts, k => by
    rw [forceL, List.filterMap_cons]
    cases h : env t with
    | none => simp [forceL_eq env ts]
    | some v => simp [forceAV_eq, forceL_eq env ts]

/-- How code ends. -/
inductive Ex where
  | normal | exit (id : Nat) | ret

def loopA (body : Env → Heap → Option (Ex × Env × Heap)) : Nat → Env → Heap → Option (Ex × Env × Heap)
  | 0, _, _ => none
  | n + 1, env, H => match body env H with
    | none => none
    | some (.normal, e, h) => loopA body n e h
    | some (x, e, h) => some (x, e, h)

/-! Regions that draw their order: what stands ahead of what -/
def maskA (o : Oper) (acc : List Nat) : Nat :=
  o.after.toList.foldl (fun s e => if Region.binds .any e then s ||| 2 ^ e.on ||| acc.getD e.on 0 else s) 0
def masksA : List Oper → List Nat → List Nat
  | [], acc => acc
  | o :: rest, acc => masksA rest (acc ++ [maskA o acc])
/-- 0: it neither reads nor turns tokens; 1: it reads them; 2: it may turn them. -/
def kindA (pure : FuncId → Bool) (bf : TypeId → Bool) : Op → Nat
  | .load _ _ => 1
  | .makeSlice t _ _ => if bf t then 2 else 0
  | .store _ _ _ | .box _ _ | .alloc _ => 2
  | .call c => match c.callee with
    | .builtin .append => 2
    | .builtin .copy => 2
    | .builtin _ => 0
    | .value (.func f) => if pure f then 0 else 2
    | _ => 2
  | _ => 0
def isApp : Op → Bool
  | .call c => match c.callee with
    | .builtin .append => true
    | _ => false
  | _ => false
def isLoad : Op → Bool
  | .load _ _ => true
  | _ => false
/-- May two operations stand in either order: where no row that is written again is read (bf 0), reads and what is appended do not meet. -/
def pairOK (pure : FuncId → Bool) (bf : TypeId → Bool) (ops : Array Oper) (ms : List Nat) (i j : Nat) (oi oj : Oper) : Bool :=
  (ms.getD j 0).testBit i || (oi.apart ops oj && (decide (kindA pure bf oi.op + kindA pure bf oj.op < 3) || (bf 0 && (isLoad oi.op && isApp oj.op || isApp oi.op && isLoad oj.op))))
def regOK (pure : FuncId → Bool) (bf : TypeId → Bool) (ops : Array Oper) : Bool :=
  (List.range ops.size).all fun j => (ops.getD j default).after.all (fun e => !Region.binds .any e || e.on < j) &&
    (List.range j).all fun i => pairOK pure bf ops (masksA ops.toList []) i j (ops.getD i default) (ops.getD j default)

/-- The same, but for pairs that are let be: a read, and an operation that leaves alone what it reads. -/
def regOKx (pure : FuncId → Bool) (bf : TypeId → Bool) (ops : Array Oper) (exc : List (Nat × Nat)) : Bool :=
  (List.range ops.size).all fun j => (ops.getD j default).after.all (fun e => !Region.binds .any e || e.on < j) &&
    (List.range j).all fun i => pairOK pure bf ops (masksA ops.toList []) i j (ops.getD i default) (ops.getD j default) ||
      ((ops.getD i default).apart ops (ops.getD j default) && (exc.contains (i, j) && isLoad (ops.getD i default).op || exc.contains (j, i) && isLoad (ops.getD j default).op))
/-- The token that a read is of. -/
def tokA (env : Env) (o : Oper) : Option Nat := match o.op with
  | .load _ a => match valA env a with
    | some (.ptr τ _) => some τ
    | some (.bp τ _ _) => some τ
    | _ => none
  | _ => none
/-- The states ahead of each operation, and behind the last. -/
def trA (P : Program) (G : Nat → Nat → Option Value) (bf : TypeId → Bool) (cf : FuncId → List AV → Heap → Option (AV × Heap)) (ops : Array Oper) : List Oper → Env → Heap → List (Env × Heap)
  | [], env, H => [(env, H)]
  | o :: rest, env, H => (env, H) :: match wantedA ops o env with
    | none => []
    | some b => if b = true then match evOp P G bf cf o env H with
        | none => []
        | some (v, H') => trA P G bf cf ops rest (Env.put env o.dst v) H'
      else trA P G bf cf ops rest (Env.put env o.dst (.tup [])) H
/-- What is read is left alone by what it is let be with. -/
def excOK (ops : Array Oper) (tr : List (Env × Heap)) (exc : List (Nat × Nat)) : Prop :=
  ∀ p ∈ exc, ∀ oa s sb sb', ops[p.1]? = some oa → tr[p.1]? = some s → tr[p.2]? = some sb → tr[p.2 + 1]? = some sb' → ∀ τ, tokA s.1 oa = some τ → sb.2[τ]? = sb'.2[τ]?
def RegDyn (P : Program) (G : Nat → Nat → Option Value) (pure : FuncId → Bool) (bf : TypeId → Bool) (cf : FuncId → List AV → Heap → Option (AV × Heap)) (ops : Array Oper) (env : Env) (H : Heap) : Prop :=
  ∃ exc, regOKx pure bf ops exc = true ∧ excOK ops (trA P G bf cf ops ops.toList env H) exc
/-- A region that draws its order, of which it isn't known that the order is of no account. -/
def DrawBad (P : Program) (G : Nat → Nat → Option Value) (pure : FuncId → Bool) (bf : TypeId → Bool) (cf : FuncId → List AV → Heap → Option (AV × Heap)) (ops : Array Oper) (draw : Bool) (env : Env) (H : Heap) : Prop :=
  draw = true ∧ regOK pure bf ops = false ∧ ¬RegDyn P G pure bf cf ops env H
noncomputable instance decDrawBad (P : Program) (G : Nat → Nat → Option Value) (pure : FuncId → Bool) (bf : TypeId → Bool) (cf : FuncId → List AV → Heap → Option (AV × Heap)) (ops : Array Oper) (draw : Bool) (env : Env) (H : Heap) : Decidable (DrawBad P G pure bf cf ops draw env H) :=
  @instDecidableAnd _ _ (instDecidableEqBool _ _) (@instDecidableAnd _ _ (instDecidableEqBool _ _) (Classical.propDecidable _))

/-! Code, functions -/
structure FnInfo where
  body : Code
  np : Nat
  res : List ResultVar
  live : List Nat
  pure : Bool
  keep : Nat
  bf : List TypeId

section
variable (P : Program) (G : Nat → Nat → Option Value) (pure : FuncId → Bool) (bf : TypeId → Bool) (cf : FuncId → List AV → Heap → Option (AV × Heap)) (n : Nat) (live : List Nat)
noncomputable def evC : Code → Env → Heap → Option (Ex × Env × Heap)
  | .skip, env, H => some (.normal, env, H)
  | .label _, env, H => some (.normal, env, H)
  | .region _ ops draw, env, H =>
    if DrawBad P G pure bf cf ops draw env H then none else
    match evOps P G bf cf ops ops.toList env H with
    | none => none
    | some (e, h) => forceH h fun h => forceL e live fun l => some (.normal, E l, h)
  | .seq a b, env, H => match evC a env H with
    | none => none
    | some (.normal, e, h) => evC b e h
    | some (x, e, h) => some (x, e, h)
  | .cond c a b, env, H => match valA env c with
    | some (.s (.bool t)) => if t = true then evC a env H else evC b env H
    | _ => none
  | .block id b, env, H => match evC b env H with
    | none => none
    | some (.exit i, e, h) => if i = id then some (.normal, e, h) else some (.exit i, e, h)
    | some (x, e, h) => some (x, e, h)
  | .loop b, env, H => loopA (evC b) n env H
  | .exit id, env, H => some (.exit id, env, H)
  | .ret, env, H => some (.ret, env, H)
  | _, _, _ => none
end
def resA (P : Program) (env : Env) (H : Heap) : List ResultVar → Option (List AV)
  | [] => some []
  | .tmp t :: rs => match env t, resA P env H rs with
    | some v, some vs => some (v :: vs)
    | _, _ => none
  | .cell p ty :: rs => match env p, resA P env H rs with
    | some (.ptr τ 0), some vs => match H[τ]? with
      | some (.box cs) => (loadA P ty cs 0).map (· :: vs)
      | _ => none
    | _, _ => none
def oneOf : List AV → AV
  | [v] => v
  | vs => .tup vs
/-- What a call hands back: tokens that it made are let go (1: but for the row that is its value; 2: none is). -/
def truncA (keep : Nat) (m : Nat) (v : AV) (H : Heap) : Option (AV × Heap) :=
  if keep = 2 then some (v, H) else
  match shutH m (H.take m) with
  | none => none
  | some h => match keep, v with
    | 1, .sl xs (.own τ) => if τ < m then (AV.shut m v).map (·, h) else match H[τ]?, AV.shutL m xs with
        | some (.own k sz), some ys => some (.sl ys (.own m), h ++ [.own k sz])
        | _, _ => none
    | 1, .sl xs .full => (AV.shutL m xs).map fun ys => (.sl ys .full, h)
    | 1, .bs τ e sz q n => if τ < m then some (.bs τ e sz q n, h) else match H[τ]? with
        | some (.buf e' cs sz') => match AV.shutL m cs with
          | some ds => some (.bs m e sz q n, h ++ [.buf e' ds sz'])
          | none => none
        | _ => none
    | _, v => (AV.shut m v).map (·, h)
/-- What a call hands back that lets all tokens go: a row that was written stays as it is. -/
def finA (H : Heap) (v : AV) : Option AV :=
  match v with
  | .bs τ e sz q n => match H[τ]? with
    | some (.buf e' cs sz') => if e' = e ∧ sz' = sz then match viewA cs sz q n with
        | some ys => (AV.shutL 0 ys).map (.sl · .ro)
        | none => none
      else none
    | _ => none
  | v => AV.shut 0 v
def argEnv (args : List AV) : Env := fun t => args[t]?

/-- What is known of functions: their code; what they answer of values alone; what they do to tokens; what lies below; what the machine answers itself. -/
structure Tab where
  C : FuncId → Option FnInfo
  O : FuncId → Option (List AV → Option AV)
  OH : FuncId → Option (List AV → Heap → Option (AV × Heap))
  G : Nat → Nat → Option Value
  X : FuncId → Option (List AV → Option AV)
def Tab.pure (T : Tab) (f : FuncId) : Bool := (T.X f).isSome || (T.OH f).isNone && ((T.O f).isSome || ((T.C f).map (·.pure)).getD false)

theorem evC_region {P : Program} {G : Nat → Nat → Option Value} {pure : FuncId → Bool} {bf : TypeId → Bool} {cf : FuncId → List AV → Heap → Option (AV × Heap)} {n : Nat} {live : List Nat} {id : Nat} {ops : Array Oper} {draw : Bool} {env : Env} {H : Heap} :
    evC P G pure bf cf n live (.region id ops draw) env H = if DrawBad P G pure bf cf ops draw env H then none else
      match evOps P G bf cf ops ops.toList env H with
      | none => none
      | some (e, h) => some (.normal, Env.trim live e, h) := by
  rw [evC]
  split
  · rfl
  · cases evOps P G bf cf ops ops.toList env H with
    | none => rfl
    | some x => simp only [forceH_eq, forceL_eq]; rfl

/-- One call, calls within it known. -/
noncomputable def callA (P : Program) (T : Tab) (cf : FuncId → List AV → Heap → Option (AV × Heap)) (n : Nat) (f : FuncId) (args : List AV) (H : Heap) : Option (AV × Heap) :=
  match T.X f with
  | some g => (g args).map (·, H)
  | none => match T.OH f with
  | some g => g args H
  | none => match T.O f with
    | some g => match AV.shutL 0 args with
      | none => none
      | some as => (g as).map (·, H)
    | none => match T.C f with
      | none => none
      | some fi => if args.length = fi.np then
          if fi.pure then match AV.shutL 0 args with
            | none => none
            | some as => match evC P T.G T.pure (fi.bf.contains ·) cf n fi.live fi.body (argEnv as) [] with
              | some (.exit _, _, _) => none
              | none => none
              | some (_, e, h) => match resA P e h fi.res with
                | none => none
                | some vs => (finA h (oneOf vs)).map (·, H)
          else match evC P T.G T.pure (fi.bf.contains ·) cf n fi.live fi.body (argEnv args) H with
            | some (.exit _, _, _) => none
            | none => none
            | some (_, e, h) => match resA P e h fi.res with
              | none => none
              | some vs => truncA fi.keep H.length (oneOf vs) h
        else none
/-- Functions, in so many calls within each other and rounds of a loop. -/
noncomputable def evF (P : Program) (T : Tab) : Nat → FuncId → List AV → Heap → Option (AV × Heap)
  | 0 => fun _ _ _ => none
  | n + 1 => callA P T (evF P T n) n
end Go.Proofs.YtggoggdcnahkaaaDoor
