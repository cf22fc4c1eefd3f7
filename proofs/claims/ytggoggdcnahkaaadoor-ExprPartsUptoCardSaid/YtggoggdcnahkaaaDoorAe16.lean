/- What the machine answers itself: looks for bytes in texts. -/
import Derived.Test.YtggoggdcnahkaaaDoorAe15
import Derived.Lib.IndexEntry
import Derived.Lib.Bytealg
set_option linter.unusedVariables false
set_option linter.unusedSimpArgs false
namespace Go.Proofs.YtggoggdcnahkaaaDoor
open Go Go.RowKit

theorem run_extern {P : Program} {f : FuncId} {fn : Func} {e : Array Value → Sem Value} (h1 : P.funcs[f]? = some fn) (h2 : fn.body.isNone = true) (h3 : (fn.name == "runtime.NumGoroutine") = false) (h4 : (Extern.findNext fn).isNone = true) (h5 : Extern.find fn = some e)
    {args : Array Value} {v : Value} {w : World} (h : (e args).run P w = .ok v w) : (callFunc f args).run P w = .ok (.value v) w := by
  have h4' : Extern.findNext fn = none := by simpa using h4
  simp only [callFunc, Sem.run_bind, run_program, Result.andThen_ok, h1, h3, h2, Bool.false_eq_true, if_false, if_true, h4', h5]
  have hmk : (Sem.mark (Mark.extern f) (Sem.pure ()) : Sem Unit).run P w = .ok () w := rfl
  simp [mark, hmk, h]

def indexByteX : List AV → Option AV
  | [.s (.string s), .s (.int .u8 c)] => some (.s (.int .i64 (Lib.indexByte s.data.toList c.toNat.toUInt8)))
  | _ => none
def indexStrX (m : Int) : List AV → Option AV
  | [.s (.string a), .s (.string b)] => if 2 ≤ b.size ∧ (b.size : Int) ≤ m ∧ a.size < 4294967281 then some (.s (.int .i64 (Lib.index a.data.toList b.data.toList))) else none
  | _ => none

theorem two_args {K : KW} {x y : AV} {args : Array Value} (h : RelL K [x, y] args.toList) : ∃ u v, args = #[u, v] ∧ Rel K x u ∧ Rel K y v := by
  simp only [RelL] at h
  obtain ⟨u, us, e, h1, v, vs, rfl, h2, rfl⟩ := h
  exact ⟨u, v, by apply Array.ext'; simpa using e, h1, h2⟩

theorem indexByte_self {P : Program} {G : Nat → Nat → Option Value} {f : FuncId} {fn : Func} (h1 : P.funcs[f]? = some fn) (h2 : fn.body.isNone = true) (h3 : (fn.name == "runtime.NumGoroutine") = false) (h4 : (Extern.findNext fn).isNone = true) (h5 : Extern.find fn = some Extern.BytealgIndexByte.indexByte) :
    ∀ as r, indexByteX as = some r → SelfCalls P G f as r := by
  intro as r h base R K H w args hG hw ha
  unfold indexByteX at h
  split at h
  · injection h with h; subst h
    obtain ⟨u, v, rfl, e1, e2⟩ := two_args ha
    simp only [Rel] at e1 e2
    obtain ⟨rfl, _⟩ := e1
    obtain ⟨rfl, _⟩ := e2
    exact ⟨_, run_extern h1 h2 h3 h4 h5 (Lib.run_indexByteString _ _ w), by simp [Rel, Value.oneCell']⟩
  · cases h

theorem indexStr_self {P : Program} {G : Nat → Nat → Option Value} {f : FuncId} {fn : Func} {g : Nat} {m : Int} (hg : P.globals.findIdx? (·.name == "internal/bytealg.MaxLen") = some g) (hm : G g 0 = some (.int .i64 m))
    (h1 : P.funcs[f]? = some fn) (h2 : fn.body.isNone = true) (h3 : (fn.name == "runtime.NumGoroutine") = false) (h4 : (Extern.findNext fn).isNone = true) (h5 : Extern.find fn = some Extern.BytealgIndex.index) :
    ∀ as r, indexStrX m as = some r → SelfCalls P G f as r := by
  intro as r h base R K H w args hG hw ha
  unfold indexStrX at h
  split at h
  · split at h
    · rename_i hc
      injection h with h; subst h
      obtain ⟨u, v, rfl, e1, e2⟩ := two_args ha
      simp only [Rel] at e1 e2
      obtain ⟨rfl, _⟩ := e1
      obtain ⟨rfl, _⟩ := e2
      obtain ⟨hb, hR⟩ := hG g 0 _ hm
      have hcell := hw.pcs g 0 _ (by rw [hw.low g 0 hb]; exact hR)
      exact ⟨_, run_extern h1 h2 h3 h4 h5 (Lib.run_indexString _ _ w g m hg hcell hc.1 hc.2.1 hc.2.2), by simp [Rel, Value.oneCell']⟩
    · cases h
  · cases h
end Go.Proofs.YtggoggdcnahkaaaDoor
