/-
  THE ABSTRACT MACHINE: type assertions, and methods through interfaces, as rules. No Go program here.
-/
import Derived.Test.YtkcpojagecfcbaaGreatDoorAm33
namespace Go.AM
open Go
set_option linter.unusedVariables false
def tassertV (t : TypeId) (z : V) (x : V) (ok : Bool) : Option V :=
  match x with
  | .ifc t' v => if t' = t then some (if ok then .tup [v, .bool true] else v) else if ok then some (.tup [z, .bool false]) else none
  | .nilIfc => if ok then some (.tup [z, .bool false]) else none
  | _ => none
section
variable {Γ : Ctx} {e : Env} {m : Mem} {k : KV}
theorem opx_tassert' (t : TypeId) (z : V) (x : Opd) (ok : Bool) : opx Γ (.tassert t z x ok) e m k = optT (tassertV t z (ev e x) ok) m k .mk := by
  simp only [opx]; generalize ev e x = v
  cases v <;> try rfl
  case ifc t' v =>
    simp only [tassertV]
    by_cases h : t' = t
    · rw [if_pos h, if_pos h]; rfl
    · rw [if_neg h, if_neg h]; cases ok <;> rfl
  case nilIfc => cases ok <;> rfl
theorem opx_mkIfc' (t : TypeId) (x : Opd) : opx Γ (.mkIfc t x) e m k = k (.ifc t (ev e x)) m := eqI rfl
end
theorem tassertV_same (t : TypeId) (z v : V) (ok : Bool) : tassertV t z (.ifc t v) ok = some (if ok then .tup [v, .bool true] else v) := by simp [tassertV]
theorem tassertV_nil (t : TypeId) (z : V) : tassertV t z .nilIfc true = some (.tup [z, .bool false]) := eqI rfl
attribute [simp↓ high] opx_tassert' opx_mkIfc'
attribute [simp] tassertV_same tassertV_nil
end Go.AM
