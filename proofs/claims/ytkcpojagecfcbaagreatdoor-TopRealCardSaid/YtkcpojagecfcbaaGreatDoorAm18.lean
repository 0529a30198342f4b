/-
  THE ABSTRACT MACHINE: rows of whole numbers read; sort.Search, whatever it is asked. No Go program here but that one of Go's library.
-/
import Derived.Test.YtkcpojagecfcbaaGreatDoorAm17
namespace Go.AM
open Go
set_option linter.unusedVariables false
/-! ### rows of whole numbers -/
/-- A row whose elements are whole numbers. -/
def rowI (k : IntKind) (zs : List Int) : List (List V) := zs.map fun z => [.int k z]
theorem rowI_length (k : IntKind) (zs : List Int) : (rowI k zs).length = zs.length := by simp [rowI]
theorem new_keep {m : Mem} (hf : m.Fresh) (o : Obj) : ∀ q x, m.obj q = some x → (m.new o).obj q = some x := by
  intro q x hx
  have := hf q x hx
  rw [new_obj, if_neg (by omega)]; exact hx
/-! ### sort.Search -/
/-- The place where a search ends: all ahead of it no, all from it on yes. -/
def Cut (p : Nat → Bool) (n r : Nat) : Prop := r ≤ n ∧ (∀ i, i < r → p i = false) ∧ ∀ i, r ≤ i → i < n → p i = true
/-- Where p turns from no to yes once. -/
def Turns (p : Nat → Bool) (n : Nat) : Prop := ∀ i j, i ≤ j → j < n → p i = true → p j = true
open Classical in
/-- What sort.Search computes, of a function whose answers are told by l, and turn from no to yes once. -/
noncomputable def searchF (l : List (FuncId × AFn)) : AFn
  | [.int .i64 n, .fn g [] caps], m =>
    if h : ∃ (r : Nat) (p : Nat → Bool), 0 ≤ n ∧ n ≤ 4611686018427387904 ∧ (∀ i : Nat, i < n.toNat → look l g (.int .i64 i :: caps) m = some (.bool (p i), m)) ∧ Turns p n.toNat ∧ Cut p n.toNat r then some (.int .i64 h.choose, m) else none
  | _, _ => none
end Go.AM
