/-
  THE ABSTRACT MACHINE: arguments of any plain shape, and how great they are: a bound on how many values and letters they hold, in all. No Go program here.
-/
import Derived.Test.YtkcpojagecfcbaaGreatDoorAm23
namespace Go.AM
open Go
set_option linter.unusedVariables false
mutual
/-- These cells are of that shape, and hold no more than so many values and letters. -/
def IsK (m : Mem) : Sh → List V → Nat → Prop
  | .int k, cs, b => ∃ n, cs = [.int k n] ∧ (Lit.int k n).wf = true ∧ 1 ≤ b
  | .bool, cs, b => ∃ x, cs = [.bool x] ∧ 1 ≤ b
  | .str, cs, b => ∃ s, cs = [.str s] ∧ s.size ≤ maxLen ∧ s.size + 1 ≤ b
  | .slice sz e, cs, b => ∃ a n c, cs = [.sl a n c] ∧ n ≤ maxLen ∧ (a = none → n = 0 ∧ c = some 0) ∧ ∃ (es : List (List V)) (ks : List Nat), es.length = n ∧ ks.length = n ∧ (∀ (i : Nat) (x : List V) (k : Nat), es[i]? = some x → ks[i]? = some k → IsK m e x k) ∧ ks.sum + 1 ≤ b ∧
      ∀ x, a = some x → ∃ r, x = (r, 0, sz) ∧ (n ≠ 0 → m.obj r = some (.row sz es false))
  | .struct fs, cs, b => ∃ j, IssK m fs cs j ∧ j + 1 ≤ b
def IssK (m : Mem) : List Sh → List V → Nat → Prop
  | [], cs, b => cs = []
  | f :: fs, cs, b => ∃ x y i j, cs = x ++ y ∧ IsK m f x i ∧ IssK m fs y j ∧ i + j ≤ b
end
mutual
theorem IsK.is {m : Mem} : ∀ (s : Sh) (cs : List V) (b : Nat), IsK m s cs b → Is m s cs
  | .int k, cs, b, e => by simp only [IsK] at e; obtain ⟨n, h1, h2, _⟩ := e; simp only [Is]; exact ⟨n, h1, h2⟩
  | .bool, cs, b, e => by simp only [IsK] at e; obtain ⟨n, h1, _⟩ := e; simp only [Is]; exact ⟨n, h1⟩
  | .str, cs, b, e => by simp only [IsK] at e; obtain ⟨n, h1, h2, _⟩ := e; simp only [Is]; exact ⟨n, h1, h2⟩
  | .slice sz s, cs, b, e => by
    simp only [IsK] at e
    obtain ⟨a, n, c, h1, h2, h3, es, ks, h4, h5, h6, h7, h8⟩ := e
    simp only [Is]
    refine ⟨a, n, c, h1, h2, h3, es, h4, fun x hx => ?_, h8⟩
    obtain ⟨i, hi⟩ := List.getElem?_of_mem hx
    have hil := (List.getElem?_eq_some_iff.1 hi).1
    exact IsK.is s x _ (h6 i x _ hi (List.getElem?_eq_getElem (by omega)))
  | .struct fs, cs, b, e => by simp only [IsK] at e; obtain ⟨j, h, _⟩ := e; simp only [Is]; exact IssK.is fs cs j h
theorem IssK.is {m : Mem} : ∀ (s : List Sh) (cs : List V) (b : Nat), IssK m s cs b → Iss m s cs
  | [], cs, b, e => by simpa [Iss, IssK] using e
  | f :: fs, cs, b, e => by
    simp only [IssK] at e
    obtain ⟨x, y, i, j, h1, h2, h3, _⟩ := e
    simp only [Iss]
    exact ⟨x, y, h1, IsK.is f x i h2, IssK.is fs y j h3⟩
end
mutual
theorem IsK.mono {m m' : Mem} (h : m.In m') : ∀ (s : Sh) (cs : List V) (b : Nat), IsK m s cs b → IsK m' s cs b
  | .int k, cs, b, e => by simpa [IsK] using e
  | .bool, cs, b, e => by simpa [IsK] using e
  | .str, cs, b, e => by simpa [IsK] using e
  | .slice sz s, cs, b, e => by
    simp only [IsK] at e ⊢
    obtain ⟨a, n, c, h1, h2, h3, es, ks, h4, h5, h6, h7, h8⟩ := e
    exact ⟨a, n, c, h1, h2, h3, es, ks, h4, h5, fun i x k hx hk => IsK.mono h s x k (h6 i x k hx hk), h7, fun x hx => by obtain ⟨r, h9, h10⟩ := h8 x hx; exact ⟨r, h9, fun hn => h _ _ (h10 hn)⟩⟩
  | .struct fs, cs, b, e => by simp only [IsK] at e ⊢; obtain ⟨j, e1, e2⟩ := e; exact ⟨j, IssK.mono h fs cs j e1, e2⟩
theorem IssK.mono {m m' : Mem} (h : m.In m') : ∀ (s : List Sh) (cs : List V) (b : Nat), IssK m s cs b → IssK m' s cs b
  | [], cs, b, e => by simpa [IssK] using e
  | f :: fs, cs, b, e => by
    simp only [IssK] at e ⊢
    obtain ⟨x, y, i, j, h1, h2, h3, h4⟩ := e
    exact ⟨x, y, i, j, h1, IsK.mono h f x i h2, IssK.mono h fs y j h3, h4⟩
end
section
variable {H : Type} {enc : TypeId × Value → H} {P : Program} {w : World} {bk : DataW H → Nat} {bkA : List (DataW H) → Nat}
end
end Go.AM
