/-
  THE ABSTRACT MACHINE: arguments of any plain shape, and how great they are: a bound on how many values and letters they hold, in all. No Go program here.
-/
import Derived.Test.YtkcpojagecfcbaaGreatDoorAm23
namespace Go.AM
open Go
set_option linter.unusedVariables false
mutual
/-- These cells are of that shape, and hold no more than so many values and letters. -/
def IsK (m : Mem) : Sh → List V → Nat → Prop
  | .int k, cs, b => ∃ n, cs = [.int k n] ∧ (Lit.int k n).wf = true ∧ 1 ≤ b
  | .bool, cs, b => ∃ x, cs = [.bool x] ∧ 1 ≤ b
  | .str, cs, b => ∃ s, cs = [.str s] ∧ s.size ≤ maxLen ∧ s.size + 1 ≤ b
  | .slice sz e, cs, b => ∃ a n c, cs = [.sl a n c] ∧ n ≤ maxLen ∧ (a = none → n = 0 ∧ c = some 0) ∧ ∃ (es : List (List V)) (ks : List Nat), es.length = n ∧ ks.length = n ∧ (∀ (i : Nat) (x : List V) (k : Nat), es[i]? = some x → ks[i]? = some k → IsK m e x k) ∧ ks.sum + 1 ≤ b ∧
      ∀ x, a = some x → ∃ r, x = (r, 0, sz) ∧ (n ≠ 0 → m.obj r = some (.row sz es false))
  | .struct fs, cs, b => ∃ j, IssK m fs cs j ∧ j + 1 ≤ b
def IssK (m : Mem) : List Sh → List V → Nat → Prop
  | [], cs, b => cs = []
  | f :: fs, cs, b => ∃ x y i j, cs = x ++ y ∧ IsK m f x i ∧ IssK m fs y j ∧ i + j ≤ b
end
mutual
theorem IsK.is {m : Mem} : ∀ (s : Sh) (cs : List V) (b : Nat), IsK m s cs b → Is m s cs
  | .int k, cs, b, e => by simp only [IsK] at e; obtain ⟨n, h1, h2, _⟩ := e; simp only [Is]; exact ⟨n, h1, h2⟩
  | .bool, cs, b, e => by simp only [IsK] at e; obtain ⟨n, h1, _⟩ := e; simp only [Is]; exact ⟨n, h1⟩
  | .str, cs, b, e => by simp only [IsK] at e; obtain ⟨n, h1, h2, _⟩ := e; simp only [Is]; exact ⟨n, h1, h2⟩
  | .slice sz s, cs, b, e => by
    simp only [IsK] at e
    obtain ⟨a, n, c, h1, h2, h3, es, ks, h4, h5, h6, h7, h8⟩ := e
    simp only [Is]
    refine ⟨a, n, c, h1, h2, h3, es, h4, fun x hx => ?_, h8⟩
    obtain ⟨i, hi⟩ := List.getElem?_of_mem hx
    have hil := (List.getElem?_eq_some_iff.1 hi).1
    exact IsK.is s x _ (h6 i x _ hi (List.getElem?_eq_getElem (by omega)))
  | .struct fs, cs, b, e => by simp only [IsK] at e; obtain ⟨j, h, _⟩ := e; simp only [Is]; exact IssK.is fs cs j h
theorem IssK.is {m : Mem} : ∀ (s : List Sh) (cs : List V) (b : Nat), IssK m s cs b → Iss m s cs
  | [], cs, b, e => by simpa [Iss, IssK] using e
  | f :: fs, cs, b, e => by
    simp only [IssK] at e
    obtain ⟨x, y, i, j, h1, h2, h3, _⟩ := e
    simp only [Iss]
    exact ⟨x, y, h1, IsK.is f x i h2, IssK.is fs y j h3⟩
end
mutual
theorem IsK.mono {m m' : Mem} (h : m.In m') : ∀ (s : Sh) (cs : List V) (b : Nat), IsK m s cs b → IsK m' s cs b
  | .int k, cs, b, e => by simpa [IsK] using e
  | .bool, cs, b, e => by simpa [IsK] using e
  | .str, cs, b, e => by simpa [IsK] using e
  | .slice sz s, cs, b, e => by
    simp only [IsK] at e ⊢
    obtain ⟨a, n, c, h1, h2, h3, es, ks, h4, h5, h6, h7, h8⟩ := e
    exact ⟨a, n, c, h1, h2, h3, es, ks, h4, h5, fun i x k hx hk => IsK.mono h s x k (h6 i x k hx hk), h7, fun x hx => by obtain ⟨r, h9, h10⟩ := h8 x hx; exact ⟨r, h9, fun hn => h _ _ (h10 hn)⟩⟩
  | .struct fs, cs, b, e => by simp only [IsK] at e ⊢; obtain ⟨j, e1, e2⟩ := e; exact ⟨j, IssK.mono h fs cs j e1, e2⟩
theorem IssK.mono {m m' : Mem} (h : m.In m') : ∀ (s : List Sh) (cs : List V) (b : Nat), IssK m s cs b → IssK m' s cs b
  | [], cs, b, e => by simpa [IssK] using e
  | f :: fs, cs, b, e => by
    simp only [IssK] at e ⊢
    obtain ⟨x, y, i, j, h1, h2, h3, h4⟩ := e
    exact ⟨x, y, i, j, h1, IsK.mono h f x i h2, IssK.mono h fs y j h3, h4⟩
end
/-- A measure of readings: each value and letter counts. -/
structure Bulk {H : Type} (bk : DataW H → Nat) (bkA : List (DataW H) → Nat) : Prop where
  str : ∀ l, bk (.lit (.string l)) = l.length + 1
  one : ∀ d, 1 ≤ bk d
  slice : ∀ e s, bk (.slice e s) = bkA e + bkA s + 1
  agg : ∀ e, bk (.agg e) = bkA e + 1
  nil : bkA [] = 0
  cons : ∀ d r, bkA (d :: r) = bk d + bkA r
theorem Bulk.sum {H : Type} {bk : DataW H → Nat} {bkA : List (DataW H) → Nat} (h : Bulk bk bkA) : ∀ l, bkA l = (l.map bk).sum
  | [] => by simp [h.nil]
  | d :: r => by simp [h.cons, h.sum r]
section
variable {H : Type} {enc : TypeId × Value → H} {P : Program} {w : World} {bk : DataW H → Nat} {bkA : List (DataW H) → Nat}
/-- An argument of that shape, and no greater than that. -/
def IsVK (m : Mem) : Sh → V → Nat → Prop
  | .struct fs, x, b => ∃ cs, x = .agg cs ∧ IsK m (.struct fs) cs b
  | s, x, b => IsK m s [x] b
theorem IsVK.mono {m m' : Mem} (h : m.In m') {b : Nat} : ∀ {s : Sh} {x : V}, IsVK m s x b → IsVK m' s x b
  | .int k, x, e => IsK.mono h (.int k) _ _ e
  | .bool, x, e => IsK.mono h .bool _ _ e
  | .str, x, e => IsK.mono h .str _ _ e
  | .slice sz s, x, e => IsK.mono h (.slice sz s) _ _ e
  | .struct fs, x, ⟨cs, h1, h2⟩ => ⟨cs, h1, IsK.mono h (.struct fs) cs _ h2⟩
end
theorem IsVK.slR {m : Mem} (hf : m.Fresh) {sz : Nat} {s : Sh} {x : V} {b : Nat} (h : IsVK m (.slice sz s) x b) : ∃ (es : List (List V)) (ks : List Nat), Sl m sz x es ∧ ks.length = es.length ∧ (∀ (i : Nat) (e : List V) (k : Nat), es[i]? = some e → ks[i]? = some k → IsK m s e k) ∧ ks.sum + 1 ≤ b := by
  simp only [IsVK, IsK] at h
  obtain ⟨a, n, c, h1, h2, h3, es, ks, h4, h5, h6, h7, h8⟩ := h
  injection h1 with h1 _; subst h1
  subst h4
  refine ⟨es, ks, ⟨a, c, rfl, fun hne => ?_⟩, h5, h6, h7⟩
  cases a with
  | none => exact absurd (List.eq_nil_of_length_eq_zero (h3 rfl).1) hne
  | some p =>
    obtain ⟨r, rfl, h9⟩ := h8 p rfl
    have h10 := h9 (fun e => hne (List.eq_nil_of_length_eq_zero e))
    exact ⟨r, 0, _, false, rfl, hf r _ h10, h10, by omega, fun j _ => by rw [Nat.zero_add]⟩
end Go.AM
