/-
  THE ABSTRACT MACHINE: sort.Search with a closure known by its contract; slices of pairs. No Go program here.
-/
import Derived.Test.YthkopgcdghbjlaaAm25
namespace Go.AM
open Go
set_option linter.unusedVariables false
set_option linter.unusedSimpArgs false

theorem search_calls {P : Program} (hm : P.follows .mixedOrders = true) {f : FuncId} {n : Nat} (hc : Code1 P f n bSearch) (hn : 2 ≤ n) {N : Nat} (hN : N ≤ 4611686018427387904) {g : FuncId} {caps : List V} {m : Mem} {K : KV} (p : Nat → Bool)
    (hp : ∀ (i : Nat) (K : KV), i < N → K (.bool (p i)) m → ACalls P g (.int .i64 i :: caps) m K) (ht : Turns p N) (hk : ∀ r, Cut p N r → K (.int .i64 r) m) : ACalls P f [.int .i64 N, .fn g [] caps] m K := by
  refine run_on (ctx_nil _) hm hc (by simpa using hn) fun hf => ?_
  simp (disch := omega) [bSearch]
  refine exec_loopU (σ := Nat × Nat) (fun (lo, hi) => [(5, .int .i64 lo), (6, .int .i64 hi)]) (fun _ => m) (fun (lo, hi) => lo ≤ hi ∧ hi ≤ N ∧ (∀ j, j < lo → p j = false) ∧ (∀ j, hi ≤ j → j < N → p j = true)) (fun (lo, hi) => hi - lo) (0, N) rfl
    (by dsimp only; exact ⟨by omega, by omega, fun j hj => by omega, fun j h1 h2 => by omega⟩) (by simp) ?_
  intro (lo, hi) ⟨a1, a2, a3, a4⟩
  by_cases hlt : lo < hi
  · obtain ⟨md, hmd⟩ : ∃ md, (lo + hi) / 2 = md := ⟨_, rfl⟩
    have e1 : Int.fdiv ((lo : Int) + hi) 2 = (md : Int) := by
      rw [Int.fdiv_eq_ediv_of_nonneg _ (by omega)]; omega
    have hmdN : md < N := by omega
    cases hpm : p md with
    | true =>
      have hall : ∀ j, md ≤ j → j < N → p j = true := fun j h1 h2 => ht md j h1 h2 hpm
      clear a4
      simp (disch := omega) [e1]
      refine hp md _ hmdN ?_
      rw [hpm]
      simp (disch := omega)
      exact again_mk (lo, md) (by dsimp only; exact ⟨by omega, by omega, a3, hall⟩) (by dsimp only; omega) (by simp) rfl
    | false =>
      have hall : ∀ j, j < md + 1 → p j = false := fun j hj => by
        cases e : p j with
        | false => rfl
        | true => have := ht j md (by omega) hmdN e; rw [hpm] at this; cases this
      clear a3
      simp (disch := omega) [e1]
      refine hp md _ hmdN ?_
      rw [hpm]
      simp (disch := omega)
      exact again_mk (md + 1, hi) (by dsimp only; exact ⟨by omega, a2, hall, a4⟩) (by dsimp only; omega) (by simp) rfl
  · have : hi = lo := by omega
    subst this
    simp (disch := omega)
    exact hk hi ⟨a2, a3, a4⟩

/-- Rows of pairs. -/
def rowP (l : List (Int × Int)) : List (List V) := l.map fun x => [.int .i64 x.1, .int .i64 x.2]
def nthP (l : List (Int × Int)) (i : Nat) : Int × Int := l.getD i (0, 0)
theorem rowP_length (l : List (Int × Int)) : (rowP l).length = l.length := by simp [rowP]
theorem nthP_get {l : List (Int × Int)} {i : Nat} (h : i < l.length) : l[i]? = some (nthP l i) := by simp [nthP, List.getD_eq_getElem?_getD, h]
theorem rowP_get {l : List (Int × Int)} {i : Nat} (h : i < l.length) : (rowP l)[i]? = some [.int .i64 (nthP l i).1, .int .i64 (nthP l i).2] := by
  unfold rowP; rw [List.getElem?_map, nthP_get h]; rfl
theorem nthP_mem {l : List (Int × Int)} {i : Nat} (h : i < l.length) : nthP l i ∈ l := List.mem_of_getElem? (nthP_get h)
theorem mem_nthP {l : List (Int × Int)} {x : Int × Int} (h : x ∈ l) : ∃ i, i < l.length ∧ nthP l i = x := by
  obtain ⟨i, hi, e⟩ := List.mem_iff_getElem.1 h
  refine ⟨i, hi, ?_⟩
  have := nthP_get hi
  rw [List.getElem?_eq_getElem hi] at this
  injection this with this; rw [← this, e]
theorem lenP {m : Mem} {v : V} {l : List (Int × Int)} (h : Sl m 2 v (rowP l)) : ∃ N : Nat, l.length = N ∧ lenSl v = some (.int .i64 N) := ⟨_, rfl, by have := h.lenSl; rwa [rowP_length] at this⟩
theorem atP {m : Mem} {v : V} {l : List (Int × Int)} (h : Sl m 2 v (rowP l)) {y : Nat} (hy : y < l.length) :
    ∃ p q full rw, iaddrV 2 v (.int .i64 y) = some (.ptr (some (p, q, 0))) ∧ p < m.next ∧ m.obj p = some (.row 2 full rw) ∧ full[q]? = some [.int .i64 (nthP l y).1, .int .i64 (nthP l y).2] := by
  obtain ⟨p, q, full, rw, u1, u2, u3, u4, u5⟩ := h.at (i := y) (x := [.int .i64 (nthP l y).1, .int .i64 (nthP l y).2]) (rowP_get hy) .i64
  exact ⟨p, q, full, rw, u1, u2, u3, u4⟩

/-- An argument that is a slice of pairs of whole numbers, as one that is read. -/
theorem IsV.slP {m : Mem} (hf : m.Fresh) {x : V} (h : IsV m (.slice 2 (.struct [.int .i64, .int .i64])) x) : ∃ l : List (Int × Int), Sl m 2 x (rowP l) ∧ l.length ≤ maxLen ∧ ∀ y ∈ l, (Lit.int .i64 y.1).wf = true ∧ (Lit.int .i64 y.2).wf = true := by
  obtain ⟨es, hv, hml, hes⟩ := h.slR hf
  have key : ∀ es : List (List V), (∀ e ∈ es, Is m (.struct [.int .i64, .int .i64]) e) → ∃ l, es = rowP l ∧ ∀ y ∈ l, (Lit.int .i64 y.1).wf = true ∧ (Lit.int .i64 y.2).wf = true := by
    intro es
    induction es with
    | nil => intro _; exact ⟨[], rfl, by simp⟩
    | cons e es ih =>
      intro h
      have he := h e (by simp)
      simp only [Is, Iss] at he
      obtain ⟨_, _, rfl, ⟨a, rfl, w1⟩, _, _, rfl, ⟨b, rfl, w2⟩, rfl⟩ := he
      obtain ⟨l, rfl, hl⟩ := ih fun x hx => h x (by simp [hx])
      refine ⟨(a, b) :: l, rfl, fun y hy => ?_⟩
      rcases List.mem_cons.1 hy with rfl | hy
      · exact ⟨w1, w2⟩
      · exact hl y hy
  obtain ⟨l, rfl, hl⟩ := key es hes
  rw [rowP_length] at hml
  exact ⟨l, hv, hml, hl⟩

/-- A copy into a slice of one's own that has just as many elements. -/
theorem copy_all {m : Mem} {sz q n : Nat} {c : Option Nat} {es old : List (List V)} {K : KV} (ho : m.obj q = some (.row sz old true)) (h1 : old.length = n) (h2 : es.length = n) (k : K (.int .i64 n) (m.upd q (some (.row sz es true)))) : copyX sz m (.sl (some (q, 0, sz)) n c) es K := by
  simp only [copyX, ho]
  have e : Nat.min es.length n = n := by rw [h2]; exact Nat.min_self n
  rw [e]
  simp only [Nat.zero_add]
  rw [if_pos ⟨trivial, by omega⟩]
  have e1 : old.take 0 ++ es.take n ++ old.drop n = es := by
    rw [List.take_of_length_le (show es.length ≤ n by omega), List.drop_eq_nil_of_le (by omega)]; simp
  rw [e1]
  exact k
end Go.AM
