/-
  THE ABSTRACT MACHINE: a range over a map, in any order. No Go program here.
-/
import Derived.Test.YthkopgcdghbjlaaAm31
namespace Go.AM
open Go
set_option linter.unusedVariables false
set_option linter.unusedSimpArgs false

def rangeV (m : Mem) (x : V) : Option (V × Mem) :=
  match x with
  | .map none => some (.ptr (some (m.next, 0, 0)), m.new (.iter none 0 [] 0))
  | .map (some r) => match m.obj r with
    | some (.map _ g) => some (.ptr (some (m.next, 0, 0)), m.new (.iter (some r) g.2 [] g.2))
    | _ => none
  | _ => none
section
variable {Γ : Ctx} {e : Env} {m : Mem} {k : KV}
theorem opx_range' (x : Opd) : opx Γ (.range x) e m k = opt2 (rangeV m (ev e x)) k .mk := by
  simp only [opx, rangeV, rangeX]
  generalize ev e x = v
  cases v <;> try rfl
  rename_i r
  cases r with
  | none => rfl
  | some r =>
    simp only []
    generalize m.obj r = o
    rcases o with _ | o
    · rfl
    · cases o <;> rfl
theorem opx_next' (x : Opd) : opx Γ (.next x) e m k = nextX m (ev e x) (Hid k .mk) := eqI rfl
theorem opx_entry' (x : Opd) : opx Γ (.entry x) e m k = entryX m (ev e x) (Hid k .mk) := eqI rfl
end
theorem rangeV_map (m : Mem) (r : Nat) : rangeV m (.map (some r)) = match m.obj r with
    | some (.map _ g) => some (.ptr (some (m.next, 0, 0)), m.new (.iter (some r) g.2 [] g.2))
    | _ => none := eqI rfl
attribute [simp↓ high] opx_range' opx_next' opx_entry'
attribute [simp] rangeV_map

/-- A map's stamps are right. -/
structure GOk (es : List (V × V)) (g : List Nat × Nat) : Prop where
  nd : g.1.Nodup
  lt : ∀ s ∈ g.1, s < g.2
  len : g.1.length = es.length
theorem GOk.nil : GOk [] ([], 0) := ⟨List.nodup_nil, by simp, rfl⟩
theorem GOk.put {l : List (Int × V)} {g : List Nat × Nat} (h : GOk (mapI l) g) (a : Int) (v : V) : GOk (mapI (putI l a v)) (stU (mapI l) (.int .i64 a) g) := by
  have hl : (putI l a v).length = (if getI l a = none then l.length + 1 else l.length) := by
    induction l with
    | nil => simp [putI, getI]
    | cons x l ih =>
      obtain ⟨b, u⟩ := x
      have ih' : ∀ l : List (Int × V), (putI l a v).length = (if getI l a = none then l.length + 1 else l.length) := by
        intro l
        induction l with
        | nil => simp [putI, getI]
        | cons y l ih =>
          obtain ⟨c, w⟩ := y
          simp only [putI, getI]
          by_cases q : a = c
          · simp [q]
          · simp only [if_neg q, List.length_cons, ih]; split <;> rfl
      exact ih' _
  unfold stU
  rw [findM_mapI]
  have h1 := h.len
  rw [mapI_length] at h1
  cases hg : getI l a with
  | none =>
    rw [hg, if_pos rfl] at hl
    simp only []
    refine ⟨?_, ?_, by rw [mapI_length, hl]; simp [h1]⟩
    · rw [List.nodup_append]
      refine ⟨h.nd, by simp, fun x hx y hy e => ?_⟩
      have := h.lt x hx
      have : y = g.2 := by simpa using hy
      omega
    · intro s hs
      simp only [List.mem_append, List.mem_singleton] at hs
      rcases hs with hs | rfl
      · have := h.lt s hs; show s < g.2 + 1; omega
      · show g.2 < g.2 + 1; omega
  | some w =>
    rw [hg, if_neg (by simp)] at hl
    simp only []
    exact ⟨h.nd, h.lt, by rw [mapI_length, hl]; exact h1⟩
theorem idxM_mapI (l : List (Int × V)) (a : Int) : (getI l a = none ∧ idxM (mapI l) (.int .i64 a) = none ∧ delI l a = l) ∨ ∃ j, idxM (mapI l) (.int .i64 a) = some j ∧ j < l.length ∧ delI l a = l.eraseIdx j := by
  induction l with
  | nil => exact .inl ⟨rfl, rfl, rfl⟩
  | cons x l ih =>
    obtain ⟨b, u⟩ := x
    simp only [mapI, List.map_cons, idxM, eqC, if_true, getI, delI]
    by_cases q : a = b
    · subst q; exact .inr ⟨0, by simp, by simp, by simp⟩
    · have : (a == b) = false := by simpa using q
      rw [this]; simp only [if_neg q]
      rcases ih with ⟨h1, h2, h3⟩ | ⟨j, h1, h2, h3⟩
      · left; refine ⟨h1, ?_, by rw [h3]⟩
        have h2' : idxM (l.map fun x => (V.int .i64 x.1, x.2)) (.int .i64 a) = none := h2
        rw [h2']; rfl
      · right; refine ⟨j + 1, ?_, by simp; omega, by rw [h3]; rfl⟩
        have h1' : idxM (l.map fun x => (V.int .i64 x.1, x.2)) (.int .i64 a) = some j := h1
        rw [h1']; rfl
theorem GOk.del {l : List (Int × V)} {g : List Nat × Nat} (h : GOk (mapI l) g) (a : Int) : GOk (mapI (delI l a)) (stD (mapI l) (.int .i64 a) g) := by
  unfold stD
  have h1 := h.len
  rw [mapI_length] at h1
  rcases idxM_mapI l a with ⟨_, h2, h3⟩ | ⟨j, h2, h3, h4⟩
  · rw [h2, h3]; exact h
  · rw [h2, h4]
    refine ⟨h.nd.sublist (List.eraseIdx_sublist _ _), fun s hs => h.lt s (List.mem_of_mem_eraseIdx hs), ?_⟩
    rw [mapI_length]
    show (g.1.eraseIdx j).length = _
    rw [List.length_eraseIdx_of_lt (by omega), List.length_eraseIdx_of_lt h3, h1]

/-- What was told so far, in some order. -/
def Visd (es : List (V × V)) (g : List Nat × Nat) (seen : List Nat) (done : List (V × V)) : Prop :=
  ∃ js : List Nat, js.Nodup ∧ (∀ j ∈ js, j < es.length) ∧ seen.map some = js.map (g.1[·]?) ∧ done.map some = js.map (es[·]?)
theorem Visd.nil (es : List (V × V)) (g : List Nat × Nat) : Visd es g [] [] := ⟨[], List.nodup_nil, by simp, rfl, rfl⟩
theorem Visd.step {es : List (V × V)} {g : List Nat × Nat} {seen : List Nat} {done : List (V × V)} (h : Visd es g seen done) {i : Nat} {k v : V} {s : Nat} (h1 : es[i]? = some (k, v)) (h2 : g.1[i]? = some s) (h3 : s ∉ seen) : Visd es g (seen ++ [s]) (done ++ [(k, v)]) := by
  obtain ⟨js, a1, a2, a3, a4⟩ := h
  have hi := (List.getElem?_eq_some_iff.1 h1).1
  have hn : i ∉ js := fun hj => by
    have : g.1[i]? ∈ js.map (g.1[·]?) := List.mem_map.2 ⟨i, hj, rfl⟩
    rw [← a3, h2] at this
    obtain ⟨x, hx, e⟩ := List.mem_map.1 this
    injection e with e; subst e; exact h3 hx
  refine ⟨js ++ [i], ?_, fun j hj => ?_, by simp [a3, h2], by simp [a4, h1]⟩
  · rw [List.nodup_append]
    exact ⟨a1, by simp, fun x hx y hy e => by simp at hy; subst hy; subst e; exact hn hx⟩
  · rcases List.mem_append.1 hj with hj | hj
    · exact a2 j hj
    · simp at hj; subst hj; exact hi
theorem Visd.mem {es : List (V × V)} {g : List Nat × Nat} {seen : List Nat} {done : List (V × V)} (h : Visd es g seen done) : ∀ x ∈ done, x ∈ es := by
  obtain ⟨js, a1, a2, a3, a4⟩ := h
  intro x hx
  have : some x ∈ js.map (es[·]?) := by rw [← a4]; exact List.mem_map.2 ⟨x, hx, rfl⟩
  obtain ⟨j, _, e⟩ := List.mem_map.1 this
  exact List.mem_of_getElem? e
theorem nodup_lt : ∀ (n : Nat) (js : List Nat), js.Nodup → (∀ j ∈ js, j < n) → js.length ≤ n
  | 0, js, _, h => by
    cases js with
    | nil => simp
    | cons j js => have := h j (by simp); omega
  | n + 1, js, hn, h => by
    have h1 := nodup_lt n (js.erase n) (hn.erase n) fun j hj => by
      have h2 := h j (List.mem_of_mem_erase hj)
      have h3 : j ≠ n := (hn.mem_erase_iff.1 hj).1
      omega
    have h2 := List.length_erase (a := n) (l := js)
    split at h2 <;> omega
theorem Visd.len {es : List (V × V)} {g : List Nat × Nat} {seen : List Nat} {done : List (V × V)} (h : Visd es g seen done) : done.length ≤ es.length := by
  obtain ⟨js, a1, a2, a3, a4⟩ := h
  have h1 := congrArg List.length a4
  rw [List.length_map, List.length_map] at h1
  rw [h1]; exact nodup_lt _ js a1 a2
/-- All were told: what was told is what is there, in some order. -/
theorem Visd.all {es : List (V × V)} {g : List Nat × Nat} {seen : List Nat} {done : List (V × V)} (h : Visd es g seen done) (hg : GOk es g) (hs : ∀ s ∈ g.1, s ∈ seen) : done.Perm es := by
  obtain ⟨js, a1, a2, a3, a4⟩ := h
  have hp : js.Perm (List.range es.length) := by
    rw [List.perm_ext_iff_of_nodup a1 List.nodup_range]
    intro j
    rw [List.mem_range]
    refine ⟨a2 j, fun hj => ?_⟩
    have hj2 : j < g.1.length := by rw [hg.len]; exact hj
    have h1 := hs g.1[j] (List.getElem_mem hj2)
    have h2 : some g.1[j] ∈ js.map (g.1[·]?) := by rw [← a3]; exact List.mem_map.2 ⟨_, h1, rfl⟩
    obtain ⟨j', hj', e⟩ := List.mem_map.1 h2
    have e2 := List.getElem?_eq_some_iff.1 e
    have : j' = j := (List.getElem_inj hg.nd).1 e2.2
    rw [← this]; exact hj'
  have h2 : (done.map some).Perm ((List.range es.length).map (es[·]?)) := by rw [a4]; exact hp.map _
  have h3 : (List.range es.length).map (es[·]?) = es.map some := by
    apply List.ext_getElem?
    intro j
    by_cases hj : j < es.length
    · simp [hj]
    · simp [hj]
  rw [h3] at h2
  have h4 := h2.filterMap id
  simpa [List.filterMap_map] using h4

/-- It goes on: all were told, or one more is. -/
theorem nextX_go {M : Mem} {q r : Nat} {es : List (V × V)} {g : List Nat × Nat} {seen : List Nat} {K : KV} (hi : M.obj q = some (.iter (some r) g.2 seen g.2)) (hm : M.obj r = some (.map es g))
    (h0 : (∀ s ∈ g.1, s ∈ seen) → K (.tup [.bool false]) M)
    (h1 : ∀ (i : Nat) (k v : V) (s : Nat), es[i]? = some (k, v) → g.1[i]? = some s → s ∉ seen → K (.tup [.bool true, k, v]) (M.upd q (some (.iter (some r) g.2 (seen ++ [s]) g.2)))) : nextX M (.ptr (some (q, 0, 0))) K := by
  simp only [nextX, hi, hm]
  exact ⟨trivial, trivial, h0, h1⟩
theorem entryX_go {M : Mem} {q r a : Nat} {es : List (V × V)} {g : List Nat × Nat} {seen : List Nat} {s i : Nat} {k v : V} {K : KV} (hi : M.obj q = some (.iter (some r) a (seen ++ [s]) g.2)) (hm : M.obj r = some (.map es g)) (h1 : es[i]? = some (k, v)) (h2 : g.1[i]? = some s)
    (h : K (.tup [k, v]) M) : entryX M (.ptr (some (q, 0, 0))) K := by
  simp only [entryX, hi, hm, List.getLast?_append, List.getLast?_singleton, Option.or_some]
  exact ⟨rfl, i, k, v, h1, h2, h⟩
end Go.AM
