/-
  THE ABSTRACT MACHINE: slices of one's own with room behind them; what a step turns, by names; package slices of Go's library, whatever it is called with. No Go program here but that library's.
-/
import Derived.Test.YtkcpojagecfcbaaGreatDoorAm21
namespace Go.AM
open Go
set_option linter.unusedVariables false
set_option linter.unusedSimpArgs false
/-! ### what a step turns -/
/-- From m to m' what is named D is turned, or goes, and is named D' then; all else is as it was. -/
structure Stp (m m' : Mem) (D D' : List Nat) : Prop where
  next : m.next ≤ m'.next
  obj : ∀ p, p < m.next → p ∉ D → m'.obj p = m.obj p
  fp : ∀ p ∈ D', p ∈ D ∨ m.next ≤ p
theorem Stp.refl (m : Mem) (D : List Nat) : Stp m m D D := ⟨Nat.le_refl _, fun _ _ _ => rfl, fun _ h => .inl h⟩
theorem Stp.trans {a b c : Mem} {D D' D'' : List Nat} (h : Stp a b D D') (k : Stp b c D' D'') : Stp a c D D'' := by
  refine ⟨Nat.le_trans h.next k.next, fun p hp hd => ?_, fun p hp => ?_⟩
  · rw [k.obj p (Nat.lt_of_lt_of_le hp h.next) (fun e => by rcases h.fp p e with q | q
                                                            · exact hd q
                                                            · omega), h.obj p hp hd]
  · rcases k.fp p hp with q | q
    · exact h.fp p q
    · exact .inr (Nat.le_trans h.next q)
theorem Stp.grow {m m' : Mem} (h : m.Grew m') (D : List Nat) : Stp m m' D D := ⟨h.next, fun p hp _ => h.obj p hp, fun _ h => .inl h⟩
theorem Stp.new (m : Mem) (o : Obj) (D : List Nat) : Stp m (m.new o) D D := Stp.grow (Mem.Grew.new m o) D
theorem Stp.upd (m : Mem) {r : Nat} {D : List Nat} (hr : r ∈ D) (o : Option Obj) : Stp m (m.upd r o) D D := ⟨Nat.le_refl _, fun p _ hd => by rw [upd_obj, if_neg (fun e => hd (by rw [e]; exact hr))], fun _ h => .inl h⟩
theorem Stp.mono {m m' : Mem} {D D' E E' : List Nat} (h : Stp m m' D D') (h1 : ∀ p ∈ D, p ∈ E) (h2 : ∀ p ∈ E', p ∈ E ∨ p ∈ D' ∨ m.next ≤ p) : Stp m m' E E' :=
  ⟨h.next, fun p hp hd => h.obj p hp (fun e => hd (h1 p e)), fun p hp => by
    rcases h2 p hp with q | q | q
    · exact .inl q
    · rcases h.fp p q with q | q
      · exact .inl (h1 p q)
      · exact .inr q
    · exact .inr q⟩
theorem Stp.toGrew {m0 m m' : Mem} {D D' : List Nat} (h : Stp m m' D D') (hg : m0.Grew m) (hd : ∀ p ∈ D, m0.next ≤ p) : m0.Grew m' :=
  ⟨Nat.le_trans hg.next h.next, fun p hp => by rw [h.obj p (Nat.lt_of_lt_of_le hp hg.next) (fun e => by have := hd p e; omega), hg.obj p hp]⟩
theorem Stp.ge {m m' : Mem} {D D' : List Nat} (h : Stp m m' D D') {n : Nat} (hn : n ≤ m.next) (hd : ∀ p ∈ D, n ≤ p) : ∀ p ∈ D', n ≤ p := fun p hp => by
  rcases h.fp p hp with q | q
  · exact hd p q
  · omega
/-- What is apart stays apart, and as it is. -/
theorem Stp.apart {m m' : Mem} {D D' E : List Nat} (h : Stp m m' D D') (hE : ∀ p ∈ E, p < m.next) (hd : ∀ p ∈ D, p ∉ E) : ∀ p ∈ D', p ∉ E := fun p hp he => by
  rcases h.fp p hp with q | q
  · exact hd p q he
  · have := hE p he; omega
theorem Stp.keep {m m' : Mem} {D D' E : List Nat} (h : Stp m m' D D') (hE : ∀ p ∈ E, p < m.next) (hd : ∀ p ∈ D, p ∉ E) : ∀ p ∈ E, m'.obj p = m.obj p := fun p hp => h.obj p (hE p hp) (fun e => hd p e hp)
/-! ### slices of one's own, with room -/
def V.fp : V → List Nat
  | .sl (some (p, _, _)) _ _ => [p]
  | _ => []
structure Ows (m : Mem) (sz : Nat) (v : V) (es : List (List V)) : Prop where
  ex : (v = .sl none 0 (some 0) ∧ es = []) ∨ ∃ q i full c, v = .sl (some (q, i, sz)) es.length c ∧ q < m.next ∧ m.obj q = some (.row sz full true) ∧ i + es.length ≤ full.length ∧ (∀ j, j < es.length → full[i + j]? = es[j]?) ∧
    ∀ k, c = some k → es.length ≤ k ∧ i + k ≤ full.length
theorem Ows.nil (m : Mem) (sz : Nat) : Ows m sz (.sl none 0 (some 0)) [] := ⟨.inl ⟨rfl, rfl⟩⟩
theorem Ows.sl {m : Mem} {sz : Nat} {v : V} {es : List (List V)} (h : Ows m sz v es) : Sl m sz v es := by
  rcases h.ex with ⟨rfl, rfl⟩ | ⟨q, i, full, c, rfl, h1, h2, h3, h4, h5⟩
  · exact Sl.nil _ _ _ _
  · exact ⟨_, c, rfl, fun _ => ⟨q, i, full, true, rfl, h1, h2, h3, h4⟩⟩
theorem Sl.cs {m : Mem} {sz : Nat} {v : V} {es : List (List V)} (h : Sl m sz v es) : v.cs = [v] := by obtain ⟨a, c, rfl, _⟩ := h.ex; rfl
theorem Sl.okc {m : Mem} {sz : Nat} {v : V} {es : List (List V)} (h : Sl m sz v es) : v.okc = true := by obtain ⟨a, c, rfl, _⟩ := h.ex; rfl
theorem Ows.lt {m : Mem} {sz : Nat} {v : V} {es : List (List V)} (h : Ows m sz v es) : ∀ p ∈ v.fp, p < m.next := by
  rcases h.ex with ⟨rfl, rfl⟩ | ⟨q, i, full, c, rfl, h1, _⟩
  · intro p hp; simp [V.fp] at hp
  · intro p hp; simp [V.fp] at hp; subst hp; exact h1
theorem Ows.keep {m m' : Mem} {sz : Nat} {v : V} {es : List (List V)} (h : Ows m sz v es) (hn : m.next ≤ m'.next) (ho : ∀ p ∈ v.fp, m'.obj p = m.obj p) : Ows m' sz v es := by
  rcases h.ex with ⟨rfl, rfl⟩ | ⟨q, i, full, c, rfl, h1, h2, h3⟩
  · exact Ows.nil _ _
  · exact ⟨.inr ⟨q, i, full, c, rfl, by omega, by rw [ho q (by simp [V.fp])]; exact h2, h3⟩⟩
theorem Ows.grow {m m' : Mem} {sz : Nat} {v : V} {es : List (List V)} (h : Ows m sz v es) (hg : m.Grew m') : Ows m' sz v es := h.keep hg.next fun p hp => hg.obj p (h.lt p hp)
theorem Ows.step {m m' : Mem} {D D' : List Nat} {sz : Nat} {v : V} {es : List (List V)} (h : Ows m sz v es) (hs : Stp m m' D D') (hd : ∀ p ∈ D, p ∉ v.fp) : Ows m' sz v es := h.keep hs.next (hs.keep h.lt hd)
theorem Own.ows {n0 : Nat} {m : Mem} {sz : Nat} {v : V} {es : List (List V)} (h : Own n0 m sz v es) : Ows m sz v es := by
  rcases h with ⟨rfl, rfl⟩ | ⟨q, rfl, h1, h2, h3, h4⟩
  · exact Ows.nil _ _
  · exact ⟨.inr ⟨q, 0, es, none, rfl, h2, h3, by omega, fun j _ => by rw [Nat.zero_add], fun k hk => by cases hk⟩⟩
/-- An element, and another one in its place. -/
theorem Ows.at {m : Mem} {sz : Nat} {v : V} {es : List (List V)} (h : Ows m sz v es) {i : Nat} {x : List V} (hx : es[i]? = some x) (k : IntKind) :
    ∃ p q full, iaddrV sz v (.int k i) = some (.ptr (some (p, q, 0))) ∧ p < m.next ∧ m.obj p = some (.row sz full true) ∧ full[q]? = some x ∧ v.fp = [p] ∧ ∀ (y : List V) (m' : Mem), m'.obj p = some (.row sz (full.set q y) true) → p < m'.next → Ows m' sz v (es.set i y) := by
  have hi := (List.getElem?_eq_some_iff.1 hx).1
  rcases h.ex with ⟨rfl, rfl⟩ | ⟨q, i0, full, c, rfl, h1, h2, h3, h4, h5⟩
  · simp at hi
  · refine ⟨q, i0 + i, full, ?_, h1, h2, by rw [h4 i hi]; exact hx, rfl, fun y m' g1 g2 => ⟨.inr ⟨q, i0, full.set (i0 + i) y, c, by simp, g2, g1, by simp; exact h3, fun j hj => ?_, fun k hk => by simp; exact h5 k hk⟩⟩⟩
    · rw [iaddrV_sl, if_pos ⟨by omega, by omega, rfl⟩]; simp
    · simp only [List.length_set] at hj
      by_cases e : j = i
      · subst e; rw [List.getElem?_set_self (by omega), List.getElem?_set_self (by omega)]
      · rw [List.getElem?_set_ne (by omega), List.getElem?_set_ne (by omega)]; exact h4 j hj
theorem drop_get {α : Type} {full es : List α} {i : Nat} (h : ∀ j, j < es.length → full[i + j]? = es[j]?) (hl : i + es.length ≤ full.length) : (full.drop i).take es.length = es := by
  apply List.ext_getElem?
  intro j
  by_cases hj : j < es.length
  · rw [List.getElem?_take_of_lt hj, List.getElem?_drop, h j hj]
  · rw [List.getElem?_eq_none (by simp; omega), List.getElem?_eq_none (by omega)]
/-- One element more. -/
theorem Ows.app {sz bytes : Nat} {m : Mem} {v : V} {es : List (List V)} {x : List V} {K : KV} (h : Ows m sz v es) (hb : (es.length + 1) * bytes ≤ 140737488355328) (hl : es.length + 1 ≤ 9223372036854775807)
    (k : ∀ v' m', Ows m' sz v' (es ++ [x]) → Stp m m' v.fp v'.fp → m'.next ≤ m.next + 1 → K v' m') : appendX sz bytes m v [x] K := by
  rcases h.ex with ⟨rfl, rfl⟩ | ⟨q, i, full, c, rfl, h1, h2, h3, h4, h5⟩
  · simp only [appendX, if_neg (show [x] ≠ [] by simp)]
    rw [if_pos (by simp only [room, List.length_cons, List.length_nil]; simp at hb; omega)]
    exact k _ _ ⟨.inr ⟨m.next, 0, [x], none, by simp, by simp, by simp, by simp, fun j _ => by simp, fun k hk => by cases hk⟩⟩ ⟨by simp, fun p hp _ => by rw [new_obj, if_neg (by omega)], fun p hp => by simp [V.fp] at hp; omega⟩ (by simp)
  · simp only [appendX, if_neg (show [x] ≠ [] by simp), h2]
    rw [if_neg (by simp)]
    by_cases hf : i + es.length + [x].length ≤ full.length ∧ (∀ c', c = some c' → es.length + [x].length ≤ c')
    · rw [if_pos hf]
      simp only [if_true]
      have hf1 := hf.1
      simp only [List.length_cons, List.length_nil, Nat.zero_add] at hf1
      refine k _ _ ⟨.inr ⟨q, i, full.take (i + es.length) ++ [x] ++ full.drop (i + es.length + [x].length), c, by simp, h1, by simp, by simp; omega, fun j hj => ?_, fun k hk => ?_⟩⟩ ⟨Nat.le_refl _, fun p hp hd => by rw [upd_obj, if_neg (fun e => hd (by simp [V.fp, e]))], fun p hp => .inl hp⟩ (by simp)
      · simp only [List.length_append, List.length_cons, List.length_nil] at hj
        rw [List.append_assoc]
        by_cases hj2 : j < es.length
        · rw [List.getElem?_append_left (by simp; omega), List.getElem?_take_of_lt (by omega), h4 j hj2, List.getElem?_append_left hj2]
        · have : j = es.length := by omega
          subst this
          rw [List.getElem?_append_right (by simp; omega), List.getElem?_append_right (Nat.le_refl _)]
          have e0 : i + es.length - (full.take (i + es.length)).length = 0 := by simp; omega
          rw [e0, Nat.sub_self]; simp
      · have := hf.2 k hk
        have := (h5 k hk).2
        simp at *; omega
    · rw [if_neg hf]
      simp only [List.length_cons, List.length_nil, Nat.zero_add] at hf ⊢
      rw [if_pos ⟨hb, hl, h3⟩]
      cases c with
      | some c' =>
        have hc := h5 c' rfl
        have hlt : c' < es.length + 1 := by
          rcases Nat.lt_or_ge c' (es.length + 1) with h | h
          · exact h
          · exact absurd ⟨by omega, fun k hk => by injection hk with hk; omega⟩ hf
        simp only
        rw [if_pos hlt, drop_get h4 h3]
        exact k _ _ ⟨.inr ⟨m.next, 0, es ++ [x], none, by simp, by simp, by simp, by simp, fun j _ => by simp, fun k hk => by cases hk⟩⟩ ⟨by simp, fun p hp _ => by rw [new_obj, if_neg (by omega)], fun p hp => by simp [V.fp] at hp; omega⟩ (by simp)
      | none =>
        have hle : i + es.length = full.length := by
          rcases Nat.lt_or_ge (i + es.length) full.length with h | h
          · exact absurd ⟨by omega, fun k hk => by cases hk⟩ hf
          · omega
        simp only
        rw [if_pos ⟨trivial, hle⟩]
        have hd : full.drop i = es := by
          have := drop_get h4 h3
          rw [List.take_of_length_le (by simp; omega)] at this; exact this
        rw [hd]
        refine k _ _ ⟨.inr ⟨m.next, 0, es ++ [x], none, by simp, by simp, ?_, by simp, fun j _ => by simp, fun k hk => by cases hk⟩⟩ ⟨by simp, fun p hp hp2 => ?_, fun p hp => by simp [V.fp] at hp; omega⟩ (by simp)
        · rw [upd_obj, if_neg (by omega), new_obj, if_pos rfl]
        · rw [upd_obj, if_neg (fun e => hp2 (by simp [V.fp, e])), new_obj, if_neg (by omega)]
/-! ### parts of slices, told by their places -/
/-! ### slices.IndexFunc -/
/-! ### slices.Delete, of one element -/
/-! ### slices.Clone -/
/-! ### slices.DeleteFunc, of structs -/
end Go.AM
