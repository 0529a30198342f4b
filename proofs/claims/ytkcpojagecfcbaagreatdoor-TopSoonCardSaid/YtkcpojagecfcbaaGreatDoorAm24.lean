/-
  THE ABSTRACT MACHINE: slices of one's own that are a row to its end, however made. No Go program here.
-/
import Derived.Test.YtkcpojagecfcbaaGreatDoorAm23
namespace Go.AM
open Go
set_option linter.unusedVariables false
set_option linter.unusedSimpArgs false
/-- A slice of one's own that is a row to its end: none, a literal, or a row that was appended. -/
structure Exa (m : Mem) (sz : Nat) (v : V) (es : List (List V)) : Prop where
  ex : (v = .sl none 0 (some 0) ∧ es = []) ∨ ∃ q c, v = .sl (some (q, 0, sz)) es.length c ∧ q < m.next ∧ m.obj q = some (.row sz es true) ∧ (c = none ∨ c = some es.length)
theorem Exa.nil (m : Mem) (sz : Nat) : Exa m sz (.sl none 0 (some 0)) [] := ⟨.inl ⟨rfl, rfl⟩⟩
theorem Exa.ows {m : Mem} {sz : Nat} {v : V} {es : List (List V)} (h : Exa m sz v es) : Ows m sz v es := by
  rcases h.ex with ⟨rfl, rfl⟩ | ⟨q, c, rfl, h1, h2, h3⟩
  · exact Ows.nil _ _
  · refine ⟨.inr ⟨q, 0, es, c, rfl, h1, h2, by omega, fun j _ => by rw [Nat.zero_add], fun k hk => ?_⟩⟩
    rcases h3 with rfl | rfl
    · cases hk
    · injection hk with hk; omega
theorem Exa.keep {m m' : Mem} {sz : Nat} {v : V} {es : List (List V)} (h : Exa m sz v es) (hn : m.next ≤ m'.next) (ho : ∀ p ∈ v.fp, m'.obj p = m.obj p) : Exa m' sz v es := by
  rcases h.ex with ⟨rfl, rfl⟩ | ⟨q, c, rfl, h1, h2, h3⟩
  · exact Exa.nil _ _
  · exact ⟨.inr ⟨q, c, rfl, by omega, by rw [ho q (by simp [V.fp])]; exact h2, h3⟩⟩
theorem Exa.grow {m m' : Mem} {sz : Nat} {v : V} {es : List (List V)} (h : Exa m sz v es) (hg : m.Grew m') : Exa m' sz v es := h.keep hg.next fun p hp => hg.obj p (h.ows.lt p hp)
theorem Exa.lit {m : Mem} {sz : Nat} {es : List (List V)} {n : Nat} (hn : n = es.length) : Exa (m.new (.row sz es true)) sz (.sl (some (m.next, 0, sz)) n (some n)) es := by
  subst hn; exact ⟨.inr ⟨m.next, some es.length, rfl, by simp, by simp, .inr rfl⟩⟩
theorem Exa.of {m : Mem} {sz : Nat} {q n : Nat} {es : List (List V)} (hn : n = es.length) (h1 : q < m.next) (h2 : m.obj q = some (.row sz es true)) : Exa m sz (.sl (some (q, 0, sz)) n (some n)) es := by
  subst hn; exact ⟨.inr ⟨q, some es.length, rfl, h1, h2, .inr rfl⟩⟩
/-- A row is appended. -/
theorem Exa.app {sz bytes : Nat} {m : Mem} {v : V} {es new : List (List V)} {K : KV} (h : Exa m sz v es) (hb : (es.length + new.length) * bytes ≤ 140737488355328) (hl : es.length + new.length ≤ 9223372036854775807)
    (k : ∀ v' m', Exa m' sz v' (es ++ new) → Stp m m' v.fp v'.fp → m'.next ≤ m.next + 1 → K v' m') : appendX sz bytes m v new K := by
  by_cases hn : new = []
  · subst hn
    rcases h.ex with ⟨rfl, rfl⟩ | ⟨q, c, rfl, h1, h2, h3⟩
    · simp only [appendX, if_true]
      exact k _ _ (by simpa using h) (Stp.refl _ _) (by omega)
    · simp only [appendX, if_true]
      exact k _ _ (by simpa using h) (Stp.refl _ _) (by omega)
  · have hnl := List.length_pos_iff.2 hn
    rcases h.ex with ⟨rfl, rfl⟩ | ⟨q, c, rfl, h1, h2, h3⟩
    · simp only [List.length_nil, Nat.zero_add] at hb hl
      simp only [appendX, if_neg hn]
      rw [if_pos ⟨by simp only [room]; exact hb, hl⟩]
      exact k _ _ ⟨.inr ⟨m.next, none, by simp, by simp, by simp, .inl rfl⟩⟩ ⟨by simp, fun p hp _ => by rw [new_obj, if_neg (by omega)], fun p hp => by simp [V.fp] at hp; omega⟩ (by simp)
    · simp only [appendX, if_neg hn, h2]
      rw [if_neg (by simp), if_neg (by omega), if_pos (by simp only [room]; exact ⟨hb, hl, by omega⟩)]
      rcases h3 with rfl | rfl
      · simp only
        rw [if_pos (by simp)]
        simp only [List.drop_zero]
        refine k _ _ ⟨.inr ⟨m.next, none, by simp, by simp, ?_, .inl rfl⟩⟩ ⟨by simp, fun p hp hd => ?_, fun p hp => by simp [V.fp] at hp; omega⟩ (by simp)
        · rw [upd_obj, if_neg (by omega), new_obj, if_pos rfl]
        · rw [upd_obj, if_neg (fun e => hd (by simp [V.fp, e])), new_obj, if_neg (by omega)]
      · simp only
        rw [if_pos (by omega)]
        simp only [List.drop_zero, List.take_length]
        exact k _ _ ⟨.inr ⟨m.next, none, by simp, by simp, by simp, .inl rfl⟩⟩ ⟨by simp, fun p hp _ => by rw [new_obj, if_neg (by omega)], fun p hp => by simp [V.fp] at hp; omega⟩ (by simp)
end Go.AM
