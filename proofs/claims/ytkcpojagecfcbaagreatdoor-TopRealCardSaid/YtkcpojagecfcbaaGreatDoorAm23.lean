/-
  THE ABSTRACT MACHINE: slices of one's own that have just their elements: rows appended whole; whole numbers of rows read. No Go program here.
-/
import Derived.Test.YtkcpojagecfcbaaGreatDoorAm22
namespace Go.AM
open Go
set_option linter.unusedVariables false
set_option linter.unusedSimpArgs false
/-- A slice of one's own that is a row to its end: a literal without elements, or a row that was appended. -/
structure Fr (m : Mem) (sz : Nat) (v : V) (es : List (List V)) : Prop where
  ex : ∃ q, q < m.next ∧ m.obj q = some (.row sz es true) ∧ ((es = [] ∧ v = .sl (some (q, 0, sz)) 0 (some 0)) ∨ (es ≠ [] ∧ v = .sl (some (q, 0, sz)) es.length none))
theorem Fr.ows {m : Mem} {sz : Nat} {v : V} {es : List (List V)} (h : Fr m sz v es) : Ows m sz v es := by
  obtain ⟨q, h1, h2, ⟨rfl, rfl⟩ | ⟨h3, rfl⟩⟩ := h.ex
  · exact ⟨.inr ⟨q, 0, [], some 0, by simp, h1, h2, by simp, by simp, fun k hk => by simp at hk; subst hk; simp⟩⟩
  · exact ⟨.inr ⟨q, 0, es, none, rfl, h1, h2, by omega, fun j _ => by rw [Nat.zero_add], fun k hk => by cases hk⟩⟩
theorem Fr.lit {m : Mem} {sz : Nat} : Fr (m.new (.row sz [] true)) sz (.sl (some (m.next, 0, sz)) 0 (some 0)) [] := ⟨m.next, by simp, by simp, .inl ⟨rfl, rfl⟩⟩
theorem Fr.keep {m m' : Mem} {sz : Nat} {v : V} {es : List (List V)} (h : Fr m sz v es) (hn : m.next ≤ m'.next) (ho : ∀ p ∈ v.fp, m'.obj p = m.obj p) : Fr m' sz v es := by
  obtain ⟨q, h1, h2, ⟨rfl, rfl⟩ | ⟨h3, rfl⟩⟩ := h.ex
  · exact ⟨q, by omega, by rw [ho q (by simp [V.fp])]; exact h2, .inl ⟨rfl, rfl⟩⟩
  · exact ⟨q, by omega, by rw [ho q (by simp [V.fp])]; exact h2, .inr ⟨h3, rfl⟩⟩
theorem Fr.grow {m m' : Mem} {sz : Nat} {v : V} {es : List (List V)} (h : Fr m sz v es) (hg : m.Grew m') : Fr m' sz v es := h.keep hg.next fun p hp => hg.obj p (h.ows.lt p hp)
/-- A row is appended. -/
theorem Fr.app {sz bytes : Nat} {m : Mem} {v : V} {es new : List (List V)} {K : KV} (h : Fr m sz v es) (hb : (es.length + new.length) * bytes ≤ 140737488355328) (hl : es.length + new.length ≤ 9223372036854775807)
    (k : ∀ v' m', Fr m' sz v' (es ++ new) → Stp m m' v.fp v'.fp → m'.next ≤ m.next + 1 → K v' m') : appendX sz bytes m v new K := by
  by_cases hn : new = []
  · subst hn
    obtain ⟨q, h1, h2, ⟨rfl, rfl⟩ | ⟨h3, rfl⟩⟩ := h.ex
    · simp only [appendX, if_true]
      exact k _ _ (by simpa using h) (Stp.refl _ _) (by omega)
    · simp only [appendX, if_true]
      exact k _ _ (by simpa using h) (Stp.refl _ _) (by omega)
  · have hnl := List.length_pos_iff.2 hn
    obtain ⟨q, h1, h2, ⟨rfl, rfl⟩ | ⟨h3, rfl⟩⟩ := h.ex
    · simp only [appendX, if_neg hn, h2]
      simp only [List.length_nil, Nat.zero_add] at hb hl
      rw [if_neg (by simp), if_neg (by simp; omega), if_pos (by simp only [room, Nat.zero_add]; exact ⟨hb, by omega, by simp⟩), if_pos (by omega)]
      simp only [List.drop_zero, List.take_zero, List.nil_append, Nat.zero_add]
      exact k _ _ ⟨m.next, by simp, by simp, .inr ⟨by simpa using hn, by simp⟩⟩ ⟨by simp, fun p hp _ => by rw [new_obj, if_neg (by omega)], fun p hp => by simp [V.fp] at hp; omega⟩ (by simp)
    · simp only [appendX, if_neg hn, h2]
      rw [if_neg (by simp), if_neg (by omega), if_pos (by simp only [room]; exact ⟨hb, hl, by omega⟩)]
      rw [if_pos (by simp)]
      simp only [List.drop_zero]
      refine k _ _ ⟨m.next, by simp, ?_, .inr ⟨by simp [h3], by simp⟩⟩ ⟨by simp, fun p hp hd => ?_, fun p hp => by simp [V.fp] at hp; omega⟩ (by simp)
      · rw [upd_obj, if_neg (by omega), new_obj, if_pos rfl]
      · rw [upd_obj, if_neg (fun e => hd (by simp [V.fp, e])), new_obj, if_neg (by omega)]
/-- An argument that is a slice of whole numbers, as one that is read. -/
theorem IsV.slI {m : Mem} (hf : m.Fresh) {k : IntKind} {x : V} (h : IsV m (.slice 1 (.int k)) x) : ∃ zs : List Int, Sl m 1 x (rowI k zs) ∧ zs.length ≤ maxLen ∧ ∀ z ∈ zs, (Lit.int k z).wf = true := by
  simp only [IsV, Is] at h
  obtain ⟨a, n, c, h1, h2, h3, es, h4, h5, h6⟩ := h
  injection h1 with h1 _; subst h1
  have key : ∀ es : List (List V), (∀ x ∈ es, ∃ n, x = [V.int k n] ∧ (Lit.int k n).wf = true) → ∃ zs, es = rowI k zs ∧ ∀ z ∈ zs, (Lit.int k z).wf = true := by
    intro es
    induction es with
    | nil => intro _; exact ⟨[], rfl, by simp⟩
    | cons e es ih =>
      intro h
      obtain ⟨n, rfl, hw⟩ := h e (by simp)
      obtain ⟨zs, rfl, hz⟩ := ih fun x hx => h x (by simp [hx])
      exact ⟨n :: zs, rfl, by simp [hw]; exact hz⟩
  obtain ⟨zs, rfl, hz⟩ := key es h5
  rw [rowI_length] at h4
  subst h4
  refine ⟨zs, ⟨a, c, by rw [rowI_length], fun hne => ?_⟩, h2, hz⟩
  cases a with
  | none => exact absurd (List.eq_nil_of_length_eq_zero (by rw [rowI_length]; exact (h3 rfl).1)) hne
  | some p =>
    obtain ⟨r, rfl, h7⟩ := h6 p rfl
    have h8 := h7 (fun e => hne (List.eq_nil_of_length_eq_zero (by rw [rowI_length]; exact e)))
    exact ⟨r, 0, _, false, rfl, hf r _ h8, h8, by omega, fun j _ => by rw [Nat.zero_add]⟩
end Go.AM
