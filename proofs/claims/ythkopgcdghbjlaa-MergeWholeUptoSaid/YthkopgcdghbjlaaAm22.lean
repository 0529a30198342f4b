/-
  THE ABSTRACT MACHINE: slices of one's own with room behind them; what a step turns, by names; package slices of Go's library, whatever it is called with. No Go program here but that library's.
-/
import Derived.Test.YthkopgcdghbjlaaAm21
namespace Go.AM
open Go
set_option linter.unusedVariables false
set_option linter.unusedSimpArgs false

/-! ### what a step turns -/

/-- From m to m' what is named D is turned, or goes, and is named D' then; all else is as it was. -/
structure Stp (m m' : Mem) (D D' : List Nat) : Prop where
  next : m.next ≤ m'.next
  obj : ∀ p, p < m.next → p ∉ D → m'.obj p = m.obj p
  fp : ∀ p ∈ D', p ∈ D ∨ m.next ≤ p

theorem Stp.refl (m : Mem) (D : List Nat) : Stp m m D D := ⟨Nat.le_refl _, fun _ _ _ => rfl, fun _ h => .inl h⟩
theorem Stp.trans {a b c : Mem} {D D' D'' : List Nat} (h : Stp a b D D') (k : Stp b c D' D'') : Stp a c D D'' := by
  refine ⟨Nat.le_trans h.next k.next, fun p hp hd => ?_, fun p hp => ?_⟩
  · rw [k.obj p (Nat.lt_of_lt_of_le hp h.next) (fun e => by rcases h.fp p e with q | q
                                                            · exact hd q
                                                            · omega), h.obj p hp hd]
  · rcases k.fp p hp with q | q
    · exact h.fp p q
    · exact .inr (Nat.le_trans h.next q)
theorem Stp.grow {m m' : Mem} (h : m.Grew m') (D : List Nat) : Stp m m' D D := ⟨h.next, fun p hp _ => h.obj p hp, fun _ h => .inl h⟩
theorem Stp.new (m : Mem) (o : Obj) (D : List Nat) : Stp m (m.new o) D D := Stp.grow (Mem.Grew.new m o) D
theorem Stp.upd (m : Mem) {r : Nat} {D : List Nat} (hr : r ∈ D) (o : Option Obj) : Stp m (m.upd r o) D D := ⟨Nat.le_refl _, fun p _ hd => by rw [upd_obj, if_neg (fun e => hd (by rw [e]; exact hr))], fun _ h => .inl h⟩
theorem Stp.mono {m m' : Mem} {D D' E E' : List Nat} (h : Stp m m' D D') (h1 : ∀ p ∈ D, p ∈ E) (h2 : ∀ p ∈ E', p ∈ E ∨ p ∈ D' ∨ m.next ≤ p) : Stp m m' E E' :=
  ⟨h.next, fun p hp hd => h.obj p hp (fun e => hd (h1 p e)), fun p hp => by
    rcases h2 p hp with q | q | q
    · exact .inl q
    · rcases h.fp p q with q | q
      · exact .inl (h1 p q)
      · exact .inr q
    · exact .inr q⟩
theorem Stp.toGrew {m0 m m' : Mem} {D D' : List Nat} (h : Stp m m' D D') (hg : m0.Grew m) (hd : ∀ p ∈ D, m0.next ≤ p) : m0.Grew m' :=
  ⟨Nat.le_trans hg.next h.next, fun p hp => by rw [h.obj p (Nat.lt_of_lt_of_le hp hg.next) (fun e => by have := hd p e; omega), hg.obj p hp]⟩
theorem Stp.ge {m m' : Mem} {D D' : List Nat} (h : Stp m m' D D') {n : Nat} (hn : n ≤ m.next) (hd : ∀ p ∈ D, n ≤ p) : ∀ p ∈ D', n ≤ p := fun p hp => by
  rcases h.fp p hp with q | q
  · exact hd p q
  · omega
/-- What is apart stays apart, and as it is. -/
theorem Stp.apart {m m' : Mem} {D D' E : List Nat} (h : Stp m m' D D') (hE : ∀ p ∈ E, p < m.next) (hd : ∀ p ∈ D, p ∉ E) : ∀ p ∈ D', p ∉ E := fun p hp he => by
  rcases h.fp p hp with q | q
  · exact hd p q he
  · have := hE p he; omega
theorem Stp.keep {m m' : Mem} {D D' E : List Nat} (h : Stp m m' D D') (hE : ∀ p ∈ E, p < m.next) (hd : ∀ p ∈ D, p ∉ E) : ∀ p ∈ E, m'.obj p = m.obj p := fun p hp => h.obj p (hE p hp) (fun e => hd p e hp)

/-! ### slices of one's own, with room -/

def V.fp : V → List Nat
  | .sl (some (p, _, _)) _ _ => [p]
  | _ => []
theorem fp_sl (p i z n : Nat) (c : Option Nat) : V.fp (.sl (some (p, i, z)) n c) = [p] := eqI rfl
theorem fp_nil (n : Nat) (c : Option Nat) : V.fp (.sl none n c) = [] := eqI rfl

structure Ows (m : Mem) (sz : Nat) (v : V) (es : List (List V)) : Prop where
  ex : (v = .sl none 0 (some 0) ∧ es = []) ∨ ∃ q i full c, v = .sl (some (q, i, sz)) es.length c ∧ q < m.next ∧ m.obj q = some (.row sz full true) ∧ i + es.length ≤ full.length ∧ (∀ j, j < es.length → full[i + j]? = es[j]?) ∧
    ∀ k, c = some k → es.length ≤ k ∧ i + k ≤ full.length

theorem Ows.nil (m : Mem) (sz : Nat) : Ows m sz (.sl none 0 (some 0)) [] := ⟨.inl ⟨rfl, rfl⟩⟩
theorem Ows.sl {m : Mem} {sz : Nat} {v : V} {es : List (List V)} (h : Ows m sz v es) : Sl m sz v es := by
  rcases h.ex with ⟨rfl, rfl⟩ | ⟨q, i, full, c, rfl, h1, h2, h3, h4, h5⟩
  · exact Sl.nil _ _ _ _
  · exact ⟨_, c, rfl, fun _ => ⟨q, i, full, true, rfl, h1, h2, h3, h4⟩⟩
theorem Sl.cs {m : Mem} {sz : Nat} {v : V} {es : List (List V)} (h : Sl m sz v es) : v.cs = [v] := by obtain ⟨a, c, rfl, _⟩ := h.ex; rfl
theorem Sl.okc {m : Mem} {sz : Nat} {v : V} {es : List (List V)} (h : Sl m sz v es) : v.okc = true := by obtain ⟨a, c, rfl, _⟩ := h.ex; rfl
theorem Ows.lt {m : Mem} {sz : Nat} {v : V} {es : List (List V)} (h : Ows m sz v es) : ∀ p ∈ v.fp, p < m.next := by
  rcases h.ex with ⟨rfl, rfl⟩ | ⟨q, i, full, c, rfl, h1, _⟩
  · intro p hp; simp [V.fp] at hp
  · intro p hp; simp [V.fp] at hp; subst hp; exact h1
theorem Ows.keep {m m' : Mem} {sz : Nat} {v : V} {es : List (List V)} (h : Ows m sz v es) (hn : m.next ≤ m'.next) (ho : ∀ p ∈ v.fp, m'.obj p = m.obj p) : Ows m' sz v es := by
  rcases h.ex with ⟨rfl, rfl⟩ | ⟨q, i, full, c, rfl, h1, h2, h3⟩
  · exact Ows.nil _ _
  · exact ⟨.inr ⟨q, i, full, c, rfl, by omega, by rw [ho q (by simp [V.fp])]; exact h2, h3⟩⟩
theorem Ows.grow {m m' : Mem} {sz : Nat} {v : V} {es : List (List V)} (h : Ows m sz v es) (hg : m.Grew m') : Ows m' sz v es := h.keep hg.next fun p hp => hg.obj p (h.lt p hp)
theorem Ows.step {m m' : Mem} {D D' : List Nat} {sz : Nat} {v : V} {es : List (List V)} (h : Ows m sz v es) (hs : Stp m m' D D') (hd : ∀ p ∈ D, p ∉ v.fp) : Ows m' sz v es := h.keep hs.next (hs.keep h.lt hd)
theorem Own.ows {n0 : Nat} {m : Mem} {sz : Nat} {v : V} {es : List (List V)} (h : Own n0 m sz v es) : Ows m sz v es := by
  rcases h with ⟨rfl, rfl⟩ | ⟨q, rfl, h1, h2, h3, h4⟩
  · exact Ows.nil _ _
  · exact ⟨.inr ⟨q, 0, es, none, rfl, h2, h3, by omega, fun j _ => by rw [Nat.zero_add], fun k hk => by cases hk⟩⟩

/-- An element, and another one in its place. -/
theorem Ows.at {m : Mem} {sz : Nat} {v : V} {es : List (List V)} (h : Ows m sz v es) {i : Nat} {x : List V} (hx : es[i]? = some x) (k : IntKind) :
    ∃ p q full, iaddrV sz v (.int k i) = some (.ptr (some (p, q, 0))) ∧ p < m.next ∧ m.obj p = some (.row sz full true) ∧ full[q]? = some x ∧ v.fp = [p] ∧ ∀ (y : List V) (m' : Mem), m'.obj p = some (.row sz (full.set q y) true) → p < m'.next → Ows m' sz v (es.set i y) := by
  have hi := (List.getElem?_eq_some_iff.1 hx).1
  rcases h.ex with ⟨rfl, rfl⟩ | ⟨q, i0, full, c, rfl, h1, h2, h3, h4, h5⟩
  · simp at hi
  · refine ⟨q, i0 + i, full, ?_, h1, h2, by rw [h4 i hi]; exact hx, rfl, fun y m' g1 g2 => ⟨.inr ⟨q, i0, full.set (i0 + i) y, c, by simp, g2, g1, by simp; exact h3, fun j hj => ?_, fun k hk => by simp; exact h5 k hk⟩⟩⟩
    · rw [iaddrV_sl, if_pos ⟨by omega, by omega, rfl⟩]; simp
    · simp only [List.length_set] at hj
      by_cases e : j = i
      · subst e; rw [List.getElem?_set_self (by omega), List.getElem?_set_self (by omega)]
      · rw [List.getElem?_set_ne (by omega), List.getElem?_set_ne (by omega)]; exact h4 j hj

theorem drop_get {α : Type} {full es : List α} {i : Nat} (h : ∀ j, j < es.length → full[i + j]? = es[j]?) (hl : i + es.length ≤ full.length) : (full.drop i).take es.length = es := by
  apply List.ext_getElem?
  intro j
  by_cases hj : j < es.length
  · rw [List.getElem?_take_of_lt hj, List.getElem?_drop, h j hj]
  · rw [List.getElem?_eq_none (by simp; omega), List.getElem?_eq_none (by omega)]

/-- One element more. -/
theorem Ows.app {sz bytes : Nat} {m : Mem} {v : V} {es : List (List V)} {x : List V} {K : KV} (h : Ows m sz v es) (hb : (es.length + 1) * bytes ≤ 140737488355328) (hl : es.length + 1 ≤ 9223372036854775807)
    (k : ∀ v' m', Ows m' sz v' (es ++ [x]) → Stp m m' v.fp v'.fp → m'.next ≤ m.next + 1 → K v' m') : appendX sz bytes m v [x] K := by
  rcases h.ex with ⟨rfl, rfl⟩ | ⟨q, i, full, c, rfl, h1, h2, h3, h4, h5⟩
  · simp only [appendX, if_neg (show [x] ≠ [] by simp)]
    rw [if_pos (by simp only [room, List.length_cons, List.length_nil]; simp at hb; omega)]
    exact k _ _ ⟨.inr ⟨m.next, 0, [x], none, by simp, by simp, by simp, by simp, fun j _ => by simp, fun k hk => by cases hk⟩⟩ ⟨by simp, fun p hp _ => by rw [new_obj, if_neg (by omega)], fun p hp => by simp [V.fp] at hp; omega⟩ (by simp)
  · simp only [appendX, if_neg (show [x] ≠ [] by simp), h2]
    rw [if_neg (by simp)]
    by_cases hf : i + es.length + [x].length ≤ full.length ∧ (∀ c', c = some c' → es.length + [x].length ≤ c')
    · rw [if_pos hf]
      simp only [if_true]
      have hf1 := hf.1
      simp only [List.length_cons, List.length_nil, Nat.zero_add] at hf1
      refine k _ _ ⟨.inr ⟨q, i, full.take (i + es.length) ++ [x] ++ full.drop (i + es.length + [x].length), c, by simp, h1, by simp, by simp; omega, fun j hj => ?_, fun k hk => ?_⟩⟩ ⟨Nat.le_refl _, fun p hp hd => by rw [upd_obj, if_neg (fun e => hd (by simp [V.fp, e]))], fun p hp => .inl hp⟩ (by simp)
      · simp only [List.length_append, List.length_cons, List.length_nil] at hj
        rw [List.append_assoc]
        by_cases hj2 : j < es.length
        · rw [List.getElem?_append_left (by simp; omega), List.getElem?_take_of_lt (by omega), h4 j hj2, List.getElem?_append_left hj2]
        · have : j = es.length := by omega
          subst this
          rw [List.getElem?_append_right (by simp; omega), List.getElem?_append_right (Nat.le_refl _)]
          have e0 : i + es.length - (full.take (i + es.length)).length = 0 := by simp; omega
          rw [e0, Nat.sub_self]; simp
      · have := hf.2 k hk
        have := (h5 k hk).2
        simp at *; omega
    · rw [if_neg hf]
      simp only [List.length_cons, List.length_nil, Nat.zero_add] at hf ⊢
      rw [if_pos ⟨hb, hl, h3⟩]
      cases c with
      | some c' =>
        have hc := h5 c' rfl
        have hlt : c' < es.length + 1 := by
          rcases Nat.lt_or_ge c' (es.length + 1) with h | h
          · exact h
          · exact absurd ⟨by omega, fun k hk => by injection hk with hk; omega⟩ hf
        simp only
        rw [if_pos hlt, drop_get h4 h3]
        exact k _ _ ⟨.inr ⟨m.next, 0, es ++ [x], none, by simp, by simp, by simp, by simp, fun j _ => by simp, fun k hk => by cases hk⟩⟩ ⟨by simp, fun p hp _ => by rw [new_obj, if_neg (by omega)], fun p hp => by simp [V.fp] at hp; omega⟩ (by simp)
      | none =>
        have hle : i + es.length = full.length := by
          rcases Nat.lt_or_ge (i + es.length) full.length with h | h
          · exact absurd ⟨by omega, fun k hk => by cases hk⟩ hf
          · omega
        simp only
        rw [if_pos ⟨trivial, hle⟩]
        have hd : full.drop i = es := by
          have := drop_get h4 h3
          rw [List.take_of_length_le (by simp; omega)] at this; exact this
        rw [hd]
        refine k _ _ ⟨.inr ⟨m.next, 0, es ++ [x], none, by simp, by simp, ?_, by simp, fun j _ => by simp, fun k hk => by cases hk⟩⟩ ⟨by simp, fun p hp hp2 => ?_, fun p hp => by simp [V.fp] at hp; omega⟩ (by simp)
        · rw [upd_obj, if_neg (by omega), new_obj, if_pos rfl]
        · rw [upd_obj, if_neg (fun e => hp2 (by simp [V.fp, e])), new_obj, if_neg (by omega)]

/-! ### parts of slices, told by their places -/

theorem map_sub_zero (c : Option Nat) : c.map (· - 0) = c := by cases c <;> rfl

theorem sliceV_at (sz q i0 l h : Nat) (c : Option Nat) (hc : l = 0 → c = c) : sliceV sz (some (q, i0, sz)) l h c = some (.sl (some (q, i0 + l, sz)) (h - l) c) := by
  simp only [sliceV]
  split
  · rename_i e; subst e; simp
  · simp

theorem sliceX_L (sz q i0 n l : Nat) (c : Option Nat) (k : IntKind) (h : l ≤ n) : sliceX sz (.sl (some (q, i0, sz)) n c) (some (.int k l)) none none = some (.sl (some (q, i0 + l, sz)) (n - l) (c.map (· - l))) := by
  have hz : (0 : Int) ≤ l := by omega
  have hm : n ≤ Nat.max n (c.getD n) := Nat.le_max_left _ _
  simp only [sliceX, sliceB, natOf, hz, if_true, Int.toNat_natCast]
  rw [if_pos ⟨h, hm⟩]
  exact sliceV_at _ _ _ _ _ _ (fun _ => rfl)
theorem sliceX_R (sz q i0 n r : Nat) (c : Option Nat) (k : IntKind) (h : r ≤ n) : sliceX sz (.sl (some (q, i0, sz)) n c) none (some (.int k r)) none = some (.sl (some (q, i0, sz)) r c) := by
  have hz : (0 : Int) ≤ r := by omega
  have hm : r ≤ Nat.max n (c.getD n) := Nat.le_trans h (Nat.le_max_left _ _)
  simp only [sliceX, sliceB, natOf, hz, if_true, Int.toNat_natCast]
  rw [if_pos ⟨Nat.zero_le _, hm⟩]
  simp only [map_sub_zero, sliceV, if_true]
theorem sliceX_LRM (sz q i0 n l r x : Nat) (c : Option Nat) (k k' k'' : IntKind) (h1 : l ≤ r) (h2 : r ≤ x) (h3 : x ≤ n) : sliceX sz (.sl (some (q, i0, sz)) n c) (some (.int k l)) (some (.int k' r)) (some (.int k'' x)) = some (.sl (some (q, i0 + l, sz)) (r - l) (some (x - l))) := by
  have hz : ∀ n : Nat, (0 : Int) ≤ n := fun n => by omega
  have hm : x ≤ Nat.max n (c.getD n) := Nat.le_trans h3 (Nat.le_max_left _ _)
  simp only [sliceX, sliceB, natOf, hz, if_true, Int.toNat_natCast]
  rw [if_pos ⟨h1, h2, hm⟩]
  exact sliceV_at _ _ _ _ _ _ (fun _ => rfl)
theorem sliceMV_at {m : Mem} {sz q i0 n l r : Nat} {c : Option Nat} {full : List (List V)} {rw : Bool} (ho : m.obj q = some (.row sz full rw)) (k k' : IntKind) (h1 : l ≤ r) (h2 : i0 + r ≤ full.length) (h3 : ∀ k, c = some k → r ≤ k) :
    sliceMV sz m (.sl (some (q, i0, sz)) n c) (.int k l) (.int k' r) = some (.sl (some (q, i0 + l, sz)) (r - l) (c.map (· - l))) := by
  have hz : ∀ n : Nat, (0 : Int) ≤ n := fun n => by omega
  cases c with
  | none =>
    simp only [sliceMV, ho, natOf, hz, if_true, Int.toNat_natCast]
    have hm : r ≤ Nat.max n (full.length - i0) := Nat.le_trans (by omega) (Nat.le_max_right _ _)
    rw [if_pos ⟨h1, hm⟩]
    exact sliceV_at _ _ _ _ _ _ (fun _ => rfl)
  | some c =>
    have hm : r ≤ Nat.max n ((some c).getD n) := Nat.le_trans (h3 c rfl) (Nat.le_max_right _ _)
    simp only [sliceMV, sliceB, natOf, hz, if_true, Int.toNat_natCast]
    rw [if_pos ⟨h1, hm⟩]
    exact sliceV_at _ _ _ _ _ _ (fun _ => rfl)

theorem Ows.form {m : Mem} {sz : Nat} {v : V} {es : List (List V)} (h : Ows m sz v es) : ∃ a c, v = .sl a es.length c := by
  obtain ⟨a, c, h, _⟩ := h.sl.ex; exact ⟨a, c, h⟩
/-- What comes behind the first ones, of a slice of one's own. -/
theorem Ows.cutL {m : Mem} {sz : Nat} {v : V} {es : List (List V)} (h : Ows m sz v es) (k : IntKind) (l : Nat) (hl : l ≤ es.length) : ∃ w, sliceX sz v (some (.int k l)) none none = some w ∧ Ows m sz w (es.drop l) ∧ ∀ p ∈ w.fp, p ∈ v.fp := by
  rcases h.ex with ⟨rfl, rfl⟩ | ⟨q, i0, full, c, rfl, h1, h2, h3, h4, h5⟩
  · have : l = 0 := by simpa using hl
    subst this
    exact ⟨.sl none 0 (some 0), by simp [sliceX, sliceB, natOf, sliceV], by simpa using Ows.nil m sz, by simp [V.fp]⟩
  · refine ⟨_, sliceX_L _ _ _ _ _ _ _ hl, ⟨.inr ⟨q, i0 + l, full, c.map (· - l), by simp, h1, h2, by simp; omega, fun j hj => ?_, fun k hk => ?_⟩⟩, by simp [V.fp]⟩
    · simp at hj
      rw [Nat.add_assoc, h4 (l + j) (by omega), List.getElem?_drop]
    · cases c with
      | none => cases hk
      | some c => simp at hk; have := h5 c rfl; simp; omega
theorem Ows.cutR {m : Mem} {sz : Nat} {v : V} {es : List (List V)} (h : Ows m sz v es) (k : IntKind) (r : Nat) (hr : r ≤ es.length) : ∃ w, sliceX sz v none (some (.int k r)) none = some w ∧ Ows m sz w (es.take r) ∧ ∀ p ∈ w.fp, p ∈ v.fp := by
  rcases h.ex with ⟨rfl, rfl⟩ | ⟨q, i0, full, c, rfl, h1, h2, h3, h4, h5⟩
  · have : r = 0 := by simpa using hr
    subst this
    exact ⟨.sl none 0 (some 0), by simp [sliceX, sliceB, natOf, sliceV], by simpa using Ows.nil m sz, by simp [V.fp]⟩
  · refine ⟨_, sliceX_R _ _ _ _ _ _ _ hr, ⟨.inr ⟨q, i0, full, c, by simp; omega, h1, h2, by simp; omega, fun j hj => ?_, fun k hk => ?_⟩⟩, by simp [V.fp]⟩
    · simp at hj
      rw [h4 j (by omega), List.getElem?_take_of_lt (by omega)]
    · have := h5 k hk; simp; omega

/-- Elements that fit are written where they are to lie. -/
theorem appendX_at {sz bytes q i0 n : Nat} {m : Mem} {c : Option Nat} {full new : List (List V)} {K : KV} (ho : m.obj q = some (.row sz full true)) (h1 : i0 + n + new.length ≤ full.length) (h2 : ∀ k, c = some k → n + new.length ≤ k)
    (k : K (.sl (some (q, i0, sz)) (n + new.length) c) (m.upd q (some (.row sz (full.take (i0 + n) ++ new ++ full.drop (i0 + n + new.length)) true)))) : appendX sz bytes m (.sl (some (q, i0, sz)) n c) new K := by
  by_cases hn : new = []
  · subst hn
    simp only [appendX, if_true]
    simp only [List.append_nil, List.length_nil, Nat.add_zero, List.take_append_drop] at k
    rw [upd_same ho] at k; exact k
  · simp only [appendX, if_neg hn, ho]
    rw [if_neg (by simp), if_pos ⟨h1, h2⟩]
    simp only [if_true]; exact k

theorem clearX_at {z : List V} {sz q i0 n : Nat} {m : Mem} {c : Option Nat} {full : List (List V)} {K : KV} (ho : m.obj q = some (.row sz full true)) (h1 : i0 + n ≤ full.length) (hz : z.length = sz) (hc : z.all V.isCell = true)
    (k : K (.tup []) (m.upd q (some (.row sz (full.take i0 ++ List.replicate n z ++ full.drop (i0 + n)) true)))) : clearX z m (.sl (some (q, i0, sz)) n c) K := by
  simp only [clearX]
  by_cases hn : n = 0
  · subst hn
    rw [if_pos rfl]
    simp only [List.replicate_zero, List.append_nil, Nat.add_zero, List.take_append_drop] at k
    rw [upd_same ho] at k; exact k
  · rw [if_neg hn, ho]
    simp only
    rw [if_pos ⟨h1, hz, hc⟩]; exact k

theorem elts_at {m : Mem} {sz q i n : Nat} {c : Option Nat} {full : List (List V)} {rw : Bool} (ho : m.obj q = some (.row sz full rw)) (h : i + n ≤ full.length) : eltsOf sz m (.sl (some (q, i, sz)) n c) = some ((full.drop i).take n) := by
  simp only [eltsOf]
  split
  · rename_i e; subst e; simp
  · simp only [Mem.elts, ho, true_and]; rw [if_pos h]

/-- Some elements of a row are others now. -/
theorem patch_get {α : Type} (full new : List α) (o j : Nat) (h : o + new.length ≤ full.length) : (full.take o ++ new ++ full.drop (o + new.length))[j]? = if j < o then full[j]? else if j < o + new.length then new[j - o]? else full[j]? := by
  rw [List.append_assoc]
  by_cases h1 : j < o
  · rw [if_pos h1, List.getElem?_append_left (by simp; omega), List.getElem?_take_of_lt h1]
  · rw [if_neg h1, List.getElem?_append_right (by simp; omega)]
    have e0 : (full.take o).length = o := by simp; omega
    rw [e0]
    by_cases h2 : j < o + new.length
    · rw [if_pos h2, List.getElem?_append_left (by omega)]
    · rw [if_neg h2, List.getElem?_append_right (by omega), List.getElem?_drop]
      congr 1; omega
theorem patch_length {α : Type} (full new : List α) (o : Nat) (h : o + new.length ≤ full.length) : (full.take o ++ new ++ full.drop (o + new.length)).length = full.length := by
  simp; omega

/-! ### slices.IndexFunc -/

def bIndexFunc (sz : Nat) (agg : Bool) : IFn := ⟨
 .seq
 (.region [⟨(some 4), .mov (.c (.int .i64 0)), none⟩]) <|
 .seq
 (.seq
  (.region [⟨(some 6), .mov (.t 0), none⟩,
     ⟨(some 7), .len .sl (.t 6), none⟩,
     ⟨(some 8), .mov (.c (.int .i64 0)), none⟩]) <|
  .block 0 <|
  .loop [0, 1, 7, 8] <|
   .seq
   (.region [⟨(some 9), .bin .lss (.t 8) (.t 7), none⟩]) <|
   .seq
   (.cond (.t 9)
     (.skip)
     (.exit 0)) <|
   .seq
   (.block 1 <|
    .seq
    (.region [⟨(some 10), .mov (.t 8), none⟩,
       ⟨(some 5), .mov (.t 10), none⟩]) <|
    .seq
    (.region [⟨(some 11), .mov (.t 1), none⟩,
       ⟨(some 12), .mov (.t 0), none⟩,
       ⟨(some 13), .mov (.t 5), none⟩,
       ⟨(some 14), .iaddr sz (.t 12) (.t 13), none⟩,
       ⟨(some 15), .load agg sz (.t 14), none⟩,
       ⟨(some 16), .call (.t 11) [(.t 15)], none⟩]) <|
    .cond (.t 16)
     (.seq
      (.region [⟨(some 17), .mov (.t 5), none⟩,
         ⟨(some 4), .mov (.t 17), none⟩]) <|
      .ret)
     (.skip)) <|
   .region [⟨(some 18), .bin .add (.t 8) (.c (.int .i64 1)), none⟩,
     ⟨(some 8), .mov (.t 18), none⟩]) <|
 .seq
 (.region [⟨(some 4), .mov (.c (.int .i64 (-1))), none⟩]) <|
 .ret, [.slot 4]⟩

/-- The place of the first one; -1: there is none. -/
def idxI {α : Type} (p : α → Bool) (es : List α) : Int := match es.findIdx? p with
  | some i => i
  | none => -1

theorem idxI_none {α : Type} {p : α → Bool} {es : List α} (h : ∀ x ∈ es, p x = false) : idxI p es = -1 := by
  have : es.findIdx? p = none := by rw [List.findIdx?_eq_none_iff]; exact h
  simp only [idxI, this]
theorem idxI_some {α : Type} {p : α → Bool} {es : List α} {i : Nat} {x : α} (h : ∀ y ∈ es.take i, p y = false) (hx : es[i]? = some x) (hp : p x = true) : idxI p es = i := by
  have hi := (List.getElem?_eq_some_iff.1 hx).1
  have : es.findIdx? p = some i := by
    rw [List.findIdx?_eq_some_iff_getElem]
    refine ⟨hi, by rw [(List.getElem?_eq_some_iff.1 hx).2]; exact hp, fun j hj => ?_⟩
    have := h es[j] (List.mem_iff_getElem?.2 ⟨j, by rw [List.getElem?_take_of_lt hj, List.getElem?_eq_getElem]⟩)
    simp [this]
  simp only [idxI, this]
theorem idxI_cases {α : Type} (p : α → Bool) (es : List α) : (idxI p es = -1 ∧ ∀ x ∈ es, p x = false) ∨ ∃ (i : Nat) (x : α), idxI p es = i ∧ es[i]? = some x ∧ p x = true ∧ ∀ y ∈ es.take i, p y = false := by
  cases h : es.findIdx? p with
  | none => left; rw [List.findIdx?_eq_none_iff] at h; exact ⟨idxI_none h, h⟩
  | some i =>
    right
    obtain ⟨h1, h2, h3⟩ := List.findIdx?_eq_some_iff_getElem.1 h
    refine ⟨i, es[i], by simp only [idxI, h], List.getElem?_eq_getElem h1, h2, fun y hy => ?_⟩
    obtain ⟨j, hj⟩ := List.mem_iff_getElem?.1 hy
    have hji : j < i := by
      have := (List.getElem?_eq_some_iff.1 hj).1
      simp at this; omega
    rw [List.getElem?_take_of_lt hji] at hj
    have := h3 j hji
    rw [(List.getElem?_eq_some_iff.1 hj).2] at this
    simpa using this

theorem mem_of_idx {α : Type} {es : List α} {i : Nat} {x : α} (h : es[i]? = some x) : x ∈ es := List.mem_of_getElem? h

theorem run_indexFunc {P : Program} {l : List (FuncId × AFn)} {sz : Nat} {agg : Bool} {es : List (List V)} {v : V} {m : Mem} {g : FuncId} {a b : List V} {K : KV} (el : List V → V) (p : List V → Bool)
    (hs : Sl m sz v es) (hl : es.length ≤ 4611686018427387904) (hel : ∀ x ∈ es, partV agg x 0 sz = some (el x)) (hp : ∀ x ∈ es, look l g (a ++ el x :: b) m = some (.bool (p x), m))
    (hk : K (.int .i64 (idxI p es)) m) : runF (Ctx.on P l) (bIndexFunc sz agg) [v, .fn g a b] m K := by
  have h1 := hs.lenSl
  simp (disch := omega) [bIndexFunc, h1]
  refine exec_loopU (σ := Nat) (fun i => [(8, .int .i64 i)]) (fun _ => m) (fun i => i ≤ es.length ∧ ∀ y ∈ es.take i, p y = false) (fun i => es.length - i) 0 rfl ⟨by omega, by simp⟩ (by simp) ?_
  intro i ⟨a1, a2⟩
  by_cases hi : i < es.length
  · obtain ⟨x, hx⟩ : ∃ x, es[i]? = some x := ⟨_, List.getElem?_eq_getElem hi⟩
    obtain ⟨q, j, full, rw, b1, b2, b3, b4, b5⟩ := hs.at hx .i64
    have c1 := hel x (mem_of_idx hx)
    have c2 := hp x (mem_of_idx hx)
    cases hpx : p x with
    | true =>
      rw [hpx] at c2
      simp (disch := omega) [-getElem?_pos, -partV, b1, b3, b4, c1, c2]
      rw [idxI_some a2 hx hpx] at hk
      exact hk
    | false =>
      rw [hpx] at c2
      simp (disch := omega) [-getElem?_pos, -partV, b1, b3, b4, c1, c2]
      refine again_mk (i + 1) ⟨by omega, fun y hy => ?_⟩ (by omega) (by simp) rfl
      rw [List.take_add_one, hx] at hy
      simp at hy
      rcases hy with hy | rfl
      · exact a2 y hy
      · exact hpx
  · have : i = es.length := by omega
    subst this
    rw [List.take_length] at a2
    simp (disch := omega)
    rw [idxI_none a2] at hk; exact hk

theorem index_calls {P : Program} {l : List (FuncId × AFn)} (hl : CtxOk P (Ctx.of l)) (hm : P.follows .mixedOrders = true) {f : FuncId} {n : Nat} {sz : Nat} {agg : Bool} (hc : Code1 P f n (bIndexFunc sz agg)) (hn : 2 ≤ n)
    {es : List (List V)} {v : V} {m : Mem} {g : FuncId} {a b : List V} {K : KV} (el : List V → V) (p : List V → Bool)
    (hs : Sl m sz v es) (hlen : es.length ≤ 4611686018427387904) (hel : ∀ x ∈ es, partV agg x 0 sz = some (el x)) (hp : ∀ x ∈ es, look l g (a ++ el x :: b) m = some (.bool (p x), m))
    (hk : K (.int .i64 (idxI p es)) m) : ACalls P f [v, .fn g a b] m K :=
  run_on hl hm hc (by simpa using hn) fun _ => run_indexFunc el p hs hlen hel hp hk

/-! ### slices.Delete, of one element -/

def bDelete (sz bytes : Nat) (z : List V) : IFn := ⟨
 .seq
 (.region [⟨(some 6), .mov (.c (.sl none 0 (some 0))), none⟩]) <|
 .seq
 (.region [⟨(some 8), .mov (.t 0), none⟩,
    ⟨(some 9), .mov (.t 1), none⟩,
    ⟨(some 10), .mov (.t 2), none⟩,
    ⟨(some 11), .mov (.t 0), none⟩,
    ⟨(some 12), .len .sl (.t 11), none⟩,
    ⟨(some 13), .slice sz (.t 8) (some (.t 9)) (some (.t 10)) (some (.t 12)), none⟩]) <|
 .seq
 (.seq
  (.region [⟨(some 14), .mov (.t 1), none⟩,
     ⟨(some 15), .mov (.t 2), none⟩,
     ⟨(some 16), .bin .eql (.t 14) (.t 15), none⟩]) <|
  .cond (.t 16)
   (.seq
    (.region [⟨(some 17), .mov (.t 0), none⟩,
       ⟨(some 6), .mov (.t 17), none⟩]) <|
    .ret)
   (.skip)) <|
 .seq
 (.region [⟨(some 18), .mov (.t 0), none⟩,
    ⟨(some 19), .len .sl (.t 18), none⟩,
    ⟨(some 7), .mov (.t 19), none⟩]) <|
 .seq
 (.draw false [0, 7] (
    .op ⟨(some 20), .mov (.t 0), none⟩ <|
    .op ⟨(some 21), .mov (.t 1), none⟩ <|
    .op ⟨(some 22), .slice sz (.t 20) none (some (.t 21)) none, none⟩ <|
    .op ⟨(some 23), .mov (.t 0), none⟩ <|
    .op ⟨(some 24), .mov (.t 2), none⟩ <|
    .op ⟨(some 25), .slice sz (.t 23) (some (.t 24)) none none, none⟩ <|
    .op ⟨(some 26), .app sz bytes (.t 22) (.t 25), none⟩ <|
    .op ⟨(some 0), .mov (.t 26), none⟩ <|
    .done)) <|
 .seq
 (.region [⟨(some 27), .mov (.t 0), none⟩,
    ⟨(some 28), .mov (.t 0), none⟩,
    ⟨(some 29), .len .sl (.t 28), none⟩,
    ⟨(some 30), .mov (.t 7), none⟩,
    ⟨(some 31), .sliceM sz (.t 27) (.t 29) (.t 30), none⟩,
    ⟨none, .clear z (.t 31), none⟩]) <|
 .seq
 (.region [⟨(some 32), .mov (.t 0), none⟩,
    ⟨(some 6), .mov (.t 32), none⟩]) <|
 .ret, [.slot 6]⟩

theorem run_delete {Γ : Ctx} {sz bytes : Nat} {z : List V} {m : Mem} {v : V} {es : List (List V)} {i : Nat} {K : KV} (h : Ows m (sz + 1) v es) (hi : i < es.length) (hz : z.length = sz + 1) (hc : z.all V.isCell = true) (hl : es.length ≤ 4611686018427387904)
    (k : ∀ v' m', Ows m' (sz + 1) v' (es.take i ++ es.drop (i + 1)) → Stp m m' v.fp v'.fp → m'.next = m.next → v'.fp = v.fp → K v' m') : runF Γ (bDelete (sz + 1) bytes z) [v, .int .i64 i, .int .i64 (i + 1)] m K := by
  rcases h.ex with ⟨rfl, rfl⟩ | ⟨q, i0, full, c, rfl, h1, h2, h3, h4, h5⟩
  · simp at hi
  have e1 := sliceX_LRM (sz + 1) q i0 es.length i (i + 1) es.length c .i64 .i64 .i64 (by omega) (by omega) (Nat.le_refl _)
  have e2 := sliceX_R (sz + 1) q i0 es.length i c .i64 (by omega)
  have e3 := sliceX_L (sz + 1) q i0 es.length (i + 1) c .i64 (by omega)
  have e4 : eltsOf (sz + 1) m (.sl (some (q, i0 + (i + 1), sz + 1)) (es.length - (i + 1)) (c.map (· - (i + 1)))) = some (es.drop (i + 1)) := by
    rw [elts_at h2 (by omega)]
    congr 1
    apply List.ext_getElem?
    intro j
    rw [List.getElem?_drop]
    by_cases hj : j < es.length - (i + 1)
    · rw [List.getElem?_take_of_lt hj, List.getElem?_drop, Nat.add_assoc, h4 _ (by omega)]
    · rw [List.getElem?_eq_none (by simp; omega), List.getElem?_eq_none (by omega)]
  have hnl : (es.drop (i + 1)).length = es.length - (i + 1) := by simp
  simp only [Int.natCast_add, Int.cast_ofNat_Int] at e1 e2 e3
  simp (disch := omega) [bDelete, -sliceX_sl, e1, e2, e3, e4]
  refine appendX_at h2 (by omega) (fun k hk => by have := (h5 k hk).1; omega) ?_
  have pl := patch_length full (es.drop (i + 1)) (i0 + i) (by omega)
  have pg := fun j => patch_get full (es.drop (i + 1)) (i0 + i) j (by omega)
  have en : i + (es.drop (i + 1)).length = es.length - 1 := by omega
  rw [en]
  generalize hf2 : full.take (i0 + i) ++ es.drop (i + 1) ++ full.drop (i0 + i + (es.drop (i + 1)).length) = full2 at *
  have e5 := sliceMV_at (m := m.upd q (some (.row (sz + 1) full2 true))) (sz := sz + 1) (q := q) (i0 := i0) (n := es.length - 1) (l := es.length - 1) (r := es.length) (c := c) (full := full2) (rw := true) (by simp) .i64 .i64 (by omega) (by omega) (fun k hk => (h5 k hk).1)
  simp (disch := omega) [-sliceX_sl, e5]
  refine clearX_at (sz := sz + 1) (full := full2) (by simp) (by omega) hz (by simpa using hc) ?_
  have eo : es.length - (es.length - 1) = (List.replicate 1 z).length := by simp; omega
  have pl3 := patch_length full2 (List.replicate 1 z) (i0 + (es.length - 1)) (by simp; omega)
  have pg3 := fun j => patch_get full2 (List.replicate 1 z) (i0 + (es.length - 1)) j (by simp; omega)
  rw [eo]
  simp only [List.length_replicate] at pl3 pg3 ⊢
  generalize hf3 : full2.take (i0 + (es.length - 1)) ++ List.replicate 1 z ++ full2.drop (i0 + (es.length - 1) + 1) = full3 at *
  have hel : (es.take i ++ es.drop (i + 1)).length = es.length - 1 := by simp; omega
  simp
  refine k _ _ ⟨.inr ⟨q, i0, full3, c, by rw [hel], h1, by simp, by omega, fun j hj => ?_, fun k hk => ?_⟩⟩ ⟨Nat.le_refl _, fun p hp hd => by rw [upd_obj, if_neg (fun e => hd (by simp [V.fp, e]))], fun p hp => .inl hp⟩ rfl rfl
  · rw [hel] at hj
    rw [pg3, if_pos (by omega), pg]
    by_cases hj2 : j < i
    · rw [if_pos (by omega), h4 j (by omega), List.getElem?_append_left (by simp; omega), List.getElem?_take_of_lt hj2]
    · rw [if_neg (by omega), if_pos (by omega), List.getElem?_append_right (by simp; omega)]
      congr 1; simp; omega
  · have := h5 k hk
    omega

theorem delete_calls {P : Program} {l : List (FuncId × AFn)} (hl : CtxOk P (Ctx.of l)) (hm : P.follows .mixedOrders = true) {f : FuncId} {n : Nat} {sz bytes : Nat} {z : List V} (hc : Code1 P f n (bDelete (sz + 1) bytes z)) (hn : 3 ≤ n)
    {m : Mem} {v : V} {es : List (List V)} {i : Nat} {K : KV} (h : Ows m (sz + 1) v es) (hi : i < es.length) (hz : z.length = sz + 1) (hcl : z.all V.isCell = true) (hlen : es.length ≤ 4611686018427387904)
    (k : ∀ v' m', Ows m' (sz + 1) v' (es.take i ++ es.drop (i + 1)) → Stp m m' v.fp v'.fp → m'.next = m.next → v'.fp = v.fp → K v' m') : ACalls P f [v, .int .i64 i, .int .i64 (i + 1)] m K :=
  run_on hl hm hc (by simpa using hn) fun _ => run_delete h hi hz hcl hlen k

/-! ### slices.Clone -/

def bClone (sz bytes : Nat) : IFn := ⟨
 .seq
 (.region [⟨(some 2), .mov (.c (.sl none 0 (some 0))), none⟩]) <|
 .seq
 (.seq
  (.region [⟨(some 3), .mov (.t 0), none⟩,
     ⟨(some 4), .eq false false [.sl] (.t 3) (.c (.sl none 0 (some 0))), none⟩]) <|
  .cond (.t 4)
   (.seq
    (.region [⟨(some 2), .mov (.c (.sl none 0 (some 0))), none⟩]) <|
    .ret)
   (.skip)) <|
 .seq
 (.region [⟨(some 5), .buildSl sz [] [], none⟩,
    ⟨(some 6), .mov (.t 0), none⟩,
    ⟨(some 7), .app sz bytes (.t 5) (.t 6), none⟩,
    ⟨(some 2), .mov (.t 7), none⟩]) <|
 .ret, [.slot 2]⟩

theorem run_clone {Γ : Ctx} {sz bytes : Nat} {m : Mem} {v : V} {es : List (List V)} {K : KV} (h : Sl m (sz + 1) v es) (hb : es.length * bytes ≤ 140737488355328) (hl : es.length ≤ 4611686018427387904)
    (k : ∀ v' m', Ows m' (sz + 1) v' es → m.Grew m' → (∀ p ∈ v'.fp, m.next ≤ p) → K v' m') : runF Γ (bClone (sz + 1) bytes) [v] m K := by
  obtain ⟨a, c, rfl, h2⟩ := h.ex
  cases a with
  | none =>
    have : es = [] := by
      cases es with
      | nil => rfl
      | cons e es => obtain ⟨r, i, full, rw, h3, _⟩ := h2 (by simp); cases h3
    subst this
    simp (disch := omega) [bClone]
    exact k _ _ (Ows.nil _ _) (Mem.Grew.refl m) (by simp [V.fp])
  | some a =>
    have e1 := (h.grow (Mem.Grew.new m (.row (sz + 1) [] true))).elts
    simp (disch := omega) [bClone, e1]
    by_cases hn : es = []
    · subst hn
      simp only [appendX, if_true, Hid]
      refine k _ _ ⟨.inr ⟨m.next, 0, [], some 0, by simp, by simp, by simp, by simp, by simp, fun k hk => by simp at hk; subst hk; simp⟩⟩ (Mem.Grew.new _ _) (fun p hp => by simp [V.fp] at hp; omega)
    · simp only [appendX, if_neg hn]
      have hnl := List.length_pos_iff.2 hn
      simp only [new_obj, if_true]
      rw [if_neg (by simp), if_neg (by simp; omega), if_pos (by simp only [room, Nat.zero_add]; exact ⟨hb, by omega, by simp⟩)]
      rw [if_pos (by omega)]
      simp
      refine k _ _ ⟨.inr ⟨m.next + 1, 0, es, none, by simp, by simp, by simp, by simp, by simp, fun k hk => by cases hk⟩⟩ ((Mem.Grew.new _ _).trans (Mem.Grew.new _ _)) (fun p hp => by simp [V.fp] at hp; omega)

theorem clone_calls {P : Program} {l : List (FuncId × AFn)} (hl : CtxOk P (Ctx.of l)) (hm : P.follows .mixedOrders = true) {f : FuncId} {n : Nat} {sz bytes : Nat} (hc : Code1 P f n (bClone (sz + 1) bytes)) (hn : 1 ≤ n)
    {m : Mem} {v : V} {es : List (List V)} {K : KV} (h : Sl m (sz + 1) v es) (hb : es.length * bytes ≤ 140737488355328) (hlen : es.length ≤ 4611686018427387904)
    (k : ∀ v' m', Ows m' (sz + 1) v' es → m.Grew m' → (∀ p ∈ v'.fp, m.next ≤ p) → K v' m') : ACalls P f [v] m K :=
  run_on hl hm hc (by simpa using hn) fun _ => run_clone h hb hlen k

/-! ### slices.DeleteFunc, of structs -/

def bDeleteFunc (fi : FuncId) (sz : Nat) (z : List V) : IFn := ⟨
 .seq
 (.region [⟨(some 4), .mov (.c (.sl none 0 (some 0))), none⟩]) <|
 .seq
 (.region [⟨(some 8), .mov (.t 0), none⟩,
    ⟨(some 9), .mov (.t 1), none⟩,
    ⟨(some 10), .call (.f fi) [(.t 8), (.t 9)], none⟩,
    ⟨(some 5), .mov (.t 10), none⟩]) <|
 .seq
 (.seq
  (.region [⟨(some 11), .mov (.t 5), none⟩,
     ⟨(some 12), .bin .eql (.t 11) (.c (.int .i64 (-1))), none⟩]) <|
  .cond (.t 12)
   (.seq
    (.region [⟨(some 13), .mov (.t 0), none⟩,
       ⟨(some 4), .mov (.t 13), none⟩]) <|
    .ret)
   (.skip)) <|
 .seq
 (.seq
  (.region [⟨(some 14), .mov (.t 5), none⟩,
     ⟨(some 15), .bin .add (.t 14) (.c (.int .i64 1)), none⟩,
     ⟨(some 6), .mov (.t 15), none⟩]) <|
  .block 0 <|
  .loop [0, 1, 5, 6] <|
   .seq
   (.seq
    (.region [⟨(some 16), .mov (.t 6), none⟩,
       ⟨(some 17), .mov (.t 0), none⟩,
       ⟨(some 18), .len .sl (.t 17), none⟩,
       ⟨(some 19), .bin .lss (.t 16) (.t 18), none⟩]) <|
    .cond (.t 19)
     (.skip)
     (.exit 0)) <|
   .seq
   (.block 1 <|
    .seq
    (.region [⟨(some 22), .mov (.t 0), none⟩,
       ⟨(some 23), .mov (.t 6), none⟩,
       ⟨(some 24), .iaddr sz (.t 22) (.t 23), none⟩,
       ⟨(some 25), .load true sz (.t 24), none⟩,
       ⟨(some 7), .alloc z, none⟩,
       ⟨none, .store sz (.t 7) (.t 25), none⟩]) <|
    .seq
    (.region [⟨(some 26), .mov (.t 1), none⟩,
       ⟨(some 27), .load true sz (.t 7), none⟩,
       ⟨(some 28), .call (.t 26) [(.t 27)], none⟩,
       ⟨(some 29), .un .not (.t 28), none⟩]) <|
    .cond (.t 29)
     (.seq
      (.region [⟨(some 30), .mov (.t 0), none⟩,
         ⟨(some 31), .mov (.t 5), none⟩,
         ⟨(some 32), .load true sz (.t 7), none⟩,
         ⟨(some 33), .iaddr sz (.t 30) (.t 31), none⟩,
         ⟨none, .store sz (.t 33) (.t 32), none⟩]) <|
      .region [⟨(some 34), .mov (.t 5), none⟩,
        ⟨(some 35), .bin .add (.t 34) (.c (.int .i64 1)), none⟩,
        ⟨(some 5), .mov (.t 35), none⟩])
     (.skip)) <|
   .region [⟨(some 20), .mov (.t 6), none⟩,
     ⟨(some 21), .bin .add (.t 20) (.c (.int .i64 1)), none⟩,
     ⟨(some 6), .mov (.t 21), none⟩]) <|
 .seq
 (.region [⟨(some 36), .mov (.t 0), none⟩,
    ⟨(some 37), .mov (.t 5), none⟩,
    ⟨(some 38), .slice sz (.t 36) (some (.t 37)) none none, none⟩,
    ⟨none, .clear z (.t 38), none⟩]) <|
 .seq
 (.region [⟨(some 39), .mov (.t 0), none⟩,
    ⟨(some 40), .mov (.t 5), none⟩,
    ⟨(some 41), .slice sz (.t 39) none (some (.t 40)) none, none⟩,
    ⟨(some 4), .mov (.t 41), none⟩]) <|
 .ret, [.slot 4]⟩

theorem allocV_ok {m : Mem} {z : List V} {sz : Nat} (h : z.length = sz + 1) (hc : z.all V.isCell = true) : allocV m z = some (.ptr (some (m.next, 0, 0)), m.new (.row (sz + 1) [z] true)) := by
  simp only [allocV]; rw [if_pos ⟨hc, by omega⟩, h]
theorem storeV_ok {m : Mem} {r i sz : Nat} {es : List (List V)} {cs y : List V} (ho : m.obj r = some (.row sz es true)) (he : es[i]? = some cs) (hc : cs.length = sz) (hy : y.length = sz) (hyc : y.all V.isCell = true) :
    storeV m (.ptr (some (r, i, 0))) sz (.agg y) = some (.tup [], m.upd r (some (.row sz (es.set i y) true))) := by
  simp only [storeV, ho, he]
  rw [if_pos (show (V.agg y).cs.length = sz ∧ 0 + sz ≤ cs.length ∧ (V.agg y).cs.all V.okc = true from ⟨hy, by omega, hyc⟩)]
  simp [splice, hy, hc, List.drop_of_length_le]
theorem loadV_ok {m : Mem} {r i sz : Nat} {es : List (List V)} {rw : Bool} {cs : List V} (ho : m.obj r = some (.row sz es rw)) (he : es[i]? = some cs) (hc : cs.length = sz) : loadV m (.ptr (some (r, i, 0))) true sz = some (.agg cs) := by
  have : m.elt r i = some cs := by simp only [Mem.elt, ho, he]
  simp only [loadV, this, partV, if_true]
  rw [if_pos (by omega)]
  simp [hc, List.take_of_length_le]

/-- The state while elements are let go: i are kept of the first j. -/
structure DelI (m : Mem) (q i0 sz : Nat) (es full0 : List (List V)) (p : List V → Bool) (i j : Nat) (M : Mem) : Prop where
  ij : i ≤ j
  jn : j ≤ es.length
  len : ((es.take j).filter fun x => !p x).length = i
  row : ∃ full, M.obj q = some (.row sz full true) ∧ full.length = full0.length ∧ (∀ x, x < i → full[i0 + x]? = ((es.take j).filter fun x => !p x)[x]?) ∧ ∀ x, i ≤ x → x < es.length → full[i0 + x]? = es[x]?
  next : m.next ≤ M.next
  obj : ∀ r, r < m.next → r ≠ q → M.obj r = m.obj r

theorem takeS {α : Type} {es : List α} {j : Nat} {x : α} (h : es[j]? = some x) : es.take (j + 1) = es.take j ++ [x] := by rw [List.take_add_one, h]; rfl

theorem run_deleteFunc {P : Program} {l : List (FuncId × AFn)} (hlx : CtxOk P (Ctx.of l)) (hm : P.follows .mixedOrders = true) {fi : FuncId} {ni : Nat} {sz : Nat} {z : List V} (hci : Code1 P fi ni (bIndexFunc (sz + 1) true)) (hni : 2 ≤ ni) (hli : ∀ a m, look l fi a m = none)
    {m : Mem} {v : V} {es : List (List V)} {g : FuncId} {a b : List V} {K : KV} (p : List V → Bool) (h : Ows m (sz + 1) v es) (hes : ∀ x ∈ es, x.length = sz + 1 ∧ x.all V.isCell = true) (hz : z.length = sz + 1) (hc : z.all V.isCell = true) (hl : es.length ≤ 4611686018427387904)
    (hp : ∀ M : Mem, m.next ≤ M.next → (∀ r, r < m.next → r ∉ v.fp → M.obj r = m.obj r) → ∀ x ∈ es, look l g (a ++ .agg x :: b) M = some (.bool (p x), M))
    (k : ∀ v' m', Ows m' (sz + 1) v' (es.filter fun x => !p x) → Stp m m' v.fp v'.fp → v'.fp = v.fp → K v' m') : runF (Ctx.on P l) (bDeleteFunc fi (sz + 1) z) [v, .fn g a b] m K := by
  have hpa : ∀ x ∈ es, partV true x 0 (sz + 1) = some (.agg x) := fun x hx => by
    have := (hes x hx).1
    simp [partV, this, List.take_of_length_le]
  simp (disch := omega) [bDeleteFunc, hli]
  refine index_calls hlx hm hci hni .agg p h.sl hl hpa (hp m (Nat.le_refl _) (fun _ _ _ => rfl)) ?_
  rcases idxI_cases p es with ⟨e1, e2⟩ | ⟨ii, xi, e1, e2, e3, e4⟩
  · rw [e1]
    simp (disch := omega)
    refine k _ _ ?_ (Stp.refl _ _) rfl
    rw [List.filter_eq_self.2 (fun x hx => by simp [e2 x hx])]; exact h
  have hi := (List.getElem?_eq_some_iff.1 e2).1
  rw [e1]
  rcases h.ex with ⟨rfl, rfl⟩ | ⟨q, i0, full, c, rfl, h1, h2, h3, h4, h5⟩
  · simp at hi
  simp (disch := omega) [decN, show ¬ (ii : Int) = -1 by omega]
  have hf0 : (es.take (ii + 1)).filter (fun x => !p x) = es.take ii := by
    rw [takeS e2, List.filter_append, List.filter_eq_self.2 (fun y hy => by simp [e4 y hy])]; simp [e3]
  refine exec_loopU (σ := Nat × Nat × Mem) (fun (i, j, _) => [(5, .int .i64 i), (6, .int .i64 j)]) (fun (_, _, M) => M) (fun (i, j, M) => DelI m q i0 (sz + 1) es full p i j M) (fun (_, j, _) => es.length - j) (ii, ii + 1, m) rfl
    ⟨by omega, by omega, by rw [hf0]; simp; omega, ⟨full, h2, rfl, fun x hx => by rw [hf0, h4 x (by omega), List.getElem?_take_of_lt hx], fun x _ hx => h4 x hx⟩, Nat.le_refl _, fun _ _ _ => rfl⟩ (by simp) ?_
  intro (i, j, M) hI
  obtain ⟨f, r1, r2, r3, r4⟩ := hI.row
  have hij := hI.ij
  have hnx := hI.next
  have hjn := hI.jn
  have hilen := hI.len
  by_cases hj : j < es.length
  · obtain ⟨x, hx⟩ : ∃ x, es[j]? = some x := ⟨_, List.getElem?_eq_getElem hj⟩
    have hxm := mem_of_idx hx
    obtain ⟨hx1, hx2⟩ := hes x hxm
    have c1 := r4 j hij hj
    rw [hx] at c1
    have c0 := loadV_ok r1 c1 hx1
    have c2 : allocV M z = _ := allocV_ok hz hc
    have c4 := storeV_ok (m := M.new (.row (sz + 1) [z] true)) (r := M.next) (i := 0) (es := [z]) (cs := z) (y := x) (sz := sz + 1) (by simp) rfl hz hx1 hx2
    simp only [List.set_cons_zero, upd_new'] at c4
    have c5 := loadV_ok (m := M.new (.row (sz + 1) [x] true)) (r := M.next) (i := 0) (es := [x]) (cs := x) (sz := sz + 1) (rw := true) (by simp) rfl hx1
    have c3 := hp (M.new (.row (sz + 1) [x] true)) (by simp; omega) (fun r hr hq => by rw [new_obj, if_neg (by omega)]; exact hI.obj r hr (fun e => hq (by simp [V.fp, e]))) x hxm
    cases hpx : p x with
    | true =>
      rw [hpx] at c3
      simp (disch := omega) [-getElem?_pos, -allocV_def, -storeV_ptr, -loadV_ptr, c0, c2, c4, c5, c3]
      refine again_mk (i, j + 1, M.new (.row (sz + 1) [x] true)) ?_ (by dsimp only; omega) (by simp) rfl
      have hf : (es.take (j + 1)).filter (fun x => !p x) = (es.take j).filter (fun x => !p x) := by rw [takeS hx, List.filter_append]; simp [hpx]
      show DelI m q i0 (sz + 1) es full p i (j + 1) _
      exact ⟨by omega, by omega, by rw [hf]; exact hI.len, ⟨f, by rw [new_obj, if_neg (by omega)]; exact r1, r2, fun y hy => by rw [hf]; exact r3 y hy, r4⟩, by simp; omega, fun r h1 h2 => by rw [new_obj, if_neg (by omega)]; exact hI.obj r h1 h2⟩
    | false =>
      rw [hpx] at c3
      obtain ⟨w, hw⟩ : ∃ w, es[i]? = some w := ⟨_, List.getElem?_eq_getElem (by omega)⟩
      have hwl := (hes w (mem_of_idx hw)).1
      have c6 := r4 i (Nat.le_refl _) (by omega)
      rw [hw] at c6
      have c7 := storeV_ok (m := M.new (.row (sz + 1) [x] true)) (r := q) (i := i0 + i) (es := f) (cs := w) (y := x) (sz := sz + 1) (by rw [new_obj, if_neg (by omega)]; exact r1) c6 hwl hx1 hx2
      simp (disch := omega) [-getElem?_pos, -allocV_def, -storeV_ptr, -loadV_ptr, c0, c2, c4, c5, c3, c7]
      refine again_mk (i + 1, j + 1, (M.new (.row (sz + 1) [x] true)).upd q (some (.row (sz + 1) (f.set (i0 + i) x) true))) ?_ (by dsimp only; omega) (by simp) rfl
      have hf : (es.take (j + 1)).filter (fun x => !p x) = (es.take j).filter (fun x => !p x) ++ [x] := by rw [takeS hx, List.filter_append]; simp [hpx]
      show DelI m q i0 (sz + 1) es full p (i + 1) (j + 1) _
      refine ⟨by omega, by omega, by rw [hf]; simp; exact hI.len, ⟨f.set (i0 + i) x, by simp, by simp; exact r2, fun y hy => ?_, fun y h1 h2 => ?_⟩, by simp; omega, fun r h1 h2 => by rw [upd_obj, if_neg h2, new_obj, if_neg (by omega)]; exact hI.obj r h1 h2⟩
      · rw [hf]
        by_cases hy2 : y = i
        · subst hy2
          rw [List.getElem?_set_self (by omega), List.getElem?_append_right (by omega), hilen]; simp
        · rw [List.getElem?_set_ne (by omega), r3 y (by omega), List.getElem?_append_left (by omega)]
      · rw [List.getElem?_set_ne (by omega)]; exact r4 y (by omega) h2
  · have hj2 : j = es.length := by omega
    subst hj2
    rw [List.take_length] at r3 hilen
    have e5 := sliceX_L (sz + 1) q i0 es.length i c .i64 (by omega)
    have e6 := sliceX_R (sz + 1) q i0 es.length i c .i64 (by omega)
    simp (disch := omega) [-sliceX_sl, e5]
    refine clearX_at (sz := sz + 1) (full := f) r1 (by omega) hz (by simpa using hc) ?_
    have pl := patch_length f (List.replicate (es.length - i) z) (i0 + i) (by simp; omega)
    have pg := fun j => patch_get f (List.replicate (es.length - i) z) (i0 + i) j (by simp; omega)
    simp only [List.length_replicate] at pl pg
    generalize f.take (i0 + i) ++ List.replicate (es.length - i) z ++ f.drop (i0 + i + (es.length - i)) = f2 at *
    simp (disch := omega) [-sliceX_sl, e6]
    refine k _ _ ⟨.inr ⟨q, i0, f2, c, by rw [hilen], by simp; omega, by simp, by omega, fun x hx => ?_, fun k hk => ?_⟩⟩ ⟨by simp; omega, fun r hr hd => ?_, fun r hr => .inl hr⟩ rfl
    · rw [hilen] at hx
      rw [pg, if_pos (by omega)]; exact r3 x hx
    · have := h5 k hk
      omega
    · have : r ≠ q := fun e => hd (by simp [V.fp, e])
      rw [upd_obj, if_neg this]; exact hI.obj r hr this

theorem deleteFunc_calls {P : Program} {l : List (FuncId × AFn)} (hlx : CtxOk P (Ctx.of l)) (hm : P.follows .mixedOrders = true) {fi : FuncId} {ni : Nat} {sz : Nat} {z : List V} (hci : Code1 P fi ni (bIndexFunc (sz + 1) true)) (hni : 2 ≤ ni) (hli : ∀ a m, look l fi a m = none)
    {f : FuncId} {n : Nat} (hcd : Code1 P f n (bDeleteFunc fi (sz + 1) z)) (hn : 2 ≤ n)
    {m : Mem} {v : V} {es : List (List V)} {g : FuncId} {a b : List V} {K : KV} (p : List V → Bool) (h : Ows m (sz + 1) v es) (hes : ∀ x ∈ es, x.length = sz + 1 ∧ x.all V.isCell = true) (hz : z.length = sz + 1) (hc : z.all V.isCell = true) (hl : es.length ≤ 4611686018427387904)
    (hp : ∀ M : Mem, m.next ≤ M.next → (∀ r, r < m.next → r ∉ v.fp → M.obj r = m.obj r) → ∀ x ∈ es, look l g (a ++ .agg x :: b) M = some (.bool (p x), M))
    (k : ∀ v' m', Ows m' (sz + 1) v' (es.filter fun x => !p x) → Stp m m' v.fp v'.fp → v'.fp = v.fp → K v' m') : ACalls P f [v, .fn g a b] m K :=
  run_on hlx hm hcd (by simpa using hn) fun _ => run_deleteFunc hlx hm hci hni hli p h hes hz hc hl hp k

end Go.AM
