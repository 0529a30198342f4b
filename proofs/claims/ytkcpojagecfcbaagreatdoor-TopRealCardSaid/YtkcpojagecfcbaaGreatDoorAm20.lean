/-
  THE ABSTRACT MACHINE: a call that hands out one new object: told as if it were all that was made; memory that only grows. No Go program here.
-/
import Derived.Test.YtkcpojagecfcbaaGreatDoorAm19
namespace Go.AM
open Go
set_option linter.unusedVariables false
def Obj.flat : Obj → Bool
  | .row _ es _ => es.all V.flats
  | .map es _ => es.all fun (k, v) => k.flat && v.flat
  | .iter r _ _ _ => r.isNone
theorem Obj.flat_sub (ρ : Nat → Nat) {o : Obj} (h : o.flat = true) : o.sub ρ = o := by
  cases o with
  | row sz es rw =>
    simp only [Obj.flat, List.all_eq_true] at h
    simp only [Obj.sub, Obj.row.injEq, true_and, and_true]
    conv => rhs; rw [← List.map_id es]
    apply List.map_congr_left
    intro e he
    have := V.flats_sub ρ e (h e he)
    rw [V.subs_eq] at this; exact this
  | iter r a b c =>
    cases r with
    | none => rfl
    | some q => simp [Obj.flat] at h
  | map es g =>
    simp only [Obj.flat, List.all_eq_true] at h
    simp only [Obj.sub, Obj.map.injEq, and_true]
    conv => rhs; rw [← List.map_id es]
    apply List.map_congr_left
    intro ⟨k, v⟩ he
    have := h (k, v) he
    simp only [Bool.and_eq_true] at this
    simp only [V.flat_sub ρ k this.1, V.flat_sub ρ v this.2, id]
/-- n is called q; what is below n keeps its name. -/
def ren (n q N : Nat) : Nat → Nat := fun x => if x < n then x else if x = n then q else x + N + q + 1
theorem ren_new (n q N : Nat) : ren n q N n = q := by simp [ren]
/-- Memory that has all that m had under its names, and gives out names from m's on. -/
structure Mem.Grew (m m' : Mem) : Prop where
  next : m.next ≤ m'.next
  obj : ∀ q, q < m.next → m'.obj q = m.obj q
theorem Mem.Grew.refl (m : Mem) : m.Grew m := ⟨Nat.le_refl _, fun _ _ => rfl⟩
theorem Mem.Grew.trans {a b c : Mem} (h : a.Grew b) (k : b.Grew c) : a.Grew c := ⟨Nat.le_trans h.next k.next, fun q hq => (k.obj q (Nat.lt_of_lt_of_le hq h.next)).trans (h.obj q hq)⟩
theorem Mem.Grew.new (m : Mem) (o : Obj) : m.Grew (m.new o) := ⟨by rw [new_next]; omega, fun q hq => by rw [new_obj, if_neg (by omega)]⟩
theorem Mem.Grew.upd {m m' : Mem} (h : m.Grew m') {r : Nat} (hr : m.next ≤ r) (o : Option Obj) : m.Grew (m'.upd r o) := ⟨h.next, fun q hq => by rw [upd_obj, if_neg (by omega)]; exact h.obj q hq⟩
/-- A slice of one's own, whose row has just its elements: nil, or a row whose name was given from n0 on. -/
def Own (n0 : Nat) (m : Mem) (sz : Nat) (v : V) (es : List (List V)) : Prop :=
  (v = .sl none 0 (some 0) ∧ es = []) ∨ ∃ q, v = .sl (some (q, 0, sz)) es.length none ∧ n0 ≤ q ∧ q < m.next ∧ m.obj q = some (.row sz es true) ∧ es ≠ []
/-- All but a slice of one's own is as it was. -/
structure Mem.But (n0 : Nat) (v : V) (m m' : Mem) : Prop where
  next : m.next ≤ m'.next
  obj : ∀ p, p < m.next → (p < n0 ∨ ∀ i z n c, v ≠ .sl (some (p, i, z)) n c) → m'.obj p = m.obj p
theorem Own.nil (n0 : Nat) (m : Mem) (sz : Nat) : Own n0 m sz (.sl none 0 (some 0)) [] := .inl ⟨rfl, rfl⟩
theorem Own.keep {n0 : Nat} {m m' : Mem} {sz : Nat} {v : V} {es : List (List V)} (h : Own n0 m sz v es) (hn : m.next ≤ m'.next) (ho : ∀ p, n0 ≤ p → p < m.next → m'.obj p = m.obj p) : Own n0 m' sz v es := by
  rcases h with ⟨rfl, rfl⟩ | ⟨q, rfl, h1, h2, h3, h4⟩
  · exact .inl ⟨rfl, rfl⟩
  · exact .inr ⟨q, rfl, h1, by omega, by rw [ho q h1 h2]; exact h3, h4⟩
theorem Own.elts {n0 : Nat} {m : Mem} {sz : Nat} {v : V} {es : List (List V)} (h : Own n0 m sz v es) : eltsOf sz m v = some es := by
  rcases h with ⟨rfl, rfl⟩ | ⟨q, rfl, h1, h2, h3, h4⟩
  · rfl
  · have : es.length ≠ 0 := fun e => h4 (List.eq_nil_of_length_eq_zero e)
    simp [eltsOf, this, Mem.elts, h3]
theorem Own.len {n0 : Nat} {m : Mem} {sz : Nat} {v : V} {es : List (List V)} (h : Own n0 m sz v es) : ∃ a c, v = .sl a es.length c := by
  rcases h with ⟨rfl, rfl⟩ | ⟨q, rfl, _⟩
  · exact ⟨none, some 0, rfl⟩
  · exact ⟨_, _, rfl⟩
/-- A slice of one's own is handed out: told as the one new object, or as nil. -/
theorem ACalls.own {P : Program} {f : FuncId} {args : List V} {m : Mem} {K : KV}
    (h : ACalls P f args m (fun r m' => ∃ sz es, Own m.next m' sz r es ∧ m.next ≤ m'.next ∧ es.all V.flats = true ∧ (∀ p, p < m.next → m'.obj p = m.obj p) ∧
      (es = [] → K (.sl none 0 (some 0)) m) ∧ (es ≠ [] → K (.sl (some (m.next, 0, sz)) es.length none) (m.new (.row sz es true))))) : ACalls P f args m K := by
  refine ACalls.norm ⟨h.1, fun base w0 β w cargs hM hA => (h.2 base w0 β w cargs hM hA).mono fun e w' ⟨v, he, β', r, m', h1, h2, h3, sz, es, ho, hn, hf, hk, hK1, hK2⟩ => ⟨v, he, β', r, m', h1, h2, h3, ?_⟩⟩
  rcases ho with ⟨rfl, rfl⟩ | ⟨q, rfl, k1, k2, k3, k4⟩
  · refine ⟨fun q => if q < m.next then q else q + m'.next, .sl none 0 (some 0), m, ⟨?_, Nat.le_refl _, ?_, ?_, rfl, ?_⟩, hK1 rfl⟩
    · intro q hq; simp [hq]
    · intro q q' hq hq' hh; simpa [hq, hq'] using hh
    · intro q hq; have : ¬ q < m.next := by omega
      simp [this]
    · intro q o hq
      exact .inr ⟨hq, by rw [hk q (hM.fresh q o hq)]; exact hq⟩
  · refine ⟨ren m.next q m'.next, .sl (some (m.next, 0, sz)) es.length none, m.new (.row sz es true), ⟨?_, ?_, ?_, ?_, ?_, ?_⟩, hK2 k4⟩
    · intro x hx; simp [ren, hx]
    · rw [new_next]; omega
    · intro x y hx hy hh
      rw [new_next] at hx hy
      simp only [ren] at hh
      split at hh <;> split at hh <;> (try split at hh) <;> (try split at hh) <;> omega
    · intro x hx
      rw [new_next] at hx
      simp only [ren]; rw [if_neg (by omega), if_neg (by omega)]; omega
    · simp only [V.sub, ren_new]
    · intro x y hx
      rw [new_obj] at hx
      split at hx
      · rename_i e; subst e
        injection hx with hx; subst hx
        refine .inl ⟨by rw [new_next]; omega, ?_⟩
        rw [ren_new, Obj.flat_sub _ (by simpa [Obj.flat] using hf)]; exact k3
      · exact .inr ⟨hx, by rw [hk x (hM.fresh x y hx)]; exact hx⟩
/-! ### contexts: some functions by their specs, all others by what is shown of them at the call -/
def Ctx.on (P : Program) (l : List (FuncId × AFn)) : Ctx := ⟨look l, fun f args m K => ACalls P f args m K⟩
theorem ctx_on {P : Program} {l : List (FuncId × AFn)} (h : CtxOk P (Ctx.of l)) : CtxOk P (Ctx.on P l) := ⟨h.det, fun _ _ _ _ h => h⟩
theorem callX_on {P : Program} (l : List (FuncId × AFn)) (f : FuncId) (args : List V) (m : Mem) (k : KV) : callX (Ctx.on P l) f args m k = match look l f args m with | some (r, m') => k r m' | none => ACalls P f args m k := by
  simp only [callX, Ctx.on]
  generalize look l f args m = o
  cases o <;> rfl
attribute [simp↓] callX_on
theorem run_on {P : Program} {l : List (FuncId × AFn)} (hl : CtxOk P (Ctx.of l)) (hm : P.follows .mixedOrders = true) {f : FuncId} {n : Nat} {b : IFn} (hc : Code1 P f n b) {args : List V} (hn : args.length ≤ n) {m : Mem} {K : KV}
    (h : m.Fresh → runF (Ctx.on P l) b args m K) : ACalls P f args m K := by
  obtain ⟨fn, h1, h2, h3, h4⟩ := hc.ex
  exact ⟨trivial, fun base w0 β w cargs hM hA => (fn_sound (ctx_on hl) hm h1 h2 h3 (by omega) (h hM.fresh)).2 base w0 β w cargs hM hA⟩
theorem ex_two {α β : Sort _} (x : α) (y : β) (p : α → β → Prop) : (∃ a b, (x = a ∧ y = b) ∧ p a b) = p x y :=
  propext ⟨fun ⟨_, _, ⟨h1, h2⟩, h⟩ => by subst h1; subst h2; exact h, fun h => ⟨x, y, ⟨rfl, rfl⟩, h⟩⟩
attribute [simp] ex_two
theorem IsV.int {m : Mem} {k : IntKind} {x : V} (h : IsV m (.int k) x) : ∃ n, x = .int k n ∧ (Lit.int k n).wf = true := by
  simp only [IsV, Is] at h
  obtain ⟨n, h1, h2⟩ := h
  injection h1 with h1 _
  exact ⟨n, h1, h2⟩
/-- A slice whose elements are these. -/
def Slc (m : Mem) (sz : Nat) (v : V) (es : List (List V)) : Prop :=
  ∃ a c, v = .sl a es.length c ∧ (es ≠ [] → ∃ r i full rw, a = some (r, i, sz) ∧ m.obj r = some (.row sz full rw) ∧ i + es.length ≤ full.length ∧ ∀ j, j < es.length → full[i + j]? = es[j]?)
theorem Slc.nil (m : Mem) (sz : Nat) (a : Option (Nat × Nat × Nat)) (c : Option Nat) : Slc m sz (.sl a 0 c) [] := ⟨a, c, rfl, fun h => absurd rfl h⟩
theorem Slc.row {m : Mem} {sz r : Nat} {es : List (List V)} {rw : Bool} (h : m.obj r = some (.row sz es rw)) (c : Option Nat) : Slc m sz (.sl (some (r, 0, sz)) es.length c) es :=
  ⟨_, c, rfl, fun _ => ⟨r, 0, es, rw, rfl, h, by omega, fun j _ => by rw [Nat.zero_add]⟩⟩
theorem Slc.keep {m m' : Mem} {sz : Nat} {v : V} {es : List (List V)} (h : Slc m sz v es) (hk : ∀ p o, m.obj p = some o → m'.obj p = some o) : Slc m' sz v es :=
  let ⟨a, c, h1, h2⟩ := h
  ⟨a, c, h1, fun hne => let ⟨r, i, full, rw, h3, h4, h5, h6⟩ := h2 hne; ⟨r, i, full, rw, h3, hk _ _ h4, h5, h6⟩⟩
theorem Own.slc {n0 : Nat} {m : Mem} {sz : Nat} {v : V} {es : List (List V)} (h : Own n0 m sz v es) : Slc m sz v es := by
  rcases h with ⟨rfl, rfl⟩ | ⟨q, rfl, _, _, h3, _⟩
  · exact Slc.nil _ _ _ _
  · exact Slc.row h3 none
theorem Slc.get {m : Mem} {sz : Nat} {a : Option (Nat × Nat × Nat)} {n : Nat} {c : Option Nat} {es : List (List V)} (h : Slc m sz (.sl a n c) es) : n = es.length ∧ (n ≠ 0 → ∃ r i full rw, a = some (r, i, sz) ∧ m.obj r = some (.row sz full rw) ∧ i + n ≤ full.length ∧ ∀ j, j < n → full[i + j]? = es[j]?) := by
  obtain ⟨a', c', h1, h2⟩ := h
  injection h1 with h1 h3 h4
  subst h1; subst h3; subst h4
  exact ⟨rfl, fun hn => h2 (fun e => hn (by rw [e]; rfl))⟩
end Go.AM
