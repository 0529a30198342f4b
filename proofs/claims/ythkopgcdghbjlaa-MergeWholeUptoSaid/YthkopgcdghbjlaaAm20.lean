/-
  THE ABSTRACT MACHINE: a call that hands out one new object: told as if it were all that was made; memory that only grows. No Go program here.
-/
import Derived.Test.YthkopgcdghbjlaaAm19
namespace Go.AM
open Go
set_option linter.unusedVariables false

def Obj.flat : Obj → Bool
  | .row _ es _ => es.all V.flats
  | .map es _ => es.all fun (k, v) => k.flat && v.flat
  | .iter r _ _ _ => r.isNone

theorem Obj.flat_sub (ρ : Nat → Nat) {o : Obj} (h : o.flat = true) : o.sub ρ = o := by
  cases o with
  | row sz es rw =>
    simp only [Obj.flat, List.all_eq_true] at h
    simp only [Obj.sub, Obj.row.injEq, true_and, and_true]
    conv => rhs; rw [← List.map_id es]
    apply List.map_congr_left
    intro e he
    have := V.flats_sub ρ e (h e he)
    rw [V.subs_eq] at this; exact this
  | iter r a b c =>
    cases r with
    | none => rfl
    | some q => simp [Obj.flat] at h
  | map es g =>
    simp only [Obj.flat, List.all_eq_true] at h
    simp only [Obj.sub, Obj.map.injEq, and_true]
    conv => rhs; rw [← List.map_id es]
    apply List.map_congr_left
    intro ⟨k, v⟩ he
    have := h (k, v) he
    simp only [Bool.and_eq_true] at this
    simp only [V.flat_sub ρ k this.1, V.flat_sub ρ v this.2, id]

/-- n is called q; what is below n keeps its name. -/
def ren (n q N : Nat) : Nat → Nat := fun x => if x < n then x else if x = n then q else x + N + q + 1

theorem ren_new (n q N : Nat) : ren n q N n = q := by simp [ren]

/-- One new object is handed out; all else that was made is forgotten. -/
theorem ACalls.fresh1 {P : Program} {f : FuncId} {args : List V} {m : Mem} {K : KV}
    (h : ACalls P f args m (fun r m' => ∃ q r2 o, m.next ≤ q ∧ m.next < m'.next ∧ m'.obj q = some o ∧ o.flat = true ∧ (∀ p, p < m.next → m'.obj p = m.obj p) ∧ r2.sub (ren m.next q m'.next) = r ∧ K r2 (m.new o))) : ACalls P f args m K := by
  refine ACalls.norm ?_
  refine ⟨h.1, fun base w0 β w cargs hM hA => (h.2 base w0 β w cargs hM hA).mono fun e w' ⟨v, he, β', r, m', h1, h2, h3, q, r2, o, k1, k2, k3, k4, k5, k6, k7⟩ => ⟨v, he, β', r, m', h1, h2, h3, ren m.next q m'.next, r2, m.new o, ⟨?_, ?_, ?_, ?_, k6, ?_⟩, k7⟩⟩
  · intro x hx; simp [ren, hx]
  · rw [new_next]; omega
  · intro x y hx hy hh
    rw [new_next] at hx hy
    simp only [ren] at hh
    split at hh <;> split at hh <;> (try split at hh) <;> (try split at hh) <;> omega
  · intro x hx
    rw [new_next] at hx
    simp only [ren]; rw [if_neg (by omega), if_neg (by omega)]; omega
  · intro x y hx
    rw [new_obj] at hx
    split at hx
    · rename_i e; subst e
      injection hx with hx; subst hx
      refine .inl ⟨by rw [new_next]; omega, ?_⟩
      rw [ren_new, Obj.flat_sub _ k4]; exact k3
    · exact .inr ⟨hx, by rw [k5 x (hM.fresh x y hx)]; exact hx⟩

/-- Memory that has all that m had under its names, and gives out names from m's on. -/
structure Mem.Grew (m m' : Mem) : Prop where
  next : m.next ≤ m'.next
  obj : ∀ q, q < m.next → m'.obj q = m.obj q

theorem Mem.Grew.refl (m : Mem) : m.Grew m := ⟨Nat.le_refl _, fun _ _ => rfl⟩
theorem Mem.Grew.trans {a b c : Mem} (h : a.Grew b) (k : b.Grew c) : a.Grew c := ⟨Nat.le_trans h.next k.next, fun q hq => (k.obj q (Nat.lt_of_lt_of_le hq h.next)).trans (h.obj q hq)⟩
theorem Mem.Grew.new (m : Mem) (o : Obj) : m.Grew (m.new o) := ⟨by rw [new_next]; omega, fun q hq => by rw [new_obj, if_neg (by omega)]⟩
theorem Mem.Grew.upd {m m' : Mem} (h : m.Grew m') {r : Nat} (hr : m.next ≤ r) (o : Option Obj) : m.Grew (m'.upd r o) := ⟨h.next, fun q hq => by rw [upd_obj, if_neg (by omega)]; exact h.obj q hq⟩

/-- A slice of one's own, whose row has just its elements: nil, or a row whose name was given from n0 on. -/
def Own (n0 : Nat) (m : Mem) (sz : Nat) (v : V) (es : List (List V)) : Prop :=
  (v = .sl none 0 (some 0) ∧ es = []) ∨ ∃ q, v = .sl (some (q, 0, sz)) es.length none ∧ n0 ≤ q ∧ q < m.next ∧ m.obj q = some (.row sz es true) ∧ es ≠ []

/-- All but a slice of one's own is as it was. -/
structure Mem.But (n0 : Nat) (v : V) (m m' : Mem) : Prop where
  next : m.next ≤ m'.next
  obj : ∀ p, p < m.next → (p < n0 ∨ ∀ i z n c, v ≠ .sl (some (p, i, z)) n c) → m'.obj p = m.obj p

theorem Own.nil (n0 : Nat) (m : Mem) (sz : Nat) : Own n0 m sz (.sl none 0 (some 0)) [] := .inl ⟨rfl, rfl⟩

theorem appendX_own {n0 sz bytes : Nat} {m : Mem} {v : V} {es new : List (List V)} {K : KV} (h : Own n0 m sz v es) (hn : n0 ≤ m.next) (hnew : new ≠ []) (hb : (es.length + new.length) * bytes ≤ 140737488355328) (hl : es.length + new.length ≤ 9223372036854775807)
    (k : ∀ v' m', Own n0 m' sz v' (es ++ new) → m.But n0 v m' → m.next < m'.next → K v' m') : appendX sz bytes m v new K := by
  rcases h with ⟨rfl, rfl⟩ | ⟨q, rfl, h1, h2, h3, h4⟩
  · simp only [appendX, if_neg hnew]
    rw [if_pos (by simp only [room]; simp only [List.length_nil, Nat.zero_add] at hb hl; exact ⟨hb, hl⟩)]
    refine k _ _ (.inr ⟨m.next, by simp, hn, by rw [new_next]; omega, by simp, by simpa using hnew⟩) ⟨by rw [new_next]; omega, fun p hp _ => by rw [new_obj, if_neg (by omega)]⟩ (by rw [new_next]; omega)
  · simp only [appendX, if_neg hnew, h3]
    rw [if_neg (by simp)]
    have hnl : 0 < new.length := List.length_pos_iff.2 hnew
    rw [if_neg (by omega), if_pos ⟨by simp only [room]; exact hb, hl, by omega⟩]
    rw [if_pos (by simp)]
    refine k _ _ (.inr ⟨m.next, by simp, hn, by rw [upd_next, new_next]; omega, ?_, by simp [h4]⟩) ⟨by rw [upd_next, new_next]; omega, fun p hp hv => ?_⟩ (by rw [upd_next, new_next]; omega)
    · rw [upd_obj, if_neg (by omega), new_obj, if_pos rfl]; simp
    · have : p ≠ q := by
        intro e; subst e
        rcases hv with hv | hv
        · omega
        · exact hv _ _ _ _ rfl
      rw [upd_obj, if_neg this, new_obj, if_neg (by omega)]

theorem Own.keep {n0 : Nat} {m m' : Mem} {sz : Nat} {v : V} {es : List (List V)} (h : Own n0 m sz v es) (hn : m.next ≤ m'.next) (ho : ∀ p, n0 ≤ p → p < m.next → m'.obj p = m.obj p) : Own n0 m' sz v es := by
  rcases h with ⟨rfl, rfl⟩ | ⟨q, rfl, h1, h2, h3, h4⟩
  · exact .inl ⟨rfl, rfl⟩
  · exact .inr ⟨q, rfl, h1, by omega, by rw [ho q h1 h2]; exact h3, h4⟩

theorem Own.elts {n0 : Nat} {m : Mem} {sz : Nat} {v : V} {es : List (List V)} (h : Own n0 m sz v es) : eltsOf sz m v = some es := by
  rcases h with ⟨rfl, rfl⟩ | ⟨q, rfl, h1, h2, h3, h4⟩
  · rfl
  · have : es.length ≠ 0 := fun e => h4 (List.eq_nil_of_length_eq_zero e)
    simp [eltsOf, this, Mem.elts, h3]

theorem Own.len {n0 : Nat} {m : Mem} {sz : Nat} {v : V} {es : List (List V)} (h : Own n0 m sz v es) : ∃ a c, v = .sl a es.length c := by
  rcases h with ⟨rfl, rfl⟩ | ⟨q, rfl, _⟩
  · exact ⟨none, some 0, rfl⟩
  · exact ⟨_, _, rfl⟩

/-- A slice of one's own is handed out: told as the one new object, or as nil. -/
theorem ACalls.own {P : Program} {f : FuncId} {args : List V} {m : Mem} {K : KV}
    (h : ACalls P f args m (fun r m' => ∃ sz es, Own m.next m' sz r es ∧ m.next ≤ m'.next ∧ es.all V.flats = true ∧ (∀ p, p < m.next → m'.obj p = m.obj p) ∧
      (es = [] → K (.sl none 0 (some 0)) m) ∧ (es ≠ [] → K (.sl (some (m.next, 0, sz)) es.length none) (m.new (.row sz es true))))) : ACalls P f args m K := by
  refine ACalls.norm ⟨h.1, fun base w0 β w cargs hM hA => (h.2 base w0 β w cargs hM hA).mono fun e w' ⟨v, he, β', r, m', h1, h2, h3, sz, es, ho, hn, hf, hk, hK1, hK2⟩ => ⟨v, he, β', r, m', h1, h2, h3, ?_⟩⟩
  rcases ho with ⟨rfl, rfl⟩ | ⟨q, rfl, k1, k2, k3, k4⟩
  · refine ⟨fun q => if q < m.next then q else q + m'.next, .sl none 0 (some 0), m, ⟨?_, Nat.le_refl _, ?_, ?_, rfl, ?_⟩, hK1 rfl⟩
    · intro q hq; simp [hq]
    · intro q q' hq hq' hh; simpa [hq, hq'] using hh
    · intro q hq; have : ¬ q < m.next := by omega
      simp [this]
    · intro q o hq
      exact .inr ⟨hq, by rw [hk q (hM.fresh q o hq)]; exact hq⟩
  · refine ⟨ren m.next q m'.next, .sl (some (m.next, 0, sz)) es.length none, m.new (.row sz es true), ⟨?_, ?_, ?_, ?_, ?_, ?_⟩, hK2 k4⟩
    · intro x hx; simp [ren, hx]
    · rw [new_next]; omega
    · intro x y hx hy hh
      rw [new_next] at hx hy
      simp only [ren] at hh
      split at hh <;> split at hh <;> (try split at hh) <;> (try split at hh) <;> omega
    · intro x hx
      rw [new_next] at hx
      simp only [ren]; rw [if_neg (by omega), if_neg (by omega)]; omega
    · simp only [V.sub, ren_new]
    · intro x y hx
      rw [new_obj] at hx
      split at hx
      · rename_i e; subst e
        injection hx with hx; subst hx
        refine .inl ⟨by rw [new_next]; omega, ?_⟩
        rw [ren_new, Obj.flat_sub _ (by simpa [Obj.flat] using hf)]; exact k3
      · exact .inr ⟨hx, by rw [hk x (hM.fresh x y hx)]; exact hx⟩

/-! ### contexts: some functions by their specs, all others by what is shown of them at the call -/

def Ctx.on (P : Program) (l : List (FuncId × AFn)) : Ctx := ⟨look l, fun f args m K => ACalls P f args m K⟩

theorem ctx_on {P : Program} {l : List (FuncId × AFn)} (h : CtxOk P (Ctx.of l)) : CtxOk P (Ctx.on P l) := ⟨h.det, fun _ _ _ _ h => h⟩

theorem callX_on {P : Program} (l : List (FuncId × AFn)) (f : FuncId) (args : List V) (m : Mem) (k : KV) : callX (Ctx.on P l) f args m k = match look l f args m with | some (r, m') => k r m' | none => ACalls P f args m k := by
  simp only [callX, Ctx.on]
  generalize look l f args m = o
  cases o <;> rfl

attribute [simp↓] callX_on

theorem run_on {P : Program} {l : List (FuncId × AFn)} (hl : CtxOk P (Ctx.of l)) (hm : P.follows .mixedOrders = true) {f : FuncId} {n : Nat} {b : IFn} (hc : Code1 P f n b) {args : List V} (hn : args.length ≤ n) {m : Mem} {K : KV}
    (h : m.Fresh → runF (Ctx.on P l) b args m K) : ACalls P f args m K := by
  obtain ⟨fn, h1, h2, h3, h4⟩ := hc.ex
  exact ⟨trivial, fun base w0 β w cargs hM hA => (fn_sound (ctx_on hl) hm h1 h2 h3 (by omega) (h hM.fresh)).2 base w0 β w cargs hM hA⟩

/-- A call whose spec is one of those. -/
theorem ACalls.spec {P : Program} {f : FuncId} {F : AFn} (h : ASpec P f F) {args : List V} {m m' : Mem} {r : V} (e : F args m = some (r, m')) {K : KV} (k : K r m') : ACalls P f args m K :=
  (h args m r m' e).imp fun r2 m2 ⟨e1, e2⟩ => by subst e1; subst e2; exact k

theorem ex_two {α β : Sort _} (x : α) (y : β) (p : α → β → Prop) : (∃ a b, (x = a ∧ y = b) ∧ p a b) = p x y :=
  propext ⟨fun ⟨_, _, ⟨h1, h2⟩, h⟩ => by subst h1; subst h2; exact h, fun h => ⟨x, y, ⟨rfl, rfl⟩, h⟩⟩
attribute [simp] ex_two

/-- An argument that is a slice of whole numbers. -/
theorem IsV.ints {m : Mem} {k : IntKind} {x : V} (h : IsV m (.slice 1 (.int k)) x) : ∃ a zs c, x = .sl a zs.length c ∧ zs.length ≤ maxLen ∧ m.ints k (.sl a zs.length c) = some zs ∧ (∀ z ∈ zs, (Lit.int k z).wf = true) ∧ (a.isSome = true ∨ (a = none ∧ c = some 0 ∧ zs.length = 0)) := by
  simp only [IsV, Is] at h
  obtain ⟨a, n, c, h1, h2, h3, es, h4, h5, h6⟩ := h
  injection h1 with h1 _; subst h1
  have key : ∀ es : List (List V), (∀ x ∈ es, ∃ n, x = [V.int k n] ∧ (Lit.int k n).wf = true) → ∃ zs, es = rowI k zs ∧ ∀ z ∈ zs, (Lit.int k z).wf = true := by
    intro es
    induction es with
    | nil => intro _; exact ⟨[], rfl, by simp⟩
    | cons e es ih =>
      intro h
      obtain ⟨n, rfl, hw⟩ := h e (by simp)
      obtain ⟨zs, rfl, hz⟩ := ih fun x hx => h x (by simp [hx])
      exact ⟨n :: zs, rfl, by simp [hw]; exact hz⟩
  obtain ⟨zs, rfl, hz⟩ := key es h5
  rw [rowI_length] at h4
  subst h4
  refine ⟨a, zs, c, rfl, h2, ?_, hz, ?_⟩
  · by_cases h0 : zs.length = 0
    · have : zs = [] := List.eq_nil_of_length_eq_zero h0
      subst this; simp [Mem.ints]
    · cases a with
      | none => exact absurd (h3 rfl).1 h0
      | some p =>
        obtain ⟨r, rfl, h7⟩ := h6 p rfl
        rw [Mem.ints_row (h7 h0) (by rw [rowI_length]; omega), List.drop_zero, rowI_take, List.take_length, intsOf_rowI]
  · cases a with
    | none => exact .inr ⟨rfl, (h3 rfl).2, (h3 rfl).1⟩
    | some p => exact .inl rfl

theorem IsV.int {m : Mem} {k : IntKind} {x : V} (h : IsV m (.int k) x) : ∃ n, x = .int k n ∧ (Lit.int k n).wf = true := by
  simp only [IsV, Is] at h
  obtain ⟨n, h1, h2⟩ := h
  injection h1 with h1 _
  exact ⟨n, h1, h2⟩

/-- A slice whose elements are these. -/
def Slc (m : Mem) (sz : Nat) (v : V) (es : List (List V)) : Prop :=
  ∃ a c, v = .sl a es.length c ∧ (es ≠ [] → ∃ r i full rw, a = some (r, i, sz) ∧ m.obj r = some (.row sz full rw) ∧ i + es.length ≤ full.length ∧ ∀ j, j < es.length → full[i + j]? = es[j]?)

theorem Slc.nil (m : Mem) (sz : Nat) (a : Option (Nat × Nat × Nat)) (c : Option Nat) : Slc m sz (.sl a 0 c) [] := ⟨a, c, rfl, fun h => absurd rfl h⟩

theorem Slc.row {m : Mem} {sz r : Nat} {es : List (List V)} {rw : Bool} (h : m.obj r = some (.row sz es rw)) (c : Option Nat) : Slc m sz (.sl (some (r, 0, sz)) es.length c) es :=
  ⟨_, c, rfl, fun _ => ⟨r, 0, es, rw, rfl, h, by omega, fun j _ => by rw [Nat.zero_add]⟩⟩

theorem Slc.keep {m m' : Mem} {sz : Nat} {v : V} {es : List (List V)} (h : Slc m sz v es) (hk : ∀ p o, m.obj p = some o → m'.obj p = some o) : Slc m' sz v es :=
  let ⟨a, c, h1, h2⟩ := h
  ⟨a, c, h1, fun hne => let ⟨r, i, full, rw, h3, h4, h5, h6⟩ := h2 hne; ⟨r, i, full, rw, h3, hk _ _ h4, h5, h6⟩⟩

theorem Own.slc {n0 : Nat} {m : Mem} {sz : Nat} {v : V} {es : List (List V)} (h : Own n0 m sz v es) : Slc m sz v es := by
  rcases h with ⟨rfl, rfl⟩ | ⟨q, rfl, _, _, h3, _⟩
  · exact Slc.nil _ _ _ _
  · exact Slc.row h3 none

theorem Slc.get {m : Mem} {sz : Nat} {a : Option (Nat × Nat × Nat)} {n : Nat} {c : Option Nat} {es : List (List V)} (h : Slc m sz (.sl a n c) es) : n = es.length ∧ (n ≠ 0 → ∃ r i full rw, a = some (r, i, sz) ∧ m.obj r = some (.row sz full rw) ∧ i + n ≤ full.length ∧ ∀ j, j < n → full[i + j]? = es[j]?) := by
  obtain ⟨a', c', h1, h2⟩ := h
  injection h1 with h1 h3 h4
  subst h1; subst h3; subst h4
  exact ⟨rfl, fun hn => h2 (fun e => hn (by rw [e]; rfl))⟩

/-- An argument that is a slice of pairs of whole numbers. -/
theorem IsV.pairs {m : Mem} {k k' : IntKind} {x : V} (h : IsV m (.slice 2 (.struct [.int k, .int k'])) x) :
    ∃ a c, ∃ l : List (Int × Int), x = .sl a l.length c ∧ Slc m 2 x (l.map fun e => [.int k e.1, .int k' e.2]) ∧ ∀ e ∈ l, (Lit.int k e.1).wf = true ∧ (Lit.int k' e.2).wf = true := by
  simp only [IsV, Is] at h
  obtain ⟨a, n, c, h1, h2, h3, es, h4, h5, h6⟩ := h
  injection h1 with h1 _; subst h1
  have key : ∀ es : List (List V), (∀ x ∈ es, Iss m [.int k, .int k'] x) → ∃ l : List (Int × Int), es = l.map (fun e => [V.int k e.1, V.int k' e.2]) ∧ ∀ e ∈ l, (Lit.int k e.1).wf = true ∧ (Lit.int k' e.2).wf = true := by
    intro es
    induction es with
    | nil => intro _; exact ⟨[], rfl, by simp⟩
    | cons e es ih =>
      intro h
      have h1 := h e (by simp)
      simp only [Iss, Is] at h1
      obtain ⟨_, _, rfl, ⟨p, rfl, w1⟩, _, _, rfl, ⟨q, rfl, w2⟩, rfl⟩ := h1
      obtain ⟨l, rfl, hl⟩ := ih fun x hx => h x (by simp [hx])
      exact ⟨(p, q) :: l, rfl, fun e he => by
        rcases List.mem_cons.1 he with rfl | he
        · exact ⟨w1, w2⟩
        · exact hl e he⟩
  obtain ⟨l, rfl, hl⟩ := key es h5
  simp only [List.length_map] at h4
  subst h4
  refine ⟨a, c, l, rfl, ⟨a, c, by simp, fun hne => ?_⟩, hl⟩
  have h0 : l.length ≠ 0 := fun e => hne (by rw [List.eq_nil_of_length_eq_zero e]; rfl)
  cases a with
  | none => exact absurd (h3 rfl).1 h0
  | some p =>
    obtain ⟨r, rfl, h7⟩ := h6 p rfl
    exact ⟨r, 0, _, false, rfl, h7 h0, by simp, fun j _ => by rw [Nat.zero_add]⟩

end Go.AM
