/-
  WHAT EACH FUNCTION of this seat computes, in plain words.
-/
import Derived.Test.YthclgfhlfmbjfaaCx
namespace Go.Proofs.Ythclgfhlfmbjfaa
open Go Go.AM
set_option linter.unusedVariables false
set_option maxRecDepth 4000

def F15 : AFn
  | [.ptr (some (r, 0, 0)), .int .i64 no], m => (match m.obj r with
    | some (.row 2 [[.sl (some (q, 0, 3)) size c, .int .i64 n]] _) => if 1 ≤ no ∧ no ≤ 4611686018427387904 ∧ 1 ≤ size then some (.ptr (some (q, (no - 1).toNat % size, 0)), m) else none
    | _ => none)
  | _, _ => none
theorem s15 : ASpec Try.prog 15 F15 := by
  intro args m r m' h
  unfold F15 at h; split at h
  · split at h
    · split at h <;> cases h
      rename_i r no _ q size c n _ ho hc
      refine run_calls (ctx_nil _) hm c15 (by simp) ?_
      obtain ⟨k, hk⟩ : ∃ k : Nat, no - 1 = k := ⟨(no - 1).toNat, by omega⟩
      have e1 := IntWalk.i64_in (no - 1) (by omega)
      have e2 : (k : Int).tmod size = ((k % size : Nat) : Int) := by rw [Int.tmod_eq_emod_of_nonneg (by omega)]; simp
      have e3 : k % size < size := Nat.mod_lt _ (by omega)
      rw [hk] at e1
      simp [b15, ho, hk, e1, e2, show ¬ size = 0 by omega]
      have e4 : (k : Int) % size = ((k % size : Nat) : Int) := (Int.natCast_emod k size).symm
      rw [e4]
      exact ⟨⟨by omega, by omega⟩, by omega⟩
    · cases h
  · cases h

def F12 : AFn
  | [.ptr none], m => some (.int .i64 0, m)
  | [.ptr (some (r, 0, 0))], m => (match m.obj r with
    | some (.row 2 [[.sl a size c, .int .i64 n]] _) => some (.int .i64 (min n size), m)
    | _ => none)
  | _, _ => none
theorem s12 : ASpec Try.prog 12 F12 := by
  intro args m r m' h
  unfold F12 at h; split at h
  · cases h
    refine run_calls (ctx_nil _) hm c12 (by simp) ?_
    simp [b12]
  · split at h <;> cases h
    rename_i ho
    refine run_calls (ctx_nil _) hm c12 (by simp) ?_
    simp [b12, ho]
  · cases h

abbrev L1 : List (FuncId × AFn) := [(15, F15), (12, F12)]
theorem x1 : CtxOk Try.prog (Ctx.of L1) := ctx_cons (ctx_cons (ctx_nil _) s12) s15

def F11 : AFn
  | [.ptr none], m => some (.int .i64 0, m)
  | [.ptr (some (r, 0, 0))], m => (match m.obj r with
    | some (.row 2 [[.sl a size c, .int .i64 n]] _) => if 0 ≤ n ∧ n ≤ 4611686018427387904 then some (.int .i64 (n - min n size), m) else none
    | _ => none)
  | _, _ => none
theorem s11 : ASpec Try.prog 11 F11 := by
  intro args m r m' h
  unfold F11 at h; split at h
  · cases h
    refine run_calls x1 hm c11 (by simp) ?_
    simp [b11]
  · split at h
    · split at h <;> cases h
      rename_i a size c n _ ho hn
      refine run_calls x1 hm c11 (by simp) ?_
      simp [b11, ho, F12, IntWalk.i64_in (n - min n size) (by omega)]
    · cases h
  · cases h

abbrev L2 : List (FuncId × AFn) := (11, F11) :: L1
theorem x2 : CtxOk Try.prog (Ctx.of L2) := ctx_cons x1 s11

/-- An entry, as it lies. -/
abbrev ent (no t v : Int) : List V := [.int .i64 no, .int .i64 t, .int .i64 v]

/-- A ring of this size, into which these were put. -/
structure Ring (m : Mem) (r q size : Nat) (hist : List (Int × Int)) : Prop where
  ne : r ≠ q
  s1 : 1 ≤ size
  s2 : size ≤ 4096
  len : hist.length ≤ 1000000
  ex : ∃ c es, m.obj r = some (.row 2 [[.sl (some (q, 0, 3)) size c, .int .i64 hist.length]] true) ∧ m.obj q = some (.row 3 es true) ∧ es.length = size ∧ (∀ x ∈ es, x.length = 3) ∧
    ∀ k e, hist[k]? = some e → hist.length ≤ k + size → es[k % size]? = some (ent (k + 1) e.1 e.2)

theorem Ring.keep {m m' : Mem} {r q size : Nat} {hist : List (Int × Int)} (h : Ring m r q size hist) (h1 : m'.obj r = m.obj r) (h2 : m'.obj q = m.obj q) : Ring m' r q size hist :=
  ⟨h.ne, h.s1, h.s2, h.len, let ⟨c, es, a, b, k⟩ := h.ex; ⟨c, es, by rw [h1]; exact a, by rw [h2]; exact b, k⟩⟩

/-- New. -/
theorem new_calls {size : Int} (m : Mem) {K : KV} (h1 : size < 1 ∨ 4096 < size → K (.ptr none) m)
    (h2 : ∀ r q m', 1 ≤ size → size ≤ 4096 → Ring m' r q size.toNat [] → m.Grew m' → m.next ≤ r → m.next ≤ q → r < m'.next → q < m'.next → K (.ptr (some (r, 0, 0))) m') : ACalls Try.prog 6 [.int .i64 size] m K := by
  refine run_calls x2 hm c6 (by simp) ?_
  by_cases c1 : size < 1
  · simp [b6, c1]; exact h1 (.inl c1)
  by_cases c2 : 4096 < size
  · simp [b6, c1, c2]; exact h1 (.inr c2)
  have c3 : 0 ≤ size := by omega
  simp [b6, c1, c2, c3]
  refine ⟨by omega, h2 _ m.next _ (by omega) (by omega) ?_ ((Mem.Grew.new _ _).trans (Mem.Grew.new _ _)) (by simp) (Nat.le_refl _) (by simp) (by simp; omega)⟩
  refine ⟨by simp, by omega, by omega, by simp, some size.toNat, List.replicate size.toNat [.int .i64 0, .int .i64 0, .int .i64 0], by simp, by simp, by simp, ?_, ?_⟩
  · intro x hx; rw [List.eq_of_mem_replicate hx]; rfl
  · intro k e hk; simp at hk

/-- The time of one that is put now. -/
def timeOf (hist : List (Int × Int)) (t : Int) : Int := match hist.getLast? with
  | some e => max t e.1
  | none => t

theorem len3 {x : List V} (h : x.length = 3) : ∃ a b c, x = [a, b, c] := by
  match x, h with
  | [a, b, c], _ => exact ⟨a, b, c, rfl⟩

/-- Put. -/
theorem put_calls {m : Mem} {r q size : Nat} {hist : List (Int × Int)} (hR : Ring m r q size hist) (hlt : hist.length < 1000000) {t v : Int} {K : KV}
    (h : ∀ m', Ring m' r q size (hist ++ [(timeOf hist t, v)]) → m'.next = m.next → (∀ p, p ≠ r → p ≠ q → m'.obj p = m.obj p) → K (.int .i64 (hist.length + 1)) m') : ACalls Try.prog 10 [.ptr (some (r, 0, 0)), .int .i64 t, .int .i64 v] m K := by
  obtain ⟨c, es, h1, h2, h3, h4, h5⟩ := hR.ex
  have s1 := hR.s1
  have s2 := hR.s2
  have hne := hR.ne
  refine run_calls x2 hm c10 (by simp) ?_
  have hmod : hist.length % size < size := Nat.mod_lt _ (by omega)
  obtain ⟨x, hx⟩ : ∃ x, es[hist.length % size]? = some x := ⟨_, List.getElem?_eq_getElem (by omega)⟩
  obtain ⟨o1, o2, o3, rfl⟩ := len3 (h4 x (List.mem_of_getElem? hx))
  have en := IntWalk.i64_in ((hist.length : Int) + 1) (by omega)
  have fin : ∀ t', t' = timeOf hist t → K (.int .i64 (hist.length + 1)) ((m.upd r (some (.row 2 [[.sl (some (q, 0, 3)) size c, .int .i64 (hist.length + 1)]] true))).upd q (some (.row 3 (es.set (hist.length % size) (ent (hist.length + 1) t' v)) true))) := by
    intro t' ht
    subst ht
    refine h _ ⟨hne, s1, s2, by simp; omega, c, es.set (hist.length % size) (ent (hist.length + 1) (timeOf hist t) v), ?_, ?_, by simp [h3], ?_, ?_⟩ rfl (fun p hp hq => by simp [hp, hq])
    · simp [hne]
    · simp
    · intro y hy
      rcases List.mem_or_eq_of_mem_set hy with hy | hy
      · exact h4 y hy
      · subst hy; rfl
    · intro k e hk hks
      simp only [List.length_append, List.length_cons, List.length_nil] at hks
      by_cases hkn : k = hist.length
      · subst hkn
        rw [List.getElem?_append_right (Nat.le_refl _)] at hk
        simp at hk; subst hk
        rw [List.getElem?_set_self (by omega)]
      · have hkl : k < hist.length := by
          have := (List.getElem?_eq_some_iff.1 hk).1
          simp at this; omega
        rw [List.getElem?_append_left hkl] at hk
        have : k % size ≠ hist.length % size := by
          intro e
          have a1 := Nat.div_add_mod k size
          have a2 := Nat.div_add_mod hist.length size
          have a3 : hist.length - k < size := by omega
          have a4 : size * (k / size) + size ≤ size * (hist.length / size) ∨ k / size = hist.length / size := by
            have : k / size ≤ hist.length / size := Nat.div_le_div_right (by omega)
            rcases Nat.lt_or_ge (k / size) (hist.length / size) with h | h
            · left
              have := Nat.mul_le_mul_left size (show k / size + 1 ≤ hist.length / size from h)
              rw [Nat.mul_add, Nat.mul_one] at this; exact this
            · right; omega
          rcases a4 with a4 | a4
          · omega
          · rw [a4] at a1; omega
        rw [List.getElem?_set_ne (by omega)]
        exact h5 k e hk (by omega)
  have hlast : 0 < hist.length → ∃ e : Int × Int, es[(hist.length - 1) % size]? = some (ent hist.length e.1 e.2) ∧ timeOf hist t = max t e.1 := by
    intro h0
    obtain ⟨e, he⟩ : ∃ e, hist[hist.length - 1]? = some e := ⟨_, List.getElem?_eq_getElem (by omega)⟩
    have := h5 (hist.length - 1) e he (by omega)
    rw [show ((hist.length - 1 : Nat) : Int) + 1 = hist.length by omega] at this
    exact ⟨e, this, by simp [timeOf, List.getLast?_eq_getElem?, he]⟩
  have hzero : hist.length = 0 → timeOf hist t = t := by
    intro h0
    have : hist = [] := List.eq_nil_of_length_eq_zero h0
    subst this; rfl
  clear h5 h hR
  generalize hist.length = N at *
  generalize timeOf hist t = T at *
  have e1 : ((N : Int) + 1 - 1).toNat = N := by omega
  have e2 : ((N : Int) - 1).toNat = N - 1 := by omega
  by_cases h0 : 0 < N
  · obtain ⟨⟨lt, lv⟩, hl1, hl2⟩ := hlast h0
    simp only at hl1 hl2
    have := fin _ hl2.symm
    simp [b10, h1, h2, F15, s1, hx, hne, Ne.symm hne, h0, en, show (1 : Int) ≤ N by omega, show (N : Int) ≤ 4611686018427387904 by omega, show (1 : Int) ≤ (N : Int) + 1 by omega, show (N : Int) + 1 ≤ 4611686018427387904 by omega, e2, hl1]
    exact this
  · have := fin t (hzero (by omega)).symm
    simp [b10, h1, h2, F15, s1, hx, hne, Ne.symm hne, h0, en, show (1 : Int) ≤ (N : Int) + 1 by omega, show (N : Int) + 1 ≤ 4611686018427387904 by omega]
    exact this

/-- Entries, from number a + 1 on. -/
def ents (a : Nat) : List (Int × Int) → List (List V)
  | [] => []
  | e :: l => ent (a + 1) e.1 e.2 :: ents (a + 1) l

theorem ents_length : ∀ (a : Nat) (l : List (Int × Int)), (ents a l).length = l.length
  | _, [] => rfl
  | a, e :: l => by simp [ents, ents_length (a + 1) l]
theorem ents_append : ∀ (a : Nat) (l k : List (Int × Int)), ents a (l ++ k) = ents a l ++ ents (a + l.length) k
  | _, [], k => by simp [ents]
  | a, e :: l, k => by simp only [List.cons_append, ents, ents_append (a + 1) l k, List.length_cons]; rw [show a + (l.length + 1) = a + 1 + l.length by omega]
theorem ents_flat : ∀ (a : Nat) (l : List (Int × Int)), (ents a l).all V.flats = true
  | _, [] => rfl
  | a, e :: l => by simp only [ents, List.all_cons, ents_flat (a + 1) l]; simp [V.flats, V.flat]

/-- Those from a place on. -/
theorem from_calls {m : Mem} {r q size : Nat} {hist : List (Int × Int)} (hR : Ring m r q size hist) (k : Nat) (hk : hist.length ≤ k + size) (hk2 : k ≤ 4000000) {K : KV}
    (h1 : hist.drop k = [] → K (.sl none 0 (some 0)) m) (h2 : hist.drop k ≠ [] → K (.sl (some (m.next, 0, 3)) (hist.drop k).length none) (m.new (.row 3 (ents k (hist.drop k)) true))) : ACalls Try.prog 16 [.ptr (some (r, 0, 0)), .int .i64 (k + 1)] m K := by
  obtain ⟨c, es, o1, o2, o3, o4, o5⟩ := hR.ex
  have s1 := hR.s1
  have s2 := hR.s2
  have hne := hR.ne
  have hlen := hR.len
  refine ACalls.own (run_callsW x2 hm c16 (by simp) fun hf => ?_)
  have f1 := hf r _ o1
  have f2 := hf q _ o2
  simp [b16]
  refine exec_loop (σ := Nat × V × Mem) (fun (j, v, _) => en [(0, .ptr (some (r, 0, 0))), (1, .int .i64 (j + 1)), (5, v)]) (fun (_, _, m') => m')
    (fun (j, v, m') => k ≤ j ∧ (j ≤ k ∨ j ≤ hist.length) ∧ m.Grew m' ∧ Own m.next m' 3 v (ents k ((hist.take j).drop k))) (fun (j, _, _) => hist.length - j) ?_ (s := (k, .sl none 0 (some 0), m)) ?_ ?_
  · intro (j, v, m') ⟨g1, g2, g3, g4⟩
    have p1 : m'.obj r = _ := (g3.obj r f1).trans o1
    have p2 : m'.obj q = _ := (g3.obj q f2).trans o2
    have gn := g3.next
    by_cases hj : (j : Int) + 1 ≤ hist.length
    · obtain ⟨e, he⟩ : ∃ e : Int × Int, hist[j]? = some e := ⟨_, List.getElem?_eq_getElem (by omega)⟩
      have hx := o5 j e he (by omega)
      simp [p1, hj, F15, s1, show (1 : Int) ≤ (j : Int) + 1 by omega, show (j : Int) + 1 ≤ 4611686018427387904 by omega, p2, hx]
      have hel : eltsOf 3 (m'.new (.row 3 [ent (j + 1) e.1 e.2] true)) (.sl (some (m'.next, 0, 3)) 1 (some 1)) = some [ent (j + 1) e.1 e.2] := by simp [eltsOf, Mem.elts]
      rw [hel]
      have hjl : j < hist.length := by omega
      have htk : ents k ((hist.take (j + 1)).drop k) = ents k ((hist.take j).drop k) ++ [ent (j + 1) e.1 e.2] := by
        have h3 : hist.take (j + 1) = hist.take j ++ [e] := by
          rw [List.take_add_one, he]; rfl
        rw [h3, List.drop_append_of_le_length (by simp; omega), ents_append]
        simp only [ents, List.length_drop, List.length_take]
        rw [show k + (min j hist.length - k) = j by omega]
      have hn : (ents k ((hist.take j).drop k)).length ≤ 1000000 := by rw [ents_length]; simp; omega
      simp only
      refine appendX_own (g4.keep (m' := m'.new (.row 3 [ent (j + 1) e.1 e.2] true)) (by simp) (fun p _ hp => by rw [new_obj, if_neg (by omega)])) (by rw [new_next]; omega) (by simp) (by simp; omega) (by simp; omega) (fun v' m2 w1 w2 w3 => ?_)
      rw [new_next] at w3
      refine ⟨j + 1, v', m2, ⟨by omega, by omega, ⟨by omega, fun p hp => ?_⟩, by rw [htk]; exact w1⟩, by omega, ?_, rfl⟩
      · rw [w2.obj p (by rw [new_next]; omega) (.inl hp), new_obj, if_neg (by omega)]; exact g3.obj p hp
      · rw [IntWalk.i64_in ((j : Int) + 1 + 1) (by omega)]; simp
    · simp [p1, hj]
      have hd : (hist.take j).drop k = hist.drop k := by
        by_cases hjk : j ≤ hist.length
        · have : j = hist.length := by omega
          subst this; rw [List.take_length]
        · rw [List.take_of_length_le (by omega)]
      rw [hd] at g4
      refine ⟨3, ents k (hist.drop k), g4, gn, List.all_eq_true.1 (ents_flat _ _), g3.obj, fun h => h1 ?_, fun h => ?_⟩
      · exact List.eq_nil_of_length_eq_zero (by rw [← ents_length k, h]; rfl)
      · have := h2 (fun e => h (by rw [e]; rfl))
        rw [ents_length]; exact this
  · exact ⟨Nat.le_refl _, .inl (Nat.le_refl _), Mem.Grew.refl m, by rw [List.drop_of_length_le (by simp; omega)]; exact Own.nil _ _ _⟩
  · simp

/-- After: those above a number, and how many of them are lost. -/
theorem after_calls {m : Mem} {r q size : Nat} {hist : List (Int × Int)} (hR : Ring m r q size hist) {no : Int} {a lost : Nat} (ha : min (max no 0) (hist.length : Int) = a) (hl : hist.length - min hist.length size = lost) {K : KV}
    (h1 : hist.drop (max a lost) = [] → K (.tup [.sl none 0 (some 0), .int .i64 (lost - a : Nat)]) m)
    (h2 : hist.drop (max a lost) ≠ [] → K (.tup [.sl (some (m.next, 0, 3)) (hist.drop (max a lost)).length none, .int .i64 (lost - a : Nat)]) (m.new (.row 3 (ents (max a lost) (hist.drop (max a lost))) true))) :
    ACalls Try.prog 13 [.ptr (some (r, 0, 0)), .int .i64 no] m K := by
  obtain ⟨c, es, o1, o2, o3, o4, o5⟩ := hR.ex
  have s1 := hR.s1
  have s2 := hR.s2
  have hlen := hR.len
  refine run_on x2 hm c13 (by simp) fun hf => ?_
  have f1 := hf r _ o1
  have e1 : (hist.length : Int) - min (hist.length : Int) size = lost := by omega
  have e2 : max (a : Int) lost = (max a lost : Nat) := by omega
  have e3 := IntWalk.i64_in (((max a lost : Nat) : Int) + 1) (by omega)
  have e4 := IntWalk.i64_in ((lost : Int) - a) (by omega)
  have e5 : max ((lost : Int) - a) 0 = (lost - a : Nat) := by omega
  simp [b13, o1, ha, F11, show (hist.length : Int) ≤ 4611686018427387904 by omega, e1]
  rw [e2, e3]
  refine from_calls hR (max a lost) (by omega) (by omega) (fun h => ?_) (fun h => ?_)
  · have := h1 h
    simp [o1, show (hist.length : Int) ≤ 4611686018427387904 by omega, e1, e4, e5]
    exact this
  · have := h2 h
    rw [List.length_drop] at this
    simp [o1, show r ≠ m.next by omega, show (hist.length : Int) ≤ 4611686018427387904 by omega, e1, e4, e5]
    exact this

end Go.Proofs.Ythclgfhlfmbjfaa
