/-
  WHAT COMES OUT: how two compare; two change places.
-/
import Derived.Test.YthkopgcdghbjlaaCx
import Derived.Test.YthkopgcdghbjlaaAm31
namespace Go.Proofs.Ythkopgcdghbjlaa
open Go Go.AM
set_option linter.unusedVariables false
set_option linter.unusedSimpArgs false
set_option maxRecDepth 60000
set_option maxHeartbeats 4000000

def cmpI (a b : Int) : Int := if a < b then -1 else if b < a then 1 else 0
def F25 : AFn
  | [.int .i64 _], m => some (.bool false, m)
  | _, _ => none
theorem s25 : ASpec Try.prog 25 F25 := by
  intro args m r m' h
  unfold F25 at h; split at h <;> cases h
  refine run_on (ctx_nil _) hm c25 (by simp) fun hf => ?_
  simp [b25]
abbrev L2 : List (FuncId × AFn) := [(25, F25)]
theorem x2 : CtxOk Try.prog (Ctx.of L2) := ctx_cons (ctx_nil _) s25
def F17 : AFn
  | [.int .i64 a, .int .i64 b], m => some (.int .i64 (cmpI a b), m)
  | _, _ => none
theorem s17 : ASpec Try.prog 17 F17 := by
  intro args m r m' h
  unfold F17 at h; split at h <;> cases h
  rename_i a b
  refine run_on x2 hm c17 (by simp) fun hf => ?_
  unfold cmpI
  by_cases h1 : a < b
  · rw [if_pos h1]; simp (disch := omega) [b17, F25]
  · by_cases h2 : b < a
    · rw [if_neg h1, if_pos h2]; simp (disch := omega) [b17, F25]
    · rw [if_neg h1, if_neg h2]; simp (disch := omega) [b17, F25]
def F27 : AFn
  | [.sl (some (p, 0, 1)) 2 (some 2)], m => match m.obj p with
    | some (.row 1 [[.int .i64 a], [.int .i64 b]] _) => some (.int .i64 (if a = 0 then b else a), m)
    | _ => none
  | _, _ => none
theorem s27 : ASpec Try.prog 27 F27 := by
  intro args m r m' h
  unfold F27 at h; split at h
  case h_2 => cases h
  rename_i p
  split at h
  case h_2 => cases h
  rename_i a b rw ho
  cases h
  refine run_on (ctx_nil _) hm c27 (by simp) fun hf => ?_
  simp (disch := omega) [-getElem?_pos, b27]
  refine exec_loopU (σ := Nat) (fun i => [(8, .int .i64 i)]) (fun _ => m) (fun i => i ≤ 2 ∧ (0 < i → a = 0) ∧ (1 < i → b = 0)) (fun i => 2 - i) 0 rfl ⟨by omega, by omega, by omega⟩ (by simp) ?_
  intro i ⟨a1, a2, a3⟩
  have hi : i = 0 ∨ i = 1 ∨ i = 2 := by omega
  rcases hi with rfl | rfl | rfl
  · by_cases h0 : a = 0
    · subst h0
      simp (disch := omega) [-getElem?_pos, ho]
      exact again_mk 1 ⟨by omega, by omega, by omega⟩ (by omega) (by simp) rfl
    · simp (disch := omega) [-getElem?_pos, ho, h0]
  · obtain rfl := a2 (by omega)
    by_cases h0 : b = 0
    · subst h0
      simp (disch := omega) [-getElem?_pos, ho]
      exact again_mk 2 ⟨by omega, by omega, by omega⟩ (by omega) (by simp) rfl
    · simp (disch := omega) [-getElem?_pos, ho, h0]
  · obtain rfl := a2 (by omega)
    obtain rfl := a3 (by omega)
    simp (disch := omega) [-getElem?_pos, ho]
abbrev L7 : List (FuncId × AFn) := [(27, F27), (17, F17)]
theorem x7 : CtxOk Try.prog (Ctx.of L7) := ctx_cons (ctx_cons (ctx_nil _) s17) s27

/-- What comes out: time, value, row. -/
abbrev Ot := Int × Int × Int
def ot (a : Ot) : List V := [.int .i64 a.1, .int .i64 a.2.1, .int .i64 a.2.2]
theorem ot_get {L : List Ot} {i : Nat} {a : Ot} (h : L[i]? = some a) : (L.map ot)[i]? = some (ot a) := by simp [h]
def cmpO (a b : Ot) : Int := if cmpI a.1 b.1 = 0 then cmpI a.2.2 b.2.2 else cmpI a.1 b.1
def ltO (a b : Ot) : Prop := a.1 < b.1 ∨ (a.1 = b.1 ∧ a.2.2 < b.2.2)
instance (a b : Ot) : Decidable (ltO a b) := by unfold ltO; infer_instance
theorem ltO_cmp {a b : Ot} : cmpO a b < 0 ↔ ltO a b := by
  unfold ltO cmpO cmpI
  split <;> split <;> (try split) <;> (try split) <;> omega
theorem order19 {a b : Ot} {m : Mem} {K : KV} (h : ∀ m', m.Grew m' → K (.int .i64 (cmpO a b)) m') : ACalls Try.prog 19 [.agg (ot a), .agg (ot b)] m K := by
  refine run_on x7 hm c19 (by simp) fun hf => ?_
  have g := ((Mem.Grew.new m (.row 3 [ot a] true)).trans (Mem.Grew.new _ (.row 3 [ot b] true))).trans (Mem.Grew.new _ (.row 1 [[.int .i64 (cmpI a.1 b.1)], [.int .i64 (cmpI a.2.2 b.2.2)]] true))
  unfold cmpO at h
  simp only [ot] at g ⊢
  by_cases h1 : cmpI a.1 b.1 = 0
  · rw [if_pos h1] at h
    simp (disch := omega) [-getElem?_pos, b19]
    refine drawT_one ⟨_, _, by simp (disch := omega) [-getElem?_pos, F17, F27, List.range_succ, h1]; exact ⟨rfl, rfl⟩, ?_⟩
    simp (disch := omega) [-getElem?_pos]
    rw [h1] at g
    exact h _ g
  · rw [if_neg h1] at h
    simp (disch := omega) [-getElem?_pos, b19]
    refine drawT_one ⟨_, _, by simp (disch := omega) [-getElem?_pos, F17, F27, List.range_succ, h1]; exact ⟨rfl, rfl⟩, ?_⟩
    simp (disch := omega) [-getElem?_pos]
    exact h _ g

/-- Two places of a row of one's own. -/
theorem two_at {m : Mem} {v : V} {L : List Ot} (h : Ows m 3 v (L.map ot)) {i j : Nat} {x y : Ot} (hi : L[i]? = some x) (hj : L[j]? = some y) (hij : i ≠ j) :
    ∃ p qi qj full, iaddrV 3 v (.int .i64 i) = some (.ptr (some (p, qi, 0))) ∧ iaddrV 3 v (.int .i64 j) = some (.ptr (some (p, qj, 0))) ∧ p < m.next ∧ m.obj p = some (.row 3 full true) ∧ full[qi]? = some (ot x) ∧ full[qj]? = some (ot y) ∧ v.fp = [p] ∧ (∀ z, (full.set qi z)[qj]? = some (ot y)) ∧
      ∀ (x' y' : Ot), Ows (m.upd p (some (.row 3 ((full.set qi (ot x')).set qj (ot y')) true))) 3 v (((L.set i x').set j y').map ot) ∧ Stp m (m.upd p (some (.row 3 ((full.set qi (ot x')).set qj (ot y')) true))) v.fp v.fp := by
  have hil := (List.getElem?_eq_some_iff.1 hi).1
  have hjl := (List.getElem?_eq_some_iff.1 hj).1
  rcases h.ex with ⟨_, he⟩ | ⟨q, i0, full, c, rfl, h1, h2, h3, h4, h5⟩
  · have := congrArg List.length he; simp at this; subst this; simp at hil
  · have hl : (L.map ot).length = L.length := by simp
    rw [hl] at h3 h4
    refine ⟨q, i0 + i, i0 + j, full, ?_, ?_, h1, h2, by rw [h4 i hil, ot_get hi], by rw [h4 j hjl, ot_get hj], rfl, fun z => by rw [List.getElem?_set_ne (by omega), h4 j hjl, ot_get hj], fun x' y' => ⟨⟨.inr ⟨q, i0, (full.set (i0 + i) (ot x')).set (i0 + j) (ot y'), c, by simp, by rw [upd_next]; exact h1, by simp, by simp; exact h3, fun k hk => ?_, fun k hk => by simp; have := h5 k hk; simpa using this⟩⟩, Stp.upd _ (by simp [V.fp]) _⟩⟩
    · rw [iaddrV_sl, if_pos ⟨by omega, by rw [hl]; omega, rfl⟩]; simp
    · rw [iaddrV_sl, if_pos ⟨by omega, by rw [hl]; omega, rfl⟩]; simp
    · simp only [List.length_map, List.length_set] at hk
      have e : ((L.set i x').set j y').map ot = ((L.map ot).set i (ot x')).set j (ot y') := by simp [List.map_set]
      rw [e]
      by_cases e1 : k = j
      · subst e1
        rw [List.getElem?_set_self (by rw [List.length_set]; omega), List.getElem?_set_self (by rw [List.length_set, hl]; omega)]
      · have q1 : ((full.set (i0 + i) (ot x')).set (i0 + j) (ot y'))[i0 + k]? = (full.set (i0 + i) (ot x'))[i0 + k]? := List.getElem?_set_ne (by omega)
        have q2 : (((L.map ot).set i (ot x')).set j (ot y'))[k]? = ((L.map ot).set i (ot x'))[k]? := List.getElem?_set_ne (by omega)
        rw [q1, q2]
        by_cases e2 : k = i
        · subst e2; rw [List.getElem?_set_self (by omega), List.getElem?_set_self (by rw [hl]; omega)]
        · rw [List.getElem?_set_ne (by omega), List.getElem?_set_ne (by omega)]; exact h4 k hk

/-! ### swapRange -/
theorem set_at {α : Type} (A B : List α) (x y : α) {n : Nat} (hn : n = A.length) : (A ++ x :: B).set n y = A ++ y :: B := by
  subst hn
  rw [List.set_append_right _ _ (Nat.le_refl _), Nat.sub_self]; rfl
theorem get_at {α : Type} (A B : List α) (x : α) {n : Nat} (hn : n = A.length) : (A ++ x :: B)[n]? = some x := by
  subst hn
  rw [List.getElem?_append_right (Nat.le_refl _), Nat.sub_self]; rfl
theorem swap_calls {m : Mem} {v : V} {f : V} {P X C Y Q : List Ot} (h : Ows m 3 v ((P ++ X ++ C ++ Y ++ Q).map ot)) (hl : (P ++ X ++ C ++ Y ++ Q).length ≤ 4611686018427387904) {a b n : Nat} (ha : a = P.length) (hn : n = X.length) (hn2 : n = Y.length) (hb : b = P.length + X.length + C.length) {K : KV}
    (hk : ∀ m', Ows m' 3 v ((P ++ Y ++ C ++ X ++ Q).map ot) → Stp m m' v.fp v.fp → K (.tup []) m') : ACalls Try.prog 34 [v, .int .i64 a, .int .i64 b, .int .i64 n, f] m K := by
  refine run_on (ctx_nil _) hm c34 (by simp) fun hf => ?_
  simp only [List.length_append] at hl
  simp (disch := omega) [-getElem?_pos, b34]
  refine exec_loopU (σ := Nat × Mem) (fun (i, _) => [(10, .int .i64 i)]) (fun (_, M) => M) (fun (i, M) => i ≤ n ∧ Ows M 3 v ((P ++ (Y.take i ++ X.drop i) ++ C ++ (X.take i ++ Y.drop i) ++ Q).map ot) ∧ Stp m M v.fp v.fp) (fun (i, _) => n - i) (0, m) rfl
    (by dsimp only; exact ⟨by omega, by simpa using h, Stp.refl _ _⟩) (by simp) ?_
  intro (i, M) ⟨a1, a2, a3⟩
  by_cases hi : i < n
  · obtain ⟨x, hx⟩ : ∃ x, X[i]? = some x := ⟨_, List.getElem?_eq_getElem (by omega)⟩
    obtain ⟨y, hy⟩ : ∃ y, Y[i]? = some y := ⟨_, List.getElem?_eq_getElem (by omega)⟩
    have hX : X.drop i = x :: X.drop (i + 1) := by rw [List.drop_eq_getElem_cons (by omega)]; congr 1; exact (List.getElem?_eq_some_iff.1 hx).2
    have hY : Y.drop i = y :: Y.drop (i + 1) := by rw [List.drop_eq_getElem_cons (by omega)]; congr 1; exact (List.getElem?_eq_some_iff.1 hy).2
    have e0 : P ++ (Y.take i ++ X.drop i) ++ C ++ (X.take i ++ Y.drop i) ++ Q = (P ++ Y.take i) ++ x :: (X.drop (i + 1) ++ C ++ X.take i ++ y :: (Y.drop (i + 1) ++ Q)) := by rw [hX, hY]; simp
    have e1 : P ++ (Y.take (i + 1) ++ X.drop (i + 1)) ++ C ++ (X.take (i + 1) ++ Y.drop (i + 1)) ++ Q = (P ++ Y.take i ++ y :: (X.drop (i + 1) ++ C ++ X.take i)) ++ x :: (Y.drop (i + 1) ++ Q) := by rw [takeS hx, takeS hy]; simp
    rw [e0] at a2
    have l1 : a + i = (P ++ Y.take i).length := by simp; omega
    have hg1 : ((P ++ Y.take i) ++ x :: (X.drop (i + 1) ++ C ++ X.take i ++ y :: (Y.drop (i + 1) ++ Q)))[a + i]? = some x := get_at _ _ _ l1
    have e2 : (P ++ Y.take i) ++ x :: (X.drop (i + 1) ++ C ++ X.take i ++ y :: (Y.drop (i + 1) ++ Q)) = (P ++ Y.take i ++ x :: (X.drop (i + 1) ++ C ++ X.take i)) ++ y :: (Y.drop (i + 1) ++ Q) := by simp
    have l2 : b + i = (P ++ Y.take i ++ x :: (X.drop (i + 1) ++ C ++ X.take i)).length := by simp; omega
    have hg2 : ((P ++ Y.take i) ++ x :: (X.drop (i + 1) ++ C ++ X.take i ++ y :: (Y.drop (i + 1) ++ Q)))[b + i]? = some y := by rw [e2]; exact get_at _ _ _ l2
    obtain ⟨p, qi, qj, full, z1, z2, z3, z4, z5, z6, z7, z8, z9⟩ := two_at a2 hg1 hg2 (by omega)
    obtain ⟨w1, w2⟩ := z9 y x
    have hz8 := z8 (ot y)
    rw [set_at _ _ _ _ l1] at w1
    have e3 : (P ++ Y.take i) ++ y :: (X.drop (i + 1) ++ C ++ X.take i ++ y :: (Y.drop (i + 1) ++ Q)) = (P ++ Y.take i ++ y :: (X.drop (i + 1) ++ C ++ X.take i)) ++ y :: (Y.drop (i + 1) ++ Q) := by simp
    rw [e3, set_at _ _ _ _ (by simp; omega), ← e1] at w1
    obtain ⟨ai, hai0⟩ : ∃ ai, a + i = ai := ⟨_, rfl⟩
    obtain ⟨bi, hbi0⟩ : ∃ bi, b + i = bi := ⟨_, rfl⟩
    rw [hai0] at z1
    rw [hbi0] at z2
    have hai : (a : Int) + i = (ai : Int) := by omega
    have hbi : (b : Int) + i = (bi : Int) := by omega
    simp only [ot] at z5 z6 hz8 w1 w2
    simp (disch := omega) [-getElem?_pos, hai, hbi, z1, z2, z4, z5, z6, hz8]
    exact again_mk (i + 1, _) (by dsimp only; exact ⟨by omega, w1, a3.trans w2⟩) (by dsimp only; omega) (by simp) rfl
  · have : i = n := by omega
    subst this
    rw [show Y.take i = Y from List.take_of_length_le (by omega), show X.drop i = [] from List.drop_eq_nil_of_le (by omega), show X.take i = X from List.take_of_length_le (by omega), show Y.drop i = [] from List.drop_eq_nil_of_le (by omega), List.append_nil, List.append_nil] at a2
    simp (disch := omega) [-getElem?_pos]
    exact hk _ a2 a3

/-! ### rotate -/
theorem rotate_calls {m : Mem} {v : V} {f : V} {P X Y Q : List Ot} (h : Ows m 3 v ((P ++ X ++ Y ++ Q).map ot)) (hl : (P ++ X ++ Y ++ Q).length ≤ 4611686018427387904) {a b c : Nat} (ha : a = P.length) (hb : b = P.length + X.length) (hc : c = P.length + X.length + Y.length) (hX : X ≠ []) (hY : Y ≠ []) {K : KV}
    (hk : ∀ m', Ows m' 3 v ((P ++ Y ++ X ++ Q).map ot) → Stp m m' v.fp v.fp → K (.tup []) m') : ACalls Try.prog 33 [v, .int .i64 a, .int .i64 b, .int .i64 c, f] m K := by
  refine run_on (ctx_nil _) hm c33 (by simp) fun hf => ?_
  simp only [List.length_append] at hl
  have hXl := List.length_pos_iff.2 hX
  have hYl := List.length_pos_iff.2 hY
  obtain ⟨i0, hi0⟩ : ∃ i0, b - a = i0 := ⟨_, rfl⟩
  obtain ⟨j0, hj0⟩ : ∃ j0, c - b = j0 := ⟨_, rfl⟩
  have hii : (b : Int) - a = (i0 : Int) := by omega
  have hjj : (c : Int) - b = (j0 : Int) := by omega
  simp (disch := omega) [-getElem?_pos, b33, hii, hjj]
  refine exec_loopU (σ := Nat × Nat × List Ot × List Ot × List Ot × List Ot × Mem) (fun (i, j, _, _, _, _, _) => [(10, .int .i64 i), (11, .int .i64 j)]) (fun (_, _, _, _, _, _, M) => M) (fun (i, j, P', U, W, Q', M) => P'.length + i = b ∧ U.length = i ∧ W.length = j ∧ 0 < i ∧ 0 < j ∧ P'.length + i + j + Q'.length ≤ 4611686018427387904 ∧ P' ++ W ++ U ++ Q' = P ++ Y ++ X ++ Q ∧ Ows M 3 v ((P' ++ U ++ W ++ Q').map ot) ∧ Stp m M v.fp v.fp) (fun (i, j, _, _, _, _, _) => i + j) (i0, j0, P, X, Y, Q, m) rfl
    (by dsimp only; exact ⟨by omega, by omega, by omega, by omega, by omega, by omega, rfl, h, Stp.refl _ _⟩) (by simp) ?_
  intro (i, j, P', U, W, Q', M) ⟨a1, a2, a3, a4, a5, a6, a7, a8, a9⟩
  rcases Nat.lt_trichotomy i j with w | w | w
  · -- the right one is longer
    obtain ⟨p0, hp0⟩ : ∃ p0, b - i = p0 := ⟨_, rfl⟩
    have hpp : (b : Int) - i = (p0 : Int) := by omega
    obtain ⟨q0, hq0⟩ : ∃ q0, b + j - i = q0 := ⟨_, rfl⟩
    have hqq : (b : Int) + j - i = (q0 : Int) := by omega
    obtain ⟨d0, hd0⟩ : ∃ d0, j - i = d0 := ⟨_, rfl⟩
    have hdd : (j : Int) - i = (d0 : Int) := by omega
    have e : P' ++ U ++ W ++ Q' = P' ++ U ++ W.take (j - i) ++ W.drop (j - i) ++ Q' := by simp
    rw [e] at a8
    simp (disch := omega) [-getElem?_pos, hpp, hqq]
    refine swap_calls a8 (by simp only [List.length_append, List.length_take, List.length_drop]; omega) (by omega) (by omega) (by rw [List.length_drop]; omega) (by rw [List.length_take]; omega) fun m' e1 e2 => ?_
    simp (disch := omega) [-getElem?_pos, hdd]
    exact again_mk (i, d0, P', W.drop (j - i), W.take (j - i), U ++ Q', m') (by
      dsimp only
      refine ⟨a1, by rw [List.length_drop]; omega, by rw [List.length_take]; omega, a4, by omega, by rw [List.length_append]; omega, ?_, by simpa using e1, a9.trans e2⟩
      rw [← a7]
      have := List.take_append_drop (j - i) W
      conv => rhs; rw [← this]
      simp) (by dsimp only; omega) (by simp) rfl
  · subst w
    obtain ⟨p0, hp0⟩ : ∃ p0, b - i = p0 := ⟨_, rfl⟩
    have hpp : (b : Int) - i = (p0 : Int) := by omega
    have e : P' ++ U ++ W ++ Q' = P' ++ U ++ [] ++ W ++ Q' := by simp
    rw [e] at a8
    simp (disch := omega) [-getElem?_pos, hpp]
    refine swap_calls a8 (by simp only [List.length_append, List.length_nil]; omega) (by omega) (by omega) (by omega) (by simp only [List.length_nil]; omega) fun m' e1 e2 => ?_
    simp (disch := omega) [-getElem?_pos]
    exact hk _ (by rw [← a7]; simpa using e1) (a9.trans e2)
  · -- the left one is longer
    obtain ⟨p0, hp0⟩ : ∃ p0, b - i = p0 := ⟨_, rfl⟩
    have hpp : (b : Int) - i = (p0 : Int) := by omega
    obtain ⟨d0, hd0⟩ : ∃ d0, i - j = d0 := ⟨_, rfl⟩
    have hdd : (i : Int) - j = (d0 : Int) := by omega
    have e : P' ++ U ++ W ++ Q' = P' ++ U.take j ++ U.drop j ++ W ++ Q' := by simp
    rw [e] at a8
    simp (disch := omega) [-getElem?_pos, hpp]
    refine swap_calls a8 (by simp only [List.length_append, List.length_take, List.length_drop]; omega) (by omega) (by rw [List.length_take]; omega) (by omega) (by rw [List.length_take, List.length_drop]; omega) fun m' e1 e2 => ?_
    simp (disch := omega) [-getElem?_pos, hdd]
    exact again_mk (d0, j, P' ++ W, U.drop j, U.take j, Q', m') (by
      dsimp only
      refine ⟨by rw [List.length_append]; omega, by rw [List.length_drop]; omega, by rw [List.length_take]; omega, by omega, a5, by rw [List.length_append]; omega, ?_, by simpa using e1, a9.trans e2⟩
      rw [← a7]
      have := List.take_append_drop j U
      conv => rhs; rw [← this]
      simp) (by dsimp only; omega) (by simp) rfl
end Go.Proofs.Ythkopgcdghbjlaa
