/-
  RINGS, BETWEEN, and the law's own reckoning of what rings.
-/
import Derived.Test.YtkalojiddaeekaaHx
namespace Go.Proofs.Ytkalojiddaeekaa
open Go Go.AM
set_option linter.unusedVariables false
set_option linter.unusedSimpArgs false
set_option maxRecDepth 60000
set_option maxHeartbeats 4000000

/-- Of the first alarms those that ring at a minute of the week. -/
def rgl (L : List Al) (w : Int) (i : Nat) : List Int := ((L.take i).filter (ring1 w)).map (·.1)
theorem rgl_len (L : List Al) (w : Int) (i : Nat) : (rgl L w i).length ≤ i := by
  unfold rgl; rw [List.length_map]
  have := List.length_filter_le (ring1 w) (L.take i)
  rw [List.length_take] at this; omega
theorem rgl_yes {L : List Al} {w : Int} {i : Nat} {a : Al} (h : L[i]? = some a) (hr : ring1 w a = true) : rgl L w (i + 1) = rgl L w i ++ [a.1] := by
  unfold rgl; rw [takeS h, List.filter_append, List.map_append]; simp [hr]
theorem rgl_no {L : List Al} {w : Int} {i : Nat} {a : Al} (h : L[i]? = some a) (hr : ring1 w a = false) : rgl L w (i + 1) = rgl L w i := by
  unfold rgl; rw [takeS h, List.filter_append, List.map_append]; simp [hr]
theorem rgl_all (L : List Al) (q : Int) : rgl L (q % 10080) L.length = ringsL L q := by unfold rgl ringsL; rw [List.take_length]
theorem ringsL_len (L : List Al) (q : Int) : (ringsL L q).length ≤ L.length := by rw [← rgl_all]; exact rgl_len _ _ _

theorem rings_calls {m : Mem} {D : List Nat} {s : Nat} {L : List Al} (hW : Wk m D s L) {q : Int} {K : KV} (h : ∀ v m', Exa m' 1 v (rowI .i64 (ringsL L q)) → m.Grew m' → (∀ p ∈ v.fp, m.next ≤ p) → K v m') : ACalls Try.prog 10 [.ptr (some (s, 0, 0)), .int .i64 q] m K := by
  have hlen := hW.len
  have hrt := hW.rt
  refine run_on x4 hm c10 (by simp) fun hf => ?_
  simp (disch := omega) [-getElem?_pos, b10]
  refine all_calls hW fun v m1 h1 g1 h2 => ?_
  have hv := h1.sl.lenSl
  rw [List.length_map] at hv
  obtain ⟨n, hn⟩ : ∃ n, L.length = n := ⟨_, rfl⟩
  rw [hn] at hv hlen
  simp (disch := omega) [-getElem?_pos, hv]
  refine exec_loopU (σ := Nat × V × Mem) (fun (i, u, _) => [(5, u), (11, .int .i64 i)]) (fun (_, _, M) => M) (fun (i, u, M) => i ≤ n ∧ Exa M 1 u (rowI .i64 (rgl L (q % 10080) i)) ∧ m1.Grew M ∧ ∀ p ∈ u.fp, m1.next ≤ p) (fun (i, _, _) => n - i) (0, .sl none 0 (some 0), m1) rfl (by dsimp only; exact ⟨by omega, Exa.nil _ _, Mem.Grew.refl _, by simp [V.fp]⟩) (by simp) ?_
  intro (i, u, M) ⟨a1, a2, a3, a4⟩
  by_cases hi : i < n
  case neg =>
    have : i = n := by omega
    subst this
    rw [← hn, rgl_all] at a2
    simp (disch := omega) [-getElem?_pos]
    exact h _ _ a2 (g1.trans a3) fun p hp => by have := a4 p hp; have := g1.next; omega
  obtain ⟨a, ha⟩ : ∃ a, L[i]? = some a := ⟨_, List.getElem?_eq_getElem (by omega)⟩
  have har := hrt a (mem_of_idx ha)
  have el := rgl_len L (q % 10080) i
  obtain ⟨p, x, full, rw, z1, z2, z3, z4, _⟩ := (h1.grow a3).sl.at (al_get ha) .i64
  have hy := fun hr => rgl_yes (w := q % 10080) ha hr
  have hno := fun hr => rgl_no (w := q % 10080) ha hr
  obtain ⟨id, mi, d, y⟩ := a
  unfold rtA at har
  dsimp only at har hy hno
  simp only [al] at z4
  simp (disch := omega) [-getElem?_pos, z1, z3, z4]
  have g2 := Mem.Grew.new M (.row 4 [[.int .i64 id, .int .i64 mi, .int .i64 d, .bool y]] true)
  refine drawT_one ⟨_, _, by simp (disch := omega) [-getElem?_pos, F20, F19, al]; exact ⟨rfl, rfl⟩, ?_⟩
  cases hr : ring1 (q % 10080) (id, mi, d, y) with
  | false =>
    rw [← hno hr] at a2
    simp (disch := omega) [-getElem?_pos, hr]
    exact again_mk (i + 1, u, _) (by dsimp only; exact ⟨by omega, a2.grow (g2.trans (Mem.Grew.new _ _)), a3.trans (g2.trans (Mem.Grew.new _ _)), a4⟩) (by dsimp only; omega) (by simp) rfl
  | true =>
    simp (disch := omega) [-getElem?_pos, hr, eltsOf, Mem.elts]
    have g3 := (g2.trans (Mem.Grew.new _ (.row 4 [[.int .i64 id, .int .i64 mi, .int .i64 d, .bool y]] true))).trans (Mem.Grew.new _ (.row 1 [[.int .i64 id]] true))
    refine (a2.grow g3).app (by rw [rowI_length]; simp; omega) (by rw [rowI_length]; simp; omega) fun u' M' w1 w2 w3 => ?_
    simp (disch := omega)
    have w2' := (Stp.grow g3 u.fp).trans w2
    have e : rowI .i64 (rgl L (q % 10080) i) ++ [[.int .i64 id]] = rowI .i64 (rgl L (q % 10080) (i + 1)) := by rw [hy hr, ← rowI_append]; rfl
    rw [e] at w1
    exact again_mk (i + 1, u', M') (by dsimp only; exact ⟨by omega, w1, w2'.toGrew a3 a4, w2'.ge a3.next a4⟩) (by dsimp only; omega) (by simp) rfl

/-- All that ring in so many minutes from one on. -/
def spanL (L : List Al) (q : Int) : Nat → List Int
  | 0 => []
  | n + 1 => spanL L q n ++ ringsL L (q + n)
theorem spanL_zero (L : List Al) (q : Int) : spanL L q 0 = [] := rfl
theorem spanL_succ (L : List Al) (q : Int) (n : Nat) : spanL L q (n + 1) = spanL L q n ++ ringsL L (q + n) := rfl
attribute [irreducible] spanL
theorem spanL_len (L : List Al) (q : Int) (n : Nat) : (spanL L q n).length ≤ n * L.length := by
  induction n with
  | zero => simp [spanL_zero]
  | succ n ih =>
    simp only [spanL_succ, List.length_append]
    have := ringsL_len L (q + n)
    rw [Nat.succ_mul]; omega
theorem spanL_add (L : List Al) (q : Int) (a b : Nat) : spanL L q a ++ spanL L (q + a) b = spanL L q (a + b) := by
  induction b with
  | zero => simp [spanL_zero]
  | succ b ih =>
    rw [← Nat.add_assoc]
    simp only [spanL_succ]
    rw [← List.append_assoc, ih, Int.add_assoc]
    simp

theorem between_calls {m : Mem} {D : List Nat} {s : Nat} {L : List Al} (hW : Wk m D s L) {q : Int} {N : Nat} (hq : -4611686018427387904 ≤ q) (hq2 : q ≤ 4611686018427387904) (hN : N ≤ 20160) {K : KV} (h : ∀ v m', Exa m' 1 v (rowI .i64 (spanL L q N)) → m.Grew m' → (∀ p ∈ v.fp, m.next ≤ p) → K v m') : ACalls Try.prog 13 [.ptr (some (s, 0, 0)), .int .i64 q, .int .i64 (q + N)] m K := by
  have hlen := hW.len
  refine run_on (ctx_nil _) hm c13 (by simp) fun hf => ?_
  simp (disch := omega) [-getElem?_pos, b13]
  generalize hZ : (20160 : Int) = Z
  refine exec_loopU (σ := Nat × V × Mem) (fun (i, u, _) => [(1, .int .i64 (q + i)), (7, u), (8, .int .i64 i)]) (fun (_, _, M) => M) (fun (i, u, M) => i ≤ N ∧ Exa M 1 u (rowI .i64 (spanL L q i)) ∧ m.Grew M ∧ ∀ p ∈ u.fp, m.next ≤ p) (fun (i, _, _) => N - i) (0, .sl none 0 (some 0), m) rfl (by dsimp only; rw [spanL_zero]; exact ⟨by omega, Exa.nil _ _, Mem.Grew.refl _, by simp [V.fp]⟩) (by simp) ?_
  intro (i, u, M) ⟨a1, a2, a3, a4⟩
  rcases Nat.lt_or_ge i N with hi | hi
  case inr =>
    have hiN : i = N := by omega
    rcases Nat.lt_or_ge i 20160 with h2 | h2
    · rw [hiN] at h2 ⊢
      simp (disch := omega) [-getElem?_pos]
      rw [hiN] at a2
      exact h _ _ a2 a3 a4
    · rw [hiN] at h2 ⊢
      simp (disch := omega) [-getElem?_pos]
      rw [hiN] at a2
      exact h _ _ a2 a3 a4
  simp (disch := omega) [-getElem?_pos]
  refine rings_calls (hW.grow a3) fun v m1 h1 g1 h2 => ?_
  have e1 := h1.ows.sl.elts
  have l1 := spanL_len L q i
  have l2 := ringsL_len L (q + i)
  have l3 : i * L.length ≤ 20160 * 64 := Nat.mul_le_mul (by omega) hlen
  simp (disch := omega) [-getElem?_pos, e1]
  refine (a2.grow g1).app (by rw [rowI_length, rowI_length]; omega) (by rw [rowI_length, rowI_length]; omega) fun u' M' w1 w2 w3 => ?_
  have w2' := (Stp.grow g1 u.fp).trans w2
  rw [rowI_append, ← spanL_succ] at w1
  have eq1 : q + i + 1 = q + ((i + 1 : Nat) : Int) := by omega
  simp (disch := omega) [-getElem?_pos]
  exact again_mk (i + 1, u', M') (by dsimp only; exact ⟨by omega, w1, w2'.toGrew a3 a4, w2'.ge a3.next a4⟩) (by dsimp only; omega) (by simp [eq1] <;> omega) rfl

/-! ### the law's own reckoning -/

/-- The law's minute of the week. -/
theorem lawMin (q : Int) : (if q.tmod 10080 < 0 then q.tmod 10080 + 10080 else q.tmod 10080) = q % 10080 := by
  obtain ⟨h1, h2, h3⟩ := within_eq q
  split <;> omega

/-- Halved so often. -/
theorem halved (d : Int) (n : Nat) : d / (2 : Int) ^ n / 2 = d / (2 : Int) ^ (n + 1) := by
  rw [Int.ediv_ediv_of_nonneg (Int.le_of_lt (Int.pow_pos (by omega))), Int.pow_succ]

/-- A row of alarms is read: which ring at a minute, one by one. -/
theorem lrings_calls {m : Mem} {v : V} {L : List Al} (hv : Sl m 4 v (L.map al)) (hrt : ∀ a ∈ L, rtA a) (hlen : L.length ≤ 64) {q : Int} {K : KV} (h : ∀ u m', Exa m' 1 u (rowI .i64 (ringsL L q)) → m.Grew m' → (∀ p ∈ u.fp, m.next ≤ p) → K u m') : ACalls Try.prog 11 [v, .int .i64 q] m K := by
  refine run_on (ctx_nil _) hm c11 (by simp) fun hf => ?_
  have hv1 := hv.lenSl
  rw [List.length_map] at hv1
  obtain ⟨n, hn⟩ : ∃ n, L.length = n := ⟨_, rfl⟩
  rw [hn] at hv1 hlen
  have lm := lawMin q
  obtain ⟨t1, t2, t3⟩ := within_eq q
  obtain ⟨w, hw⟩ : ∃ w, q % 10080 = w := ⟨_, rfl⟩
  have hw0 : 0 ≤ w := by omega
  have hw1 : w < 10080 := by omega
  rw [hw] at lm
  have hq1 : w.tdiv 1440 = w / 1440 := Int.tdiv_eq_ediv_of_nonneg hw0
  have hq2 : w.tmod 1440 = w % 1440 := Int.tmod_eq_emod_of_nonneg hw0
  obtain ⟨N, hN⟩ : ∃ N : Nat, w / 1440 = N := ⟨(w / 1440).toNat, by omega⟩
  have hN7 : N < 7 := by omega
  have hpre : ringsL L q = rgl L w n := by rw [← hw, ← hn]; exact (rgl_all L q).symm
  rw [hpre] at h
  clear hpre t3
  by_cases hneg : q.tmod 10080 < 0
  case' pos =>
    rw [if_pos hneg] at lm
    simp (disch := omega) [-getElem?_pos, b11, lm, hv1]
  case' neg =>
    rw [if_neg hneg] at lm
    simp (disch := omega) [-getElem?_pos, b11, lm, hv1]
  all_goals
    refine exec_loopU (σ := Nat × V × Mem) (fun (i, u, _) => [(6, u), (18, .int .i64 i)]) (fun (_, _, M) => M) (fun (i, u, M) => i ≤ n ∧ Exa M 1 u (rowI .i64 (rgl L w i)) ∧ m.Grew M ∧ ∀ p ∈ u.fp, m.next ≤ p) (fun (i, _, _) => n - i) (0, .sl none 0 (some 0), m) rfl (by dsimp only; exact ⟨by omega, Exa.nil _ _, Mem.Grew.refl _, by simp [V.fp]⟩) (by simp) ?_
    intro (i, u, M) ⟨a1, a2, a3, a4⟩
    by_cases hi : i < n
    case neg =>
      have : i = n := by omega
      subst this
      simp (disch := omega) [-getElem?_pos]
      exact h _ _ a2 a3 a4
    obtain ⟨a, ha⟩ : ∃ a, L[i]? = some a := ⟨_, List.getElem?_eq_getElem (by omega)⟩
    have har := hrt a (mem_of_idx ha)
    have el := rgl_len L w i
    obtain ⟨p, x, full, rw, z1, z2, z3, z4, _⟩ := (hv.grow a3).at (al_get ha) .i64
    have hy := fun hr => rgl_yes (w := w) ha hr
    have hno := fun hr => rgl_no (w := w) ha hr
    obtain ⟨id, mi, d, y⟩ := a
    unfold rtA at har
    dsimp only at har hy hno
    simp only [al] at z4
    have g2 := Mem.Grew.new M (.row 4 [[.int .i64 id, .int .i64 mi, .int .i64 d, .bool y]] true)
    simp (disch := omega) [-getElem?_pos, z1, z3, z4, hq1, hN]
    refine exec_loopU (σ := Nat) (fun k => [(9, .int .i64 (d / (2 : Int) ^ k)), (26, .int .i64 k)]) (fun _ => M.new (.row 4 [[.int .i64 id, .int .i64 mi, .int .i64 d, .bool y]] true)) (fun k => k ≤ N) (fun k => N - k) 0 rfl (by omega) (by simp) ?_
    intro k hk
    have hp : (0 : Int) < 2 ^ k := Int.pow_pos (by omega)
    have hd0 : 0 ≤ d / 2 ^ k := Int.ediv_nonneg (by omega) (by omega)
    have hd1 : d / 2 ^ k ≤ d := Int.ediv_le_self _ (by omega)
    have hhv := halved d k
    obtain ⟨c, hc⟩ : ∃ c, d / (2 : Int) ^ k = c := ⟨_, rfl⟩
    rw [hc] at hd0 hd1 hhv
    have hct : c.tdiv 2 = c / 2 := Int.tdiv_eq_ediv_of_nonneg hd0
    have hcm : c.tmod 2 = c % 2 := Int.tmod_eq_emod_of_nonneg hd0
    by_cases hkN : k < N
    · simp (disch := omega) [-getElem?_pos, hct, hc]
      exact again_mk (k + 1) (by omega) (by omega) (by simp [← hhv]) rfl
    · have : k = N := by omega
      subst this
      have hr1 : ring1 w (id, mi, d, y) = (!y && (decide (w % 1440 = mi) && decide (c % 2 = 1))) := by
        unfold ring1; dsimp only; rw [hN, Int.toNat_natCast, hc]
      cases hr : ring1 w (id, mi, d, y) with
      | false =>
        rw [← hno hr] at a2
        rw [hr1] at hr
        cases y with
        | true =>
          simp (disch := omega) [-getElem?_pos, hc]
          exact again_mk (i + 1, u, _) (by dsimp only; exact ⟨by omega, a2.grow g2, a3.trans g2, a4⟩) (by dsimp only; omega) (by simp) rfl
        | false =>
          by_cases hc1 : c % 2 = 1
          · have hmi : ¬ w % 1440 = mi := fun e => by simp [e, hc1] at hr
            simp (disch := omega) [-getElem?_pos, hc, hcm, hc1, hq2]
            exact again_mk (i + 1, u, _) (by dsimp only; exact ⟨by omega, a2.grow g2, a3.trans g2, a4⟩) (by dsimp only; omega) (by simp) rfl
          · simp (disch := omega) [-getElem?_pos, hc, hcm]
            exact again_mk (i + 1, u, _) (by dsimp only; exact ⟨by omega, a2.grow g2, a3.trans g2, a4⟩) (by dsimp only; omega) (by simp) rfl
      | true =>
        have hye := hy hr
        rw [hr1] at hr
        simp only [Bool.and_eq_true, Bool.not_eq_true', decide_eq_true_eq] at hr
        obtain ⟨rfl, r2, r3⟩ := hr
        simp (disch := omega) [-getElem?_pos, hc, hcm, hq2, r2, r3, eltsOf, Mem.elts]
        have g3 := g2.trans (Mem.Grew.new _ (.row 1 [[.int .i64 id]] true))
        refine (a2.grow g3).app (by rw [rowI_length]; simp; omega) (by rw [rowI_length]; simp; omega) fun u' M' w1 w2 w3 => ?_
        simp (disch := omega)
        have w2' := (Stp.grow g3 u.fp).trans w2
        have e : rowI .i64 (rgl L w i) ++ [[.int .i64 id]] = rowI .i64 (rgl L w (i + 1)) := by rw [hye, ← rowI_append]; rfl
        rw [e] at w1
        exact again_mk (i + 1, u', M') (by dsimp only; exact ⟨by omega, w1, w2'.toGrew a3 a4, w2'.ge a3.next a4⟩) (by dsimp only; omega) (by simp) rfl

/-- The same numbers. -/
theorem same_calls {m : Mem} {v u : V} {xs ys : List Int} (hv : Sl m 1 v (rowI .i64 xs)) (hu : Sl m 1 u (rowI .i64 ys)) (hl : xs.length ≤ 4611686018427387904) (hl2 : ys.length ≤ 4611686018427387904) {K : KV} (h : K (.bool (decide (xs = ys))) m) : ACalls Try.prog 9 [v, u] m K := by
  refine run_on (ctx_nil _) hm c9 (by simp) fun hf => ?_
  have hv1 := hv.lenSl
  have hu1 := hu.lenSl
  rw [rowI_length] at hv1 hu1
  by_cases hne : xs.length = ys.length
  case neg =>
    rw [decide_eq_false (fun e => hne (by rw [e]))] at h
    simp (disch := omega) [-getElem?_pos, b9, hv1, hu1]
    exact h
  obtain ⟨n, hn⟩ : ∃ n, xs.length = n := ⟨_, rfl⟩
  rw [← hne] at hu1
  rw [hn] at hv1 hu1 hne hl
  simp (disch := omega) [-getElem?_pos, b9, hv1, hu1]
  refine exec_loopU (σ := Nat) (fun i => [(13, .int .i64 i)]) (fun _ => m) (fun i => i ≤ n ∧ xs.take i = ys.take i) (fun i => n - i) 0 rfl ⟨by omega, rfl⟩ (by simp) ?_
  intro i ⟨a1, a2⟩
  by_cases hi : i < n
  case neg =>
    have : i = n := by omega
    subst this
    have e : xs = ys := by
      have e1 : xs.take i = xs := List.take_of_length_le (by omega)
      have e2 : ys.take i = ys := List.take_of_length_le (by omega)
      rw [← e1, ← e2]; exact a2
    rw [decide_eq_true e] at h
    simp (disch := omega) [-getElem?_pos]
    exact h
  obtain ⟨x, hx⟩ : ∃ x, xs[i]? = some x := ⟨_, List.getElem?_eq_getElem (by omega)⟩
  obtain ⟨y, hy⟩ : ∃ y, ys[i]? = some y := ⟨_, List.getElem?_eq_getElem (by omega)⟩
  obtain ⟨p, q, full, rw, z1, z2, z3, z4, _⟩ := hv.at (i := i) (x := [.int .i64 x]) (by rw [rowI_get, hx]; rfl) .i64
  obtain ⟨p', q', full', rw', y1, y2, y3, y4, _⟩ := hu.at (i := i) (x := [.int .i64 y]) (by rw [rowI_get, hy]; rfl) .i64
  by_cases e : x = y
  · subst e
    simp (disch := omega) [-getElem?_pos, z1, z3, z4, y1, y3, y4]
    exact again_mk (i + 1) ⟨by omega, by rw [takeS hx, takeS hy, a2]⟩ (by omega) (by simp) rfl
  · rw [decide_eq_false (fun e2 => e (by rw [e2] at hx; rw [hx] at hy; injection hy))] at h
    simp (disch := omega) [-getElem?_pos, z1, z3, z4, y1, y3, y4, e]
    exact h
end Go.Proofs.Ytkalojiddaeekaa
