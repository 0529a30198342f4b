/-
  DIGITS HALVED, and the document's Nanos.
-/
import Derived.Test.YtdcliaineeklcaaJx
namespace Go.Proofs.Ytdcliaineeklcaa
open Go Go.AM
set_option linter.unusedVariables false
set_option linter.unusedSimpArgs false
set_option maxRecDepth 60000
set_option maxHeartbeats 4000000

theorem half_calls {m : Mem} {v : V} {D : List Nat} (hv : Sl m 1 v (rowN D)) (hD : Dig D 9) {K : KV} (h : ∀ v' D' m', Dig D' 9 → valL D' = valL D / 2 → m.Grew m' → Sl m' 1 v' (rowN D') → K v' m') : ACalls Try.prog 19 [v] m K := by
  refine run_on (ctx_nil _) hm c19 (by simp) fun hf => ?_
  have l9 := hD.1
  have ln := rowN_length D
  have g0 := Mem.Grew.new m (.row 1 [] true)
  have x0 : Exa (m.new (.row 1 [] true)) 1 (.sl (some (m.next, 0, 1)) 0 (some 0)) [] := Exa.lit rfl
  have hv0 := (hv.grow g0).elts
  simp (disch := omega) [-getElem?_pos, b19, hv0]
  refine x0.app (by simp [ln, l9]) (by simp [ln, l9]) fun v1 m1 hx hs _ => ?_
  have g1 : m.Grew m1 := hs.toGrew g0 (by simp [V.fp])
  simp only [List.nil_append] at hx
  obtain ⟨q, c, rfl, hq1, hq2, hq3⟩ : ∃ q c, v1 = .sl (some (q, 0, 1)) 9 c ∧ m.next ≤ q ∧ q < m1.next ∧ m1.obj q = some (.row 1 (rowN D) true) := by
    rcases hx.ex with ⟨_, e⟩ | ⟨q, c, rfl, h1, h2, h3⟩
    · have := congrArg List.length e; rw [ln, l9] at this; cases this
    · refine ⟨q, c, by rw [ln, l9], ?_, h1, h2⟩
      rcases hs.fp q (by simp [V.fp]) with z | z
      · simp [V.fp] at z; omega
      · simp at z; omega
  clear hx hs hv0 x0
  simp (disch := omega) [-getElem?_pos]
  refine exec_loopU (σ := Nat × List Nat × Mem) (fun (i, _, _) => [(11, .int .i64 i)]) (fun (_, _, M) => M) (fun (i, L, M) => i ≤ 9 ∧ Hf D L i ∧ M.obj q = some (.row 1 (rowN L) true) ∧ m.Grew M ∧ q < M.next) (fun (i, _, _) => 9 - i) (0, D, m1) rfl
    (by dsimp only; exact ⟨by omega, Hf.zero hD, hq3, g1, hq2⟩) (by simp) ?_
  intro (i, L, M) ⟨a1, a2, a3, a4, a5⟩
  have L9 := a2.dig.1
  have Ln := rowN_length L
  by_cases hi : i < 9
  · have e1 := rowN_get (D := L) (i := i) (by omega)
    rw [a2.same i (Nat.le_refl _)] at e1
    have bx := hD.2.1 i
    have down0 := a2.down0 l9 hi
    have down1 := a2.down1 l9 hi
    have small := a2.small
    obtain ⟨x, hx⟩ : ∃ x, dg D i = x := ⟨_, rfl⟩
    rw [hx] at e1 bx down0 down1
    have er : (x : Int).tmod 2 = ((x % 2 : Nat) : Int) := rfl
    have eq : (x : Int).tdiv 2 = ((x / 2 : Nat) : Int) := rfl
    obtain ⟨y, hy⟩ : ∃ y, x / 2 = y := ⟨_, rfl⟩
    obtain ⟨r, hr⟩ : ∃ r, x % 2 = r := ⟨_, rfl⟩
    rw [hy] at eq down0 down1
    rw [hr] at er down0 down1
    have s1 := rowN_set L i y
    by_cases h1 : 0 < i ∧ r = 1
    · obtain ⟨h1, h2⟩ := h1
      subst h2
      have e2 := rowN_get (D := L.set i y) (i := i - 1) (by simp; omega)
      rw [dg_set (by omega), if_neg (by omega)] at e2
      replace down1 := down1 h1 rfl
      replace small := small h1
      obtain ⟨w, hw⟩ : ∃ w, dg L (i - 1) = w := ⟨_, rfl⟩
      rw [hw] at e2 down1 small
      obtain ⟨w2, hw2⟩ : ∃ w2, w + 32768 = w2 := ⟨_, rfl⟩
      rw [hw2] at down1
      have s2 := rowN_set (L.set i y) (i - 1) w2
      have L2 := rowN_length (L.set i y)
      have L3 : (L.set i y).length = 9 := by simp [L9]
      have ei : ((i : Int) - 1).toNat = i - 1 := by omega
      have ew : (w : Int) + 32768 = (w2 : Int) := by omega
      simp (disch := omega) [-getElem?_pos, a3, e1, Ln, er, eq, s1, e2, ei, L2, L3, ew, s2]
      refine again_mk (i + 1, (L.set i y).set (i - 1) w2, _) (by
        dsimp only
        exact ⟨by omega, down1, by simp, a4.upd (r := q) hq1 (some (.row 1 (rowN ((L.set i y).set (i - 1) w2)) true)), by simpa using a5⟩) (by dsimp only; omega) (by simp) rfl
    · replace down0 := down0 (by omega)
      by_cases h0 : 0 < i
      · have hr1 : r ≠ 1 := fun h => h1 ⟨h0, h⟩
        simp (disch := omega) [-getElem?_pos, a3, e1, Ln, er, eq, s1]
        refine again_mk (i + 1, L.set i y, _) (by
          dsimp only
          exact ⟨by omega, down0, by simp, a4.upd (by omega) _, by simpa using a5⟩) (by dsimp only; omega) (by simp) rfl
      · simp (disch := omega) [-getElem?_pos, a3, e1, Ln, er, eq, s1]
        refine again_mk (i + 1, L.set i y, _) (by
          dsimp only
          exact ⟨by omega, down0, by simp, a4.upd (by omega) _, by simpa using a5⟩) (by dsimp only; omega) (by simp) rfl
  · have : i = 9 := by omega
    subst this
    have hdone := a2.done l9
    simp (disch := omega) [-getElem?_pos]
    refine h _ L _ a2.dig hdone a4 ?_
    exact Sl.mk ⟨_, c, by rw [Ln, L9], fun _ => ⟨q, 0, _, true, rfl, a5, a3, by omega, fun j _ => by rw [Nat.zero_add]⟩⟩

/-- The upper part, digit by digit. -/
theorem up_zero {D : List Nat} (h : D.length = 9) : rs D 9 = 0 := by rw [← h]; exact rs_len

theorem val_drop : ∀ (D : List Nat) (j : Nat), valL (D.drop j) ≤ valL D
  | [], j => by simp
  | d :: D, 0 => by simp
  | d :: D, j + 1 => by
    have := val_drop D j
    simp only [List.drop_succ_cons, valL]; omega
theorem rs_le (D : List Nat) (j : Nat) : rs D j ≤ valL D := val_drop D j

theorem refNanos_calls {m : Mem} {f s n : Int} (hok : okR f s) {K : KV} (h : ∀ m', m.Grew m' → K (.int .i64 (nanI f s n)) m') : ACalls Try.prog 12 [.int .i64 f, .int .i64 s, .int .i64 n] m K := by
  obtain ⟨k1, k2, k3, k4⟩ := hok
  obtain ⟨F, rfl⟩ := Int.eq_ofNat_of_zero_le (show 0 ≤ f by omega)
  obtain ⟨S, rfl⟩ := Int.eq_ofNat_of_zero_le k3
  have hc := clN_rng n
  obtain ⟨C, hC⟩ := Int.eq_ofNat_of_zero_le hc.1
  have e1 := nanI_ok (f := F) (s := S) (n := n) (c := C) ⟨k1, k2, k3, k4⟩ hC
  rw [e1] at h
  rw [hC] at hc
  unfold nanN at h
  refine run_on (ctx_nil _) hm c12 (by simp) fun hf => ?_
  have hC' : min (max n 0) 4611686018427387903 = (C : Int) := hC
  simp (disch := omega) [-getElem?_pos, b12, hC']
  refine product_calls (by omega) (by omega) fun v D m1 d1 d2 g1 hv => ?_
  obtain ⟨V0, hV0⟩ : ∃ V0, C * F = V0 := ⟨_, rfl⟩
  rw [Nat.mul_comm, hV0] at d2
  rw [hV0] at h
  simp (disch := omega) [-getElem?_pos]
  refine exec_loopU (σ := Nat × V × List Nat × Mem) (fun (i, v, _, _) => [(7, v), (8, .int .i64 i)]) (fun (_, _, _, M) => M) (fun (i, v, L, M) => i ≤ S ∧ Dig L 9 ∧ valL L = V0 / 2 ^ i ∧ m.Grew M ∧ Sl M 1 v (rowN L)) (fun (i, _, _, _) => S - i) (0, v, D, m1) rfl
    (by dsimp only; exact ⟨by omega, d1, by rw [d2]; simp, g1, hv⟩) (by simp) ?_
  clear d1 d2 g1 hv
  intro (i, v, L, M) ⟨a1, a2, a3, a4, a5⟩
  by_cases hi : i < S
  · simp (disch := omega) [-getElem?_pos]
    refine half_calls a5 a2 fun v' L' M' b1 b2 b3 b4 => ?_
    simp (disch := omega) [-getElem?_pos]
    exact again_mk (i + 1, v', L', M') (by dsimp only; exact ⟨by omega, b1, by rw [b2, a3, Nat.pow_succ, Nat.div_div_eq_div_mul], a4.trans b3, b4⟩) (by dsimp only; omega) (by simp) rfl
  have : i = S := by omega
  subst this
  rw [← a3] at h
  clear a3
  simp (disch := omega) [-getElem?_pos]
  have r0 := rs_zero L
  refine exec_loopU (σ := Nat) (fun k => [(9, .int .i64 (rs L k)), (10, .int .i64 ((k : Int) - 1))]) (fun _ => M) (fun k => k ≤ 9 ∧ rs L k < 4611686018427387904) (fun k => k) 9 rfl
    (by exact ⟨by omega, by rw [up_zero a2.1]; omega⟩) (by simp [up_zero a2.1]) ?_
  intro k ⟨b1, b2⟩
  rcases Nat.eq_zero_or_pos k with z | z
  · subst z
    rw [r0] at b2
    have em : ((min (valL L) 4611686018427387903 : Nat) : Int) = (valL L : Int) := by omega
    rw [em] at h
    have em2 : min (valL L : Int) 4611686018427387903 = (valL L : Int) := by omega
    simp (disch := omega) [-getElem?_pos, r0, em2]
    exact h _ a4
  obtain ⟨j, rfl⟩ : ∃ j, k = j + 1 := ⟨k - 1, by omega⟩
  have r1 := rs_succ (D := L) (i := j) (by have := a2.1; omega)
  have r2 := rs_le L j
  have bd := a2.2.1 j
  have gd := rowN_get (D := L) (i := j) (by have := a2.1; omega)
  obtain ⟨p, q, full, rw', z1, z2, z3, z4, _⟩ := a5.at gd .i64
  have top : 70368744177664 ≤ rs L (j + 1) → j < 8 := fun h => by
    rcases Nat.lt_or_ge j 8 with q | q
    · exact q
    · have : j = 8 := by omega
      subst this
      rw [show 8 + 1 = 9 from rfl, up_zero a2.1] at h; omega
  clear z2
  obtain ⟨N, hN⟩ : ∃ N, rs L (j + 1) = N := ⟨_, rfl⟩
  obtain ⟨d, hd⟩ : ∃ d, dg L j = d := ⟨_, rfl⟩
  rw [hN] at r1 top b2 
  rw [hd] at r1 gd bd z4
  obtain ⟨N2, hN2⟩ : ∃ N2, rs L j = N2 := ⟨_, rfl⟩
  rw [hN2] at r1 r2
  by_cases hbig : 70368744177664 ≤ N
  · have := top hbig
    have em : ((min (valL L) 4611686018427387903 : Nat) : Int) = 4611686018427387903 := by omega
    rw [em] at h
    by_cases hd0 : 0 < d
    · simp (disch := omega) [-getElem?_pos, hN, z1, z3, z4, gd]
      exact h _ a4
    · simp (disch := omega) [-getElem?_pos, hN, z1, z3, z4]
      exact h _ a4
  · have eN : (N : Int) * 65536 + (d : Int) = (N2 : Int) := by omega
    simp (disch := omega) [-getElem?_pos, hN, z1, z3, z4, eN]
    exact again_mk j (by exact ⟨by omega, by omega⟩) (by omega) (by simp [hN2]) rfl
end Go.Proofs.Ytdcliaineeklcaa
