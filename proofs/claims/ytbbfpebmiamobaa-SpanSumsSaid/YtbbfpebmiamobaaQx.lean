/-
  SPANFREE, of what the functions of this seat do.
-/
import Derived.Test.YtbbfpebmiamobaaOx
namespace Go.Proofs.Ytbbfpebmiamobaa
open Go Go.AM
set_option linter.unusedVariables false
set_option linter.unusedSimpArgs false
set_option maxRecDepth 60000
set_option maxHeartbeats 4000000

theorem free (m0 : Mem) (x0 x1' x2' : V) (h0 : IsV m0 (.slice 2 (.struct [.int .i64, .int .i64])) x0) (h1 : IsV m0 (.int .i16) x1') (h2 : IsV m0 (.int .u8) x2') : ACalls Try.prog 6 [x0, x1', x2'] m0 (fun r _ => r = .bool true) := by
  obtain ⟨t, rfl, hwt⟩ := h1.int
  obtain ⟨n, rfl, hwn⟩ := h2.int
  have bt : -32768 ≤ t ∧ t ≤ 32767 := wf_i16 hwt
  have bn : 0 ≤ n ∧ n ≤ 255 := wf_u8 hwn
  refine run_on x1 hm c6 (by simp) fun hf => ?_
  obtain ⟨l, ha, hla, _⟩ := h0.slP hf
  have hml : maxLen ≤ 9223372036854775807 := by decide
  simp (disch := omega) [-getElem?_pos, b6, F7]
  refine few8 ha (by omega) (fun m1 g1 => ?_) (fun m1 fa g1 => ?_)
  · simp (disch := omega) [-getElem?_pos]
  have la4 := fa.len
  replace ha := ha.grow g1
  simp (disch := omega) [-getElem?_pos]
  refine of_calls ha (by omega) fun s m2 A sA iA lA g2 hs => ?_
  replace ha := ha.grow g2
  have ea : Inn A = Inn l := funext iA
  simp (disch := omega) [-getElem?_pos]
  refine free_calls hs (by omega) (t := t) (n := n) (by omega) (by omega) fun r m3 hr g3 hr1 hr2 => ?_
  rw [ea] at hr
  obtain ⟨k, hk⟩ : ∃ k, max n 1 = k := ⟨_, rfl⟩
  rw [hk] at hr
  obtain ⟨k1, hk1⟩ := Int.eq_ofNat_of_zero_le (show 0 ≤ k by omega)
  subst hk1
  replace ha := ha.grow g3
  obtain ⟨f1, f2, f3⟩ := hr
  simp (disch := omega) [-getElem?_pos, hk]
  refine exec_loopU (σ := Nat × Mem) (fun (i, _) => [(35, .int .i64 i)]) (fun (_, M) => M) (fun (i, M) => i ≤ k1 ∧ m3.Grew M) (fun (i, _) => k1 - i) (0, m3) rfl
    (by dsimp only; exact ⟨by omega, Mem.Grew.refl m3⟩) (by simp) ?_
  intro (i, M) ⟨a1, a2⟩
  by_cases hi : i < k1
  · have := f2 (r + i) (by omega) (by omega)
    simp (disch := omega) [-getElem?_pos]
    refine in13 (ha.grow a2) (by omega) fun M1 q1 => ?_
    rw [this]
    simp (disch := omega) [-getElem?_pos]
    exact again_mk (i + 1, M1) (by dsimp only; exact ⟨by omega, a2.trans q1⟩) (by dsimp only; omega) (by simp) rfl
  replace ha := ha.grow a2
  clear f2
  simp (disch := omega) [-getElem?_pos]
  refine exec_loopU (σ := Int × Mem) (fun (x, _) => [(11, .int .i64 x)]) (fun (_, M) => M) (fun (x, N) => t ≤ x ∧ x ≤ t + 300 ∧ M.Grew N) (fun (x, _) => (t + 300 - x).toNat) (t, M) rfl
    (by dsimp only; exact ⟨by omega, by omega, Mem.Grew.refl M⟩) (by simp) ?_
  intro (x, M2) ⟨b1, b2, b3⟩
  by_cases h1 : x < r
  · by_cases h2 : x < t + 300
    · have hex := f3 x b1 h1
      clear f3
      simp (disch := omega) [-getElem?_pos]
      refine exec_loopU (σ := Nat × Bool × Mem) (fun (j, f, _) => [(12, .bool f), (59, .int .i64 j)]) (fun (_, _, M) => M) (fun (j, f, N) => j ≤ k1 ∧ M.Grew N ∧ (f = true → ∀ y, x ≤ y → y < x + j → Inn l y = false)) (fun (j, _, _) => k1 - j) (0, true, M2) rfl
        (by dsimp only; exact ⟨by omega, b3, fun _ y q1 q2 => absurd q2 (by omega)⟩) (by simp) ?_
      intro (j, f, M3) ⟨c1, c2, c3⟩
      by_cases hj : j < k1
      · cases f with
        | false =>
          simp (disch := omega) [-getElem?_pos]
          exact again_mk (j + 1, false, M3) (by dsimp only; exact ⟨by omega, c2, fun h => by cases h⟩) (by dsimp only; omega) (by simp) rfl
        | true =>
          simp (disch := omega) [-getElem?_pos]
          refine in13 (ha.grow c2) (by omega) fun M4 q4 => ?_
          obtain ⟨b, hb⟩ : ∃ b, Inn l (x + j) = b := ⟨_, rfl⟩
          rw [hb]
          simp (disch := omega) [-getElem?_pos]
          exact again_mk (j + 1, !b, M4) (by
            dsimp only
            refine ⟨by omega, c2.trans q4, fun h y q1 q2 => ?_⟩
            rcases Int.lt_or_le y (x + j) with w | w
            · exact c3 rfl y q1 w
            · have : y = x + j := by omega
              rw [this, hb]; simpa using h) (by dsimp only; omega) (by simp) rfl
      · have : f = false := by
          cases f with
          | false => rfl
          | true =>
            obtain ⟨y, q1, q2, q3⟩ := hex
            have := c3 rfl y q1 (by omega)
            rw [q3] at this; cases this
        subst this
        clear hex c3
        simp (disch := omega) [-getElem?_pos]
        exact again_mk (x + 1, M3) (by dsimp only; exact ⟨by omega, by omega, c2⟩) (by dsimp only; omega) (by simp) rfl
    · simp (disch := omega) [-getElem?_pos]
  · simp (disch := omega) [-getElem?_pos]
end Go.Proofs.Ytbbfpebmiamobaa
