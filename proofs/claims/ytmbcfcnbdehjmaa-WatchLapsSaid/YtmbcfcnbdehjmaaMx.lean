/-
  WATCHLAPS, of what the functions of this seat do.
-/
import Derived.Test.YtmbcfcnbdehjmaaLx
namespace Go.Proofs.Ytmbcfcnbdehjmaa
open Go Go.AM
set_option linter.unusedVariables false
set_option linter.unusedSimpArgs false
set_option maxRecDepth 8000
set_option maxHeartbeats 4000000

/-- The laps behind i of them. -/
def lapsOf (i : Nat) : List Int := ((List.range i).map fun (j : Nat) => (j : Int)).drop (i - 1000)
theorem lapsOf_length (i : Nat) : (lapsOf i).length = min i 1000 := by simp [lapsOf]; omega
theorem lapsOf_get {i j : Nat} (h : j < min i 1000) : (lapsOf i)[j]? = some (((i - 1000 + j : Nat) : Int)) := by
  simp only [lapsOf, List.getElem?_drop, List.getElem?_map, List.getElem?_range (show i - 1000 + j < i by omega)]; rfl
theorem lapsOf_succ (i : Nat) : (lapsOf i ++ [(i : Int)]).drop ((lapsOf i).length + 1 - 1000) = lapsOf (i + 1) := by
  apply List.ext_getElem?
  intro j
  rw [List.getElem?_drop, lapsOf_length]
  by_cases hj : j < min (i + 1) 1000
  · rw [lapsOf_get hj]
    by_cases h1 : min i 1000 + 1 - 1000 + j < min i 1000
    · rw [List.getElem?_append_left (by rw [lapsOf_length]; exact h1), lapsOf_get h1]; congr 2; omega
    · rw [List.getElem?_append_right (by rw [lapsOf_length]; omega), lapsOf_length]
      have : min i 1000 + 1 - 1000 + j - min i 1000 = 0 := by omega
      rw [this]; simp; omega
  · rw [List.getElem?_eq_none (by simp [lapsOf_length]; omega), List.getElem?_eq_none (by rw [lapsOf_length]; omega)]

theorem laps (m0 : Mem) (x0 : V) (h0 : IsV m0 (.int .u8) x0) : ACalls Try.prog 4 [x0] m0 (fun r _ => r = .bool true) := by
  obtain ⟨mo, rfl, w0⟩ := h0.int
  replace w0 := wf_u8 w0
  refine run_on x4 hm c4 (by simp) fun hf => ?_
  simp (disch := omega) [b4, F6]
  refine new_calls fun r m1 hW hr hg => ?_
  simp (disch := omega)
  refine start_calls hW (fun h => by cases h) fun _ m2 hW2 hS2 => ?_
  have e0 : Wt.reach Wt.new 0 = ⟨0, 0, 0, [], false⟩ := by
    simp only [Wt.reach, Wt.new]
    rw [reachT_near (by omega) (by omega) (by omega) (fun h => by cases h) (by omega) (by omega) (by omega)]
    rfl
  rw [e0] at hW2
  obtain ⟨n, hn⟩ : ∃ n : Nat, 900 + mo = n := ⟨(900 + mo).toNat, by omega⟩
  simp (disch := omega)
  rw [hn]
  refine exec_loopU (σ := Nat × Int × List Nat × Mem) (fun (i, now, _, _) => [(5, .int .i64 now), (19, .int .i64 i)]) (fun (_, _, _, M) => M)
    (fun (i, now, D, M) => i ≤ n ∧ 0 ≤ now ∧ now ≤ i * 2000 ∧ Watch M D r ⟨now, now, now, lapsOf i, true⟩) (fun (i, _) => n - i) (0, 0, [r], m2) rfl ⟨by omega, by omega, by simp, hW2⟩ (by simp) ?_
  intro (i, now, D, M) ⟨a1, a2, a3, a4⟩
  by_cases hi : i < n
  · have e1 : Wt.reach ⟨now, now, now, lapsOf i, true⟩ (now + i) = ⟨now + i, now + i, now, lapsOf i, true⟩ := by
      simp only [Wt.reach]
      rw [reachT_near (by omega) (by omega) (by omega) (fun h => by omega) (by omega) (by omega) (by omega)]
      have : max now (now + i) = now + i := by omega
      simp [this]; omega
    simp (disch := omega)
    refine lap_calls a4 (by rw [lapsOf_length]; omega) (by rw [e1]; dsimp only; omega) (fun h => by cases h) fun _ M2 D2 q1 q2 => ?_
    rw [e1] at q1
    have e2 : now + (i : Int) - now = i := by omega
    dsimp only at q1
    rw [e2, lapsOf_succ] at q1
    simp (disch := omega)
    exact again_mk (i + 1, now + i, D2, M2) (by dsimp only; exact ⟨by omega, by omega, by omega, q1⟩) (by dsimp only; omega) (by simp) rfl
  · have hin : i = n := by omega
    subst hin
    have hll := lapsOf_length i
    simp (disch := omega)
    refine laps_calls a4 (by rw [lapsOf_length]; omega) fun lv M3 g1 g2 g3 => ?_
    have g4 := g1.sl.lenSl
    rw [rowI_length] at g4
    dsimp only at g4
    rw [hll] at g4
    simp (disch := omega)
    refine best_calls (a4.grow g2) (by dsimp only; rw [hll]; omega) ?_
    have hne : (lapsOf i).isEmpty = false := by
      cases h : lapsOf i with
      | nil => rw [h] at hll; simp at hll; omega
      | cons x l => rfl
    have hle : leastI (lapsOf i) = ((i - 1000 : Nat) : Int) := by
      have h0 := lapsOf_get (i := i) (j := 0) (by omega)
      cases h : lapsOf i with
      | nil => rw [h] at hll; simp at hll; omega
      | cons x l =>
        rw [h] at h0
        simp at h0
        obtain ⟨p1, p2, p3⟩ := foldl_min l x
        simp only [leastI]
        rcases p3 with p3 | p3
        · rw [p3, h0]
        · obtain ⟨j, hj⟩ := List.mem_iff_getElem?.1 p3
          have hj2 : j + 1 < min i 1000 := by
            have := (List.getElem?_eq_some_iff.1 hj).1
            rw [h] at hll; simp at hll; omega
          have := lapsOf_get hj2
          rw [h, List.getElem?_cons_succ, hj] at this
          injection this with this
          omega
    rw [hne, hle]
    obtain ⟨kk, hkk⟩ : ∃ kk, min i 1000 = kk + 1 := ⟨min i 1000 - 1, by omega⟩
    rw [hkk] at g4
    obtain ⟨p, q, full, rw, u1, u2, u3, u4, u5⟩ := g1.sl.at (i := kk) (x := [.int .i64 ((i : Int) - 1)]) (by rw [rowI_get, lapsOf_get (by omega)]; simp; omega) .i64
    clear hW hW2 hS2 hg hf hle hne a4 g1
    simp (disch := omega) [-getElem?_pos, g4, u1, u3, u4]

end Go.Proofs.Ytmbcfcnbdehjmaa
