/-
  STAMPSEEKS, of what the functions of this seat do.
-/
import Derived.Test.YtdjofnipknioiaaKx
namespace Go.Proofs.Ytdjofnipknioiaa
open Go Go.AM
set_option linter.unusedVariables false
set_option linter.unusedSimpArgs false
set_option maxRecDepth 8000
set_option maxHeartbeats 4000000

/-- slices.BinarySearch of whole numbers. -/
theorem bsearch_calls {m : Mem} {v : V} {l : List Int} {t : Int} (hv : Sl m 1 v (rowI .i64 l)) (hs : Srt l) (hl : l.length ≤ 1000000) {K : KV}
    (h : ∀ (p : Nat) (b : Bool), p ≤ l.length → (∀ j, j < p → nth l j < t) → (p < l.length → t ≤ nth l p) → K (.tup [.int .i64 p, .bool b]) m) : ACalls Try.prog 22 [v, .int .i64 t] m K := by
  obtain ⟨N, hN, hv1⟩ := len1 hv
  refine run_on x1 hm c22 (by simp) fun hf => ?_
  simp (disch := omega) [b22, hv1]
  refine exec_loopU (σ := Nat × Nat) (fun (lo, hi) => [(7, .int .i64 lo), (8, .int .i64 hi)]) (fun _ => m) (fun (lo, hi) => lo ≤ hi ∧ hi ≤ N ∧ (∀ j, j < lo → nth l j < t) ∧ (hi < N → t ≤ nth l hi)) (fun (lo, hi) => hi - lo) (0, N) rfl
    ⟨by omega, by omega, fun j hj => by omega, fun h => by omega⟩ (by simp) ?_
  intro (lo, hi) ⟨a1, a2, a3, a4⟩
  by_cases hlt : lo < hi
  · obtain ⟨md, hmd⟩ : ∃ md, (lo + hi) / 2 = md := ⟨_, rfl⟩
    have e1 : Int.fdiv ((lo : Int) + hi) 2 = (md : Int) := by
      rw [Int.fdiv_eq_ediv_of_nonneg _ (by omega)]; omega
    obtain ⟨p, q, full, rw, z1, z2, z3, z4⟩ := at1 hv (y := md) (by omega)
    by_cases hc : nth l md < t
    · have hall : ∀ j, j < md + 1 → nth l j < t := fun j hj => by
        have := hs.mono (md - j) j (by omega)
        rw [show j + (md - j) = md by omega] at this; omega
      clear a3
      simp (disch := omega) [-getElem?_pos, z1, z3, z4, F25, e1]
      exact again_mk (md + 1, hi) (by dsimp only; exact ⟨by omega, a2, hall, a4⟩) (by dsimp only; omega) (by simp) rfl
    · simp (disch := omega) [-getElem?_pos, z1, z3, z4, F25, e1]
      exact again_mk (lo, md) (by dsimp only; exact ⟨by omega, by omega, a3, fun _ => by omega⟩) (by dsimp only; omega) (by simp) rfl
  · have : hi = lo := by omega
    subst this
    replace h := fun b => h hi b (by omega) a3 (by rw [hN]; exact a4)
    clear a3
    by_cases hl2 : hi < N
    · have a5 := a4 hl2
      obtain ⟨p, q, full, rw, z1, z2, z3, z4⟩ := at1 hv (y := hi) (by omega)
      clear a4
      by_cases he : nth l hi = t
      · simp (disch := omega) [-getElem?_pos, z1, z3, z4, he]
        exact h true
      · simp (disch := omega) [-getElem?_pos, z1, z3, z4, he, F26]
        exact h false
    · clear a4
      simp (disch := omega)
      exact h false

theorem seeks (m0 : Mem) (x0' x1' : V) (h0 : IsV m0 (.slice 1 (.int .i64)) x0') (h1 : IsV m0 (.int .i64) x1') : ACalls Try.prog 5 [x0', x1'] m0 (fun r _ => r = .bool true) := by
  obtain ⟨t, rfl, _⟩ := h1.int
  refine run_on x8 hm c5 (by simp) fun hf => ?_
  obtain ⟨l, hv, hml, hwf⟩ := h0.slI hf
  obtain ⟨N, hN, hv1⟩ := len1 hv
  by_cases hl : (200 : Int) < N
  · simp (disch := omega) [b5, F8, hv1]
  simp (disch := omega) [b5, F8, hv1]
  refine right_calls hv (by omega) ?_
  by_cases hr : Rt l
  case neg =>
    rw [decide_eq_false hr]
    simp (disch := omega)
  rw [decide_eq_true hr]
  simp (disch := omega)
  refine bytes_calls hv hr (by omega) fun v1 m1 q1 q2 q3 => ?_
  have hbr := bytes_rng hr (by omega)
  have hbl := bytes_len hr (by omega)
  have hrp := read_bytes hr (by omega) []
  rw [List.append_nil, if_pos rfl] at hrp
  simp (disch := omega)
  have seek : ∀ K : KV, (∀ (p : Nat) m2, m1.Grew m2 → (∀ j, j < p → nth l j < t) → (p < N → t ≤ nth l p) → p ≤ N → K (if p = N then .tup [.int .i64 0, .bool false] else .tup [.int .i64 p, .bool true]) m2) → ACalls Try.prog 15 [v1, .int .i64 t] m1 K := by
    intro K k
    refine run_on (ctx_nil _) hm c15 (by simp) fun hf => ?_
    simp (disch := omega) [b15]
    refine read_calls q1.ows.sl hbr (by omega) (fun l' h1 v2 m2 w1 w2 w3 => ?_) (fun h1 => by rw [hrp] at h1; cases h1)
    rw [hrp] at h1
    injection h1 with h1
    subst h1
    simp (disch := omega)
    refine bsearch_calls w1.sl ((rt_iff _).1 hr).1 (by omega) fun p b g1 g2 g3 => ?_
    have hl2 := w1.sl.lenSl
    rw [rowI_length, hN] at hl2
    replace k := k p m2 w2 g2 (by rw [← hN]; exact g3) (by omega)
    clear g2 g3
    by_cases hp : p = N
    · rw [if_pos hp] at k
      simp (disch := omega) [hl2, hp]
      exact k
    · rw [if_neg hp] at k
      simp (disch := omega) [hl2]
      exact k
  refine seek _ fun p m2 g1 g2 g3 g4 => ?_
  by_cases hp : p = N
  · rw [if_pos hp]
    simp (disch := omega) [hv1]
    refine exec_loopU (σ := Nat) (fun i => [(28, .int .i64 i)]) (fun _ => m2) (fun i => i ≤ N) (fun i => N - i) 0 rfl (by omega) (by simp) ?_
    intro i hi
    by_cases hi2 : i < N
    · obtain ⟨p', q, full, rw, z1, z2, z3, z4⟩ := at1 (hv.grow (q2.trans g1)) (y := i) (by omega)
      have := g2 i (by omega)
      simp (disch := omega) [-getElem?_pos, z1, z3, z4]
      exact again_mk (i + 1) (by omega) (by omega) (by simp) rfl
    · simp (disch := omega)
  · rw [if_neg hp]
    have g5 := g3 (by omega)
    simp (disch := omega) [hv1]
    refine exec_loopU (σ := Nat) (fun i => [(28, .int .i64 i)]) (fun _ => m2) (fun i => i ≤ p) (fun i => N - i) 0 rfl (by omega) (by simp) ?_
    intro i hi
    obtain ⟨p', q, full, rw, z1, z2, z3, z4⟩ := at1 (hv.grow (q2.trans g1)) (y := i) (by omega)
    by_cases hi2 : i < p
    · have := g2 i (by omega)
      simp (disch := omega) [-getElem?_pos, z1, z3, z4]
      exact again_mk (i + 1) (by omega) (by omega) (by simp) rfl
    · have : i = p := by omega
      subst this
      simp (disch := omega) [-getElem?_pos, z1, z3, z4]

end Go.Proofs.Ytdjofnipknioiaa
