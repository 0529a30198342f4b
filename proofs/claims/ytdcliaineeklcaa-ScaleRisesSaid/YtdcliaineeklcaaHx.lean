/-
  CYCLES OF NANOSECONDS, in plain words.
-/
import Derived.Test.YtdcliaineeklcaaGx
namespace Go.Proofs.Ytdcliaineeklcaa
open Go Go.AM
set_option linter.unusedVariables false
set_option linter.unusedSimpArgs false
set_option maxRecDepth 60000
set_option maxHeartbeats 4000000

/-- What nanoseconds come to. -/
structure IsC (f s n c : Int) : Prop where
  no : ¬ okR f s → c = 0
  lo : 0 ≤ c
  hi : c ≤ 4611686018427387903
  be : okR f s → ∀ j, 0 ≤ j → j < c → nanI f s j < clN n
  at' : okR f s → c = 4611686018427387903 ∨ clN n ≤ nanI f s c

theorem cycles_calls {m : Mem} {f s n : Int} {K : KV} (h : ∀ c m', IsC f s n c → m.Grew m' → K (.int .i64 c) m') : ACalls Try.prog 11 [.agg [.int .i64 f, .int .i64 s], .int .i64 n] m K := by
  refine run_on x1 hm c11 (by simp) fun hf => ?_
  have gB := Mem.Grew.new m (.row 2 [[.int .i64 f, .int .i64 s]] true)
  have oB : (m.new (.row 2 [[.int .i64 f, .int .i64 s]] true)).obj m.next = some (.row 2 [[.int .i64 f, .int .i64 s]] true) := by simp
  have bB : m.next < (m.new (.row 2 [[.int .i64 f, .int .i64 s]] true)).next := by simp
  simp (disch := omega) [-getElem?_pos, b11]
  generalize m.new (.row 2 [[.int .i64 f, .int .i64 s]] true) = m1 at *
  refine right9 fun m2 g2 => ?_
  have o2 := g2.obj m.next bB
  rw [oB] at o2
  have g := gB.trans g2
  by_cases hok : okR f s
  case neg =>
    rw [decide_eq_false hok]
    simp (disch := omega) [-getElem?_pos]
    exact h _ _ ⟨fun _ => rfl, by omega, by omega, fun h => absurd h hok, fun h => absurd h hok⟩ g
  rw [decide_eq_true hok]
  have hb2 : m.next < m2.next := by have := g2.next; omega
  have hc := clN_rng n
  obtain ⟨W, hW⟩ : ∃ W, clN n = W := ⟨_, rfl⟩
  rw [hW] at hc
  simp (disch := omega) [-getElem?_pos, F17, hW]
  refine exec_loopU (σ := Nat × Nat × Mem) (fun (lo, hi, _) => [(6, .int .i64 lo), (7, .int .i64 hi)]) (fun (_, _, M) => M) (fun (lo, hi, M) => lo ≤ hi ∧ hi ≤ 4611686018427387903 ∧ (∀ j, 0 ≤ j → j < (lo : Int) → nanI f s j < W) ∧ (hi = 4611686018427387903 ∨ W ≤ nanI f s hi) ∧ m2.Grew M) (fun (lo, hi, _) => hi - lo) (0, 4611686018427387903, m2) rfl
    (by dsimp only; exact ⟨by omega, by omega, fun j h1 h2 => absurd h2 (by omega), .inl rfl, Mem.Grew.refl m2⟩) (by simp) ?_
  intro (lo, hi, M) ⟨a1, a2, a3, a4, a5⟩
  have oM : M.obj m.next = some (.row 2 [[.int .i64 f, .int .i64 s]] true) := by rw [a5.obj m.next hb2]; exact o2
  by_cases hl : lo < hi
  · obtain ⟨d, hd⟩ : ∃ d, (hi - lo) / 2 = d := ⟨_, rfl⟩
    have emid : ((hi : Int) - (lo : Int)).tdiv 2 = (d : Int) := by rw [Int.tdiv_eq_ediv_of_nonneg (by omega)]; omega
    simp (disch := omega) [-getElem?_pos, emid, oM]
    refine nanos_calls fun m3 g3 => ?_
    have hr := nanI_rng f s (lo + d)
    by_cases hv : W ≤ nanI f s (lo + d)
    · simp (disch := omega) [-getElem?_pos]
      exact again_mk (lo, lo + d, m3) (by dsimp only; exact ⟨by omega, by omega, a3, .inr (by push_cast; exact hv), a5.trans g3⟩) (by dsimp only; omega) (by simp) rfl
    · simp (disch := omega) [-getElem?_pos]
      exact again_mk (lo + d + 1, hi, m3) (by dsimp only; exact ⟨by omega, by omega, fun j h1 h2 => by
        have := nanI_mono (f := f) (s := s) (a := j) (b := lo + d) (by omega)
        omega, a4, a5.trans g3⟩) (by dsimp only; omega) (by simp) rfl
  · have : lo = hi := by omega
    subst this
    simp (disch := omega) [-getElem?_pos]
    exact h _ _ ⟨fun h => absurd hok h, by omega, by omega, fun _ j h1 h2 => by rw [hW]; exact a3 j h1 h2, fun _ => by rw [hW]; omega⟩ (g.trans a5)

theorem IsC.mono {f s a b x y : Int} (hx : IsC f s a x) (hy : IsC f s b y) (h : a ≤ b) : x ≤ y := by
  by_cases hok : okR f s
  · rcases Int.lt_or_le y x with q | q
    · have h1 := hx.be hok y hy.lo q
      have h2 := hy.at' hok
      have h3 := hx.hi
      have h4 : clN a ≤ clN b := by unfold clN; omega
      omega
    · exact q
  · rw [hx.no hok, hy.no hok]; omega
theorem IsC.zero {f s x : Int} (hx : IsC f s 0 x) : x = 0 := by
  by_cases hok : okR f s
  · rcases Int.lt_or_le 0 x with q | q
    · have h1 := hx.be hok 0 (by omega) q
      have := nanI_rng f s 0
      have e : clN 0 = 0 := rfl
      omega
    · have := hx.lo; omega
  · exact hx.no hok
end Go.Proofs.Ytdcliaineeklcaa
