/-
  ROWS of items: in order or not; all of them as one.
-/
import Derived.Test.YthkopgcdghbjlaaLx
import Derived.Test.YthkopgcdghbjlaaAm26
namespace Go.Proofs.Ythkopgcdghbjlaa
open Go Go.AM
set_option linter.unusedVariables false
set_option linter.unusedSimpArgs false
set_option maxRecDepth 60000
set_option maxHeartbeats 8000000

abbrev It := Int × Int
/-- Are times in order? -/
def Adj (l : List It) : Prop := ∀ i, i + 1 < l.length → (nthP l i).1 ≤ (nthP l (i + 1)).1
theorem cmp16 {a b : It} {m : Mem} {K : KV} (h : ∀ m', m.Grew m' → K (.int .i64 (cmpI a.1 b.1)) m') : ACalls Try.prog 16 [.agg [.int .i64 a.1, .int .i64 a.2], .agg [.int .i64 b.1, .int .i64 b.2]] m K := by
  refine run_on x7 hm c16 (by simp) fun hf => ?_
  have g := (Mem.Grew.new m (.row 2 [[.int .i64 a.1, .int .i64 a.2]] true)).trans (Mem.Grew.new _ (.row 2 [[.int .i64 b.1, .int .i64 b.2]] true))
  simp (disch := omega) [-getElem?_pos, b16, F17]
  exact h _ g
theorem sorted15 {m : Mem} {v : V} {l : List It} (hv : Sl m 2 v (rowP l)) (hl : l.length ≤ 4611686018427387904) {K : KV} (h : ∀ b m', (b = true ↔ Adj l) → m.Grew m' → K (.bool b) m') : ACalls Try.prog 15 [v, .fn 16 [] []] m K := by
  have hv1 := hv.lenSl
  rw [rowP_length] at hv1
  refine run_on (ctx_nil _) hm c15 (by simp) fun hf => ?_
  obtain ⟨n, hn⟩ : ∃ n, l.length = n := ⟨_, rfl⟩
  rw [hn] at hv1 hl
  simp (disch := omega) [-getElem?_pos, b15, hv1]
  refine exec_loopU (σ := Nat × Mem) (fun (k, _) => [(5, .int .i64 ((n : Int) - 1 - k))]) (fun (_, M) => M) (fun (k, M) => (k + 1 ≤ n ∨ (n = 0 ∧ k = 0)) ∧ m.Grew M ∧ ∀ i, n - 1 - k ≤ i → i + 1 < n → (nthP l i).1 ≤ (nthP l (i + 1)).1) (fun (k, _) => n - k) (0, m) rfl
    (by dsimp only; exact ⟨by omega, Mem.Grew.refl _, fun i h1 h2 => by omega⟩) (by simp) ?_
  intro (k, M) ⟨a1, a2, a3⟩
  by_cases hk : k + 1 < n
  · obtain ⟨i1, hi1⟩ : ∃ i1, n - 1 - k = i1 := ⟨_, rfl⟩
    obtain ⟨i0, hi0⟩ : ∃ i0, i1 - 1 = i0 := ⟨_, rfl⟩
    have e1 : (n : Int) - 1 - k = (i1 : Int) := by omega
    have e2 : (i1 : Int) - 1 = (i0 : Int) := by omega
    have e3 : (n : Int) - 1 - (k + 1) = (i0 : Int) := by omega
    obtain ⟨p, q, full, rw, z1, z2, z3, z4, _⟩ := (hv.grow a2).at (rowP_get (l := l) (i := i1) (by omega)) .i64
    obtain ⟨p', q', full', rw', y1, y2, y3, y4, _⟩ := (hv.grow a2).at (rowP_get (l := l) (i := i0) (by omega)) .i64
    simp (disch := omega) [-getElem?_pos, e1, e2, z1, z3, z4, y1, y3, y4]
    refine cmp16 (a := nthP l i1) (b := nthP l i0) fun M2 g => ?_
    by_cases hlt : (nthP l i1).1 < (nthP l i0).1
    · have hc : cmpI (nthP l i1).1 (nthP l i0).1 < 0 := by unfold cmpI; rw [if_pos hlt]; omega
      simp (disch := omega) [-getElem?_pos]
      refine h false _ ⟨fun e => (by cases e), fun e => ?_⟩ (a2.trans g)
      have := e i0 (by omega)
      rw [show i0 + 1 = i1 by omega] at this
      omega
    · have hc : ¬ cmpI (nthP l i1).1 (nthP l i0).1 < 0 := by unfold cmpI; rw [if_neg hlt]; split <;> omega
      simp (disch := omega) [-getElem?_pos, e2]
      exact again_mk (k + 1, M2) (by
        dsimp only
        refine ⟨.inl (by omega), a2.trans g, fun i h1 h2 => ?_⟩
        rcases Nat.lt_or_ge i i1 with w | w
        · have : i = i0 := by omega
          subst this
          rw [show i + 1 = i1 by omega]; omega
        · exact a3 i (by omega) h2) (by dsimp only; omega) (by simp [e3]) rfl
  · simp (disch := omega) [-getElem?_pos]
    exact h true _ ⟨fun _ i hi => a3 i (by omega) (by omega), fun _ => rfl⟩ a2
end Go.Proofs.Ythkopgcdghbjlaa
