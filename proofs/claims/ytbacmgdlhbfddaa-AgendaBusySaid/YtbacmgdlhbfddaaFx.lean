/-
  WHAT EACH FUNCTION of this seat computes, in plain words: right, in, few, Right.
-/
import Derived.Test.YtbacmgdlhbfddaaCx
import Derived.Test.YtbacmgdlhbfddaaPx
import Derived.Test.YtbacmgdlhbfddaaAm28
namespace Go.Proofs.Ytbacmgdlhbfddaa
open Go Go.AM
set_option linter.unusedVariables false
set_option linter.unusedSimpArgs false
set_option maxRecDepth 60000
set_option maxHeartbeats 4000000

theorem right23 {m : Mem} {x : Sp} {K : KV} (h : ∀ m', m.Grew m' → K (.bool (decide (rt x))) m') : ACalls Try.prog 30 [.agg [.int .i64 x.1, .int .i64 x.2]] m K := by
  refine run_on (ctx_nil _) hm c30 (by simp) fun hf => ?_
  have g := Mem.Grew.new m (.row 2 [[.int .i64 x.1, .int .i64 x.2]] true)
  by_cases h1 : -1152921504606846976 ≤ x.1
  · by_cases h2 : x.2 ≤ 1152921504606846976
    · by_cases h3 : x.1 < x.2
      · rw [decide_eq_true (show rt x from ⟨h1, h2, h3⟩)] at h
        simp (disch := omega) [-getElem?_pos, b30]
        exact h _ g
      · rw [decide_eq_false (show ¬ rt x from fun h => h3 h.2.2)] at h
        simp (disch := omega) [-getElem?_pos, b30]
        exact h _ g
    · rw [decide_eq_false (show ¬ rt x from fun h => h2 h.2.1)] at h
      simp (disch := omega) [-getElem?_pos, b30]
      exact h _ g
  · rw [decide_eq_false (show ¬ rt x from fun h => h1 h.1)] at h
    simp (disch := omega) [-getElem?_pos, b30]
    exact h _ g

theorem not22 {m : Mem} {x : Sp} {K : KV} (h : ∀ m', m.Grew m' → K (.bool (!decide (rt x))) m') : ACalls Try.prog 34 [.agg [.int .i64 x.1, .int .i64 x.2]] m K := by
  refine run_on (ctx_nil _) hm c34 (by simp) fun hf => ?_
  have g := Mem.Grew.new m (.row 2 [[.int .i64 x.1, .int .i64 x.2]] true)
  simp (disch := omega) [-getElem?_pos, b34]
  refine right23 fun m2 g2 => ?_
  simp (disch := omega) [-getElem?_pos]
  exact h _ (g.trans g2)

theorem takeP {l : List Sp} {i : Nat} (h : i < l.length) : l.take (i + 1) = l.take i ++ [nthP l i] := by
  rw [List.take_add_one, nthP_get h]; rfl

theorem RS.gapAt {l : List Sp} (h : RS l) {i j : Nat} (hij : i < j) (hj : j < l.length) : (nthP l i).2 < (nthP l j).1 := by
  have := (List.pairwise_iff_getElem.1 h.gap) i j (by omega) hj hij
  have e1 := nthP_get (l := l) (i := i) (by omega)
  have e2 := nthP_get (l := l) (i := j) hj
  rw [List.getElem?_eq_getElem (by omega)] at e1 e2
  injection e1 with e1; injection e2 with e2
  rw [← e1, ← e2]; exact this

theorem right10 {m : Mem} {v : V} {l : List Sp} (hv : Sl m 2 v (rowP l)) (hl : l.length ≤ 4611686018427387904) {K : KV} (h : ∀ b m', (b = true ↔ RS l) → m.Grew m' → K (.bool b) m') : ACalls Try.prog 18 [v] m K := by
  refine run_on (ctx_nil _) hm c18 (by simp) fun hf => ?_
  obtain ⟨N, hN, hv1⟩ := lenP hv
  simp (disch := omega) [-getElem?_pos, b18, hv1]
  refine exec_loopU (σ := Nat × Mem) (fun (i, _) => [(7, .int .i64 i)]) (fun (_, M) => M) (fun (i, M) => i ≤ N ∧ m.Grew M ∧ RS (l.take i)) (fun (i, _) => N - i) (0, m) rfl
    (by dsimp only; exact ⟨by omega, Mem.Grew.refl m, RS.nil⟩) (by simp) ?_
  intro (i, M) ⟨a1, a2, a3⟩
  by_cases hi : i < N
  · obtain ⟨p, q, full, rw, z1, z2, z3, z4⟩ := atP (hv.grow a2) (y := i) (by omega)
    have g1 := Mem.Grew.new M (.row 2 [[.int .i64 (nthP l i).1, .int .i64 (nthP l i).2]] true)
    have oB : (M.new (.row 2 [[.int .i64 (nthP l i).1, .int .i64 (nthP l i).2]] true)).obj M.next = some (.row 2 [[.int .i64 (nthP l i).1, .int .i64 (nthP l i).2]] true) := by simp
    have bB : M.next < (M.new (.row 2 [[.int .i64 (nthP l i).1, .int .i64 (nthP l i).2]] true)).next := by simp
    simp (disch := omega) [-getElem?_pos, z1, z3, z4]
    generalize M.new (.row 2 [[.int .i64 (nthP l i).1, .int .i64 (nthP l i).2]] true) = M1 at *
    have z3' := g1.obj p z2
    rw [z3] at z3'
    refine right23 fun M2 g2 => ?_
    have o2 := g2.obj _ bB
    rw [oB] at o2
    have g := (a2.trans g1).trans g2
    by_cases hr : rt (nthP l i)
    case neg =>
      rw [decide_eq_false hr]
      simp (disch := omega) [-getElem?_pos]
      exact h _ _ (by simp; exact fun h => hr (h.rt _ (nthP_mem (by omega)))) g
    rw [decide_eq_true hr]
    by_cases h0 : i = 0
    · subst h0
      simp (disch := omega) [-getElem?_pos]
      exact again_mk (1, _) (by dsimp only; exact ⟨by omega, g, by rw [takeP (by omega)]; exact RS.app.2 ⟨RS.nil, hr, by simp⟩⟩) (by dsimp only; omega) (by simp) rfl
    obtain ⟨k, rfl⟩ : ∃ k, i = k + 1 := ⟨i - 1, by omega⟩
    obtain ⟨p', q', full', rw', y1, y2, y3, y4⟩ := atP (hv.grow g) (y := k) (by omega)
    have ek : ((k + 1 : Nat) : Int) - 1 = (k : Int) := by omega
    by_cases hg : (nthP l k).2 < (nthP l (k + 1)).1
    · simp (disch := omega) [-getElem?_pos, ek, y1, y3, y4, o2]
      exact again_mk (k + 1 + 1, _) (by dsimp only; exact ⟨by omega, g, by rw [takeP (by omega)]; rw [takeP (by omega)] at a3 ⊢; exact a3.push hr hg⟩) (by dsimp only; omega) (by simp) rfl
    · simp (disch := omega) [-getElem?_pos, ek, y1, y3, y4, o2]
      exact h _ _ (by simp; exact fun h => hg (h.gapAt (by omega) (by omega))) g
  · have : i = N := by omega
    subst this
    rw [← hN, List.take_length] at a3
    simp (disch := omega) [-getElem?_pos]
    exact h _ _ (by simp; exact a3) a2
end Go.Proofs.Ytbacmgdlhbfddaa
