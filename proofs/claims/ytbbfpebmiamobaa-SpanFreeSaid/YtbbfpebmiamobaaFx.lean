/-
  WHAT EACH FUNCTION of this seat computes, in plain words: right, in, few, Right.
-/
import Derived.Test.YtbbfpebmiamobaaCx
import Derived.Test.YtbbfpebmiamobaaPx
import Derived.Test.YtbbfpebmiamobaaAm28
namespace Go.Proofs.Ytbbfpebmiamobaa
open Go Go.AM
set_option linter.unusedVariables false
set_option linter.unusedSimpArgs false
set_option maxRecDepth 60000
set_option maxHeartbeats 4000000

theorem right23 {m : Mem} {x : Sp} {K : KV} (h : ∀ m', m.Grew m' → K (.bool (decide (rt x))) m') : ACalls Try.prog 23 [.agg [.int .i64 x.1, .int .i64 x.2]] m K := by
  refine run_on (ctx_nil _) hm c23 (by simp) fun hf => ?_
  have g := Mem.Grew.new m (.row 2 [[.int .i64 x.1, .int .i64 x.2]] true)
  by_cases h1 : -1152921504606846976 ≤ x.1
  · by_cases h2 : x.2 ≤ 1152921504606846976
    · by_cases h3 : x.1 < x.2
      · rw [decide_eq_true (show rt x from ⟨h1, h2, h3⟩)] at h
        simp (disch := omega) [-getElem?_pos, b23]
        exact h _ g
      · rw [decide_eq_false (show ¬ rt x from fun h => h3 h.2.2)] at h
        simp (disch := omega) [-getElem?_pos, b23]
        exact h _ g
    · rw [decide_eq_false (show ¬ rt x from fun h => h2 h.2.1)] at h
      simp (disch := omega) [-getElem?_pos, b23]
      exact h _ g
  · rw [decide_eq_false (show ¬ rt x from fun h => h1 h.1)] at h
    simp (disch := omega) [-getElem?_pos, b23]
    exact h _ g

theorem not22 {m : Mem} {x : Sp} {K : KV} (h : ∀ m', m.Grew m' → K (.bool (!decide (rt x))) m') : ACalls Try.prog 22 [.agg [.int .i64 x.1, .int .i64 x.2]] m K := by
  refine run_on (ctx_nil _) hm c22 (by simp) fun hf => ?_
  have g := Mem.Grew.new m (.row 2 [[.int .i64 x.1, .int .i64 x.2]] true)
  simp (disch := omega) [-getElem?_pos, b22]
  refine right23 fun m2 g2 => ?_
  simp (disch := omega) [-getElem?_pos]
  exact h _ (g.trans g2)

theorem takeP {l : List Sp} {i : Nat} (h : i < l.length) : l.take (i + 1) = l.take i ++ [nthP l i] := by
  rw [List.take_add_one, nthP_get h]; rfl

theorem in13 {m : Mem} {v : V} {l : List Sp} (hv : Sl m 2 v (rowP l)) (hl : l.length ≤ 4611686018427387904) {t : Int} {K : KV} (h : ∀ m', m.Grew m' → K (.bool (Inn l t)) m') : ACalls Try.prog 13 [v, .int .i64 t] m K := by
  refine run_on (ctx_nil _) hm c13 (by simp) fun hf => ?_
  obtain ⟨N, hN, hv1⟩ := lenP hv
  simp (disch := omega) [-getElem?_pos, b13, hv1]
  refine exec_loopU (σ := Nat × Mem) (fun (i, _) => [(9, .int .i64 i)]) (fun (_, M) => M) (fun (i, M) => i ≤ N ∧ m.Grew M ∧ Inn (l.take i) t = false) (fun (i, _) => N - i) (0, m) rfl
    (by dsimp only; exact ⟨by omega, Mem.Grew.refl m, rfl⟩) (by simp) ?_
  intro (i, M) ⟨a1, a2, a3⟩
  by_cases hi : i < N
  · obtain ⟨p, q, full, rw, z1, z2, z3, z4⟩ := atP (hv.grow a2) (y := i) (by omega)
    have g := a2.trans (Mem.Grew.new M (.row 2 [[.int .i64 (nthP l i).1, .int .i64 (nthP l i).2]] true))
    by_cases hb : rt (nthP l i) ∧ (nthP l i).1 ≤ t ∧ t < (nthP l i).2
    · have e : Inn l t = true := inn_iff.2 ⟨_, nthP_mem (by omega), hb⟩
      rw [e] at h
      obtain ⟨⟨h1, h2, h3⟩, h4, h5⟩ := hb
      simp (disch := omega) [-getElem?_pos, z1, z3, z4]
      exact h _ g
    · have e : Inn (l.take (i + 1)) t = false := by
        rw [takeP (by omega), inn_app, a3, inn_one]; exact decide_eq_false hb
      by_cases h1 : -1152921504606846976 ≤ (nthP l i).1
      · by_cases h2 : (nthP l i).2 ≤ 1152921504606846976
        · by_cases h3 : (nthP l i).1 ≤ t
          · have h4 : ¬ t < (nthP l i).2 := fun h4 => hb ⟨⟨h1, h2, by omega⟩, h3, h4⟩
            clear hb
            simp (disch := omega) [-getElem?_pos, z1, z3, z4]
            exact again_mk (i + 1, _) (by dsimp only; exact ⟨by omega, g, e⟩) (by dsimp only; omega) (by simp) rfl
          · clear hb
            simp (disch := omega) [-getElem?_pos, z1, z3, z4]
            exact again_mk (i + 1, _) (by dsimp only; exact ⟨by omega, g, e⟩) (by dsimp only; omega) (by simp) rfl
        · clear hb
          simp (disch := omega) [-getElem?_pos, z1, z3, z4]
          exact again_mk (i + 1, _) (by dsimp only; exact ⟨by omega, g, e⟩) (by dsimp only; omega) (by simp) rfl
      · clear hb
        simp (disch := omega) [-getElem?_pos, z1, z3, z4]
        exact again_mk (i + 1, _) (by dsimp only; exact ⟨by omega, g, e⟩) (by dsimp only; omega) (by simp) rfl
  · have : i = N := by omega
    subst this
    rw [← hN, List.take_length] at a3
    rw [a3] at h
    simp (disch := omega) [-getElem?_pos]
    exact h _ a2

def NearP (x : Sp) : Prop := -2305843009213693952 ≤ x.1 ∧ x.1 ≤ 2305843009213693952 ∧ -2305843009213693952 ≤ x.2 ∧ x.2 ≤ 2305843009213693952
instance (x : Sp) : Decidable (NearP x) := by unfold NearP; infer_instance
structure Few (l : List Sp) : Prop where
  near : ∀ x ∈ l, NearP x
  len : l.length ≤ 40

theorem few8 {m : Mem} {v : V} {l : List Sp} (hv : Sl m 2 v (rowP l)) (hl : l.length ≤ 9223372036854775807) {K : KV} (hno : ∀ m', m.Grew m' → K (.bool false) m') (h : ∀ m', Few l → m.Grew m' → K (.bool true) m') : ACalls Try.prog 8 [v] m K := by
  refine run_on (ctx_nil _) hm c8 (by simp) fun hf => ?_
  obtain ⟨N, hN, hv1⟩ := lenP hv
  simp (disch := omega) [-getElem?_pos, b8, hv1]
  refine exec_loopU (σ := Nat × Mem) (fun (i, _) => [(7, .int .i64 i)]) (fun (_, M) => M) (fun (i, M) => i ≤ N ∧ m.Grew M ∧ ∀ j, j < i → NearP (nthP l j)) (fun (i, _) => N - i) (0, m) rfl
    (by dsimp only; exact ⟨by omega, Mem.Grew.refl m, fun j hj => absurd hj (by omega)⟩) (by simp) ?_
  intro (i, M) ⟨a1, a2, a3⟩
  by_cases hi : i < N
  · obtain ⟨p, q, full, rw, z1, z2, z3, z4⟩ := atP (hv.grow a2) (y := i) (by omega)
    have g := a2.trans (Mem.Grew.new M (.row 2 [[.int .i64 (nthP l i).1, .int .i64 (nthP l i).2]] true))
    by_cases h1 : -2305843009213693952 ≤ (nthP l i).1
    · by_cases h2 : (nthP l i).1 ≤ 2305843009213693952
      · by_cases h3 : -2305843009213693952 ≤ (nthP l i).2
        · by_cases h4 : (nthP l i).2 ≤ 2305843009213693952
          · simp (disch := omega) [-getElem?_pos, z1, z3, z4]
            exact again_mk (i + 1, _) (by dsimp only; exact ⟨by omega, g, fun j hj => by
              by_cases q : j = i
              · subst q; exact ⟨h1, h2, h3, h4⟩
              · exact a3 j (by omega)⟩) (by dsimp only; omega) (by simp) rfl
          · simp (disch := omega) [-getElem?_pos, z1, z3, z4]
            exact hno _ g
        · simp (disch := omega) [-getElem?_pos, z1, z3, z4]
          exact hno _ g
      · simp (disch := omega) [-getElem?_pos, z1, z3, z4]
        exact hno _ g
    · simp (disch := omega) [-getElem?_pos, z1, z3, z4]
      exact hno _ g
  · have : i = N := by omega
    subst this
    by_cases h40 : i ≤ 40
    · simp (disch := omega) [-getElem?_pos, hv1]
      exact h _ ⟨fun x hx => by obtain ⟨j, h1, rfl⟩ := mem_nthP hx; exact a3 j (by omega), by omega⟩ a2
    · simp (disch := omega) [-getElem?_pos, hv1]
      exact hno _ a2

theorem RS.gapAt {l : List Sp} (h : RS l) {i j : Nat} (hij : i < j) (hj : j < l.length) : (nthP l i).2 < (nthP l j).1 := by
  have := (List.pairwise_iff_getElem.1 h.gap) i j (by omega) hj hij
  have e1 := nthP_get (l := l) (i := i) (by omega)
  have e2 := nthP_get (l := l) (i := j) hj
  rw [List.getElem?_eq_getElem (by omega)] at e1 e2
  injection e1 with e1; injection e2 with e2
  rw [← e1, ← e2]; exact this

theorem right10 {m : Mem} {v : V} {l : List Sp} (hv : Sl m 2 v (rowP l)) (hl : l.length ≤ 4611686018427387904) {K : KV} (h : ∀ b m', (b = true ↔ RS l) → m.Grew m' → K (.bool b) m') : ACalls Try.prog 10 [v] m K := by
  refine run_on (ctx_nil _) hm c10 (by simp) fun hf => ?_
  obtain ⟨N, hN, hv1⟩ := lenP hv
  simp (disch := omega) [-getElem?_pos, b10, hv1]
  refine exec_loopU (σ := Nat × Mem) (fun (i, _) => [(7, .int .i64 i)]) (fun (_, M) => M) (fun (i, M) => i ≤ N ∧ m.Grew M ∧ RS (l.take i)) (fun (i, _) => N - i) (0, m) rfl
    (by dsimp only; exact ⟨by omega, Mem.Grew.refl m, RS.nil⟩) (by simp) ?_
  intro (i, M) ⟨a1, a2, a3⟩
  by_cases hi : i < N
  · obtain ⟨p, q, full, rw, z1, z2, z3, z4⟩ := atP (hv.grow a2) (y := i) (by omega)
    have g1 := Mem.Grew.new M (.row 2 [[.int .i64 (nthP l i).1, .int .i64 (nthP l i).2]] true)
    have oB : (M.new (.row 2 [[.int .i64 (nthP l i).1, .int .i64 (nthP l i).2]] true)).obj M.next = some (.row 2 [[.int .i64 (nthP l i).1, .int .i64 (nthP l i).2]] true) := by simp
    have bB : M.next < (M.new (.row 2 [[.int .i64 (nthP l i).1, .int .i64 (nthP l i).2]] true)).next := by simp
    simp (disch := omega) [-getElem?_pos, z1, z3, z4]
    generalize M.new (.row 2 [[.int .i64 (nthP l i).1, .int .i64 (nthP l i).2]] true) = M1 at *
    have z3' := g1.obj p z2
    rw [z3] at z3'
    refine right23 fun M2 g2 => ?_
    have o2 := g2.obj _ bB
    rw [oB] at o2
    have g := (a2.trans g1).trans g2
    by_cases hr : rt (nthP l i)
    case neg =>
      rw [decide_eq_false hr]
      simp (disch := omega) [-getElem?_pos]
      exact h _ _ (by simp; exact fun h => hr (h.rt _ (nthP_mem (by omega)))) g
    rw [decide_eq_true hr]
    by_cases h0 : i = 0
    · subst h0
      simp (disch := omega) [-getElem?_pos]
      exact again_mk (1, _) (by dsimp only; exact ⟨by omega, g, by rw [takeP (by omega)]; exact RS.app.2 ⟨RS.nil, hr, by simp⟩⟩) (by dsimp only; omega) (by simp) rfl
    obtain ⟨k, rfl⟩ : ∃ k, i = k + 1 := ⟨i - 1, by omega⟩
    obtain ⟨p', q', full', rw', y1, y2, y3, y4⟩ := atP (hv.grow g) (y := k) (by omega)
    have ek : ((k + 1 : Nat) : Int) - 1 = (k : Int) := by omega
    by_cases hg : (nthP l k).2 < (nthP l (k + 1)).1
    · simp (disch := omega) [-getElem?_pos, ek, y1, y3, y4, o2]
      exact again_mk (k + 1 + 1, _) (by dsimp only; exact ⟨by omega, g, by rw [takeP (by omega)]; rw [takeP (by omega)] at a3 ⊢; exact a3.push hr hg⟩) (by dsimp only; omega) (by simp) rfl
    · simp (disch := omega) [-getElem?_pos, ek, y1, y3, y4, o2]
      exact h _ _ (by simp; exact fun h => hg (h.gapAt (by omega) (by omega))) g
  · have : i = N := by omega
    subst this
    rw [← hN, List.take_length] at a3
    simp (disch := omega) [-getElem?_pos]
    exact h _ _ (by simp; exact a3) a2
end Go.Proofs.Ytbbfpebmiamobaa
