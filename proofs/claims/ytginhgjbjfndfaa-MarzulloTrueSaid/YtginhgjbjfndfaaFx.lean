/-
  WHAT EACH FUNCTION of this seat computes, in plain words: sources, how many have a time; MARZULLOSPANS.
-/
import Derived.Test.YtginhgjbjfndfaaCx
import Derived.Test.YtginhgjbjfndfaaAm26
namespace Go.Proofs.Ytginhgjbjfndfaa
open Go Go.AM
set_option linter.unusedVariables false
set_option linter.unusedSimpArgs false
set_option maxRecDepth 20000
set_option maxHeartbeats 4000000

def F7 : AFn
  | [], m => some (.bool true, m)
  | _, _ => none
theorem s7 : ASpec Try.prog 7 F7 := by
  intro args m r m' h
  unfold F7 at h; split at h <;> cases h
  exact reckon hm codeOk 300 30 rfl rfl (by kernel_rfl) _
abbrev L1 : List (FuncId × AFn) := [(7, F7)]
theorem x1 : CtxOk Try.prog (Ctx.of L1) := ctx_cons (ctx_nil _) s7

/-- May a source be? Has it a time? -/
def okS (x : Int × Int) : Prop := -1152921504606846976 ≤ x.1 ∧ x.2 ≤ 1152921504606846976 ∧ x.1 ≤ x.2
instance (x : Int × Int) : Decidable (okS x) := by unfold okS; infer_instance
def hasS (t : Int) (x : Int × Int) : Prop := okS x ∧ x.1 ≤ t ∧ t ≤ x.2
instance (t : Int) (x : Int × Int) : Decidable (hasS t x) := by unfold hasS; infer_instance
def cntL (l : List (Int × Int)) (t : Int) : Nat := l.countP fun x => decide (hasS t x)
def rtsL (l : List (Int × Int)) : Nat := l.countP fun x => decide (okS x)

theorem right11 {m : Mem} {x : Int × Int} {K : KV} (h : ∀ m', m.Grew m' → K (.bool (decide (okS x))) m') : ACalls Try.prog 11 [.agg [.int .i64 x.1, .int .i64 x.2]] m K := by
  refine run_on (ctx_nil _) hm c11 (by simp) fun hf => ?_
  obtain ⟨a, b⟩ := x
  have g := Mem.Grew.new m (.row 2 [[.int .i64 a, .int .i64 b]] true)
  dsimp only
  by_cases h1 : -1152921504606846976 ≤ a
  · by_cases h2 : b ≤ 1152921504606846976
    · by_cases h3 : a ≤ b
      · rw [decide_eq_true (show okS (a, b) from ⟨h1, h2, h3⟩)] at h
        simp (disch := omega) [-getElem?_pos, b11]
        exact h _ g
      · rw [decide_eq_false (show ¬ okS (a, b) from fun h => h3 h.2.2)] at h
        simp (disch := omega) [-getElem?_pos, b11]
        exact h _ g
    · rw [decide_eq_false (show ¬ okS (a, b) from fun h => h2 h.2.1)] at h
      simp (disch := omega) [-getElem?_pos, b11]
      exact h _ g
  · rw [decide_eq_false (show ¬ okS (a, b) from fun h => h1 h.1)] at h
    simp (disch := omega) [-getElem?_pos, b11]
    exact h _ g
theorem right18 {m : Mem} {x : Int × Int} {K : KV} (h : ∀ m', m.Grew m' → K (.bool (decide (okS x))) m') : ACalls Try.prog 18 [.agg [.int .i64 x.1, .int .i64 x.2]] m K := by
  refine run_on (ctx_nil _) hm c18 (by simp) fun hf => ?_
  obtain ⟨a, b⟩ := x
  have g := Mem.Grew.new m (.row 2 [[.int .i64 a, .int .i64 b]] true)
  dsimp only
  by_cases h1 : -1152921504606846976 ≤ a
  · by_cases h2 : b ≤ 1152921504606846976
    · by_cases h3 : a ≤ b
      · rw [decide_eq_true (show okS (a, b) from ⟨h1, h2, h3⟩)] at h
        simp (disch := omega) [-getElem?_pos, b18]
        exact h _ g
      · rw [decide_eq_false (show ¬ okS (a, b) from fun h => h3 h.2.2)] at h
        simp (disch := omega) [-getElem?_pos, b18]
        exact h _ g
    · rw [decide_eq_false (show ¬ okS (a, b) from fun h => h2 h.2.1)] at h
      simp (disch := omega) [-getElem?_pos, b18]
      exact h _ g
  · rw [decide_eq_false (show ¬ okS (a, b) from fun h => h1 h.1)] at h
    simp (disch := omega) [-getElem?_pos, b18]
    exact h _ g
theorem has16 {m : Mem} {x : Int × Int} {t : Int} {K : KV} (h : ∀ m', m.Grew m' → K (.bool (decide (hasS t x))) m') : ACalls Try.prog 16 [.agg [.int .i64 x.1, .int .i64 x.2], .int .i64 t] m K := by
  refine run_on (ctx_nil _) hm c16 (by simp) fun hf => ?_
  have g := Mem.Grew.new m (.row 2 [[.int .i64 x.1, .int .i64 x.2]] true)
  have ho : (m.new (.row 2 [[.int .i64 x.1, .int .i64 x.2]] true)).obj m.next = some (.row 2 [[.int .i64 x.1, .int .i64 x.2]] true) := by simp
  simp (disch := omega) [-getElem?_pos, b16]
  refine right18 fun m1 g1 => ?_
  have ho1 := g1.obj m.next (by simp)
  rw [ho] at ho1
  by_cases hk : okS x
  · rw [decide_eq_true hk]
    by_cases h1 : x.1 ≤ t
    · by_cases h2 : t ≤ x.2
      · rw [decide_eq_true (show hasS t x from ⟨hk, h1, h2⟩)] at h
        simp (disch := omega) [-getElem?_pos, ho1]
        exact h _ (g.trans g1)
      · rw [decide_eq_false (show ¬ hasS t x from fun h => h2 h.2.2)] at h
        simp (disch := omega) [-getElem?_pos, ho1]
        exact h _ (g.trans g1)
    · rw [decide_eq_false (show ¬ hasS t x from fun h => h1 h.2.1)] at h
      simp (disch := omega) [-getElem?_pos, ho1]
      exact h _ (g.trans g1)
  · rw [decide_eq_false hk]
    rw [decide_eq_false (show ¬ hasS t x from fun h => hk h.1)] at h
    simp (disch := omega) [-getElem?_pos, ho1]
    exact h _ (g.trans g1)

theorem countP_snoc {α : Type} (p : α → Bool) (l : List α) (x : α) : (l ++ [x]).countP p = l.countP p + if p x = true then 1 else 0 := by
  rw [List.countP_append, List.countP_singleton]

/-- How many have a time: the program's. -/
theorem count9 {m : Mem} {v : V} {l : List (Int × Int)} (hv : Sl m 2 v (rowP l)) (hl : l.length ≤ 1000) {t : Int} {K : KV} (h : ∀ m', m.Grew m' → K (.int .i64 (cntL l t)) m') : ACalls Try.prog 9 [v, .int .i64 t] m K := by
  obtain ⟨N, hN, hv1⟩ := lenP hv
  refine run_on x1 hm c9 (by simp) fun hf => ?_
  simp (disch := omega) [-getElem?_pos, b9, hv1]
  refine exec_loopU (σ := Nat × Mem) (fun (i, _) => [(5, .int .i64 (cntL (l.take i) t)), (10, .int .i64 i)]) (fun (_, M) => M) (fun (i, M) => i ≤ N ∧ m.Grew M) (fun (i, _) => N - i) (0, m) rfl
    (by dsimp only; exact ⟨by omega, Mem.Grew.refl m⟩) (by simp [cntL]) ?_
  intro (i, M) ⟨a1, a2⟩
  by_cases hi : i < N
  · obtain ⟨p, q, full, rw, z1, z2, z3, z4⟩ := atP (hv.grow a2) (y := i) (by omega)
    have e1 : cntL (l.take (i + 1)) t = cntL (l.take i) t + if hasS t (nthP l i) then 1 else 0 := by
      unfold cntL; rw [takeS (nthP_get (by omega)), countP_snoc]; simp
    have e2 : cntL (l.take i) t ≤ i := Nat.le_trans List.countP_le_length (by simp; omega)
    simp (disch := omega) [-getElem?_pos, z1, z3, z4]
    have gn := Mem.Grew.new M (.row 2 [[.int .i64 (nthP l i).1, .int .i64 (nthP l i).2]] true)
    refine has16 fun m2 g2 => ?_
    by_cases hh : hasS t (nthP l i)
    · rw [if_pos hh] at e1
      rw [decide_eq_true hh]
      simp (disch := omega) [-getElem?_pos]
      exact again_mk (i + 1, m2) (by dsimp only; exact ⟨by omega, (a2.trans gn).trans g2⟩) (by dsimp only; omega) (by simp [e1]) rfl
    · rw [if_neg hh] at e1
      rw [decide_eq_false hh]
      simp (disch := omega) [-getElem?_pos]
      exact again_mk (i + 1, m2) (by dsimp only; exact ⟨by omega, (a2.trans gn).trans g2⟩) (by dsimp only; omega) (by simp [e1]) rfl
  · have : i = N := by omega
    subst this
    have et : l.take i = l := List.take_of_length_le (by omega)
    simp (disch := omega) [-getElem?_pos, et]
    exact h _ a2
/-- .. the document's. -/
theorem count10 {m : Mem} {v : V} {l : List (Int × Int)} (hv : Sl m 2 v (rowP l)) (hl : l.length ≤ 1000) {t : Int} {K : KV} (h : ∀ m', m.Grew m' → K (.int .i64 (cntL l t)) m') : ACalls Try.prog 10 [v, .int .i64 t] m K := by
  obtain ⟨N, hN, hv1⟩ := lenP hv
  refine run_on x1 hm c10 (by simp) fun hf => ?_
  simp (disch := omega) [-getElem?_pos, b10, hv1]
  refine exec_loopU (σ := Nat × Mem) (fun (i, _) => [(5, .int .i64 (cntL (l.take i) t)), (10, .int .i64 i)]) (fun (_, M) => M) (fun (i, M) => i ≤ N ∧ m.Grew M) (fun (i, _) => N - i) (0, m) rfl
    (by dsimp only; exact ⟨by omega, Mem.Grew.refl m⟩) (by simp [cntL]) ?_
  intro (i, M) ⟨a1, a2⟩
  by_cases hi : i < N
  · obtain ⟨p, q, full, rw, z1, z2, z3, z4⟩ := atP (hv.grow a2) (y := i) (by omega)
    have e1 : cntL (l.take (i + 1)) t = cntL (l.take i) t + if hasS t (nthP l i) then 1 else 0 := by
      unfold cntL; rw [takeS (nthP_get (by omega)), countP_snoc]; simp
    have e2 : cntL (l.take i) t ≤ i := Nat.le_trans List.countP_le_length (by simp; omega)
    obtain ⟨x, hx⟩ : ∃ x, nthP l i = x := ⟨_, rfl⟩
    rw [hx] at e1 z4
    simp (disch := omega) [-getElem?_pos, z1, z3, z4]
    have gn := Mem.Grew.new M (.row 2 [[.int .i64 x.1, .int .i64 x.2]] true)
    have ho : (M.new (.row 2 [[.int .i64 x.1, .int .i64 x.2]] true)).obj M.next = some (.row 2 [[.int .i64 x.1, .int .i64 x.2]] true) := by simp
    refine right11 fun m2 g2 => ?_
    have ho1 := g2.obj M.next (by simp)
    rw [ho] at ho1
    have fin : ∀ v, i + 1 ≤ N ∧ m.Grew m2 := fun _ : Unit => ⟨by omega, (a2.trans gn).trans g2⟩
    by_cases hk : okS x
    · rw [decide_eq_true hk]
      by_cases h1 : x.1 ≤ t
      · by_cases h2 : t ≤ x.2
        · rw [if_pos (show hasS t x from ⟨hk, h1, h2⟩)] at e1
          simp (disch := omega) [-getElem?_pos, ho1]
          exact again_mk (i + 1, m2) (by dsimp only; exact fin ()) (by dsimp only; omega) (by simp [e1]) rfl
        · rw [if_neg (show ¬ hasS t x from fun h => h2 h.2.2)] at e1
          simp (disch := omega) [-getElem?_pos, ho1]
          exact again_mk (i + 1, m2) (by dsimp only; exact fin ()) (by dsimp only; omega) (by simp [e1]) rfl
      · rw [if_neg (show ¬ hasS t x from fun h => h1 h.2.1)] at e1
        simp (disch := omega) [-getElem?_pos, ho1]
        exact again_mk (i + 1, m2) (by dsimp only; exact fin ()) (by dsimp only; omega) (by simp [e1]) rfl
    · rw [decide_eq_false hk]
      rw [if_neg (show ¬ hasS t x from fun h => hk h.1)] at e1
      simp (disch := omega) [-getElem?_pos, ho1]
      exact again_mk (i + 1, m2) (by dsimp only; exact fin ()) (by dsimp only; omega) (by simp [e1]) rfl
  · have : i = N := by omega
    subst this
    have et : l.take i = l := List.take_of_length_le (by omega)
    simp (disch := omega) [-getElem?_pos, et]
    exact h _ a2
theorem rights17 {m : Mem} {v : V} {l : List (Int × Int)} (hv : Sl m 2 v (rowP l)) (hl : l.length ≤ 1000) {K : KV} (h : ∀ m', m.Grew m' → K (.int .i64 (rtsL l)) m') : ACalls Try.prog 17 [v] m K := by
  obtain ⟨N, hN, hv1⟩ := lenP hv
  refine run_on x1 hm c17 (by simp) fun hf => ?_
  simp (disch := omega) [-getElem?_pos, b17, hv1]
  refine exec_loopU (σ := Nat × Mem) (fun (i, _) => [(3, .int .i64 (rtsL (l.take i))), (8, .int .i64 i)]) (fun (_, M) => M) (fun (i, M) => i ≤ N ∧ m.Grew M) (fun (i, _) => N - i) (0, m) rfl
    (by dsimp only; exact ⟨by omega, Mem.Grew.refl m⟩) (by simp [rtsL]) ?_
  intro (i, M) ⟨a1, a2⟩
  by_cases hi : i < N
  · obtain ⟨p, q, full, rw, z1, z2, z3, z4⟩ := atP (hv.grow a2) (y := i) (by omega)
    have e1 : rtsL (l.take (i + 1)) = rtsL (l.take i) + if okS (nthP l i) then 1 else 0 := by
      unfold rtsL; rw [takeS (nthP_get (by omega)), countP_snoc]; simp
    have e2 : rtsL (l.take i) ≤ i := Nat.le_trans List.countP_le_length (by simp; omega)
    simp (disch := omega) [-getElem?_pos, z1, z3, z4]
    have gn := Mem.Grew.new M (.row 2 [[.int .i64 (nthP l i).1, .int .i64 (nthP l i).2]] true)
    refine right18 fun m2 g2 => ?_
    by_cases hh : okS (nthP l i)
    · rw [if_pos hh] at e1
      rw [decide_eq_true hh]
      simp (disch := omega) [-getElem?_pos]
      exact again_mk (i + 1, m2) (by dsimp only; exact ⟨by omega, (a2.trans gn).trans g2⟩) (by dsimp only; omega) (by simp [e1]) rfl
    · rw [if_neg hh] at e1
      rw [decide_eq_false hh]
      simp (disch := omega) [-getElem?_pos]
      exact again_mk (i + 1, m2) (by dsimp only; exact ⟨by omega, (a2.trans gn).trans g2⟩) (by dsimp only; omega) (by simp [e1]) rfl
  · have : i = N := by omega
    subst this
    have et : l.take i = l := List.take_of_length_le (by omega)
    simp (disch := omega) [-getElem?_pos, et]
    exact h _ a2

/-- MARZULLOSPANS. -/
theorem spans (m0 : Mem) (x0 x1' x2' : V) (h0 : IsV m0 (.int .i64) x0) (h1 : IsV m0 (.int .i64) x1') (h2 : IsV m0 (.int .i64) x2') : ACalls Try.prog 6 [x0, x1', x2'] m0 (fun r _ => r = .bool true) := by
  obtain ⟨o, rfl, hwo⟩ := h0.int
  obtain ⟨d, rfl, hwd⟩ := h1.int
  obtain ⟨f, rfl, hwf⟩ := h2.int
  replace hwo := wf_i64 hwo
  replace hwd := wf_i64 hwd
  replace hwf := wf_i64 hwf
  refine run_on x1 hm c6 (by simp) fun hf => ?_
  have bad : (d < 0 ∨ 1125899906842624 < d ∨ f < 0 ∨ 1125899906842624 < f ∨ o < -1125899906842624 ∨ 1125899906842624 < o) → ∀ (m : Mem) (K : KV), (∀ m', m.Grew m' → K (.tup [.agg [.int .i64 0, .int .i64 0], .bool false]) m') → ACalls Try.prog 14 [.int .i64 o, .int .i64 d, .int .i64 f] m K := by
    intro hb m K h
    refine run_on (ctx_nil _) hm c14 (by simp) fun hf => ?_
    have g := Mem.Grew.new m (.row 2 [[.int .i64 0, .int .i64 0]] true)
    by_cases e1 : min d f < 0
    · simp (disch := omega) [-getElem?_pos, b14]
      exact h _ g
    by_cases e2 : 1125899906842624 < max d f
    · simp (disch := omega) [-getElem?_pos, b14]
      exact h _ g
    by_cases e3 : o < -1125899906842624
    · simp (disch := omega) [-getElem?_pos, b14]
      exact h _ g
    simp (disch := omega) [-getElem?_pos, b14]
    exact h _ g
  by_cases hb : d < 0 ∨ 1125899906842624 < d ∨ f < 0 ∨ 1125899906842624 < f ∨ o < -1125899906842624 ∨ 1125899906842624 < o
  · simp (disch := omega) [-getElem?_pos, b6, F7]
    refine bad hb _ _ fun m1 g1 => ?_
    by_cases e1 : d < 0
    · simp (disch := omega) [-getElem?_pos]
    by_cases e2 : 1125899906842624 < d
    · simp (disch := omega) [-getElem?_pos]
    by_cases e3 : f < 0
    · simp (disch := omega) [-getElem?_pos]
    by_cases e4 : 1125899906842624 < f
    · simp (disch := omega) [-getElem?_pos]
    by_cases e5 : o < -1125899906842624
    · simp (disch := omega) [-getElem?_pos]
    simp (disch := omega) [-getElem?_pos]
  · have hr : 0 ≤ d ∧ d ≤ 1125899906842624 ∧ 0 ≤ f ∧ f ≤ 1125899906842624 ∧ -1125899906842624 ≤ o ∧ o ≤ 1125899906842624 := by omega
    clear bad hb
    obtain ⟨r, hr0⟩ : ∃ r, (d + 1).tdiv 2 = r := ⟨_, rfl⟩
    have hr1 : 2 * r = d ∨ 2 * r = d + 1 := by
      rw [Int.tdiv_eq_ediv_of_nonneg (by omega)] at hr0; omega
    have e1 : min d f = d ∨ min d f = f := by omega
    have good : ∀ (m : Mem) (K : KV), (∀ m', m.Grew m' → K (.tup [.agg [.int .i64 (o - (r + f)), .int .i64 (o + (r + f))], .bool true]) m') → ACalls Try.prog 14 [.int .i64 o, .int .i64 d, .int .i64 f] m K := by
      intro m K h
      refine run_on (ctx_nil _) hm c14 (by simp) fun hf => ?_
      have g := Mem.Grew.new m (.row 2 [[.int .i64 (o - (r + f)), .int .i64 (o + (r + f))]] true)
      simp (disch := omega) [-getElem?_pos, b14, hr0]
      exact h _ g
    simp (disch := omega) [-getElem?_pos, b6, F7]
    refine good _ _ fun m1 g1 => ?_
    simp (disch := omega) [-getElem?_pos]
end Go.Proofs.Ytginhgjbjfndfaa
