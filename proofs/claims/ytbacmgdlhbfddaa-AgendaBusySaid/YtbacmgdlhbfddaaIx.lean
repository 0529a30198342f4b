/-
  WHOLE, NEXT, HAS, LEN, FREE, of what the functions of this seat do.
-/
import Derived.Test.YtbacmgdlhbfddaaHx
namespace Go.Proofs.Ytbacmgdlhbfddaa
open Go Go.AM
set_option linter.unusedVariables false
set_option linter.unusedSimpArgs false
set_option maxRecDepth 60000
set_option maxHeartbeats 4000000

theorem whole_calls {m : Mem} {v : V} {l : List Sp} (hv : Sl m 2 v (rowP l)) (hl : l.length ≤ 1000) {K : KV} (h : ∀ v' m' W, RS W → (∀ t, Inn W t = Inn l t) → W.length ≤ l.length → m.Grew m' → Sl m' 2 v' (rowP W) → K v' m') : ACalls Try.prog 31 [v] m K := by
  refine run_on (ctx_nil _) hm c31 (by simp) fun hf => ?_
  simp (disch := omega) [-getElem?_pos, b31]
  refine right10 hv (by omega) fun b m1 hb g1 => ?_
  cases b with
  | true =>
    simp (disch := omega) [-getElem?_pos]
    exact h _ _ l (hb.1 rfl) (fun _ => rfl) (Nat.le_refl _) g1 (hv.grow g1)
  | false =>
    simp (disch := omega) [-getElem?_pos]
    refine of_calls (hv.grow g1) hl fun v' m' W a1 a2 a3 a4 a5 => ?_
    simp (disch := omega) [-getElem?_pos]
    exact h _ _ W a1 a2 a3 (g1.trans a4) a5

theorem inn_idx {W : List Sp} {y : Int} (h : Inn W y = true) : ∃ j, j < W.length ∧ (nthP W j).1 ≤ y ∧ y < (nthP W j).2 := by
  obtain ⟨x, hx, _, h1, h2⟩ := inn_iff.1 h
  obtain ⟨j, hj, rfl⟩ := mem_nthP hx
  exact ⟨j, hj, h1, h2⟩
theorem inn_at {W : List Sp} (h : RS W) {j : Nat} {y : Int} (hj : j < W.length) (h1 : (nthP W j).1 ≤ y) (h2 : y < (nthP W j).2) : Inn W y = true := inn_iff.2 ⟨_, nthP_mem hj, h.rt _ (nthP_mem hj), h1, h2⟩

/-- The first time from one on. -/
structure Nx (P : Int → Bool) (t n : Int) (ok : Bool) : Prop where
  yes : ok = true → t ≤ n ∧ P n = true ∧ ∀ x, t ≤ x → x < n → P x = false
  no : ok = false → n = 0 ∧ ∀ x, t ≤ x → P x = false

theorem next_calls {m : Mem} {v : V} {l : List Sp} (hv : Sl m 2 v (rowP l)) (hl : l.length ≤ 1000) {t : Int} {K : KV} (h : ∀ n ok m', Nx (Inn l) t n ok → m.Grew m' → K (.tup [.int .i64 n, .bool ok]) m') : ACalls Try.prog 21 [v, .int .i64 t] m K := by
  refine run_on (ctx_nil _) hm c21 (by simp) fun hf => ?_
  simp (disch := omega) [-getElem?_pos, b21]
  refine whole_calls hv hl fun v' m1 W hW hin hWl g1 hv1 => ?_
  obtain ⟨N, hN, hv2⟩ := lenP hv1
  have hin' : Inn W = Inn l := funext hin
  rw [← hin'] at h
  simp (disch := omega) [-getElem?_pos, hv2]
  refine exec_loopU (σ := Nat × Mem) (fun (i, _) => [(11, .int .i64 i)]) (fun (_, M) => M) (fun (i, M) => i ≤ N ∧ m1.Grew M ∧ ∀ j, j < i → (nthP W j).2 ≤ t) (fun (i, _) => N - i) (0, m1) rfl
    (by dsimp only; exact ⟨by omega, Mem.Grew.refl m1, fun j hj => absurd hj (by omega)⟩) (by simp) ?_
  intro (i, M) ⟨a1, a2, a3⟩
  by_cases hi : i < N
  · obtain ⟨p, q, full, rw, z1, z2, z3, z4⟩ := atP (hv1.grow a2) (y := i) (by omega)
    have gN := Mem.Grew.new M (.row 2 [[.int .i64 (nthP W i).1, .int .i64 (nthP W i).2]] true)
    have hr := (hW.rt _ (nthP_mem (l := W) (i := i) (by omega))).2.2
    by_cases ht : t < (nthP W i).2
    · have nx : Nx (Inn W) t (max t (nthP W i).1) true := by
        refine ⟨fun _ => ⟨by omega, inn_at hW (j := i) (by omega) (by omega) (by omega), fun x h1 h2 => ?_⟩, fun h => by cases h⟩
        rw [← Bool.not_eq_true]
        intro hx
        obtain ⟨j, hj, k1, k2⟩ := inn_idx hx
        rcases Nat.lt_trichotomy j i with w | w | w
        · have := a3 j w; omega
        · subst w; omega
        · have := hW.gapAt w hj; omega
      simp (disch := omega) [-getElem?_pos, z1, z3, z4]
      exact h _ _ _ nx ((g1.trans a2).trans gN)
    · simp (disch := omega) [-getElem?_pos, z1, z3, z4]
      exact again_mk (i + 1, _) (by dsimp only; exact ⟨by omega, a2.trans gN, fun j hj => by
        by_cases q : j = i
        · subst q; omega
        · exact a3 j (by omega)⟩) (by dsimp only; omega) (by simp) rfl
  · have : i = N := by omega
    subst this
    have nx : Nx (Inn W) t 0 false := by
      refine ⟨(fun h => by cases h), fun _ => ⟨rfl, fun x h1 => ?_⟩⟩
      rw [← Bool.not_eq_true]
      intro hx
      obtain ⟨j, hj, k1, k2⟩ := inn_idx hx
      have := a3 j (by omega); omega
    simp (disch := omega) [-getElem?_pos]
    exact h _ _ _ nx (g1.trans a2)

theorem has_calls {m : Mem} {v : V} {l : List Sp} (hv : Sl m 2 v (rowP l)) (hl : l.length ≤ 1000) {t : Int} {K : KV} (h : ∀ m', m.Grew m' → K (.bool (Inn l t)) m') : ACalls Try.prog 9 [v, .int .i64 t] m K := by
  refine run_on (ctx_nil _) hm c9 (by simp) fun hf => ?_
  simp (disch := omega) [-getElem?_pos, b9]
  refine next_calls hv hl fun n ok m1 nx g1 => ?_
  cases ok with
  | true =>
    obtain ⟨h1, h2, h3⟩ := nx.yes rfl
    by_cases hn : n = t
    · subst hn
      rw [h2] at h
      simp (disch := omega) [-getElem?_pos]
      exact h _ g1
    · rw [h3 t (by omega) (by omega)] at h
      simp (disch := omega) [-getElem?_pos, hn]
      exact h _ g1
  | false =>
    rw [(nx.no rfl).2 t (by omega)] at h
    simp (disch := omega) [-getElem?_pos]
    exact h _ g1

structure IsFree (P : Int → Bool) (t k r : Int) : Prop where
  le : t ≤ r
  free : ∀ x, r ≤ x → x < r + k → P x = false
  first : ∀ x, t ≤ x → x < r → ∃ y, x ≤ y ∧ y < x + k ∧ P y = true

theorem free_calls {m : Mem} {v : V} {l : List Sp} (hv : Sl m 2 v (rowP l)) (hl : l.length ≤ 1000) {t n : Int} (ht : -1152921504606846976 ≤ t ∧ t ≤ 1152921504606846976) (hn : 0 ≤ n ∧ n ≤ 1152921504606846976) {K : KV} (h : ∀ r m', IsFree (Inn l) t (max n 1) r → m.Grew m' → -1152921504606846976 ≤ r → r ≤ 1152921504606846976 → K (.int .i64 r) m') : ACalls Try.prog 19 [v, .int .i64 t, .int .i64 n] m K := by
  refine run_on (ctx_nil _) hm c19 (by simp) fun hf => ?_
  simp (disch := omega) [-getElem?_pos, b19]
  refine whole_calls hv hl fun v' m1 W hW hin hWl g1 hv1 => ?_
  obtain ⟨N, hN, hv2⟩ := lenP hv1
  have hin' : Inn W = Inn l := funext hin
  rw [← hin'] at h
  obtain ⟨k, hk⟩ : ∃ k, max n 1 = k := ⟨_, rfl⟩
  rw [hk] at h
  simp (disch := omega) [-getElem?_pos, hv2]
  refine exec_loopU (σ := Nat × Int × Mem) (fun (i, s, _) => [(1, .int .i64 s), (12, .int .i64 i)]) (fun (_, _, M) => M) (fun (i, s, M) => i ≤ N ∧ t ≤ s ∧ s ≤ 1152921504606846976 ∧ m1.Grew M ∧ (∀ j, j < i → (nthP W j).2 ≤ s) ∧ ∀ x, t ≤ x → x < s → ∃ y, x ≤ y ∧ y < x + k ∧ Inn W y = true) (fun (i, _, _) => N - i) (0, t, m1) rfl
    (by dsimp only; exact ⟨by omega, by omega, by omega, Mem.Grew.refl m1, fun j hj => absurd hj (by omega), fun x h1 h2 => absurd h2 (by omega)⟩) (by simp) ?_
  intro (i, s, M) ⟨a1, a2, a3, a4, a5, a6⟩
  by_cases hi : i < N
  · obtain ⟨p, q, full, rw, z1, z2, z3, z4⟩ := atP (hv1.grow a4) (y := i) (by omega)
    have gN := Mem.Grew.new M (.row 2 [[.int .i64 (nthP W i).1, .int .i64 (nthP W i).2]] true)
    have hr := hW.rt _ (nthP_mem (l := W) (i := i) (by omega))
    unfold rt at hr
    have step : ¬ (k ≤ (nthP W i).1 - s) → (∀ j, j < i + 1 → (nthP W j).2 ≤ max s (nthP W i).2) ∧ ∀ x, t ≤ x → x < max s (nthP W i).2 → ∃ y, x ≤ y ∧ y < x + k ∧ Inn W y = true := fun hno => ⟨fun j hj => by
        by_cases q : j = i
        · subst q; omega
        · have := a5 j (by omega); omega, fun x h1 h2 => by
        rcases Int.lt_or_le x s with q | q
        · exact a6 x h1 q
        · rcases Int.lt_or_le x (nthP W i).1 with w | w
          · exact ⟨(nthP W i).1, by omega, by omega, inn_at hW (j := i) (by omega) (by omega) (by omega)⟩
          · exact ⟨x, by omega, by omega, inn_at hW (j := i) (by omega) (by omega) (by omega)⟩⟩
    by_cases hs : s < (nthP W i).1
    · have ew : IntKind.u64.wrap (IntKind.u64.wrap (nthP W i).1 - IntKind.u64.wrap s) = (nthP W i).1 - s := by
        simp only [IntKind.wrap, IntKind.signed, IntKind.bits]
        simp
        omega
      by_cases hke : k ≤ (nthP W i).1 - s
      · simp (disch := omega) [-getElem?_pos, z1, z3, z4, hk, ew]
        refine h _ _ ⟨a2, fun x h1 h2 => ?_, a6⟩ ((g1.trans a4).trans gN) (by omega) a3
        rw [← Bool.not_eq_true]
        intro hx
        obtain ⟨j, hj, k1, k2⟩ := inn_idx hx
        rcases Nat.lt_trichotomy j i with w | w | w
        · have := a5 j w; omega
        · subst w; omega
        · have := hW.gapAt w hj; omega
      · obtain ⟨k1, k2⟩ := step hke
        simp (disch := omega) [-getElem?_pos, z1, z3, z4, hk, ew]
        exact again_mk (i + 1, max s (nthP W i).2, _) (by dsimp only; exact ⟨by omega, by omega, by omega, a4.trans gN, k1, k2⟩) (by dsimp only; omega) (by simp) rfl
    · obtain ⟨k1, k2⟩ := step (by omega)
      simp (disch := omega) [-getElem?_pos, z1, z3, z4]
      exact again_mk (i + 1, max s (nthP W i).2, _) (by dsimp only; exact ⟨by omega, by omega, by omega, a4.trans gN, k1, k2⟩) (by dsimp only; omega) (by simp) rfl
  · have : i = N := by omega
    subst this
    simp (disch := omega) [-getElem?_pos]
    refine h _ _ ⟨a2, fun x h1 h2 => ?_, a6⟩ (g1.trans a4) (by omega) a3
    rw [← Bool.not_eq_true]
    intro hx
    obtain ⟨j, hj, k1, k2⟩ := inn_idx hx
    have := a5 j (by omega); omega
end Go.Proofs.Ytbacmgdlhbfddaa
