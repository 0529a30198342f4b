/-
  THE BEST AGREEMENT, who lies, the middle: what the functions of this seat do.
-/
import Derived.Test.YtginhgjbjfndfaaSx
namespace Go.Proofs.Ytginhgjbjfndfaa
open Go Go.AM
set_option linter.unusedVariables false
set_option linter.unusedSimpArgs false
set_option maxRecDepth 20000
set_option maxHeartbeats 4000000

theorem sweep_rng : ∀ P : List Ed, (∀ e ∈ P, e.2 = 1 ∨ e.2 = -1) → 0 ≤ (sweep P).cn ∧ (sweep P).cn ≤ P.length ∧ -(P.length : Int) ≤ (sweep P).n ∧ (sweep P).n ≤ P.length := by
  intro P
  induction P using rev_indE with
  | h0 => intro _; simp [sweep, Sw.init]
  | h1 P e ih =>
    intro h
    have ih := ih fun x hx => h x (by simp [hx])
    have he := h e (by simp)
    rw [sweep_snoc]
    generalize sweep P = s at *
    unfold Sw.step
    simp only [List.length_append, List.length_cons, List.length_nil, Int.natCast_add]
    split
    · dsimp only; omega
    · split
      · dsimp only; omega
      · dsimp only; omega

theorem agree_calls {m : Mem} {v : V} {l : List (Int × Int)} (hv : Sl m 2 v (rowP l)) (hl : l.length ≤ 100) {K : KV} (h : ∀ m' lo hi cn, Best l lo hi cn → m.Grew m' → K (.tup [.agg [.int .i64 lo, .int .i64 hi, .int .i64 cn], .bool (decide (0 < cn))]) m') : ACalls Try.prog 8 [v] m K := by
  refine run_on x1 hm c8 (by simp) fun hf => ?_
  simp (disch := omega) [-getElem?_pos, b8]
  have g0 := (Mem.Grew.new m (.row 3 [[.int .i64 0, .int .i64 0, .int .i64 0]] true)).trans (Mem.Grew.new _ (.row 3 [[.int .i64 0, .int .i64 0, .int .i64 0]] true))
  refine edges_calls sorts (hv.grow g0) (by omega) fun u m1 E hp hs ho g1 hfp => ?_
  have hb : ∀ e ∈ E, e.2 = 1 ∨ e.2 = -1 := fun e he => by
    obtain ⟨x, _, _, rfl | rfl⟩ := edU_mem.1 (hp.mem_iff.1 he)
    · exact .inl rfl
    · exact .inr rfl
  have hbest := best hp hs
  have hEl : E.length ≤ 200 := by rw [hp.length_eq]; have := edU_length l; omega
  obtain ⟨N, hN, hu1⟩ := lenP ho.sl
  have oa : m1.obj m.next = some (.row 3 [[.int .i64 0, .int .i64 0, .int .i64 0]] true) := by rw [g1.obj _ (by simp <;> omega)]; simp
  have ob : m1.obj (m.next + 1) = some (.row 3 [[.int .i64 0, .int .i64 0, .int .i64 0]] true) := by rw [g1.obj _ (by simp)]; simp
  have hn1 := g1.next
  simp only [new_next] at hn1
  have g01 := g0.trans g1
  clear hp hs
  simp only [new_next] at hfp
  simp (disch := omega) [-getElem?_pos, hu1]
  refine exec_loopU (σ := Nat × Mem) (fun (i, _) => [(5, .int .i64 (sweep (E.take i)).n), (6, .bool (sweep (E.take i)).op), (12, .int .i64 i)]) (fun (_, M) => M)
    (fun (i, M) => i ≤ N ∧ m.Grew M ∧ Ows M 2 u (rowP E) ∧ m.next + 2 ≤ M.next ∧ M.obj m.next = some (.row 3 [[.int .i64 0, .int .i64 0, .int .i64 0]] true) ∧ M.obj (m.next + 1) = some (.row 3 [[.int .i64 (sweep (E.take i)).lo, .int .i64 (sweep (E.take i)).hi, .int .i64 (sweep (E.take i)).cn]] true)) (fun (i, _) => N - i) (0, m1) rfl
    (by dsimp only; exact ⟨by omega, g01, ho, by omega, oa, by simpa [sweep, Sw.init] using ob⟩) (by simp [sweep, Sw.init]) ?_
  intro (i, M) ⟨a1, a2, a3, a4, a5, a6⟩
  by_cases hi : i < N
  · obtain ⟨p, q, full, z1, z2, z3, z4, z5, z6⟩ := a3.at (rowP_get (show i < E.length by omega)) .i64
    have hpf : p ≠ m.next + 1 ∧ p ≠ m.next := by have := hfp p (by rw [z5]; simp); omega
    have e1 : sweep (E.take (i + 1)) = (sweep (E.take i)).step (nthP E i) := by rw [takeS (nthP_get (by omega)), sweep_snoc]
    have hr := sweep_rng (E.take i) fun e he => hb e (List.mem_of_mem_take he)
    have hlt : (E.take i).length = i := by simp; omega
    rw [hlt] at hr
    have he := hb _ (nthP_mem (show i < E.length by omega))
    obtain ⟨x, hx⟩ : ∃ x, nthP E i = x := ⟨_, rfl⟩
    rw [hx] at e1 z4 he
    obtain ⟨S, hS⟩ : ∃ S, sweep (E.take i) = S := ⟨_, rfl⟩
    clear z6
    dsimp only
    rw [hS] at e1 hr a6 ⊢
    obtain ⟨a, b⟩ := x
    obtain ⟨lo, hi', cn, n, op⟩ := S
    dsimp only at hr he z4 a6 ⊢
    have keep1 : ∀ M', (∀ p, p < M.next → p ≠ m.next + 1 → M'.obj p = M.obj p) → M.next ≤ M'.next → m.Grew M' ∧ Ows M' 2 u (rowP E) ∧ m.next + 2 ≤ M'.next ∧ M'.obj m.next = some (.row 3 [[.int .i64 0, .int .i64 0, .int .i64 0]] true) := fun M' h1 h2 =>
      ⟨⟨by omega, fun p hp => by rw [h1 p (by omega) (by omega)]; exact a2.obj p hp⟩, a3.keep h2 fun p hp => h1 p (a3.lt p hp) (by have := hfp p hp; omega), by omega, by rw [h1 _ (by omega) (by omega)]; exact a5⟩
    by_cases c1 : 0 < b ∧ cn < n + 1
    · obtain ⟨c2, c3⟩ := c1
      have e2 : (Sw.mk lo hi' cn n op).step (a, b) = ⟨a, a, n + 1, n + b, true⟩ := if_pos ⟨c2, c3⟩
      rw [e2] at e1
      simp (disch := omega) [-getElem?_pos, z1, z3, z4, a6]
      refine again_mk (i + 1, _) ?_ (by dsimp only; omega) (by simp [e1]) rfl
      dsimp only
      rw [e1]
      obtain ⟨k1, k2, k3, k4⟩ := keep1 ((M.new (.row 2 [[.int .i64 a, .int .i64 b]] true)).upd (m.next + 1) (some (.row 3 [[.int .i64 a, .int .i64 a, .int .i64 (n + 1)]] true))) (fun p h1 h2 => by rw [updO _ h2, newO _ (by omega)]) (by simp)
      exact ⟨by omega, k1, k2, k3, k4, by simp⟩
    · by_cases c2 : b < 0 ∧ op = true
      · obtain ⟨c3, rfl⟩ := c2
        have e2 : (Sw.mk lo hi' cn n true).step (a, b) = ⟨lo, a, cn, n + b, false⟩ := by unfold Sw.step; rw [if_neg c1, if_pos ⟨c3, rfl⟩]
        rw [e2] at e1
        simp (disch := omega) [-getElem?_pos, z1, z3, z4, a6]
        refine again_mk (i + 1, _) ?_ (by dsimp only; omega) (by simp [e1]) rfl
        dsimp only
        rw [e1]
        obtain ⟨k1, k2, k3, k4⟩ := keep1 ((M.new (.row 2 [[.int .i64 a, .int .i64 b]] true)).upd (m.next + 1) (some (.row 3 [[.int .i64 lo, .int .i64 a, .int .i64 cn]] true))) (fun p h1 h2 => by rw [updO _ h2, newO _ (by omega)]) (by simp)
        exact ⟨by omega, k1, k2, k3, k4, by simp⟩
      · have e2 : (Sw.mk lo hi' cn n op).step (a, b) = ⟨lo, hi', cn, n + b, op⟩ := by unfold Sw.step; rw [if_neg c1, if_neg c2]
        rw [e2] at e1
        have fin : i + 1 ≤ N ∧ m.Grew (M.new (.row 2 [[.int .i64 a, .int .i64 b]] true)) ∧ Ows (M.new (.row 2 [[.int .i64 a, .int .i64 b]] true)) 2 u (rowP E) ∧ m.next + 2 ≤ (M.new (.row 2 [[.int .i64 a, .int .i64 b]] true)).next ∧ (M.new (.row 2 [[.int .i64 a, .int .i64 b]] true)).obj m.next = some (.row 3 [[.int .i64 0, .int .i64 0, .int .i64 0]] true) ∧ (M.new (.row 2 [[.int .i64 a, .int .i64 b]] true)).obj (m.next + 1) = some (.row 3 [[.int .i64 lo, .int .i64 hi', .int .i64 cn]] true) := by
          obtain ⟨k1, k2, k3, k4⟩ := keep1 (M.new (.row 2 [[.int .i64 a, .int .i64 b]] true)) (fun p h1 h2 => by rw [newO _ (by omega)]) (by simp)
          exact ⟨by omega, k1, k2, k3, k4, by rw [newO _ (by omega)]; exact a6⟩
        rcases he with rfl | rfl
        · simp (disch := omega) [-getElem?_pos, z1, z3, z4, a6]
          refine again_mk (i + 1, _) ?_ (by dsimp only; omega) (by simp [e1]) rfl
          dsimp only
          rw [e1]; exact fin
        · have : op = false := by
            cases op
            · rfl
            · exact absurd ⟨by omega, rfl⟩ c2
          subst this
          simp (disch := omega) [-getElem?_pos, z1, z3, z4, a6]
          refine again_mk (i + 1, _) ?_ (by dsimp only; omega) (by simp [e1]) rfl
          dsimp only
          rw [e1]; exact fin
  · have : i = N := by omega
    subst this
    rw [List.take_of_length_le (by omega)] at a6
    generalize sweep E = S at *
    obtain ⟨lo, hi', cn, n, op⟩ := S
    dsimp only at hbest a6
    simp (disch := omega) [-getElem?_pos]
    refine drawT_one ⟨_, _, by simp (disch := omega) [-getElem?_pos, a5, a6]; exact ⟨rfl, rfl⟩, ?_⟩
    simp (disch := omega) [-getElem?_pos]
    refine h _ lo hi' cn hbest ⟨by simp; omega, fun p hp => by rw [updO _ (by omega)]; exact a2.obj p hp⟩
end Go.Proofs.Ytginhgjbjfndfaa
