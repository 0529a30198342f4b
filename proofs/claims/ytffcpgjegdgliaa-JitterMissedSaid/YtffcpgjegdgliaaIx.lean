/-
  JITTERGAPS, of what the functions of this seat do.
-/
import Derived.Test.YtffcpgjegdgliaaHx
namespace Go.Proofs.Ytffcpgjegdgliaa
open Go Go.AM
set_option linter.unusedVariables false
set_option linter.unusedSimpArgs false
set_option maxRecDepth 8000
set_option maxHeartbeats 4000000

theorem srt_eq (l : List Int) : (l.mergeSort fun x y => decide (x ≤ y)) = srt l := by
  refine List.Perm.eq_of_pairwise (le := fun x y : Int => x ≤ y) (fun a b _ _ h1 h2 => by omega) ?_ (srt_sorted l) ((List.mergeSort_perm _ _).trans (srt_perm l).symm)
  refine (List.pairwise_mergeSort (le := fun x y : Int => decide (x ≤ y)) (fun a b c h1 h2 => ?_) (fun a b => ?_) l).imp fun h => by simpa using h
  · simp at h1 h2 ⊢; omega
  · simp; omega

/-- Gaps. -/
def gp (zs : List Int) (n : Nat) : List Int := (List.range n).map fun i => cl (nth zs (i + 1)) - cl (nth zs i)
theorem gp_succ (zs : List Int) (n : Nat) : gp zs (n + 1) = gp zs n ++ [cl (nth zs (n + 1)) - cl (nth zs n)] := by unfold gp; rw [List.range_succ, List.map_append]; rfl
theorem gp_length (zs : List Int) (n : Nat) : (gp zs n).length = n := by simp [gp]
theorem nth_gp {zs : List Int} {n i : Nat} (h : i < n) : nth (gp zs n) i = cl (nth zs (i + 1)) - cl (nth zs i) := by
  simp only [gp, nth, List.getD_eq_getElem?_getD, List.getElem?_map, List.getElem?_range h]; rfl

theorem gaps_calls {m : Mem} {v : V} {zs : List Int} (hv : Sl m 1 v (rowI .i64 zs)) (hl : zs.length ≤ 200) {K : KV} (h : ∀ v' m', Ows m' 1 v' (rowI .i64 (gp zs (zs.length - 1))) → m.Grew m' → (∀ p ∈ v'.fp, m.next ≤ p) → K v' m') : ACalls Try.prog 12 [v] m K := by
  obtain ⟨N, hN, hv1⟩ := len1 hv
  refine run_on x1 hm c12 (by simp) fun hf => ?_
  simp (disch := omega) [b12]
  refine exec_loopU (σ := Nat × V × Mem) (fun (k, u, _) => [(3, u), (4, .int .i64 (k + 1))]) (fun (_, _, M) => M) (fun (k, u, M) => k ≤ N - 1 ∧ Ows M 1 u (rowI .i64 (gp zs k)) ∧ m.Grew M ∧ (∀ p ∈ u.fp, m.next ≤ p)) (fun (k, _, _) => N - k) (0, .sl none 0 (some 0), m) rfl
    (by dsimp only; exact ⟨by omega, Ows.nil _ _, Mem.Grew.refl m, by simp [V.fp]⟩) (by simp) ?_
  intro (k, u, M) ⟨a1, a2, a3, a4⟩
  by_cases hk : k + 1 < N
  · obtain ⟨p, q, full, rw, z1, z2, z3, z4⟩ := at1 (hv.grow a3) (y := k + 1) (by omega)
    obtain ⟨p', q', full', rw', y1, y2, y3, y4⟩ := at1 (hv.grow a3) (y := k) (by omega)
    have r1 := cl_rng (nth zs (k + 1))
    have r2 := cl_rng (nth zs k)
    have e1 := gp_succ zs k
    obtain ⟨c, hc⟩ : ∃ c, cl (nth zs (k + 1)) = c := ⟨_, rfl⟩
    obtain ⟨c', hc'⟩ : ∃ c, cl (nth zs k) = c := ⟨_, rfl⟩
    rw [hc, hc'] at e1
    rw [hc] at r1; rw [hc'] at r2
    have z1' : iaddrV 1 v (.int .i64 ((k : Int) + 1)) = some (.ptr (some (p, q, 0))) := by rw [← z1]; simp
    have ek : (k : Int) + 1 - 1 = k := by omega
    simp (disch := omega) [-getElem?_pos, hv1]
    refine drawT_all ?_
    simp (disch := omega) [-getElem?_pos, z1', z3, z4, y1, y3, y4, F11, hc, hc', ek, eltsOf, Mem.elts]
    refine ⟨?_, ?_⟩
    all_goals
      refine (a2.grow (Mem.Grew.new M (.row 1 [[.int .i64 (c - c')]] true))).app (by rw [rowI_length, gp_length]; omega) (by rw [rowI_length, gp_length]; omega) fun u' M' w1 w2 w3 => ?_
      simp (disch := omega)
      have w2' : Stp M M' u.fp u'.fp := (Stp.new M _ u.fp).trans w2
      refine again_mk (k + 1, u', M') ?_ (by dsimp only; omega) (by simp) rfl
      dsimp only
      exact ⟨by omega, by rw [e1, ← rowI_append]; exact w1, w2'.toGrew a3 a4, w2'.ge a3.next a4⟩
  · have : k = N - 1 := by omega
    subst this
    rw [hN] at h
    simp (disch := omega) [-getElem?_pos, hv1]
    exact h _ _ a2 a3 a4

/-- The middle gap. -/
def midI (zs : List Int) : Int := nth (srt (gp zs (zs.length - 1))) ((zs.length - 2) / 2)

theorem period_calls {m : Mem} {v : V} {zs : List Int} (hv : Sl m 1 v (rowI .i64 zs)) (hl : zs.length ≤ 200) {K : KV}
    (h : ∀ m', m.Grew m' → K (.tup [.int .i64 (if 2 ≤ zs.length ∧ 0 < midI zs then midI zs else 0), .bool (decide (2 ≤ zs.length ∧ 0 < midI zs))]) m') : ACalls Try.prog 13 [v] m K := by
  obtain ⟨N, hN, hv1⟩ := len1 hv
  refine run_on x1 hm c13 (by simp) fun hf => ?_
  simp (disch := omega) [-getElem?_pos, b13]
  refine gaps_calls hv hl fun g m1 w1 w2 w3 => ?_
  rw [hN] at w1
  have hgl := w1.sl.lenSl
  rw [rowI_length, gp_length] at hgl
  by_cases h2 : N < 2
  · rw [if_neg (by rintro ⟨h3, _⟩; omega), decide_eq_false (by rintro ⟨h3, _⟩; omega)] at h
    have : N - 1 = 0 := by omega
    rw [this] at hgl
    simp (disch := omega) [-getElem?_pos, hgl]
    exact h _ w2
  · simp (disch := omega) [-getElem?_pos, hgl]
    refine w1.sortI body18 sorts (by intro e; have := congrArg List.length e; rw [gp_length] at this; simp at this; omega) (by rw [gp_length]; omega) fun m2 e1 e2 e3 => ?_
    rw [srt_eq] at e1
    have hsl : (srt (gp zs (N - 1))).length = N - 1 := by rw [srt_length, gp_length]
    obtain ⟨Q, hQ⟩ : ∃ Q, (N - 2) / 2 = Q := ⟨_, rfl⟩
    obtain ⟨p, q, full, rw, z1, z2, z3, z4⟩ := at1 e1.sl (y := Q) (by omega)
    have e4 : ((N - 1 : Nat) : Int) - 1 = ((N - 2 : Nat) : Int) := by omega
    have e5 : ((N - 2 : Nat) : Int).tdiv 2 = (Q : Int) := by rw [Int.tdiv_eq_ediv_of_nonneg (by omega)]; omega
    have g2 := e2.toGrew w2 w3
    unfold midI at h
    rw [hN, hQ] at h
    obtain ⟨x, hx⟩ : ∃ x, nth (srt (gp zs (N - 1))) Q = x := ⟨_, rfl⟩
    rw [hx] at h z4
    have hI : 0 ≤ ((N - 2 : Nat) : Int) := by omega
    by_cases hp : 0 < x
    · rw [if_pos ⟨by omega, hp⟩, decide_eq_true ⟨by omega, hp⟩] at h
      simp (disch := omega) [-getElem?_pos, hgl, e4, e5, z1, z3, z4]
      exact h _ g2
    · rw [if_neg (fun h => hp h.2), decide_eq_false (fun h => hp h.2)] at h
      simp (disch := omega) [-getElem?_pos, hgl, e4, e5, z1, z3, z4]
      exact h _ g2

theorem gaps (m0 : Mem) (x0 : V) (h0 : IsV m0 (.slice 1 (.int .i64)) x0) : ACalls Try.prog 5 [x0] m0 (fun r _ => r = .bool true) := by
  refine run_on x1 hm c5 (by simp) fun hf => ?_
  obtain ⟨zs, hv, hml, hwf⟩ := h0.slI hf
  obtain ⟨N, hN, hv1⟩ := len1 hv
  by_cases hl : (100 : Int) < N
  · simp (disch := omega) [b5, F7, hv1]
  simp (disch := omega) [b5, F7, hv1]
  refine gaps_calls hv (by omega) fun g m1 w1 w2 w3 => ?_
  rw [hN] at w1
  have hgl := w1.sl.lenSl
  rw [rowI_length, gp_length] at hgl
  simp (disch := omega) [-getElem?_pos]
  refine period_calls (hv.grow w2) (by omega) fun m2 g2 => ?_
  have w1' := w1.grow g2
  rw [hN]
  by_cases h2 : N < 2
  · rw [if_neg (by rintro ⟨h3, _⟩; omega), decide_eq_false (by rintro ⟨h3, _⟩; omega)]
    have : N - 1 = 0 := by omega
    rw [this] at hgl
    simp (disch := omega) [-getElem?_pos, hv1, hgl]
  obtain ⟨Q, hQ⟩ : ∃ Q, (N - 2) / 2 = Q := ⟨_, rfl⟩
  unfold midI
  rw [hN, hQ]
  obtain ⟨x, hx⟩ : ∃ x, nth (srt (gp zs (N - 1))) Q = x := ⟨_, rfl⟩
  rw [hx]
  obtain ⟨P, hP⟩ : ∃ P, (if 2 ≤ N ∧ 0 < x then x else 0) = P := ⟨_, rfl⟩
  obtain ⟨B, hB⟩ : ∃ B, decide (2 ≤ N ∧ 0 < x) = B := ⟨_, rfl⟩
  rw [hP, hB]
  have e0 : (N : Int) - 1 = ((N - 1 : Nat) : Int) := by omega
  have hv2 := (hv.grow w2).grow g2
  simp (disch := omega) [-getElem?_pos, hv1, hgl, e0]
  refine exec_loopU (σ := Nat) (fun i => [(42, .int .i64 i)]) (fun _ => m2) (fun i => i ≤ N - 1) (fun i => N - i) 0 rfl (by omega) (by simp) ?_
  intro i a1
  by_cases hi : i < N - 1
  · obtain ⟨p, q, full, rw, z1, z2, z3, z4⟩ := at1 hv2 (y := i + 1) (by omega)
    obtain ⟨p', q', full', rw', y1, y2, y3, y4⟩ := at1 hv2 (y := i) (by omega)
    obtain ⟨p2, q2, full2, rw2, u1, u2, u3, u4⟩ := at1 w1'.sl (y := i) (by rw [gp_length]; exact hi)
    have r1 := cl_rng (nth zs (i + 1))
    have r2 := cl_rng (nth zs i)
    rw [nth_gp hi] at u4
    obtain ⟨c, hc⟩ : ∃ c, cl (nth zs (i + 1)) = c := ⟨_, rfl⟩
    obtain ⟨c', hc'⟩ : ∃ c, cl (nth zs i) = c := ⟨_, rfl⟩
    rw [hc, hc'] at u4
    rw [hc] at r1; rw [hc'] at r2
    have z1' : iaddrV 1 x0 (.int .i64 ((i : Int) + 1)) = some (.ptr (some (p, q, 0))) := by rw [← z1]; simp
    simp (disch := omega) [-getElem?_pos]
    refine drawT_one ⟨_, _, by simp (disch := omega) [-getElem?_pos, z1', z3, z4, y1, y3, y4, u1, u3, u4, F11, hc, hc']; exact ⟨rfl, rfl⟩, ?_⟩
    simp (disch := omega) [-getElem?_pos]
    exact again_mk (i + 1) (by omega) (by omega) (by simp) rfl
  · have : i = N - 1 := by omega
    subst this
    simp (disch := omega) [-getElem?_pos]
    refine sorted_calls w1'.sl (by rw [gp_length]; omega) fun s m3 s1 s2 s3 => ?_
    have hsl : (srt (gp zs (N - 1))).length = N - 1 := by rw [srt_length, gp_length]
    obtain ⟨p, q, full, rw, z1, z2, z3, z4⟩ := at1 s1.sl (y := Q) (by omega)
    rw [hx] at z4
    have e4 : ((N - 1 : Nat) : Int) - 1 = ((N - 2 : Nat) : Int) := by omega
    have e5 : ((N - 2 : Nat) : Int).tdiv 2 = (Q : Int) := by rw [Int.tdiv_eq_ediv_of_nonneg (by omega)]; omega
    have hI : 0 ≤ ((N - 2 : Nat) : Int) := by omega
    by_cases hp : 0 < x
    · rw [if_pos ⟨by omega, hp⟩] at hP
      rw [decide_eq_true ⟨by omega, hp⟩] at hB
      subst hP; subst hB
      simp (disch := omega) [-getElem?_pos, hgl, e4, e5, z1, z3, z4]
    · rw [if_neg (fun h => hp h.2)] at hP
      rw [decide_eq_false (fun h => hp h.2)] at hB
      subst hP; subst hB
      simp (disch := omega) [-getElem?_pos, hgl, e4, e5, z1, z3, z4]
end Go.Proofs.Ytffcpgjegdgliaa
