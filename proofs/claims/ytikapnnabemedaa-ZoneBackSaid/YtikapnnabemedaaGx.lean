/-
  WHAT A ZONE TELLS, in plain words.
-/
import Derived.Test.YtikapnnabemedaaSx
namespace Go.Proofs.Ytikapnnabemedaa
open Go Go.AM
set_option linter.unusedVariables false
set_option linter.unusedSimpArgs false
set_option maxRecDepth 20000
set_option maxHeartbeats 4000000

/-- How many rules have begun at a time. -/
def cutN (l : List (Int × Int)) (t : Int) : Nat := (l.map (·.1)).countP fun z => decide (z ≤ t)
theorem nth_map1 {l : List (Int × Int)} (i : Nat) (h : i < l.length) : nth (l.map (·.1)) i = (nthP l i).1 := by
  simp [nth, nthP, List.getD_eq_getElem?_getD, h]
theorem Rt.sorted {l : List (Int × Int)} (h : Rt l) : (l.map (·.1)).Pairwise (· ≤ ·) := by
  rw [List.pairwise_iff_getElem]
  intro i j hi hj hij
  simp only [List.length_map] at hi hj
  have := h.lt j i hij hj
  have e1 := nth_map1 i hi
  have e2 := nth_map1 j hj
  rw [nth_elem (by simpa using hi), nth_elem (by simpa using hj)]; omega
theorem Rt.cut {l : List (Int × Int)} (h : Rt l) (t : Int) : Turns (fun i => decide (t < nth (l.map (·.1)) i)) l.length ∧ Cut (fun i => decide (t < nth (l.map (·.1)) i)) l.length (cutN l t) := by
  have := cut_sorted h.sorted t
  rw [List.length_map] at this
  exact this
theorem cutN_le {l : List (Int × Int)} (h : Rt l) (t : Int) : cutN l t ≤ l.length := (h.cut t).2.1
theorem cutN_lt {l : List (Int × Int)} (h : Rt l) {t : Int} {i : Nat} (hi : i < cutN l t) : (nthP l i).1 ≤ t := by
  have h1 := (h.cut t).2.2.1 i hi
  have h2 := cutN_le h t
  dsimp only at h1
  rw [nth_map1 i (by omega)] at h1
  simpa using h1
theorem cutN_ge {l : List (Int × Int)} (h : Rt l) {t : Int} {i : Nat} (h1 : cutN l t ≤ i) (h2 : i < l.length) : t < (nthP l i).1 := by
  have h3 := (h.cut t).2.2.2 i h1 h2
  dsimp only at h3
  rw [nth_map1 i h2] at h3
  simpa using h3

theorem at_calls {m : Mem} {r : Nat} {l : List (Int × Int)} (hz : Zo m r l) {t : Int} {K : KV} (h : ∀ m', m.Grew m' → K (.int .i64 ((cutN l t - 1 : Nat) : Int)) m') : ACalls Try.prog 19 [.ptr (some (r, 0, 0)), .int .i64 t] m K := by
  refine run_on x1 hm c19 (by simp) fun hf => ?_
  obtain ⟨q, h1, h2, h3⟩ := hz.ex
  have hlt := hz.lt
  obtain ⟨ht, hc⟩ := hz.rt.cut t
  have hl := hz.rt.1.2
  obtain ⟨N, hN⟩ : ∃ N, l.length = N := ⟨_, rfl⟩
  have hcl := cutN_le hz.rt t
  rw [hN] at h2 ht hc hl hcl
  simp (disch := omega) [-getElem?_pos, b19, h2]
  refine search_calls hm c16 (by omega) (by omega) (fun i => decide (t < nth (l.map (·.1)) i)) (fun i K hi hK => ?_) ht fun r' hr' => ?_
  · refine run_on (ctx_nil _) hm c21 (by simp) fun hf => ?_
    have hg : (rowP l)[i]? = some [.int .i64 (nthP l i).1, .int .i64 (nthP l i).2] := rowP_get (by omega)
    rw [nth_map1 i (by omega)] at hK
    simp (disch := omega) [-getElem?_pos, b21, h2, h3, hg]
    exact hK
  · have := hr'.unique hc
    subst this
    have e : max (((cutN l t : Nat) : Int) - 1) 0 = ((cutN l t - 1 : Nat) : Int) := by omega
    simp (disch := omega) [-getElem?_pos, e]
    exact h _ ((Mem.Grew.new m _).trans (Mem.Grew.new _ _))

/-- The offset that counts. -/
def offI (l : List (Int × Int)) (t : Int) : Int := (nthP l (cutN l t - 1)).2
theorem offI_rng {l : List (Int × Int)} (h : Rt l) (t : Int) : -86400 ≤ offI l t ∧ offI l t ≤ 86400 := by
  have h1 := cutN_le h t
  have h2 := h.1.1
  have := h.2 (cutN l t - 1) (by omega)
  exact ⟨this.2.2.1, this.2.2.2.1⟩

theorem offset_nil {m : Mem} {t : Int} {K : KV} (h : K (.int .i64 0) m) : ACalls Try.prog 9 [.ptr none, .int .i64 t] m K := by
  refine run_on x1 hm c9 (by simp) fun hf => ?_
  simp (disch := omega) [-getElem?_pos, b9]
  exact h
theorem offset_calls {m : Mem} {r : Nat} {l : List (Int × Int)} (hz : Zo m r l) {t : Int} {K : KV} (h : ∀ m', m.Grew m' → K (.int .i64 (offI l (cl t))) m') : ACalls Try.prog 9 [.ptr (some (r, 0, 0)), .int .i64 t] m K := by
  refine run_on x1 hm c9 (by simp) fun hf => ?_
  obtain ⟨q, h1, h2, h3⟩ := hz.ex
  have hlt := hz.lt
  have hcl := cutN_le hz.rt (cl t)
  have hl1 := hz.rt.1.1
  obtain ⟨N, hN⟩ : ∃ N, l.length = N := ⟨_, rfl⟩
  rw [hN] at h2 hcl hl1
  obtain ⟨ix, hix⟩ : ∃ ix, cutN l (cl t) - 1 = ix := ⟨_, rfl⟩
  have hg : (rowP l)[ix]? = some [.int .i64 (nthP l ix).1, .int .i64 (nthP l ix).2] := rowP_get (by omega)
  unfold offI at h
  rw [hix] at h
  have fin : ∀ (K' : KV), (∀ m', m.Grew m' → K' (.int .i64 ix) m') → ACalls Try.prog 19 [.ptr (some (r, 0, 0)), .int .i64 (cl t)] m K' := fun K' hk => at_calls hz (t := cl t) fun m' g => by rw [hix]; exact hk m' g
  simp (disch := omega) [-getElem?_pos, b9]
  refine drawT_J (fun e m' => m.Grew m' ∧ e = keep [4] (Env.none.put (some 4) (.int .i64 (nthP l ix).2))) ?_ ?_
  · simp (disch := omega) [-getElem?_pos, h2, F12]
    refine ⟨?_, ?_, ?_⟩
    all_goals
      refine fin _ fun m' g => ?_
      have k2 := g.obj r hlt
      have k3 := g.obj q h1
      rw [h2] at k2; rw [h3] at k3
      simp (disch := omega) [-getElem?_pos, k2, k3, hg]
      exact g
  · rintro e' m' ⟨g, rfl⟩
    simp (disch := omega) [-getElem?_pos]
    exact h _ g

theorem local_nil {m : Mem} {t : Int} {K : KV} (h : K (.int .i64 t) m) : ACalls Try.prog 10 [.ptr none, .int .i64 t] m K := by
  refine run_on x1 hm c10 (by simp) fun hf => ?_
  simp (disch := omega) [-getElem?_pos, b10]
  exact h
theorem local_calls {m : Mem} {r : Nat} {l : List (Int × Int)} (hz : Zo m r l) {t : Int} {K : KV} (h : ∀ m', m.Grew m' → K (.int .i64 (cl t + offI l (cl t))) m') : ACalls Try.prog 10 [.ptr (some (r, 0, 0)), .int .i64 t] m K := by
  refine run_on x1 hm c10 (by simp) fun hf => ?_
  have h1 := cl_rng t
  have h2 := offI_rng hz.rt (cl t)
  simp (disch := omega) [-getElem?_pos, b10, F12]
  refine offset_calls hz fun m' g => ?_
  simp (disch := omega) [-getElem?_pos]
  exact h _ g

theorem next_nil {m : Mem} {t : Int} {K : KV} (h : ∀ m', m.Grew m' → K (.tup [.int .i64 0, .bool false]) m') : ACalls Try.prog 8 [.ptr none, .int .i64 t] m K := by
  refine run_on x1 hm c8 (by simp) fun hf => ?_
  simp (disch := omega) [-getElem?_pos, b8]
  exact h _ ((Mem.Grew.new m _).trans (Mem.Grew.new _ _))
theorem next_calls {m : Mem} {r : Nat} {l : List (Int × Int)} (hz : Zo m r l) {t : Int} {K : KV} (h : ∀ m', m.Grew m' → K (.tup [.int .i64 (if cutN l (cl t) < l.length then (nthP l (cutN l (cl t))).1 else 0), .bool (decide (cutN l (cl t) < l.length))]) m') : ACalls Try.prog 8 [.ptr (some (r, 0, 0)), .int .i64 t] m K := by
  refine run_on x1 hm c8 (by simp) fun hf => ?_
  obtain ⟨q, h1, h2, h3⟩ := hz.ex
  have hlt := hz.lt
  obtain ⟨ht, hc⟩ := hz.rt.cut (cl t)
  have hl := hz.rt.1.2
  obtain ⟨N, hN⟩ : ∃ N, l.length = N := ⟨_, rfl⟩
  have hcl := cutN_le hz.rt (cl t)
  rw [hN] at h2 ht hc hl hcl h
  simp (disch := omega) [-getElem?_pos, b8, h2]
  refine search_calls hm c16 (by omega) (by omega) (fun i => decide (cl t < nth (l.map (·.1)) i)) (fun i K hi hK => ?_) ht fun r' hr' => ?_
  · refine run_on x1 hm c17 (by simp) fun hf => ?_
    have hg : (rowP l)[i]? = some [.int .i64 (nthP l i).1, .int .i64 (nthP l i).2] := rowP_get (by omega)
    rw [nth_map1 i (by omega)] at hK
    simp (disch := omega) [-getElem?_pos, b17]
    refine drawT_one ⟨_, _, by simp (disch := omega) [-getElem?_pos, h2, h3, hg, F12]; exact ⟨rfl, rfl⟩, ?_⟩
    simp (disch := omega) [-getElem?_pos]
    exact hK
  · have := hr'.unique hc
    subst this
    obtain ⟨ix, hix⟩ : ∃ ix, cutN l (cl t) = ix := ⟨_, rfl⟩
    rw [hix] at h hcl ⊢
    by_cases hi : ix < N
    · have hg : (rowP l)[ix]? = some [.int .i64 (nthP l ix).1, .int .i64 (nthP l ix).2] := rowP_get (by omega)
      rw [if_pos hi, decide_eq_true hi] at h
      simp (disch := omega) [-getElem?_pos, h2, h3, hg]
      exact h _ ((Mem.Grew.new m _).trans (Mem.Grew.new _ _))
    · rw [if_neg hi, decide_eq_false hi] at h
      simp (disch := omega) [-getElem?_pos, h2]
      exact h _ ((Mem.Grew.new m _).trans (Mem.Grew.new _ _))

/-- The offset, by going through all rules. -/
theorem offsetR_calls {m : Mem} {v : V} {l : List (Int × Int)} (hv : Sl m 2 v (rowP l)) (hr : Rt l) {t : Int} {K : KV} (h : ∀ m', m.Grew m' → K (.int .i64 (offI l t)) m') : ACalls Try.prog 13 [v, .int .i64 t] m K := by
  obtain ⟨N, hN, hv1⟩ := lenP hv
  have hl := hr.1
  have hcl := cutN_le hr t
  refine run_on x1 hm c13 (by simp) fun hf => ?_
  obtain ⟨p, q, full, rw, z1, z2, z3, z4⟩ := atP hv (y := 0) (by omega)
  simp only [Int.ofNat_zero, Int.natCast_zero] at z1
  simp (disch := omega) [-getElem?_pos, b13, hv1, z1, z3, z4]
  refine exec_loopU (σ := Nat × Mem) (fun (i, _) => [(5, .int .i64 (nthP l (min i (cutN l t) - 1)).2), (14, .int .i64 i)]) (fun (_, M) => M) (fun (i, M) => i ≤ N ∧ m.Grew M) (fun (i, _) => N - i) (0, m) rfl
    (by dsimp only; exact ⟨by omega, Mem.Grew.refl m⟩) (by simp) ?_
  intro (i, M) ⟨a1, a2⟩
  by_cases hi : i < N
  · obtain ⟨p, q, full, rw, z1, z2, z3, z4⟩ := atP (hv.grow a2) (y := i) (by omega)
    by_cases hc : i < cutN l t
    · have hle := cutN_lt hr hc
      have e : min (i + 1) (cutN l t) - 1 = i := by omega
      simp (disch := omega) [-getElem?_pos, z1, z3, z4]
      exact again_mk (i + 1, _) (by dsimp only; exact ⟨by omega, a2.trans (Mem.Grew.new M _)⟩) (by dsimp only; omega) (by simp [e]) rfl
    · have hge := cutN_ge hr (t := t) (i := i) (by omega) (by omega)
      have e : min (i + 1) (cutN l t) = cutN l t := by omega
      have e2 : min i (cutN l t) = cutN l t := by omega
      simp (disch := omega) [-getElem?_pos, z1, z3, z4]
      exact again_mk (i + 1, _) (by dsimp only; exact ⟨by omega, a2.trans (Mem.Grew.new M _)⟩) (by dsimp only; omega) (by simp [e, e2]) rfl
  · have : i = N := by omega
    subst this
    have e : min i (cutN l t) - 1 = cutN l t - 1 := by omega
    unfold offI at h
    simp (disch := omega) [-getElem?_pos, e]
    exact h _ a2
end Go.Proofs.Ytikapnnabemedaa
