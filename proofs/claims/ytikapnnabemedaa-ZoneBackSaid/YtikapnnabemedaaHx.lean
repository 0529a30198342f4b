/-
  THE TIMES of a local one; ZONETELLS and ZONEBACK, of what the functions of this seat do.
-/
import Derived.Test.YtikapnnabemedaaGx
namespace Go.Proofs.Ytikapnnabemedaa
open Go Go.AM
set_option linter.unusedVariables false
set_option linter.unusedSimpArgs false
set_option maxRecDepth 60000
set_option maxHeartbeats 4000000

/-- The times of a local one, rule by rule. -/
def tmU (l : List (Int × Int)) (c : Int) : Nat → List Int
  | 0 => []
  | n + 1 => tmU l c n ++ if cutN l (c - (nthP l n).2) - 1 = n then [c - (nthP l n).2] else []
theorem tmU_length (l : List (Int × Int)) (c : Int) : ∀ n, (tmU l c n).length ≤ n
  | 0 => by simp [tmU]
  | n + 1 => by have := tmU_length l c n; simp only [tmU, List.length_append]; split <;> simp <;> omega
theorem tmU_mem {l : List (Int × Int)} {c : Int} {i : Nat} (h : cutN l (c - (nthP l i).2) - 1 = i) : ∀ n, i < n → c - (nthP l i).2 ∈ tmU l c n
  | 0, hi => by omega
  | n + 1, hi => by
    simp only [tmU, List.mem_append]
    by_cases e : i = n
    · subst e; right; rw [if_pos h]; simp
    · exact .inl (tmU_mem h n (by omega))

theorem times_nil {m : Mem} {t : Int} {K : KV} (h : K (.sl none 0 (some 0)) m) : ACalls Try.prog 11 [.ptr none, .int .i64 t] m K := by
  refine run_on x1 hm c11 (by simp) fun hf => ?_
  simp (disch := omega) [-getElem?_pos, b11]
  exact h
theorem times_calls {m : Mem} {r : Nat} {l : List (Int × Int)} (hz : Zo m r l) {t : Int} {K : KV} (h : ∀ v m' zs, zs.Perm (tmU l (cl t) l.length) → Ows m' 1 v (rowI .i64 zs) → m.Grew m' → K v m') : ACalls Try.prog 11 [.ptr (some (r, 0, 0)), .int .i64 t] m K := by
  refine run_on x1 hm c11 (by simp) fun hf => ?_
  obtain ⟨q, h1, h2, h3⟩ := hz.ex
  have hlt := hz.lt
  have hl := hz.rt.1.2
  have hcr := cl_rng t
  have hv := sl_zone h1 h3
  obtain ⟨N, hN⟩ : ∃ N, l.length = N := ⟨_, rfl⟩
  obtain ⟨c, hc⟩ : ∃ c, cl t = c := ⟨_, rfl⟩
  rw [hN] at h2 hl h hv
  rw [hc] at h hcr
  simp (disch := omega) [-getElem?_pos, b11, h2]
  refine exec_loopU (σ := Nat × V × Mem) (fun (i, u, _) => [(5, u), (16, .int .i64 i)]) (fun (_, _, M) => M) (fun (i, u, M) => i ≤ N ∧ Ows M 1 u (rowI .i64 (tmU l c i)) ∧ m.Grew M ∧ (∀ p ∈ u.fp, m.next ≤ p) ∧ (tmU l c i = [] → u = .sl none 0 (some 0))) (fun (i, _, _) => N - i) (0, .sl none 0 (some 0), m) rfl
    (by dsimp only; exact ⟨by omega, Ows.nil _ _, Mem.Grew.refl m, by simp [V.fp], fun _ => rfl⟩) (by simp) ?_
  intro (i, u, M) ⟨a1, a2, a3, a4, a5⟩
  by_cases hi : i < N
  · obtain ⟨p, q', full, rw, z1, z2, z3, z4⟩ := atP (hv.grow a3) (y := i) (by omega)
    have hok := hz.rt.2 i (by omega)
    have hll := tmU_length l c i
    have hs : tmU l c (i + 1) = tmU l c i ++ if cutN l (c - (nthP l i).2) - 1 = i then [c - (nthP l i).2] else [] := rfl
    obtain ⟨f, hF⟩ : ∃ f, (nthP l i).1 = f := ⟨_, rfl⟩
    obtain ⟨o, hO⟩ : ∃ f, (nthP l i).2 = f := ⟨_, rfl⟩
    unfold okAt at hok
    rw [hO] at hs hok
    rw [hF, hO] at z4
    have ho1 : -86400 ≤ o := hok.2.2.1
    have ho2 : o ≤ 86400 := hok.2.2.2.1
    clear hok
    simp (disch := omega) [-getElem?_pos, z1, z3, z4]
    refine drawT_one ⟨_, _, by simp (disch := omega) [-getElem?_pos, F12, hc]; exact ⟨rfl, rfl⟩, ?_⟩
    simp (disch := omega) [-getElem?_pos]
    have gn := Mem.Grew.new M (.row 2 [[.int .i64 f, .int .i64 o]] true)
    refine at_calls ((hz.grow a3).grow gn) fun M2 g2 => ?_
    have g3 := (a3.trans gn).trans g2
    obtain ⟨ix, hix⟩ : ∃ ix, cutN l (c - o) - 1 = ix := ⟨_, rfl⟩
    rw [hix] at hs ⊢
    by_cases he : ix = i
    · rw [if_pos he] at hs
      subst he
      simp (disch := omega) [-getElem?_pos, eltsOf, Mem.elts]
      refine (((a2.grow gn).grow g2).grow (Mem.Grew.new M2 (.row 1 [[.int .i64 (c - o)]] true))).app (by rw [rowI_length]; omega) (by rw [rowI_length]; omega) fun u' M' w1 w2 w3 => ?_
      simp (disch := omega)
      have w2' : Stp M M' u.fp u'.fp := ((Stp.grow gn _).trans (Stp.grow g2 _)).trans ((Stp.new M2 _ u.fp).trans w2)
      refine again_mk (ix + 1, u', M') ?_ (by dsimp only; omega) (by simp) rfl
      dsimp only
      exact ⟨by omega, by rw [hs, ← rowI_append]; exact w1, w2'.toGrew a3 a4, w2'.ge a3.next a4, fun e => by rw [hs] at e; simp at e⟩
    · rw [if_neg he, List.append_nil] at hs
      simp (disch := omega) [-getElem?_pos]
      refine again_mk (i + 1, u, M2) ?_ (by dsimp only; omega) (by simp) rfl
      dsimp only
      exact ⟨by omega, by rw [hs]; exact (a2.grow gn).grow g2, g3, a4, by rw [hs]; exact a5⟩
  · have : i = N := by omega
    subst this
    simp (disch := omega) [-getElem?_pos]
    have hll := tmU_length l c i
    by_cases h0 : tmU l c i = []
    · have := a5 h0
      subst this
      refine (sort_nil M).imp fun r m' ⟨e1, e2⟩ => ?_
      subst e1; subst e2
      simp (disch := omega) [-getElem?_pos]
      exact h _ _ [] (by rw [h0]) (Ows.nil _ _) a3
    · refine a2.sortI body20 sorts h0 (by omega) fun m2 e1 e2 e3 => ?_
      simp (disch := omega) [-getElem?_pos]
      exact h _ _ _ (List.mergeSort_perm _ _) e1 (e2.toGrew a3 a4)

theorem first_calls {m : Mem} {r : Nat} {l : List (Int × Int)} (hz : Zo m r l) {t x : Int} (hx : tmU l (cl t) l.length = [x]) {K : KV} (h : ∀ m', m.Grew m' → K (.tup [.int .i64 x, .bool true]) m') : ACalls Try.prog 14 [.ptr (some (r, 0, 0)), .int .i64 t] m K := by
  refine run_on x1 hm c14 (by simp) fun hf => ?_
  simp (disch := omega) [-getElem?_pos, b14]
  refine times_calls hz fun v m1 zs hp ho g1 => ?_
  rw [hx, List.perm_singleton] at hp
  subst hp
  have hl := ho.sl.lenSl
  rw [rowI_length] at hl
  obtain ⟨p, q, full, rw, z1, z2, z3, z4⟩ := at1 ho.sl (y := 0) (by simp)
  simp only [Int.ofNat_zero, Int.natCast_zero, nth_zero] at z1 z4
  simp (disch := omega) [-getElem?_pos, hl, z1, z3, z4]
  exact h _ g1

theorem tells (m0 : Mem) (x0 x1' : V) (h0 : IsV m0 (.slice 2 (.struct [.int .i64, .int .i64])) x0) (h1 : IsV m0 (.int .i64) x1') : ACalls Try.prog 3 [x0, x1'] m0 (fun r _ => r = .bool true) := by
  obtain ⟨t, rfl, _⟩ := h1.int
  refine run_on x1 hm c3 (by simp) fun hf => ?_
  obtain ⟨l, hv, hml, hwf⟩ := h0.slP hf
  obtain ⟨N, hN, hv1⟩ := lenP hv
  by_cases hl : (60 : Int) < N
  · simp (disch := omega) [b3, F5, hv1]
  simp (disch := omega) [b3, F5, hv1]
  refine new_calls hv (by omega) (fun hno m1 g1 => ?_) (fun hr r m1 g1 hz => ?_)
  · simp (disch := omega) [-getElem?_pos]
    refine right_calls (hv.grow g1) (by omega) fun m2 g2 => ?_
    rw [decide_eq_false hno]
    simp (disch := omega) [-getElem?_pos]
    refine next_nil fun m3 g3 => ?_
    simp (disch := omega) [-getElem?_pos]
    refine offset_nil ?_
    simp (disch := omega) [-getElem?_pos]
    refine local_nil ?_
    simp (disch := omega) [-getElem?_pos]
    refine times_nil ?_
    simp (disch := omega) [-getElem?_pos]
  · simp (disch := omega) [-getElem?_pos]
    refine right_calls (hv.grow g1) (by omega) fun m2 g2 => ?_
    rw [decide_eq_true hr]
    have hcr := cl_rng t
    have hor := offI_rng hr (cl t)
    simp (disch := omega) [-getElem?_pos, F12]
    refine next_calls (hz.grow g2) fun m3 g3 => ?_
    have g := (g1.trans g2).trans g3
    have hcl := cutN_le hr (cl t)
    obtain ⟨k, hk⟩ : ∃ k, cutN l (cl t) = k := ⟨_, rfl⟩
    have hlt := fun i (hi : i < k) => cutN_lt hr (t := cl t) (i := i) (by omega)
    have hge := fun i (hi : k ≤ i) (hi2 : i < N) => cutN_ge hr (t := cl t) (i := i) (by omega) (by omega)
    rw [hk] at hcl ⊢
    rw [hN] at hcl ⊢
    obtain ⟨nx, hnx⟩ : ∃ nx, (if k < N then (nthP l k).1 else 0) = nx := ⟨_, rfl⟩
    obtain ⟨B, hB⟩ : ∃ B, decide (k < N) = B := ⟨_, rfl⟩
    rw [hnx, hB]
    obtain ⟨c, hc⟩ : ∃ c, cl t = c := ⟨_, rfl⟩
    rw [hc] at hcr hlt hge hor
    simp (disch := omega) [-getElem?_pos, hc, hv1]
    refine exec_loopU (σ := Nat × Mem) (fun (i, _) => [(11, .int .i64 (if k < i then (nthP l k).1 else 0)), (12, .bool (decide (k < i))), (67, .int .i64 i)]) (fun (_, M) => M) (fun (i, M) => i ≤ N ∧ m3.Grew M) (fun (i, _) => N - i) (0, m3) rfl
      (by dsimp only; exact ⟨by omega, Mem.Grew.refl m3⟩) (by simp) ?_
    intro (i, M) ⟨a1, a2⟩
    by_cases hi : i < N
    · obtain ⟨p, q, full, rw, z1, z2, z3, z4⟩ := atP (hv.grow (g.trans a2)) (y := i) (by omega)
      by_cases hik : i < k
      · have := hlt i hik
        clear hlt hge
        simp (disch := omega) [-getElem?_pos, z1, z3, z4]
        exact again_mk (i + 1, _) (by dsimp only; exact ⟨by omega, a2.trans (Mem.Grew.new M _)⟩) (by dsimp only; omega) (by simp (disch := omega)) rfl
      · have := hge i (by omega) hi
        clear hlt hge
        by_cases he : i = k
        · subst he
          simp (disch := omega) [-getElem?_pos, z1, z3, z4]
          exact again_mk (i + 1, _) (by dsimp only; exact ⟨by omega, a2.trans (Mem.Grew.new M _)⟩) (by dsimp only; omega) (by simp (disch := omega)) rfl
        · simp (disch := omega) [-getElem?_pos, z1, z3, z4]
          exact again_mk (i + 1, _) (by dsimp only; exact ⟨by omega, a2.trans (Mem.Grew.new M _)⟩) (by dsimp only; omega) (by simp (disch := omega)) rfl
    · have : i = N := by omega
      subst this
      clear hlt hge
      have hz' := ((hz.grow g2).grow g3).grow a2
      simp (disch := omega) [-getElem?_pos, hnx, hB]
      refine offset_calls hz' fun m4 g4 => ?_
      rw [hc]
      simp (disch := omega) [-getElem?_pos]
      refine offsetR_calls (hv.grow ((g.trans a2).trans g4)) hr fun m5 g5 => ?_
      simp (disch := omega) [-getElem?_pos]
      refine local_calls ((hz'.grow g4).grow g5) fun m6 g6 => ?_
      rw [hc]
      simp (disch := omega) [-getElem?_pos]
      refine offsetR_calls (hv.grow ((((g.trans a2).trans g4).trans g5).trans g6)) hr fun m7 g7 => ?_
      cases B <;> simp (disch := omega) [-getElem?_pos]
end Go.Proofs.Ytikapnnabemedaa
