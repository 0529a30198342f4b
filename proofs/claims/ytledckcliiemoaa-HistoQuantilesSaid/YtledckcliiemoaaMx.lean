/-
  HISTOQUANTILES, walked.
-/
import Derived.Test.YtledckcliiemoaaJx
namespace Go.Proofs.Ytledckcliiemoaa
open Go Go.AM
set_option linter.unusedVariables false
set_option linter.unusedSimpArgs false
set_option maxRecDepth 8000
set_option maxHeartbeats 2000000

theorem quantile0_calls {m : Mem} {r : Nat} {w : Ty} (hT : Tal m r w) (h0 : w.n = 0) {p : Int} {K : KV} (h : K (.tup [.int .i64 0, .int .i64 0, .bool false]) m) : ACalls Try.prog 17 [.ptr (some (r, 0, 0)), .int .i64 p] m K := by
  refine run_on (ctx_nil _) hm c17 (by simp) fun hf => ?_
  simp (disch := omega) [b17]
  refine count_calls hT ?_
  simp (disch := omega) [h0]
  exact h

theorem quantiles (m0 : Mem) (x0' x1' : V) (h0 : IsV m0 (.slice 1 (.int .i64)) x0') (h1 : IsV m0 (.int .u16) x1') : ACalls Try.prog 4 [x0', x1'] m0 (fun r _ => r = .bool true) := by
  obtain ⟨pm, rfl, hwp⟩ := h1.int
  replace hwp := wf_u16 hwp
  refine run_on x6 hm c4 (by simp) fun hf => ?_
  obtain ⟨l, hv, hml, hwf⟩ := h0.slI hf
  obtain ⟨N, hN, hv1⟩ := len1 hv
  clear hwf
  by_cases hl : (150 : Int) < N
  · simp (disch := omega) [b4, F6, hv1]
  simp (disch := omega) [b4, F6, hv1]
  refine new_calls fun r m1 hT hr hg => ?_
  simp (disch := omega) [hv1]
  refine exec_loopU (σ := Nat × Ty × Mem) (fun (i, _, _) => [(26, .int .i64 i)]) (fun (_, _, M) => M) (fun (i, w, M) => i ≤ N ∧ TL (l.take i) w ∧ Tal M r w ∧ m0.Grew M) (fun (i, _, _) => N - i) (0, Ty.new, m1) rfl
    ⟨by omega, TL.new, hT, hg⟩ (by simp) ?_
  clear hT hg
  intro (i, w, M) ⟨a1, a2, a3, a5⟩
  by_cases hi : i < N
  · obtain ⟨p, q, full, rw, z1, z2, z3, z4⟩ := at1 (hv.grow a5) (y := i) (by omega)
    have hb := a2.bnd (by simp; omega)
    simp (disch := omega) [-getElem?_pos, z1, z3, z4]
    refine add_calls a3 hb.1 hb.2 a2.rlo a2.rhi fun m3 s1 s2 => ?_
    simp (disch := omega)
    refine again_mk (i + 1, w.many (nth l i) 1, m3) ?_ (by dsimp only; omega) (by simp) rfl
    dsimp only
    exact ⟨by omega, by rw [takeS (nth_get (by omega))]; exact a2.snoc _, s1, s2.toGrew a5 (fun p hp => by simp at hp; omega)⟩
  have : i = N := by omega
  subst this
  rw [show l.take i = l by rw [← hN, List.take_length]] at a2
  obtain ⟨k, hk⟩ : ∃ k : Nat, pm.tmod 1001 = k := ⟨(pm.tmod 1001).toNat, by rw [Int.tmod_eq_emod_of_nonneg hwp.1]; omega⟩
  have hkr : k ≤ 1000 := by rw [Int.tmod_eq_emod_of_nonneg hwp.1] at hk; omega
  simp (disch := omega) [hk]
  have hn := a2.n
  by_cases hi0 : i = 0
  · refine quantile0_calls a3 (by omega) ?_
    simp (disch := omega) [hv1, hi0]
  have hN2 : 0 < l.length ∧ l.length ≤ 1000 := by omega
  refine quantile_calls a3 a2 hN2 fun B hB q1 q2 => ?_
  simp (disch := omega) [hv1]
  refine sorted_calls (hv.grow a5) (by omega) fun v2 m2 s1 s2 s3 => ?_
  obtain ⟨P, hP⟩ : ∃ P : Nat, i * k = P := ⟨_, rfl⟩
  have hPI : (i : Int) * k = P := by exact_mod_cast hP
  have hPr : P ≤ i * 1000 := by rw [← hP]; exact Nat.mul_le_mul_left _ hkr
  have hnd : need l.length k = max (((P : Int) + 999) / 1000) 1 := by
    unfold need; rw [hN, show min (max (k : Int) 0) 1000 = k by omega, hPI]
  have hnd2 : need l.length ((k : Int) - 1) ≤ need l.length k := by
    unfold need
    have : (l.length : Int) * min (max ((k : Int) - 1) 0) 1000 ≤ l.length * min (max (k : Int) 0) 1000 := Int.mul_le_mul_of_nonneg_left (by omega) (by omega)
    omega
  obtain ⟨nd, hnn⟩ : ∃ nd : Nat, max (((P : Int) + 999) / 1000) 1 = nd := ⟨(max (((P : Int) + 999) / 1000) 1).toNat, by omega⟩
  rw [hnd, hnn] at q1 q2 hnd2
  have hbox := srt_box (l := l) (B := B) (nd := nd) (by omega) (by omega) (by omega) (by omega)
  obtain ⟨r1, r2, r3, r4⟩ := box_rng (srt_cl l (p := nd - 1) (by omega)) hbox
  have e1 : IntKind.i64.wrap (P : Int) = P := w64 (by omega) (by omega)
  have e2 : Int.tdiv ((P : Int) + 999) 1000 = ((P : Int) + 999) / 1000 := Int.tdiv_eq_ediv_of_nonneg (by omega)
  obtain ⟨pp, q, full, rw', y1, y2, y3, y4⟩ := at1 s1.sl (y := nd - 1) (by rw [srt_length]; omega)
  have ei : ((nd - 1 : Nat) : Int) = (nd : Int) - 1 := by omega
  rw [ei] at y1
  obtain ⟨d, hd⟩ : ∃ d, nth (srt l) (nd - 1) = d := ⟨_, rfl⟩
  rw [hd] at y4 hbox r1 r2
  simp (disch := omega) [-getElem?_pos, hv1, hPI, e1, e2, hnn, y1, y3, y4]
  refine quantile_calls (a3.grow s2) a2 hN2 fun B' hB' t1 t2 => ?_
  have hBB : B' ≤ B := by
    by_cases e : B' ≤ B
    · exact e
    · have := below_mono (show B + 1 ≤ B' by omega) l
      omega
  have hll : lowI B' ≤ lowI B := by
    rw [lw_low (j := B') (b := B') (by omega), lw_low (j := B) (b := B) (by omega)]
    unfold lw
    by_cases e0 : B' = 0
    · rw [if_pos e0]
      split
      · omega
      · exact Int.pow_nonneg (by omega)
    · rw [if_neg e0, if_neg (by omega)]
      have : (2 : Nat) ^ (B' - 1) ≤ 2 ^ (B - 1) := Nat.pow_le_pow_right (by omega) (by omega)
      exact_mod_cast this
  clear t1 t2 q1 q2 hnd hnd2
  simp (disch := omega)
  refine boxR_calls ?_
  rw [r3]
  simp (disch := omega)
  refine boxR_calls ?_
  rw [hbox]
  simp (disch := omega)
  refine boxR_calls ?_
  rw [r4]
  simp (disch := omega)
  refine boxR_calls ?_
  rw [hbox]
  simp (disch := omega)

end Go.Proofs.Ytledckcliiemoaa
