/-
  ZONEBACK, of what the functions of this seat do.
-/
import Derived.Test.YtikapnnabemedaaHx
namespace Go.Proofs.Ytikapnnabemedaa
open Go Go.AM
set_option linter.unusedVariables false
set_option linter.unusedSimpArgs false
set_option maxRecDepth 60000
set_option maxHeartbeats 4000000

theorem one_cut (s c : Int) : cutN [(5, s)] c - 1 = 0 := by
  have : cutN [(5, s)] c ≤ 1 := List.countP_le_length
  omega
theorem one_off (s c : Int) : offI [(5, s)] c = s := by unfold offI; rw [one_cut]; rfl
theorem one_tm (s c : Int) : tmU [(5, s)] c 1 = [c - s] := by
  show [] ++ (if cutN [(5, s)] (c - s) - 1 = 0 then [c - s] else []) = [c - s]
  rw [one_cut, if_pos rfl]; rfl
theorem one_rt {s : Int} (h : -86400 ≤ s ∧ s ≤ 86400) : Rt [(5, s)] := by
  refine ⟨by simp, fun i hi => ?_⟩
  have : i = 0 := by simpa using hi
  subst this
  refine ⟨?_, ?_, ?_, ?_, fun h => by omega⟩ <;> simp [nthP] <;> omega

theorem back (m0 : Mem) (x0 x1' x2' : V) (h0 : IsV m0 (.slice 2 (.struct [.int .i64, .int .i64])) x0) (h1 : IsV m0 (.int .i32) x1') (h2 : IsV m0 (.int .i32) x2') : ACalls Try.prog 4 [x0, x1', x2'] m0 (fun r _ => r = .bool true) := by
  obtain ⟨t, rfl, hwt⟩ := h1.int
  obtain ⟨sm, rfl, hws⟩ := h2.int
  replace hwt := wf_i32 hwt
  replace hws := wf_i32 hws
  refine run_on x1 hm c4 (by simp) fun hf => ?_
  obtain ⟨l, hv, hml, hwf⟩ := h0.slP hf
  obtain ⟨N, hN, hv1⟩ := lenP hv
  by_cases hl : (60 : Int) < N
  · simp (disch := omega) [b4, F5, hv1]
  simp (disch := omega) [b4, F5, hv1]
  refine right_calls hv (by omega) fun m1 g1 => ?_
  by_cases hr : Rt l
  case neg =>
    rw [decide_eq_false hr]
    simp (disch := omega) [-getElem?_pos]
  rw [decide_eq_true hr]
  simp (disch := omega) [-getElem?_pos]
  refine new_calls (hv.grow g1) (by omega) (fun hno => absurd hr hno) (fun _ r m2 g2 hz => ?_)
  simp (disch := omega) [-getElem?_pos]
  refine local_calls hz fun m3 g3 => ?_
  have hct : cl t = t := cl_id (by omega) (by omega)
  have hor := offI_rng hr t
  have hix := cutN_le hr t
  rw [hct]
  simp (disch := omega) [-getElem?_pos]
  refine times_calls (hz.grow g3) fun v m4 zs hp ho g4 => ?_
  have hcl : cl (t + offI l t) = t + offI l t := cl_id (by omega) (by omega)
  rw [hcl] at hp
  have hmem : t ∈ zs := by
    refine hp.mem_iff.2 ?_
    have e : t + offI l t - (nthP l (cutN l t - 1)).2 = t := by unfold offI; omega
    have := tmU_mem (l := l) (c := t + offI l t) (i := cutN l t - 1) (by rw [e]) l.length (by have := hr.1.1; omega)
    rw [e] at this; exact this
  obtain ⟨k, hk, hkt⟩ : ∃ k, k < zs.length ∧ nth zs k = t := by
    obtain ⟨k, hk, e⟩ := List.mem_iff_getElem.1 hmem
    refine ⟨k, hk, ?_⟩
    have := nth_get (zs := zs) hk
    rw [List.getElem?_eq_getElem hk] at this
    injection this with this; rw [← this, e]
  have hzl : zs.length ≤ N := by rw [hp.length_eq, ← hN]; exact tmU_length _ _ _
  obtain ⟨n, hn⟩ : ∃ n, zs.length = n := ⟨_, rfl⟩
  have hvl := ho.sl.lenSl
  rw [rowI_length, hn] at hvl
  rw [hn] at hk hzl
  have hsr : -86399 ≤ sm.tmod 86400 ∧ sm.tmod 86400 ≤ 86399 := by
    have a := Int.tmod_lt_of_pos sm (show (0 : Int) < 86400 by omega)
    have b := Int.tmod_lt_of_pos (-sm) (show (0 : Int) < 86400 by omega)
    rw [Int.neg_tmod] at b
    omega
  obtain ⟨s, hs⟩ : ∃ s, sm.tmod 86400 = s := ⟨_, rfl⟩
  rw [hs] at hsr
  simp (disch := omega) [-getElem?_pos, hvl]
  refine exec_loopU (σ := Nat) (fun i => [(8, .bool (decide (t ∈ zs.take i))), (33, .int .i64 i)]) (fun _ => m4) (fun i => i ≤ n) (fun i => n - i) 0 rfl (by omega) (by simp) ?_
  intro i a1
  by_cases hi : i < n
  · obtain ⟨p, q, full, rw, z1, z2, z3, z4⟩ := at1 ho.sl (y := i) (by omega)
    have e1 := takeS (nth_get (zs := zs) (show i < zs.length by omega))
    obtain ⟨x, hx⟩ : ∃ x, nth zs i = x := ⟨_, rfl⟩
    rw [hx] at e1 z4
    by_cases hin : t ∈ zs.take i
    · have e2 : decide (t ∈ zs.take (i + 1)) = true := decide_eq_true (by rw [e1]; simp [hin])
      rw [decide_eq_true hin]
      simp (disch := omega) [-getElem?_pos, z1, z3, z4]
      exact again_mk (i + 1) (by omega) (by omega) (by simp only [e2]; simp) rfl
    · rw [decide_eq_false hin]
      by_cases hxt : x = t
      · have e2 : decide (t ∈ zs.take (i + 1)) = true := decide_eq_true (by rw [e1]; simp [hxt])
        simp (disch := omega) [-getElem?_pos, z1, z3, z4]
        exact again_mk (i + 1) (by omega) (by omega) (by simp only [e2]; simp) rfl
      · have e2 : decide (t ∈ zs.take (i + 1)) = false := decide_eq_false (by rw [e1]; simp [hin]; exact fun e => hxt e.symm)
        simp (disch := omega) [-getElem?_pos, z1, z3, z4]
        exact again_mk (i + 1) (by omega) (by omega) (by simp only [e2]; simp) rfl
  · have : i = n := by omega
    subst this
    have e2 : decide (t ∈ zs.take i) = true := decide_eq_true (by rw [List.take_of_length_le (by omega)]; exact hmem)
    simp only [e2]
    simp (disch := omega) [-getElem?_pos, hs]
    have hv1' : Sl (m4.new (.row 2 [[.int .i64 5, .int .i64 s]] true)) 2 (.sl (some (m4.next, 0, 2)) 1 (some 1)) (rowP [(5, s)]) := ⟨_, _, rfl, fun _ => ⟨m4.next, 0, [[.int .i64 5, .int .i64 s]], true, rfl, by simp, by simp, by simp [rowP], fun j hj => by rw [Nat.zero_add]; rfl⟩⟩
    refine new_calls hv1' (by simp) (fun hno => absurd (one_rt (s := s) (by omega)) hno) (fun hr1 r2 m5 g5 hz2 => ?_)
    simp (disch := omega) [-getElem?_pos]
    refine local_calls hz2 fun m6 g6 => ?_
    rw [hct, one_off]
    simp (disch := omega) [-getElem?_pos]
    have hc2 : cl (t + s) = t + s := cl_id (by omega) (by omega)
    refine first_calls (x := t) (hz2.grow g6) (by rw [hc2]; show tmU [(5, s)] (t + s) 1 = [t]; rw [one_tm]; congr 1; omega) fun m7 g7 => ?_
    simp (disch := omega) [-getElem?_pos]
    refine times_calls ((hz2.grow g6).grow g7) fun v2 m8 zs2 hp2 ho2 g8 => ?_
    have : tmU [(5, s)] (cl t) [((5 : Int), s)].length = [cl t - s] := one_tm s (cl t)
    rw [this, List.perm_singleton] at hp2
    subst hp2
    have hl2 := ho2.sl.lenSl
    rw [rowI_length] at hl2
    simp (disch := omega) [-getElem?_pos, hl2]
end Go.Proofs.Ytikapnnabemedaa
