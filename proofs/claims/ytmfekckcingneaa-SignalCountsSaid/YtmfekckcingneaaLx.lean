/-
  SIGNALCOUNTS and SIGNALBLOCKS, of what the functions of this seat do.
-/
import Derived.Test.YtmfekckcingneaaGx
namespace Go.Proofs.Ytmfekckcingneaa
open Go Go.AM
set_option linter.unusedVariables false
set_option linter.unusedSimpArgs false
set_option maxRecDepth 8000
set_option maxHeartbeats 4000000

/-- What waits behind i sendings. -/
def Lk (n t ov : Int) (i : Nat) : List Sg := if i = 0 then [] else [(n, t, i * ov + i - 1)]

theorem sendL_Lk {n t ov : Int} {i : Nat} (hi : i < 300) (ht : 0 ≤ t) (hov : 0 ≤ ov ∧ ov ≤ 255) : sendL (Lk n t ov i) n t ov = (Lk n t ov (i + 1), 0) := by
  by_cases h : i = 0
  · subst h; simp [sendL, Lk]
  · have h1 : 0 ≤ (i : Int) * ov := Int.mul_nonneg (by omega) hov.1
    have h2 : (i : Int) * ov ≤ (i : Int) * 255 := Int.mul_le_mul_of_nonneg_left hov.2 (by omega)
    have h3 : ((i : Int) + 1) * ov = i * ov + ov := by rw [Int.add_mul, Int.one_mul]
    have h4 : Lk n t ov i = [(n, t, i * ov + i - 1)] := by simp [Lk, h]
    have h5 : Lk n t ov (i + 1) = [(n, t, ((i + 1 : Nat) : Int) * ov + (i + 1 : Nat) - 1)] := by simp [Lk]
    have h6 : List.findIdx? (isAt n t) [(n, t, (i : Int) * ov + i - 1)] = some 0 := by simp [List.findIdx?_cons, isAt]
    rw [h4, h5]
    simp only [sendL, h6, if_neg (show ¬ t = -1 by omega)]
    simp [List.modify]
    rw [h3]
    omega

theorem counts (m0 : Mem) (x0 x1' x2' x3 : V) (h0 : IsV m0 (.int .u8) x0) (h1 : IsV m0 (.int .u8) x1') (h2 : IsV m0 (.int .u16) x2') (h3 : IsV m0 (.int .u8) x3) : ACalls Try.prog 3 [x0, x1', x2', x3] m0 (fun r _ => r = .bool true) := by
  obtain ⟨no, rfl, w0⟩ := h0.int
  obtain ⟨t, rfl, w1⟩ := h1.int
  obtain ⟨tms, rfl, w2⟩ := h2.int
  obtain ⟨ov, rfl, w3⟩ := h3.int
  replace w0 := wf_u8 w0
  replace w1 := wf_u8 w1
  replace w2 := wf_u16 w2
  replace w3 := wf_u8 w3
  refine run_on x2 hm c3 (by simp) fun hf => ?_
  have e1 : no.tmod 63 = no % 63 := Int.tmod_eq_emod_of_nonneg (by omega)
  have e2 : tms.tmod 300 = tms % 300 := Int.tmod_eq_emod_of_nonneg (by omega)
  simp (disch := omega) [b3, F6]
  refine new_calls fun r m1 hQ hr hg => ?_
  simp (disch := omega) [e1, e2]
  obtain ⟨n, hn⟩ : ∃ n : Int, 1 + no % 63 = n := ⟨_, rfl⟩
  obtain ⟨k, hk⟩ : ∃ k : Nat, 1 + tms % 300 = k := ⟨(1 + tms % 300).toNat, by omega⟩
  rw [hn, hk]
  refine exec_loopU (σ := Nat × List Nat × Mem) (fun (i, _, _) => [(31, .int .i64 i)]) (fun (_, _, M) => M) (fun (i, D, M) => i ≤ k ∧ Queue M D r (Lk n t ov i) (fun _ => false)) (fun (i, _, _) => k - i) (0, [r], m1) rfl ⟨by omega, hQ⟩ (by simp) ?_
  intro (i, D, M) ⟨a1, a2⟩
  by_cases hi : i < k
  · simp (disch := omega)
    refine send_calls a2 (fun h => by omega) fun _ _ _ _ m' D' q1 q2 => ?_
    rw [show min ov 2147483647 = ov by omega, sendL_Lk (by omega) (by omega) (by omega)] at q1 ⊢
    simp (disch := omega)
    exact again_mk (i + 1, D', m') ⟨by omega, q1⟩ (by dsimp only; omega) (by simp) rfl
  · have hik : i = k := by omega
    subst hik
    have h4 : Lk n t ov i = [(n, t, i * ov + i - 1)] := by simp [Lk, show i ≠ 0 by omega]
    rw [h4] at a2
    have ho : openAt [(n, t, (i : Int) * ov + i - 1)] (fun _ => false) = 0 := by simp [openAt, idxI, List.findIdx?_cons, isOpen]
    simp (disch := omega)
    refine take_calls a2 (fun h => by rw [ho] at h; omega) fun j s q1 q2 m2 D2 q3 q4 => ?_
    rw [ho] at q1
    have : j = 0 := by omega
    subst this
    simp at q2 q3
    subst q2
    simp (disch := omega) [sg]
    have hq5 := q3.grow (Mem.Grew.new m2 (.row 3 [[.int .i64 n, .int .i64 t, .int .i64 (i * ov + i - 1)]] true))
    have hl := q3.lt
    have ho2 : openAt [] (fun _ => false) = -1 := rfl
    refine take_calls hq5 (fun h m3 q6 q7 => ?_) fun j s q1 q2 => by rw [ho2] at q1; omega
    have k1 := q7.obj m2.next (by simp) (fun e => by have := hl _ e; omega)
    have k2 := q7.next
    simp at k1 k2
    have hb1 : 0 ≤ (i : Int) * ov := Int.mul_nonneg (by omega) w3.1
    have hb2 : (i : Int) * ov ≤ (i : Int) * 255 := Int.mul_le_mul_of_nonneg_left w3.2 (by omega)
    simp (disch := omega) [sg, k1]

end Go.Proofs.Ytmfekckcingneaa
