/-
  WHAT EACH FUNCTION of this seat computes, in plain words.
-/
import Derived.Test.YtffcpgjegdgliaaCx
import Derived.Test.YtffcpgjegdgliaaAm25
namespace Go.Proofs.Ytffcpgjegdgliaa
open Go Go.AM
set_option linter.unusedVariables false
set_option linter.unusedSimpArgs false
set_option maxRecDepth 8000
set_option maxHeartbeats 4000000

def F7 : AFn
  | [], m => some (.bool true, m)
  | _, _ => none
theorem s7 : ASpec Try.prog 7 F7 := by
  intro args m r m' h
  unfold F7 at h; split at h <;> cases h
  exact reckon hm codeOk 200 20 rfl rfl (by kernel_rfl) _

/-- Into bounds. -/
def cl (t : Int) : Int := min (max t (-1152921504606846976)) 1152921504606846976
theorem cl_rng (t : Int) : -1152921504606846976 ≤ cl t ∧ cl t ≤ 1152921504606846976 := by unfold cl; omega
def F11 : AFn
  | [.int .i64 t], m => some (.int .i64 (cl t), m)
  | _, _ => none
theorem s17 : ASpec Try.prog 17 F11 := by
  intro args m r m' h
  unfold F11 at h; split at h <;> cases h
  refine run_on (ctx_nil _) hm c17 (by simp) fun hf => ?_
  simp [b17, cl]
theorem s11 : ASpec Try.prog 11 F11 := by
  intro args m r m' h
  unfold F11 at h; split at h <;> cases h
  rename_i t
  refine run_on (ctx_nil _) hm c11 (by simp) fun hf => ?_
  obtain ⟨c, hc⟩ : ∃ c, cl t = c := ⟨_, rfl⟩
  rw [hc]
  unfold cl at hc
  by_cases h1 : t < -1152921504606846976
  · have : c = -1152921504606846976 := by omega
    subst this
    simp (disch := omega) [b11]
  · by_cases h2 : 1152921504606846976 < t
    · have : c = 1152921504606846976 := by omega
      subst this
      simp (disch := omega) [b11]
    · have : c = t := by omega
      subst this
      simp (disch := omega) [b11]
def Per (p : Int) : Prop := 1 ≤ p ∧ p ≤ 1099511627776
instance (p : Int) : Decidable (Per p) := inferInstanceAs (Decidable (_ ∧ _))
def F16 : AFn
  | [.int .i64 p], m => some (.bool (decide (Per p)), m)
  | _, _ => none
theorem s16 : ASpec Try.prog 16 F16 := by
  intro args m r m' h
  unfold F16 at h; split at h <;> cases h
  rename_i p
  refine run_on (ctx_nil _) hm c16 (by simp) fun hf => ?_
  by_cases h1 : 1 ≤ p
  · by_cases h2 : p ≤ 1099511627776
    · rw [decide_eq_true (show Per p from ⟨h1, h2⟩)]
      simp (disch := omega) [b16]
    · rw [decide_eq_false (show ¬ Per p from fun h => h2 h.2)]
      simp (disch := omega) [b16]
  · rw [decide_eq_false (show ¬ Per p from fun h => h1 h.1)]
    simp (disch := omega) [b16]
abbrev L0 : List (FuncId × AFn) := [(11, F11), (16, F16), (17, F11)]
theorem x0 : CtxOk Try.prog (Ctx.of L0) := ctx_cons (ctx_cons (ctx_cons (ctx_nil _) s17) s16) s11

/-- How far a time is from the nearest one. -/
def errI (f p t : Int) : Int := if 2 * ((cl t - cl f) % p) > p then (cl t - cl f) % p - p else (cl t - cl f) % p
def errF (f p t : Int) : Int := if Per p then errI f p t else 0
theorem errI_rng {f p t : Int} (h : Per p) : -1099511627776 ≤ errI f p t ∧ errI f p t ≤ 1099511627776 ∧ 2 * errI f p t ≤ p ∧ -p < 2 * errI f p t := by
  obtain ⟨h1, h2⟩ := h
  have a := Int.emod_nonneg (cl t - cl f) (show p ≠ 0 by omega)
  have b := Int.emod_lt_of_pos (cl t - cl f) (show 0 < p by omega)
  unfold errI
  split <;> omega
theorem tmod_two (a : Int) {p : Int} (hp : 0 < p) : (0 ≤ a.tmod p ∧ a.tmod p = a % p) ∨ (a.tmod p < 0 ∧ a.tmod p + p = a % p) := by
  have h1 := Int.emod_nonneg a (show p ≠ 0 by omega)
  have h2 := Int.emod_lt_of_pos a hp
  rw [Int.tmod_eq_emod]
  split
  · left; omega
  · rename_i h
    have hne : a % p ≠ 0 := fun e => h (.inr (Int.dvd_of_emod_eq_zero e))
    right; omega

def F10 : AFn
  | [.int .i64 f, .int .i64 p, .int .i64 t], m => some (.int .i64 (errF f p t), m)
  | _, _ => none
theorem s10 : ASpec Try.prog 10 F10 := by
  intro args m r m' h
  unfold F10 at h; split at h <;> cases h
  rename_i f p t
  refine run_on x0 hm c10 (by simp) fun hf => ?_
  unfold errF
  by_cases hp : Per p
  · rw [if_pos hp]
    obtain ⟨h1, h2⟩ := hp
    have r1 := cl_rng t
    have r2 := cl_rng f
    have a := Int.emod_nonneg (cl t - cl f) (show p ≠ 0 by omega)
    have b := Int.emod_lt_of_pos (cl t - cl f) (show 0 < p by omega)
    have tm := tmod_two (cl t - cl f) (show 0 < p by omega)
    unfold errI
    obtain ⟨ct, hct⟩ : ∃ c, cl t = c := ⟨_, rfl⟩
    obtain ⟨cf, hcf⟩ : ∃ c, cl f = c := ⟨_, rfl⟩
    rw [hct, hcf] at tm a b ⊢
    rw [hct] at r1; rw [hcf] at r2
    obtain ⟨e, he⟩ : ∃ c, (ct - cf).tmod p = c := ⟨_, rfl⟩
    obtain ⟨d, hd⟩ : ∃ c, (ct - cf) % p = c := ⟨_, rfl⟩
    rw [he, hd] at tm
    rw [hd] at a b ⊢
    have hpp := decide_eq_true (show Per p from ⟨h1, h2⟩)
    rcases tm with ⟨q1, q2⟩ | ⟨q1, q2⟩
    · by_cases hc : 2 * d > p
      · rw [if_pos hc]
        subst q2
        simp (disch := omega) [b10, F16, F11, hpp, hct, hcf, he]
      · rw [if_neg hc]
        subst q2
        simp (disch := omega) [b10, F16, F11, hpp, hct, hcf, he]
    · by_cases hc : 2 * d > p
      · rw [if_pos hc]
        simp (disch := omega) [b10, F16, F11, hpp, hct, hcf, he, q2]
      · rw [if_neg hc]
        simp (disch := omega) [b10, F16, F11, hpp, hct, hcf, he, q2]
  · rw [if_neg hp]
    have hpp := decide_eq_false hp
    simp (disch := omega) [b10, F16, F11, hpp]
def F9 : AFn
  | [.int .i64 f, .int .i64 p, .int .i64 t], m => if Per p then some (.int .i64 (errI f p t), m) else none
  | _, _ => none
theorem s9 : ASpec Try.prog 9 F9 := by
  intro args m r m' h
  unfold F9 at h; split at h <;> try cases h
  rename_i f p t
  split at h <;> cases h
  rename_i hp
  refine run_on x0 hm c9 (by simp) fun hf => ?_
  obtain ⟨h1, h2⟩ := hp
  have r1 := cl_rng t
  have r2 := cl_rng f
  have a := Int.emod_nonneg (cl t - cl f) (show p ≠ 0 by omega)
  have b := Int.emod_lt_of_pos (cl t - cl f) (show 0 < p by omega)
  have tm := tmod_two (cl t - cl f) (show 0 < p by omega)
  unfold errI
  obtain ⟨ct, hct⟩ : ∃ c, cl t = c := ⟨_, rfl⟩
  obtain ⟨cf, hcf⟩ : ∃ c, cl f = c := ⟨_, rfl⟩
  rw [hct, hcf] at tm a b ⊢
  rw [hct] at r1; rw [hcf] at r2
  obtain ⟨e, he⟩ : ∃ c, (ct - cf).tmod p = c := ⟨_, rfl⟩
  obtain ⟨d, hd⟩ : ∃ c, (ct - cf) % p = c := ⟨_, rfl⟩
  rw [he, hd] at tm
  rw [hd] at a b ⊢
  rcases tm with ⟨q1, q2⟩ | ⟨q1, q2⟩
  · by_cases hc : 2 * d > p
    · rw [if_pos hc]
      subst q2
      simp (disch := omega) [b9, F11, hct, hcf, he]
    · rw [if_neg hc]
      subst q2
      simp (disch := omega) [b9, F11, hct, hcf, he]
  · by_cases hc : 2 * d > p
    · rw [if_pos hc]
      simp (disch := omega) [b9, F11, hct, hcf, he, q2]
    · rw [if_neg hc]
      simp (disch := omega) [b9, F11, hct, hcf, he, q2]

abbrev L1 : List (FuncId × AFn) := [(7, F7), (9, F9), (10, F10), (11, F11), (16, F16), (17, F11)]
theorem x1 : CtxOk Try.prog (Ctx.of L1) := ctx_cons (ctx_cons (ctx_cons (ctx_cons (ctx_cons (ctx_cons (ctx_nil _) s17) s16) s11) s10) s9) s7

/-- JITTERNEAR. -/
theorem near_emod {a e p : Int} (hp : 0 < p) (h : e = a % p ∨ e = a % p - p) : (a - e).tmod p = 0 := by
  refine Int.tmod_eq_zero_of_dvd ?_
  have h1 := Int.mul_ediv_add_emod a p
  rcases h with rfl | rfl
  · exact ⟨a / p, by omega⟩
  · exact ⟨a / p + 1, by rw [Int.mul_add]; omega⟩

theorem near (m0 : Mem) (x0 x1' x2' : V) (h0 : IsV m0 (.int .i64) x0) (h1 : IsV m0 (.int .i64) x1') (h2 : IsV m0 (.int .i64) x2') : ACalls Try.prog 4 [x0, x1', x2'] m0 (fun r _ => r = .bool true) := by
  obtain ⟨f, rfl, _⟩ := h0.int
  obtain ⟨p, rfl, hwp⟩ := h1.int
  obtain ⟨t, rfl, _⟩ := h2.int
  refine run_on x1 hm c4 (by simp) fun hf => ?_
  by_cases hp : Per p
  · have hr := errI_rng (f := f) (t := t) hp
    obtain ⟨p1, p2⟩ := hp
    have e1 : errF f p t = errI f p t := if_pos ⟨p1, p2⟩
    have r1 := cl_rng t
    have r2 := cl_rng f
    have key : (cl t - cl f - errI f p t).tmod p = 0 := by
      refine near_emod (by omega) ?_
      unfold errI
      split
      · exact .inr rfl
      · exact .inl rfl
    obtain ⟨e, he⟩ : ∃ e, errI f p t = e := ⟨_, rfl⟩
    obtain ⟨ct, hct⟩ : ∃ c, cl t = c := ⟨_, rfl⟩
    obtain ⟨cf, hcf⟩ : ∃ c, cl f = c := ⟨_, rfl⟩
    rw [hct, hcf, he] at key
    rw [he] at e1 hr
    rw [hct] at r1; rw [hcf] at r2
    rw [show ct - cf - e = ct - e - cf by omega] at key
    clear he
    simp (disch := omega) [b4, F7, F10, F11, e1, hct, hcf, key]
  · have e1 : errF f p t = 0 := if_neg hp
    unfold Per at hp
    simp (disch := omega) [b4, F7, F10, F11, e1]
    by_cases hp1 : p < 1
    · simp (disch := omega)
    · simp (disch := omega)
end Go.Proofs.Ytffcpgjegdgliaa
