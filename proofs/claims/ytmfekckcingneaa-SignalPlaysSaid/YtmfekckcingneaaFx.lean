/-
  WHAT EACH FUNCTION of this seat computes, in plain words.
-/
import Derived.Test.YtmfekckcingneaaCx
namespace Go.Proofs.Ytmfekckcingneaa
open Go Go.AM
set_option linter.unusedVariables false
set_option linter.unusedSimpArgs false
set_option maxRecDepth 8000
set_option maxHeartbeats 4000000

/-! ### bits -/

theorem open_bit (B a : Nat) (hB : B < 18446744073709551616) : IntKind.u64.wrap (((BitVec.ofInt 64 ((B / 2 ^ a : Nat) : Int)) &&& BitVec.ofInt 64 1).toNat : Nat) = if B.testBit a then 1 else 0 := by
  have h1 : B / 2 ^ a < 18446744073709551616 := Nat.lt_of_le_of_lt (Nat.div_le_self _ _) hB
  have h2 : ((BitVec.ofInt 64 ((B / 2 ^ a : Nat) : Int)) &&& BitVec.ofInt 64 1).toNat = B / 2 ^ a % 2 := by
    simp only [BitVec.toNat_and, BitVec.ofInt_natCast, BitVec.toNat_ofNat]
    have : (BitVec.ofInt 64 1).toNat = 1 := by decide
    rw [this, Nat.mod_eq_of_lt (by simpa using h1), Nat.and_one_is_mod]
  rw [h2, Nat.testBit_eq_decide_div_mod_eq]
  generalize B / 2 ^ a = y
  rw [wu64 (by omega) (by omega)]
  by_cases h : y % 2 = 1 <;> simp [h]; omega

theorem was_bit (B a : Nat) (hB : B < 18446744073709551616) (ha : a < 64) : (IntKind.u64.wrap (((BitVec.ofInt 64 (B : Int)) &&& BitVec.ofInt 64 ((2 ^ a : Nat) : Int)).toNat : Nat) = 0) ↔ B.testBit a = false := by
  have hp : 2 ^ a < 18446744073709551616 := by
    have : 2 ^ a < 2 ^ 64 := Nat.pow_lt_pow_right (by omega) ha
    simpa using this
  have h2 : ((BitVec.ofInt 64 (B : Int)) &&& BitVec.ofInt 64 ((2 ^ a : Nat) : Int)).toNat = B &&& 2 ^ a := by
    simp only [BitVec.toNat_and, BitVec.ofInt_natCast, BitVec.toNat_ofNat]
    rw [Nat.mod_eq_of_lt (by simpa using hB), Nat.mod_eq_of_lt (by simpa using hp)]
  have h3 : B &&& 2 ^ a < 18446744073709551616 := Nat.lt_of_le_of_lt Nat.and_le_left hB
  rw [h2]
  rw [wu64 (by omega) (by omega)]
  have key : B &&& 2 ^ a = 0 ↔ B.testBit a = false := by
    constructor
    · intro h
      have := congrArg (fun x => Nat.testBit x a) h
      simpa [Nat.testBit_and, Nat.testBit_two_pow] using this
    · intro h
      apply Nat.eq_of_testBit_eq
      intro i
      simp only [Nat.testBit_and, Nat.testBit_two_pow, Nat.zero_testBit]
      by_cases e : a = i
      · subst e; simp [h]
      · simp [e]
  rw [← key]; omega

theorem set_bit (B a : Nat) (hB : B < 18446744073709551616) (ha : a < 64) : ∃ B', IntKind.u64.wrap (((BitVec.ofInt 64 (B : Int)) ||| BitVec.ofInt 64 ((2 ^ a : Nat) : Int)).toNat : Nat) = (B' : Nat) ∧ B' < 18446744073709551616 ∧ ∀ k, k < 64 → B'.testBit k = (B.testBit k || decide (k = a)) := by
  have hl := ((BitVec.ofInt 64 (B : Int)) ||| BitVec.ofInt 64 ((2 ^ a : Nat) : Int)).isLt
  refine ⟨((BitVec.ofInt 64 (B : Int)) ||| BitVec.ofInt 64 ((2 ^ a : Nat) : Int)).toNat, wu64 (by omega) (by simp at hl ⊢; omega), by simpa using hl, fun k hk => ?_⟩
  simp only [BitVec.toNat_or, BitVec.ofInt_natCast, BitVec.toNat_ofNat, Nat.testBit_or, Nat.testBit_mod_two_pow, hk, decide_true, Bool.true_and, Nat.testBit_two_pow]
  simp [eq_comm]

theorem clear_bit (B a : Nat) (hB : B < 18446744073709551616) (ha : a < 64) : ∃ B', IntKind.u64.wrap (((BitVec.ofInt 64 (B : Int)) &&& ~~~BitVec.ofInt 64 ((2 ^ a : Nat) : Int)).toNat : Nat) = (B' : Nat) ∧ B' < 18446744073709551616 ∧ ∀ k, k < 64 → B'.testBit k = (B.testBit k && !decide (k = a)) := by
  have hl := ((BitVec.ofInt 64 (B : Int)) &&& ~~~BitVec.ofInt 64 ((2 ^ a : Nat) : Int)).isLt
  refine ⟨((BitVec.ofInt 64 (B : Int)) &&& ~~~BitVec.ofInt 64 ((2 ^ a : Nat) : Int)).toNat, wu64 (by omega) (by simp at hl ⊢; omega), by simpa using hl, fun k hk => ?_⟩
  rw [BitVec.testBit_toNat, BitVec.getLsbD_and, BitVec.getLsbD_not]
  simp only [BitVec.ofInt_natCast, BitVec.getLsbD_ofNat, hk, decide_true, Bool.true_and, Nat.testBit_two_pow]
  simp [eq_comm]

/-! ### what looks at no memory, and the closures -/

def F14 : AFn
  | [.int .i64 no], m => some (.bool (decide (1 ≤ no) && decide (no ≤ 63)), m)
  | _, _ => none
theorem s14 : ASpec Try.prog 14 F14 := by
  intro args m r m' h
  unfold F14 at h; split at h <;> cases h
  rename_i no
  refine run_calls (ctx_nil _) hm c14 (by simp) ?_
  by_cases h1 : 1 ≤ no <;> simp [b14, h1]

def F15 : AFn
  | [.int .i64 n], m => some (.int .i64 (min (max n 0) 2147483647), m)
  | _, _ => none
theorem s15 : ASpec Try.prog 15 F15 := by
  intro args m r m' h
  unfold F15 at h; split at h <;> cases h
  refine run_calls (ctx_nil _) hm c15 (by simp) ?_
  simp [b15]

def F17 : AFn
  | [.agg [.int .i64 a, .int .i64 b, .int .i64 c], .ptr (some (c1, 0, 0)), .ptr (some (c2, 0, 0))], m => (match m.obj c1, m.obj c2 with
    | some (.row 1 [[.int .i64 no]] _), some (.row 1 [[.int .i64 tm]] _) => some (.bool (decide (a = no) && decide (b = tm)), m)
    | _, _ => none)
  | _, _ => none
theorem s17 : ASpec Try.prog 17 F17 := by
  intro args m r m' h
  unfold F17 at h; split at h
  · split at h <;> cases h
    rename_i a b c c1 c2 _ _ no _ tm _ h1 h2
    refine ACalls.forget (run_callsW (ctx_nil _) hm c17 (by simp) fun hf => ?_)
    have f1 := hf _ _ h1
    have f2 := hf _ _ h2
    by_cases e : a = no <;> simp (disch := omega) [b17, h1, h2, e, V.flat] <;> exact fun q hq hq2 => by omega
  · cases h

def F21 : AFn
  | [.agg [.int .i64 a, .int .i64 b, .int .i64 c], .ptr (some (c1, 0, 0))], m => (match m.obj c1 with
    | some (.row 1 [[.int .i64 tm]] _) => some (.bool (decide (b = tm)), m)
    | _ => none)
  | _, _ => none
theorem s21 : ASpec Try.prog 21 F21 := by
  intro args m r m' h
  unfold F21 at h; split at h
  · split at h <;> cases h
    rename_i h1
    refine ACalls.forget (run_callsW (ctx_nil _) hm c21 (by simp) fun hf => ?_)
    have f1 := hf _ _ h1
    simp (disch := omega) [b21, h1, V.flat]
    exact fun q hq hq2 => by omega
  · cases h

def F23 : AFn
  | [.agg [.int .i64 a, .int .i64 b, .int .i64 c], .ptr (some (c1, 0, 0))], m => (match m.obj c1 with
    | some (.row 1 [[.ptr (some (r, 0, 0))]] _) => (match m.obj r with
      | some (.row 2 [[v, .int .u64 B]] _) => if 0 ≤ a ∧ a ≤ 63 ∧ 0 ≤ B ∧ B < 18446744073709551616 then some (.bool (!B.toNat.testBit a.toNat), m) else none
      | _ => none)
    | _ => none)
  | _, _ => none
theorem s23 : ASpec Try.prog 23 F23 := by
  intro args m r m' h
  unfold F23 at h; split at h
  · split at h
    · split at h
      · split at h <;> cases h
        rename_i a b c c1 _ r _ h1 _ v B _ h2 hc
        obtain ⟨k, rfl⟩ : ∃ k : Nat, a = k := ⟨a.toNat, by omega⟩
        obtain ⟨B, rfl⟩ : ∃ B' : Nat, B = B' := ⟨B.toNat, by omega⟩
        refine ACalls.forget (run_callsW (ctx_nil _) hm c23 (by simp) fun hf => ?_)
        have f1 := hf _ _ h1
        have f2 := hf _ _ h2
        have e1 : min k 64 = k := by omega
        have e2 : (B : Int).fdiv (2 ^ k) = ((B / 2 ^ k : Nat) : Int) := by
          have h2 : ((2 : Int) ^ k) = ((2 ^ k : Nat) : Int) := by simp
          rw [h2, Int.fdiv_eq_ediv_of_nonneg _ (by exact Int.natCast_nonneg _)]; simp
        have e3 : B / 2 ^ k ≤ B := Nat.div_le_self _ _
        have e4 := Nat.testBit_eq_decide_div_mod_eq (x := B) (i := k)
        simp (disch := omega) [b23, h1, h2, V.flat, e1, bAnd]
        rw [e2, e4]
        generalize B / 2 ^ k = y at *
        refine ⟨fun q hq hq2 => by omega, ?_⟩
        by_cases h : y % 2 = 1 <;> simp [h] <;> omega
      · cases h
    · cases h
  · cases h

abbrev L1 : List (FuncId × AFn) := [(14, F14), (15, F15), (17, F17), (21, F21), (23, F23)]
theorem x1 : CtxOk Try.prog (Ctx.of L1) := ctx_cons (ctx_cons (ctx_cons (ctx_cons (ctx_cons (ctx_nil _) s23) s21) s17) s15) s14

end Go.Proofs.Ytmfekckcingneaa
