/-
  NUMBERS AS BYTES, in plain words, and the functions that put them.
-/
import Derived.Test.YtdjofnipknioiaaCx
namespace Go.Proofs.Ytdjofnipknioiaa
open Go Go.AM
set_option linter.unusedVariables false
set_option linter.unusedSimpArgs false
set_option maxRecDepth 8000
set_option maxHeartbeats 4000000

theorem u64_toNat {a : Int} (h : 0 ≤ a) (h2 : a < 18446744073709551616) : (BitVec.ofInt 64 a).toNat = a.toNat := by
  rw [BitVec.toNat_ofInt]; congr 1; omega
theorem u8_toNat {a : Int} (h : 0 ≤ a) (h2 : a < 256) : (BitVec.ofInt 8 a).toNat = a.toNat := by
  rw [BitVec.toNat_ofInt]; congr 1; omega
theorem and127 {n : Int} (h : 0 ≤ n) (h2 : n < 18446744073709551616) : bAnd .u64 n 127 = n % 128 := by
  show IntKind.u64.wrap (((BitVec.ofInt 64 n) &&& (BitVec.ofInt 64 127)).toNat : Nat) = _
  rw [BitVec.toNat_and, u64_toNat h h2, u64_toNat (by omega) (by omega), show (127 : Int).toNat = 2 ^ 7 - 1 from rfl, Nat.and_two_pow_sub_one_eq_mod, wu64 (by omega) (by omega)]
  omega
theorem and1 {n : Int} (h : 0 ≤ n) (h2 : n < 18446744073709551616) : bAnd .u64 n 1 = n % 2 := by
  show IntKind.u64.wrap (((BitVec.ofInt 64 n) &&& (BitVec.ofInt 64 1)).toNat : Nat) = _
  rw [BitVec.toNat_and, u64_toNat h h2, u64_toNat (by omega) (by omega), show (1 : Int).toNat = 2 ^ 1 - 1 from rfl, Nat.and_two_pow_sub_one_eq_mod, wu64 (by omega) (by omega)]
  omega
theorem and127b {n : Int} (h : 0 ≤ n) (h2 : n < 256) : bAnd .u8 n 127 = n % 128 := by
  show IntKind.u8.wrap (((BitVec.ofInt 8 n) &&& (BitVec.ofInt 8 127)).toNat : Nat) = _
  rw [BitVec.toNat_and, u8_toNat h h2, u8_toNat (by omega) (by omega), show (127 : Int).toNat = 2 ^ 7 - 1 from rfl, Nat.and_two_pow_sub_one_eq_mod, wu8 (by omega) (by omega)]
  omega
theorem or_add {k : Nat} {a b : Int} (h : 0 ≤ a) (h2 : a < 2 ^ k) (hb : 0 ≤ b) (hs : a + b * 2 ^ k < 18446744073709551616) : bOr .u64 a (b * 2 ^ k) = a + b * 2 ^ k := by
  have hp : (0 : Int) < 2 ^ k := Int.pow_pos (by omega)
  have hm : 0 ≤ b * 2 ^ k := Int.mul_nonneg hb (by omega)
  obtain ⟨x, rfl⟩ := Int.eq_ofNat_of_zero_le h
  obtain ⟨y, rfl⟩ := Int.eq_ofNat_of_zero_le hb
  show IntKind.u64.wrap (((BitVec.ofInt 64 (x : Int)) ||| (BitVec.ofInt 64 ((y : Int) * 2 ^ k))).toNat : Nat) = _
  rw [BitVec.toNat_or, u64_toNat h (by omega), u64_toNat hm (by omega)]
  have e1 : ((y : Int) * 2 ^ k).toNat = 2 ^ k * y := by
    have : (y : Int) * 2 ^ k = ((2 ^ k * y : Nat) : Int) := by push_cast; rw [Int.mul_comm]
    rw [this, Int.toNat_natCast]
  have e2 : x < 2 ^ k := by exact_mod_cast h2
  rw [e1, Int.toNat_natCast, Nat.or_comm, ← Nat.two_pow_add_eq_or_of_lt e2, wu64 (by omega) (by push_cast; rw [Int.mul_comm]; omega)]
  push_cast; rw [Int.mul_comm]; omega

/-- A number's bytes. -/
def numB (n : Nat) : List Int := if n < 128 then [(n : Int)] else (n % 128 + 128 : Nat) :: numB (n / 128)
termination_by n
decreasing_by omega

theorem numB_lt {n : Nat} (h : n < 128) : numB n = [(n : Int)] := by rw [numB, if_pos h]
theorem numB_ge {n : Nat} (h : ¬ n < 128) : numB n = ((n % 128 + 128 : Nat) : Int) :: numB (n / 128) := by rw [numB, if_neg h]
theorem numB_len : ∀ (k n : Nat), n < 128 ^ (k + 1) → (numB n).length ≤ k + 1
  | 0, n, h => by rw [numB_lt (by simpa using h)]; simp
  | k + 1, n, h => by
    by_cases h2 : n < 128
    · rw [numB_lt h2]; simp
    · rw [numB_ge h2]
      have := numB_len k (n / 128) (by rw [Nat.pow_succ] at h; omega)
      simp; omega
theorem numB_pos (n : Nat) : 1 ≤ (numB n).length := by
  by_cases h : n < 128
  · rw [numB_lt h]; simp
  · rw [numB_ge h]; simp
theorem numB_rng : ∀ (k n : Nat), n < 128 ^ (k + 1) → ∀ x ∈ numB n, 0 ≤ x ∧ x ≤ 255
  | 0, n, h => by rw [numB_lt (by simpa using h)]; simp at h ⊢; omega
  | k + 1, n, h => by
    by_cases h2 : n < 128
    · rw [numB_lt h2]; simp; omega
    · rw [numB_ge h2]
      intro x hx
      rcases List.mem_cons.1 hx with rfl | hx
      · omega
      · exact numB_rng k (n / 128) (by rw [Nat.pow_succ] at h; omega) x hx

theorem fdiv128 (n : Nat) : Int.fdiv (n : Int) (2 ^ 7) = ((n / 128 : Nat) : Int) := by
  rw [Int.fdiv_eq_ediv_of_nonneg _ (by omega)]; simp

theorem or128 {a : Int} (h : 0 ≤ a) (h2 : a < 128) : bOr .u64 a 128 = a + 128 := or_add (k := 7) (b := 1) h h2 (by omega) (by omega)
theorem numB_10 {n : Nat} (h : n < 18446744073709551616) : (numB n).length ≤ 10 := numB_len 9 n (by omega)

/-- put. -/
theorem put_calls {m : Mem} {v : V} {bs : List Int} {n : Nat} (hv : Ows m 1 v (rowI .u8 bs)) (hn : n < 18446744073709551616) (hl : bs.length ≤ 1000000) {K : KV}
    (h : ∀ v' m', Ows m' 1 v' (rowI .u8 (bs ++ numB n)) → Stp m m' v.fp v'.fp → K v' m') : ACalls Try.prog 17 [v, .int .u64 n] m K := by
  refine run_on (ctx_nil _) hm c17 (by simp) fun hf => ?_
  simp (disch := omega) [b17]
  refine exec_loopU (σ := List Int × Nat × V × Mem) (fun (_, n', u, _) => [(0, u), (1, .int .u64 n')]) (fun (_, _, _, M) => M)
    (fun (cs, n', u, M) => Ows M 1 u (rowI .u8 cs) ∧ cs ++ numB n' = bs ++ numB n ∧ n' ≤ n ∧ Stp m M v.fp u.fp) (fun (_, n', _, _) => n') (bs, n, v, m) rfl
    ⟨hv, rfl, by omega, Stp.refl _ _⟩ (by simp) ?_
  intro (cs, n', u, M) ⟨a1, a2, a3, a4⟩
  have hlen := congrArg List.length a2
  have h10 := numB_10 hn
  simp only [List.length_append] at hlen
  by_cases h1 : 127 < n'
  · have e1 : bOr .u64 ((n' : Int) % 128) 128 = (n' : Int) % 128 + 128 := or128 (by omega) (by omega)
    have e2 := fdiv128 n'
    simp at e2
    simp (disch := omega) [and127, e1, eltsOf, Mem.elts, e2]
    refine (a1.grow (Mem.Grew.new M _)).app (by rw [rowI_length]; omega) (by rw [rowI_length]; omega) fun u' M' w1 w2 w3 => ?_
    simp (disch := omega) [e2]
    refine again_mk (cs ++ [((n' % 128 + 128 : Nat) : Int)], n' / 128, u', M') ?_ (by dsimp only; omega) (by simp) rfl
    dsimp only
    refine ⟨by rw [← rowI_append]; exact w1, ?_, by omega, a4.trans ((Stp.new M _ u.fp).trans w2)⟩
    rw [← a2, numB_ge (by omega : ¬ n' < 128)]
    simp
  · simp (disch := omega) [eltsOf, Mem.elts]
    refine (a1.grow (Mem.Grew.new M _)).app (by rw [rowI_length]; omega) (by rw [rowI_length]; omega) fun u' M' w1 w2 w3 => ?_
    simp (disch := omega)
    refine h u' M' ?_ (a4.trans ((Stp.new M _ u.fp).trans w2))
    rw [← a2, numB_lt (by omega : n' < 128), ← rowI_append]
    exact w1

/-- A number with its sign in its lowest bit. -/
def sgn (t : Int) : Nat := if t < 0 then (2 * (-t) - 1).toNat else (2 * t).toNat
theorem signed_calls {m : Mem} {t : Int} (h1 : -4611686018427387904 ≤ t) (h2 : t ≤ 4611686018427387904) {K : KV} (h : K (.int .u64 (sgn t)) m) : ACalls Try.prog 18 [.int .i64 t] m K := by
  refine run_on (ctx_nil _) hm c18 (by simp) fun hf => ?_
  by_cases h0 : t < 0
  · have e : ((sgn t : Nat) : Int) = 2 * (-t) - 1 := by unfold sgn; rw [if_pos h0]; omega
    rw [e] at h
    simp (disch := omega) [b18]
    exact h
  · have e : ((sgn t : Nat) : Int) = 2 * t := by unfold sgn; rw [if_neg h0]; omega
    rw [e] at h
    simp (disch := omega) [b18]
    exact h

/-- cmp.Less of whole numbers. -/
def F27 : AFn
  | [.int .i64 a], m => some (.bool false, m)
  | _, _ => none
theorem s27 : ASpec Try.prog 27 F27 := by
  intro args m r m' h
  unfold F27 at h; split at h <;> cases h
  refine run_on (ctx_nil _) hm c27 (by simp) fun hf => ?_
  simp [b27]
def F26 : AFn
  | [.int .i64 a], m => some (.bool false, m)
  | _, _ => none
theorem s26 : ASpec Try.prog 26 F26 := by
  intro args m r m' h
  unfold F26 at h; split at h <;> cases h
  refine run_on (ctx_nil _) hm c26 (by simp) fun hf => ?_
  simp [b26]
abbrev L0 : List (FuncId × AFn) := [(26, F26), (27, F27)]
theorem x0 : CtxOk Try.prog (Ctx.of L0) := ctx_cons (ctx_cons (ctx_nil _) s27) s26
def F25 : AFn
  | [.int .i64 a, .int .i64 b], m => some (.bool (decide (a < b)), m)
  | _, _ => none
theorem s25 : ASpec Try.prog 25 F25 := by
  intro args m r m' h
  unfold F25 at h; split at h <;> cases h
  refine run_on x0 hm c25 (by simp) fun hf => ?_
  simp [b25, F27]
abbrev L1 : List (FuncId × AFn) := [(25, F25), (26, F26), (27, F27)]
theorem x1 : CtxOk Try.prog (Ctx.of L1) := ctx_cons x0 s25

/-- Is a row in order? -/
def Srt (l : List Int) : Prop := ∀ i, 0 < i → i < l.length → nth l (i - 1) ≤ nth l i
instance (l : List Int) : Decidable (Srt l) := decidable_of_iff (∀ i, i < l.length → 0 < i → nth l (i - 1) ≤ nth l i) ⟨fun h i h1 h2 => h i h2 h1, fun h i h1 h2 => h i h2 h1⟩

theorem sorted_calls {m : Mem} {v : V} {l : List Int} (hv : Sl m 1 v (rowI .i64 l)) (hl : l.length ≤ 1000000) {K : KV} (h : K (.bool (decide (Srt l))) m) : ACalls Try.prog 23 [v] m K := by
  obtain ⟨N, hN, hv1⟩ := len1 hv
  refine run_on x1 hm c23 (by simp) fun hf => ?_
  simp (disch := omega) [b23, hv1]
  refine exec_loopU (σ := Int) (fun i => [(3, .int .i64 i)]) (fun _ => m) (fun i => -1 ≤ i ∧ i < N ∧ ∀ j : Nat, i < j → j < N → nth l (j - 1) ≤ nth l j) (fun i => (i + 1).toNat) ((N : Int) - 1) rfl ⟨by omega, by omega, fun j h1 h2 => by omega⟩ (by simp) ?_
  intro i ⟨a1, a2, a3⟩
  by_cases h1 : 0 < i
  · obtain ⟨j, rfl⟩ := Int.eq_ofNat_of_zero_le (show 0 ≤ i by omega)
    have hj1 : 1 ≤ j := by omega
    obtain ⟨p, q, full, rw, z1, z2, z3, z4⟩ := at1 hv (y := j) (by omega)
    obtain ⟨p', q', full', rw', z1', z2', z3', z4'⟩ := at1 hv (y := j - 1) (by omega)
    have ej : ((j - 1 : Nat) : Int) = (j : Int) - 1 := by omega
    rw [ej] at z1'
    by_cases h2 : nth l j < nth l (j - 1)
    · have : ¬ Srt l := fun hs => by have := hs j (by omega) (by omega); omega
      rw [decide_eq_false this] at h
      simp (disch := omega) [-getElem?_pos, z1, z3, z4, z1', z3', z4', F25]
      exact h
    · simp (disch := omega) [-getElem?_pos, z1, z3, z4, z1', z3', z4', F25]
      refine again_mk ((j : Int) - 1) ⟨by omega, by omega, fun k h3 h4 => ?_⟩ (by omega) (by simp) rfl
      by_cases e : k = j
      · subst e; omega
      · exact a3 k (by omega) h4
  · have : Srt l := fun k h2 h3 => a3 k (by omega) (by omega)
    rw [decide_eq_true this] at h
    simp (disch := omega)
    exact h

end Go.Proofs.Ytdjofnipknioiaa
