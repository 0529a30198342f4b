/-
  WHAT EACH FUNCTION of this seat computes, in plain words: Add64, Mul64, Nanos.
-/
import Derived.Test.YtdcliaineeklcaaCx
import Derived.Test.YtdcliaineeklcaaAm27
import Derived.Laws.Externs
namespace Go.Proofs.Ytdcliaineeklcaa
open Go Go.AM
set_option linter.unusedVariables false
set_option linter.unusedSimpArgs false
set_option maxRecDepth 20000
set_option maxHeartbeats 4000000

theorem add_run (x y : Nat) (w : World) (h : x + y < 18446744073709551616) :
    (callFunc 20 #[.int .u64 x, .int .u64 y, .int .u64 0]).run Try.prog w = .ok (.value (.tuple #[.int .u64 ((x + y : Nat) : Int), .int .u64 0])) w := by
  rw [run_callFunc_extern Try.func20 (by kernel_rfl) (by kernel_rfl) (by kernel_rfl) (e := add64Entry) (by kernel_rfl), run_add64 x y 0 (by omega) (by omega) (by omega) (by omega)]
  simp only [Result.andThen]
  have e1 : ((x : Int) + y + 0) % 18446744073709551616 = ((x + y : Nat) : Int) := by omega
  have e2 : ((x : Int) + y + 0) / 18446744073709551616 = 0 := by omega
  rw [e1, e2]
theorem no20 : ¬ Body Try.prog 20 := by
  rintro ⟨fn, h1, h2, _⟩
  rw [Try.func20] at h1
  injection h1 with h1
  subst h1
  revert h2
  decide
theorem add_calls {m : Mem} {x y : Nat} (h0 : x + y < 18446744073709551616) {K : KV} (h : K (.tup [.int .u64 ((x + y : Nat) : Int), .int .u64 0]) m) : ACalls Try.prog 20 [.int .u64 x, .int .u64 y, .int .u64 0] m K := by
  refine ⟨trivial, fun base w0 β w cargs hM hA => ⟨fun hb => absurd hb no20, fun _ => ?_⟩⟩
  simp only [VRs, VR] at hA
  obtain ⟨_, _, rfl, rfl, _, _, rfl, rfl, _, _, rfl, rfl, rfl⟩ := hA
  exact ⟨_, w, add_run x y w h0, _, rfl, β, _, m, Pl.le_refl _, by simp only [VR]; exact ⟨_, rfl, by simp only [VRs, VR]; exact ⟨_, _, rfl, rfl, _, _, rfl, rfl, rfl⟩⟩, hM, h⟩

/-- Into bounds. -/
def clN (n : Int) : Int := min (max n 0) 4611686018427387903
theorem clN_rng (n : Int) : 0 ≤ clN n ∧ clN n ≤ 4611686018427387903 := by unfold clN; omega
theorem clN_id {n : Int} (h1 : 0 ≤ n) (h2 : n ≤ 4611686018427387903) : clN n = n := by unfold clN; omega
def F17 : AFn
  | [.int .i64 n], m => some (.int .u64 (clN n), m)
  | _, _ => none
theorem s17 : ASpec Try.prog 17 F17 := by
  intro args m r m' h
  unfold F17 at h; split at h <;> cases h
  rename_i n
  refine run_on (ctx_nil _) hm c17 (by simp) fun hf => ?_
  simp (disch := omega) [b17, clN]
abbrev L1 : List (FuncId × AFn) := [(17, F17)]
theorem x1 : CtxOk Try.prog (Ctx.of L1) := ctx_cons (ctx_nil _) s17

def okR (f s : Int) : Prop := 1 ≤ f ∧ f < 4294967296 ∧ 0 ≤ s ∧ s ≤ 32
instance (f s : Int) : Decidable (okR f s) := by unfold okR; infer_instance
theorem right9 {m : Mem} {f s : Int} {K : KV} (h : ∀ m', m.Grew m' → K (.bool (decide (okR f s))) m') : ACalls Try.prog 9 [.agg [.int .i64 f, .int .i64 s]] m K := by
  refine run_on (ctx_nil _) hm c9 (by simp) fun hf => ?_
  have g := Mem.Grew.new m (.row 2 [[.int .i64 f, .int .i64 s]] true)
  by_cases h1 : 1 ≤ f
  · by_cases h2 : f < 4294967296
    · by_cases h3 : 0 ≤ s
      · by_cases h4 : s ≤ 32
        · rw [decide_eq_true (show okR f s from ⟨h1, h2, h3, h4⟩)] at h
          simp (disch := omega) [-getElem?_pos, b9]
          exact h _ g
        · rw [decide_eq_false (show ¬ okR f s from fun h => h4 h.2.2.2)] at h
          simp (disch := omega) [-getElem?_pos, b9]
          exact h _ g
      · rw [decide_eq_false (show ¬ okR f s from fun h => h3 h.2.2.1)] at h
        simp (disch := omega) [-getElem?_pos, b9]
        exact h _ g
    · rw [decide_eq_false (show ¬ okR f s from fun h => h2 h.2.1)] at h
      simp (disch := omega) [-getElem?_pos, b9]
      exact h _ g
  · rw [decide_eq_false (show ¬ okR f s from fun h => h1 h.1)] at h
    simp (disch := omega) [-getElem?_pos, b9]
    exact h _ g
theorem right10 {m : Mem} {f s : Int} {K : KV} (h : ∀ m', m.Grew m' → K (.bool (decide (okR f s))) m') : ACalls Try.prog 10 [.agg [.int .i64 f, .int .i64 s]] m K := by
  refine run_on (ctx_nil _) hm c10 (by simp) fun hf => ?_
  have g := Mem.Grew.new m (.row 2 [[.int .i64 f, .int .i64 s]] true)
  by_cases h1 : 1 ≤ f
  · by_cases h2 : f < 4294967296
    · by_cases h3 : 0 ≤ s
      · by_cases h4 : s ≤ 32
        · rw [decide_eq_true (show okR f s from ⟨h1, h2, h3, h4⟩)] at h
          simp (disch := omega) [-getElem?_pos, b10]
          exact h _ g
        · rw [decide_eq_false (show ¬ okR f s from fun h => h4 h.2.2.2)] at h
          simp (disch := omega) [-getElem?_pos, b10]
          exact h _ g
      · rw [decide_eq_false (show ¬ okR f s from fun h => h3 h.2.2.1)] at h
        simp (disch := omega) [-getElem?_pos, b10]
        exact h _ g
    · rw [decide_eq_false (show ¬ okR f s from fun h => h2 h.2.1)] at h
      simp (disch := omega) [-getElem?_pos, b10]
      exact h _ g
  · rw [decide_eq_false (show ¬ okR f s from fun h => h1 h.1)] at h
    simp (disch := omega) [-getElem?_pos, b10]
    exact h _ g

/-! ### Mul64 -/

theorem and32 {n : Nat} (h : n < 18446744073709551616) : bAnd .u64 (n : Int) 4294967295 = ((n % 4294967296 : Nat) : Int) := by
  unfold bAnd
  have e1 : (BitVec.ofInt IntKind.u64.bits (n : Int)).toNat = n := by
    rw [BitVec.toNat_ofInt]; show ((n : Int) % ((2 ^ 64 : Nat) : Int)).toNat = n; omega
  have e2 : (BitVec.ofInt IntKind.u64.bits (4294967295 : Int)).toNat = 2 ^ 32 - 1 := by decide
  rw [BitVec.toNat_and, e1, e2, Nat.and_two_pow_sub_one_eq_mod, wu64 (by omega) (by omega)]
theorem shr32 (n : Nat) : Int.fdiv (n : Int) 4294967296 = ((n / 4294967296 : Nat) : Int) := by
  rw [Int.fdiv_eq_ediv_of_nonneg _ (by omega)]; rfl
theorem prod_le {a b : Nat} (ha : a < 4294967296) (hb : b < 4294967296) : a * b ≤ 18446744065119617025 := by
  have : a * b ≤ 4294967295 * 4294967295 := Nat.mul_le_mul (by omega) (by omega)
  omega

theorem mul_calls {m : Mem} {x y : Nat} (hx : x < 18446744073709551616) (hy : y < 18446744073709551616) {K : KV} (h : K (.tup [.int .u64 ((x * y / 18446744073709551616 : Nat) : Int), .int .u64 ((x * y % 18446744073709551616 : Nat) : Int)]) m) : ACalls Try.prog 16 [.int .u64 x, .int .u64 y] m K := by
  refine run_on (ctx_nil _) hm c16 (by simp) fun hf => ?_
  obtain ⟨x0, hx0⟩ : ∃ a, x % 4294967296 = a := ⟨_, rfl⟩
  obtain ⟨x1, hx1⟩ : ∃ a, x / 4294967296 = a := ⟨_, rfl⟩
  obtain ⟨y0, hy0⟩ : ∃ a, y % 4294967296 = a := ⟨_, rfl⟩
  obtain ⟨y1, hy1⟩ : ∃ a, y / 4294967296 = a := ⟨_, rfl⟩
  have ex : x = x1 * 4294967296 + x0 := by omega
  have ey : y = y1 * 4294967296 + y0 := by omega
  have b00 := prod_le (a := x0) (b := y0) (by omega) (by omega)
  have b10 := prod_le (a := x1) (b := y0) (by omega) (by omega)
  have b01 := prod_le (a := x0) (b := y1) (by omega) (by omega)
  have b11 := prod_le (a := x1) (b := y1) (by omega) (by omega)
  have exy : x * y = x1 * y1 * 18446744073709551616 + (x1 * y0 + x0 * y1) * 4294967296 + x0 * y0 := by
    rw [ex, ey]
    simp only [Nat.add_mul, Nat.mul_add]
    have e1 : x1 * 4294967296 * (y1 * 4294967296) = x1 * y1 * 18446744073709551616 := by
      rw [Nat.mul_assoc, Nat.mul_left_comm 4294967296, ← Nat.mul_assoc]
    have e2 : x0 * (y1 * 4294967296) = x0 * y1 * 4294967296 := by rw [Nat.mul_assoc]
    have e3 : x1 * 4294967296 * y0 = x1 * y0 * 4294967296 := by rw [Nat.mul_assoc, Nat.mul_comm 4294967296, ← Nat.mul_assoc]
    rw [e1, e2, e3]; omega
  have elo : IntKind.u64.wrap ((x : Int) * (y : Int)) = ((x * y % 18446744073709551616 : Nat) : Int) := by
    rw [IntKind.wrap_u64, ← Int.natCast_mul]; omega
  have a1 := and32 (n := x) hx
  have a2 := and32 (n := y) hy
  have a3 := shr32 x
  have a4 := shr32 y
  rw [hx0] at a1; rw [hy0] at a2; rw [hx1] at a3; rw [hy1] at a4
  obtain ⟨p00, h00⟩ : ∃ p, x0 * y0 = p := ⟨_, rfl⟩
  obtain ⟨p10, h10⟩ : ∃ p, x1 * y0 = p := ⟨_, rfl⟩
  obtain ⟨p01, h01⟩ : ∃ p, x0 * y1 = p := ⟨_, rfl⟩
  obtain ⟨p11, h11⟩ : ∃ p, x1 * y1 = p := ⟨_, rfl⟩
  rw [h00] at b00 exy; rw [h10] at b10 exy; rw [h01] at b01 exy; rw [h11] at b11 exy
  have i00 : (x0 : Int) * y0 = p00 := by exact_mod_cast h00
  have i10 : (x1 : Int) * y0 = p10 := by exact_mod_cast h10
  have i01 : (x0 : Int) * y1 = p01 := by exact_mod_cast h01
  have i11 : (x1 : Int) * y1 = p11 := by exact_mod_cast h11
  have a5 := shr32 p00
  obtain ⟨w0, hw0⟩ : ∃ w, p00 / 4294967296 = w := ⟨_, rfl⟩
  rw [hw0] at a5
  have ht : (p10 : Int) + w0 = ((p10 + w0 : Nat) : Int) := by omega
  have a6 := and32 (n := p10 + w0) (by omega)
  have a7 := shr32 (p10 + w0)
  obtain ⟨w1, hw1⟩ : ∃ w, (p10 + w0) % 4294967296 = w := ⟨_, rfl⟩
  obtain ⟨w2, hw2⟩ : ∃ w, (p10 + w0) / 4294967296 = w := ⟨_, rfl⟩
  rw [hw1] at a6; rw [hw2] at a7
  have hu : (w1 : Int) + p01 = ((w1 + p01 : Nat) : Int) := by omega
  have a8 := shr32 (w1 + p01)
  obtain ⟨w3, hw3⟩ : ∃ w, (w1 + p01) / 4294967296 = w := ⟨_, rfl⟩
  rw [hw3] at a8
  have ehi : ((x * y / 18446744073709551616 : Nat) : Int) = (p11 : Int) + w2 + w3 := by omega
  rw [ehi] at h
  obtain ⟨lo, hlo⟩ : ∃ q : Nat, x * y % 18446744073709551616 = q := ⟨_, rfl⟩
  rw [hlo] at h elo
  have hhi : p11 + w2 + w3 < 18446744073709551616 := by
    have h1 : x * y < 18446744073709551616 * 18446744073709551616 := Nat.mul_lt_mul_of_lt_of_le hx (by omega) (by omega)
    have h2 : x * y / 18446744073709551616 < 18446744073709551616 := Nat.div_lt_of_lt_mul h1
    omega
  have hN : ∀ n : Nat, (0 : Int) ≤ n := fun n => by omega
  clear h00 h10 h01 h11 hx0 hx1 hy0 hy1 ex ey exy hlo ehi
  rw [Int.natCast_add] at a6 a7 a8
  simp (disch := omega) [b16, a1, a2, a3, a4, i00, i10, i01, i11, a5, a6, a7, a8, elo]
  exact h
end Go.Proofs.Ytdcliaineeklcaa
