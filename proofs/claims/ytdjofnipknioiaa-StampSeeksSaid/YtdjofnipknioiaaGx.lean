/-
  NUMBERS READ FROM BYTES, in plain words, and the functions that read them.
-/
import Derived.Test.YtdjofnipknioiaaFx
namespace Go.Proofs.Ytdjofnipknioiaa
open Go Go.AM
set_option linter.unusedVariables false
set_option linter.unusedSimpArgs false
set_option maxRecDepth 8000
set_option maxHeartbeats 4000000

/-- The number at the head of bytes, from the i-th byte on, and the place behind it. -/
def takeG : Nat → Nat → List Int → Option (Nat × Nat)
  | _, _, [] => none
  | i, acc, c :: bs =>
    if 9 < i ∨ (i = 9 ∧ 1 < c) then none
    else if c < 128 then (if c = 0 ∧ 0 < i then none else some (acc + (c % 128).toNat * 128 ^ i, i + 1))
    else takeG (i + 1) (acc + (c % 128).toNat * 128 ^ i) bs
def takeN (bs : List Int) : Option (Nat × Nat) := takeG 0 0 bs

theorem takeG_lt : ∀ (bs : List Int) (i acc n s : Nat), takeG i acc bs = some (n, s) → i < s ∧ s ≤ i + bs.length ∧ s ≤ 10
  | [], i, acc, n, s, h => by simp [takeG] at h
  | c :: bs, i, acc, n, s, h => by
    rw [takeG] at h
    split at h
    · cases h
    · rename_i h1
      split at h
      · split at h
        · cases h
        · injection h with h; injection h with h2 h3
          simp; omega
      · have := takeG_lt bs _ _ _ _ h
        simp; omega

theorem pow128 (i : Nat) : (128 : Nat) ^ i = 2 ^ (7 * i) := by rw [show 128 = 2 ^ 7 from rfl, ← Nat.pow_mul]
theorem pow_bound {i : Nat} (h : i ≤ 9) : 128 ^ i ≤ 9223372036854775808 := by
  have : (128 : Nat) ^ i ≤ 128 ^ 9 := Nat.pow_le_pow_right (by omega) h
  exact this

/-- take: what it tells. -/
def takeV : Option (Nat × Nat) → V
  | none => .tup [.int .u64 0, .int .i64 0]
  | some (n, s) => .tup [.int .u64 n, .int .i64 s]

theorem take_calls {m : Mem} {v : V} {bs : List Int} (hv : Sl m 1 v (rowI .u8 bs)) (hb : ∀ x ∈ bs, 0 ≤ x ∧ x ≤ 255) (hl : bs.length ≤ 1000000) {K : KV} (h : K (takeV (takeN bs)) m) : ACalls Try.prog 24 [v] m K := by
  obtain ⟨N, hN, hv1⟩ := len1 hv
  refine run_on (ctx_nil _) hm c24 (by simp) fun hf => ?_
  simp (disch := omega) [b24, hv1]
  refine exec_loopU (σ := Nat × Nat) (fun (i, acc) => [(4, .int .u64 acc), (9, .int .i64 i)]) (fun _ => m) (fun (i, acc) => i ≤ N ∧ i ≤ 10 ∧ acc < 2 ^ (7 * i) ∧ acc < 18446744073709551616 ∧ takeG i acc (bs.drop i) = takeN bs) (fun (i, _) => N - i) (0, 0) rfl
    ⟨by omega, by omega, by simp, by omega, by simp [takeN]⟩ (by simp) ?_
  intro (i, acc) ⟨a1, a2, a3, a4, a5⟩
  by_cases hi : i < N
  · obtain ⟨p, q, full, rw, z1, z2, z3, z4⟩ := at1 hv (y := i) (by omega)
    obtain ⟨c, hc⟩ : ∃ c, nth bs i = c := ⟨_, rfl⟩
    have hcr := hb _ (nth_mem (show i < bs.length by omega))
    rw [hc] at hcr z4
    have hd : bs.drop i = c :: bs.drop (i + 1) := by
      rw [List.drop_eq_getElem_cons (by omega), nth_elem (by omega), hc]
    rw [hd, takeG] at a5
    by_cases h1 : 9 < i
    · rw [if_pos (.inl h1)] at a5
      rw [← a5] at h
      simp (disch := omega) [-getElem?_pos, z1, z3, z4]
      exact h
    by_cases h2 : i = 9 ∧ 1 < c
    · rw [if_pos (.inr h2)] at a5
      rw [← a5] at h
      have h3 := h2.1
      have h4 := h2.2
      clear h2 hd hb hf
      simp (disch := omega) [-getElem?_pos, z1, z3, z4]
      exact h
    · rw [if_neg (by omega)] at a5
      have e1 := and127b hcr.1 (by omega : c < 256)
      obtain ⟨d, hd2⟩ : ∃ d : Nat, c % 128 = d := ⟨(c % 128).toNat, by omega⟩
      have e2 : (c % 128).toNat = d := by omega
      rw [e2] at a5
      rw [hd2] at e1
      have hd3 : d < 128 ∧ (i = 9 → d ≤ 1) := by omega
      have e3 : (7 * (i : Int)).toNat = 7 * i := by omega
      have e6 : (128 : Nat) ^ i = 2 ^ (7 * i) := pow128 i
      have e4 : acc + d * 2 ^ (7 * i) < 18446744073709551616 ∧ d * 2 ^ (7 * i) < 18446744073709551616 ∧ acc + d * 2 ^ (7 * i) < 2 ^ (7 * (i + 1)) := by
        have q : (2 : Nat) ^ (7 * (i + 1)) = 128 * 2 ^ (7 * i) := by rw [Nat.mul_add, Nat.pow_add]; omega
        have q2 : d * 2 ^ (7 * i) ≤ 127 * 2 ^ (7 * i) := Nat.mul_le_mul_right _ (by omega)
        by_cases h9 : i = 9
        · subst h9
          have p9 : (2 : Nat) ^ (7 * 9) = 9223372036854775808 := rfl
          rw [p9] at a3 q ⊢
          rw [q]
          omega
        · have q3 : (2 : Nat) ^ (7 * i) ≤ 2 ^ (7 * 8) := Nat.pow_le_pow_right (by omega) (by omega)
          simp only [show (2 : Nat) ^ (7 * 8) = 72057594037927936 from rfl] at q3
          omega
      rw [e6] at a5
      obtain ⟨X, hX⟩ : ∃ X, d * 2 ^ (7 * i) = X := ⟨_, rfl⟩
      have eX : (d : Int) * 2 ^ (7 * i) = (X : Int) := by rw [← hX]; push_cast; rfl
      rw [hX] at e4 a5
      have e5 : bOr .u64 (acc : Int) (X : Int) = (acc : Int) + X := by
        rw [← eX, or_add (by omega) (by exact_mod_cast a3) (by omega) (by rw [eX]; omega)]
      have e7 : min (7 * i) 64 = 7 * i := by omega
      have e8 : IntKind.u64.wrap (X : Int) = X := wu64 (by omega) (by omega)
      clear hX
      clear hd3 hd hb
      by_cases hc1 : c < 128
      case' neg =>
        rw [if_neg hc1] at a5
      case' pos =>
        rw [if_pos hc1] at a5
        by_cases hc0 : c = 0
        case' neg =>
          rw [if_neg (fun e => hc0 e.1)] at a5
          rw [← a5] at h
        case' pos =>
          subst hc0
          by_cases hi0 : 0 < i
          case' neg =>
            rw [if_neg (fun e => hi0 e.2)] at a5
            rw [← a5] at h
          case' pos =>
            rw [if_pos ⟨rfl, hi0⟩] at a5
            rw [← a5] at h
      all_goals
        by_cases hi9 : i = 9
        case' pos => simp (disch := omega) [-getElem?_pos, z1, z3, z4, e1, e3, e7, e8, e5, eX]
        case' neg => simp (disch := omega) [-getElem?_pos, z1, z3, z4, e1, e3, e7, e8, e5, eX]
        all_goals first
          | simpa [takeV] using h
          | (exfalso; omega)
          | exact again_mk (i + 1, acc + X) (by dsimp only; exact ⟨by omega, by omega, e4.2.2, by omega, a5⟩) (by dsimp only; omega) (by simp) rfl
  · have : bs.drop i = [] := List.drop_eq_nil_of_le (by omega)
    rw [this, takeG] at a5
    rw [← a5] at h
    simp (disch := omega)
    exact h

end Go.Proofs.Ytdjofnipknioiaa
