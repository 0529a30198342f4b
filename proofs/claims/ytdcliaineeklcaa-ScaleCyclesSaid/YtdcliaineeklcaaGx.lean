/-
  NANOSECONDS OF CYCLES, and cycles of nanoseconds, in plain words; SCALERISES.
-/
import Derived.Test.YtdcliaineeklcaaFx
namespace Go.Proofs.Ytdcliaineeklcaa
open Go Go.AM
set_option linter.unusedVariables false
set_option linter.unusedSimpArgs false
set_option maxRecDepth 20000
set_option maxHeartbeats 4000000

theorem or_disj {a h j : Nat} (ha : a < 2 ^ j) (hb : h * 2 ^ j + a < 18446744073709551616) : bOr .u64 (a : Int) ((h * 2 ^ j : Nat) : Int) = ((h * 2 ^ j + a : Nat) : Int) := by
  unfold bOr
  have e : ∀ n : Nat, n < 18446744073709551616 → (BitVec.ofInt IntKind.u64.bits (n : Int)).toNat = n := fun n hn => by
    rw [BitVec.toNat_ofInt]; show ((n : Int) % ((2 ^ 64 : Nat) : Int)).toNat = n; omega
  rw [BitVec.toNat_or, e a (by omega), e _ (by omega), Nat.or_comm, Nat.mul_comm h, ← Nat.two_pow_add_eq_or_of_lt ha, wu64 (by omega) (by rw [Nat.mul_comm] ; omega)]

/-- What cycles come to. -/
def nanN (f s c : Nat) : Nat := min (c * f / 2 ^ s) 4611686018427387903
def nanI (f s n : Int) : Int := if okR f s then (nanN f.toNat s.toNat (clN n).toNat : Nat) else 0
theorem nanN_mono {f s c d : Nat} (h : c ≤ d) : nanN f s c ≤ nanN f s d := by
  unfold nanN
  have : c * f / 2 ^ s ≤ d * f / 2 ^ s := Nat.div_le_div_right (Nat.mul_le_mul_right _ h)
  omega
theorem nanN_le (f s c : Nat) : nanN f s c ≤ 4611686018427387903 := Nat.min_le_right _ _
theorem nanN_zero (f s : Nat) : nanN f s 0 = 0 := by simp [nanN]
theorem nanI_ok {f s : Nat} {n : Int} {c : Nat} (h : okR f s) (hc : clN n = c) : nanI f s n = nanN f s c := by
  unfold nanI; rw [if_pos h, hc]; simp
theorem nanI_rng (f s n : Int) : 0 ≤ nanI f s n ∧ nanI f s n ≤ 4611686018427387903 := by
  unfold nanI
  split
  · have := nanN_le f.toNat s.toNat (clN n).toNat; omega
  · omega
theorem nanI_mono {f s a b : Int} (h : a ≤ b) : nanI f s a ≤ nanI f s b := by
  unfold nanI
  split
  · have := nanN_mono (f := f.toNat) (s := s.toNat) (c := (clN a).toNat) (d := (clN b).toNat) (by unfold clN; omega)
    omega
  · omega

theorem nanos_calls {m : Mem} {f s n : Int} {K : KV} (h : ∀ m', m.Grew m' → K (.int .i64 (nanI f s n)) m') : ACalls Try.prog 8 [.agg [.int .i64 f, .int .i64 s], .int .i64 n] m K := by
  refine run_on x1 hm c8 (by simp) fun hf => ?_
  have gB := Mem.Grew.new m (.row 2 [[.int .i64 f, .int .i64 s]] true)
  have oB : (m.new (.row 2 [[.int .i64 f, .int .i64 s]] true)).obj m.next = some (.row 2 [[.int .i64 f, .int .i64 s]] true) := by simp
  have bB : m.next < (m.new (.row 2 [[.int .i64 f, .int .i64 s]] true)).next := by simp
  simp (disch := omega) [-getElem?_pos, b8]
  generalize m.new (.row 2 [[.int .i64 f, .int .i64 s]] true) = m1 at *
  refine right9 fun m2 g2 => ?_
  have o2 := g2.obj m.next bB
  rw [oB] at o2
  have g := gB.trans g2
  by_cases hok : okR f s
  case neg =>
    have e1 : nanI f s n = 0 := if_neg hok
    rw [e1] at h
    rw [decide_eq_false hok]
    simp (disch := omega) [-getElem?_pos]
    exact h _ g
  rw [decide_eq_true hok]
  obtain ⟨k1, k2, k3, k4⟩ := hok
  obtain ⟨F, rfl⟩ := Int.eq_ofNat_of_zero_le (show 0 ≤ f by omega)
  obtain ⟨S, rfl⟩ := Int.eq_ofNat_of_zero_le k3
  have hc := clN_rng n
  obtain ⟨C, hC⟩ := Int.eq_ofNat_of_zero_le hc.1
  have e1 := nanI_ok (f := F) (s := S) (n := n) (c := C) ⟨k1, k2, k3, k4⟩ hC
  rw [e1] at h
  rw [hC] at hc
  obtain ⟨P, hP⟩ : ∃ P, 2 ^ S = P := ⟨_, rfl⟩
  obtain ⟨Q, hQ⟩ : ∃ Q, 2 ^ (64 - S) = Q := ⟨_, rfl⟩
  have hPQ : Q * P = 18446744073709551616 := by
    rw [← hP, ← hQ, ← Nat.pow_add, show 64 - S + S = 64 by omega]
  have hP1 : 0 < P := by rw [← hP]; exact Nat.pow_pos (by omega)
  have hQ1 : 0 < Q := by rw [← hQ]; exact Nat.pow_pos (by omega)
  obtain ⟨V, hV⟩ : ∃ V, C * F = V := ⟨_, rfl⟩
  have hnan : nanN F S C = min (V / P) 4611686018427387903 := by unfold nanN; rw [hV, hP]
  rw [hnan] at h
  obtain ⟨H, hH⟩ : ∃ H, V / 18446744073709551616 = H := ⟨_, rfl⟩
  obtain ⟨L, hL⟩ : ∃ L, V % 18446744073709551616 = L := ⟨_, rfl⟩
  have hVB : V < 4611686018427387904 * 4294967296 := by rw [← hV]; exact Nat.mul_lt_mul_of_le_of_lt (by omega) (by omega) (by omega)
  have hHB : H < 4294967296 := by omega
  simp (disch := omega) [-getElem?_pos]
  refine drawT_J (fun e m' => m2.Grew m' ∧ e = keep [2, 5, 6] (((Env.none.put (some 6) (.int .u64 L)).put (some 5) (.int .u64 H)).put (some 2) (.ptr (some (m.next, 0, 0))))) ?_ ?_
  · simp (disch := omega) [-getElem?_pos, o2, F17, hC]
    refine ⟨?_, ?_⟩
    all_goals
      refine mul_calls (by omega) (by omega) ?_
      rw [hV, hH, hL]
      simp (disch := omega) [-getElem?_pos]
      exact Mem.Grew.refl m2
  rintro e' m3 ⟨g3, rfl⟩
  have o3 : m3.obj m.next = some (.row 2 [[.int .i64 F, .int .i64 S]] true) := by
    have := g2.next
    rw [g3.obj m.next (by omega)]; exact o2
  replace h := h m3 (g.trans g3)
  have eS : min S 64 = S := by omega
  have ePI : (2 : Int) ^ S = (P : Int) := by rw [← hP]; push_cast; rfl
  have eQI : (2 : Int) ^ (64 - S) = (Q : Int) := by rw [← hQ]; push_cast; rfl
  have f1 : Int.fdiv (H : Int) (P : Int) = ((H / P : Nat) : Int) := by rw [Int.fdiv_eq_ediv_of_nonneg _ (by omega)]; rfl
  have f2 : Int.fdiv (L : Int) (P : Int) = ((L / P : Nat) : Int) := by rw [Int.fdiv_eq_ediv_of_nonneg _ (by omega)]; rfl
  by_cases hz : H / P = 0
  case neg =>
    have hHP : P ≤ H := by
      rcases Nat.lt_or_ge H P with q | q
      · exact absurd (Nat.div_eq_of_lt q) hz
      · exact q
    have hVP : 18446744073709551616 ≤ V / P := by
      rw [Nat.le_div_iff_mul_le hP1]
      have : 18446744073709551616 * P ≤ 18446744073709551616 * H := Nat.mul_le_mul_left _ hHP
      omega
    have emin : min (V / P) 4611686018427387903 = 4611686018427387903 := by omega
    rw [emin] at h
    simp (disch := omega) [-getElem?_pos, o3, eS, ePI, f1, hz]
    exact h
  have hHP : H < P := by
    rcases Nat.lt_or_ge H P with q | q
    · exact q
    · have := Nat.div_pos q hP1; omega
  have hVP : V / P = H * Q + L / P := by
    have : V = L + H * Q * P := by rw [Nat.mul_assoc, hPQ]; omega
    rw [this, Nat.add_mul_div_right _ _ hP1]; omega
  have hLP : L / P < Q := Nat.div_lt_of_lt_mul (by rw [Nat.mul_comm, hPQ]; omega)
  have hHQ : H * Q + L / P < 18446744073709551616 := by
    rw [← hPQ]
    have : (H + 1) * Q ≤ P * Q := Nat.mul_le_mul_right _ hHP
    rw [Nat.add_mul, Nat.one_mul] at this
    rw [Nat.mul_comm Q P]; omega
  obtain ⟨w, hw⟩ : ∃ w, L / P = w := ⟨_, rfl⟩
  obtain ⟨u, hu⟩ : ∃ u, H * Q = u := ⟨_, rfl⟩
  have hor := or_disj (a := w) (h := H) (j := 64 - S) (by rw [hQ]; omega) (by rw [hQ]; omega)
  rw [hQ, hu] at hor
  rw [hw] at hVP hLP hHQ f2
  rw [hu] at hVP hHQ
  have huI : (H : Int) * (Q : Int) = (u : Int) := by exact_mod_cast hu
  have hor2 : bOr .u64 (w : Int) (u : Int) = ((V / P : Nat) : Int) := by rw [hor, hVP]
  have emin : ((min (V / P) 4611686018427387903 : Nat) : Int) = min ((V / P : Nat) : Int) 4611686018427387903 := by omega
  obtain ⟨X, hX⟩ : ∃ X, V / P = X := ⟨_, rfl⟩
  rw [hX] at hor2 emin hVP h
  rw [emin] at h
  have e64 : ((64 : Int) - (S : Int)).toNat = 64 - S := by omega
  have em : min (64 - S) 64 = 64 - S := by omega
  by_cases hS : 0 < S
  · simp (disch := omega) [-getElem?_pos, o3, eS, ePI, f1, hz, f2, e64, em, eQI, huI, hor2]
    exact h
  · have : S = 0 := by omega
    subst this
    have hP1' : P = 1 := by rw [← hP]
    have hX2 : X = w := by
      subst hP1'
      have : H = 0 := by omega
      subst this
      omega
    subst hX2
    simp (disch := omega) [-getElem?_pos, o3, eS, ePI, f1, hz, f2]
    exact h
end Go.Proofs.Ytdcliaineeklcaa
