/-
  THE SCALE OF A FREQUENCY, in plain words: Div64 (short), Make, the document's Make, Error.
-/
import Derived.Test.YtdcliaineeklcaaHx
namespace Go.Proofs.Ytdcliaineeklcaa
open Go Go.AM
set_option linter.unusedVariables false
set_option linter.unusedSimpArgs false
set_option maxRecDepth 60000
set_option maxHeartbeats 4000000

theorem div_calls {m : Mem} {x y : Nat} (hx : x < 18446744073709551616) (hy : y < 18446744073709551616) (h0 : 0 < y) {K : KV} (h : K (.tup [.int .u64 ((x / y : Nat) : Int), .int .u64 ((x % y : Nat) : Int)]) m) : ACalls Try.prog 21 [.int .u64 0, .int .u64 x, .int .u64 y] m K := by
  refine run_on (ctx_nil _) hm c21 (by simp) fun hf => ?_
  have e1 : (x : Int).tdiv (y : Int) = ((x / y : Nat) : Int) := rfl
  have e2 : (x : Int).tmod (y : Int) = ((x % y : Nat) : Int) := rfl
  have b1 : x / y ≤ x := Nat.div_le_self _ _
  have b2 : x % y < y := Nat.mod_lt _ h0
  obtain ⟨Q, hQ⟩ : ∃ Q, x / y = Q := ⟨_, rfl⟩
  obtain ⟨R, hR⟩ : ∃ R, x % y = R := ⟨_, rfl⟩
  rw [hQ] at e1 b1 h
  rw [hR] at e2 b2 h
  simp (disch := omega) [-getElem?_pos, b21, e1, e2]
  exact h

/-- A factor. -/
def mkF (h s : Nat) : Nat := (1000000000 * 2 ^ s + h / 2) / h
structure IsMk (h f s : Nat) : Prop where
  s_le : s ≤ 32
  f_eq : f = mkF h s
  f_lt : f < 4294967296
  top : ∀ t, s < t → t ≤ 32 → 4294967296 ≤ mkF h t
theorem IsMk.uni {h f s f' s' : Nat} (a : IsMk h f s) (b : IsMk h f' s') : f = f' ∧ s = s' := by
  have : s = s' := by
    rcases Nat.lt_trichotomy s s' with q | q | q
    · have h1 := a.top s' q b.s_le
      have h2 := b.f_lt
      rw [b.f_eq] at h2; omega
    · exact q
    · have h1 := b.top s q a.s_le
      have h2 := a.f_lt
      rw [a.f_eq] at h2; omega
  subst this
  exact ⟨by rw [a.f_eq, b.f_eq], rfl⟩
theorem pow32 {s : Nat} (h : s ≤ 32) : 2 ^ s ≤ 4294967296 ∧ 0 < 2 ^ s := ⟨by
  have : 2 ^ s ≤ 2 ^ 32 := Nat.pow_le_pow_right (by omega) h
  omega, Nat.pow_pos (by omega)⟩
theorem IsMk.pos {h f s : Nat} (a : IsMk h f s) (h1 : 0 < h) (h2 : h ≤ 1099511627776) : 0 < f := by
  have hs := a.s_le
  rw [a.f_eq]
  unfold mkF
  apply Nat.div_pos _ h1
  rcases Nat.lt_or_ge s 32 with q | q
  · have h3 := a.top (s + 1) (by omega) (by omega)
    unfold mkF at h3
    rw [Nat.le_div_iff_mul_le h1, Nat.pow_succ] at h3
    omega
  · have : s = 32 := by omega
    subst this
    omega
theorem IsMk.ok {h f s : Nat} (a : IsMk h f s) (h1 : 0 < h) (h2 : h ≤ 1099511627776) : okR f s := by
  have := a.pos h1 h2
  have := a.f_lt
  have := a.s_le
  unfold okR; omega
/-- Rounded in another way. -/
theorem mkF_alt {h s : Nat} (h1 : 0 < h) : (2 * (1000000000 * 2 ^ s) / h + 1) / 2 = mkF h s := by
  unfold mkF
  obtain ⟨P, hP⟩ : ∃ P, 1000000000 * 2 ^ s = P := ⟨_, rfl⟩
  rw [hP]
  obtain ⟨q, hq⟩ : ∃ q, (P + h / 2) / h = q := ⟨_, rfl⟩
  rw [hq]
  have k1 : q * h ≤ P + h / 2 := by rw [← hq]; exact Nat.div_mul_le_self _ _
  have k2 : P + h / 2 < (q + 1) * h := by
    rw [← hq]
    have := Nat.lt_succ_self ((P + h / 2) / h)
    exact (Nat.div_lt_iff_lt_mul h1).mp this
  obtain ⟨u, hu⟩ : ∃ u, q * h = u := ⟨_, rfl⟩
  rw [Nat.add_mul, Nat.one_mul, hu] at k2
  rw [hu] at k1
  have k3 : 2 * P / h + 1 < 2 * q + 2 := by
    have : 2 * P / h < 2 * q + 1 := by
      rw [Nat.div_lt_iff_lt_mul h1, Nat.add_mul, Nat.mul_assoc, hu]; omega
    omega
  have k4 : 2 * q ≤ 2 * P / h + 1 := by
    rcases Nat.eq_zero_or_pos q with z | z
    · rw [z]; exact Nat.zero_le _
    · have : 2 * q - 1 ≤ 2 * P / h := by
        rw [Nat.le_div_iff_mul_le h1, Nat.sub_mul, Nat.mul_assoc, hu]; omega
      omega
  omega

theorem make_calls {m : Mem} {h : Nat} (h1 : 0 < h) (h2 : h ≤ 1099511627776) {K : KV} (hK : ∀ f s m', IsMk h f s → m.Grew m' → K (.tup [.agg [.int .i64 f, .int .i64 s], .bool true]) m') : ACalls Try.prog 13 [.int .i64 h] m K := by
  refine run_on x1 hm c13 (by simp) fun hf => ?_
  have gB := Mem.Grew.new m (.row 2 [[.int .i64 0, .int .i64 0]] true)
  have oB : (m.new (.row 2 [[.int .i64 0, .int .i64 0]] true)).obj m.next = some (.row 2 [[.int .i64 0, .int .i64 0]] true) := by simp
  have bB : m.next < (m.new (.row 2 [[.int .i64 0, .int .i64 0]] true)).next := by simp
  simp (disch := omega) [-getElem?_pos, b13]
  generalize m.new (.row 2 [[.int .i64 0, .int .i64 0]] true) = m1 at *
  refine exec_loopU (σ := Int) (fun i => [(4, .int .i64 i)]) (fun _ => m1) (fun i => 0 ≤ i ∧ i ≤ 32 ∧ ∀ t : Nat, i < t → t ≤ 32 → 4294967296 ≤ mkF h t) (fun i => i.toNat) 32 rfl
    (by exact ⟨by omega, by omega, fun t h1 h2 => absurd h2 (by omega)⟩) (by simp) ?_
  intro i ⟨a1, a2, a3⟩
  obtain ⟨S, rfl⟩ := Int.eq_ofNat_of_zero_le a1
  obtain ⟨P, hP⟩ : ∃ P, 2 ^ S = P := ⟨_, rfl⟩
  have hp := pow32 (s := S) (by omega)
  rw [hP] at hp
  have ePI : (2 : Int) ^ S = (P : Int) := by rw [← hP]; push_cast; rfl
  have eS : min S 64 = S := by omega
  obtain ⟨H2, hH2⟩ : ∃ H2, h / 2 = H2 := ⟨_, rfl⟩
  obtain ⟨N, hN⟩ : ∃ N, 1000000000 * P = N := ⟨_, rfl⟩
  obtain ⟨X, hX⟩ : ∃ X, N + H2 = X := ⟨_, rfl⟩
  obtain ⟨R, hR⟩ : ∃ R, X % h = R := ⟨_, rfl⟩
  obtain ⟨F, hF⟩ : ∃ F, X / h = F := ⟨_, rfl⟩
  have kR : X % h < h := Nat.mod_lt _ h1
  have kQ : X / h ≤ X := Nat.div_le_self _ _
  have hF2 : mkF h S = F := by unfold mkF; rw [hP, hN, hH2, hX, hF]
  rw [hR] at kR
  rw [hF] at kQ
  have eh : (h : Int).tdiv 2 = (H2 : Int) := by rw [← hH2]; rfl
  have h00 : (h : Int) ≠ 0 := by omega
  by_cases hlt : F < 4294967296
  case' pos =>
    have mk : IsMk h F S := ⟨by omega, hF2.symm, hlt, fun t h1 h2 => a3 t (by omega) h2⟩
    have hpos := mk.pos h1 h2
  all_goals
    simp (disch := omega) [-getElem?_pos, ePI, eS]
    refine mul_calls (x := 1000000000) (y := P) (by omega) (by omega) ?_
    rw [show 1000000000 * P / 18446744073709551616 = 0 by omega, show 1000000000 * P % 18446744073709551616 = 1000000000 * P by omega, hN]
    simp (disch := omega) [-getElem?_pos, eh]
    refine add_calls (x := N) (y := H2) (by omega) ?_
    rw [hX]
    simp (disch := omega) [-getElem?_pos, h00]
    refine div_calls (x := X) (y := h) (by omega) (by omega) h1 ?_
    rw [hF, hR]
  case pos =>
    simp (disch := omega) [-getElem?_pos, oB]
    exact hK _ _ _ mk (gB.upd (by omega) _)
  case neg =>
    have hS : 0 < S := by
      rcases Nat.eq_zero_or_pos S with z | z
      · subst z
        exfalso
        have : P = 1 := by rw [← hP]
        have k1 : F * h ≤ X := by rw [← hF]; exact Nat.div_mul_le_self _ _
        have k2 : 4294967296 * h ≤ F * h := Nat.mul_le_mul_right _ (by omega)
        omega
      · exact z
    simp (disch := omega) [-getElem?_pos]
    exact again_mk ((S : Int) - 1) ⟨by omega, by omega, fun t h1 h2 => by
      by_cases q : t = S
      · subst q; omega
      · exact a3 t (by omega) h2⟩ (by omega) (by simp) rfl
theorem make_no {m : Mem} {h : Int} (h1 : h < 1 ∨ 1099511627776 < h) {K : KV} (hK : ∀ m', m.Grew m' → K (.tup [.agg [.int .i64 0, .int .i64 0], .bool false]) m') : ACalls Try.prog 13 [.int .i64 h] m K := by
  refine run_on x1 hm c13 (by simp) fun hf => ?_
  have gB := Mem.Grew.new m (.row 2 [[.int .i64 0, .int .i64 0]] true)
  by_cases hl : h < 1
  · simp (disch := omega) [-getElem?_pos, b13]
    exact hK _ gB
  · simp (disch := omega) [-getElem?_pos, b13]
    exact hK _ gB

theorem refMake_calls {m : Mem} {h : Nat} (h1 : 1000 ≤ h) (h2 : h ≤ 1099511627776) {K : KV} (hK : ∀ f s, IsMk h f s → K (.tup [.int .i64 f, .int .i64 s, .bool true]) m) : ACalls Try.prog 15 [.int .i64 h] m K := by
  refine run_on (ctx_nil _) hm c15 (by simp) fun hf => ?_
  simp (disch := omega) [-getElem?_pos, b15]
  refine exec_loopU (σ := Int) (fun i => [(5, .int .i64 i)]) (fun _ => m) (fun i => 0 ≤ i ∧ i ≤ 32 ∧ ∀ t : Nat, i < t → t ≤ 32 → 4294967296 ≤ mkF h t) (fun i => i.toNat) 32 rfl
    (by exact ⟨by omega, by omega, fun t h1 h2 => absurd h2 (by omega)⟩) (by simp) ?_
  intro i ⟨a1, a2, a3⟩
  obtain ⟨S, rfl⟩ := Int.eq_ofNat_of_zero_le a1
  obtain ⟨P, hP⟩ : ∃ P, 2 ^ S = P := ⟨_, rfl⟩
  have hp := pow32 (s := S) (by omega)
  rw [hP] at hp
  have ePI : (2 : Int) ^ S = (P : Int) := by rw [← hP]; push_cast; rfl
  have eS : min S 64 = S := by omega
  obtain ⟨N, hN⟩ : ∃ N, 1000000000 * P = N := ⟨_, rfl⟩
  have eN : (1000000000 : Int) * (P : Int) = (N : Int) := by omega
  obtain ⟨F, hF⟩ : ∃ F, mkF h S = F := ⟨_, rfl⟩
  have alt := mkF_alt (s := S) (h := h) (by omega)
  rw [hF, hP, hN] at alt
  obtain ⟨Q, hQ⟩ : ∃ Q, 2 * N / h = Q := ⟨_, rfl⟩
  have kQ : 2 * N / h ≤ 2 * N := Nat.div_le_self _ _
  rw [hQ] at alt kQ
  have eQ : (2 * (N : Int)).tdiv (h : Int) = (Q : Int) := by rw [← hQ]; rfl
  have e2 : ((Q : Int) + 1).tdiv 2 = (F : Int) := by rw [← alt]; rfl
  have h00 : (h : Int) ≠ 0 := by omega
  by_cases hlt : F < 4294967296
  · have mk : IsMk h F S := ⟨by omega, hF.symm, hlt, fun t h1 h2 => a3 t (by omega) h2⟩
    have hpos := mk.pos (by omega) h2
    replace hK := hK _ _ mk
    simp (disch := omega) [-getElem?_pos, ePI, eS, eN, eQ, e2, h00]
    exact hK
  · have hS : 0 < S := by
      rcases Nat.eq_zero_or_pos S with z | z
      · subst z
        exfalso
        have : P = 1 := by rw [← hP]
        have k1 : Q * h ≤ 2 * N := by rw [← hQ]; exact Nat.div_mul_le_self _ _
        have k2 : 4294967296 * h ≤ Q * h := Nat.mul_le_mul_right _ (by omega)
        omega
      · exact z
    simp (disch := omega) [-getElem?_pos, ePI, eS, eN, eQ, e2, h00]
    exact again_mk ((S : Int) - 1) ⟨by omega, by omega, fun t h1 h2 => by
      by_cases q : t = S
      · subst q; omega
      · exact a3 t (by omega) h2⟩ (by omega) (by simp) rfl

theorem error_calls {m : Mem} {f s n : Int} {K : KV} (h : ∀ m', m.Grew m' → K (.int .i64 (if okR f s ∧ 1 ≤ n ∧ n ≤ 1099511627776 then nanI f s n - 1000000000 else 0)) m') : ACalls Try.prog 14 [.agg [.int .i64 f, .int .i64 s], .int .i64 n] m K := by
  refine run_on (ctx_nil _) hm c14 (by simp) fun hf => ?_
  have gB := Mem.Grew.new m (.row 2 [[.int .i64 f, .int .i64 s]] true)
  have oB : (m.new (.row 2 [[.int .i64 f, .int .i64 s]] true)).obj m.next = some (.row 2 [[.int .i64 f, .int .i64 s]] true) := by simp
  have bB : m.next < (m.new (.row 2 [[.int .i64 f, .int .i64 s]] true)).next := by simp
  have hr := nanI_rng f s n
  by_cases hok : okR f s
  · by_cases h1 : 1 ≤ n
    · by_cases h2 : n ≤ 1099511627776
      · rw [if_pos ⟨hok, h1, h2⟩] at h
        simp (disch := omega) [-getElem?_pos, b14]
        generalize m.new (.row 2 [[.int .i64 f, .int .i64 s]] true) = m1 at *
        refine right9 fun m2 g2 => ?_
        rw [decide_eq_true hok]
        have o2 := g2.obj m.next bB
        rw [oB] at o2
        simp (disch := omega) [-getElem?_pos, o2]
        refine nanos_calls fun m3 g3 => ?_
        simp (disch := omega) [-getElem?_pos]
        exact h _ ((gB.trans g2).trans g3)
      · rw [if_neg fun h => h2 h.2.2] at h
        simp (disch := omega) [-getElem?_pos, b14]
        refine right9 fun m2 g2 => ?_
        rw [decide_eq_true hok]
        simp (disch := omega) [-getElem?_pos]
        exact h _ (gB.trans g2)
    · rw [if_neg fun h => h1 h.2.1] at h
      simp (disch := omega) [-getElem?_pos, b14]
      refine right9 fun m2 g2 => ?_
      rw [decide_eq_true hok]
      simp (disch := omega) [-getElem?_pos]
      exact h _ (gB.trans g2)
  · rw [if_neg fun h => hok h.1] at h
    simp (disch := omega) [-getElem?_pos, b14]
    refine right9 fun m2 g2 => ?_
    rw [decide_eq_false hok]
    simp (disch := omega) [-getElem?_pos]
    exact h _ (gB.trans g2)
end Go.Proofs.Ytdcliaineeklcaa
