/-
  THE LAWS of this seat: ScaleNanos, ScaleCycles, ScaleMakes, ScaleRises.
-/
import Derived.Test.YtdcliaineeklcaaKx
namespace Go.Proofs.Ytdcliaineeklcaa
open Go Go.AM
set_option linter.unusedVariables false
set_option linter.unusedSimpArgs false
set_option maxRecDepth 60000
set_option maxHeartbeats 4000000

theorem pairV {m : Mem} {x : V} (h : IsV m (.struct [.int .i64, .int .i64]) x) : ∃ a b, x = .agg [.int .i64 a, .int .i64 b] := by
  obtain ⟨cs, rfl, x1, y1, rfl, ⟨a, rfl, _⟩, x2, y2, rfl, ⟨b, rfl, _⟩, rfl⟩ := h
  exact ⟨a, b, rfl⟩

theorem mk1000 : IsMk 1000 4096000000 12 := ⟨by omega, by decide, by omega, fun t h1 h2 => by
  have : ∀ t : Fin 33, 12 < t.val → 4294967296 ≤ mkF 1000 t.val := by decide
  exact this ⟨t, by omega⟩ h1⟩
theorem k1 : nanI 4096000000 12 1 = 1000000 := by decide
theorem k2 : nanI 4096000000 12 2 = 2000000 := by decide
theorem k0 : nanI 4096000000 12 0 = 0 := by decide
theorem k1000 : nanI 4096000000 12 1000 = 1000000000 := by decide
theorem kz : nanI 0 0 5 = 0 := by decide
theorem k7 : nanI 3 1 5 = 7 := by decide
theorem ok1000 : okR 4096000000 12 := by decide
theorem c1000 {c : Int} (h : IsC 4096000000 12 1000001 c) : c = 2 := by
  have a := h.be ok1000
  have b := h.at' ok1000
  have e : clN 1000001 = 1000001 := by decide
  rw [e] at a b
  have l := h.lo
  rcases Int.lt_trichotomy c 2 with q | q | q
  · have : c = 0 ∨ c = 1 := by omega
    rcases this with rfl | rfl
    · rw [k0] at b; omega
    · rw [k1] at b; omega
  · exact q
  · have := a 2 (by omega) q
    rw [k2] at this; omega

theorem fixed_calls {m : Mem} {K : KV} (h : ∀ m', m.Grew m' → K (.bool true) m') : ACalls Try.prog 7 [] m K := by
  refine run_on x1 hm c7 (by simp) fun hf => ?_
  simp (disch := omega) [-getElem?_pos, b7]
  refine make_calls (h := 1000) (by omega) (by omega) fun f s m1 mk g1 => ?_
  obtain ⟨rfl, rfl⟩ := mk.uni mk1000
  have gA := Mem.Grew.new m1 (.row 2 [[.int .i64 4096000000, .int .i64 12]] true)
  have oA : (m1.new (.row 2 [[.int .i64 4096000000, .int .i64 12]] true)).obj m1.next = some (.row 2 [[.int .i64 4096000000, .int .i64 12]] true) := by simp
  have bA : m1.next < (m1.new (.row 2 [[.int .i64 4096000000, .int .i64 12]] true)).next := by simp
  simp (disch := omega) [-getElem?_pos]
  generalize m1.new (.row 2 [[.int .i64 4096000000, .int .i64 12]] true) = m2 at *
  generalize m1.next = A at *
  have ob : ∀ M, m2.Grew M → M.obj A = some (.row 2 [[.int .i64 4096000000, .int .i64 12]] true) := fun M g => by rw [g.obj A bA]; exact oA
  refine make_no (by omega) fun m3 g3 => ?_
  have o3 := ob _ g3
  have b3 := g3.next
  have g4 : m2.Grew (m3.new (.row 2 [[.int .i64 0, .int .i64 0]] true)) := g3.trans (Mem.Grew.new m3 _)
  simp (disch := omega) [-getElem?_pos, o3]
  refine right9 fun m5 g5 => ?_
  have g5 := g4.trans g5
  have o5 := ob _ g5
  rw [decide_eq_true ok1000]
  simp (disch := omega) [-getElem?_pos, o5]
  refine nanos_calls fun m6 g6 => ?_
  have g6 := g5.trans g6
  have o6 := ob _ g6
  rw [k1]
  simp (disch := omega) [-getElem?_pos, o6]
  refine cycles_calls fun c m7 hc g7 => ?_
  rw [c1000 hc]
  have g7 := g6.trans g7
  have o7 := ob _ g7
  simp (disch := omega) [-getElem?_pos, o7]
  refine nanos_calls fun m8 g8 => ?_
  rw [kz]
  have g8 := g7.trans g8
  have o8 := ob _ g8
  simp (disch := omega) [-getElem?_pos, o8]
  refine nanos_calls fun m9 g9 => ?_
  rw [k7]
  have g9 := g8.trans g9
  have o9 := ob _ g9
  simp (disch := omega) [-getElem?_pos, o9]
  refine error_calls fun m10 g10 => ?_
  have e : (if okR 4096000000 12 ∧ (1 : Int) ≤ 1000 ∧ (1000 : Int) ≤ 1099511627776 then nanI 4096000000 12 1000 - 1000000000 else 0) = 0 := by decide
  rw [e]
  have g10 := g9.trans g10
  simp (disch := omega) [-getElem?_pos]
  exact h _ ((g1.trans gA).trans g10)

theorem nanos (m0 : Mem) (x0 x1' : V) (h0 : IsV m0 (.struct [.int .i64, .int .i64]) x0) (h1 : IsV m0 (.int .i64) x1') : ACalls Try.prog 3 [x0, x1'] m0 (fun r _ => r = .bool true) := by
  obtain ⟨f, s, rfl⟩ := pairV h0
  obtain ⟨n, rfl, hwn⟩ := h1.int
  refine run_on x1 hm c3 (by simp) fun hf => ?_
  have gB := Mem.Grew.new m0 (.row 2 [[.int .i64 f, .int .i64 s]] true)
  have oB : (m0.new (.row 2 [[.int .i64 f, .int .i64 s]] true)).obj m0.next = some (.row 2 [[.int .i64 f, .int .i64 s]] true) := by simp
  have bB : m0.next < (m0.new (.row 2 [[.int .i64 f, .int .i64 s]] true)).next := by simp
  simp (disch := omega) [-getElem?_pos, b3]
  generalize m0.new (.row 2 [[.int .i64 f, .int .i64 s]] true) = m1 at *
  generalize m0.next = B at *
  have ob : ∀ M, m1.Grew M → M.obj B = some (.row 2 [[.int .i64 f, .int .i64 s]] true) := fun M g => by rw [g.obj B bB]; exact oB
  refine fixed_calls fun m2 g2 => ?_
  have o2 := ob _ g2
  simp (disch := omega) [-getElem?_pos, o2]
  refine nanos_calls fun m3 g3 => ?_
  have g3 := g2.trans g3
  have o3 := ob _ g3
  simp (disch := omega) [-getElem?_pos, o3]
  refine drawT_J (fun e m' => m3.Grew m' ∧ e = keep [1, 2, 5, 15] ((((Env.none.put (some 15) (.bool false)).put (some 5) (.int .i64 (nanI f s n))).put (some 2) (.ptr (some (B, 0, 0)))).put (some 1) (.int .i64 n))) ?_ ?_
  · simp (disch := omega) [-getElem?_pos, o3]
    refine ⟨?_, ?_⟩
    all_goals
      refine right9 fun m4 g4 => ?_
      have g4' := g3.trans g4
      have o4 := ob _ g4'
      simp (disch := omega) [-getElem?_pos, o4]
      refine right10 fun m5 g5 => ?_
      simp (disch := omega) [-getElem?_pos]
      exact g4.trans g5
  rintro e' m4 ⟨g4, rfl⟩
  have g4 := g3.trans g4
  have o4 := ob _ g4
  simp (disch := omega) [-getElem?_pos, o4]
  refine right10 fun m5 g5 => ?_
  have g5 := g4.trans g5
  have o5 := ob _ g5
  by_cases hok : okR f s
  · rw [decide_eq_true hok]
    simp (disch := omega) [-getElem?_pos, o5]
    refine refNanos_calls hok fun m6 g6 => ?_
    simp (disch := omega) [-getElem?_pos]
  · rw [decide_eq_false hok, show nanI f s n = 0 from if_neg hok]
    simp (disch := omega) [-getElem?_pos, o5]
    refine cycles_calls fun c m6 hc g6 => ?_
    rw [hc.no hok]
    simp (disch := omega) [-getElem?_pos]

theorem cycles (m0 : Mem) (x0 x1' : V) (h0 : IsV m0 (.struct [.int .i64, .int .i64]) x0) (h1 : IsV m0 (.int .i64) x1') : ACalls Try.prog 4 [x0, x1'] m0 (fun r _ => r = .bool true) := by
  obtain ⟨f, s, rfl⟩ := pairV h0
  obtain ⟨n, rfl, hwn⟩ := h1.int
  refine run_on x1 hm c4 (by simp) fun hf => ?_
  have gB := Mem.Grew.new m0 (.row 2 [[.int .i64 f, .int .i64 s]] true)
  have oB : (m0.new (.row 2 [[.int .i64 f, .int .i64 s]] true)).obj m0.next = some (.row 2 [[.int .i64 f, .int .i64 s]] true) := by simp
  have bB : m0.next < (m0.new (.row 2 [[.int .i64 f, .int .i64 s]] true)).next := by simp
  simp (disch := omega) [-getElem?_pos, b4]
  generalize m0.new (.row 2 [[.int .i64 f, .int .i64 s]] true) = m1 at *
  generalize m0.next = B at *
  have ob : ∀ M, m1.Grew M → M.obj B = some (.row 2 [[.int .i64 f, .int .i64 s]] true) := fun M g => by rw [g.obj B bB]; exact oB
  refine fixed_calls fun m2 g2 => ?_
  have o2 := ob _ g2
  simp (disch := omega) [-getElem?_pos, o2]
  refine right10 fun m3 g3 => ?_
  have g3 := g2.trans g3
  have o3 := ob _ g3
  by_cases hok : okR f s
  case neg =>
    rw [decide_eq_false hok]
    simp (disch := omega) [-getElem?_pos]
  rw [decide_eq_true hok]
  simp (disch := omega) [-getElem?_pos, o3]
  refine cycles_calls fun c m4 hc g4 => ?_
  have g4 := g3.trans g4
  have o4 := ob _ g4
  have hcl : min (max n 0) 4611686018427387903 = clN n := rfl
  obtain ⟨c1, c2, c3, c4, c5⟩ := hc
  replace c4 := c4 hok
  replace c5 := c5 hok
  have hr := clN_rng n
  generalize clN n = W at *
  simp (disch := omega) [-getElem?_pos, o4, hcl]
  refine refNanos_calls hok fun m5 g5 => ?_
  have g5 := g4.trans g5
  have o5 := ob _ g5
  by_cases hlt : nanI f s c < W
  · have : c = 4611686018427387903 := by omega
    simp (disch := omega) [-getElem?_pos, hlt]
  by_cases hz : c = 0
  · simp (disch := omega) [-getElem?_pos, o5]
  simp (disch := omega) [-getElem?_pos, o5]
  refine refNanos_calls hok fun m6 g6 => ?_
  have := c4 (c - 1) (by omega) (by omega)
  simp (disch := omega) [-getElem?_pos]

theorem rises (m0 : Mem) (x0 x1' x2' : V) (h0 : IsV m0 (.struct [.int .i64, .int .i64]) x0) (h1 : IsV m0 (.int .i64) x1') (h2 : IsV m0 (.int .i64) x2') : ACalls Try.prog 6 [x0, x1', x2'] m0 (fun r _ => r = .bool true) := by
  obtain ⟨f, s, rfl⟩ := pairV h0
  obtain ⟨a, rfl, hwa⟩ := h1.int
  obtain ⟨b, rfl, hwb⟩ := h2.int
  refine run_on x1 hm c6 (by simp) fun hf => ?_
  have gB := Mem.Grew.new m0 (.row 2 [[.int .i64 f, .int .i64 s]] true)
  have oB : (m0.new (.row 2 [[.int .i64 f, .int .i64 s]] true)).obj m0.next = some (.row 2 [[.int .i64 f, .int .i64 s]] true) := by simp
  have bB : m0.next < (m0.new (.row 2 [[.int .i64 f, .int .i64 s]] true)).next := by simp
  simp (disch := omega) [-getElem?_pos, b6]
  generalize m0.new (.row 2 [[.int .i64 f, .int .i64 s]] true) = m1 at *
  generalize m0.next = B at *
  have ob : ∀ M, m1.Grew M → M.obj B = some (.row 2 [[.int .i64 f, .int .i64 s]] true) := fun M g => by rw [g.obj B bB]; exact oB
  refine fixed_calls fun m2 g2 => ?_
  have o2 := ob _ g2
  obtain ⟨lo, hlo⟩ : ∃ lo, min a b = lo := ⟨_, rfl⟩
  obtain ⟨hi, hhi⟩ : ∃ hi, max a b = hi := ⟨_, rfl⟩
  have hle : lo ≤ hi := by omega
  simp (disch := omega) [-getElem?_pos, hlo, hhi]
  refine drawT_J (fun e m' => e = keep [6] (Env.none.put (some 6) (.bool true))) ?_ ?_
  · simp (disch := omega) [-getElem?_pos, o2]
    have hm := nanI_mono (f := f) (s := s) hle
    have hr := nanI_rng f s hi
    have hz : nanI f s 0 = 0 := by
      unfold nanI
      split
      · rw [show clN 0 = 0 from rfl]; simp [nanN]
      · rfl
    refine ⟨?_, ?_⟩
    all_goals
      refine nanos_calls fun m3 g3 => ?_
      have g3 := g2.trans g3
      have o3 := ob _ g3
      simp (disch := omega) [-getElem?_pos, o3]
      refine nanos_calls fun m4 g4 => ?_
      have g4 := g3.trans g4
      have o4 := ob _ g4
      simp (disch := omega) [-getElem?_pos, o4]
      refine ⟨?_, ?_⟩
      all_goals
        refine cycles_calls fun c m5 hc g5 => ?_
        have g5 := g4.trans g5
        have o5 := ob _ g5
        simp (disch := omega) [-getElem?_pos, o5]
        refine cycles_calls fun c2 m6 hc2 g6 => ?_
        have g6 := g5.trans g6
        have o6 := ob _ g6
        have hcc := hc.mono hc2 hle
        simp (disch := omega) [-getElem?_pos, o6]
        refine nanos_calls fun m7 g7 => ?_
        have g7 := g6.trans g7
        have o7 := ob _ g7
        rw [hz]
        simp (disch := omega) [-getElem?_pos, o7]
        refine cycles_calls fun c3 m8 hc3 g8 => ?_
        have g8 := g7.trans g8
        have o8 := ob _ g8
        rw [hc3.zero]
        simp (disch := omega) [-getElem?_pos, o8]
        refine nanos_calls fun m9 g9 => ?_
        simp (disch := omega) [-getElem?_pos]
  rintro e' m3 rfl
  simp (disch := omega) [-getElem?_pos]
theorem makes (m0 : Mem) (x0 : V) (h0 : IsV m0 (.int .i64) x0) : ACalls Try.prog 5 [x0] m0 (fun r _ => r = .bool true) := by
  obtain ⟨n, rfl, hwn⟩ := h0.int
  refine run_on x1 hm c5 (by simp) fun hf => ?_
  simp (disch := omega) [-getElem?_pos, b5]
  refine fixed_calls fun m1 g1 => ?_
  by_cases hn : n < 1 ∨ 1099511627776 < n
  · have en : ∀ a b : Int, (if okR 1 0 ∧ (1 : Int) ≤ n ∧ n ≤ 1099511627776 then a else b) = b := fun a b => if_neg (by omega)
    simp (disch := omega) [-getElem?_pos]
    refine make_no hn fun m2 g2 => ?_
    by_cases hn1 : n < 1
    · simp (disch := omega) [-getElem?_pos]
      refine error_calls fun m3 g3 => ?_
      rw [en]
      simp (disch := omega) [-getElem?_pos]
    · simp (disch := omega) [-getElem?_pos]
      refine error_calls fun m3 g3 => ?_
      rw [en]
      simp (disch := omega) [-getElem?_pos]
  obtain ⟨h, rfl⟩ := Int.eq_ofNat_of_zero_le (show 0 ≤ n by omega)
  simp (disch := omega) [-getElem?_pos]
  refine make_calls (h := h) (by omega) (by omega) fun f s m2 mk g2 => ?_
  have hok := mk.ok (by omega) (by omega)
  have hfp := mk.pos (by omega) (by omega)
  have hfl := mk.f_lt
  have hsl := mk.s_le
  have oB : (m2.new (.row 2 [[.int .i64 f, .int .i64 s]] true)).obj m2.next = some (.row 2 [[.int .i64 f, .int .i64 s]] true) := by simp
  have bB : m2.next < (m2.new (.row 2 [[.int .i64 f, .int .i64 s]] true)).next := by simp
  have ob : ∀ M, (m2.new (.row 2 [[.int .i64 f, .int .i64 s]] true)).Grew M → M.obj m2.next = some (.row 2 [[.int .i64 f, .int .i64 s]] true) := fun M g => by rw [g.obj m2.next bB]; exact oB
  by_cases h4 : h < 4
  · simp (disch := omega) [-getElem?_pos]
    refine right10 fun m4 g4 => ?_
    rw [decide_eq_true hok]
    simp (disch := omega) [-getElem?_pos]
  have hr := nanI_rng f s h
  have ee : (if okR f s ∧ (1 : Int) ≤ h ∧ (h : Int) ≤ 1099511627776 then nanI f s h - 1000000000 else 0) = nanI f s h - 1000000000 := if_pos ⟨hok, by omega, by omega⟩
  by_cases h1000 : h < 1000
  · simp (disch := omega) [-getElem?_pos]
    generalize m2.new (.row 2 [[.int .i64 f, .int .i64 s]] true) = m3 at *
    refine error_calls fun m4 g4 => ?_
    rw [ee]
    have o4 := ob _ g4
    simp (disch := omega) [-getElem?_pos, o4]
    refine refNanos_calls hok fun m5 g5 => ?_
    simp (disch := omega) [-getElem?_pos]
  · simp (disch := omega) [-getElem?_pos]
    refine refMake_calls (by omega) (by omega) fun f' s' mk' => ?_
    obtain ⟨rfl, rfl⟩ := mk.uni mk'
    simp (disch := omega) [-getElem?_pos]
    generalize m2.new (.row 2 [[.int .i64 f, .int .i64 s]] true) = m3 at *
    refine error_calls fun m4 g4 => ?_
    rw [ee]
    have o4 := ob _ g4
    simp (disch := omega) [-getElem?_pos, o4]
    refine refNanos_calls hok fun m5 g5 => ?_
    have o5 := ob _ (g4.trans g5)
    simp (disch := omega) [-getElem?_pos, o5]
end Go.Proofs.Ytdcliaineeklcaa
