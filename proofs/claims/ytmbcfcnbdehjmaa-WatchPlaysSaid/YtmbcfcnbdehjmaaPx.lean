/-
  WATCHPLAYS, of what the functions of this seat do.
-/
import Derived.Test.YtmbcfcnbdehjmaaLx
namespace Go.Proofs.Ytmbcfcnbdehjmaa
open Go Go.AM
set_option linter.unusedVariables false
set_option linter.unusedSimpArgs false
set_option maxRecDepth 8000
set_option maxHeartbeats 8000000

/-- At times that are near, time goes on as plain numbers do. -/
theorem reachT_near2 {now total t : Int} {run : Bool} (h1 : -4503599627370496 ≤ t) (h2 : t ≤ 4503599627370496) (h3 : now ≤ 4503599627370496) (h4 : run = true → -4503599627370496 ≤ now) (h5 : -4611686018427387903 ≤ now) (h6 : 0 ≤ total) (h7 : total ≤ 1152921504606846976) :
    reachT now total run t = (max now t, if run then total + (max now t - now) else total) := by
  have e1 : clampI t = t := by unfold clampI; omega
  unfold reachT
  rw [e1]
  cases run with
  | false => simp
  | true =>
    have := h4 rfl
    simp only [if_true, Prod.mk.injEq, true_and]
    have e2 : min (max now t) 4611686018427387902 = max now t := by omega
    have e3 : min now 4611686018427387902 = now := by omega
    rw [e2, e3]
    unfold addI subI clampI
    rw [if_neg (by omega), if_neg (by omega)]
    omega

/-- What holds between a watch and what is reckoned by hand. -/
structure Play (w : Wt) (now since before lapped : Int) (run : Bool) (n : Nat) : Prop where
  rn : w.run = run
  len : w.laps.length ≤ n
  on : run = true → w.now = now ∧ -1125899906842624 ≤ since ∧ since ≤ now ∧ now ≤ 1125899906842624 ∧ w.total = before + (now - since)
  off : run = false → w.total = before ∧ ((w.now = now ∧ -1125899906842624 ≤ now ∧ now ≤ 1125899906842624) ∨ (now = -2305843009213693952 ∧ w.now = -4611686018427387903))
  lp : w.lapped = lapped
  l0 : 0 ≤ lapped ∧ lapped ≤ n * 2251799813685248
  b0 : 0 ≤ before ∧ before ≤ n * 2251799813685248

theorem len1 {m : Mem} {v : V} {k : IntKind} {zs : List Int} (h : Ows m 1 v (rowI k zs)) : ∃ N : Nat, zs.length = N ∧ lenSl v = some (.int .i64 N) := ⟨_, rfl, by have := h.sl.lenSl; rwa [rowI_length] at this⟩
theorem at1 {m : Mem} {v : V} {zs : List Int} (h : Ows m 1 v (rowI .i64 zs)) {y : Nat} (hy : y < zs.length) : ∃ p q full rw, iaddrV 1 v (.int .i64 y) = some (.ptr (some (p, q, 0))) ∧ m.obj p = some (.row 1 full rw) ∧ full[q]? = some [.int .i64 (nth zs y)] := by
  obtain ⟨p, q, full, rw, u1, u2, u3, u4, u5⟩ := h.sl.at (i := y) (x := [.int .i64 (nth zs y)]) (by rw [rowI_get, nth_get hy]; rfl) .i64
  exact ⟨p, q, full, rw, u1, u3, u4⟩
theorem least_le {zs : List Int} {y : Nat} (h : y < zs.length) : leastI zs ≤ nth zs y := by
  cases zs with
  | nil => simp at h
  | cons z l =>
    obtain ⟨p1, p2, _⟩ := foldl_min l z
    cases y with
    | zero => exact p1
    | succ y => rw [nth_succ]; exact p2 _ (nth_mem (by simpa using h))
theorem isEmpty_len {zs : List Int} {N : Nat} (h : zs.length = N) : (!zs.isEmpty) = decide (0 < (N : Int)) := by
  cases zs with
  | nil => simp at h; subst h; rfl
  | cons z l => simp at h; subst h; simp <;> omega

theorem plays (m0 : Mem) (x0 : V) (h0 : IsV m0 (.slice 2 (.struct [.int .u8, .int .i64])) x0) : ACalls Try.prog 5 [x0] m0 (fun r _ => r = .bool true) := by
  obtain ⟨a, c, l, rfl, hsl, hwf⟩ := h0.pairs
  refine run_on x4 hm c5 (by simp) fun hf => ?_
  by_cases hl : (100 : Int) < l.length
  · simp (disch := omega) [b5, F6]
  simp (disch := omega) [b5, F6]
  refine new_calls fun r m1 hW hr hg => ?_
  simp (disch := omega)
  refine exec_loopU (σ := Nat × Int × Int × Int × Int × Bool × V × Wt × List Nat × Mem) (fun (i, now, since, before, lapped, run, lv, _, _, _) => [(4, .int .i64 now), (5, .int .i64 since), (6, .int .i64 before), (7, .int .i64 lapped), (8, .bool run), (9, lv), (31, .int .i64 i)]) (fun (_, _, _, _, _, _, _, _, _, M) => M)
    (fun (i, now, since, before, lapped, run, lv, w, D, M) => i ≤ l.length ∧ Watch M D r w ∧ m0.Grew M ∧ (∀ p ∈ D, m0.next ≤ p) ∧ Play w now since before lapped run i ∧ Ows M 1 lv (rowI .i64 w.laps) ∧ (∀ p ∈ lv.fp, m0.next ≤ p ∧ p ∉ D)) (fun (i, _) => l.length - i)
    (0, -2305843009213693952, 0, 0, 0, false, .sl none 0 (some 0), Wt.new, [r], m1) rfl
    ⟨by omega, hW, hg, by simp; omega, ⟨rfl, by simp [Wt.new], fun h => (by cases h), fun _ => ⟨rfl, .inr ⟨rfl, rfl⟩⟩, rfl, by simp, by simp⟩, Ows.nil _ _, by simp [V.fp]⟩ (by simp) ?_
  intro (i, now, since, before, lapped, run, lv, w, D, M) ⟨a1, a2, a3, a4, a5, a6, a7⟩
  by_cases hi : i < l.length
  case neg => simp (disch := omega)
  obtain ⟨c', r', i', full, rw, e1, e2, e3, e4⟩ := Slc.of_ne hsl (fun e => by simp at e; subst e; simp at hi)
  injection e1 with e11 e12 e13
  subst e11
  have e5 := e4 i (by simpa using hi)
  obtain ⟨kd, t, hx⟩ : ∃ kd t, l[i]? = some (kd, t) := ⟨_, _, List.getElem?_eq_getElem hi⟩
  have hkd := wf_u8 (hwf _ (mem_of_idx hx)).1
  simp [hx] at e5
  have hr' := hf r' _ e2
  have hgn := a3.next
  have e6 := a3.obj r' hr'
  rw [e2] at e6
  clear e4 e3 hsl h0 hwf e12 e13 e2
  have hN : i < 100 := by omega
  simp (disch := omega) [-getElem?_pos, e6, e5]
  by_cases ht1 : t < -1125899906842624
  · simp (disch := omega)
  by_cases ht2 : 1125899906842624 < t
  · simp (disch := omega)
  simp (disch := omega)
  have b1 := a2.grow (Mem.Grew.new M (.row 2 [[.int .u8 kd, .int .i64 t]] true))
  have b2 := a3.trans (Mem.Grew.new M (.row 2 [[.int .u8 kd, .int .i64 t]] true))
  have b3 := a6.grow (Mem.Grew.new M (.row 2 [[.int .u8 kd, .int .i64 t]] true))
  have o1 : (M.new (.row 2 [[.int .u8 kd, .int .i64 t]] true)).obj M.next = some (.row 2 [[.int .u8 kd, .int .i64 t]] true) := by simp
  have o2 : M.next < (M.new (.row 2 [[.int .u8 kd, .int .i64 t]] true)).next := by simp
  have o3 : M.next ∉ D := fun e => by have := a2.lt _ e; omega
  have o4 := a6.lt
  generalize M.new (.row 2 [[.int .u8 kd, .int .i64 t]] true) = M1 at *
  obtain ⟨q1, q2, q3, q4, q5, q6, q7⟩ := a5
  have hlen := q2
  have near : (run = true ∨ run = false) → reachT w.now w.total w.run t = (max now t, if run = true then before + (max now t - since) else before) := by
    intro hc
    rw [q1]
    cases run with
    | true =>
      obtain ⟨g1, g2, g3, g4, g5⟩ := q3 rfl
      rw [reachT_near2 (by omega) (by omega) (by omega) (fun _ => by omega) (by omega) (by omega) (by omega), g1]
      simp; omega
    | false =>
      obtain ⟨g1, g2⟩ := q4 rfl
      rw [reachT_near2 (by omega) (by omega) (by omega) (fun h => by cases h) (by omega) (by omega) (by omega), g1]
      simp; omega
  replace near := near (by cases run <;> simp)
  obtain ⟨at', hat⟩ : ∃ x, max now t = x := ⟨_, rfl⟩
  rw [hat] at near
  have hat2 : -1125899906842624 ≤ at' ∧ at' ≤ 1125899906842624 ∧ now ≤ at' := by
    cases run with
    | true => obtain ⟨g1, g2, g3, g4, g5⟩ := q3 rfl; omega
    | false => obtain ⟨g1, g2⟩ := q4 rfl; omega
  have ek : kd.tmod 5 = kd % 5 := Int.tmod_eq_emod_of_nonneg (by omega)
  obtain ⟨k, hk⟩ : ∃ k, kd % 5 = k := ⟨_, rfl⟩
  have hk2 : k = 0 ∨ k = 1 ∨ k = 2 ∨ k = 3 ∨ k = 4 := by omega
  cases run
  case' false => obtain ⟨g1, g2⟩ := q4 rfl
  case' true => obtain ⟨g1, g2, g3, g4, g5⟩ := q3 rfl
  all_goals
    clear q3 q4
    rcases hk2 with rfl | rfl | rfl | rfl | rfl
    all_goals simp (disch := omega) [-getElem?_pos, o1, hat, ek, hk]
  -- starts
  case' neg.true.inl =>
    refine start_calls b1 (fun h => ?_) (fun h => by rw [h] at q1; cases q1)
    have p1 := b1
    have p2 : m0.Grew M1 := b2
    have p3 := a4
    have p4 : Play w now since before lapped true (i + 1) := ⟨q1, by omega, fun _ => ⟨g1, g2, g3, g4, g5⟩, fun h => (by cases h), q5, ⟨q6.1, by omega⟩, ⟨q7.1, by omega⟩⟩
    have p5 := b3
    have p6 := a7
  case' neg.false.inl =>
    refine start_calls b1 (fun h => by rw [h] at q1; cases q1) (fun h M2 s1 s2 => ?_)
    have p1 := s1
    have p2 : m0.Grew M2 := s2.toGrew b2 a4
    have p3 := a4
    have p4 : Play { w.reach t with run := true } at' at' before lapped true (i + 1) := by
      simp only [Wt.reach, near, Bool.false_eq_true, if_false]
      exact ⟨rfl, by dsimp only; omega, fun _ => ⟨rfl, by omega, by omega, by omega, by dsimp only; omega⟩, fun h => (by cases h), q5, ⟨q6.1, by omega⟩, ⟨q7.1, by omega⟩⟩
    have p5 : Ows M2 1 lv (rowI .i64 w.laps) := b3.step s2 (fun p hp he => (a7 p he).2 hp)
    have p6 := a7
  -- stops
  case' neg.true.inr.inl =>
    refine stop_calls b1 (fun h => by rw [h] at q1; cases q1) (fun h M2 s1 s2 => ?_)
    have p1 := s1
    have p2 : m0.Grew M2 := s2.toGrew b2 a4
    have p3 := a4
    have ptot : (w.reach t).total = before + (at' - since) := by simp only [Wt.reach, near, if_true]
    have p4 : Play { w.reach t with run := false } at' since (before + (at' - since)) lapped false (i + 1) := by
      simp only [Wt.reach, near, if_true]
      exact ⟨rfl, by dsimp only; omega, fun h => (by cases h), fun _ => ⟨rfl, .inl ⟨rfl, by omega, by omega⟩⟩, q5, ⟨q6.1, by omega⟩, by omega, by omega⟩
    have p5 : Ows M2 1 lv (rowI .i64 w.laps) := b3.step s2 (fun p hp he => (a7 p he).2 hp)
    have p6 := a7
    rw [ptot]
  case' neg.false.inr.inl =>
    refine stop_calls b1 (fun h => ?_) (fun h => by rw [h] at q1; cases q1)
    have p1 := b1
    have p2 : m0.Grew M1 := b2
    have p3 := a4
    have p4 : Play w now since before lapped false (i + 1) := ⟨q1, by omega, fun h => (by cases h), fun _ => ⟨g1, g2⟩, q5, ⟨q6.1, by omega⟩, ⟨q7.1, by omega⟩⟩
    have p5 := b3
    have p6 := a7
  -- looks
  case' neg.true.inr.inr.inr.inl =>
    refine total_calls b1 (fun M2 s1 s2 => ?_)
    have p1 := s1
    have p2 : m0.Grew M2 := s2.toGrew b2 a4
    have p3 := a4
    have ptot : (w.reach t).total = before + (at' - since) := by simp only [Wt.reach, near, if_true]
    have p4 : Play (w.reach t) at' since before lapped true (i + 1) := by
      simp only [Wt.reach, near, if_true]
      exact ⟨q1, by dsimp only; omega, fun _ => ⟨rfl, by omega, by omega, by omega, rfl⟩, fun h => (by cases h), q5, ⟨q6.1, by omega⟩, q7.1, by omega⟩
    have p5 : Ows M2 1 lv (rowI .i64 w.laps) := b3.step s2 (fun p hp he => (a7 p he).2 hp)
    have p6 := a7
    rw [ptot]
  case' neg.false.inr.inr.inr.inl =>
    refine total_calls b1 (fun M2 s1 s2 => ?_)
    have p1 := s1
    have p2 : m0.Grew M2 := s2.toGrew b2 a4
    have p3 := a4
    have ptot : (w.reach t).total = before := by simp only [Wt.reach, near, Bool.false_eq_true, if_false]
    have p4 : Play (w.reach t) at' since before lapped false (i + 1) := by
      simp only [Wt.reach, near, Bool.false_eq_true, if_false]
      exact ⟨q1, by dsimp only; omega, fun h => (by cases h), fun _ => ⟨rfl, .inl ⟨rfl, by omega, by omega⟩⟩, q5, ⟨q6.1, by omega⟩, q7.1, by omega⟩
    have p5 : Ows M2 1 lv (rowI .i64 w.laps) := b3.step s2 (fun p hp he => (a7 p he).2 hp)
    have p6 := a7
    rw [ptot]
  -- resets
  case' neg.true.inr.inr.inr.inr | neg.false.inr.inr.inr.inr =>
    refine reset_calls b1 (fun M2 s1 s2 => ?_)
    have p1 := s1
    have p2 : m0.Grew M2 := s2.toGrew b2 a4
    have p3 := s2.ge b2.next a4
    have p4 : Play Wt.new (-2305843009213693952) 0 0 0 false (i + 1) := ⟨rfl, by simp [Wt.new], fun h => (by cases h), fun _ => ⟨rfl, .inr ⟨rfl, rfl⟩⟩, rfl, by simp; omega, by simp; omega⟩
    have p5 : Ows M2 1 (.sl none 0 (some 0)) (rowI .i64 Wt.new.laps) := Ows.nil _ _
    have p6 : ∀ p ∈ (V.sl none 0 (some 0)).fp, m0.next ≤ p ∧ p ∉ [r] := by simp [V.fp]
  -- laps
  case' neg.false.inr.inr.inl =>
    refine lap_calls b1 (by omega) (by simp only [Wt.reach, near, Bool.false_eq_true, if_false]; omega) (fun h => ?_) (fun h => by rw [h] at q1; cases q1)
    have p1 := b1
    have p2 : m0.Grew M1 := b2
    have p3 := a4
    have p4 : Play w now since before lapped false (i + 1) := ⟨q1, by omega, fun h => (by cases h), fun _ => ⟨g1, g2⟩, q5, ⟨q6.1, by omega⟩, ⟨q7.1, by omega⟩⟩
    have p5 := b3
    have p6 := a7
  case' neg.true.inr.inr.inl =>
    have ptot : (w.reach t).total = before + (at' - since) := by simp only [Wt.reach, near, if_true]
    refine lap_calls b1 (by omega) (by rw [ptot]; omega) (fun h => by rw [h] at q1; cases q1) (fun h M2 D2 s1 s2 => ?_)
    have hcut : w.laps.length + 1 - 1000 = 0 := by omega
    rw [hcut, List.drop_zero, ptot, q5] at s1
    rw [ptot, q5]
    have u1 : m0.Grew M2 := s2.toGrew b2 a4
    have u2 := s2.ge b2.next a4
    have u3 : Ows M2 1 lv (rowI .i64 w.laps) := b3.step s2 (fun p hp he => (a7 p he).2 hp)
    have u4 : ∀ p ∈ D2, p ∉ lv.fp := s2.apart b3.lt (fun p hp he => (a7 p he).2 hp)
    obtain ⟨d, hd⟩ : ∃ d, before + (at' - since) - lapped = d := ⟨_, rfl⟩
    rw [hd] at s1
    rw [hd]
    simp (disch := omega) [hd, eltsOf, Mem.elts]
    have u5 := s1.grow (Mem.Grew.new M2 (.row 1 [[.int .i64 d]] true))
    refine (u3.grow (Mem.Grew.new M2 (.row 1 [[.int .i64 d]] true))).app (by rw [rowI_length]; omega) (by rw [rowI_length]; omega) fun lv' M3 v1 v2 v3 => ?_
    have p1 := u5.keep v2.next (v2.keep u5.lt (fun p hp he => u4 p he hp))
    have p2 : m0.Grew M3 := v2.toGrew (u1.trans (Mem.Grew.new _ _)) (fun p hp => (a7 p hp).1)
    have p3 := u2
    have p4 : Play { w.reach t with lapped := before + (at' - since), laps := w.laps ++ [d] } at' since before (before + (at' - since)) true (i + 1) := by
      simp only [Wt.reach, near, if_true]
      exact ⟨q1, by simp; omega, fun _ => ⟨rfl, by omega, by omega, by omega, rfl⟩, fun h => (by cases h), rfl, by omega, q7.1, by omega⟩
    have p5 : Ows M3 1 lv' (rowI .i64 (w.laps ++ [d])) := by rw [← rowI_append]; exact v1
    have p6 : ∀ p ∈ lv'.fp, m0.next ≤ p ∧ p ∉ D2 := fun p hp => by
      rcases v2.fp p hp with q | q
      · exact ⟨(a7 p q).1, fun e => u4 p e q⟩
      · have h1 := u1.next
        have h2 : ∀ p ∈ D2, p < M2.next := by
          intro p hp
          have := s1.lt p hp; exact this
        simp at q
        exact ⟨by omega, fun e => by have := h2 p e; omega⟩
  -- what is looked at behind each
  all_goals
    try simp (disch := omega)
    have ⟨w2', pp⟩ := (⟨_, p1, p4, p5⟩ : ∃ w2 : Wt, Watch _ _ _ w2 ∧ Play w2 _ _ _ _ _ _ ∧ Ows _ 1 _ (rowI .i64 w2.laps))
    clear p1 p4 p5
    obtain ⟨p1, p4, p5⟩ := pp
    refine laps_calls p1 (by have := p4.len; omega) fun gv M4 w1 w2 w3 => ?_
    simp (disch := omega)
    refine best_calls (p1.grow w2) (by have := p4.len; omega) ?_
    obtain ⟨N, hN, x1⟩ := len1 w1
    obtain ⟨N2, hN2, x2⟩ := len1 p5
    obtain rfl : N2 = N := by omega
    rw [isEmpty_len hN]
    have x3 := p4.rn
    have hNb : N2 ≤ 200 := by have := p4.len; omega
    simp (disch := omega) [x1, x2]
    refine running_calls (p1.grow w2) ?_
    rw [x3]
    simp (disch := omega) [x1]
    refine exec_loopU (σ := Nat) (fun y => [(169, .int .i64 y)]) (fun _ => M4) (fun y => y ≤ N2) (fun y => N2 - y) 0 rfl (by omega) (by simp) ?_
    intro y hy
    by_cases hy2 : y < N2
    case pos =>
      obtain ⟨p, q, full, rw, y1, y2, y3⟩ := at1 w1 (y := y) (by omega)
      obtain ⟨p', q', full', rw', z1, z2, z3⟩ := at1 (p5.grow w2) (y := y) (by omega)
      have hb := least_le (zs := _) (y := y) (hN2 ▸ hy2)
      simp (disch := omega) [-getElem?_pos, y1, y2, y3, z1, z2, z3]
      exact again_mk (y + 1) (by omega) (by omega) (by simp) rfl
    case neg =>
      simp (disch := omega)
      exact again_mk (i + 1, _, _, _, _, _, _, _, _, M4) (by dsimp only; exact ⟨by omega, p1.grow w2, p2.trans w2, p3, p4, p5.grow w2, p6⟩) (by dsimp only; omega) (by simp [hat]) rfl

end Go.Proofs.Ytmbcfcnbdehjmaa
