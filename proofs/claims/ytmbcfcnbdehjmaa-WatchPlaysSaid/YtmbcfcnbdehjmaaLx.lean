/-
  WATCHSUMS and WATCHLAPS, of what the functions of this seat do.
-/
import Derived.Test.YtmbcfcnbdehjmaaFx
namespace Go.Proofs.Ytmbcfcnbdehjmaa
open Go Go.AM
set_option linter.unusedVariables false
set_option linter.unusedSimpArgs false
set_option maxRecDepth 8000
set_option maxHeartbeats 4000000

def F6 : AFn
  | [], m => some (.bool true, m)
  | _, _ => none
theorem s6 : ASpec Try.prog 6 F6 := by
  intro args m r m' h
  unfold F6 at h; split at h <;> cases h
  exact reckon hm codeOk 20 20 rfl rfl (by kernel_rfl) _

abbrev L4 : List (FuncId × AFn) := [(6, F6)]
theorem x4 : CtxOk Try.prog (Ctx.of L4) := ctx_cons (ctx_nil _) s6

/-- At times that are near, time goes on as plain numbers do. -/
theorem reachT_near {now total t : Int} {run : Bool} (h1 : -4503599627370496 ≤ t) (h2 : t ≤ 4503599627370496) (h3 : now ≤ 4503599627370496) (h4 : run = true → -4503599627370496 ≤ now) (h5 : -4611686018427387903 ≤ now) (h6 : 0 ≤ total) (h7 : total ≤ 4503599627370496) :
    reachT now total run t = (max now t, if run then total + (max now t - now) else total) := by
  have e1 : clampI t = t := by unfold clampI; omega
  unfold reachT
  rw [e1]
  cases run with
  | false => simp
  | true =>
    have := h4 rfl
    simp only [if_true, Prod.mk.injEq, true_and]
    have e2 : min (max now t) 4611686018427387902 = max now t := by omega
    have e3 : min now 4611686018427387902 = now := by omega
    rw [e2, e3]
    unfold addI subI clampI
    rw [if_neg (by omega), if_neg (by omega)]
    omega

def sumI : List Int → Int := fun l => l.foldl (· + ·) 0
theorem sumI_snoc (l : List Int) (x : Int) : sumI (l ++ [x]) = sumI l + x := by simp [sumI, List.foldl_append]

theorem sumI_go : ∀ (l : List Int) (x : Int), l.foldl (· + ·) x = x + sumI l
  | [], x => by simp [sumI]
  | y :: l, x => by simp only [List.foldl_cons, sumI]; rw [sumI_go l (x + y), sumI_go l (0 + y)]; omega
theorem sumI_cons (x : Int) (l : List Int) : sumI (x :: l) = x + sumI l := by simp only [sumI, List.foldl_cons]; rw [sumI_go]; simp [sumI]
theorem sumI_nn : ∀ (l : List Int), (∀ x ∈ l, 0 ≤ x) → 0 ≤ sumI l
  | [], _ => Int.le_refl _
  | x :: l, h => by
    have := sumI_nn l fun y hy => h y (by simp [hy])
    have := h x (by simp)
    rw [sumI_cons]; omega
theorem sumI_append (a b : List Int) : sumI (a ++ b) = sumI a + sumI b := by
  induction a with
  | nil => simp [sumI]
  | cons x a ih => rw [List.cons_append, sumI_cons, sumI_cons, ih]; omega
theorem sumI_take {l : List Int} (h : ∀ x ∈ l, 0 ≤ x) (n : Nat) : 0 ≤ sumI (l.take n) ∧ sumI (l.take n) ≤ sumI l := by
  have h1 := sumI_nn (l.take n) fun x hx => h x (List.mem_of_mem_take hx)
  have h2 := sumI_nn (l.drop n) fun x hx => h x (List.mem_of_mem_drop hx)
  have h3 := sumI_append (l.take n) (l.drop n)
  rw [List.take_append_drop] at h3
  omega

/-- What holds between a watch and what is told of it. -/
structure Sums (w : Wt) (last now : Int) (n : Nat) : Prop where
  total : w.total = last
  n0 : 0 ≤ last
  le : last ≤ w.now
  now : w.now ≤ now
  sum : sumI w.laps = w.lapped
  lapped : w.lapped ≤ last
  l0 : 0 ≤ w.lapped
  len : w.laps.length ≤ n
  nn : ∀ x ∈ w.laps, 0 ≤ x

/-- What holds behind a step, ahead of the look. -/
structure Sums1 (w : Wt) (last nw k : Int) (n : Nat) : Prop where
  total : last ≤ w.total
  n0 : 0 ≤ last
  le : w.total ≤ w.now
  now : w.now ≤ nw
  sum : sumI w.laps = w.lapped
  lapped : w.lapped ≤ w.total
  l0 : 0 ≤ w.lapped
  len : w.laps.length ≤ n
  nn : ∀ x ∈ w.laps, 0 ≤ x
  lap : k = 0 → w.run = true → w.now = nw ∧ w.lapped = w.total

theorem Sums.same {w : Wt} {last now now' k : Int} {n : Nat} (h : Sums w last now n) (hn : now ≤ now') (hk : k = 0 → w.run = true → False) : Sums1 w last now' k (n + 1) :=
  ⟨by rw [h.total]; exact Int.le_refl _, h.n0, by rw [h.total]; exact h.le, by have := h.now; omega, h.sum, by rw [h.total]; exact h.lapped, h.l0, by have := h.len; omega, h.nn, fun a b => (hk a b).elim⟩

theorem Sums1.look {w : Wt} {last nw k : Int} {n : Nat} (h : Sums1 w last nw k n) (hb : nw ≤ 26214000) :
    ∃ w2, w.reach nw = w2 ∧ Sums w2 w2.total nw n ∧ last ≤ w2.total ∧ w2.total ≤ nw ∧ (k = 0 → w2.run = true → w2.lapped = w2.total) := by
  have h1 := h.total
  have h2 := h.n0
  have h3 := h.le
  have h4 := h.now
  have h5 := h.lapped
  have hmx : max w.now nw = nw := by omega
  have near := reachT_near (now := w.now) (total := w.total) (t := nw) (run := w.run) (by omega) (by omega) (by omega) (fun _ => by omega) (by omega) (by omega) (by omega)
  rw [hmx] at near
  have hl := h.lap
  refine ⟨_, rfl, ⟨rfl, ?_, ?_, ?_, h.sum, ?_, h.l0, h.len, h.nn⟩, ?_, ?_, fun hk hr => ?_⟩
  all_goals simp only [Wt.reach, near]
  · split <;> omega
  · split <;> omega
  · omega
  · split <;> omega
  · split <;> omega
  · split <;> omega
  · have := hl hk hr
    have hr' : w.run = true := hr
    rw [hr']; simp; omega

theorem sums (m0 : Mem) (x0 x1' : V) (h0 : IsV m0 (.slice 1 (.int .u16)) x0) (h1 : IsV m0 (.slice 1 (.int .u8)) x1') : ACalls Try.prog 3 [x0, x1'] m0 (fun r _ => r = .bool true) := by
  obtain ⟨a, gs, c, rfl, _, hi, hz, ha⟩ := h0.ints
  obtain ⟨a2, ks, c2, rfl, _, hi2, hz2, ha2⟩ := h1.ints
  refine run_on x4 hm c3 (by simp) fun hf => ?_
  by_cases hl : (400 : Int) < gs.length
  · simp (disch := omega) [b3, F6]
  simp (disch := omega) [b3, F6]
  refine new_calls fun r m1 hW hr hg => ?_
  simp (disch := omega)
  refine start_calls hW (fun h => by cases h) fun _ m2 hW2 hS2 => ?_
  have e0 : Wt.reach Wt.new 0 = ⟨0, 0, 0, [], false⟩ := by
    simp only [Wt.reach, Wt.new]
    rw [reachT_near (by omega) (by omega) (by omega) (fun h => by cases h) (by omega) (by omega) (by omega)]
    rfl
  rw [e0] at hW2
  have hg2 : m0.Grew m2 := hS2.toGrew hg (by simp; omega)
  simp (disch := omega)
  refine exec_loopU (σ := Nat × Int × Int × Wt × List Nat × Mem) (fun (i, now, last, _, _, _) => [(6, .int .i64 now), (7, .int .i64 last), (25, .int .i64 i)]) (fun (_, _, _, _, _, M) => M)
    (fun (i, now, last, w, D, M) => i ≤ gs.length ∧ 0 ≤ now ∧ now ≤ i * 65535 ∧ Watch M D r w ∧ m0.Grew M ∧ (∀ p ∈ D, m0.next ≤ p) ∧ Sums w last now i) (fun (i, _) => gs.length - i) (0, 0, 0, ⟨0, 0, 0, [], true⟩, [r], m2) rfl
    ⟨by omega, by omega, by simp, hW2, hg2, by simp; omega, rfl, Int.le_refl _, Int.le_refl _, Int.le_refl _, rfl, Int.le_refl _, Int.le_refl _, by simp, by simp⟩ (by simp) ?_
  intro (i, now, last, w, D, M) ⟨a1, a3, a4, a5, a6, a7, a8⟩
  by_cases hi3 : i < gs.length
  case neg =>
    simp (disch := omega)
  have him : M.ints .u16 (.sl a gs.length c) = some gs := Mem.ints_keep hi (fun p o hp => by rw [a6.obj p (hf p o hp)]; exact hp)
  have him2 : M.ints .u8 (.sl a2 ks.length c2) = some ks := Mem.ints_keep hi2 (fun p o hp => by rw [a6.obj p (hf p o hp)]; exact hp)
  obtain ⟨_, hgt⟩ := Mem.ints_some him
  obtain ⟨rr, j, es, rw, rfl, ho, hle, he, hgt⟩ := hgt (by omega)
  have hgi := hgt i hi3
  have hzi := wf_u16 (hz _ (nth_mem hi3))
  clear he hgt him hi hz ha
  generalize nth gs i = g at *
  obtain ⟨now', hnow⟩ : ∃ n, now + g = n := ⟨_, rfl⟩
  -- which it is
  have hk : ∃ k : Int, 0 ≤ k ∧ k ≤ 3 ∧ ((i < ks.length ∧ (nth ks i).tmod 4 = k) ∨ (ks.length ≤ i ∧ k = 0)) := by
    by_cases h : i < ks.length
    · have := wf_u8 (hz2 _ (nth_mem h))
      refine ⟨(nth ks i).tmod 4, ?_, ?_, .inl ⟨h, rfl⟩⟩ <;> rw [Int.tmod_eq_emod_of_nonneg (by omega)] <;> omega
    · exact ⟨0, by omega, by omega, .inr ⟨by omega, rfl⟩⟩
  obtain ⟨k, k1, k2, hk⟩ := hk
  have near : reachT w.now w.total w.run now' = (max w.now now', if w.run then w.total + (max w.now now' - w.now) else w.total) :=
    reachT_near (by omega) (by omega) (by have := a8.now; omega) (fun _ => by have := a8.le; have := a8.n0; omega) (by have := a8.le; have := a8.n0; omega) (by have := a8.n0; have := a8.total; omega) (by have := a8.total; have := a8.le; have := a8.now; omega)
  have hmx : max w.now now' = now' := by have := a8.now; omega
  rw [hmx] at near
  have hn' : now ≤ now' := by omega
  have hb' : now' ≤ 26214000 := by omega
  have htot := a8.total
  have hle := a8.le
  have hn0 := a8.n0
  have hnw := a8.now
  have hlen := a8.len
  have hlp := a8.lapped
  have hl0 := a8.l0
  rcases hk with ⟨hk, hke⟩ | ⟨hk, rfl⟩
  case' inl =>
    obtain ⟨_, hgt2⟩ := Mem.ints_some him2
    obtain ⟨rr2, j2, es2, rw2, rfl, ho2, hle2, he2, hgt2⟩ := hgt2 (by omega)
    have hgi2 := hgt2 i hk
    simp (disch := omega) [-getElem?_pos, ho, hgi, ho2, hgi2, hnow, hke]
    clear he2 hgt2 ho2 hle2 hgi2 him2 hi2 hz2 ha2 hke
  case' inr =>
    simp (disch := omega) [-getElem?_pos, ho, hgi, hnow]
    clear him2 hi2 hz2 ha2
  case' inl => rcases (show k = 0 ∨ k = 1 ∨ k = 2 ∨ k = 3 by omega) with rfl | rfl | rfl | rfl
  all_goals
    try simp (disch := omega)
  -- a lap
  case' pos.inr | pos.inl.inl =>
    refine lap_calls a5 (by omega) (by simp only [Wt.reach, near]; split <;> omega) (fun hrun => ?_) (fun hrun M1 D1 q1 q2 => ?_)
  case' pos.inr.refine_1 | pos.inl.inl.refine_1 =>
    have b1 := a5
    have b2 := a6
    have b3 := a7
    have b4 : Sums1 w last now' 0 (i + 1) := a8.same hn' (fun _ h => by rw [hrun] at h; cases h)
  case' pos.inr.refine_2 | pos.inl.inl.refine_2 =>
    have b1 := q1
    have b2 := q2.toGrew a6 a7
    have b3 := q2.ge a6.next a7
    have b4 : Sums1 { w.reach now' with lapped := (w.reach now').total, laps := (w.laps ++ [(w.reach now').total - w.lapped]).drop (w.laps.length + 1 - 1000) } last now' 0 (i + 1) := by
      have near' := near
      rw [hrun] at near'
      simp only [if_true] at near'
      simp only [Wt.reach, hrun, near']
      have hd : w.laps.length + 1 - 1000 = 0 := by omega
      have hs := a8.sum
      refine ⟨by dsimp only; omega, hn0, by dsimp only; omega, by dsimp only; omega, ?_, by dsimp only; omega, by dsimp only; omega, ?_, ?_, fun _ _ => ⟨rfl, rfl⟩⟩
      · rw [hd, List.drop_zero, sumI_snoc, hs]; dsimp only; omega
      · simp; omega
      · intro x hx
        rw [hd, List.drop_zero] at hx
        rcases List.mem_append.1 hx with hx | hx
        · exact a8.nn x hx
        · simp at hx; omega
  -- a stop
  case' pos.inl.inr.inl =>
    refine stop_calls a5 (fun hrun => ?_) (fun hrun M1 q1 q2 => ?_)
  case' pos.inl.inr.inl.refine_1 =>
    have b1 := a5
    have b2 := a6
    have b3 := a7
    have b4 : Sums1 w last now' 1 (i + 1) := a8.same hn' (fun h => by omega)
  case' pos.inl.inr.inl.refine_2 =>
    have b1 := q1
    have b2 := q2.toGrew a6 a7
    have b3 := a7
    have b4 : Sums1 { w.reach now' with run := false } last now' 1 (i + 1) := by
      have near' := near
      rw [hrun] at near'
      simp only [if_true] at near'
      simp only [Wt.reach, hrun, near']
      exact ⟨by dsimp only; omega, hn0, by dsimp only; omega, by dsimp only; omega, a8.sum, by dsimp only; omega, hl0, by dsimp only; omega, a8.nn, fun h => by omega⟩
  -- a start
  case' pos.inl.inr.inr.inl =>
    refine start_calls a5 (fun hrun => ?_) (fun hrun M1 q1 q2 => ?_)
  case' pos.inl.inr.inr.inl.refine_1 =>
    have b1 := a5
    have b2 := a6
    have b3 := a7
    have b4 : Sums1 w last now' 2 (i + 1) := a8.same hn' (fun h => by omega)
  case' pos.inl.inr.inr.inl.refine_2 =>
    have b1 := q1
    have b2 := q2.toGrew a6 a7
    have b3 := a7
    have b4 : Sums1 { w.reach now' with run := true } last now' 2 (i + 1) := by
      have near' := near
      rw [hrun] at near'
      simp only [Bool.false_eq_true, if_false] at near'
      simp only [Wt.reach, hrun, near']
      exact ⟨by dsimp only; omega, hn0, by dsimp only; omega, by dsimp only; omega, a8.sum, by dsimp only; omega, hl0, by dsimp only; omega, a8.nn, fun h => by omega⟩
  -- nothing
  case' pos.inl.inr.inr.inr =>
    have b1 := a5
    have b2 := a6
    have b3 := a7
    have b4 : Sums1 w last now' 3 (i + 1) := a8.same hn' (fun h => by omega)
  all_goals
    try simp (disch := omega)
    refine total_calls b1 fun M2 c1 c2 => ?_
  all_goals
    obtain ⟨w2, e1, e2, e3, e4, e5⟩ := b4.look hb'
    rw [e1] at c1 ⊢
    have f1 := c2.toGrew b2 b3
    have f2 := e2.len
    simp (disch := omega)
    refine laps_calls c1 (by omega) fun lv M3 g1 g2 g3 => ?_
    have g4 := g1.sl.lenSl
    rw [rowI_length] at g4
    simp (disch := omega) [g4]
    refine exec_loopU (σ := Nat) (fun y => [(12, .int .i64 (sumI (w2.laps.take y))), (66, .int .i64 y)]) (fun _ => M3) (fun y => y ≤ w2.laps.length) (fun y => w2.laps.length - y) 0 rfl (by omega) (by simp [sumI]) ?_
    intro y hy
    by_cases hy2 : y < w2.laps.length
    · obtain ⟨p, q, full, rw, u1, u2, u3, u4, u5⟩ := g1.sl.at (i := y) (x := [.int .i64 (nth w2.laps y)]) (by rw [rowI_get, nth_get hy2]; rfl) .i64
      have hs1 := sumI_take e2.nn y
      have hs2 := sumI_take e2.nn (y + 1)
      have hs3 : sumI (w2.laps.take (y + 1)) = sumI (w2.laps.take y) + nth w2.laps y := by rw [List.take_add_one, nth_get hy2]; exact sumI_snoc _ _
      have hs4 := e2.sum
      have hs5 := e2.lapped
      simp (disch := omega) [-getElem?_pos, u1, u3, u4]
      exact again_mk (y + 1) (by omega) (by omega) (by simp [hs3]) rfl
    · have hy3 : y = w2.laps.length := by omega
      subst hy3
      rw [List.take_length, e2.sum]
      have hs5 := e2.lapped
      have c3 := c1.grow g2
      have f3 := f1.trans g2
      simp (disch := omega)
      first
        | (refine running_calls c3 ?_
           have e6 := e5 rfl
           cases hrun : w2.run
           case' false => simp (disch := omega)
           case' true => simp (disch := omega) [e6 hrun])
        | skip
      all_goals exact again_mk (i + 1, now', w2.total, w2, _, M3) (by dsimp only; exact ⟨by omega, by omega, by omega, c3, f3, b3, e2⟩) (by dsimp only; omega) (by simp) rfl

end Go.Proofs.Ytmbcfcnbdehjmaa
