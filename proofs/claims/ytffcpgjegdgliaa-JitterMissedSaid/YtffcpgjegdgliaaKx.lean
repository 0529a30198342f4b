/-
  JITTERMISSED, of what the functions of this seat do: the end.
-/
import Derived.Test.YtffcpgjegdgliaaJx
namespace Go.Proofs.Ytffcpgjegdgliaa
open Go Go.AM
set_option linter.unusedVariables false
set_option linter.unusedSimpArgs false
set_option maxRecDepth 60000
set_option maxHeartbeats 4000000

/-- How many rounds there are. -/
structure Rounds (f p la : Int) (k : Nat) : Prop where
  le : k ≤ 4096
  all : ∀ i, i < k → tmI f p i ≤ la
  stop : k = 4096 ∨ la < tmI f p k
theorem Rounds.uniq {f p la : Int} {k k' : Nat} (h : Rounds f p la k) (h' : Rounds f p la k') : k = k' := by
  rcases Nat.lt_trichotomy k k' with q | q | q
  · rcases h.stop with e | e
    · have := h'.le; omega
    · have := h'.all k q; omega
  · exact q
  · rcases h'.stop with e | e
    · have := h.le; omega
    · have := h.all k' q; omega

theorem tm_rng {f p la : Int} (hp : 1 ≤ p ∧ p ≤ 256) (hf : -32768 ≤ f ∧ f ≤ 32767) (hla : la ≤ 32767) : ∀ k, (∀ i, i < k → tmI f p i ≤ la) → -32768 ≤ tmI f p k ∧ tmI f p k ≤ 33023
  | 0, _ => by rw [tmI_zero]; omega
  | k + 1, h => by
    have h1 := tm_rng hp hf hla k fun i hi => h i (by omega)
    have h2 := h k (by omega)
    rw [tmI_succ]; omega

theorem missed_calls {m : Mem} {v : V} {l : List Int} (hv : Sl m 1 v (rowI .i64 l)) (hl : l.length ≤ 50) (hb : ∀ x ∈ l, -32768 ≤ x ∧ x ≤ 32767) {f p w : Int} (hf : -32768 ≤ f ∧ f ≤ 32767) (hp : 1 ≤ p ∧ p ≤ 256) (hw : 0 ≤ w ∧ w ≤ 255) {k : Nat} (hk : Rounds f p (lastI l) k) {K : KV}
    (h : ∀ m', K (.int .i64 (cnt l f p w k)) m') : ACalls Try.prog 15 [v, .int .i64 f, .int .i64 p, .int .i64 w] m K := by
  obtain ⟨N, hN, hv1⟩ := len1 hv
  refine run_on x1 hm c15 (by simp) fun hf' => ?_
  have hpp := decide_eq_true (show Per p from ⟨by omega, by omega⟩)
  by_cases h0 : N = 0
  · subst h0
    have : l = [] := List.eq_nil_of_length_eq_zero hN
    subst this
    have hk0 : k = 0 := by
      cases k with
      | zero => rfl
      | succ k => have := hk.all 0 (by omega); rw [tmI_zero] at this; simp [lastI] at this; omega
    subst hk0
    simp (disch := omega) [-getElem?_pos, b15, hv1]
    exact h m
  have hne : l ≠ [] := fun e => by rw [e] at hN; simp at hN; omega
  have hlast := last_srt hne fun x hx => (hb x hx).1
  have hlb : lastI l ≤ 32767 := by
    rcases (foldl_max l (-1048576)).2.2 with e | e
    · show l.foldl max (-1048576) ≤ _; omega
    · exact (hb _ e).2
  simp (disch := omega) [-getElem?_pos, b15, hv1, F16, hpp]
  refine exec_loopU (σ := Nat × V × Mem) (fun (i, u, _) => [(9, u), (24, .int .i64 i)]) (fun (_, _, M) => M) (fun (i, u, M) => i ≤ N ∧ Ows M 1 u (rowI .i64 (l.take i)) ∧ m.Grew M ∧ (∀ p ∈ u.fp, m.next ≤ p)) (fun (i, _, _) => N - i) (0, .sl none 0 (some 0), m) rfl
    (by dsimp only; exact ⟨by omega, by rw [List.take_zero]; exact Ows.nil _ _, Mem.Grew.refl m, by simp [V.fp]⟩) (by simp) ?_
  intro (i, u, M) ⟨a1, a2, a3, a4⟩
  by_cases hi : i < N
  · obtain ⟨p', q, full, rw, z1, z2, z3, z4⟩ := at1 (hv.grow a3) (y := i) (by omega)
    have hx := hb _ (nth_mem (show i < l.length by omega))
    have e1 := takeS (nth_get (show i < l.length by omega))
    have ec : cl (nth l i) = nth l i := by unfold cl; omega
    obtain ⟨x, hx'⟩ : ∃ x, nth l i = x := ⟨_, rfl⟩
    rw [hx'] at hx e1 ec z4
    have hlt : (l.take i).length = i := by simp; omega
    simp (disch := omega) [-getElem?_pos, z1, z3, z4, F11, ec, eltsOf, Mem.elts]
    refine (a2.grow (Mem.Grew.new M (.row 1 [[.int .i64 x]] true))).app (by rw [rowI_length, hlt]; omega) (by rw [rowI_length, hlt]; omega) fun u' M' w1 w2 w3 => ?_
    simp (disch := omega)
    have w2' : Stp M M' u.fp u'.fp := (Stp.new M _ u.fp).trans w2
    refine again_mk (i + 1, u', M') ?_ (by dsimp only; omega) (by simp) rfl
    dsimp only
    exact ⟨by omega, by rw [e1, ← rowI_append]; exact w1, w2'.toGrew a3 a4, w2'.ge a3.next a4⟩
  · have : i = N := by omega
    subst this
    rw [List.take_of_length_le (by omega)] at a2
    simp (disch := omega) [-getElem?_pos]
    refine a2.sortI body18 sorts hne (by omega) fun M2 e1 e2 e3 => ?_
    rw [srt_eq] at e1
    have hsl : (srt l).length = i := by rw [srt_length, hN]
    have hul := e1.sl.lenSl
    rw [rowI_length, hsl] at hul
    have ecf : cl f = f := by unfold cl; omega
    have ew : min (max w 0) 1099511627776 = w := by omega
    obtain ⟨p', q, full, rw, z1, z2, z3, z4⟩ := at1 e1.sl (y := i - 1) (by omega)
    rw [← hN, hlast] at z4
    have ei : (i : Int) - 1 = ((i - 1 : Nat) : Int) := by omega
    obtain ⟨la, hla⟩ : ∃ la, lastI l = la := ⟨_, rfl⟩
    rw [hla] at z4 hk hlb
    simp (disch := omega) [-getElem?_pos, F11, ecf, ew]
    refine exec_loopU (σ := Nat) (fun j => [(12, .int .i64 (cnt l f p w j)), (13, .int .i64 (tmI f p j)), (41, .int .i64 j)]) (fun _ => M2) (fun j => j ≤ k) (fun j => k - j) 0 rfl (by omega) (by simp [cnt, tmI_zero]) ?_
    intro j b1
    have ht := tm_rng hp hf hlb j fun i hi => hk.all i (by omega)
    have hc := cnt_rng l f p w j
    have hk1 := hk.le
    by_cases hj : j < k
    · have hle := hk.all j hj
      have es := tmI_succ f p j
      obtain ⟨t, hT⟩ : ∃ t, tmI f p j = t := ⟨_, rfl⟩
      have en : nearB (srt l) t w = nearB l t w := nearB_perm (srt_perm l) t w
      have hcs : cnt l f p w (j + 1) = cnt l f p w j + if nearB l t w = true then 0 else 1 := by simp only [cnt, hT]
      rw [hT] at ht hle es ⊢
      simp (disch := omega) [-getElem?_pos, hul, ei, z1, z3, z4]
      refine near_calls e1.sl (srt_sorted l) (by omega) (by omega) (by omega) ?_
      rw [en]
      cases hn : nearB l t w with
      | true =>
        rw [hn] at hcs
        simp only [if_true, Int.add_zero] at hcs
        simp (disch := omega) [-getElem?_pos]
        exact again_mk (j + 1) (by omega) (by omega) (by simp [hcs, es]) rfl
      | false =>
        rw [hn] at hcs
        simp only [Bool.false_eq_true, if_false] at hcs
        simp (disch := omega) [-getElem?_pos]
        exact again_mk (j + 1) (by omega) (by omega) (by simp [hcs, es]) rfl
    · have : j = k := by omega
      subst this
      rcases hk.stop with e | e
      · subst e
        simp (disch := omega) [-getElem?_pos]
        exact h _
      · by_cases h4 : j < 4096
        · simp (disch := omega) [-getElem?_pos, hul, ei, z1, z3, z4]
          exact h _
        · simp (disch := omega) [-getElem?_pos]
          exact h _

theorem abs_le {d w : Int} : max d (-d) ≤ w ↔ -w ≤ d ∧ d ≤ w := by omega

theorem missed (m0 : Mem) (x0 x1' x2' x3' : V) (h0 : IsV m0 (.slice 1 (.int .i16)) x0) (h1 : IsV m0 (.int .i16) x1') (h2 : IsV m0 (.int .u8) x2') (h3 : IsV m0 (.int .u8) x3') : ACalls Try.prog 6 [x0, x1', x2', x3'] m0 (fun r _ => r = .bool true) := by
  obtain ⟨f, rfl, hwf⟩ := h1.int
  obtain ⟨pe, rfl, hwp⟩ := h2.int
  obtain ⟨w, rfl, hww⟩ := h3.int
  replace hwf := wf_i16 hwf
  replace hwp := wf_u8 hwp
  replace hww := wf_u8 hww
  refine run_on x1 hm c6 (by simp) fun hf => ?_
  obtain ⟨l, hv, hml, hwl⟩ := h0.slI hf
  obtain ⟨N, hN, hv1⟩ := len1 hv
  by_cases hl : (50 : Int) < N
  · simp (disch := omega) [b6, F7, hv1]
  obtain ⟨p, hp⟩ : ∃ p, 1 + pe = p := ⟨_, rfl⟩
  have hpr : 1 ≤ p ∧ p ≤ 256 := by omega
  have hb : ∀ x ∈ l, -32768 ≤ x ∧ x ≤ 32767 := fun x hx => wf_i16 (hwl x hx)
  have hlb : -1048576 ≤ lastI l ∧ lastI l ≤ 32767 := by
    obtain ⟨q1, q2, q3⟩ := foldl_max l (-1048576)
    refine ⟨q1, ?_⟩
    rcases q3 with e | e
    · show l.foldl max (-1048576) ≤ _; omega
    · exact (hb _ e).2
  simp (disch := omega) [b6, F7, hv1, hp]
  refine exec_loopU (σ := Nat × V × Mem) (fun (i, u, _) => [(10, u), (11, .int .i64 (lastI (l.take i))), (31, .int .i64 i)]) (fun (_, _, M) => M) (fun (i, u, M) => i ≤ N ∧ Ows M 1 u (rowI .i64 (l.take i)) ∧ m0.Grew M ∧ (∀ p ∈ u.fp, m0.next ≤ p)) (fun (i, _, _) => N - i) (0, .sl none 0 (some 0), m0) rfl
    (by dsimp only; exact ⟨by omega, by rw [List.take_zero]; exact Ows.nil _ _, Mem.Grew.refl m0, by simp [V.fp]⟩) (by simp [lastI]) ?_
  intro (i, u, M) ⟨a1, a2, a3, a4⟩
  by_cases hi : i < N
  · obtain ⟨p', q, full, rw, z1, z2, z3, z4⟩ := at1 (hv.grow a3) (y := i) (by omega)
    have hx := hb _ (nth_mem (show i < l.length by omega))
    have e1 := takeS (nth_get (show i < l.length by omega))
    obtain ⟨x, hx'⟩ : ∃ x, nth l i = x := ⟨_, rfl⟩
    rw [hx'] at hx e1 z4
    have hlt : (l.take i).length = i := by simp; omega
    simp (disch := omega) [-getElem?_pos, z1, z3, z4, eltsOf, Mem.elts]
    refine (a2.grow (Mem.Grew.new M (.row 1 [[.int .i64 x]] true))).app (by rw [rowI_length, hlt]; omega) (by rw [rowI_length, hlt]; omega) fun u' M' w1 w2 w3 => ?_
    simp (disch := omega)
    have w2' : Stp M M' u.fp u'.fp := (Stp.new M _ u.fp).trans w2
    refine again_mk (i + 1, u', M') ?_ (by dsimp only; omega) (by rw [e1, lastI_snoc]; simp) rfl
    dsimp only
    exact ⟨by omega, by rw [e1, ← rowI_append]; exact w1, w2'.toGrew a3 a4, w2'.ge a3.next a4⟩
  · have : i = N := by omega
    subst this
    have hlt : l.take i = l := List.take_of_length_le (by omega)
    rw [hlt] at a2
    have hul := a2.sl.lenSl
    rw [rowI_length, hN] at hul
    obtain ⟨la, hla⟩ : ∃ la, lastI l = la := ⟨_, rfl⟩
    rw [hla] at hlb
    simp (disch := omega) [-getElem?_pos, hlt, hla]
    refine exec_loopU (σ := Nat) (fun k => [(14, .int .i64 (cnt l f p w k)), (15, .int .i64 k), (16, .int .i64 (tmI f p k))]) (fun _ => M) (fun k => k ≤ 4096 ∧ ∀ i, i < k → tmI f p i ≤ la) (fun k => 4096 - k) 0 rfl ⟨by omega, fun i hi => by omega⟩ (by simp [cnt, tmI_zero]) ?_
    intro k ⟨b1, b2⟩
    have ht := tm_rng hpr hwf hlb.2 k b2
    have hc := cnt_rng l f p w k
    have es := tmI_succ f p k
    have hcs : cnt l f p w (k + 1) = cnt l f p w k + if nearB l (tmI f p k) w = true then 0 else 1 := rfl
    have hfin : (k = 4096 ∨ la < tmI f p k) → Rounds f p (lastI l) k := fun h => ⟨b1, by rw [hla]; exact b2, by rw [hla]; exact h⟩
    have hstep : tmI f p k ≤ la → ∀ i, i < k + 1 → tmI f p i ≤ la := fun h i hi => by
      rcases Nat.lt_or_ge i k with q | q
      · exact b2 i q
      · have : i = k := by omega
        subst this; exact h
    clear b2
    obtain ⟨t, hT⟩ : ∃ t, tmI f p k = t := ⟨_, rfl⟩
    obtain ⟨c, hC⟩ : ∃ c, cnt l f p w k = c := ⟨_, rfl⟩
    rw [hT] at ht es hcs hfin hstep ⊢
    rw [hC] at hc hcs ⊢
    by_cases htl : t ≤ la
    case neg =>
      have hr := hfin (.inr (by omega))
      clear hfin hstep
      simp (disch := omega) [-getElem?_pos]
      refine missed_calls a2.sl (by omega) hb hwf hpr hww hr fun m' => ?_
      rw [hC]
      simp (disch := omega) [-getElem?_pos]
    by_cases hk : k < 4096
    case neg =>
      have hr := hfin (.inl (by omega))
      clear hfin hstep
      simp (disch := omega) [-getElem?_pos]
      refine missed_calls a2.sl (by omega) hb hwf hpr hww hr fun m' => ?_
      rw [hC]
      simp (disch := omega) [-getElem?_pos]
    have hs2 := hstep htl
    clear hfin hstep
    simp (disch := omega) [-getElem?_pos, hul]
    refine exec_loopU (σ := Nat) (fun j => [(17, .bool (nearB (l.take j) t w)), (61, .int .i64 j)]) (fun _ => M) (fun j => j ≤ i) (fun j => i - j) 0 rfl (by omega) (by simp [nearB]) ?_
    intro j c1
    by_cases hj : j < i
    · obtain ⟨p', q, full, rw, z1, z2, z3, z4⟩ := at1 a2.sl (y := j) (by omega)
      have hx := hb _ (nth_mem (show j < l.length by omega))
      have e1 := takeS (nth_get (show j < l.length by omega))
      have e2 : nearB (l.take (j + 1)) t w = (nearB (l.take j) t w || decide (t - w ≤ nth l j ∧ nth l j ≤ t + w)) := by rw [e1]; simp [nearB]
      obtain ⟨x, hx'⟩ : ∃ x, nth l j = x := ⟨_, rfl⟩
      rw [hx'] at hx e2 z4
      cases hn : nearB (l.take j) t w with
      | true =>
        rw [hn, Bool.true_or] at e2
        simp (disch := omega) [-getElem?_pos, z1, z3, z4]
        exact again_mk (j + 1) (by omega) (by omega) (by simp [e2]) rfl
      | false =>
        rw [hn, Bool.false_or] at e2
        by_cases hd : t - w ≤ x ∧ x ≤ t + w
        · rw [decide_eq_true hd] at e2
          simp (disch := omega) [-getElem?_pos, z1, z3, z4]
          exact again_mk (j + 1) (by omega) (by omega) (by simp [e2]) rfl
        · rw [decide_eq_false hd] at e2
          have hd2 : ¬ max (x - t) (-(x - t)) ≤ w := by omega
          simp (disch := omega) [-getElem?_pos, z1, z3, z4]
          refine again_mk (j + 1) (by omega) (by omega) ?_ rfl
          simp [e2]
          try omega
    · have : j = i := by omega
      subst this
      rw [List.take_of_length_le (by omega)]
      cases hn : nearB l t w with
      | true =>
        rw [hn] at hcs
        simp only [if_true, Int.add_zero] at hcs
        simp (disch := omega) [-getElem?_pos]
        exact again_mk (k + 1) ⟨by omega, hs2⟩ (by omega) (by simp [hcs, es]) rfl
      | false =>
        rw [hn] at hcs
        simp only [Bool.false_eq_true, if_false] at hcs
        simp (disch := omega) [-getElem?_pos]
        exact again_mk (k + 1) ⟨by omega, hs2⟩ (by omega) (by simp [hcs, es]) rfl
end Go.Proofs.Ytffcpgjegdgliaa
