/-
  MARZULLOLIARS and MARZULLOTRUE, of what the functions of this seat do.
-/
import Derived.Test.YtginhgjbjfndfaaKx
namespace Go.Proofs.Ytginhgjbjfndfaa
open Go Go.AM
set_option linter.unusedVariables false
set_option linter.unusedSimpArgs false
set_option maxRecDepth 40000
set_option maxHeartbeats 4000000

theorem cnt_hi {l : List (Int × Int)} {lo hi cn : Int} (h : BestP l lo hi cn) : (cntL l hi : Int) = cn := by
  have h1 := h.most hi
  have h2 : cntL l lo ≤ cntL l hi := List.countP_mono_left fun x hx hh => by
    have hh := of_decide_eq_true hh
    have := h.last x hx hh
    have hr := best_rng h
    exact decide_eq_true ⟨hh.1, by have := hh.2.1; omega, this⟩
  have h3 := h.cnt
  omega

theorem lie_iff {lo hi : Int} (h : lo ≤ hi) {x : Int × Int} (hk : okS x) : lieP lo hi x ↔ ¬ (x.1 ≤ lo ∧ hi ≤ x.2) := by
  unfold lieP
  refine ⟨fun h1 h2 => h1.2 ⟨⟨hk, h2.1, by omega⟩, ⟨hk, by omega, h2.2⟩⟩, fun h1 => ⟨hk, fun h2 => h1 ⟨h2.1.2.1, h2.2.2.2⟩⟩⟩

theorem liar_at {l : List (Int × Int)} {lo hi : Int} {i : Nat} (h : lieP lo hi (nthP l i)) : ∀ n, i < n → (liarI l lo hi i).length < (liarI l lo hi n).length ∧ nth (liarI l lo hi n) (liarI l lo hi i).length = i
  | 0, hn => by omega
  | n + 1, hn => by
    by_cases e : i = n
    · subst e
      have e1 : liarI l lo hi (i + 1) = liarI l lo hi i ++ [(i : Int)] := by simp only [liarI]; rw [if_pos h]
      rw [e1]
      refine ⟨by simp, ?_⟩
      simp [nth]
    · obtain ⟨h1, h2⟩ := liar_at h n (by omega)
      simp only [liarI]
      refine ⟨by rw [List.length_append]; omega, ?_⟩
      rw [← h2]
      simp only [nth, List.getD_eq_getElem?_getD]
      rw [List.getElem?_append_left h1]

theorem liar_sum {l : List (Int × Int)} {lo hi cn : Int} (h : BestP l lo hi cn) : ∀ n, n ≤ l.length → rtsL (l.take n) = (liarI l lo hi n).length + cntL (l.take n) lo
  | 0, _ => by simp [rtsL, liarI, cntL]
  | n + 1, hn => by
    have ih := liar_sum h n (by omega)
    have e1 : rtsL (l.take (n + 1)) = rtsL (l.take n) + if okS (nthP l n) then 1 else 0 := by
      unfold rtsL; rw [takeS (nthP_get (by omega)), countP_snoc]; simp
    have e2 : cntL (l.take (n + 1)) lo = cntL (l.take n) lo + if hasS lo (nthP l n) then 1 else 0 := by
      unfold cntL; rw [takeS (nthP_get (by omega)), countP_snoc]; simp
    have e3 : (liarI l lo hi (n + 1)).length = (liarI l lo hi n).length + if lieP lo hi (nthP l n) then 1 else 0 := by
      simp only [liarI, List.length_append]; split <;> simp
    rw [e1, e2, e3, ih]
    have hr := best_rng h
    by_cases hk : okS (nthP l n)
    · rw [if_pos hk]
      by_cases hh : hasS lo (nthP l n)
      · have hla := h.last _ (nthP_mem (show n < l.length by omega)) hh
        rw [if_pos hh, if_neg (fun q => (lie_iff hr.2.1 hk).1 q ⟨hh.2.1, hla⟩)]; omega
      · rw [if_neg hh, if_pos (show lieP lo hi (nthP l n) from ⟨hk, fun q => hh q.1⟩)]; omega
    · rw [if_neg hk, if_neg (fun q => hk q.1), if_neg (fun q => hk q.1)]; omega

theorem rts_rng (l : List (Int × Int)) (i : Nat) : rtsL (l.take i) ≤ i := Nat.le_trans List.countP_le_length (by simp; omega)

theorem liars (m0 : Mem) (x0 : V) (h0 : IsV m0 (.slice 2 (.struct [.int .i64, .int .i64])) x0) : ACalls Try.prog 4 [x0] m0 (fun r _ => r = .bool true) := by
  refine run_on x1 hm c4 (by simp) fun hf => ?_
  obtain ⟨l, hv, hml, hwf⟩ := h0.slP hf
  obtain ⟨N, hN, hv1⟩ := lenP hv
  by_cases hl : (60 : Int) < N
  · simp (disch := omega) [b4, F7, hv1]
  simp (disch := omega) [b4, F7, hv1]
  refine agree_calls hv (by omega) fun m1 lo hi cn hb g1 => ?_
  obtain ⟨ok, hok⟩ : ∃ ok, decide (0 < cn) = ok := ⟨_, rfl⟩
  rw [hok]
  have hcr : 0 ≤ cn ∧ cn ≤ 60 := by
    rcases hb with ⟨rfl, _⟩ | hb
    · omega
    · have h1 := hb.pos
      have h2 : cntL l lo ≤ l.length := List.countP_le_length
      have h3 := hb.cnt
      omega
  have hrl : rtsL l ≤ l.length := List.countP_le_length
  simp (disch := omega) [-getElem?_pos]
  obtain ⟨B, hB⟩ : ∃ B, m1.next = B := ⟨_, rfl⟩
  have gB := Mem.Grew.new m1 (.row 3 [[.int .i64 lo, .int .i64 hi, .int .i64 cn]] true)
  have oB : (m1.new (.row 3 [[.int .i64 lo, .int .i64 hi, .int .i64 cn]] true)).obj B = some (.row 3 [[.int .i64 lo, .int .i64 hi, .int .i64 cn]] true) := by rw [← hB]; simp
  have bB : B < (m1.new (.row 3 [[.int .i64 lo, .int .i64 hi, .int .i64 cn]] true)).next := by rw [← hB]; simp
  generalize m1.new (.row 3 [[.int .i64 lo, .int .i64 hi, .int .i64 cn]] true) = m2 at *
  rw [hB]
  have g2 := g1.trans gB
  clear gB hB g1
  have et : ∀ i, i = N → l.take i = l := fun i h => List.take_of_length_le (by omega)
  have hstep : ∀ i, i < N → rtsL (l.take (i + 1)) = rtsL (l.take i) + if okS (nthP l i) then 1 else 0 := fun i hi => by
    unfold rtsL; rw [takeS (nthP_get (by omega)), countP_snoc]; simp
  refine liars_calls (hv.grow g2) (by omega) (fun m3 lo' hi' cn' hb' hno g3 => ?_) (fun w m3 lo' hi' cn' hb' hc hr ho g3 => ?_)
  · obtain ⟨rfl, rfl, rfl⟩ := hb.uniq hb'
    simp (disch := omega) [-getElem?_pos]
    refine middle_calls (hv.grow (g2.trans g3)) (by omega) hb fun m4 g4 => ?_
    rw [if_neg hno, decide_eq_false hno]
    have g := (g2.trans g3).trans g4
    have o4 : m4.obj B = some (.row 3 [[.int .i64 lo, .int .i64 hi, .int .i64 cn]] true) := by rw [(g3.trans g4).obj B bB]; exact oB
    have b4' : B < m4.next := by have := (g3.trans g4).next; omega
    clear oB bB
    simp (disch := omega) [-getElem?_pos, hv1]
    refine exec_loopU (σ := Nat × Nat × Mem) (fun (i, k, _) => [(9, .int .i64 (rtsL (l.take i))), (10, .int .i64 k), (36, .int .i64 i)]) (fun (_, _, M) => M) (fun (i, k, M) => i ≤ N ∧ k ≤ i ∧ m4.Grew M) (fun (i, _, _) => N - i) (0, 0, m4) rfl
      (by dsimp only; exact ⟨by omega, by omega, Mem.Grew.refl m4⟩) (by simp [rtsL]) ?_
    intro (i, k, M) ⟨a1, a2, a3⟩
    by_cases hi' : i < N
    · obtain ⟨p, q, full, rw, z1, z2, z3, z4⟩ := atP (hv.grow (g.trans a3)) (y := i) (by omega)
      have e1 := hstep i hi'
      have e2 := rts_rng l i
      obtain ⟨x, hx⟩ : ∃ x, nthP l i = x := ⟨_, rfl⟩
      rw [hx] at z4 e1
      have gn := Mem.Grew.new M (.row 2 [[.int .i64 x.1, .int .i64 x.2]] true)
      have hob : (M.new (.row 2 [[.int .i64 x.1, .int .i64 x.2]] true)).obj M.next = some (.row 2 [[.int .i64 x.1, .int .i64 x.2]] true) := by simp
      simp (disch := omega) [-getElem?_pos, z1, z3, z4]
      refine right11 fun m5 g5 => ?_
      have ho1 := g5.obj M.next (by simp)
      rw [hob] at ho1
      have ga := (a3.trans gn).trans g5
      have o5 : m5.obj B = some (.row 3 [[.int .i64 lo, .int .i64 hi, .int .i64 cn]] true) := by rw [ga.obj B b4']; exact o4
      by_cases hk : okS x
      · rw [if_pos hk] at e1
        rw [decide_eq_true hk]
        by_cases c1 : x.1 ≤ lo
        · by_cases c2 : hi ≤ x.2
          · simp (disch := omega) [-getElem?_pos, ho1, o5]
            exact again_mk (i + 1, k, m5) (by dsimp only; exact ⟨by omega, by omega, ga⟩) (by dsimp only; omega) (by simp [e1]) rfl
          · simp (disch := omega) [-getElem?_pos, ho1, o5]
            exact again_mk (i + 1, k + 1, m5) (by dsimp only; exact ⟨by omega, by omega, ga⟩) (by dsimp only; omega) (by simp [e1]) rfl
        · simp (disch := omega) [-getElem?_pos, ho1, o5]
          exact again_mk (i + 1, k + 1, m5) (by dsimp only; exact ⟨by omega, by omega, ga⟩) (by dsimp only; omega) (by simp [e1]) rfl
      · rw [if_neg hk] at e1
        rw [decide_eq_false hk]
        simp (disch := omega) [-getElem?_pos]
        exact again_mk (i + 1, k, m5) (by dsimp only; exact ⟨by omega, by omega, ga⟩) (by dsimp only; omega) (by simp [e1]) rfl
    · have hin : i = N := by omega
      have e1 := et i hin
      have o5 : M.obj B = some (.row 3 [[.int .i64 lo, .int .i64 hi, .int .i64 cn]] true) := by rw [a3.obj B b4']; exact o4
      by_cases hc : 0 < cn
      · rw [decide_eq_true hc] at hok
        subst hok
        have : ¬ (rtsL l : Int) < 2 * cn := fun h => hno ⟨hc, h⟩
        simp (disch := omega) [-getElem?_pos, e1, o5]
      · rw [decide_eq_false hc] at hok
        subst hok
        simp (disch := omega) [-getElem?_pos, e1, o5]
  · obtain ⟨rfl, rfl, rfl⟩ := hb.uniq hb'
    have hbp : BestP l lo hi cn := by
      rcases hb with ⟨rfl, _⟩ | hb
      · omega
      · exact hb
    have hlo := best_rng hbp
    have hsum := liar_sum hbp l.length (Nat.le_refl _)
    rw [List.take_length] at hsum
    have hcnt := hbp.cnt
    rw [decide_eq_true hc] at hok
    subst hok
    simp (disch := omega) [-getElem?_pos]
    refine middle_calls (hv.grow (g2.trans g3)) (by omega) hb fun m4 g4 => ?_
    rw [if_pos ⟨hc, hr⟩, decide_eq_true ⟨hc, hr⟩]
    have g := (g2.trans g3).trans g4
    have o4 : m4.obj B = some (.row 3 [[.int .i64 lo, .int .i64 hi, .int .i64 cn]] true) := by rw [(g3.trans g4).obj B bB]; exact oB
    have b4' : B < m4.next := by have := (g3.trans g4).next; omega
    have hw := ho.grow g4
    have hwl := hw.sl.lenSl
    rw [rowI_length] at hwl
    obtain ⟨d, hd⟩ : ∃ d, (hi - lo).tdiv 2 = d := ⟨_, rfl⟩
    have hdr : 2 * d = hi - lo ∨ 2 * d + 1 = hi - lo := by
      rw [Int.tdiv_eq_ediv_of_nonneg (by omega)] at hd; omega
    rw [hd]
    clear oB bB
    simp (disch := omega) [-getElem?_pos, hv1]
    refine exec_loopU (σ := Nat × Mem) (fun (i, _) => [(9, .int .i64 (rtsL (l.take i))), (10, .int .i64 (liarI l lo hi i).length), (36, .int .i64 i)]) (fun (_, M) => M) (fun (i, M) => i ≤ N ∧ m4.Grew M) (fun (i, _) => N - i) (0, m4) rfl
      (by dsimp only; exact ⟨by omega, Mem.Grew.refl m4⟩) (by simp [rtsL, liarI]) ?_
    intro (i, M) ⟨a1, a3⟩
    by_cases hi' : i < N
    · obtain ⟨p, q, full, rw, z1, z2, z3, z4⟩ := atP (hv.grow (g.trans a3)) (y := i) (by omega)
      have e1 := hstep i hi'
      have e2 := rts_rng l i
      have e3 : (liarI l lo hi (i + 1)).length = (liarI l lo hi i).length + if lieP lo hi (nthP l i) then 1 else 0 := by
        simp only [liarI, List.length_append]; split <;> simp
      have e4 := liarI_length l lo hi i
      have hat := fun h => liar_at (l := l) (lo := lo) (hi := hi) (i := i) h l.length (by omega)
      obtain ⟨x, hx⟩ : ∃ x, nthP l i = x := ⟨_, rfl⟩
      rw [hx] at z4 e1 e3 hat
      have gn := Mem.Grew.new M (.row 2 [[.int .i64 x.1, .int .i64 x.2]] true)
      have hob : (M.new (.row 2 [[.int .i64 x.1, .int .i64 x.2]] true)).obj M.next = some (.row 2 [[.int .i64 x.1, .int .i64 x.2]] true) := by simp
      simp (disch := omega) [-getElem?_pos, z1, z3, z4]
      refine right11 fun m5 g5 => ?_
      have ho1 := g5.obj M.next (by simp)
      rw [hob] at ho1
      have ga := (a3.trans gn).trans g5
      have o5 : m5.obj B = some (.row 3 [[.int .i64 lo, .int .i64 hi, .int .i64 cn]] true) := by rw [ga.obj B b4']; exact o4
      by_cases hk : okS x
      · rw [if_pos hk] at e1
        rw [decide_eq_true hk]
        have hiff := lie_iff hlo.2.1 hk
        by_cases c1 : x.1 ≤ lo ∧ hi ≤ x.2
        · rw [if_neg (fun h => hiff.1 h c1)] at e3
          obtain ⟨c1, c2⟩ := c1
          clear hat hiff
          simp (disch := omega) [-getElem?_pos, ho1, o5]
          exact again_mk (i + 1, m5) (by dsimp only; exact ⟨by omega, ga⟩) (by dsimp only; omega) (by simp [e1, e3]) rfl
        · have hlie := hiff.2 c1
          rw [if_pos hlie] at e3
          obtain ⟨k1, k2⟩ := hat hlie
          obtain ⟨p', q', full', rw', y1, y2, y3, y4⟩ := at1 (hw.grow ga).sl (y := (liarI l lo hi i).length) k1
          rw [k2] at y4
          clear hat hiff
          by_cases c2 : x.1 ≤ lo
          · have c3 : ¬ hi ≤ x.2 := fun h => c1 ⟨c2, h⟩
            simp (disch := omega) [-getElem?_pos, ho1, o5, hwl, y1, y3, y4]
            exact again_mk (i + 1, m5) (by dsimp only; exact ⟨by omega, ga⟩) (by dsimp only; omega) (by simp [e1, e3]) rfl
          · simp (disch := omega) [-getElem?_pos, ho1, o5, hwl, y1, y3, y4]
            exact again_mk (i + 1, m5) (by dsimp only; exact ⟨by omega, ga⟩) (by dsimp only; omega) (by simp [e1, e3]) rfl
      · rw [if_neg hk] at e1
        rw [if_neg (fun h => hk h.1)] at e3
        clear hat
        rw [decide_eq_false hk]
        simp (disch := omega) [-getElem?_pos]
        exact again_mk (i + 1, m5) (by dsimp only; exact ⟨by omega, ga⟩) (by dsimp only; omega) (by simp [e1, e3]) rfl
    · have hin : i = N := by omega
      have e1 := et i hin
      have o5 : M.obj B = some (.row 3 [[.int .i64 lo, .int .i64 hi, .int .i64 cn]] true) := by rw [a3.obj B b4']; exact o4
      have e5 : (liarI l lo hi i) = liarI l lo hi l.length := by rw [hin, hN]
      have e6 := liarI_length l lo hi l.length
      obtain ⟨Z, hZ⟩ : ∃ Z, (liarI l lo hi l.length).length = Z := ⟨_, rfl⟩
      rw [hZ] at hwl hsum e6
      simp (disch := omega) [-getElem?_pos, e1, e5, o5, hwl, hZ]

theorem truth (m0 : Mem) (x0 x1' : V) (h0 : IsV m0 (.slice 2 (.struct [.int .i64, .int .i64])) x0) (h1 : IsV m0 (.int .i16) x1') : ACalls Try.prog 5 [x0, x1'] m0 (fun r _ => r = .bool true) := by
  obtain ⟨t, rfl, hwt⟩ := h1.int
  replace hwt := wf_i16 hwt
  refine run_on x1 hm c5 (by simp) fun hf => ?_
  obtain ⟨l, hv, hml, hwf⟩ := h0.slP hf
  obtain ⟨N, hN, hv1⟩ := lenP hv
  by_cases hl : (60 : Int) < N
  · simp (disch := omega) [b5, F7, hv1]
  simp (disch := omega) [b5, F7, hv1]
  refine exec_loopU (σ := Nat × Mem) (fun (i, _) => [(5, .int .i64 (rtsL (l.take i))), (20, .int .i64 i)]) (fun (_, M) => M) (fun (i, M) => i ≤ N ∧ m0.Grew M) (fun (i, _) => N - i) (0, m0) rfl
    (by dsimp only; exact ⟨by omega, Mem.Grew.refl m0⟩) (by simp [rtsL]) ?_
  intro (i, M) ⟨a1, a2⟩
  by_cases hi' : i < N
  · obtain ⟨p, q, full, rw, z1, z2, z3, z4⟩ := atP (hv.grow a2) (y := i) (by omega)
    have e1 : rtsL (l.take (i + 1)) = rtsL (l.take i) + if okS (nthP l i) then 1 else 0 := by
      unfold rtsL; rw [takeS (nthP_get (by omega)), countP_snoc]; simp
    have e2 := rts_rng l i
    simp (disch := omega) [-getElem?_pos, z1, z3, z4]
    have gn := Mem.Grew.new M (.row 2 [[.int .i64 (nthP l i).1, .int .i64 (nthP l i).2]] true)
    refine right11 fun m2 g2 => ?_
    by_cases hh : okS (nthP l i)
    · rw [if_pos hh] at e1
      rw [decide_eq_true hh]
      simp (disch := omega) [-getElem?_pos]
      exact again_mk (i + 1, m2) (by dsimp only; exact ⟨by omega, (a2.trans gn).trans g2⟩) (by dsimp only; omega) (by simp [e1]) rfl
    · rw [if_neg hh] at e1
      rw [decide_eq_false hh]
      simp (disch := omega) [-getElem?_pos]
      exact again_mk (i + 1, m2) (by dsimp only; exact ⟨by omega, (a2.trans gn).trans g2⟩) (by dsimp only; omega) (by simp [e1]) rfl
  · have : i = N := by omega
    subst this
    have et : l.take i = l := List.take_of_length_le (by omega)
    have hrl : rtsL l ≤ l.length := List.countP_le_length
    have hcl : cntL l t ≤ l.length := List.countP_le_length
    simp (disch := omega) [-getElem?_pos, et]
    refine count9 (hv.grow a2) (by omega) fun m2 g2 => ?_
    simp (disch := omega) [-getElem?_pos]
    refine agree_calls (hv.grow (a2.trans g2)) (by omega) fun m3 lo hi cn hb g3 => ?_
    by_cases hle : 2 * (cntL l t : Int) ≤ (rtsL l : Int)
    · simp (disch := omega) [-getElem?_pos]
    have hbp : BestP l lo hi cn := by
      rcases hb with ⟨rfl, _, _, hno⟩ | hb
      · exfalso
        have : cntL l t = 0 := List.countP_eq_zero.2 fun x hx => by
          simp only [decide_eq_true_eq]; exact fun h => hno x hx h.1
        omega
      · exact hb
    have hmost := hbp.most t
    have hpos := hbp.pos
    have hcnt := hbp.cnt
    have hchi := cnt_hi hbp
    have hll : cntL l lo ≤ l.length := List.countP_le_length
    rw [decide_eq_true hpos]
    obtain ⟨B, hB⟩ : ∃ B, m3.next = B := ⟨_, rfl⟩
    have gB := Mem.Grew.new m3 (.row 3 [[.int .i64 lo, .int .i64 hi, .int .i64 cn]] true)
    have oB : (m3.new (.row 3 [[.int .i64 lo, .int .i64 hi, .int .i64 cn]] true)).obj B = some (.row 3 [[.int .i64 lo, .int .i64 hi, .int .i64 cn]] true) := by rw [← hB]; simp
    have bB : B < (m3.new (.row 3 [[.int .i64 lo, .int .i64 hi, .int .i64 cn]] true)).next := by rw [← hB]; simp
    simp (disch := omega) [-getElem?_pos]
    generalize m3.new (.row 3 [[.int .i64 lo, .int .i64 hi, .int .i64 cn]] true) = m4 at *
    rw [hB]
    have g := (a2.trans g2).trans (g3.trans gB)
    refine liars_calls (hv.grow g) (by omega) (fun m5 lo' hi' cn' hb' hno g5 => ?_) (fun w m5 lo' hi' cn' hb' hc hr ho g5 => ?_)
    · obtain ⟨rfl, rfl, rfl⟩ := hb.uniq hb'
      exact absurd ⟨hpos, by omega⟩ hno
    · obtain ⟨rfl, rfl, rfl⟩ := hb.uniq hb'
      have o5 : m5.obj B = some (.row 3 [[.int .i64 lo, .int .i64 hi, .int .i64 cn]] true) := by rw [g5.obj B bB]; exact oB
      have b5' : B < m5.next := by have := g5.next; omega
      have g6 := g.trans g5
      simp (disch := omega) [-getElem?_pos]
      refine drawT_J (fun e _ => e = keep [4] (Env.none.put (some 4) (.bool true))) ?_ ?_
      · simp (disch := omega) [-getElem?_pos, o5]
        refine ⟨?_, ?_⟩
        all_goals
          refine count9 (hv.grow g6) (by omega) fun m6 g7 => ?_
          have o6 : m6.obj B = some (.row 3 [[.int .i64 lo, .int .i64 hi, .int .i64 cn]] true) := by rw [g7.obj B b5']; exact o5
          rw [hcnt]
          simp (disch := omega) [-getElem?_pos, o6]
          refine ⟨?_, ?_⟩
          all_goals
            refine count9 (hv.grow (g6.trans g7)) (by omega) fun m7 g8 => ?_
            have o7 : m7.obj B = some (.row 3 [[.int .i64 lo, .int .i64 hi, .int .i64 cn]] true) := by rw [(g7.trans g8).obj B b5']; exact o5
            rw [hchi]
            simp (disch := omega) [-getElem?_pos, o7]
      · rintro e' m' rfl
        simp (disch := omega) [-getElem?_pos]
end Go.Proofs.Ytginhgjbjfndfaa
