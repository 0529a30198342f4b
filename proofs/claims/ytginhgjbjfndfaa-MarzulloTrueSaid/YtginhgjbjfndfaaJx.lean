/-
  MARZULLOAGREES, of what the functions of this seat do.
-/
import Derived.Test.YtginhgjbjfndfaaIx
namespace Go.Proofs.Ytginhgjbjfndfaa
open Go Go.AM
set_option linter.unusedVariables false
set_option linter.unusedSimpArgs false
set_option maxRecDepth 40000
set_option maxHeartbeats 4000000

/-- The best beginning among the first sources. -/
def PB (l : List (Int × Int)) (i : Nat) (mo fi : Int) (so : Bool) : Prop :=
  (so = false ∧ mo = 0 ∧ fi = 0 ∧ ∀ j, j < i → ¬ okS (nthP l j)) ∨
  (so = true ∧ 0 < mo ∧ (∃ j, j < i ∧ okS (nthP l j) ∧ (nthP l j).1 = fi ∧ (cntL l fi : Int) = mo) ∧ ∀ j, j < i → okS (nthP l j) → (cntL l (nthP l j).1 : Int) ≤ mo ∧ ((cntL l (nthP l j).1 : Int) = mo → fi ≤ (nthP l j).1))
theorem PB.rng {l : List (Int × Int)} {i : Nat} {mo fi : Int} {so : Bool} (h : PB l i mo fi so) : 0 ≤ mo ∧ mo ≤ l.length := by
  rcases h with ⟨_, rfl, _⟩ | ⟨_, h, ⟨j, _, _, _, rfl⟩, _⟩
  · omega
  · exact ⟨by omega, by exact_mod_cast List.countP_le_length⟩
theorem lt_succ_cases {j i : Nat} (h : j < i + 1) : j < i ∨ j = i := by omega
theorem PB.skip {l : List (Int × Int)} {i : Nat} {mo fi : Int} {so : Bool} (h : PB l i mo fi so) (hx : ¬ okS (nthP l i)) : PB l (i + 1) mo fi so := by
  rcases h with ⟨h1, h2, h3, h4⟩ | ⟨h1, h2, ⟨j, h3, h4⟩, h5⟩
  · refine .inl ⟨h1, h2, h3, fun j hj => ?_⟩
    rcases lt_succ_cases hj with q | rfl
    · exact h4 j q
    · exact hx
  · refine .inr ⟨h1, h2, ⟨j, by omega, h4⟩, fun j hj ho => ?_⟩
    rcases lt_succ_cases hj with q | rfl
    · exact h5 j q ho
    · exact absurd ho hx
theorem cnt_pos {l : List (Int × Int)} {i : Nat} (hi : i < l.length) (ho : okS (nthP l i)) : 0 < cntL l (nthP l i).1 :=
  List.countP_pos_iff.2 ⟨_, nthP_mem hi, decide_eq_true ⟨ho, Int.le_refl _, ho.2.2⟩⟩
theorem PB.take {l : List (Int × Int)} {i : Nat} {mo fi : Int} {so : Bool} (h : PB l i mo fi so) (hi : i < l.length) (ho : okS (nthP l i)) (hc : mo < cntL l (nthP l i).1 ∨ ((cntL l (nthP l i).1 : Int) = mo ∧ (nthP l i).1 < fi)) : PB l (i + 1) (cntL l (nthP l i).1) (nthP l i).1 true := by
  have hp := cnt_pos hi ho
  refine .inr ⟨rfl, by omega, ⟨i, by omega, ho, rfl, rfl⟩, fun j hj hoj => ?_⟩
  rcases lt_succ_cases hj with q | rfl
  · rcases h with ⟨_, _, _, h4⟩ | ⟨_, _, _, h5⟩
    · exact absurd hoj (h4 j q)
    · have := h5 j q hoj
      refine ⟨by omega, fun e => ?_⟩
      have := this.2
      omega
  · exact ⟨Int.le_refl _, fun _ => Int.le_refl _⟩
theorem PB.keep {l : List (Int × Int)} {i : Nat} {mo fi : Int} {so : Bool} (h : PB l i mo fi so) (hi : i < l.length) (ho : okS (nthP l i)) (hc : ¬ (mo < cntL l (nthP l i).1 ∨ ((cntL l (nthP l i).1 : Int) = mo ∧ (nthP l i).1 < fi))) : PB l (i + 1) mo fi so := by
  have hp := cnt_pos hi ho
  rcases h with ⟨_, h2, _, h4⟩ | ⟨h1, h2, ⟨j, h3, h4⟩, h5⟩
  · exact absurd (.inl (by omega)) hc
  · refine .inr ⟨h1, h2, ⟨j, by omega, h4⟩, fun j hj hoj => ?_⟩
    rcases lt_succ_cases hj with q | rfl
    · exact h5 j q hoj
    · exact ⟨by omega, fun e => by omega⟩
theorem PB.best {l : List (Int × Int)} {mo fi lo hi cn : Int} {so : Bool} (h : PB l l.length mo fi so) (hb : Best l lo hi cn) : (so = false ∧ cn = 0 ∧ lo = 0 ∧ hi = 0) ∨ (so = true ∧ mo = cn ∧ fi = lo ∧ BestP l lo hi cn) := by
  rcases h with ⟨h1, h2, h3, h4⟩ | ⟨h1, h2, ⟨j, h3, h4, h5, h6⟩, h7⟩
  · left
    rcases hb with ⟨b1, b2, b3, _⟩ | b
    · exact ⟨h1, b1, b2, b3⟩
    · obtain ⟨x, hx, ho, _⟩ := b.low
      obtain ⟨j, hj, rfl⟩ := mem_nthP hx
      exact absurd ho (h4 j hj)
  · right
    rcases hb with ⟨_, _, _, b⟩ | b
    · exact absurd h4 (b _ (nthP_mem h3))
    · obtain ⟨x, hx, ho, hxl⟩ := b.low
      obtain ⟨k, hk, rfl⟩ := mem_nthP hx
      have c1 := h7 k hk ho
      have c2 := b.most fi
      rw [hxl, b.cnt] at c1
      have e1 : mo = cn := by omega
      have c3 := b.first _ (nthP_mem h3) h4 (by rw [h5]; omega)
      have c4 := c1.2 (by omega)
      exact ⟨h1, e1, by omega, b⟩

/-- The first end among the first sources that have a time. -/
def PL (l : List (Int × Int)) (t : Int) (i : Nat) (la : Int) : Prop := la ≤ 1152921504606846976 ∧ (∀ j, j < i → hasS t (nthP l j) → la ≤ (nthP l j).2) ∧ (la = 1152921504606846976 ∨ ∃ j, j < i ∧ hasS t (nthP l j) ∧ (nthP l j).2 = la)
theorem PL.skip {l : List (Int × Int)} {t la : Int} {i : Nat} (h : PL l t i la) (hx : ¬ hasS t (nthP l i)) : PL l t (i + 1) la := by
  obtain ⟨h1, h2, h3⟩ := h
  refine ⟨h1, fun j hj hh => ?_, h3.imp id fun ⟨j, hj, q⟩ => ⟨j, by omega, q⟩⟩
  rcases lt_succ_cases hj with q | rfl
  · exact h2 j q hh
  · exact absurd hh hx
theorem PL.take {l : List (Int × Int)} {t la : Int} {i : Nat} (h : PL l t i la) (hx : hasS t (nthP l i)) : PL l t (i + 1) (min la (nthP l i).2) := by
  obtain ⟨h1, h2, h3⟩ := h
  refine ⟨by omega, fun j hj hh => ?_, ?_⟩
  · rcases lt_succ_cases hj with q | rfl
    · have := h2 j q hh; omega
    · omega
  · rcases Int.le_total la (nthP l i).2 with q | q
    · rw [Int.min_eq_left q]
      exact h3.imp id fun ⟨j, hj, q⟩ => ⟨j, by omega, q⟩
    · rw [Int.min_eq_right q]
      exact .inr ⟨i, by omega, hx, rfl⟩
theorem PL.best {l : List (Int × Int)} {lo hi cn la : Int} (h : PL l lo l.length la) (hb : BestP l lo hi cn) : la = hi := by
  obtain ⟨h1, h2, h3⟩ := h
  obtain ⟨x, hx, hh, rfl⟩ := hb.ends
  obtain ⟨k, hk, rfl⟩ := mem_nthP hx
  have c1 := h2 k hk hh
  rcases h3 with rfl | ⟨j, hj, h4, rfl⟩
  · have := hh.1.2.1; omega
  · have := hb.last _ (nthP_mem hj) h4
    omega

theorem agrees (m0 : Mem) (x0 x1' : V) (h0 : IsV m0 (.slice 2 (.struct [.int .i64, .int .i64])) x0) (h1 : IsV m0 (.int .i64) x1') : ACalls Try.prog 3 [x0, x1'] m0 (fun r _ => r = .bool true) := by
  obtain ⟨t, rfl, _⟩ := h1.int
  refine run_on x1 hm c3 (by simp) fun hf => ?_
  obtain ⟨l, hv, hml, hwf⟩ := h0.slP hf
  obtain ⟨N, hN, hv1⟩ := lenP hv
  by_cases hl : (60 : Int) < N
  · simp (disch := omega) [b3, F7, hv1]
  simp (disch := omega) [b3, F7, hv1]
  refine agree_calls hv (by omega) fun m1 lo hi cn hb g1 => ?_
  obtain ⟨ok, hok⟩ : ∃ ok, decide (0 < cn) = ok := ⟨_, rfl⟩
  rw [hok]
  simp (disch := omega) [-getElem?_pos]
  obtain ⟨B, hB⟩ : ∃ B, m1.next = B := ⟨_, rfl⟩
  have gB := Mem.Grew.new m1 (.row 3 [[.int .i64 lo, .int .i64 hi, .int .i64 cn]] true)
  have oB : (m1.new (.row 3 [[.int .i64 lo, .int .i64 hi, .int .i64 cn]] true)).obj B = some (.row 3 [[.int .i64 lo, .int .i64 hi, .int .i64 cn]] true) := by rw [← hB]; simp
  have bB : B < (m1.new (.row 3 [[.int .i64 lo, .int .i64 hi, .int .i64 cn]] true)).next := by rw [← hB]; simp
  generalize m1.new (.row 3 [[.int .i64 lo, .int .i64 hi, .int .i64 cn]] true) = m2 at *
  rw [hB]
  have g2 := g1.trans gB
  clear gB hB
  refine count9 (hv.grow g2) (by omega) fun m3 g3 => ?_
  simp (disch := omega) [-getElem?_pos]
  refine count10 (hv.grow (g2.trans g3)) (by omega) fun m4 g4 => ?_
  have g24 := g3.trans g4
  have oB4 : m4.obj B = some (.row 3 [[.int .i64 lo, .int .i64 hi, .int .i64 cn]] true) := by rw [g24.obj B bB]; exact oB
  have bB4 : B < m4.next := by have := g24.next; omega
  have g := g2.trans g24
  clear g2 g3 g4 g24 g1 oB bB
  simp (disch := omega) [-getElem?_pos, hv1]
  refine exec_loopU (σ := Nat × Int × Int × Bool × Mem) (fun (i, mo, fi, so, _) => [(7, .int .i64 mo), (8, .int .i64 fi), (9, .bool so), (35, .int .i64 i)]) (fun (_, _, _, _, M) => M) (fun (i, mo, fi, so, M) => i ≤ N ∧ m4.Grew M ∧ PB l i mo fi so) (fun (i, _, _, _, _) => N - i) (0, 0, 0, false, m4) rfl
    (by dsimp only; exact ⟨by omega, Mem.Grew.refl m4, .inl ⟨rfl, rfl, rfl, fun j hj => by omega⟩⟩) (by simp) ?_
  intro (i, mo, fi, so, M) ⟨a1, a2, a3⟩
  by_cases hi' : i < N
  · obtain ⟨p, q, full, rw, z1, z2, z3, z4⟩ := atP (hv.grow (g.trans a2)) (y := i) (by omega)
    have hsk := a3.skip (i := i)
    have htk := a3.take (i := i) (by omega)
    have hkp := a3.keep (i := i) (by omega)
    have hr := a3.rng
    have hcl : cntL l (nthP l i).1 ≤ l.length := List.countP_le_length
    obtain ⟨x, hx⟩ : ∃ x, nthP l i = x := ⟨_, rfl⟩
    rw [hx] at z4 hsk htk hkp hcl
    have gn := Mem.Grew.new M (.row 2 [[.int .i64 x.1, .int .i64 x.2]] true)
    have ho : (M.new (.row 2 [[.int .i64 x.1, .int .i64 x.2]] true)).obj M.next = some (.row 2 [[.int .i64 x.1, .int .i64 x.2]] true) := by simp
    clear a3
    simp (disch := omega) [-getElem?_pos, z1, z3, z4]
    refine right11 fun m5 g5 => ?_
    have ho1 := g5.obj M.next (by simp)
    rw [ho] at ho1
    have ga := (a2.trans gn).trans g5
    by_cases hk : okS x
    · replace htk := htk hk
      replace hkp := hkp hk
      rw [decide_eq_true hk]
      simp (disch := omega) [-getElem?_pos, ho1]
      refine count10 (hv.grow (g.trans ga)) (by omega) fun m6 g6 => ?_
      have hnx := g5.next
      simp only [new_next] at hnx
      have ho2 := g6.obj M.next (by omega)
      rw [ho1] at ho2
      have gb := ga.trans g6
      obtain ⟨c, hc⟩ : ∃ c : Nat, cntL l x.1 = c := ⟨_, rfl⟩
      rw [hc] at htk hkp hcl ⊢
      by_cases c1 : mo < c
      · have hq := htk (.inl c1)
        clear htk hkp hsk
        simp (disch := omega) [-getElem?_pos, ho2]
        exact again_mk (i + 1, c, x.1, true, m6) (by dsimp only; exact ⟨by omega, gb, hq⟩) (by dsimp only; omega) (by simp) rfl
      · by_cases c2 : (c : Int) = mo
        · by_cases c3 : x.1 < fi
          · have hq := htk (.inr ⟨c2, c3⟩)
            clear htk hkp hsk
            simp (disch := omega) [-getElem?_pos, ho2]
            exact again_mk (i + 1, c, x.1, true, m6) (by dsimp only; exact ⟨by omega, gb, hq⟩) (by dsimp only; omega) (by simp) rfl
          · have hq := hkp (by rintro (q | q) <;> omega)
            clear htk hkp hsk
            simp (disch := omega) [-getElem?_pos, ho2]
            exact again_mk (i + 1, mo, fi, so, m6) (by dsimp only; exact ⟨by omega, gb, hq⟩) (by dsimp only; omega) (by simp) rfl
        · have hq := hkp (by rintro (q | q) <;> omega)
          clear htk hkp hsk
          simp (disch := omega) [-getElem?_pos, ho2]
          exact again_mk (i + 1, mo, fi, so, m6) (by dsimp only; exact ⟨by omega, gb, hq⟩) (by dsimp only; omega) (by simp) rfl
    · have hq := hsk hk
      clear htk hkp hsk
      rw [decide_eq_false hk]
      simp (disch := omega) [-getElem?_pos]
      exact again_mk (i + 1, mo, fi, so, m5) (by dsimp only; exact ⟨by omega, ga, hq⟩) (by dsimp only; omega) (by simp) rfl
  · have : i = N := by omega
    subst this
    rw [← hN] at a3
    have oB5 : M.obj B = some (.row 3 [[.int .i64 lo, .int .i64 hi, .int .i64 cn]] true) := by rw [a2.obj B bB4]; exact oB4
    have bB5 : B < M.next := by have := a2.next; omega
    rcases a3.best hb with ⟨rfl, rfl, rfl, rfl⟩ | ⟨rfl, rfl, rfl, hbp⟩
    · rw [decide_eq_false (by omega)] at hok
      subst hok
      simp (disch := omega) [-getElem?_pos, oB5]
    · have hpos := hbp.pos
      rw [decide_eq_true hpos] at hok
      subst hok
      clear a3
      have hbl : mo ≤ l.length := by have := hbp.cnt; rw [← this]; exact_mod_cast List.countP_le_length
      simp (disch := omega) [-getElem?_pos, hv1]
      refine exec_loopU (σ := Nat × Int × Mem) (fun (i, la, _) => [(13, .int .i64 la), (75, .int .i64 i)]) (fun (_, _, M') => M') (fun (j, la, M') => j ≤ i ∧ M.Grew M' ∧ PL l fi j la) (fun (j, _, _) => i - j) (0, 1152921504606846976, M) rfl
        (by dsimp only; exact ⟨by omega, Mem.Grew.refl M, by omega, fun j hj => by omega, .inl rfl⟩) (by simp) ?_
      intro (j, la, M') ⟨d1, d2, d3⟩
      by_cases hj : j < i
      · obtain ⟨p, q, full, rw, z1, z2, z3, z4⟩ := atP (hv.grow ((g.trans a2).trans d2)) (y := j) (by omega)
        have hsk := d3.skip (i := j)
        have htk := d3.take (i := j)
        obtain ⟨x, hx⟩ : ∃ x, nthP l j = x := ⟨_, rfl⟩
        rw [hx] at z4 hsk htk
        have gn := Mem.Grew.new M' (.row 2 [[.int .i64 x.1, .int .i64 x.2]] true)
        have ho : (M'.new (.row 2 [[.int .i64 x.1, .int .i64 x.2]] true)).obj M'.next = some (.row 2 [[.int .i64 x.1, .int .i64 x.2]] true) := by simp
        clear d3
        simp (disch := omega) [-getElem?_pos, z1, z3, z4]
        refine right11 fun m5 g5 => ?_
        have ho1 := g5.obj M'.next (by simp)
        rw [ho] at ho1
        have ga := (d2.trans gn).trans g5
        by_cases hk : okS x
        · rw [decide_eq_true hk]
          by_cases c1 : x.1 ≤ fi
          · by_cases c2 : fi ≤ x.2
            · have hq := htk ⟨hk, c1, c2⟩
              clear htk hsk
              simp (disch := omega) [-getElem?_pos, ho1]
              exact again_mk (j + 1, min la x.2, m5) (by dsimp only; exact ⟨by omega, ga, hq⟩) (by dsimp only; omega) (by simp) rfl
            · have hq := hsk fun h => c2 h.2.2
              clear htk hsk
              simp (disch := omega) [-getElem?_pos, ho1]
              exact again_mk (j + 1, la, m5) (by dsimp only; exact ⟨by omega, ga, hq⟩) (by dsimp only; omega) (by simp) rfl
          · have hq := hsk fun h => c1 h.2.1
            clear htk hsk
            simp (disch := omega) [-getElem?_pos, ho1]
            exact again_mk (j + 1, la, m5) (by dsimp only; exact ⟨by omega, ga, hq⟩) (by dsimp only; omega) (by simp) rfl
        · have hq := hsk fun h => hk h.1
          clear htk hsk
          rw [decide_eq_false hk]
          simp (disch := omega) [-getElem?_pos]
          exact again_mk (j + 1, la, m5) (by dsimp only; exact ⟨by omega, ga, hq⟩) (by dsimp only; omega) (by simp) rfl
      · have : j = i := by omega
        subst this
        rw [← hN] at d3
        have := d3.best hbp
        subst this
        have oB6 : M'.obj B = some (.row 3 [[.int .i64 fi, .int .i64 la, .int .i64 mo]] true) := by rw [d2.obj B bB5]; exact oB5
        have hmost := hbp.most t
        clear d3
        simp (disch := omega) [-getElem?_pos, oB6]
        refine count10 (hv.grow ((g.trans a2).trans d2)) (by omega) fun m7 g7 => ?_
        simp (disch := omega) [-getElem?_pos]
end Go.Proofs.Ytginhgjbjfndfaa
