/-
  WHO LIES, and the middle: what the functions of this seat do.
-/
import Derived.Test.YtginhgjbjfndfaaJx
namespace Go.Proofs.Ytginhgjbjfndfaa
open Go Go.AM
set_option linter.unusedVariables false
set_option linter.unusedSimpArgs false
set_option maxRecDepth 40000
set_option maxHeartbeats 4000000

/-- The places of those that lie. -/
def lieP (lo hi : Int) (x : Int × Int) : Prop := okS x ∧ ¬ (hasS lo x ∧ hasS hi x)
instance (lo hi : Int) (x : Int × Int) : Decidable (lieP lo hi x) := by unfold lieP; infer_instance
def liarI (l : List (Int × Int)) (lo hi : Int) : Nat → List Int
  | 0 => []
  | n + 1 => liarI l lo hi n ++ if lieP lo hi (nthP l n) then [(n : Int)] else []
theorem liarI_length (l : List (Int × Int)) (lo hi : Int) : ∀ n, (liarI l lo hi n).length ≤ n
  | 0 => by simp [liarI]
  | n + 1 => by have := liarI_length l lo hi n; simp only [liarI, List.length_append]; split <;> simp <;> omega

theorem liars_calls {m : Mem} {v : V} {l : List (Int × Int)} (hv : Sl m 2 v (rowP l)) (hl : l.length ≤ 100) {K : KV}
    (hno : ∀ m' lo hi cn, Best l lo hi cn → ¬ (0 < cn ∧ (rtsL l : Int) < 2 * cn) → m.Grew m' → K (.tup [.sl none 0 (some 0), .bool false]) m')
    (hyes : ∀ v' m' lo hi cn, Best l lo hi cn → 0 < cn → (rtsL l : Int) < 2 * cn → Ows m' 1 v' (rowI .i64 (liarI l lo hi l.length)) → m.Grew m' → K (.tup [v', .bool true]) m') : ACalls Try.prog 12 [v] m K := by
  obtain ⟨N, hN, hv1⟩ := lenP hv
  refine run_on x1 hm c12 (by simp) fun hf => ?_
  simp (disch := omega) [-getElem?_pos, b12]
  refine agree_calls hv hl fun m1 lo hi cn hb g1 => ?_
  replace hno := fun m' => hno m' lo hi cn hb
  replace hyes := fun v' m' => hyes v' m' lo hi cn hb
  have hcr : 0 ≤ cn ∧ cn ≤ l.length := by
    rcases hb with ⟨rfl, _⟩ | hb
    · omega
    · refine ⟨by have := hb.pos; omega, ?_⟩
      rw [← hb.cnt]; exact_mod_cast List.countP_le_length
  have hrl : rtsL l ≤ l.length := List.countP_le_length
  clear hb
  have gB := Mem.Grew.new m1 (.row 3 [[.int .i64 lo, .int .i64 hi, .int .i64 cn]] true)
  have oB : (m1.new (.row 3 [[.int .i64 lo, .int .i64 hi, .int .i64 cn]] true)).obj m1.next = some (.row 3 [[.int .i64 lo, .int .i64 hi, .int .i64 cn]] true) := by simp
  have bB : m1.next < (m1.new (.row 3 [[.int .i64 lo, .int .i64 hi, .int .i64 cn]] true)).next := by simp
  obtain ⟨B, hB⟩ : ∃ B, m1.next = B := ⟨_, rfl⟩
  have g2 := g1.trans gB
  by_cases hc : 0 < cn
  case neg =>
    replace hno := fun m' => hno m' (fun h => hc h.1)
    rw [decide_eq_false hc]
    clear hyes
    simp (disch := omega) [-getElem?_pos]
    refine drawT_one ⟨_, _, by simp (disch := omega) [-getElem?_pos]; exact ⟨rfl, rfl⟩, ?_⟩
    simp (disch := omega) [-getElem?_pos]
    exact hno _ g2
  rw [decide_eq_true hc]
  simp (disch := omega) [-getElem?_pos]
  generalize m1.new (.row 3 [[.int .i64 lo, .int .i64 hi, .int .i64 cn]] true) = m2 at *
  rw [hB] at oB bB ⊢
  obtain ⟨D, hD⟩ : ∃ D, decide (2 * cn ≤ (rtsL l : Int)) = D := ⟨_, rfl⟩
  refine drawT_J (fun e m' => m2.Grew m' ∧ e = keep [0, 4, 23] (((Env.none.put (some 23) (.bool D)).put (some 4) (.ptr (some (B, 0, 0)))).put (some 0) v)) ?_ ?_
  · simp (disch := omega) [-getElem?_pos, oB]
    refine ⟨?_, ?_⟩
    all_goals
      refine rights17 (hv.grow g2) (by omega) fun m3 g3 => ?_
      have o3 : m3.obj B = some (.row 3 [[.int .i64 lo, .int .i64 hi, .int .i64 cn]] true) := by rw [g3.obj B bB]; exact oB
      simp (disch := omega) [-getElem?_pos, o3, hD]
      exact g3
  rintro e' m3 ⟨g3, rfl⟩
  have o3 : m3.obj B = some (.row 3 [[.int .i64 lo, .int .i64 hi, .int .i64 cn]] true) := by rw [g3.obj B bB]; exact oB
  have b3 : B < m3.next := by have := g3.next; omega
  have g := g2.trans g3
  by_cases hd : 2 * cn ≤ (rtsL l : Int)
  · rw [decide_eq_true hd] at hD
    subst hD
    replace hno := hno m3 (fun h => by omega) g
    clear hyes
    simp (disch := omega) [-getElem?_pos]
    exact hno
  rw [decide_eq_false hd] at hD
  subst hD
  replace hyes := fun v' m' => hyes v' m' hc (by omega)
  clear hno
  simp (disch := omega) [-getElem?_pos, hv1]
  refine exec_loopU (σ := Nat × V × Mem) (fun (i, u, _) => [(6, u), (26, .int .i64 i)]) (fun (_, _, M) => M) (fun (i, u, M) => i ≤ N ∧ Ows M 1 u (rowI .i64 (liarI l lo hi i)) ∧ m3.Grew M ∧ (∀ p ∈ u.fp, m3.next ≤ p)) (fun (i, _, _) => N - i) (0, .sl none 0 (some 0), m3) rfl
    (by dsimp only; exact ⟨by omega, Ows.nil _ _, Mem.Grew.refl m3, by simp [V.fp]⟩) (by simp) ?_
  intro (i, u, M) ⟨a1, a2, a3, a4⟩
  by_cases hi' : i < N
  · obtain ⟨p, q, full, rw, z1, z2, z3, z4⟩ := atP (hv.grow (g.trans a3)) (y := i) (by omega)
    have e1 : liarI l lo hi (i + 1) = liarI l lo hi i ++ if lieP lo hi (nthP l i) then [(i : Int)] else [] := rfl
    have hll := liarI_length l lo hi i
    obtain ⟨x, hx⟩ : ∃ x, nthP l i = x := ⟨_, rfl⟩
    rw [hx] at z4 e1
    have gn := Mem.Grew.new M (.row 2 [[.int .i64 x.1, .int .i64 x.2]] true)
    have ho : (M.new (.row 2 [[.int .i64 x.1, .int .i64 x.2]] true)).obj M.next = some (.row 2 [[.int .i64 x.1, .int .i64 x.2]] true) := by simp
    have hlM : M.next < (M.new (.row 2 [[.int .i64 x.1, .int .i64 x.2]] true)).next := by simp
    simp (disch := omega) [-getElem?_pos, z1, z3, z4]
    refine right18 fun m5 g5 => ?_
    have ga := gn.trans g5
    have ho1 := g5.obj M.next hlM
    rw [ho] at ho1
    have hl5 : M.next < m5.next := by have := g5.next; omega
    have yes : lieP lo hi x → ∀ m', M.Grew m' → Ows m' 1 u (rowI .i64 (liarI l lo hi i)) ∧ m3.Grew m' := fun _ m' g => ⟨a2.grow g, a3.trans g⟩
    have no : ¬ lieP lo hi x → ∀ m', M.Grew m' → i + 1 ≤ N ∧ Ows m' 1 u (rowI .i64 (liarI l lo hi (i + 1))) ∧ m3.Grew m' ∧ (∀ p ∈ u.fp, m3.next ≤ p) := fun h m' g => by
      rw [if_neg h, List.append_nil] at e1
      exact ⟨by omega, by rw [e1]; exact a2.grow g, a3.trans g, a4⟩
    have app : lieP lo hi x → ∀ (m' : Mem), M.Grew m' → ∀ (K' : KV), (∀ u' M', (i + 1 ≤ N ∧ Ows M' 1 u' (rowI .i64 (liarI l lo hi (i + 1))) ∧ m3.Grew M' ∧ (∀ p ∈ u'.fp, m3.next ≤ p)) → K' u' M') → appendX 1 8 (m'.new (.row 1 [[.int .i64 i]] true)) u [[.int .i64 i]] K' := fun h m' g K' hK => by
      rw [if_pos h] at e1
      refine ((a2.grow g).grow (Mem.Grew.new m' (.row 1 [[.int .i64 i]] true))).app (by rw [rowI_length]; omega) (by rw [rowI_length]; omega) fun u' M' w1 w2 w3 => ?_
      have w0 := (Stp.grow (g.trans (Mem.Grew.new m' (.row 1 [[.int .i64 i]] true))) u.fp).trans w2
      exact hK u' M' ⟨by omega, by rw [e1, ← rowI_append]; exact w1, w0.toGrew a3 a4, w0.ge a3.next a4⟩
    by_cases hk : okS x
    case neg =>
      have hn := no (fun h => hk h.1)
      clear yes no app
      rw [decide_eq_false hk]
      simp (disch := omega) [-getElem?_pos]
      exact again_mk (i + 1, u, m5) (by dsimp only; exact hn m5 ga) (by dsimp only; omega) (by simp) rfl
    rw [decide_eq_true hk]
    have o5 : m5.obj B = some (.row 3 [[.int .i64 lo, .int .i64 hi, .int .i64 cn]] true) := by rw [(a3.trans ga).obj B b3]; exact o3
    have b5 : B < m5.next := by have := (a3.trans ga).next; omega
    simp (disch := omega) [-getElem?_pos, ho1, o5]
    refine has16 fun m6 g6 => ?_
    have ho2 := g6.obj M.next hl5
    rw [ho1] at ho2
    have gb := ga.trans g6
    have o6 : m6.obj B = some (.row 3 [[.int .i64 lo, .int .i64 hi, .int .i64 cn]] true) := by rw [g6.obj B b5]; exact o5
    by_cases h1 : hasS lo x
    case neg =>
      have ha := app ⟨hk, fun h => h1 h.1⟩ m6 gb
      clear yes no app
      rw [decide_eq_false h1]
      simp (disch := omega) [-getElem?_pos, eltsOf, Mem.elts]
      refine ha _ fun u' M' hI => ?_
      simp (disch := omega) [-getElem?_pos]
      exact again_mk (i + 1, u', M') hI (by dsimp only; omega) (by simp) rfl
    rw [decide_eq_true h1]
    simp (disch := omega) [-getElem?_pos, ho2, o6]
    refine has16 fun m7 g7 => ?_
    have gc := gb.trans g7
    by_cases h2 : hasS hi x
    case neg =>
      have ha := app ⟨hk, fun h => h2 h.2⟩ m7 gc
      clear yes no app
      rw [decide_eq_false h2]
      simp (disch := omega) [-getElem?_pos, eltsOf, Mem.elts]
      refine ha _ fun u' M' hI => ?_
      simp (disch := omega) [-getElem?_pos]
      exact again_mk (i + 1, u', M') hI (by dsimp only; omega) (by simp) rfl
    have hn := no (fun h => h.2 ⟨h1, h2⟩)
    clear yes no app
    rw [decide_eq_true h2]
    simp (disch := omega) [-getElem?_pos]
    exact again_mk (i + 1, u, m7) (by dsimp only; exact hn m7 gc) (by dsimp only; omega) (by simp) rfl
  · have : i = N := by omega
    subst this
    rw [hN] at hyes
    simp (disch := omega) [-getElem?_pos]
    exact hyes u M a2 (g.trans a3)

theorem best_rng {l : List (Int × Int)} {lo hi cn : Int} (h : BestP l lo hi cn) : -1152921504606846976 ≤ lo ∧ lo ≤ hi ∧ hi ≤ 1152921504606846976 := by
  obtain ⟨x, hx, ⟨⟨h1, h2, h3⟩, h4, h5⟩, h6⟩ := h.ends
  obtain ⟨y, hy, ⟨k1, k2, k3⟩, k4⟩ := h.low
  omega

theorem middle_calls {m : Mem} {v : V} {l : List (Int × Int)} (hv : Sl m 2 v (rowP l)) (hl : l.length ≤ 100) {lo hi cn : Int} (hb : Best l lo hi cn) {K : KV}
    (h : ∀ m', m.Grew m' → K (.tup [.int .i64 (if 0 < cn ∧ (rtsL l : Int) < 2 * cn then lo + (hi - lo).tdiv 2 else 0), .bool (decide (0 < cn ∧ (rtsL l : Int) < 2 * cn))]) m') : ACalls Try.prog 13 [v] m K := by
  refine run_on x1 hm c13 (by simp) fun hf => ?_
  simp (disch := omega) [-getElem?_pos, b13]
  refine liars_calls hv hl (fun m1 lo' hi' cn' hb' hno g1 => ?_) (fun v' m1 lo' hi' cn' hb' hc hr ho g1 => ?_)
  · obtain ⟨rfl, rfl, rfl⟩ := hb.uniq hb'
    rw [if_neg hno, decide_eq_false hno] at h
    simp (disch := omega) [-getElem?_pos]
    exact h _ g1
  · obtain ⟨rfl, rfl, rfl⟩ := hb.uniq hb'
    rw [if_pos ⟨hc, hr⟩, decide_eq_true ⟨hc, hr⟩] at h
    simp (disch := omega) [-getElem?_pos]
    refine agree_calls (hv.grow g1) hl fun m2 lo2 hi2 cn2 hb2 g2 => ?_
    obtain ⟨rfl, rfl, rfl⟩ := hb.uniq hb2
    have hbp : BestP l lo hi cn := by
      rcases hb with ⟨rfl, _⟩ | hb
      · omega
      · exact hb
    have hr := best_rng hbp
    obtain ⟨d, hd⟩ : ∃ d, (hi - lo).tdiv 2 = d := ⟨_, rfl⟩
    have hdr : 0 ≤ d ∧ d ≤ hi - lo := by
      rw [Int.tdiv_eq_ediv_of_nonneg (by omega)] at hd; omega
    rw [hd] at h
    simp (disch := omega) [-getElem?_pos, hd]
    exact h _ ((g1.trans g2).trans (Mem.Grew.new _ _))
end Go.Proofs.Ytginhgjbjfndfaa
