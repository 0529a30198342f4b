/-
  WEEKLYRINGS, WEEKLYNEXT, WEEKLYBETWEEN, of what the functions of this seat do.
-/
import Derived.Test.YtkalojiddaeekaaKx
namespace Go.Proofs.Ytkalojiddaeekaa
open Go Go.AM
set_option linter.unusedVariables false
set_option linter.unusedSimpArgs false
set_option maxRecDepth 60000
set_option maxHeartbeats 8000000

theorem between_calls' {m : Mem} {D : List Nat} {s : Nat} {L : List Al} (hW : Wk m D s L) {q t : Int} (N : Nat) (ht : t = q + N) (hq : -4611686018427387904 ≤ q) (hq2 : q ≤ 4611686018427387904) (hN : N ≤ 20160) {K : KV} (h : ∀ v m', Exa m' 1 v (rowI .i64 (spanL L q N)) → m.Grew m' → (∀ p ∈ v.fp, m.next ≤ p) → K v m') : ACalls Try.prog 13 [.ptr (some (s, 0, 0)), .int .i64 q, .int .i64 t] m K := by
  subst ht; exact between_calls hW hq hq2 hN h

/-! ### the facts -/

abbrev A0 : Al := (4, 420, 1, false)
theorem next_nil {m : Mem} {q : Int} {K : KV} (h : K (.tup [.int .i64 0, .sl none 0 (some 0)]) m) : ACalls Try.prog 12 [.ptr none, .int .i64 q] m K := by
  refine run_on x4 hm c12 (by simp) fun hf => ?_
  simp (disch := omega) [-getElem?_pos, b12, F20]
  refine all_nil ?_
  simp (disch := omega) [-getElem?_pos]
  refine exec_loopU (σ := Unit) (fun _ => []) (fun _ => m) (fun _ => True) (fun _ => 0) () rfl trivial (by simp) ?_
  intro _ _
  simp (disch := omega) [-getElem?_pos]
  exact h
theorem add_nil {m : Mem} {a : Al} {K : KV} (h : ∀ m', m.Grew m' → K (.int .i64 1) m') : ACalls Try.prog 15 [.ptr none, .agg (al a)] m K := by
  refine run_on (ctx_nil _) hm c15 (by simp) fun hf => ?_
  have g := Mem.Grew.new m (.row 4 [al a] true)
  simp only [al] at g ⊢
  simp (disch := omega) [-getElem?_pos, b15]
  refine place_nil ?_
  simp (disch := omega) [-getElem?_pos]
  exact h _ g
theorem ring_A0 {w : Int} (h : 0 ≤ w) (h2 : w < 10080) : ring1 w A0 = decide (w = 420) := by
  unfold ring1
  dsimp only
  obtain ⟨n, hn⟩ : ∃ n : Nat, w / 1440 = n := ⟨(w / 1440).toNat, by omega⟩
  rw [hn, Int.toNat_natCast]
  cases n with
  | zero =>
    have : w % 1440 = w := by omega
    rw [this]; simp
  | succ n =>
    have e : (1 : Int) / 2 ^ (n + 1) = 0 := by
      refine Int.ediv_eq_zero_of_lt (by omega) ?_
      rw [Int.pow_succ]
      have := Int.pow_pos (n := 2) (m := n) (by omega)
      omega
    rw [e, decide_eq_false (show ¬ w = 420 by omega)]
    simp
theorem rings_A0 (q : Int) : ringsL [A0] q = if q % 10080 = 420 then [4] else [] := by
  unfold ringsL
  have := ring_A0 (w := q % 10080) (by omega) (by omega)
  simp only [List.filter_cons, List.filter_nil, this, decide_eq_true_eq]
  split <;> rfl
theorem span_A0 : ∀ n : Nat, n ≤ 20160 → (spanL [A0] 0 n).length = (if 420 < n then 1 else 0) + (if 10500 < n then 1 else 0)
  | 0, _ => by rw [spanL_zero]; rfl
  | n + 1, h => by
    rw [spanL_succ, List.length_append, span_A0 n (by omega), rings_A0]
    by_cases e : (0 + (n : Int)) % 10080 = 420
    · rw [if_pos e]
      have : n = 420 ∨ n = 10500 := by omega
      rcases this with rfl | rfl <;> rfl
    · rw [if_neg e]
      simp only [List.length_nil, Nat.add_zero]
      have h1 : n ≠ 420 := fun e2 => by rw [e2] at e; exact e (by decide)
      have h2 : n ≠ 10500 := fun e2 => by rw [e2] at e; exact e (by decide)
      have a1 : (420 < n) ↔ 420 < n + 1 := by omega
      have a2 : (10500 < n) ↔ 10500 < n + 1 := by omega
      simp only [a1, a2]
theorem next_A0 {b : Int} {l : List Int} (h : NextR [A0] 9060 b l) : b = 1440 ∧ l = [4] := by
  have e1 : ringsL [A0] (9060 + 1440) = [4] := by rw [rings_A0]; rfl
  cases h with
  | none h => rw [h 1440 (by omega) (by omega)] at e1; cases e1
  | some b h1 h2 h3 h4 =>
    have hb : b = 1440 := by
      rcases Int.lt_trichotomy b 1440 with w | w | w
      · rw [rings_A0, if_neg (by omega)] at h3; exact absurd rfl h3
      · exact w
      · rw [h4 1440 (by omega) w] at e1; cases e1
    subst hb
    exact ⟨rfl, e1⟩
theorem fixed_calls {m : Mem} {K : KV} (h : ∀ m', m.Grew m' → K (.bool true) m') : ACalls Try.prog 6 [] m K := by
  refine run_on (ctx_nil _) hm c6 (by simp) fun hf => ?_
  simp (disch := omega) [-getElem?_pos, b6]
  refine new_calls fun s m1 hW1 hs1 g1 => ?_
  simp (disch := omega) [-getElem?_pos]
  refine add_calls (a := A0) hW1 fun m2 D2 L2' r2 hR2 hW2 hS2 => ?_
  have hh : r2 = 0 ∧ L2' = [A0] := by
    cases hR2 with
    | wrong w => exact absurd (by unfold rtA; decide) w
    | there _ w => simp at w
    | full _ _ w => simp at w
    | ok _ _ _ k hk => exact ⟨rfl, by unfold insA; simp⟩
  obtain ⟨rfl, rfl⟩ := hh
  have G2 := hS2.toGrew g1 (by simpa using hs1)
  have ge2 := hS2.ge g1.next (by simpa using hs1)
  simp (disch := omega) [-getElem?_pos]
  refine next_calls hW2 fun b l v3 m3 hN e1 e2 e3 => ?_
  obtain ⟨rfl, rfl⟩ := next_A0 hN
  simp (disch := omega) [-getElem?_pos]
  refine rings_calls (hW2.grow e2) fun v4 m4 f1 f2 f3 => ?_
  have f4 : ringsL [A0] (-9660) = [4] := by rw [rings_A0]; rfl
  rw [f4] at f1
  simp (disch := omega) [-getElem?_pos]
  refine next_nil ?_
  have x1 := e1.ows.sl.lenSl
  have x2 := (e1.grow f2).ows.sl.at (i := 0) (x := [.int .i64 4]) rfl .i64
  obtain ⟨p, q, full, rw, z1, z2, z3, z4, _⟩ := x2
  have x3 := f1.ows.sl.lenSl
  rw [rowI_length] at x1 x3
  simp (disch := omega) [-getElem?_pos] at x1 x3 z1
  simp (disch := omega) [-getElem?_pos, x1, x3, z1, z3, z4]
  refine between_calls' ((hW2.grow e2).grow f2) 20160 (by omega) (by omega) (by omega) (by omega) fun v5 m5 j1 j2 j3 => ?_
  have x4 := j1.ows.sl.lenSl
  rw [rowI_length, span_A0 20160 (by omega)] at x4
  simp (disch := omega) [-getElem?_pos] at x4
  simp (disch := omega) [-getElem?_pos, x4]
  have hW5 := ((hW2.grow e2).grow f2).grow j2
  have G5 := ((G2.trans e2).trans f2).trans j2
  refine add_calls (a := (4, 0, 1, false)) hW5 fun m6 D6 L6 r6 hR6 hW6 hS6 => ?_
  have hh : r6 = 9 ∧ L6 = [A0] := by
    cases hR6 with
    | wrong w => exact absurd (by unfold rtA; decide) w
    | there _ w => exact ⟨rfl, rfl⟩
    | full _ w _ => exact absurd ⟨A0, by simp, rfl⟩ w
    | ok _ w _ k hk => exact absurd ⟨A0, by simp, rfl⟩ w
  obtain ⟨rfl, rfl⟩ := hh
  have G6 := hS6.toGrew G5 ge2
  have ge6 := hS6.ge G5.next ge2
  simp (disch := omega) [-getElem?_pos]
  refine add_calls (a := (0, 0, 128, false)) hW6 fun m7 D7 L7 r7 hR7 hW7 hS7 => ?_
  have hh : r7 = 2 ∧ L7 = [A0] := by
    cases hR7 with
    | wrong w => exact ⟨rfl, rfl⟩
    | there w _ => exact absurd w (by unfold rtA; decide)
    | full w _ _ => exact absurd w (by unfold rtA; decide)
    | ok w _ _ k hk => exact absurd w (by unfold rtA; decide)
  obtain ⟨rfl, rfl⟩ := hh
  have G7 := hS7.toGrew G6 ge6
  have ge7 := hS7.ge G6.next ge6
  simp (disch := omega) [-getElem?_pos]
  refine switch_calls hW7 fun m8 L8 b8' hR8 hW8 hS8 => ?_
  have hh : b8' = true ∧ L8 = [(4, 420, 1, true)] := by
    cases hR8 with
    | no w => exact absurd ⟨A0, by simp, rfl⟩ w
    | one k a h1 h2 =>
      have hk := (List.getElem?_eq_some_iff.1 h1).1
      simp at hk; subst hk
      simp at h1; subst h1
      exact ⟨rfl, rfl⟩
  obtain ⟨rfl, rfl⟩ := hh
  have G8 := hS8.toGrew G7 ge7
  have ge8 := hS8.ge G7.next ge7
  simp (disch := omega) [-getElem?_pos]
  refine rings_calls hW8 fun v9 m9 k1 k2 k3 => ?_
  have k4 : ringsL [(4, 420, 1, true)] 420 = [] := rfl
  rw [k4] at k1
  have x5 := k1.ows.sl.lenSl
  rw [rowI_length] at x5
  simp (disch := omega) [-getElem?_pos] at x5
  simp (disch := omega) [-getElem?_pos, x5]
  refine drop_calls (hW8.grow k2) fun m10 D10 L10 b10' hR10 hW10 hS10 => ?_
  have G9 := G8.trans k2
  have hh : b10' = true ∧ L10 = [] := by
    cases hR10 with
    | no w => exact absurd ⟨(4, 420, 1, true), by simp, rfl⟩ w
    | one k a h1 h2 =>
      have hk := (List.getElem?_eq_some_iff.1 h1).1
      simp at hk; subst hk
      exact ⟨rfl, rfl⟩
  obtain ⟨rfl, rfl⟩ := hh
  have G10 := hS10.toGrew G9 ge8
  have ge10 := hS10.ge G9.next ge8
  simp (disch := omega) [-getElem?_pos]
  refine drop_calls hW10 fun m11 D11 L11 b11' hR11 hW11 hS11 => ?_
  have hh : b11' = false := by
    cases hR11 with
    | no w => rfl
    | one k a h1 h2 => simp at h1
  obtain rfl := hh
  have G11 := hS11.toGrew G10 ge10
  simp (disch := omega) [-getElem?_pos]
  refine add_nil (a := (0, 0, 0, false)) fun m12 g12 => ?_
  simp (disch := omega) [-getElem?_pos]
  exact h _ (G11.trans g12)
abbrev shA : Sh := .slice 5 (.struct [.int .u8, .struct [.int .i64, .int .i64, .int .i64, .bool]])

theorem rings_law (m0 : Mem) (x0 x1 : V) (h0 : IsV m0 shA x0) (h1 : IsV m0 (.int .i64) x1) : ACalls Try.prog 3 [x0, x1] m0 (fun r _ => r = .bool true) := by
  obtain ⟨q, rfl, _⟩ := h1.int
  refine run_on (ctx_nil _) hm c3 (by simp) fun hf => ?_
  simp (disch := omega) [-getElem?_pos, b3]
  refine fixed_calls fun m00 g00 => ?_
  obtain ⟨es, hv, hml, hes⟩ := h0.slR hf
  replace hv := hv.grow g00
  replace hes : ∀ e ∈ es, Is m00 _ e := fun e he => Is.mono (fun q o ho => by rw [g00.obj q (hf q o ho)]; exact ho) _ _ (hes e he)
  have hv1 := hv.lenSl
  by_cases hl : (100 : Int) < es.length
  · simp (disch := omega) [-getElem?_pos, hv1]
  simp (disch := omega) [-getElem?_pos, hv1]
  refine made_calls hv hes (by omega) fun s L D u m1 hP gM => ?_
  have hlen := hP.W.len
  have hrt := hP.W.rt
  simp (disch := omega) [-getElem?_pos]
  refine all_calls hP.W fun v m2 w1 w2 w3 => ?_
  have hU := hP.U.grow w2
  have hv2 := w1.sl.lenSl
  have hu2 := hU.sl.lenSl
  obtain ⟨n, hn⟩ : ∃ n, L.length = n := ⟨_, rfl⟩
  rw [List.length_map, hn] at hv2 hu2
  rw [hn] at hlen
  simp (disch := omega) [-getElem?_pos, hv2, hu2]
  refine exec_loopU (σ := Nat) (fun i => [(34, .int .i64 i)]) (fun _ => m2) (fun i => i ≤ n) (fun i => n - i) 0 rfl (by omega) (by simp) ?_
  intro i hi
  by_cases hin : i < n
  · obtain ⟨a, ha⟩ : ∃ a, L[i]? = some a := ⟨_, List.getElem?_eq_getElem (by omega)⟩
    obtain ⟨p, x, full, rw, z1, z2, z3, z4, _⟩ := w1.sl.at (al_get ha) .i64
    obtain ⟨p', x', full', rw', y1, y2, y3, y4, _⟩ := hU.sl.at (al_get ha) .i64
    simp only [al] at z4 y4
    simp (disch := omega) [-getElem?_pos, z1, z3, z4, y1, y3, y4]
    exact again_mk (i + 1) (by omega) (by omega) (by simp) rfl
  · have : i = n := by omega
    subst this
    simp (disch := omega) [-getElem?_pos]
    refine rings_calls (hP.W.grow w2) fun v1 m3 e1 e2 e3 => ?_
    simp (disch := omega) [-getElem?_pos]
    refine lrings_calls (hU.grow e2).sl hrt (by omega) fun v4 m4 e4 e5 e6 => ?_
    have l1 := ringsL_len L q
    simp (disch := omega) [-getElem?_pos]
    refine same_calls (e1.grow e5).ows.sl e4.ows.sl (by omega) (by omega) ?_
    simp (disch := omega) [-getElem?_pos]

theorem wf_i32 {n : Int} (h : (Lit.int .i32 n).wf = true) : -2147483648 ≤ n ∧ n ≤ 2147483647 := by simpa [IntKind.min, IntKind.max, IntKind.signed, IntKind.bits] using wf_int h

theorem next_law (m0 : Mem) (x0 x1 : V) (h0 : IsV m0 shA x0) (h1 : IsV m0 (.int .i32) x1) : ACalls Try.prog 4 [x0, x1] m0 (fun r _ => r = .bool true) := by
  obtain ⟨q, rfl, hq⟩ := h1.int
  have hq := wf_i32 hq
  refine run_on (ctx_nil _) hm c4 (by simp) fun hf => ?_
  simp (disch := omega) [-getElem?_pos, b4]
  refine fixed_calls fun m00 g00 => ?_
  obtain ⟨es, hv, hml, hes⟩ := h0.slR hf
  replace hv := hv.grow g00
  replace hes : ∀ e ∈ es, Is m00 _ e := fun e he => Is.mono (fun q o ho => by rw [g00.obj q (hf q o ho)]; exact ho) _ _ (hes e he)
  have hv1 := hv.lenSl
  by_cases hl : (20 : Int) < es.length
  · simp (disch := omega) [-getElem?_pos, hv1]
  simp (disch := omega) [-getElem?_pos, hv1]
  generalize hZ : (10080 : Int) = Z
  refine made_calls hv hes (by omega) fun s L D u m1 hP gM => ?_
  have hlen := hP.W.len
  have hrt := hP.W.rt
  simp (disch := omega) [-getElem?_pos]
  refine next_calls hP.W fun b l g m2 hN e1 e2 e3 => ?_
  simp (disch := omega) [-getElem?_pos]
  have hg1 := e1.ows.sl.lenSl
  rw [rowI_length] at hg1
  have hll : l.length ≤ 64 := by
    cases hN with
    | none => simp
    | some b => have := ringsL_len L (q + b); omega
  refine exec_loopU (σ := Nat × Mem) (fun (i, _) => [(10, .int .i64 ((i : Int) + 1))]) (fun (_, M) => M) (fun (i, M) => i ≤ 10080 ∧ (∀ x : Int, 1 ≤ x → x ≤ i → ringsL L (q + x) = []) ∧ m2.Grew M) (fun (i, _) => 10080 - i) (0, m2) rfl (by dsimp only; exact ⟨by omega, fun x h1 h2 => by omega, Mem.Grew.refl _⟩) (by simp) ?_
  intro (i, M) ⟨a1, a2, a3⟩
  rcases Nat.lt_or_ge i 10080 with hi | hi
  case inr =>
    have hb : b = 0 ∧ l = [] := by
      cases hN with
      | none => exact ⟨rfl, rfl⟩
      | some b h1 h2 h3 h4 => exact absurd (a2 b h1 (by omega)) h3
    obtain ⟨rfl, rfl⟩ := hb
    simp (disch := omega) [-getElem?_pos, hg1]
  simp (disch := omega) [-getElem?_pos]
  refine lrings_calls ((hP.U.grow e2).grow a3).sl hrt hlen fun v4 m4 e4 e5 e6 => ?_
  have hv4 := e4.ows.sl.lenSl
  rw [rowI_length] at hv4
  have l1 := ringsL_len L (q + ((i : Int) + 1))
  obtain ⟨r, hr⟩ : ∃ r, ringsL L (q + ((i : Int) + 1)) = r := ⟨_, rfl⟩
  rw [hr] at e4 hv4 l1
  by_cases hr0 : r = []
  · subst hr0
    simp (disch := omega) [-getElem?_pos, hv4]
    exact again_mk (i + 1, m4) (by dsimp only; exact ⟨by omega, fun x h1 h2 => by
      by_cases e : x ≤ i
      · exact a2 x h1 e
      · have : x = (i : Int) + 1 := by omega
        rw [this]; exact hr, a3.trans e5⟩) (by dsimp only; omega) (by simp) rfl
  · have hb : b = (i : Int) + 1 ∧ l = r := by
      cases hN with
      | none h => exact absurd (hr ▸ h ((i : Int) + 1) (by omega) (by omega)) hr0
      | some b h1 h2 h3 h4 =>
        have : b = (i : Int) + 1 := by
          rcases Int.lt_trichotomy b ((i : Int) + 1) with w | w | w
          · exact absurd (a2 b h1 (by omega)) h3
          · exact w
          · exact absurd (hr ▸ h4 ((i : Int) + 1) (by omega) w) hr0
        subst this
        exact ⟨rfl, hr⟩
    obtain ⟨rfl, rfl⟩ := hb
    have hpos := List.length_pos_iff.2 hr0
    simp (disch := omega) [-getElem?_pos, hv4]
    refine same_calls ((e1.grow a3).grow e5).ows.sl e4.ows.sl (by omega) (by omega) ?_
    simp (disch := omega) [-getElem?_pos]

theorem between_law (m0 : Mem) (x0 x1 x2 x3 : V) (h0 : IsV m0 shA x0) (h1 : IsV m0 (.int .i32) x1) (h2 : IsV m0 (.int .u8) x2) (h3 : IsV m0 (.int .u8) x3) : ACalls Try.prog 5 [x0, x1, x2, x3] m0 (fun r _ => r = .bool true) := by
  obtain ⟨q, rfl, hq⟩ := h1.int
  have hq := wf_i32 hq
  obtain ⟨a, rfl, ha⟩ := h2.int
  have ha := wf_u8 ha
  obtain ⟨a, rfl⟩ := Int.eq_ofNat_of_zero_le ha.1
  obtain ⟨b, rfl, hb⟩ := h3.int
  have hb := wf_u8 hb
  obtain ⟨b, rfl⟩ := Int.eq_ofNat_of_zero_le hb.1
  refine run_on (ctx_nil _) hm c5 (by simp) fun hf => ?_
  simp (disch := omega) [-getElem?_pos, b5]
  refine fixed_calls fun m00 g00 => ?_
  obtain ⟨es, hv, hml, hes⟩ := h0.slR hf
  replace hv := hv.grow g00
  replace hes : ∀ e ∈ es, Is m00 _ e := fun e he => Is.mono (fun q o ho => by rw [g00.obj q (hf q o ho)]; exact ho) _ _ (hes e he)
  have hv1 := hv.lenSl
  by_cases hl : (60 : Int) < es.length
  · simp (disch := omega) [-getElem?_pos, hv1]
  simp (disch := omega) [-getElem?_pos, hv1]
  refine made_calls hv hes (by omega) fun s L D u m1 hP gM => ?_
  have hlen := hP.W.len
  have hrt := hP.W.rt
  simp (disch := omega) [-getElem?_pos]
  refine exec_loopU (σ := Nat × V × Mem) (fun (i, g, _) => [(13, g), (37, .int .i64 i)]) (fun (_, _, M) => M) (fun (i, g, M) => i ≤ a + b ∧ Exa M 1 g (rowI .i64 (spanL L q i)) ∧ m1.Grew M ∧ ∀ p ∈ g.fp, m1.next ≤ p) (fun (i, _, _) => a + b - i) (0, .sl none 0 (some 0), m1) rfl (by dsimp only; rw [spanL_zero]; exact ⟨by omega, Exa.nil _ _, Mem.Grew.refl _, by simp [V.fp]⟩) (by simp) ?_
  intro (i, g, M) ⟨a1, a2, a3, a4⟩
  by_cases hi : i < a + b
  · simp (disch := omega) [-getElem?_pos]
    refine lrings_calls (hP.U.grow a3).sl hrt hlen fun v4 m4 e4 e5 e6 => ?_
    have k1 := e4.ows.sl.elts
    have l1 := spanL_len L q i
    have l2 := ringsL_len L (q + i)
    have l3 : i * L.length ≤ 510 * 64 := Nat.mul_le_mul (by omega) hlen
    simp (disch := omega) [-getElem?_pos, k1]
    refine (a2.grow e5).app (by rw [rowI_length, rowI_length]; omega) (by rw [rowI_length, rowI_length]; omega) fun u' M' w1 w2 w3 => ?_
    have w2' := (Stp.grow e5 g.fp).trans w2
    rw [rowI_append, ← spanL_succ] at w1
    simp (disch := omega) [-getElem?_pos]
    exact again_mk (i + 1, u', M') (by dsimp only; exact ⟨by omega, w1, w2'.toGrew a3 a4, w2'.ge a3.next a4⟩) (by dsimp only; omega) (by simp) rfl
  have hiN : i = a + b := by omega
  subst hiN
  have hW := hP.W.grow a3
  have l1 := spanL_len L q (a + b)
  have l3 : (a + b) * L.length ≤ 510 * 64 := Nat.mul_le_mul (by omega) hlen
  have l4 := congrArg List.length (spanL_add L q a b)
  rw [List.length_append] at l4
  simp (disch := omega) [-getElem?_pos]
  refine between_calls' hW (a + b) (by omega) (by omega) (by omega) (by omega) fun v1 m2 e1 e2 e3 => ?_
  simp (disch := omega) [-getElem?_pos]
  refine between_calls' (hW.grow e2) a rfl (by omega) (by omega) (by omega) fun v2 m3 f1 f2 f3 => ?_
  simp (disch := omega) [-getElem?_pos]
  refine between_calls' ((hW.grow e2).grow f2) b rfl (by omega) (by omega) (by omega) fun v3 m4 g1 g2 g3 => ?_
  have k1 := g1.ows.sl.elts
  simp (disch := omega) [-getElem?_pos, k1]
  refine (f1.grow g2).app (by rw [rowI_length, rowI_length]; omega) (by rw [rowI_length, rowI_length]; omega) fun v4 m5 w1 w2 w3 => ?_
  rw [rowI_append, spanL_add] at w1
  have gg := (e2.trans f2).trans g2
  have G5 : ∀ p, p < m2.next → m5.obj p = m2.obj p := fun p hp => by
    rw [w2.obj p (by have := f2.next; have := g2.next; omega) (fun h => by have := f3 p h; omega), g2.obj p (by have := f2.next; omega), f2.obj p hp]
  have hn5 : m2.next ≤ m5.next := by have := f2.next; have := g2.next; have := w2.next; omega
  have gA : m2.Grew m5 := ⟨hn5, G5⟩
  have E1 := (e1.grow gA).ows.sl
  have E2 := ((a2.grow e2).grow gA).ows.sl
  simp (disch := omega) [-getElem?_pos]
  refine same_calls E1 E2 (by omega) (by omega) ?_
  simp (disch := omega) [-getElem?_pos]
  refine same_calls w1.ows.sl E2 (by omega) (by omega) ?_
  simp (disch := omega) [-getElem?_pos]
  refine between_calls' ((hW.grow e2).grow gA) 0 (by omega) (by omega) (by omega) (by omega) fun v6 m6 j1 j2 j3 => ?_
  have k2 := j1.ows.sl.lenSl
  rw [rowI_length, spanL_zero] at k2
  simp (disch := omega) [-getElem?_pos, k2]
end Go.Proofs.Ytkalojiddaeekaa
