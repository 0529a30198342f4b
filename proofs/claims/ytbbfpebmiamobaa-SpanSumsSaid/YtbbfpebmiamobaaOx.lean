/-
  SPANSETS, of what the functions of this seat do.
-/
import Derived.Test.YtbbfpebmiamobaaNx
namespace Go.Proofs.Ytbbfpebmiamobaa
open Go Go.AM
set_option linter.unusedVariables false
set_option linter.unusedSimpArgs false
set_option maxRecDepth 60000
set_option maxHeartbeats 4000000

/-- The least one so far. -/
structure Wn (P : Int → Bool) (t : Int) (Z : List Int) (w : Int) (s : Bool) : Prop where
  no : s = false → w = 0 ∧ ∀ x ∈ Z, t ≤ x → P x = false
  yes : s = true → t ≤ w ∧ P w = true ∧ ∀ x ∈ Z, t ≤ x → P x = true → w ≤ x
theorem Wn.nil (P : Int → Bool) (t : Int) : Wn P t [] 0 false := ⟨fun _ => ⟨rfl, by simp⟩, fun h => by cases h⟩
theorem Wn.skip {P : Int → Bool} {t : Int} {Z : List Int} {w : Int} {s : Bool} (h : Wn P t Z w s) {x : Int} (hx : ¬ (t ≤ x ∧ P x = true ∧ (s = false ∨ x < w))) : Wn P t (Z ++ [x]) w s := by
  refine ⟨fun e => ⟨(h.no e).1, fun y hy ht => ?_⟩, fun e => ⟨(h.yes e).1, (h.yes e).2.1, fun y hy ht hP => ?_⟩⟩
  · rcases List.mem_append.1 hy with q | q
    · exact (h.no e).2 y q ht
    · rw [List.mem_singleton.1 q] at ht ⊢
      rw [← Bool.not_eq_true]; exact fun hP => hx ⟨ht, hP, .inl e⟩
  · rcases List.mem_append.1 hy with q | q
    · exact (h.yes e).2.2 y q ht hP
    · rw [List.mem_singleton.1 q] at ht hP ⊢
      have : ¬ x < w := fun hl => hx ⟨ht, hP, .inr hl⟩
      omega
theorem Wn.take {P : Int → Bool} {t : Int} {Z : List Int} {w : Int} {s : Bool} (h : Wn P t Z w s) {x : Int} (h1 : t ≤ x) (h2 : P x = true) (h3 : s = false ∨ x < w) : Wn P t (Z ++ [x]) x true := by
  refine ⟨(fun e => by cases e), fun _ => ⟨h1, h2, fun y hy ht hP => ?_⟩⟩
  rcases List.mem_append.1 hy with q | q
  · cases s with
    | false => have := (h.no rfl).2 y q ht; rw [this] at hP; cases hP
    | true =>
      have := (h.yes rfl).2.2 y q ht hP
      rcases h3 with e | e
      · cases e
      · omega
  · rw [List.mem_singleton.1 q]; exact Int.le_refl _
theorem next_eq {l : List Sp} {t n w : Int} {ok s : Bool} {Z : List Int} (hn : Nx (Inn l) t n ok) (hw : Wn (Inn l) t Z w s) (hZ : ∀ x ∈ l, x.1 ∈ Z) (ht : t ∈ Z) : ok = s ∧ n = w := by
  cases ok with
  | true =>
    obtain ⟨h1, h2, h3⟩ := hn.yes rfl
    have hmem : n ∈ Z := by
      by_cases q : n = t
      · rw [q]; exact ht
      · have := h3 (n - 1) (by omega) (by omega)
        obtain ⟨x, hx, hr, a1, a2⟩ := inn_iff.1 h2
        have : ¬ (x.1 ≤ n - 1) := fun q1 => by
          have : Inn l (n - 1) = true := inn_iff.2 ⟨x, hx, hr, q1, by omega⟩
          rw [h3 (n - 1) (by omega) (by omega)] at this; cases this
        have e : x.1 = n := by omega
        rw [← e]; exact hZ x hx
    cases s with
    | false => have := (hw.no rfl).2 n hmem h1; rw [h2] at this; cases this
    | true =>
      obtain ⟨b1, b2, b3⟩ := hw.yes rfl
      have c1 := b3 n hmem h1 h2
      refine ⟨rfl, ?_⟩
      rcases Int.lt_or_le w n with q | q
      · rw [h3 w b1 q] at b2; cases b2
      · omega
  | false =>
    obtain ⟨h1, h2⟩ := hn.no rfl
    cases s with
    | false => exact ⟨rfl, by rw [h1, (hw.no rfl).1]⟩
    | true =>
      obtain ⟨b1, b2, b3⟩ := hw.yes rfl
      rw [h2 w b1] at b2; cases b2

theorem nthI_take {Z : List Int} {i : Nat} (h : i < Z.length) : Z.take (i + 1) = Z.take i ++ [nth Z i] := by
  rw [List.take_add_one, nth_get h]; rfl

theorem sets (m0 : Mem) (x0 x1' : V) (h0 : IsV m0 (.slice 2 (.struct [.int .i64, .int .i64])) x0) (h1 : IsV m0 (.int .i64) x1') : ACalls Try.prog 3 [x0, x1'] m0 (fun r _ => r = .bool true) := by
  obtain ⟨t, rfl, hwt⟩ := h1.int
  refine run_on x1 hm c3 (by simp) fun hf => ?_
  obtain ⟨l, ha, hla, _⟩ := h0.slP hf
  have hml : maxLen ≤ 9223372036854775807 := by decide
  simp (disch := omega) [-getElem?_pos, b3, F7]
  refine few8 ha (by omega) (fun m1 g1 => ?_) (fun m1 fa g1 => ?_)
  · simp (disch := omega) [-getElem?_pos]
  have la4 := fa.len
  replace ha := ha.grow g1
  by_cases ht1 : t < -2305843009213693952
  · simp (disch := omega) [-getElem?_pos]
  by_cases ht2 : 2305843009213693952 < t
  · simp (disch := omega) [-getElem?_pos]
  simp (disch := omega) [-getElem?_pos]
  refine of_calls ha (by omega) fun s m2 A sA iA lA g2 hs => ?_
  replace ha := ha.grow g2
  have ea : Inn A = Inn l := funext iA
  simp (disch := omega) [-getElem?_pos]
  refine right10 hs (by omega) fun b m3 hb g3 => ?_
  have := hb.2 sA
  subst this
  replace ha := ha.grow g3
  replace hs := hs.grow g3
  obtain ⟨N, hN, hs1⟩ := lenP hs
  simp (disch := omega) [-getElem?_pos, hs1]
  refine exec_loopU (σ := Nat × Mem) (fun (i, _) => [(36, .int .i64 i)]) (fun (_, M) => M) (fun (i, M) => i ≤ N ∧ m3.Grew M) (fun (i, _) => N - i) (0, m3) rfl
    (by dsimp only; exact ⟨by omega, Mem.Grew.refl m3⟩) (by simp) ?_
  intro (i, M) ⟨a1, a2⟩
  by_cases hi : i < N
  · obtain ⟨p, q, full, rw, z1, z2, z3, z4⟩ := atP (hs.grow a2) (y := i) (by omega)
    have gN := Mem.Grew.new M (.row 2 [[.int .i64 (nthP A i).1, .int .i64 (nthP A i).2]] true)
    have hr := (sA.rt _ (nthP_mem (l := A) (i := i) (by omega))).2.2
    by_cases hi0 : i = 0
    · simp (disch := omega) [-getElem?_pos, z1, z3, z4]
      exact again_mk (i + 1, _) (by dsimp only; exact ⟨by omega, a2.trans gN⟩) (by dsimp only; omega) (by simp) rfl
    · obtain ⟨k, hk⟩ : ∃ k, i = k + 1 := ⟨i - 1, by omega⟩
      obtain ⟨p', q', full', rw', y1, y2, y3, y4⟩ := atP (hs.grow a2) (y := k) (by omega)
      have ek : (i : Int) - 1 = (k : Int) := by omega
      have hg := sA.gapAt (i := k) (j := i) (by omega) (by omega)
      simp (disch := omega) [-getElem?_pos, z1, z3, z4, ek, y1, y3, y4]
      exact again_mk (i + 1, _) (by dsimp only; exact ⟨by omega, a2.trans gN⟩) (by dsimp only; omega) (by simp) rfl
  have : i = N := by omega
  subst this
  clear hi a1
  replace ha := ha.grow a2
  replace hs := hs.grow a2
  have oka := ha.okc
  have oks := hs.okc
  have csa := ha.cs
  have css := hs.cs
  have er : ∀ a b : V, (List.range 2).map (fun i => ([a, b].drop i).take 1) = rowV [(a, l), (b, A)] := fun _ _ => rfl
  simp (disch := omega) [-getElem?_pos, oka, oks, csa, css]
  rw [er]
  have gN := Mem.Grew.new M (.row 1 (rowV [(x0, l), (s, A)]) true)
  have hrow : Sl (M.new (.row 1 (rowV [(x0, l), (s, A)]) true)) 1 (.sl (some (M.next, 0, 1)) 2 (some 2)) (rowV [(x0, l), (s, A)]) := (Exa.lit rfl).ows.sl
  refine times_calls hrow (by simp) (fun r hr => ?_) fun vt m4 Z hZ lZ g4 fp4 hz => ?_
  · simp only [List.mem_cons, List.not_mem_nil, or_false] at hr
    rcases hr with rfl | rfl
    · exact ⟨ha.grow gN, by dsimp only; omega, fa.near⟩
    · exact ⟨hs.grow gN, by dsimp only; omega, sA.near⟩
  have gT := Mem.Grew.new m4 (.row 1 (rowI .i64 [t]) true)
  simp (disch := omega) [-getElem?_pos, eltsOf, Mem.elts]
  refine (hz.grow gT).app (new := rowI .i64 [t]) (by rw [rowI_length, rowI_length]; show (Z.length + 1) * 8 ≤ _; omega) (by rw [rowI_length, rowI_length]; show Z.length + 1 ≤ _; omega) fun v5 m5 w1 w2 w3 => ?_
  rw [rowI_append] at w1
  have gz := gN.trans (w2.toGrew (g4.trans gT) fp4)
  replace ha := ha.grow gz
  replace hs := hs.grow gz
  clear hZ
  obtain ⟨N2, hN2, hw1⟩ := len1 w1.ows.sl
  have hNN : N2 ≤ 30001 := by rw [List.length_append] at hN2; simp at hN2; omega
  simp (disch := omega) [-getElem?_pos, hw1]
  refine exec_loopU (σ := Nat × Mem) (fun (i, _) => [(70, .int .i64 i)]) (fun (_, M) => M) (fun (i, M) => i ≤ N2 ∧ m5.Grew M) (fun (i, _) => N2 - i) (0, m5) rfl
    (by dsimp only; exact ⟨by omega, Mem.Grew.refl m5⟩) (by simp) ?_
  clear hw1
  intro (k, M2) ⟨c1, c2⟩
  by_cases hk : k < N2
  · obtain ⟨p, q, full, rw, z1, z2, z3, z4⟩ := at1 (w1.ows.sl.grow c2) (y := k) (by omega)
    obtain ⟨y, hy⟩ : ∃ y, nth (Z ++ [t]) k = y := ⟨_, rfl⟩
    rw [hy] at z4
    have iy := iA y
    simp (disch := omega) [-getElem?_pos, z1, z3, z4]
    refine has_calls (hs.grow c2) (by omega) fun M3 k3 => ?_
    have q3 := c2.trans k3
    simp (disch := omega) [-getElem?_pos]
    refine in13 (ha.grow q3) (by omega) fun M4 k4 => ?_
    have q4 := q3.trans k4
    rw [iy]
    obtain ⟨b, hb⟩ : ∃ b, Inn l y = b := ⟨_, rfl⟩
    rw [hb] at iy ⊢
    have step : ∀ {K : KV}, (∀ M', m5.Grew M' → K (.bool b) M') → ACalls Try.prog 13 [s, .int .i64 y] M4 K := fun k => in13 (hs.grow q4) (by omega) fun M5 k5 => by rw [iy]; exact k _ (q4.trans k5)
    simp (disch := omega) [-getElem?_pos]
    refine step fun M5 q5 => ?_
    simp (disch := omega) [-getElem?_pos]
    refine in13 (ha.grow q5) (by omega) fun M6 k6 => ?_
    have q6 := q5.trans k6
    rw [hb]
    simp (disch := omega) [-getElem?_pos]
    exact again_mk (k + 1, M6) (by dsimp only; exact ⟨by omega, q6⟩) (by dsimp only; omega) (by simp) rfl
  have : k = N2 := by omega
  subst this
  clear hk c1
  replace ha := ha.grow c2
  replace hs := hs.grow c2
  simp (disch := omega) [-getElem?_pos]
  refine next_calls hs (by omega) fun n ok m6 nx g6 => ?_
  rw [ea] at nx
  replace ha := ha.grow g6
  clear hs w1 w2 w3 fp4 hz gz hrow
  simp (disch := omega) [-getElem?_pos, oka, csa]
  rw [show [[x0]] = rowV [(x0, l)] from rfl]
  have gN := Mem.Grew.new m6 (.row 1 (rowV [(x0, l)]) true)
  have hrow : Sl (m6.new (.row 1 (rowV [(x0, l)]) true)) 1 (.sl (some (m6.next, 0, 1)) 1 (some 1)) (rowV [(x0, l)]) := (Exa.lit rfl).ows.sl
  refine times_calls hrow (by simp) (fun r hr => ?_) fun vt2 m7 Z2 hZ2 lZ2 g7 fp7 hz2 => ?_
  · simp only [List.mem_cons, List.not_mem_nil, or_false] at hr
    subst hr
    exact ⟨ha.grow gN, by dsimp only; omega, fa.near⟩
  have hZ3 : ∀ x ∈ l, x.1 ∈ Z2 ++ [t] := fun x hx => List.mem_append_left _ (hZ2 (x0, l) (by simp) x hx)
  have gT := Mem.Grew.new m7 (.row 1 (rowI .i64 [t]) true)
  simp (disch := omega) [-getElem?_pos, eltsOf, Mem.elts]
  refine (hz2.grow gT).app (new := rowI .i64 [t]) (by rw [rowI_length, rowI_length]; show (Z2.length + 1) * 8 ≤ _; omega) (by rw [rowI_length, rowI_length]; show Z2.length + 1 ≤ _; omega) fun v8 m8 w1 w2 w3 => ?_
  rw [rowI_append] at w1
  have gz := gN.trans (w2.toGrew (g7.trans gT) fp7)
  replace ha := ha.grow gz
  have hend := fun w s => next_eq (l := l) (t := t) (n := n) (w := w) (ok := ok) (s := s) nx (Z := Z2 ++ [t])
  clear hZ2
  obtain ⟨N3, hN3, hw1⟩ := len1 w1.ows.sl
  have hNN3 : N3 ≤ 30001 := by rw [List.length_append] at hN3; simp at hN3; omega
  simp (disch := omega) [-getElem?_pos, hw1]
  refine exec_loopU (σ := Nat × Int × Bool × Mem) (fun (i, w, s, _) => [(12, .int .i64 w), (13, .bool s), (104, .int .i64 i)]) (fun (_, _, _, M) => M) (fun (i, w, s, M) => i ≤ N3 ∧ m8.Grew M ∧ Wn (Inn l) t ((Z2 ++ [t]).take i) w s) (fun (i, _, _, _) => N3 - i) (0, 0, false, m8) rfl
    (by dsimp only; exact ⟨by omega, Mem.Grew.refl m8, Wn.nil _ _⟩) (by simp) ?_
  clear hw1
  intro (j, w, s2, M7) ⟨d1, d2, d3⟩
  by_cases hj : j < N3
  · obtain ⟨p, q, full, rw, z1, z2, z3, z4⟩ := at1 (w1.ows.sl.grow d2) (y := j) (by omega)
    have e3 := nthI_take (Z := Z2 ++ [t]) (i := j) (by omega)
    obtain ⟨y, hy⟩ : ∃ y, nth (Z2 ++ [t]) j = y := ⟨_, rfl⟩
    rw [hy] at z4 e3
    have skip := d3.skip (x := y)
    have take := d3.take (x := y)
    by_cases hty : t ≤ y
    · simp (disch := omega) [-getElem?_pos, z1, z3, z4]
      refine in13 (ha.grow d2) (by omega) fun M8 k8 => ?_
      have q8 := d2.trans k8
      obtain ⟨b, hb⟩ : ∃ b, Inn l y = b := ⟨_, rfl⟩
      rw [hb] at skip take ⊢
      cases b with
      | false =>
        simp (disch := omega) [-getElem?_pos]
        exact again_mk (j + 1, w, s2, M8) (by dsimp only; exact ⟨by omega, q8, by rw [e3]; exact skip (by simp)⟩) (by dsimp only; omega) (by simp) rfl
      | true =>
        cases s2 with
        | false =>
          simp (disch := omega) [-getElem?_pos]
          exact again_mk (j + 1, y, true, M8) (by dsimp only; exact ⟨by omega, q8, by rw [e3]; exact take hty rfl (.inl rfl)⟩) (by dsimp only; omega) (by simp) rfl
        | true =>
          by_cases hyw : y < w
          · simp (disch := omega) [-getElem?_pos]
            exact again_mk (j + 1, y, true, M8) (by dsimp only; exact ⟨by omega, q8, by rw [e3]; exact take hty rfl (.inr hyw)⟩) (by dsimp only; omega) (by simp) rfl
          · simp (disch := omega) [-getElem?_pos]
            exact again_mk (j + 1, w, true, M8) (by dsimp only; exact ⟨by omega, q8, by rw [e3]; exact skip (by simp; omega)⟩) (by dsimp only; omega) (by simp) rfl
    · simp (disch := omega) [-getElem?_pos, z1, z3, z4]
      exact again_mk (j + 1, w, s2, M7) (by dsimp only; exact ⟨by omega, d2, by rw [e3]; exact skip (fun h => hty h.1)⟩) (by dsimp only; omega) (by simp) rfl
  · have : j = N3 := by omega
    subst this
    rw [← hN3, List.take_length] at d3
    obtain ⟨rfl, rfl⟩ := hend w s2 d3 hZ3 (by simp)
    simp (disch := omega) [-getElem?_pos]
end Go.Proofs.Ytbbfpebmiamobaa
