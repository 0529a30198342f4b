/-
  MERGEROWS, of what the functions of this seat do.
-/
import Derived.Test.YthkopgcdghbjlaaNx
namespace Go.Proofs.Ythkopgcdghbjlaa
open Go Go.AM
set_option linter.unusedVariables false
set_option linter.unusedSimpArgs false
set_option maxRecDepth 60000
set_option maxHeartbeats 8000000

abbrev L8 : List (FuncId × AFn) := [(5, F5)]
theorem x8 : CtxOk Try.prog (Ctx.of L8) := ctx_cons (ctx_nil _) s5

/-- A row kept in order. -/
structure Kept (F : List Ot) (W : List Tg) : Prop where
  perm : W.Perm F.zipIdx
  srt : Srt W
theorem Kept.tag {F : List Ot} {W : List Tg} (h : Kept F W) {y : Tg} (hy : y ∈ W) : y.2 < F.length := by
  have := h.perm.subset hy
  obtain ⟨i, hi⟩ := List.mem_iff_getElem?.1 this
  have hl := (List.getElem?_eq_some_iff.1 hi)
  have hl1 := hl.1
  rw [List.length_zipIdx] at hl1
  have h2 := hl.2
  rw [List.getElem_zipIdx] at h2
  rw [← h2]; simpa using hl1
theorem Kept.put {F : List Ot} {W : List Tg} (h : Kept F W) {x : Ot} {j : Nat} (h1 : ∀ y ∈ (fst W).take j, ¬ ltO x y) (h2 : ∀ y, (fst W)[j]? = some y → ltO x y) : Kept (F ++ [x]) (W.take j ++ (x, F.length) :: W.drop j) := by
  refine ⟨?_, put_srt h.srt (fun y hy => ?_) fun y hy => ?_⟩
  · rw [List.zipIdx_append]
    refine List.perm_middle.trans ?_
    rw [List.take_append_drop]
    refine (List.Perm.cons _ h.perm).trans ?_
    have : [x].zipIdx (0 + F.length) = [(x, F.length)] := by simp
    rw [this]
    exact (List.perm_append_singleton _ _).symm
  · have ht := h.tag (List.mem_of_mem_take hy)
    have := h1 y.1 (by rw [← List.map_take]; exact List.mem_map.2 ⟨y, hy, rfl⟩)
    exact (ltO_T2 (a := y) (b := (x, F.length)) ht).1 this
  · obtain ⟨i, hi, hy2⟩ := mem_drop_ix hy
    have hil := (List.getElem?_eq_some_iff.1 hy2).1
    obtain ⟨z, hz⟩ : ∃ z, W[j]? = some z := ⟨_, List.getElem?_eq_getElem (by omega)⟩
    have hxz : ltT (x, F.length) z := by
      have := h2 z.1 (by rw [List.getElem?_map, hz]; rfl)
      unfold ltO at this; unfold ltT; dsimp only; omega
    rcases Nat.lt_or_ge j i with w | w
    · exact ltT_trans hxz (h.srt.at' w hz hy2)
    · have : i = j := by omega
      subst this; rw [hz] at hy2; injection hy2 with hy2; subst hy2; exact hxz
theorem kept_eq {F : List Ot} {W S : List Tg} (h : Kept F W) (p : S.Perm F.zipIdx) (s : Srt S) : S = W :=
  List.Perm.eq_of_pairwise (le := ltT) (fun a b _ _ h1 h2 => absurd h2 (ltT_asym h1)) s h.srt (p.trans h.perm.symm)

theorem rows_law (m0 : Mem) (x0 : V) (hsz : m0.Fresh → ∃ Ls, Rws m0 x0 Ls ∧ Ls.length ≤ 1048576 ∧ ∀ l ∈ Ls, l.length ≤ 1048576) : ACalls Try.prog 3 [x0] m0 (fun r _ => r = .bool true) := by
  refine run_on x8 hm c3 (by simp) fun hf => ?_
  obtain ⟨Ls, hR, hLn, hLl⟩ := hsz hf
  obtain ⟨es, hv, hvl, hve⟩ := hR.ex
  have hv1 := hv.lenSl
  obtain ⟨N, hN⟩ : ∃ N, Ls.length = N := ⟨_, rfl⟩
  rw [hvl, hN] at hv1
  rw [hN] at hLn
  simp (disch := omega) [-getElem?_pos, b3, F5, hv1]
  refine exec_loopU (σ := Nat × Nat × Bool × V × List Tg × Mem) (fun (i, c, rb, u, _, _) => [(3, .int .i64 c), (4, .bool rb), (5, u), (20, .int .i64 i)]) (fun (_, _, _, _, _, M) => M) (fun (i, c, rb, u, W, M) => i ≤ N ∧ (rb = true ↔ N ≤ 64 ∧ ∀ l ∈ Ls.take i, Adj l) ∧ Kept (flatO (Ls.take i) 0) W ∧ Ows M 3 u ((fst W).map ot) ∧ m0.Grew M ∧ c ≤ 150 ∧ (flatO (Ls.take i) 0).length = c) (fun (i, _, _, _, _, _) => N - i) (0, 0, decide ((N : Int) ≤ 64), .sl none 0 (some 0), [], m0) rfl
    (by dsimp only; exact ⟨by omega, by simp; omega, ⟨List.Perm.refl _, List.Pairwise.nil⟩, Ows.nil _ _, Mem.Grew.refl _, by omega, by simp [flatO]⟩) (by simp) ?_
  intro (i, c0, rb, u, W, M) ⟨a1, a2, a3, a4, a5, a6, hc0⟩
  by_cases hi : i < N
  case neg =>
    have : i = N := by omega
    subst this
    rw [← hN, List.take_length] at a2 a3 hc0
    rw [hN] at a2
    simp (disch := omega) [-getElem?_pos]
    refine rows_calls (hR.grow a5) (by omega) (fun l hl => by have := flatO_mem Ls 0 l hl; omega) (fun m' hng g => ?_) fun g m' S hg p1 p2 p3 gg hge => ?_
    · have hrb : rb = false := by
        cases rb with
        | false => rfl
        | true => exact absurd ⟨by have := (a2.1 rfl).1; omega, (a2.1 rfl).2⟩ hng
      subst hrb
      simp (disch := omega) [-getElem?_pos]
    · have hrb : rb = true := a2.2 ⟨by have := hg.1; omega, hg.2⟩
      subst hrb
      obtain rfl := kept_eq a3 p1 p2
      have hW := a4.grow gg
      have l1 := hW.sl.lenSl
      have l2 := p3.sl.lenSl
      have hSl := p1.length_eq
      rw [List.length_zipIdx] at hSl
      rw [List.length_map, List.length_map] at l1 l2
      obtain ⟨n, hn⟩ : ∃ n, S.length = n := ⟨_, rfl⟩
      rw [hn] at l1 l2 hSl
      simp (disch := omega) [-getElem?_pos, l1, l2]
      refine exec_loopU (σ := Nat) (fun k => [(89, .int .i64 k)]) (fun _ => m') (fun k => k ≤ n) (fun k => n - k) 0 rfl (by omega) (by simp) ?_
      intro k hk
      by_cases hkn : k < n
      · obtain ⟨y, hy⟩ : ∃ y, S[k]? = some y := ⟨_, List.getElem?_eq_getElem (by omega)⟩
        have hy' : (fst S)[k]? = some y.1 := by rw [List.getElem?_map, hy]; rfl
        obtain ⟨p, c, full, rw, z1, z2, z3, z4, _⟩ := hW.sl.at (ot_get hy') .i64
        obtain ⟨p', c', full', rw', y1, y2, y3, y4, _⟩ := p3.sl.at (ot_get hy') .i64
        simp only [ot] at z4 y4
        simp (disch := omega) [-getElem?_pos, z1, z3, z4, y1, y3, y4]
        exact again_mk (k + 1) (by omega) (by omega) (by simp) rfl
      · have : k = n := by omega
        subst this
        simp (disch := omega) [-getElem?_pos]
  obtain ⟨l, hl⟩ : ∃ l, Ls[i]? = some l := ⟨_, List.getElem?_eq_getElem (by omega)⟩
  obtain ⟨w, hw1, hw2⟩ := hve i l hl
  obtain ⟨p, q, full, rw, z1, z2, z3, z4, _⟩ := (hv.grow a5).at hw1 .i64
  have hwl := hw2.lenSl
  rw [rowP_length] at hwl
  have hll := hLl l (mem_of_idx hl)
  obtain ⟨n, hn⟩ : ∃ n, l.length = n := ⟨_, rfl⟩
  rw [hn] at hwl hll
  have hft := flatO_take hl
  have hrl : (rowO l i).length = n := by unfold rowO; rw [List.length_map, hn]
  obtain ⟨c1, hc1⟩ : ∃ c1, (flatO (Ls.take (i + 1)) 0).length = c1 := ⟨_, rfl⟩
  have hcc : c0 + n = c1 := by rw [← hc1, hft, List.length_append, hc0, hrl]
  have hci : (c0 : Int) + n = (c1 : Int) := by omega
  by_cases hbig : 150 < c1
  · simp (disch := omega) [-getElem?_pos, z1, z3, z4, hwl, hci]
  simp (disch := omega) [-getElem?_pos, z1, z3, z4, hwl, hci]
  refine exec_loopU (σ := Nat × Bool × V × List Tg × Mem) (fun (k, rb', u', _, _) => [(4, .bool rb'), (5, u'), (33, .int .i64 k)]) (fun (_, _, _, _, M) => M) (fun (k, rb', u', W', M') => k ≤ n ∧ (rb' = true ↔ (N ≤ 64 ∧ ∀ l ∈ Ls.take i, Adj l) ∧ ∀ j, j + 1 < k → (nthP l j).1 ≤ (nthP l (j + 1)).1) ∧ Kept (flatO (Ls.take i) 0 ++ (rowO l i).take k) W' ∧ Ows M' 3 u' ((fst W').map ot) ∧ m0.Grew M') (fun (k, _, _, _, _) => n - k) (0, rb, u, W, M) rfl
    (by dsimp only; exact ⟨by omega, by rw [a2]; simp, by simpa using a3, a4, a5⟩) (by simp) ?_
  intro (k, rb', u', W', M') ⟨b1, b2, b3, b4, b5⟩
  by_cases hk : k < n
  case neg =>
    have : k = n := by omega
    subst this
    rw [← hrl, List.take_length, ← hft] at b3
    simp (disch := omega) [-getElem?_pos]
    exact again_mk (i + 1, c1, rb', u', W', M') (by
      dsimp only
      refine ⟨by omega, ?_, b3, b4, b5, by omega, hc1⟩
      rw [b2, takeS hl]
      constructor
      · rintro ⟨⟨h1, h2⟩, h3⟩
        refine ⟨h1, fun l' hl' => ?_⟩
        rcases List.mem_append.1 hl' with hl' | hl'
        · exact h2 l' hl'
        · simp only [List.mem_singleton] at hl'; subst hl'; exact fun j hj => h3 j (by omega)
      · rintro ⟨h1, h2⟩
        exact ⟨⟨h1, fun l' hl' => h2 l' (List.mem_append.2 (.inl hl'))⟩, fun j hj => h2 l (by simp) j (by omega)⟩) (by dsimp only; omega) (by simp) rfl
  obtain ⟨p, q, full, rw, z1, z2, z3, z4, _⟩ := (hw2.grow b5).at (rowP_get (l := l) (i := k) (by omega)) .i64
  have hx : (rowO l i)[k]? = some ((nthP l k).1, (nthP l k).2, (i : Int)) := by unfold rowO; rw [List.getElem?_map, nthP_get (by omega)]; rfl
  have hWl : (fst W').length ≤ 150 := by
    have := b3.perm.length_eq
    rw [List.length_zipIdx, List.length_append, List.length_take] at this
    rw [List.length_map]; omega
  have g1 := Mem.Grew.new M' (.row 2 [[.int .i64 (nthP l k).1, .int .i64 (nthP l k).2]] true)
  have fin : ∀ {M1 : Mem} {KK : KV}, M'.Grew M1 → (∀ u2 W2 M2, Kept (flatO (Ls.take i) 0 ++ (rowO l i).take (k + 1)) W2 → Ows M2 3 u2 ((fst W2).map ot) → m0.Grew M2 → KK u2 M2) → ACalls Try.prog 6 [u', .agg (ot ((nthP l k).1, (nthP l k).2, (i : Int)))] M1 KK := by
    intro M1 KK g hK
    refine put_calls (b4.grow g) (by omega) fun M2 u2 j hj q1 q2 q3 q4 q5 => ?_
    have hkp := b3.put q1 q2
    refine hK u2 _ M2 (by rw [takeS hx, ← List.append_assoc]; exact hkp) ?_ ((b5.trans g).trans q4)
    have := q3.ows
    simpa using this
  have nxt : ∀ (rc : Bool), (rc = true ↔ (0 < k → (nthP l (k - 1)).1 ≤ (nthP l k).1)) → ∀ r2, r2 = (rb' && rc) → (r2 = true ↔ (N ≤ 64 ∧ ∀ l ∈ Ls.take i, Adj l) ∧ ∀ j, j + 1 < k + 1 → (nthP l j).1 ≤ (nthP l (j + 1)).1) := fun rc h1 r2 h2 => by
    rw [h2, Bool.and_eq_true, b2, h1]
    constructor
    · rintro ⟨⟨q1, q2⟩, q3⟩
      refine ⟨q1, fun j hj => ?_⟩
      rcases Nat.lt_or_ge (j + 1) k with w | w
      · exact q2 j w
      · have e : j = k - 1 := by omega
        have e2 : j + 1 = k := by omega
        rw [e2, e]; exact q3 (by omega)
    · rintro ⟨q1, q2⟩
      refine ⟨⟨q1, fun j hj => q2 j (by omega)⟩, fun hk0 => ?_⟩
      have := q2 (k - 1) (by omega)
      rwa [show k - 1 + 1 = k by omega] at this
  by_cases hk0 : k = 0
  · cases rb' with
    | false =>
      simp (disch := omega) [-getElem?_pos, z1, z3, z4]
      refine out7 fun M2 g2 => ?_
      simp (disch := omega) [-getElem?_pos]
      refine fin (g1.trans g2) fun u2 W2 M3 q1 q2 q3 => ?_
      simp (disch := omega) [-getElem?_pos]
      exact again_mk (k + 1, false, u2, W2, M3) (by dsimp only; exact ⟨by omega, nxt true (⟨fun _ h => by omega, fun _ => rfl⟩) _ (by simp), q1, q2, q3⟩) (by dsimp only; omega) (by simp) rfl
    | true =>
      simp (disch := omega) [-getElem?_pos, z1, z3, z4]
      refine out7 fun M2 g2 => ?_
      simp (disch := omega) [-getElem?_pos]
      refine fin (g1.trans g2) fun u2 W2 M3 q1 q2 q3 => ?_
      simp (disch := omega) [-getElem?_pos]
      exact again_mk (k + 1, true, u2, W2, M3) (by dsimp only; exact ⟨by omega, nxt true (⟨fun _ h => by omega, fun _ => rfl⟩) _ (by simp), q1, q2, q3⟩) (by dsimp only; omega) (by simp) rfl
  obtain ⟨k1, hk1⟩ : ∃ k1, k - 1 = k1 := ⟨_, rfl⟩
  have hki : (k : Int) - 1 = (k1 : Int) := by omega
  obtain ⟨p', q', full', rw', y1, y2, y3, y4, _⟩ := (hw2.grow (b5.trans g1)).at (rowP_get (l := l) (i := k1) (by omega)) .i64
  obtain ⟨p'', q'', full'', rw'', v1, v2, v3, v4, _⟩ := (hw2.grow b5).at (rowP_get (l := l) (i := k1) (by omega)) .i64
  by_cases hle : (nthP l k1).1 ≤ (nthP l k).1
  · cases rb' with
    | false =>
      simp (disch := omega) [-getElem?_pos, z1, z3, z4]
      refine out7 fun M2 g2 => ?_
      simp (disch := omega) [-getElem?_pos]
      refine fin (g1.trans g2) fun u2 W2 M3 q1 q2 q3 => ?_
      simp (disch := omega) [-getElem?_pos]
      exact again_mk (k + 1, false, u2, W2, M3) (by dsimp only; exact ⟨by omega, nxt true (⟨fun _ _ => by rw [hk1]; exact hle, fun _ => rfl⟩) _ (by simp), q1, q2, q3⟩) (by dsimp only; omega) (by simp) rfl
    | true =>
      simp (disch := omega) [-getElem?_pos, z1, z3, z4, hki, v1, v3, v4]
      refine out7 fun M2 g2 => ?_
      simp (disch := omega) [-getElem?_pos]
      refine fin (g1.trans g2) fun u2 W2 M3 q1 q2 q3 => ?_
      simp (disch := omega) [-getElem?_pos]
      exact again_mk (k + 1, true, u2, W2, M3) (by dsimp only; exact ⟨by omega, nxt true (⟨fun _ _ => by rw [hk1]; exact hle, fun _ => rfl⟩) _ (by simp), q1, q2, q3⟩) (by dsimp only; omega) (by simp) rfl
  · cases rb' with
    | false =>
      simp (disch := omega) [-getElem?_pos, z1, z3, z4]
      refine out7 fun M2 g2 => ?_
      simp (disch := omega) [-getElem?_pos]
      refine fin (g1.trans g2) fun u2 W2 M3 q1 q2 q3 => ?_
      simp (disch := omega) [-getElem?_pos]
      exact again_mk (k + 1, false, u2, W2, M3) (by dsimp only; exact ⟨by omega, nxt false (⟨fun h => (by cases h), fun h => absurd (h (by omega)) (by rw [hk1]; exact hle)⟩) _ (by simp), q1, q2, q3⟩) (by dsimp only; omega) (by simp) rfl
    | true =>
      simp (disch := omega) [-getElem?_pos, z1, z3, z4, hki, v1, v3, v4]
      refine out7 fun M2 g2 => ?_
      simp (disch := omega) [-getElem?_pos]
      refine fin (g1.trans g2) fun u2 W2 M3 q1 q2 q3 => ?_
      simp (disch := omega) [-getElem?_pos]
      exact again_mk (k + 1, false, u2, W2, M3) (by dsimp only; exact ⟨by omega, nxt false (⟨fun h => (by cases h), fun h => absurd (h (by omega)) (by rw [hk1]; exact hle)⟩) _ (by simp), q1, q2, q3⟩) (by dsimp only; omega) (by simp) rfl
/-- The law, of arguments of a bulk. -/
theorem rows_lawK (m0 : Mem) (x0 : V) (b : Nat) (h0 : IsVK m0 shR x0 b) (hb : b ≤ 1048576) : ACalls Try.prog 3 [x0] m0 (fun r _ => r = .bool true) :=
  rows_law m0 x0 fun hf => by
    obtain ⟨Ls, h1, h2⟩ := rws_ofK hf h0
    exact ⟨Ls, h1, by omega, fun l hl => by have := flatO_mem Ls 0 l hl; omega⟩
end Go.Proofs.Ythkopgcdghbjlaa
