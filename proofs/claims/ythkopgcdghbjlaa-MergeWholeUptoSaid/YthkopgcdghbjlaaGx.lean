/-
  THE STABLE ORDER: each with the place where it came; a run sorted by putting in.
-/
import Derived.Test.YthkopgcdghbjlaaFx
namespace Go.Proofs.Ythkopgcdghbjlaa
open Go Go.AM
set_option linter.unusedVariables false
set_option linter.unusedSimpArgs false
set_option maxRecDepth 60000
set_option maxHeartbeats 4000000

abbrev Tg := Ot × Nat
def ltT (a b : Tg) : Prop := a.1.1 < b.1.1 ∨ (a.1.1 = b.1.1 ∧ (a.1.2.2 < b.1.2.2 ∨ (a.1.2.2 = b.1.2.2 ∧ a.2 < b.2)))
theorem ltT_trans {a b c : Tg} (h1 : ltT a b) (h2 : ltT b c) : ltT a c := by unfold ltT at *; omega
theorem ltT_asym {a b : Tg} (h1 : ltT a b) : ¬ ltT b a := by unfold ltT at *; omega
theorem ltT_or {a b : Tg} (h : a.2 ≠ b.2) : ltT a b ∨ ltT b a := by unfold ltT; omega
/-- Of one that came earlier. -/
theorem ltO_T {a b : Tg} (h : a.2 < b.2) : ltO b.1 a.1 ↔ ltT b a := by unfold ltO ltT; omega
theorem ltO_T2 {a b : Tg} (h : a.2 < b.2) : ¬ ltO b.1 a.1 ↔ ltT a b := by unfold ltO ltT; omega
abbrev fst (T : List Tg) : List Ot := T.map (·.1)
abbrev Srt (T : List Tg) : Prop := T.Pairwise ltT
/-- All of one came ahead of all of another. -/
def Ahd (A B : List Tg) : Prop := ∀ a ∈ A, ∀ b ∈ B, a.2 < b.2

theorem insertion_calls {m : Mem} {v : V} {P S Q : List Tg} (h : Ows m 3 v ((fst (P ++ S ++ Q)).map ot)) (hl : (P ++ S ++ Q).length ≤ 4000000) {a b : Nat} (ha : a = P.length) (hb : b = P.length + S.length) (hS : S.Pairwise fun x y => x.2 < y.2) {K : KV}
    (hk : ∀ m' S', S'.Perm S → Srt S' → Ows m' 3 v ((fst (P ++ S' ++ Q)).map ot) → Stp m m' v.fp v.fp → K (.tup []) m') : ACalls Try.prog 30 [v, .int .i64 a, .int .i64 b, .fn 19 [] []] m K := by
  refine run_on (ctx_nil _) hm c30 (by simp) fun hf => ?_
  simp only [List.length_append] at hl
  simp (disch := omega) [-getElem?_pos, b30]
  by_cases h0 : S = []
  · subst h0
    refine exec_loopU (σ := Unit) (fun _ => []) (fun _ => m) (fun _ => True) (fun _ => 0) () rfl trivial (by simp) ?_
    intro _ _
    simp only [List.length_nil, Nat.add_zero] at hb
    simp (disch := omega) [-getElem?_pos]
    exact hk _ [] (List.Perm.refl _) List.Pairwise.nil h (Stp.refl _ _)
  have hSl := List.length_pos_iff.2 h0
  refine exec_loopU (σ := Nat × List Tg × Mem) (fun (i, _, _) => [(8, .int .i64 ((a : Int) + i))]) (fun (_, _, M) => M) (fun (i, S1, M) => 1 ≤ i ∧ i ≤ S.length ∧ S1.Perm (S.take i) ∧ Srt S1 ∧ Ows M 3 v ((fst (P ++ S1 ++ S.drop i ++ Q)).map ot) ∧ Stp m M v.fp v.fp) (fun (i, _, _) => S.length - i) (1, S.take 1, m) rfl
    (by
      dsimp only
      have e : P ++ S.take 1 ++ S.drop 1 ++ Q = P ++ S ++ Q := by rw [List.append_assoc P, List.take_append_drop]
      refine ⟨by omega, by omega, List.Perm.refl _, ?_, by rw [e]; exact h, Stp.refl _ _⟩
      have : (S.take 1).length ≤ 1 := by rw [List.length_take]; omega
      cases hh : S.take 1 with
      | nil => exact List.Pairwise.nil
      | cons x L =>
        rw [hh] at this
        have : L = [] := by simpa using this
        subst this; simp) (by simp) ?_
  intro (i, S1, M) ⟨a1, a2, a3, a4, a5, a6⟩
  have hS1 := a3.length_eq
  rw [List.length_take, Nat.min_eq_left a2] at hS1
  by_cases hi : i < S.length
  case neg =>
    have hie : i = S.length := by omega
    rw [hie, List.take_length] at a3
    rw [hie, List.drop_length, List.append_nil] at a5
    simp (disch := omega) [-getElem?_pos]
    exact hk _ S1 a3 a4 a5 a6
  obtain ⟨x, hx⟩ : ∃ x, S[i]? = some x := ⟨_, List.getElem?_eq_getElem (by omega)⟩
  have hD : S.drop i = x :: S.drop (i + 1) := by rw [List.drop_eq_getElem_cons (by omega)]; congr 1; exact (List.getElem?_eq_some_iff.1 hx).2
  have htag : ∀ y ∈ S1, y.2 < x.2 := fun y hy => by
    have hy2 := a3.subset hy
    obtain ⟨k, hk⟩ := List.mem_iff_getElem?.1 hy2
    rw [List.getElem?_take] at hk
    split at hk
    · rename_i hki
      have h1 := List.getElem?_eq_some_iff.1 hk
      have h2 := List.getElem?_eq_some_iff.1 hx
      have := List.pairwise_iff_getElem.1 hS k i h1.1 h2.1 hki
      rw [h1.2, h2.2] at this; exact this
    · cases hk
  simp (disch := omega) [-getElem?_pos]
  refine exec_loopU (σ := Nat × List Tg × List Tg × Mem) (fun (j, _, _, _) => [(9, .int .i64 ((a : Int) + j))]) (fun (_, _, _, M) => M) (fun (j, U, W, M) => U.length = j ∧ S1 = U ++ W ∧ (∀ y ∈ W, ltT x y) ∧ Ows M 3 v ((fst (P ++ U ++ x :: W ++ S.drop (i + 1) ++ Q)).map ot) ∧ Stp m M v.fp v.fp) (fun (j, _, _, _) => j) (i, S1, [], M) rfl
    (by dsimp only; exact ⟨hS1, by simp, by simp, by rw [hD] at a5; simpa using a5, a6⟩) (by simp) ?_
  intro (j, U, W, M1) ⟨c1, c2, c3, c4, c5⟩
  have hUW : U.length + W.length = i := by rw [← hS1, c2, List.length_append]
  have fin : ∀ M2, M1.Grew M2 → (∀ y ∈ U, ltT y x) → 1 ≤ i + 1 ∧ i + 1 ≤ S.length ∧ (U ++ x :: W).Perm (S.take (i + 1)) ∧ Srt (U ++ x :: W) ∧ Ows M2 3 v ((fst (P ++ (U ++ x :: W) ++ S.drop (i + 1) ++ Q)).map ot) ∧ Stp m M2 v.fp v.fp := fun M2 g hU => by
    refine ⟨by omega, by omega, ?_, ?_, by simpa using c4.grow g, c5.trans (Stp.grow g _)⟩
    · rw [takeS hx]
      refine List.perm_middle.trans ?_
      rw [← c2]
      exact (List.Perm.cons x a3).trans (List.perm_append_singleton x _).symm
    · have hs : List.Pairwise ltT (U ++ W) := by rw [← c2]; exact a4
      rw [List.pairwise_append] at hs
      exact List.pairwise_append.2 ⟨hs.1, List.pairwise_cons.2 ⟨c3, hs.2.1⟩, fun p hp q hq => by
        rcases List.mem_cons.1 hq with rfl | hq
        · exact hU p hp
        · exact hs.2.2 p hp q hq⟩
  rcases List.eq_nil_or_concat U with hU | ⟨U', y, hU⟩
  · subst hU
    simp only [List.length_nil] at c1
    subst c1
    simp (disch := omega) [-getElem?_pos]
    exact again_mk (i + 1, [] ++ x :: W, M1) (by dsimp only; exact fin M1 (Mem.Grew.refl _) (by simp)) (by dsimp only; omega) (by simp [Int.add_assoc]) rfl
  rw [List.concat_eq_append] at hU
  subst hU
  have hj1 : U'.length + 1 = j := by rw [← c1]; simp
  have hyx : y.2 < x.2 := htag y (by rw [c2]; simp)
  have ex : fst (P ++ (U' ++ [y]) ++ x :: W ++ S.drop (i + 1) ++ Q) = (fst P ++ fst U' ++ [y.1]) ++ x.1 :: (fst W ++ fst (S.drop (i + 1)) ++ fst Q) := by simp
  have ey : fst (P ++ (U' ++ [y]) ++ x :: W ++ S.drop (i + 1) ++ Q) = (fst P ++ fst U') ++ y.1 :: (x.1 :: (fst W ++ fst (S.drop (i + 1)) ++ fst Q)) := by simp
  obtain ⟨aj, haj⟩ : ∃ aj, a + j = aj := ⟨_, rfl⟩
  obtain ⟨ak, hak⟩ : ∃ ak, a + U'.length = ak := ⟨_, rfl⟩
  have g1 : (fst (P ++ (U' ++ [y]) ++ x :: W ++ S.drop (i + 1) ++ Q))[aj]? = some x.1 := by rw [ex]; exact get_at _ _ _ (by simp; omega)
  have g2 : (fst (P ++ (U' ++ [y]) ++ x :: W ++ S.drop (i + 1) ++ Q))[ak]? = some y.1 := by rw [ey]; exact get_at _ _ _ (by simp; omega)
  obtain ⟨p, qi, qj, full, z1, z2, z3, z4, z5, z6, z7, z8, z9⟩ := two_at c4 g1 g2 (by omega)
  simp only [ot] at z5 z6
  have hji : (a : Int) + j = (aj : Int) := by omega
  have hki : (aj : Int) - 1 = (ak : Int) := by omega
  have hak2 : (a : Int) + U'.length = (ak : Int) := by omega
  simp (disch := omega) [-getElem?_pos, hji, hki, z1, z2, z4, z5, z6]
  refine order19 (a := x.1) (b := y.1) fun M2 g => ?_
  by_cases hlt : ltO x.1 y.1
  · have hn := ltO_cmp.2 hlt
    have hxy := (ltO_T hyx).1 hlt
    have c4' := c4.grow g
    obtain ⟨p, qi, qj, full, z1, z2, z3, z4, z5, z6, z7, z8, z9⟩ := two_at c4' g1 g2 (by omega)
    obtain ⟨w1, w2⟩ := z9 y.1 x.1
    have hz8 := z8 (ot y.1)
    simp only [ot] at z5 z6 hz8 w1 w2
    simp (disch := omega) [-getElem?_pos, hji, hki, z1, z2, z4, z5, z6, hz8]
    exact again_mk (U'.length, U', y :: W, _) (by
      dsimp only
      refine ⟨rfl, by rw [c2]; simp, fun q hq => ?_, ?_, (c5.trans (Stp.grow g _)).trans w2⟩
      · rcases List.mem_cons.1 hq with rfl | hq
        · exact hxy
        · exact c3 q hq
      · have e2 : ((fst (P ++ (U' ++ [y]) ++ x :: W ++ S.drop (i + 1) ++ Q)).set aj y.1).set ak x.1 = fst (P ++ U' ++ x :: y :: W ++ S.drop (i + 1) ++ Q) := by
          rw [ex, set_at _ _ _ _ (by simp; omega)]
          have e3 : (fst P ++ fst U' ++ [y.1]) ++ y.1 :: (fst W ++ fst (S.drop (i + 1)) ++ fst Q) = (fst P ++ fst U') ++ y.1 :: (y.1 :: (fst W ++ fst (S.drop (i + 1)) ++ fst Q)) := by simp
          rw [e3, set_at _ _ _ _ (by simp; omega)]
          simp
        rw [e2] at w1
        exact w1) (by dsimp only; omega) (by simp [hak2]) rfl
  · have hn : ¬ cmpO x.1 y.1 < 0 := fun e => hlt (ltO_cmp.1 e)
    have hyx2 := (ltO_T2 hyx).1 hlt
    simp (disch := omega) [-getElem?_pos]
    refine again_mk (i + 1, (U' ++ [y]) ++ x :: W, M2) (by
      dsimp only
      refine fin M2 g fun q hq => ?_
      rcases List.mem_append.1 hq with hq | hq
      · have hs : List.Pairwise ltT (U' ++ [y] ++ W) := by rw [← c2]; exact a4
        rw [List.pairwise_append, List.pairwise_append] at hs
        exact ltT_trans (hs.1.2.2 q hq y (by simp)) hyx2
      · simp only [List.mem_singleton] at hq; subst hq; exact hyx2) (by dsimp only; omega) (by simp [Int.add_assoc]) rfl
end Go.Proofs.Ythkopgcdghbjlaa
