/-
  TWO RUNS MERGED in their place.
-/
import Derived.Test.YthkopgcdghbjlaaGx
namespace Go.Proofs.Ythkopgcdghbjlaa
open Go Go.AM
set_option linter.unusedVariables false
set_option linter.unusedSimpArgs false
set_option maxRecDepth 60000
set_option maxHeartbeats 8000000

theorem Srt.at' {L : List Tg} (h : Srt L) {i j : Nat} (hij : i < j) {x y : Tg} (hx : L[i]? = some x) (hy : L[j]? = some y) : ltT x y := by
  have h1 := List.getElem?_eq_some_iff.1 hx
  have h2 := List.getElem?_eq_some_iff.1 hy
  have := List.pairwise_iff_getElem.1 h i j h1.1 h2.1 hij
  rw [h1.2, h2.2] at this; exact this
theorem half (x y : Nat) (h : x + y < 4611686018427387904) : Int.fdiv ((x : Int) + y) 2 = (((x + y) / 2 : Nat) : Int) := by
  rw [Int.fdiv_eq_ediv_of_nonneg _ (by omega)]; omega
theorem mem_take_ix {α : Type} {L : List α} {k : Nat} {x : α} (h : x ∈ L.take k) : ∃ i, i < k ∧ L[i]? = some x := by
  obtain ⟨i, hi⟩ := List.mem_iff_getElem?.1 h
  rw [List.getElem?_take] at hi
  split at hi
  · rename_i hk; exact ⟨i, hk, hi⟩
  · cases hi
theorem mem_drop_ix {α : Type} {L : List α} {k : Nat} {x : α} (h : x ∈ L.drop k) : ∃ i, k ≤ i ∧ L[i]? = some x := by
  obtain ⟨i, hi⟩ := List.mem_iff_getElem?.1 h
  rw [List.getElem?_drop] at hi
  exact ⟨k + i, by omega, hi⟩
theorem drop_cons {α : Type} {L : List α} {i : Nat} {x : α} (h : L[i]? = some x) : L.drop i = x :: L.drop (i + 1) := by
  have hl := (List.getElem?_eq_some_iff.1 h).1
  rw [List.drop_eq_getElem_cons hl]; congr 1; exact (List.getElem?_eq_some_iff.1 h).2

theorem fst_get {P X Q : List Tg} {k : Nat} {y : Tg} (h : X[k]? = some y) {n : Nat} (hn : n = P.length + k) : (fst (P ++ X ++ Q))[n]? = some y.1 := by
  have hl := (List.getElem?_eq_some_iff.1 h).1
  subst hn
  show ((P ++ X ++ Q).map (·.1))[P.length + k]? = _
  rw [List.getElem?_map, List.append_assoc, List.getElem?_append_right (by omega), Nat.add_sub_cancel_left, List.getElem?_append_left hl, h]; rfl
/-- One that is put into a run. -/
theorem put_srt {B : List Tg} (hB : Srt B) {x : Tg} {k : Nat} (h1 : ∀ y ∈ B.take k, ltT y x) (h2 : ∀ y ∈ B.drop k, ltT x y) : Srt (B.take k ++ x :: B.drop k) := by
  have hs : List.Pairwise ltT (B.take k ++ B.drop k) := by rw [List.take_append_drop]; exact hB
  rw [List.pairwise_append] at hs
  exact List.pairwise_append.2 ⟨hs.1, List.pairwise_cons.2 ⟨h2, hs.2.1⟩, fun p hp q hq => by
    rcases List.mem_cons.1 hq with rfl | hq
    · exact h1 p hp
    · exact hs.2.2 p hp q hq⟩

/-- An element ahead of a run. -/
theorem sym_one {m : Mem} {v : V} {P B Q : List Tg} {x : Tg} (h : Ows m 3 v ((fst (P ++ [x] ++ B ++ Q)).map ot)) (hl : (P ++ [x] ++ B ++ Q).length ≤ 4000000) {a b c : Nat} (ha : a = P.length) (hb : b = P.length + 1) (hc : c = P.length + 1 + B.length) (hB : Srt B) (hA : Ahd [x] B) {K : KV}
    (hk : ∀ m' S, S.Perm ([x] ++ B) → Srt S → Ows m' 3 v ((fst (P ++ S ++ Q)).map ot) → Stp m m' v.fp v.fp → K (.tup []) m') : ACalls Try.prog 31 [v, .int .i64 a, .int .i64 b, .int .i64 c, .fn 19 [] []] m K := by
  refine run_on (ctx_nil _) hm c31 (by simp) fun hf => ?_
  simp only [List.length_append, List.length_cons, List.length_nil] at hl
  have hba : (b : Int) - a = 1 := by omega
  simp (disch := omega) [-getElem?_pos, b31, hba]
  refine exec_loopU (σ := Nat × Nat × Mem) (fun (i, j, _) => [(10, .int .i64 i), (11, .int .i64 j)]) (fun (_, _, M) => M) (fun (i, j, M) => b ≤ i ∧ i ≤ j ∧ j ≤ c ∧ m.Grew M ∧ (∀ y ∈ B.take (i - b), ltT y x) ∧ ∀ y ∈ B.drop (j - b), ltT x y) (fun (i, j, _) => j - i) (b, c, m) rfl
    (by
      dsimp only
      refine ⟨by omega, by omega, by omega, Mem.Grew.refl _, by simp, fun y hy => ?_⟩
      rw [List.drop_eq_nil_of_le (by omega)] at hy; cases hy) (by simp) ?_
  intro (i, j, M) ⟨a1, a2, a3, a4, a5, a6⟩
  by_cases hij : i < j
  · obtain ⟨md, hmd⟩ : ∃ md, (i + j) / 2 = md := ⟨_, rfl⟩
    have e1 : Int.fdiv ((i : Int) + j) 2 = (md : Int) := by rw [half i j (by omega), hmd]
    obtain ⟨y, hy⟩ : ∃ y, B[md - b]? = some y := ⟨_, List.getElem?_eq_getElem (by omega)⟩
    have hxy : x.2 < y.2 := hA x (by simp) y (mem_of_idx hy)
    have g1 : (fst (P ++ [x] ++ B ++ Q))[md]? = some y.1 := fst_get hy (by simp; omega)
    have g2 : (fst (P ++ [x] ++ B ++ Q))[a]? = some x.1 := by
      have e : fst (P ++ [x] ++ B ++ Q) = fst P ++ x.1 :: (fst B ++ fst Q) := by simp
      rw [e]; exact get_at _ _ _ (by simp; omega)
    obtain ⟨p, qi, qj, full, z1, z2, z3, z4, z5, z6, z7, z8, z9⟩ := two_at (h.grow a4) g1 g2 (by omega)
    simp only [ot] at z5 z6
    simp (disch := omega) [-getElem?_pos, e1, z1, z2, z4, z5, z6]
    refine order19 (a := y.1) (b := x.1) fun M2 g => ?_
    by_cases hlt : ltO y.1 x.1
    · have hn := ltO_cmp.2 hlt
      have hyx := (ltO_T hxy).1 hlt
      simp (disch := omega) [-getElem?_pos]
      exact again_mk (md + 1, j, M2) (by
        dsimp only
        refine ⟨by omega, by omega, a3, a4.trans g, fun z hz => ?_, a6⟩
        obtain ⟨t, ht, hz⟩ := mem_take_ix hz
        rcases Nat.lt_or_ge t (md - b) with w | w
        · exact ltT_trans (hB.at' w hz hy) hyx
        · have : t = md - b := by omega
          subst this; rw [hy] at hz; injection hz with hz; subst hz; exact hyx) (by dsimp only; omega) (by simp) rfl
    · have hn : ¬ cmpO y.1 x.1 < 0 := fun e => hlt (ltO_cmp.1 e)
      have hyx := (ltO_T2 hxy).1 hlt
      simp (disch := omega) [-getElem?_pos]
      exact again_mk (i, md, M2) (by
        dsimp only
        refine ⟨a1, by omega, by omega, a4.trans g, a5, fun z hz => ?_⟩
        obtain ⟨t, ht, hz⟩ := mem_drop_ix hz
        rcases Nat.lt_or_ge (md - b) t with w | w
        · exact ltT_trans hyx (hB.at' w hy hz)
        · have : t = md - b := by omega
          subst this; rw [hy] at hz; injection hz with hz; subst hz; exact hyx) (by dsimp only; omega) (by simp) rfl
  have hij2 : i = j := by omega
  subst hij2
  have hM := h.grow a4
  simp (disch := omega) [-getElem?_pos]
  refine exec_loopU (σ := Nat × Mem) (fun (t, _) => [(13, .int .i64 t)]) (fun (_, M) => M) (fun (t, M') => a ≤ t ∧ t + 1 ≤ i ∧ Ows M' 3 v ((fst (P ++ B.take (t - a) ++ x :: B.drop (t - a) ++ Q)).map ot) ∧ Stp M M' v.fp v.fp) (fun (t, _) => i - t) (a, M) rfl
    (by dsimp only; exact ⟨by omega, by omega, by simpa using hM, Stp.refl _ _⟩) (by simp) ?_
  intro (t, M') ⟨b1, b2, b3, b4⟩
  by_cases ht : t + 1 < i
  · obtain ⟨y, hy⟩ : ∃ y, B[t - a]? = some y := ⟨_, List.getElem?_eq_getElem (by omega)⟩
    have ex : fst (P ++ B.take (t - a) ++ x :: B.drop (t - a) ++ Q) = (fst P ++ fst (B.take (t - a))) ++ x.1 :: (y.1 :: (fst (B.drop (t - a + 1)) ++ fst Q)) := by rw [drop_cons hy]; simp
    have ey : fst (P ++ B.take (t - a) ++ x :: B.drop (t - a) ++ Q) = (fst P ++ fst (B.take (t - a)) ++ [x.1]) ++ y.1 :: (fst (B.drop (t - a + 1)) ++ fst Q) := by rw [drop_cons hy]; simp
    have l1 : t = (fst P ++ fst (B.take (t - a))).length := by simp; omega
    have g1 : (fst (P ++ B.take (t - a) ++ x :: B.drop (t - a) ++ Q))[t]? = some x.1 := by rw [ex]; exact get_at _ _ _ l1
    have g2 : (fst (P ++ B.take (t - a) ++ x :: B.drop (t - a) ++ Q))[t + 1]? = some y.1 := by rw [ey]; exact get_at _ _ _ (by simp; omega)
    obtain ⟨p, qi, qj, full, z1, z2, z3, z4, z5, z6, z7, z8, z9⟩ := two_at b3 g1 g2 (by omega)
    obtain ⟨w1, w2⟩ := z9 y.1 x.1
    have hz8 := z8 (ot y.1)
    have e2 : ((fst (P ++ B.take (t - a) ++ x :: B.drop (t - a) ++ Q)).set t y.1).set (t + 1) x.1 = fst (P ++ B.take (t + 1 - a) ++ x :: B.drop (t + 1 - a) ++ Q) := by
      rw [ex, set_at _ _ _ _ l1]
      have e3 : (fst P ++ fst (B.take (t - a))) ++ y.1 :: (y.1 :: (fst (B.drop (t - a + 1)) ++ fst Q)) = (fst P ++ fst (B.take (t - a)) ++ [y.1]) ++ y.1 :: (fst (B.drop (t - a + 1)) ++ fst Q) := by simp
      rw [e3, set_at _ _ _ _ (by simp; omega), show t + 1 - a = t - a + 1 by omega, takeS hy]
      simp
    rw [e2] at w1
    obtain ⟨t1, ht1⟩ : ∃ t1, t + 1 = t1 := ⟨_, rfl⟩
    have hti : (t : Int) + 1 = (t1 : Int) := by omega
    rw [ht1] at z2
    simp only [ot] at z5 z6 hz8 w1 w2
    simp (disch := omega) [-getElem?_pos, hti, z1, z2, z4, z5, z6, hz8]
    exact again_mk (t + 1, _) (by dsimp only; exact ⟨by omega, by omega, w1, b4.trans w2⟩) (by dsimp only; omega) (by simp [hti]) rfl
  · have hti : t - a = i - b := by omega
    rw [hti] at b3
    simp (disch := omega) [-getElem?_pos]
    refine hk _ (B.take (i - b) ++ x :: B.drop (i - b)) ?_ (put_srt hB a5 a6) (by simpa using b3) ((Stp.grow a4 _).trans b4)
    refine List.perm_middle.trans ?_
    rw [List.take_append_drop]; exact List.Perm.refl _
end Go.Proofs.Ythkopgcdghbjlaa
