/-
  TWO RUNS MERGED in their place: one behind a run; any two.
-/
import Derived.Test.YthkopgcdghbjlaaHx
namespace Go.Proofs.Ythkopgcdghbjlaa
open Go Go.AM
set_option linter.unusedVariables false
set_option linter.unusedSimpArgs false
set_option maxRecDepth 60000
set_option maxHeartbeats 8000000

theorem sym_last {m : Mem} {v : V} {P A Q : List Tg} {y : Tg} (h : Ows m 3 v ((fst (P ++ A ++ [y] ++ Q)).map ot)) (hl : (P ++ A ++ [y] ++ Q).length ≤ 4000000) {a b c : Nat} (ha : a = P.length) (hb : b = P.length + A.length) (hc : c = P.length + A.length + 1) (h1 : A.length ≠ 1) (hS : Srt A) (hA : Ahd A [y]) {K : KV}
    (hk : ∀ m' S, S.Perm (A ++ [y]) → Srt S → Ows m' 3 v ((fst (P ++ S ++ Q)).map ot) → Stp m m' v.fp v.fp → K (.tup []) m') : ACalls Try.prog 31 [v, .int .i64 a, .int .i64 b, .int .i64 c, .fn 19 [] []] m K := by
  refine run_on (ctx_nil _) hm c31 (by simp) fun hf => ?_
  simp only [List.length_append, List.length_cons, List.length_nil] at hl
  have hba : ¬ (b : Int) - a = 1 := by omega
  have hcb : (c : Int) - b = 1 := by omega
  simp (disch := omega) [-getElem?_pos, b31, hba, hcb]
  refine exec_loopU (σ := Nat × Nat × Mem) (fun (i, j, _) => [(14, .int .i64 i), (15, .int .i64 j)]) (fun (_, _, M) => M) (fun (i, j, M) => a ≤ i ∧ i ≤ j ∧ j ≤ b ∧ m.Grew M ∧ (∀ z ∈ A.take (i - a), ltT z y) ∧ ∀ z ∈ A.drop (j - a), ltT y z) (fun (i, j, _) => j - i) (a, b, m) rfl
    (by
      dsimp only
      refine ⟨by omega, by omega, by omega, Mem.Grew.refl _, by simp, fun z hz => ?_⟩
      rw [List.drop_eq_nil_of_le (by omega)] at hz; cases hz) (by simp) ?_
  intro (i, j, M) ⟨a1, a2, a3, a4, a5, a6⟩
  by_cases hij : i < j
  · obtain ⟨md, hmd⟩ : ∃ md, (i + j) / 2 = md := ⟨_, rfl⟩
    have e1 : Int.fdiv ((i : Int) + j) 2 = (md : Int) := by rw [half i j (by omega), hmd]
    obtain ⟨x, hx⟩ : ∃ x, A[md - a]? = some x := ⟨_, List.getElem?_eq_getElem (by omega)⟩
    have hxy : x.2 < y.2 := hA x (mem_of_idx hx) y (by simp)
    have g1 : (fst (P ++ A ++ [y] ++ Q))[md]? = some x.1 := by
      have e : P ++ A ++ [y] ++ Q = P ++ A ++ ([y] ++ Q) := by simp
      rw [e]; exact fst_get hx (by omega)
    have g2 : (fst (P ++ A ++ [y] ++ Q))[b]? = some y.1 := fst_get (P := P ++ A) (k := 0) (by simp) (by simp; omega)
    obtain ⟨p, qi, qj, full, z1, z2, z3, z4, z5, z6, z7, z8, z9⟩ := two_at (h.grow a4) g1 g2 (by omega)
    simp only [ot] at z5 z6
    simp (disch := omega) [-getElem?_pos, e1, z1, z2, z4, z5, z6]
    refine order19 (a := y.1) (b := x.1) fun M2 g => ?_
    by_cases hlt : ltO y.1 x.1
    · have hn := ltO_cmp.2 hlt
      have hyx := (ltO_T hxy).1 hlt
      simp (disch := omega) [-getElem?_pos]
      exact again_mk (i, md, M2) (by
        dsimp only
        refine ⟨a1, by omega, by omega, a4.trans g, a5, fun z hz => ?_⟩
        obtain ⟨t, ht, hz⟩ := mem_drop_ix hz
        rcases Nat.lt_or_ge (md - a) t with w | w
        · exact ltT_trans hyx (hS.at' w hx hz)
        · have : t = md - a := by omega
          subst this; rw [hx] at hz; injection hz with hz; subst hz; exact hyx) (by dsimp only; omega) (by simp) rfl
    · have hn : ¬ cmpO y.1 x.1 < 0 := fun e => hlt (ltO_cmp.1 e)
      have hyx := (ltO_T2 hxy).1 hlt
      simp (disch := omega) [-getElem?_pos]
      exact again_mk (md + 1, j, M2) (by
        dsimp only
        refine ⟨by omega, by omega, a3, a4.trans g, fun z hz => ?_, a6⟩
        obtain ⟨t, ht, hz⟩ := mem_take_ix hz
        rcases Nat.lt_or_ge t (md - a) with w | w
        · exact ltT_trans (hS.at' w hz hx) hyx
        · have : t = md - a := by omega
          subst this; rw [hx] at hz; injection hz with hz; subst hz; exact hyx) (by dsimp only; omega) (by simp) rfl
  have hij2 : i = j := by omega
  subst hij2
  have hM := h.grow a4
  simp (disch := omega) [-getElem?_pos]
  refine exec_loopU (σ := Nat × Mem) (fun (t, _) => [(17, .int .i64 t)]) (fun (_, M) => M) (fun (t, M') => i ≤ t ∧ t ≤ b ∧ Ows M' 3 v ((fst (P ++ A.take (t - a) ++ y :: A.drop (t - a) ++ Q)).map ot) ∧ Stp M M' v.fp v.fp) (fun (t, _) => t) (b, M) rfl
    (by
      dsimp only
      refine ⟨by omega, by omega, ?_, Stp.refl _ _⟩
      rw [show b - a = A.length by omega, List.take_length, List.drop_length]
      simpa using hM) (by simp) ?_
  intro (t, M') ⟨b1, b2, b3, b4⟩
  by_cases ht : i < t
  · obtain ⟨t0, ht0⟩ : ∃ t0, t0 + 1 = t := ⟨t - 1, by omega⟩
    subst ht0
    obtain ⟨x, hx⟩ : ∃ x, A[t0 - a]? = some x := ⟨_, List.getElem?_eq_getElem (by omega)⟩
    have ek : t0 + 1 - a = t0 - a + 1 := by omega
    rw [ek] at b3
    have ex : fst (P ++ A.take (t0 - a + 1) ++ y :: A.drop (t0 - a + 1) ++ Q) = (fst P ++ fst (A.take (t0 - a))) ++ x.1 :: (y.1 :: (fst (A.drop (t0 - a + 1)) ++ fst Q)) := by rw [takeS hx]; simp
    have ey : fst (P ++ A.take (t0 - a + 1) ++ y :: A.drop (t0 - a + 1) ++ Q) = (fst P ++ fst (A.take (t0 - a)) ++ [x.1]) ++ y.1 :: (fst (A.drop (t0 - a + 1)) ++ fst Q) := by rw [takeS hx]; simp
    have l1 : t0 = (fst P ++ fst (A.take (t0 - a))).length := by simp; omega
    have g1 : (fst (P ++ A.take (t0 - a + 1) ++ y :: A.drop (t0 - a + 1) ++ Q))[t0]? = some x.1 := by rw [ex]; exact get_at _ _ _ l1
    have g2 : (fst (P ++ A.take (t0 - a + 1) ++ y :: A.drop (t0 - a + 1) ++ Q))[t0 + 1]? = some y.1 := by rw [ey]; exact get_at _ _ _ (by simp; omega)
    obtain ⟨p, qj, qi, full, z2, z1, z3, z4, z6, z5, z7, z8, z9⟩ := two_at b3 g2 g1 (by omega)
    obtain ⟨w1, w2⟩ := z9 x.1 y.1
    have hz8 := z8 (ot x.1)
    have e2 : ((fst (P ++ A.take (t0 - a + 1) ++ y :: A.drop (t0 - a + 1) ++ Q)).set (t0 + 1) x.1).set t0 y.1 = fst (P ++ A.take (t0 - a) ++ y :: A.drop (t0 - a) ++ Q) := by
      rw [ey, set_at _ _ _ _ (by simp; omega)]
      have e3 : (fst P ++ fst (A.take (t0 - a)) ++ [x.1]) ++ x.1 :: (fst (A.drop (t0 - a + 1)) ++ fst Q) = (fst P ++ fst (A.take (t0 - a))) ++ x.1 :: (x.1 :: (fst (A.drop (t0 - a + 1)) ++ fst Q)) := by simp
      rw [e3, set_at _ _ _ _ l1, drop_cons hx]
      simp
    rw [e2] at w1
    obtain ⟨t1, ht1⟩ : ∃ t1, t0 + 1 = t1 := ⟨_, rfl⟩
    have hti : (t0 : Int) + 1 = (t1 : Int) := by omega
    have hti2 : (t1 : Int) - 1 = (t0 : Int) := by omega
    rw [ht1] at z2
    simp only [ot] at z5 z6 hz8 w1 w2
    simp (disch := omega) [-getElem?_pos, hti, hti2, z1, z2, z4, z5, z6, hz8]
    exact again_mk (t0, _) (by dsimp only; exact ⟨by omega, by omega, w1, b4.trans w2⟩) (by dsimp only; omega) (by simp) rfl
  · have hti : t = i := by omega
    subst hti
    simp (disch := omega) [-getElem?_pos]
    refine hk _ (A.take (t - a) ++ y :: A.drop (t - a)) ?_ (put_srt hS a5 a6) (by simpa using b3) ((Stp.grow a4 _).trans b4)
    refine List.perm_middle.trans ?_
    rw [List.take_append_drop]; exact (List.perm_append_singleton y A).symm

theorem perm4 (A B C D : List Tg) : ((A ++ B) ++ (C ++ D)).Perm ((A ++ C) ++ (B ++ D)) := by
  rw [List.append_assoc, List.append_assoc]
  refine List.Perm.append_left A ?_
  rw [← List.append_assoc, ← List.append_assoc]
  exact List.Perm.append_right D List.perm_append_comm
theorem sym_fin {A B S1 S2 : List Tg} {k l : Nat} (hsA : Srt A) (hsB : Srt B) (X1 : ∀ x ∈ A.take k, ∀ y ∈ B.drop l, ltT x y) (X2 : ∀ y ∈ B.take l, ∀ x ∈ A.drop k, ltT y x) (p1 : S1.Perm (A.take k ++ B.take l)) (p2 : S2.Perm (A.drop k ++ B.drop l)) (s1 : Srt S1) (s2 : Srt S2) : (S1 ++ S2).Perm (A ++ B) ∧ Srt (S1 ++ S2) := by
  refine ⟨?_, List.pairwise_append.2 ⟨s1, s2, fun x hx y hy => ?_⟩⟩
  · refine (p1.append p2).trans ((perm4 _ _ _ _).trans ?_)
    rw [List.take_append_drop, List.take_append_drop]
  · have hA : List.Pairwise ltT (A.take k ++ A.drop k) := by rw [List.take_append_drop]; exact hsA
    have hB : List.Pairwise ltT (B.take l ++ B.drop l) := by rw [List.take_append_drop]; exact hsB
    rw [List.pairwise_append] at hA hB
    rcases List.mem_append.1 (p1.subset hx) with hx | hx <;> rcases List.mem_append.1 (p2.subset hy) with hy | hy
    · exact hA.2.2 x hx y hy
    · exact X1 x hx y hy
    · exact X2 x hx y hy
    · exact hB.2.2 x hx y hy
theorem srt_one {A B : List Tg} (hA : Srt A) (hB : Srt B) (h : A = [] ∨ B = []) : Srt (A ++ B) := by
  rcases h with rfl | rfl
  · simpa using hB
  · simpa using hA
theorem len0 {α : Type} {L : List α} (h : L.length = 0) : L = [] := List.eq_nil_of_length_eq_zero h
theorem swap_nil {P A B C D Q : List Tg} (h : B = [] ∨ C = []) : P ++ (A ++ B) ++ (C ++ D) ++ Q = P ++ A ++ C ++ B ++ D ++ Q := by
  rcases h with rfl | rfl <;> simp

/-- Any two runs, of which the one came ahead of the other. -/
theorem sym_calls : ∀ (N : Nat) {m : Mem} {v : V} {P A B Q : List Tg} {a b c : Nat} {K : KV}, A.length + B.length ≤ N → Ows m 3 v ((fst (P ++ A ++ B ++ Q)).map ot) → (P ++ A ++ B ++ Q).length ≤ 4000000 → a = P.length → b = P.length + A.length → c = P.length + A.length + B.length → A ≠ [] → B ≠ [] → Srt A → Srt B → Ahd A B →
    (∀ m' S, S.Perm (A ++ B) → Srt S → Ows m' 3 v ((fst (P ++ S ++ Q)).map ot) → Stp m m' v.fp v.fp → K (.tup []) m') → ACalls Try.prog 31 [v, .int .i64 a, .int .i64 b, .int .i64 c, .fn 19 [] []] m K
  | 0, m, v, P, A, B, Q, a, b, c, K, hN, h, hl, ha, hb, hc, hA, hB, hsA, hsB, hAB, hk => by
    have := List.length_pos_iff.2 hA; omega
  | N + 1, m, v, P, A, B, Q, a, b, c, K, hN, h, hl, ha, hb, hc, hA, hB, hsA, hsB, hAB, hk => by
    have hAl := List.length_pos_iff.2 hA
    have hBl := List.length_pos_iff.2 hB
    by_cases hA1 : A.length = 1
    · obtain ⟨x, rfl⟩ := List.length_eq_one_iff.1 hA1
      exact sym_one h hl ha (by rw [hb, hA1]) (by rw [hc, hA1]) hsB hAB hk
    by_cases hB1 : B.length = 1
    · obtain ⟨y, rfl⟩ := List.length_eq_one_iff.1 hB1
      exact sym_last h hl ha hb (by rw [hc, hB1]) hA1 hsA hAB hk
    have IH := @sym_calls N
    refine run_on (ctx_nil _) hm c31 (by simp) fun hf => ?_
    have hl' := hl
    simp only [List.length_append] at hl
    have hba : ¬ (b : Int) - a = 1 := by omega
    have hcb : ¬ (c : Int) - b = 1 := by omega
    obtain ⟨md, hmd⟩ : ∃ md, (a + c) / 2 = md := ⟨_, rfl⟩
    have e1 : Int.fdiv ((a : Int) + c) 2 = (md : Int) := by rw [half a c (by omega), hmd]
    obtain ⟨n, hn⟩ : ∃ n, md + b = n := ⟨_, rfl⟩
    have e2 : (md : Int) + b = (n : Int) := by omega
    obtain ⟨pp, hpp⟩ : ∃ pp, n - 1 = pp := ⟨_, rfl⟩
    have e4 : (n : Int) - 1 = (pp : Int) := by omega
    by_cases hbm : md < b
    · obtain ⟨lo, hlo⟩ : ∃ lo, n - c = lo := ⟨_, rfl⟩
      have e3 : (n : Int) - c = (lo : Int) := by omega
      simp (disch := omega) [-getElem?_pos, b31, hba, hcb, e1, e2, e4, e3]
      refine exec_loopU (σ := Nat × Nat × Mem) (fun (s, r, _) => [(20, .int .i64 s), (21, .int .i64 r)]) (fun (_, _, M) => M) (fun (s, r, M) => lo ≤ s ∧ s ≤ r ∧ r ≤ md ∧ m.Grew M ∧ (s = lo ∨ ∃ x y, lo < s ∧ A[s - 1 - a]? = some x ∧ B[n - s - b]? = some y ∧ ltT x y) ∧ (r = md ∨ ∃ x y, r < md ∧ A[r - a]? = some x ∧ B[pp - r - b]? = some y ∧ ltT y x)) (fun (s, r, _) => r - s) (lo, md, m) rfl
        (by dsimp only; exact ⟨by omega, by omega, by omega, Mem.Grew.refl _, .inl rfl, .inl rfl⟩) (by simp) ?_
      intro (s, r, M) ⟨a1, a2, a3, a4, a5, a6⟩
      by_cases hsr : s < r
      · obtain ⟨cc, hcc⟩ : ∃ cc, (s + r) / 2 = cc := ⟨_, rfl⟩
        have e5 : Int.fdiv ((s : Int) + r) 2 = (cc : Int) := by rw [half s r (by omega), hcc]
        obtain ⟨pc, hpc⟩ : ∃ pc, pp - cc = pc := ⟨_, rfl⟩
        have e6 : (pp : Int) - cc = (pc : Int) := by omega
        obtain ⟨x, hx⟩ : ∃ x, A[cc - a]? = some x := ⟨_, List.getElem?_eq_getElem (by omega)⟩
        obtain ⟨y, hy⟩ : ∃ y, B[pp - cc - b]? = some y := ⟨_, List.getElem?_eq_getElem (by omega)⟩
        have hxy : x.2 < y.2 := hAB x (mem_of_idx hx) y (mem_of_idx hy)
        have g1 : (fst (P ++ A ++ B ++ Q))[pc]? = some y.1 := fst_get (P := P ++ A) hy (by simp; omega)
        have g2 : (fst (P ++ A ++ B ++ Q))[cc]? = some x.1 := by
          have e : P ++ A ++ B ++ Q = P ++ A ++ (B ++ Q) := by simp
          rw [e]; exact fst_get hx (by omega)
        obtain ⟨p, qi, qj, full, z1, z2, z3, z4, z5, z6, z7, z8, z9⟩ := two_at (h.grow a4) g1 g2 (by omega)
        simp only [ot] at z5 z6
        simp (disch := omega) [-getElem?_pos, e5, e6, z1, z2, z4, z5, z6]
        refine order19 (a := y.1) (b := x.1) fun M2 g => ?_
        by_cases hlt : ltO y.1 x.1
        · have hn' := ltO_cmp.2 hlt
          have hyx := (ltO_T hxy).1 hlt
          simp (disch := omega) [-getElem?_pos]
          exact again_mk (s, cc, M2) (by dsimp only; exact ⟨a1, by omega, by omega, a4.trans g, a5, .inr ⟨x, y, by omega, hx, hy, hyx⟩⟩) (by dsimp only; omega) (by simp) rfl
        · have hn' : ¬ cmpO y.1 x.1 < 0 := fun e => hlt (ltO_cmp.1 e)
          have hyx := (ltO_T2 hxy).1 hlt
          simp (disch := omega) [-getElem?_pos]
          exact again_mk (cc + 1, r, M2) (by dsimp only; exact ⟨by omega, by omega, a3, a4.trans g, .inr ⟨x, y, by omega, by rw [show cc + 1 - 1 - a = cc - a by omega]; exact hx, by rw [show n - (cc + 1) - b = pp - cc - b by omega]; exact hy, hyx⟩, a6⟩) (by dsimp only; omega) (by simp) rfl
      have hse : s = r := by omega
      subst hse
      obtain ⟨e, he⟩ : ∃ e, n - s = e := ⟨_, rfl⟩
      have e7 : (n : Int) - s = (e : Int) := by omega
      have X1 : ∀ x ∈ A.take (s - a), ∀ y ∈ B.drop (e - b), ltT x y := fun x hx y hy => by
        rcases a5 with w | ⟨x0, y0, w0, w1, w2, w3⟩
        · rw [List.drop_eq_nil_of_le (by omega)] at hy; cases hy
        · obtain ⟨i, hi, hx⟩ := mem_take_ix hx
          obtain ⟨j, hj, hy⟩ := mem_drop_ix hy
          have f1 : x = x0 ∨ ltT x x0 := by
            rcases Nat.lt_or_ge i (s - 1 - a) with q | q
            · exact .inr (hsA.at' q hx w1)
            · have : i = s - 1 - a := by omega
              subst this; rw [hx] at w1; injection w1 with w1; exact .inl w1
          have f2 : y = y0 ∨ ltT y0 y := by
            rcases Nat.lt_or_ge (n - s - b) j with q | q
            · exact .inr (hsB.at' q w2 hy)
            · have : j = n - s - b := by omega
              subst this; rw [hy] at w2; injection w2 with w2; exact .inl w2
          rcases f1 with rfl | f1 <;> rcases f2 with rfl | f2
          · exact w3
          · exact ltT_trans w3 f2
          · exact ltT_trans f1 w3
          · exact ltT_trans f1 (ltT_trans w3 f2)
      have X2 : ∀ y ∈ B.take (e - b), ∀ x ∈ A.drop (s - a), ltT y x := fun y hy x hx => by
        rcases a6 with w | ⟨x0, y0, w0, w1, w2, w3⟩
        · rw [show e - b = 0 by omega] at hy; cases hy
        · obtain ⟨i, hi, hx⟩ := mem_drop_ix hx
          obtain ⟨j, hj, hy⟩ := mem_take_ix hy
          have f1 : x = x0 ∨ ltT x0 x := by
            rcases Nat.lt_or_ge (s - a) i with q | q
            · exact .inr (hsA.at' q w1 hx)
            · have : i = s - a := by omega
              subst this; rw [hx] at w1; injection w1 with w1; exact .inl w1
          have f2 : y = y0 ∨ ltT y y0 := by
            rcases Nat.lt_or_ge j (pp - s - b) with q | q
            · exact .inr (hsB.at' q hy w2)
            · have : j = pp - s - b := by omega
              subst this; rw [hy] at w2; injection w2 with w2; exact .inl w2
          rcases f1 with rfl | f1 <;> rcases f2 with rfl | f2
          · exact w3
          · exact ltT_trans f2 w3
          · exact ltT_trans w3 f1
          · exact ltT_trans f2 (ltT_trans w3 f1)
      have hM := h.grow a4
      have hfin := @sym_fin A B
      have lA1 : (A.take (s - a)).length = s - a := by rw [List.length_take]; omega
      have lA2 : (A.drop (s - a)).length = b - s := by rw [List.length_drop]; omega
      have lB1 : (B.take (e - b)).length = e - b := by rw [List.length_take]; omega
      have lB2 : (B.drop (e - b)).length = c - e := by rw [List.length_drop]; omega
      have sA : Srt (A.take (s - a)) ∧ Srt (A.drop (s - a)) := ⟨hsA.sublist (List.take_sublist _ _), hsA.sublist (List.drop_sublist _ _)⟩
      have sB : Srt (B.take (e - b)) ∧ Srt (B.drop (e - b)) := ⟨hsB.sublist (List.take_sublist _ _), hsB.sublist (List.drop_sublist _ _)⟩
      have hAB1 : Ahd (A.take (s - a)) (B.take (e - b)) := fun x hx y hy => hAB x (List.mem_of_mem_take hx) y (List.mem_of_mem_take hy)
      have hAB2 : Ahd (A.drop (s - a)) (B.drop (e - b)) := fun x hx y hy => hAB x (List.mem_of_mem_drop hx) y (List.mem_of_mem_drop hy)
      have eM : P ++ A ++ B ++ Q = P ++ (A.take (s - a) ++ A.drop (s - a)) ++ (B.take (e - b) ++ B.drop (e - b)) ++ Q := by rw [List.take_append_drop, List.take_append_drop]
      rw [eM] at hM
      have hfin' : ∀ S1 S2, S1.Perm (A.take (s - a) ++ B.take (e - b)) → S2.Perm (A.drop (s - a) ++ B.drop (e - b)) → Srt S1 → Srt S2 → (S1 ++ S2).Perm (A ++ B) ∧ Srt (S1 ++ S2) := fun S1 S2 p1 p2 s1 s2 => hfin hsA hsB X1 X2 p1 p2 s1 s2
      clear X1 X2 hfin a5 a6 eM h hsA hsB hAB
      generalize A.take (s - a) = A1 at *
      generalize A.drop (s - a) = A2 at *
      generalize B.take (e - b) = B1 at *
      generalize B.drop (e - b) = B2 at *
      by_cases hal : s < b
      · by_cases hbe : s < md
        · by_cases hga : a < s
          · by_cases hde : e < c
            · first
              | omega
              | (simp (disch := omega) [-getElem?_pos, e7]
                 refine rotate_calls (P := fst (P ++ A1)) (X := fst A2) (Y := fst B1) (Q := fst (B2 ++ Q)) (by simpa using hM) (by simp; omega) (by simp; omega) (by simp; omega) (by simp; omega) (fun q => by have := congrArg List.length q; simp at this; subst this; simp at lA2; omega) (fun q => by have := congrArg List.length q; simp at this; subst this; simp at lB1; omega) fun M2 q1 q2 => ?_
                 have q3 : Ows M2 3 v ((fst (P ++ A1 ++ B1 ++ (A2 ++ B2 ++ Q))).map ot) := by simpa using q1
                 have q4 : Stp m M2 v.fp v.fp := (Stp.grow a4 _).trans q2
                 simp (disch := omega) [-getElem?_pos, e7]
                 refine IH (P := P) (A := A1) (B := B1) (Q := A2 ++ B2 ++ Q) (by omega) q3 (by simp; omega) ha (by omega) (by omega) (fun q => by subst q; simp at lA1; omega) (fun q => by subst q; simp at lB1; omega) sA.1 sB.1 hAB1 fun M3 S1 p1 p2 p3 p4 => ?_
                 have q5 := q4.trans p4
                 simp (disch := omega) [-getElem?_pos, e7]
                 have hS1l := p1.length_eq
                 rw [List.length_append] at hS1l
                 refine IH (P := P ++ S1) (A := A2) (B := B2) (Q := Q) (by omega) (by simpa using p3) (by simp; omega) (by simp; omega) (by simp; omega) (by simp; omega) (fun q => by subst q; simp at lA2; omega) (fun q => by subst q; simp at lB2; omega) sA.2 sB.2 hAB2 fun M4 S2 t1 t2 t3 t4 => ?_
                 have hf' := hfin' S1 S2 p1 t1 p2 t2
                 simp (disch := omega) [-getElem?_pos, e7]
                 exact hk _ (S1 ++ S2) hf'.1 hf'.2 (by simpa using t3) (q5.trans t4))
            · first
              | omega
              | (simp (disch := omega) [-getElem?_pos, e7]
                 refine rotate_calls (P := fst (P ++ A1)) (X := fst A2) (Y := fst B1) (Q := fst (B2 ++ Q)) (by simpa using hM) (by simp; omega) (by simp; omega) (by simp; omega) (by simp; omega) (fun q => by have := congrArg List.length q; simp at this; subst this; simp at lA2; omega) (fun q => by have := congrArg List.length q; simp at this; subst this; simp at lB1; omega) fun M2 q1 q2 => ?_
                 have q3 : Ows M2 3 v ((fst (P ++ A1 ++ B1 ++ (A2 ++ B2 ++ Q))).map ot) := by simpa using q1
                 have q4 : Stp m M2 v.fp v.fp := (Stp.grow a4 _).trans q2
                 simp (disch := omega) [-getElem?_pos, e7]
                 refine IH (P := P) (A := A1) (B := B1) (Q := A2 ++ B2 ++ Q) (by omega) q3 (by simp; omega) ha (by omega) (by omega) (fun q => by subst q; simp at lA1; omega) (fun q => by subst q; simp at lB1; omega) sA.1 sB.1 hAB1 fun M3 S1 p1 p2 p3 p4 => ?_
                 have q5 := q4.trans p4
                 simp (disch := omega) [-getElem?_pos, e7]
                 have hS1l := p1.length_eq
                 rw [List.length_append] at hS1l
                 have hf' := hfin' S1 (A2 ++ B2) p1 (List.Perm.refl _) p2 (srt_one sA.2 sB.2 (.inr (len0 (by omega))))
                 exact hk _ (S1 ++ (A2 ++ B2)) hf'.1 hf'.2 (by simpa using p3) q5)
          · by_cases hde : e < c
            · first
              | omega
              | (simp (disch := omega) [-getElem?_pos, e7]
                 refine rotate_calls (P := fst (P ++ A1)) (X := fst A2) (Y := fst B1) (Q := fst (B2 ++ Q)) (by simpa using hM) (by simp; omega) (by simp; omega) (by simp; omega) (by simp; omega) (fun q => by have := congrArg List.length q; simp at this; subst this; simp at lA2; omega) (fun q => by have := congrArg List.length q; simp at this; subst this; simp at lB1; omega) fun M2 q1 q2 => ?_
                 have q3 : Ows M2 3 v ((fst (P ++ A1 ++ B1 ++ (A2 ++ B2 ++ Q))).map ot) := by simpa using q1
                 have q4 : Stp m M2 v.fp v.fp := (Stp.grow a4 _).trans q2
                 simp (disch := omega) [-getElem?_pos, e7]
                 obtain ⟨S1, hS1⟩ : ∃ S1, S1 = A1 ++ B1 := ⟨_, rfl⟩
                 have p1 : S1.Perm (A1 ++ B1) := by rw [hS1]
                 have p2 : Srt S1 := by rw [hS1]; exact srt_one sA.1 sB.1 (.inl (len0 (by omega)))
                 have p3 : Ows M2 3 v ((fst (P ++ S1 ++ (A2 ++ B2 ++ Q))).map ot) := by rw [hS1]; simpa using q3
                 have q5 := q4
                 have hS1l := p1.length_eq
                 rw [List.length_append] at hS1l
                 refine IH (P := P ++ S1) (A := A2) (B := B2) (Q := Q) (by omega) (by simpa using p3) (by simp; omega) (by simp; omega) (by simp; omega) (by simp; omega) (fun q => by subst q; simp at lA2; omega) (fun q => by subst q; simp at lB2; omega) sA.2 sB.2 hAB2 fun M4 S2 t1 t2 t3 t4 => ?_
                 have hf' := hfin' S1 S2 p1 t1 p2 t2
                 simp (disch := omega) [-getElem?_pos, e7]
                 exact hk _ (S1 ++ S2) hf'.1 hf'.2 (by simpa using t3) (q5.trans t4))
            · first
              | omega
              | (simp (disch := omega) [-getElem?_pos, e7]
                 refine rotate_calls (P := fst (P ++ A1)) (X := fst A2) (Y := fst B1) (Q := fst (B2 ++ Q)) (by simpa using hM) (by simp; omega) (by simp; omega) (by simp; omega) (by simp; omega) (fun q => by have := congrArg List.length q; simp at this; subst this; simp at lA2; omega) (fun q => by have := congrArg List.length q; simp at this; subst this; simp at lB1; omega) fun M2 q1 q2 => ?_
                 have q3 : Ows M2 3 v ((fst (P ++ A1 ++ B1 ++ (A2 ++ B2 ++ Q))).map ot) := by simpa using q1
                 have q4 : Stp m M2 v.fp v.fp := (Stp.grow a4 _).trans q2
                 simp (disch := omega) [-getElem?_pos, e7]
                 obtain ⟨S1, hS1⟩ : ∃ S1, S1 = A1 ++ B1 := ⟨_, rfl⟩
                 have p1 : S1.Perm (A1 ++ B1) := by rw [hS1]
                 have p2 : Srt S1 := by rw [hS1]; exact srt_one sA.1 sB.1 (.inl (len0 (by omega)))
                 have p3 : Ows M2 3 v ((fst (P ++ S1 ++ (A2 ++ B2 ++ Q))).map ot) := by rw [hS1]; simpa using q3
                 have q5 := q4
                 have hS1l := p1.length_eq
                 rw [List.length_append] at hS1l
                 have hf' := hfin' S1 (A2 ++ B2) p1 (List.Perm.refl _) p2 (srt_one sA.2 sB.2 (.inr (len0 (by omega))))
                 exact hk _ (S1 ++ (A2 ++ B2)) hf'.1 hf'.2 (by simpa using p3) q5)
        · by_cases hga : a < s
          · by_cases hde : e < c
            · first
              | omega
              | (simp (disch := omega) [-getElem?_pos, e7]
                 have q3 : Ows M 3 v ((fst (P ++ A1 ++ B1 ++ (A2 ++ B2 ++ Q))).map ot) := by rw [swap_nil (.inr (len0 (by omega)))] at hM; simpa using hM
                 have q4 : Stp m M v.fp v.fp := Stp.grow a4 _
                 obtain ⟨S1, hS1⟩ : ∃ S1, S1 = A1 ++ B1 := ⟨_, rfl⟩
                 have p1 : S1.Perm (A1 ++ B1) := by rw [hS1]
                 have p2 : Srt S1 := by rw [hS1]; exact srt_one sA.1 sB.1 (.inr (len0 (by omega)))
                 have p3 : Ows M 3 v ((fst (P ++ S1 ++ (A2 ++ B2 ++ Q))).map ot) := by rw [hS1]; simpa using q3
                 have q5 := q4
                 have hS1l := p1.length_eq
                 rw [List.length_append] at hS1l
                 refine IH (P := P ++ S1) (A := A2) (B := B2) (Q := Q) (by omega) (by simpa using p3) (by simp; omega) (by simp; omega) (by simp; omega) (by simp; omega) (fun q => by subst q; simp at lA2; omega) (fun q => by subst q; simp at lB2; omega) sA.2 sB.2 hAB2 fun M4 S2 t1 t2 t3 t4 => ?_
                 have hf' := hfin' S1 S2 p1 t1 p2 t2
                 simp (disch := omega) [-getElem?_pos, e7]
                 exact hk _ (S1 ++ S2) hf'.1 hf'.2 (by simpa using t3) (q5.trans t4))
            · first
              | omega
              | (simp (disch := omega) [-getElem?_pos, e7]
                 have q3 : Ows M 3 v ((fst (P ++ A1 ++ B1 ++ (A2 ++ B2 ++ Q))).map ot) := by rw [swap_nil (.inr (len0 (by omega)))] at hM; simpa using hM
                 have q4 : Stp m M v.fp v.fp := Stp.grow a4 _
                 obtain ⟨S1, hS1⟩ : ∃ S1, S1 = A1 ++ B1 := ⟨_, rfl⟩
                 have p1 : S1.Perm (A1 ++ B1) := by rw [hS1]
                 have p2 : Srt S1 := by rw [hS1]; exact srt_one sA.1 sB.1 (.inr (len0 (by omega)))
                 have p3 : Ows M 3 v ((fst (P ++ S1 ++ (A2 ++ B2 ++ Q))).map ot) := by rw [hS1]; simpa using q3
                 have q5 := q4
                 have hS1l := p1.length_eq
                 rw [List.length_append] at hS1l
                 have hf' := hfin' S1 (A2 ++ B2) p1 (List.Perm.refl _) p2 (srt_one sA.2 sB.2 (.inr (len0 (by omega))))
                 exact hk _ (S1 ++ (A2 ++ B2)) hf'.1 hf'.2 (by simpa using p3) q5)
          · by_cases hde : e < c
            · first
              | omega
              | (simp (disch := omega) [-getElem?_pos, e7]
                 have q3 : Ows M 3 v ((fst (P ++ A1 ++ B1 ++ (A2 ++ B2 ++ Q))).map ot) := by rw [swap_nil (.inr (len0 (by omega)))] at hM; simpa using hM
                 have q4 : Stp m M v.fp v.fp := Stp.grow a4 _
                 obtain ⟨S1, hS1⟩ : ∃ S1, S1 = A1 ++ B1 := ⟨_, rfl⟩
                 have p1 : S1.Perm (A1 ++ B1) := by rw [hS1]
                 have p2 : Srt S1 := by rw [hS1]; exact srt_one sA.1 sB.1 (.inl (len0 (by omega)))
                 have p3 : Ows M 3 v ((fst (P ++ S1 ++ (A2 ++ B2 ++ Q))).map ot) := by rw [hS1]; simpa using q3
                 have q5 := q4
                 have hS1l := p1.length_eq
                 rw [List.length_append] at hS1l
                 refine IH (P := P ++ S1) (A := A2) (B := B2) (Q := Q) (by omega) (by simpa using p3) (by simp; omega) (by simp; omega) (by simp; omega) (by simp; omega) (fun q => by subst q; simp at lA2; omega) (fun q => by subst q; simp at lB2; omega) sA.2 sB.2 hAB2 fun M4 S2 t1 t2 t3 t4 => ?_
                 have hf' := hfin' S1 S2 p1 t1 p2 t2
                 simp (disch := omega) [-getElem?_pos, e7]
                 exact hk _ (S1 ++ S2) hf'.1 hf'.2 (by simpa using t3) (q5.trans t4))
            · first
              | omega
              | (simp (disch := omega) [-getElem?_pos, e7]
                 have q3 : Ows M 3 v ((fst (P ++ A1 ++ B1 ++ (A2 ++ B2 ++ Q))).map ot) := by rw [swap_nil (.inr (len0 (by omega)))] at hM; simpa using hM
                 have q4 : Stp m M v.fp v.fp := Stp.grow a4 _
                 obtain ⟨S1, hS1⟩ : ∃ S1, S1 = A1 ++ B1 := ⟨_, rfl⟩
                 have p1 : S1.Perm (A1 ++ B1) := by rw [hS1]
                 have p2 : Srt S1 := by rw [hS1]; exact srt_one sA.1 sB.1 (.inl (len0 (by omega)))
                 have p3 : Ows M 3 v ((fst (P ++ S1 ++ (A2 ++ B2 ++ Q))).map ot) := by rw [hS1]; simpa using q3
                 have q5 := q4
                 have hS1l := p1.length_eq
                 rw [List.length_append] at hS1l
                 have hf' := hfin' S1 (A2 ++ B2) p1 (List.Perm.refl _) p2 (srt_one sA.2 sB.2 (.inr (len0 (by omega))))
                 exact hk _ (S1 ++ (A2 ++ B2)) hf'.1 hf'.2 (by simpa using p3) q5)
      · by_cases hbe : s < md
        · by_cases hga : a < s
          · by_cases hde : e < c
            · first
              | omega
              | (simp (disch := omega) [-getElem?_pos, e7]
                 have q3 : Ows M 3 v ((fst (P ++ A1 ++ B1 ++ (A2 ++ B2 ++ Q))).map ot) := by rw [swap_nil (.inl (len0 (by omega)))] at hM; simpa using hM
                 have q4 : Stp m M v.fp v.fp := Stp.grow a4 _
                 refine IH (P := P) (A := A1) (B := B1) (Q := A2 ++ B2 ++ Q) (by omega) q3 (by simp; omega) ha (by omega) (by omega) (fun q => by subst q; simp at lA1; omega) (fun q => by subst q; simp at lB1; omega) sA.1 sB.1 hAB1 fun M3 S1 p1 p2 p3 p4 => ?_
                 have q5 := q4.trans p4
                 simp (disch := omega) [-getElem?_pos, e7]
                 have hS1l := p1.length_eq
                 rw [List.length_append] at hS1l
                 have hf' := hfin' S1 (A2 ++ B2) p1 (List.Perm.refl _) p2 (srt_one sA.2 sB.2 (.inl (len0 (by omega))))
                 exact hk _ (S1 ++ (A2 ++ B2)) hf'.1 hf'.2 (by simpa using p3) q5)
            · first
              | omega
              | (simp (disch := omega) [-getElem?_pos, e7]
                 have q3 : Ows M 3 v ((fst (P ++ A1 ++ B1 ++ (A2 ++ B2 ++ Q))).map ot) := by rw [swap_nil (.inl (len0 (by omega)))] at hM; simpa using hM
                 have q4 : Stp m M v.fp v.fp := Stp.grow a4 _
                 refine IH (P := P) (A := A1) (B := B1) (Q := A2 ++ B2 ++ Q) (by omega) q3 (by simp; omega) ha (by omega) (by omega) (fun q => by subst q; simp at lA1; omega) (fun q => by subst q; simp at lB1; omega) sA.1 sB.1 hAB1 fun M3 S1 p1 p2 p3 p4 => ?_
                 have q5 := q4.trans p4
                 simp (disch := omega) [-getElem?_pos, e7]
                 have hS1l := p1.length_eq
                 rw [List.length_append] at hS1l
                 have hf' := hfin' S1 (A2 ++ B2) p1 (List.Perm.refl _) p2 (srt_one sA.2 sB.2 (.inl (len0 (by omega))))
                 exact hk _ (S1 ++ (A2 ++ B2)) hf'.1 hf'.2 (by simpa using p3) q5)
          · by_cases hde : e < c
            · first
              | omega
              | (simp (disch := omega) [-getElem?_pos, e7]
                 have q3 : Ows M 3 v ((fst (P ++ A1 ++ B1 ++ (A2 ++ B2 ++ Q))).map ot) := by rw [swap_nil (.inl (len0 (by omega)))] at hM; simpa using hM
                 have q4 : Stp m M v.fp v.fp := Stp.grow a4 _
                 obtain ⟨S1, hS1⟩ : ∃ S1, S1 = A1 ++ B1 := ⟨_, rfl⟩
                 have p1 : S1.Perm (A1 ++ B1) := by rw [hS1]
                 have p2 : Srt S1 := by rw [hS1]; exact srt_one sA.1 sB.1 (.inl (len0 (by omega)))
                 have p3 : Ows M 3 v ((fst (P ++ S1 ++ (A2 ++ B2 ++ Q))).map ot) := by rw [hS1]; simpa using q3
                 have q5 := q4
                 have hS1l := p1.length_eq
                 rw [List.length_append] at hS1l
                 have hf' := hfin' S1 (A2 ++ B2) p1 (List.Perm.refl _) p2 (srt_one sA.2 sB.2 (.inl (len0 (by omega))))
                 exact hk _ (S1 ++ (A2 ++ B2)) hf'.1 hf'.2 (by simpa using p3) q5)
            · first
              | omega
              | (simp (disch := omega) [-getElem?_pos, e7]
                 have q3 : Ows M 3 v ((fst (P ++ A1 ++ B1 ++ (A2 ++ B2 ++ Q))).map ot) := by rw [swap_nil (.inl (len0 (by omega)))] at hM; simpa using hM
                 have q4 : Stp m M v.fp v.fp := Stp.grow a4 _
                 obtain ⟨S1, hS1⟩ : ∃ S1, S1 = A1 ++ B1 := ⟨_, rfl⟩
                 have p1 : S1.Perm (A1 ++ B1) := by rw [hS1]
                 have p2 : Srt S1 := by rw [hS1]; exact srt_one sA.1 sB.1 (.inl (len0 (by omega)))
                 have p3 : Ows M 3 v ((fst (P ++ S1 ++ (A2 ++ B2 ++ Q))).map ot) := by rw [hS1]; simpa using q3
                 have q5 := q4
                 have hS1l := p1.length_eq
                 rw [List.length_append] at hS1l
                 have hf' := hfin' S1 (A2 ++ B2) p1 (List.Perm.refl _) p2 (srt_one sA.2 sB.2 (.inl (len0 (by omega))))
                 exact hk _ (S1 ++ (A2 ++ B2)) hf'.1 hf'.2 (by simpa using p3) q5)
        · by_cases hga : a < s
          · by_cases hde : e < c
            · first
              | omega
              | (simp (disch := omega) [-getElem?_pos, e7]
                 have q3 : Ows M 3 v ((fst (P ++ A1 ++ B1 ++ (A2 ++ B2 ++ Q))).map ot) := by rw [swap_nil (.inl (len0 (by omega)))] at hM; simpa using hM
                 have q4 : Stp m M v.fp v.fp := Stp.grow a4 _
                 obtain ⟨S1, hS1⟩ : ∃ S1, S1 = A1 ++ B1 := ⟨_, rfl⟩
                 have p1 : S1.Perm (A1 ++ B1) := by rw [hS1]
                 have p2 : Srt S1 := by rw [hS1]; exact srt_one sA.1 sB.1 (.inr (len0 (by omega)))
                 have p3 : Ows M 3 v ((fst (P ++ S1 ++ (A2 ++ B2 ++ Q))).map ot) := by rw [hS1]; simpa using q3
                 have q5 := q4
                 have hS1l := p1.length_eq
                 rw [List.length_append] at hS1l
                 have hf' := hfin' S1 (A2 ++ B2) p1 (List.Perm.refl _) p2 (srt_one sA.2 sB.2 (.inl (len0 (by omega))))
                 exact hk _ (S1 ++ (A2 ++ B2)) hf'.1 hf'.2 (by simpa using p3) q5)
            · first
              | omega
              | (simp (disch := omega) [-getElem?_pos, e7]
                 have q3 : Ows M 3 v ((fst (P ++ A1 ++ B1 ++ (A2 ++ B2 ++ Q))).map ot) := by rw [swap_nil (.inl (len0 (by omega)))] at hM; simpa using hM
                 have q4 : Stp m M v.fp v.fp := Stp.grow a4 _
                 obtain ⟨S1, hS1⟩ : ∃ S1, S1 = A1 ++ B1 := ⟨_, rfl⟩
                 have p1 : S1.Perm (A1 ++ B1) := by rw [hS1]
                 have p2 : Srt S1 := by rw [hS1]; exact srt_one sA.1 sB.1 (.inr (len0 (by omega)))
                 have p3 : Ows M 3 v ((fst (P ++ S1 ++ (A2 ++ B2 ++ Q))).map ot) := by rw [hS1]; simpa using q3
                 have q5 := q4
                 have hS1l := p1.length_eq
                 rw [List.length_append] at hS1l
                 have hf' := hfin' S1 (A2 ++ B2) p1 (List.Perm.refl _) p2 (srt_one sA.2 sB.2 (.inl (len0 (by omega))))
                 exact hk _ (S1 ++ (A2 ++ B2)) hf'.1 hf'.2 (by simpa using p3) q5)
          · by_cases hde : e < c
            · first
              | omega
              | (simp (disch := omega) [-getElem?_pos, e7]
                 have q3 : Ows M 3 v ((fst (P ++ A1 ++ B1 ++ (A2 ++ B2 ++ Q))).map ot) := by rw [swap_nil (.inl (len0 (by omega)))] at hM; simpa using hM
                 have q4 : Stp m M v.fp v.fp := Stp.grow a4 _
                 obtain ⟨S1, hS1⟩ : ∃ S1, S1 = A1 ++ B1 := ⟨_, rfl⟩
                 have p1 : S1.Perm (A1 ++ B1) := by rw [hS1]
                 have p2 : Srt S1 := by rw [hS1]; exact srt_one sA.1 sB.1 (.inl (len0 (by omega)))
                 have p3 : Ows M 3 v ((fst (P ++ S1 ++ (A2 ++ B2 ++ Q))).map ot) := by rw [hS1]; simpa using q3
                 have q5 := q4
                 have hS1l := p1.length_eq
                 rw [List.length_append] at hS1l
                 have hf' := hfin' S1 (A2 ++ B2) p1 (List.Perm.refl _) p2 (srt_one sA.2 sB.2 (.inl (len0 (by omega))))
                 exact hk _ (S1 ++ (A2 ++ B2)) hf'.1 hf'.2 (by simpa using p3) q5)
            · first
              | omega
              | (simp (disch := omega) [-getElem?_pos, e7]
                 have q3 : Ows M 3 v ((fst (P ++ A1 ++ B1 ++ (A2 ++ B2 ++ Q))).map ot) := by rw [swap_nil (.inl (len0 (by omega)))] at hM; simpa using hM
                 have q4 : Stp m M v.fp v.fp := Stp.grow a4 _
                 obtain ⟨S1, hS1⟩ : ∃ S1, S1 = A1 ++ B1 := ⟨_, rfl⟩
                 have p1 : S1.Perm (A1 ++ B1) := by rw [hS1]
                 have p2 : Srt S1 := by rw [hS1]; exact srt_one sA.1 sB.1 (.inl (len0 (by omega)))
                 have p3 : Ows M 3 v ((fst (P ++ S1 ++ (A2 ++ B2 ++ Q))).map ot) := by rw [hS1]; simpa using q3
                 have q5 := q4
                 have hS1l := p1.length_eq
                 rw [List.length_append] at hS1l
                 have hf' := hfin' S1 (A2 ++ B2) p1 (List.Perm.refl _) p2 (srt_one sA.2 sB.2 (.inl (len0 (by omega))))
                 exact hk _ (S1 ++ (A2 ++ B2)) hf'.1 hf'.2 (by simpa using p3) q5)
    · simp (disch := omega) [-getElem?_pos, b31, hba, hcb, e1, e2, e4]
      refine exec_loopU (σ := Nat × Nat × Mem) (fun (s, r, _) => [(20, .int .i64 s), (21, .int .i64 r)]) (fun (_, _, M) => M) (fun (s, r, M) => a ≤ s ∧ s ≤ r ∧ r ≤ b ∧ m.Grew M ∧ (s = a ∨ ∃ x y, a < s ∧ A[s - 1 - a]? = some x ∧ B[n - s - b]? = some y ∧ ltT x y) ∧ (r = b ∨ ∃ x y, r < b ∧ A[r - a]? = some x ∧ B[pp - r - b]? = some y ∧ ltT y x)) (fun (s, r, _) => r - s) (a, b, m) rfl
        (by dsimp only; exact ⟨by omega, by omega, by omega, Mem.Grew.refl _, .inl rfl, .inl rfl⟩) (by simp) ?_
      intro (s, r, M) ⟨a1, a2, a3, a4, a5, a6⟩
      by_cases hsr : s < r
      · obtain ⟨cc, hcc⟩ : ∃ cc, (s + r) / 2 = cc := ⟨_, rfl⟩
        have e5 : Int.fdiv ((s : Int) + r) 2 = (cc : Int) := by rw [half s r (by omega), hcc]
        obtain ⟨pc, hpc⟩ : ∃ pc, pp - cc = pc := ⟨_, rfl⟩
        have e6 : (pp : Int) - cc = (pc : Int) := by omega
        obtain ⟨x, hx⟩ : ∃ x, A[cc - a]? = some x := ⟨_, List.getElem?_eq_getElem (by omega)⟩
        obtain ⟨y, hy⟩ : ∃ y, B[pp - cc - b]? = some y := ⟨_, List.getElem?_eq_getElem (by omega)⟩
        have hxy : x.2 < y.2 := hAB x (mem_of_idx hx) y (mem_of_idx hy)
        have g1 : (fst (P ++ A ++ B ++ Q))[pc]? = some y.1 := fst_get (P := P ++ A) hy (by simp; omega)
        have g2 : (fst (P ++ A ++ B ++ Q))[cc]? = some x.1 := by
          have e : P ++ A ++ B ++ Q = P ++ A ++ (B ++ Q) := by simp
          rw [e]; exact fst_get hx (by omega)
        obtain ⟨p, qi, qj, full, z1, z2, z3, z4, z5, z6, z7, z8, z9⟩ := two_at (h.grow a4) g1 g2 (by omega)
        simp only [ot] at z5 z6
        simp (disch := omega) [-getElem?_pos, e5, e6, z1, z2, z4, z5, z6]
        refine order19 (a := y.1) (b := x.1) fun M2 g => ?_
        by_cases hlt : ltO y.1 x.1
        · have hn' := ltO_cmp.2 hlt
          have hyx := (ltO_T hxy).1 hlt
          simp (disch := omega) [-getElem?_pos]
          exact again_mk (s, cc, M2) (by dsimp only; exact ⟨a1, by omega, by omega, a4.trans g, a5, .inr ⟨x, y, by omega, hx, hy, hyx⟩⟩) (by dsimp only; omega) (by simp) rfl
        · have hn' : ¬ cmpO y.1 x.1 < 0 := fun e => hlt (ltO_cmp.1 e)
          have hyx := (ltO_T2 hxy).1 hlt
          simp (disch := omega) [-getElem?_pos]
          exact again_mk (cc + 1, r, M2) (by dsimp only; exact ⟨by omega, by omega, a3, a4.trans g, .inr ⟨x, y, by omega, by rw [show cc + 1 - 1 - a = cc - a by omega]; exact hx, by rw [show n - (cc + 1) - b = pp - cc - b by omega]; exact hy, hyx⟩, a6⟩) (by dsimp only; omega) (by simp) rfl
      have hse : s = r := by omega
      subst hse
      obtain ⟨e, he⟩ : ∃ e, n - s = e := ⟨_, rfl⟩
      have e7 : (n : Int) - s = (e : Int) := by omega
      have X1 : ∀ x ∈ A.take (s - a), ∀ y ∈ B.drop (e - b), ltT x y := fun x hx y hy => by
        rcases a5 with w | ⟨x0, y0, w0, w1, w2, w3⟩
        · rw [show s - a = 0 by omega] at hx; cases hx
        · obtain ⟨i, hi, hx⟩ := mem_take_ix hx
          obtain ⟨j, hj, hy⟩ := mem_drop_ix hy
          have f1 : x = x0 ∨ ltT x x0 := by
            rcases Nat.lt_or_ge i (s - 1 - a) with q | q
            · exact .inr (hsA.at' q hx w1)
            · have : i = s - 1 - a := by omega
              subst this; rw [hx] at w1; injection w1 with w1; exact .inl w1
          have f2 : y = y0 ∨ ltT y0 y := by
            rcases Nat.lt_or_ge (n - s - b) j with q | q
            · exact .inr (hsB.at' q w2 hy)
            · have : j = n - s - b := by omega
              subst this; rw [hy] at w2; injection w2 with w2; exact .inl w2
          rcases f1 with rfl | f1 <;> rcases f2 with rfl | f2
          · exact w3
          · exact ltT_trans w3 f2
          · exact ltT_trans f1 w3
          · exact ltT_trans f1 (ltT_trans w3 f2)
      have X2 : ∀ y ∈ B.take (e - b), ∀ x ∈ A.drop (s - a), ltT y x := fun y hy x hx => by
        rcases a6 with w | ⟨x0, y0, w0, w1, w2, w3⟩
        · rw [List.drop_eq_nil_of_le (by omega)] at hx; cases hx
        · obtain ⟨i, hi, hx⟩ := mem_drop_ix hx
          obtain ⟨j, hj, hy⟩ := mem_take_ix hy
          have f1 : x = x0 ∨ ltT x0 x := by
            rcases Nat.lt_or_ge (s - a) i with q | q
            · exact .inr (hsA.at' q w1 hx)
            · have : i = s - a := by omega
              subst this; rw [hx] at w1; injection w1 with w1; exact .inl w1
          have f2 : y = y0 ∨ ltT y y0 := by
            rcases Nat.lt_or_ge j (pp - s - b) with q | q
            · exact .inr (hsB.at' q hy w2)
            · have : j = pp - s - b := by omega
              subst this; rw [hy] at w2; injection w2 with w2; exact .inl w2
          rcases f1 with rfl | f1 <;> rcases f2 with rfl | f2
          · exact w3
          · exact ltT_trans f2 w3
          · exact ltT_trans w3 f1
          · exact ltT_trans f2 (ltT_trans w3 f1)
      have hM := h.grow a4
      have hfin := @sym_fin A B
      have lA1 : (A.take (s - a)).length = s - a := by rw [List.length_take]; omega
      have lA2 : (A.drop (s - a)).length = b - s := by rw [List.length_drop]; omega
      have lB1 : (B.take (e - b)).length = e - b := by rw [List.length_take]; omega
      have lB2 : (B.drop (e - b)).length = c - e := by rw [List.length_drop]; omega
      have sA : Srt (A.take (s - a)) ∧ Srt (A.drop (s - a)) := ⟨hsA.sublist (List.take_sublist _ _), hsA.sublist (List.drop_sublist _ _)⟩
      have sB : Srt (B.take (e - b)) ∧ Srt (B.drop (e - b)) := ⟨hsB.sublist (List.take_sublist _ _), hsB.sublist (List.drop_sublist _ _)⟩
      have hAB1 : Ahd (A.take (s - a)) (B.take (e - b)) := fun x hx y hy => hAB x (List.mem_of_mem_take hx) y (List.mem_of_mem_take hy)
      have hAB2 : Ahd (A.drop (s - a)) (B.drop (e - b)) := fun x hx y hy => hAB x (List.mem_of_mem_drop hx) y (List.mem_of_mem_drop hy)
      have eM : P ++ A ++ B ++ Q = P ++ (A.take (s - a) ++ A.drop (s - a)) ++ (B.take (e - b) ++ B.drop (e - b)) ++ Q := by rw [List.take_append_drop, List.take_append_drop]
      rw [eM] at hM
      have hfin' : ∀ S1 S2, S1.Perm (A.take (s - a) ++ B.take (e - b)) → S2.Perm (A.drop (s - a) ++ B.drop (e - b)) → Srt S1 → Srt S2 → (S1 ++ S2).Perm (A ++ B) ∧ Srt (S1 ++ S2) := fun S1 S2 p1 p2 s1 s2 => hfin hsA hsB X1 X2 p1 p2 s1 s2
      clear X1 X2 hfin a5 a6 eM h hsA hsB hAB
      generalize A.take (s - a) = A1 at *
      generalize A.drop (s - a) = A2 at *
      generalize B.take (e - b) = B1 at *
      generalize B.drop (e - b) = B2 at *
      by_cases hal : s < b
      · by_cases hbe : s < md
        · by_cases hga : a < s
          · by_cases hde : e < c
            · first
              | omega
              | (simp (disch := omega) [-getElem?_pos, e7]
                 refine rotate_calls (P := fst (P ++ A1)) (X := fst A2) (Y := fst B1) (Q := fst (B2 ++ Q)) (by simpa using hM) (by simp; omega) (by simp; omega) (by simp; omega) (by simp; omega) (fun q => by have := congrArg List.length q; simp at this; subst this; simp at lA2; omega) (fun q => by have := congrArg List.length q; simp at this; subst this; simp at lB1; omega) fun M2 q1 q2 => ?_
                 have q3 : Ows M2 3 v ((fst (P ++ A1 ++ B1 ++ (A2 ++ B2 ++ Q))).map ot) := by simpa using q1
                 have q4 : Stp m M2 v.fp v.fp := (Stp.grow a4 _).trans q2
                 simp (disch := omega) [-getElem?_pos, e7]
                 refine IH (P := P) (A := A1) (B := B1) (Q := A2 ++ B2 ++ Q) (by omega) q3 (by simp; omega) ha (by omega) (by omega) (fun q => by subst q; simp at lA1; omega) (fun q => by subst q; simp at lB1; omega) sA.1 sB.1 hAB1 fun M3 S1 p1 p2 p3 p4 => ?_
                 have q5 := q4.trans p4
                 simp (disch := omega) [-getElem?_pos, e7]
                 have hS1l := p1.length_eq
                 rw [List.length_append] at hS1l
                 refine IH (P := P ++ S1) (A := A2) (B := B2) (Q := Q) (by omega) (by simpa using p3) (by simp; omega) (by simp; omega) (by simp; omega) (by simp; omega) (fun q => by subst q; simp at lA2; omega) (fun q => by subst q; simp at lB2; omega) sA.2 sB.2 hAB2 fun M4 S2 t1 t2 t3 t4 => ?_
                 have hf' := hfin' S1 S2 p1 t1 p2 t2
                 simp (disch := omega) [-getElem?_pos, e7]
                 exact hk _ (S1 ++ S2) hf'.1 hf'.2 (by simpa using t3) (q5.trans t4))
            · first
              | omega
              | (simp (disch := omega) [-getElem?_pos, e7]
                 refine rotate_calls (P := fst (P ++ A1)) (X := fst A2) (Y := fst B1) (Q := fst (B2 ++ Q)) (by simpa using hM) (by simp; omega) (by simp; omega) (by simp; omega) (by simp; omega) (fun q => by have := congrArg List.length q; simp at this; subst this; simp at lA2; omega) (fun q => by have := congrArg List.length q; simp at this; subst this; simp at lB1; omega) fun M2 q1 q2 => ?_
                 have q3 : Ows M2 3 v ((fst (P ++ A1 ++ B1 ++ (A2 ++ B2 ++ Q))).map ot) := by simpa using q1
                 have q4 : Stp m M2 v.fp v.fp := (Stp.grow a4 _).trans q2
                 simp (disch := omega) [-getElem?_pos, e7]
                 refine IH (P := P) (A := A1) (B := B1) (Q := A2 ++ B2 ++ Q) (by omega) q3 (by simp; omega) ha (by omega) (by omega) (fun q => by subst q; simp at lA1; omega) (fun q => by subst q; simp at lB1; omega) sA.1 sB.1 hAB1 fun M3 S1 p1 p2 p3 p4 => ?_
                 have q5 := q4.trans p4
                 simp (disch := omega) [-getElem?_pos, e7]
                 have hS1l := p1.length_eq
                 rw [List.length_append] at hS1l
                 have hf' := hfin' S1 (A2 ++ B2) p1 (List.Perm.refl _) p2 (srt_one sA.2 sB.2 (.inr (len0 (by omega))))
                 exact hk _ (S1 ++ (A2 ++ B2)) hf'.1 hf'.2 (by simpa using p3) q5)
          · by_cases hde : e < c
            · first
              | omega
              | (simp (disch := omega) [-getElem?_pos, e7]
                 refine rotate_calls (P := fst (P ++ A1)) (X := fst A2) (Y := fst B1) (Q := fst (B2 ++ Q)) (by simpa using hM) (by simp; omega) (by simp; omega) (by simp; omega) (by simp; omega) (fun q => by have := congrArg List.length q; simp at this; subst this; simp at lA2; omega) (fun q => by have := congrArg List.length q; simp at this; subst this; simp at lB1; omega) fun M2 q1 q2 => ?_
                 have q3 : Ows M2 3 v ((fst (P ++ A1 ++ B1 ++ (A2 ++ B2 ++ Q))).map ot) := by simpa using q1
                 have q4 : Stp m M2 v.fp v.fp := (Stp.grow a4 _).trans q2
                 simp (disch := omega) [-getElem?_pos, e7]
                 obtain ⟨S1, hS1⟩ : ∃ S1, S1 = A1 ++ B1 := ⟨_, rfl⟩
                 have p1 : S1.Perm (A1 ++ B1) := by rw [hS1]
                 have p2 : Srt S1 := by rw [hS1]; exact srt_one sA.1 sB.1 (.inl (len0 (by omega)))
                 have p3 : Ows M2 3 v ((fst (P ++ S1 ++ (A2 ++ B2 ++ Q))).map ot) := by rw [hS1]; simpa using q3
                 have q5 := q4
                 have hS1l := p1.length_eq
                 rw [List.length_append] at hS1l
                 refine IH (P := P ++ S1) (A := A2) (B := B2) (Q := Q) (by omega) (by simpa using p3) (by simp; omega) (by simp; omega) (by simp; omega) (by simp; omega) (fun q => by subst q; simp at lA2; omega) (fun q => by subst q; simp at lB2; omega) sA.2 sB.2 hAB2 fun M4 S2 t1 t2 t3 t4 => ?_
                 have hf' := hfin' S1 S2 p1 t1 p2 t2
                 simp (disch := omega) [-getElem?_pos, e7]
                 exact hk _ (S1 ++ S2) hf'.1 hf'.2 (by simpa using t3) (q5.trans t4))
            · first
              | omega
              | (simp (disch := omega) [-getElem?_pos, e7]
                 refine rotate_calls (P := fst (P ++ A1)) (X := fst A2) (Y := fst B1) (Q := fst (B2 ++ Q)) (by simpa using hM) (by simp; omega) (by simp; omega) (by simp; omega) (by simp; omega) (fun q => by have := congrArg List.length q; simp at this; subst this; simp at lA2; omega) (fun q => by have := congrArg List.length q; simp at this; subst this; simp at lB1; omega) fun M2 q1 q2 => ?_
                 have q3 : Ows M2 3 v ((fst (P ++ A1 ++ B1 ++ (A2 ++ B2 ++ Q))).map ot) := by simpa using q1
                 have q4 : Stp m M2 v.fp v.fp := (Stp.grow a4 _).trans q2
                 simp (disch := omega) [-getElem?_pos, e7]
                 obtain ⟨S1, hS1⟩ : ∃ S1, S1 = A1 ++ B1 := ⟨_, rfl⟩
                 have p1 : S1.Perm (A1 ++ B1) := by rw [hS1]
                 have p2 : Srt S1 := by rw [hS1]; exact srt_one sA.1 sB.1 (.inl (len0 (by omega)))
                 have p3 : Ows M2 3 v ((fst (P ++ S1 ++ (A2 ++ B2 ++ Q))).map ot) := by rw [hS1]; simpa using q3
                 have q5 := q4
                 have hS1l := p1.length_eq
                 rw [List.length_append] at hS1l
                 have hf' := hfin' S1 (A2 ++ B2) p1 (List.Perm.refl _) p2 (srt_one sA.2 sB.2 (.inr (len0 (by omega))))
                 exact hk _ (S1 ++ (A2 ++ B2)) hf'.1 hf'.2 (by simpa using p3) q5)
        · by_cases hga : a < s
          · by_cases hde : e < c
            · first
              | omega
              | (simp (disch := omega) [-getElem?_pos, e7]
                 have q3 : Ows M 3 v ((fst (P ++ A1 ++ B1 ++ (A2 ++ B2 ++ Q))).map ot) := by rw [swap_nil (.inr (len0 (by omega)))] at hM; simpa using hM
                 have q4 : Stp m M v.fp v.fp := Stp.grow a4 _
                 obtain ⟨S1, hS1⟩ : ∃ S1, S1 = A1 ++ B1 := ⟨_, rfl⟩
                 have p1 : S1.Perm (A1 ++ B1) := by rw [hS1]
                 have p2 : Srt S1 := by rw [hS1]; exact srt_one sA.1 sB.1 (.inr (len0 (by omega)))
                 have p3 : Ows M 3 v ((fst (P ++ S1 ++ (A2 ++ B2 ++ Q))).map ot) := by rw [hS1]; simpa using q3
                 have q5 := q4
                 have hS1l := p1.length_eq
                 rw [List.length_append] at hS1l
                 refine IH (P := P ++ S1) (A := A2) (B := B2) (Q := Q) (by omega) (by simpa using p3) (by simp; omega) (by simp; omega) (by simp; omega) (by simp; omega) (fun q => by subst q; simp at lA2; omega) (fun q => by subst q; simp at lB2; omega) sA.2 sB.2 hAB2 fun M4 S2 t1 t2 t3 t4 => ?_
                 have hf' := hfin' S1 S2 p1 t1 p2 t2
                 simp (disch := omega) [-getElem?_pos, e7]
                 exact hk _ (S1 ++ S2) hf'.1 hf'.2 (by simpa using t3) (q5.trans t4))
            · first
              | omega
              | (simp (disch := omega) [-getElem?_pos, e7]
                 have q3 : Ows M 3 v ((fst (P ++ A1 ++ B1 ++ (A2 ++ B2 ++ Q))).map ot) := by rw [swap_nil (.inr (len0 (by omega)))] at hM; simpa using hM
                 have q4 : Stp m M v.fp v.fp := Stp.grow a4 _
                 obtain ⟨S1, hS1⟩ : ∃ S1, S1 = A1 ++ B1 := ⟨_, rfl⟩
                 have p1 : S1.Perm (A1 ++ B1) := by rw [hS1]
                 have p2 : Srt S1 := by rw [hS1]; exact srt_one sA.1 sB.1 (.inr (len0 (by omega)))
                 have p3 : Ows M 3 v ((fst (P ++ S1 ++ (A2 ++ B2 ++ Q))).map ot) := by rw [hS1]; simpa using q3
                 have q5 := q4
                 have hS1l := p1.length_eq
                 rw [List.length_append] at hS1l
                 have hf' := hfin' S1 (A2 ++ B2) p1 (List.Perm.refl _) p2 (srt_one sA.2 sB.2 (.inr (len0 (by omega))))
                 exact hk _ (S1 ++ (A2 ++ B2)) hf'.1 hf'.2 (by simpa using p3) q5)
          · by_cases hde : e < c
            · first
              | omega
              | (simp (disch := omega) [-getElem?_pos, e7]
                 have q3 : Ows M 3 v ((fst (P ++ A1 ++ B1 ++ (A2 ++ B2 ++ Q))).map ot) := by rw [swap_nil (.inr (len0 (by omega)))] at hM; simpa using hM
                 have q4 : Stp m M v.fp v.fp := Stp.grow a4 _
                 obtain ⟨S1, hS1⟩ : ∃ S1, S1 = A1 ++ B1 := ⟨_, rfl⟩
                 have p1 : S1.Perm (A1 ++ B1) := by rw [hS1]
                 have p2 : Srt S1 := by rw [hS1]; exact srt_one sA.1 sB.1 (.inl (len0 (by omega)))
                 have p3 : Ows M 3 v ((fst (P ++ S1 ++ (A2 ++ B2 ++ Q))).map ot) := by rw [hS1]; simpa using q3
                 have q5 := q4
                 have hS1l := p1.length_eq
                 rw [List.length_append] at hS1l
                 refine IH (P := P ++ S1) (A := A2) (B := B2) (Q := Q) (by omega) (by simpa using p3) (by simp; omega) (by simp; omega) (by simp; omega) (by simp; omega) (fun q => by subst q; simp at lA2; omega) (fun q => by subst q; simp at lB2; omega) sA.2 sB.2 hAB2 fun M4 S2 t1 t2 t3 t4 => ?_
                 have hf' := hfin' S1 S2 p1 t1 p2 t2
                 simp (disch := omega) [-getElem?_pos, e7]
                 exact hk _ (S1 ++ S2) hf'.1 hf'.2 (by simpa using t3) (q5.trans t4))
            · first
              | omega
              | (simp (disch := omega) [-getElem?_pos, e7]
                 have q3 : Ows M 3 v ((fst (P ++ A1 ++ B1 ++ (A2 ++ B2 ++ Q))).map ot) := by rw [swap_nil (.inr (len0 (by omega)))] at hM; simpa using hM
                 have q4 : Stp m M v.fp v.fp := Stp.grow a4 _
                 obtain ⟨S1, hS1⟩ : ∃ S1, S1 = A1 ++ B1 := ⟨_, rfl⟩
                 have p1 : S1.Perm (A1 ++ B1) := by rw [hS1]
                 have p2 : Srt S1 := by rw [hS1]; exact srt_one sA.1 sB.1 (.inl (len0 (by omega)))
                 have p3 : Ows M 3 v ((fst (P ++ S1 ++ (A2 ++ B2 ++ Q))).map ot) := by rw [hS1]; simpa using q3
                 have q5 := q4
                 have hS1l := p1.length_eq
                 rw [List.length_append] at hS1l
                 have hf' := hfin' S1 (A2 ++ B2) p1 (List.Perm.refl _) p2 (srt_one sA.2 sB.2 (.inr (len0 (by omega))))
                 exact hk _ (S1 ++ (A2 ++ B2)) hf'.1 hf'.2 (by simpa using p3) q5)
      · by_cases hbe : s < md
        · by_cases hga : a < s
          · by_cases hde : e < c
            · first
              | omega
              | (simp (disch := omega) [-getElem?_pos, e7]
                 have q3 : Ows M 3 v ((fst (P ++ A1 ++ B1 ++ (A2 ++ B2 ++ Q))).map ot) := by rw [swap_nil (.inl (len0 (by omega)))] at hM; simpa using hM
                 have q4 : Stp m M v.fp v.fp := Stp.grow a4 _
                 refine IH (P := P) (A := A1) (B := B1) (Q := A2 ++ B2 ++ Q) (by omega) q3 (by simp; omega) ha (by omega) (by omega) (fun q => by subst q; simp at lA1; omega) (fun q => by subst q; simp at lB1; omega) sA.1 sB.1 hAB1 fun M3 S1 p1 p2 p3 p4 => ?_
                 have q5 := q4.trans p4
                 simp (disch := omega) [-getElem?_pos, e7]
                 have hS1l := p1.length_eq
                 rw [List.length_append] at hS1l
                 have hf' := hfin' S1 (A2 ++ B2) p1 (List.Perm.refl _) p2 (srt_one sA.2 sB.2 (.inl (len0 (by omega))))
                 exact hk _ (S1 ++ (A2 ++ B2)) hf'.1 hf'.2 (by simpa using p3) q5)
            · first
              | omega
              | (simp (disch := omega) [-getElem?_pos, e7]
                 have q3 : Ows M 3 v ((fst (P ++ A1 ++ B1 ++ (A2 ++ B2 ++ Q))).map ot) := by rw [swap_nil (.inl (len0 (by omega)))] at hM; simpa using hM
                 have q4 : Stp m M v.fp v.fp := Stp.grow a4 _
                 refine IH (P := P) (A := A1) (B := B1) (Q := A2 ++ B2 ++ Q) (by omega) q3 (by simp; omega) ha (by omega) (by omega) (fun q => by subst q; simp at lA1; omega) (fun q => by subst q; simp at lB1; omega) sA.1 sB.1 hAB1 fun M3 S1 p1 p2 p3 p4 => ?_
                 have q5 := q4.trans p4
                 simp (disch := omega) [-getElem?_pos, e7]
                 have hS1l := p1.length_eq
                 rw [List.length_append] at hS1l
                 have hf' := hfin' S1 (A2 ++ B2) p1 (List.Perm.refl _) p2 (srt_one sA.2 sB.2 (.inl (len0 (by omega))))
                 exact hk _ (S1 ++ (A2 ++ B2)) hf'.1 hf'.2 (by simpa using p3) q5)
          · by_cases hde : e < c
            · first
              | omega
              | (simp (disch := omega) [-getElem?_pos, e7]
                 have q3 : Ows M 3 v ((fst (P ++ A1 ++ B1 ++ (A2 ++ B2 ++ Q))).map ot) := by rw [swap_nil (.inl (len0 (by omega)))] at hM; simpa using hM
                 have q4 : Stp m M v.fp v.fp := Stp.grow a4 _
                 obtain ⟨S1, hS1⟩ : ∃ S1, S1 = A1 ++ B1 := ⟨_, rfl⟩
                 have p1 : S1.Perm (A1 ++ B1) := by rw [hS1]
                 have p2 : Srt S1 := by rw [hS1]; exact srt_one sA.1 sB.1 (.inl (len0 (by omega)))
                 have p3 : Ows M 3 v ((fst (P ++ S1 ++ (A2 ++ B2 ++ Q))).map ot) := by rw [hS1]; simpa using q3
                 have q5 := q4
                 have hS1l := p1.length_eq
                 rw [List.length_append] at hS1l
                 have hf' := hfin' S1 (A2 ++ B2) p1 (List.Perm.refl _) p2 (srt_one sA.2 sB.2 (.inl (len0 (by omega))))
                 exact hk _ (S1 ++ (A2 ++ B2)) hf'.1 hf'.2 (by simpa using p3) q5)
            · first
              | omega
              | (simp (disch := omega) [-getElem?_pos, e7]
                 have q3 : Ows M 3 v ((fst (P ++ A1 ++ B1 ++ (A2 ++ B2 ++ Q))).map ot) := by rw [swap_nil (.inl (len0 (by omega)))] at hM; simpa using hM
                 have q4 : Stp m M v.fp v.fp := Stp.grow a4 _
                 obtain ⟨S1, hS1⟩ : ∃ S1, S1 = A1 ++ B1 := ⟨_, rfl⟩
                 have p1 : S1.Perm (A1 ++ B1) := by rw [hS1]
                 have p2 : Srt S1 := by rw [hS1]; exact srt_one sA.1 sB.1 (.inl (len0 (by omega)))
                 have p3 : Ows M 3 v ((fst (P ++ S1 ++ (A2 ++ B2 ++ Q))).map ot) := by rw [hS1]; simpa using q3
                 have q5 := q4
                 have hS1l := p1.length_eq
                 rw [List.length_append] at hS1l
                 have hf' := hfin' S1 (A2 ++ B2) p1 (List.Perm.refl _) p2 (srt_one sA.2 sB.2 (.inl (len0 (by omega))))
                 exact hk _ (S1 ++ (A2 ++ B2)) hf'.1 hf'.2 (by simpa using p3) q5)
        · by_cases hga : a < s
          · by_cases hde : e < c
            · first
              | omega
              | (simp (disch := omega) [-getElem?_pos, e7]
                 have q3 : Ows M 3 v ((fst (P ++ A1 ++ B1 ++ (A2 ++ B2 ++ Q))).map ot) := by rw [swap_nil (.inl (len0 (by omega)))] at hM; simpa using hM
                 have q4 : Stp m M v.fp v.fp := Stp.grow a4 _
                 obtain ⟨S1, hS1⟩ : ∃ S1, S1 = A1 ++ B1 := ⟨_, rfl⟩
                 have p1 : S1.Perm (A1 ++ B1) := by rw [hS1]
                 have p2 : Srt S1 := by rw [hS1]; exact srt_one sA.1 sB.1 (.inr (len0 (by omega)))
                 have p3 : Ows M 3 v ((fst (P ++ S1 ++ (A2 ++ B2 ++ Q))).map ot) := by rw [hS1]; simpa using q3
                 have q5 := q4
                 have hS1l := p1.length_eq
                 rw [List.length_append] at hS1l
                 have hf' := hfin' S1 (A2 ++ B2) p1 (List.Perm.refl _) p2 (srt_one sA.2 sB.2 (.inl (len0 (by omega))))
                 exact hk _ (S1 ++ (A2 ++ B2)) hf'.1 hf'.2 (by simpa using p3) q5)
            · first
              | omega
              | (simp (disch := omega) [-getElem?_pos, e7]
                 have q3 : Ows M 3 v ((fst (P ++ A1 ++ B1 ++ (A2 ++ B2 ++ Q))).map ot) := by rw [swap_nil (.inl (len0 (by omega)))] at hM; simpa using hM
                 have q4 : Stp m M v.fp v.fp := Stp.grow a4 _
                 obtain ⟨S1, hS1⟩ : ∃ S1, S1 = A1 ++ B1 := ⟨_, rfl⟩
                 have p1 : S1.Perm (A1 ++ B1) := by rw [hS1]
                 have p2 : Srt S1 := by rw [hS1]; exact srt_one sA.1 sB.1 (.inr (len0 (by omega)))
                 have p3 : Ows M 3 v ((fst (P ++ S1 ++ (A2 ++ B2 ++ Q))).map ot) := by rw [hS1]; simpa using q3
                 have q5 := q4
                 have hS1l := p1.length_eq
                 rw [List.length_append] at hS1l
                 have hf' := hfin' S1 (A2 ++ B2) p1 (List.Perm.refl _) p2 (srt_one sA.2 sB.2 (.inl (len0 (by omega))))
                 exact hk _ (S1 ++ (A2 ++ B2)) hf'.1 hf'.2 (by simpa using p3) q5)
          · by_cases hde : e < c
            · first
              | omega
              | (simp (disch := omega) [-getElem?_pos, e7]
                 have q3 : Ows M 3 v ((fst (P ++ A1 ++ B1 ++ (A2 ++ B2 ++ Q))).map ot) := by rw [swap_nil (.inl (len0 (by omega)))] at hM; simpa using hM
                 have q4 : Stp m M v.fp v.fp := Stp.grow a4 _
                 obtain ⟨S1, hS1⟩ : ∃ S1, S1 = A1 ++ B1 := ⟨_, rfl⟩
                 have p1 : S1.Perm (A1 ++ B1) := by rw [hS1]
                 have p2 : Srt S1 := by rw [hS1]; exact srt_one sA.1 sB.1 (.inl (len0 (by omega)))
                 have p3 : Ows M 3 v ((fst (P ++ S1 ++ (A2 ++ B2 ++ Q))).map ot) := by rw [hS1]; simpa using q3
                 have q5 := q4
                 have hS1l := p1.length_eq
                 rw [List.length_append] at hS1l
                 have hf' := hfin' S1 (A2 ++ B2) p1 (List.Perm.refl _) p2 (srt_one sA.2 sB.2 (.inl (len0 (by omega))))
                 exact hk _ (S1 ++ (A2 ++ B2)) hf'.1 hf'.2 (by simpa using p3) q5)
            · first
              | omega
              | (simp (disch := omega) [-getElem?_pos, e7]
                 have q3 : Ows M 3 v ((fst (P ++ A1 ++ B1 ++ (A2 ++ B2 ++ Q))).map ot) := by rw [swap_nil (.inl (len0 (by omega)))] at hM; simpa using hM
                 have q4 : Stp m M v.fp v.fp := Stp.grow a4 _
                 obtain ⟨S1, hS1⟩ : ∃ S1, S1 = A1 ++ B1 := ⟨_, rfl⟩
                 have p1 : S1.Perm (A1 ++ B1) := by rw [hS1]
                 have p2 : Srt S1 := by rw [hS1]; exact srt_one sA.1 sB.1 (.inl (len0 (by omega)))
                 have p3 : Ows M 3 v ((fst (P ++ S1 ++ (A2 ++ B2 ++ Q))).map ot) := by rw [hS1]; simpa using q3
                 have q5 := q4
                 have hS1l := p1.length_eq
                 rw [List.length_append] at hS1l
                 have hf' := hfin' S1 (A2 ++ B2) p1 (List.Perm.refl _) p2 (srt_one sA.2 sB.2 (.inl (len0 (by omega))))
                 exact hk _ (S1 ++ (A2 ++ B2)) hf'.1 hf'.2 (by simpa using p3) q5)
end Go.Proofs.Ythkopgcdghbjlaa
