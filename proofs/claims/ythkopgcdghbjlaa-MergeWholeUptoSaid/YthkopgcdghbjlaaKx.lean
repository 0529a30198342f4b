/-
  THE STABLE SORT.
-/
import Derived.Test.YthkopgcdghbjlaaIx
namespace Go.Proofs.Ythkopgcdghbjlaa
open Go Go.AM
set_option linter.unusedVariables false
set_option linter.unusedSimpArgs false
set_option maxRecDepth 60000
set_option maxHeartbeats 8000000

/-- Blocks of so many, each sorted; all of one came ahead of all of a later one. -/
def Run (c : Nat) (L : List Tg) : Prop := ∀ i j x y, i < j → L[i]? = some x → L[j]? = some y → (i / c = j / c → ltT x y) ∧ (i / c < j / c → x.2 < y.2)
theorem Run.nil (c : Nat) : Run c [] := fun i j x y _ h => by simp at h
theorem Run.add {c : Nat} (hc : 0 < c) {D S : List Tg} (hD : Run c D) (hd : D.length % c = 0) (hS : Srt S) (hl : S.length ≤ c) (ha : ∀ x ∈ D, ∀ y ∈ S, x.2 < y.2) : Run c (D ++ S) := by
  obtain ⟨k, hk⟩ : ∃ k, D.length = c * k := ⟨D.length / c, by have := Nat.div_add_mod D.length c; omega⟩
  intro i j x y hij hx hy
  have hxl := (List.getElem?_eq_some_iff.1 hx).1
  have hyl := (List.getElem?_eq_some_iff.1 hy).1
  rw [List.length_append] at hxl hyl
  rcases Nat.lt_or_ge j D.length with w | w
  · rw [List.getElem?_append_left w] at hy
    rw [List.getElem?_append_left (by omega)] at hx
    exact hD i j x y hij hx hy
  · rw [List.getElem?_append_right w] at hy
    have hjk : j / c = k ∨ k < j / c := by
      have : k ≤ j / c := by rw [Nat.le_div_iff_mul_le hc, Nat.mul_comm]; omega
      omega
    rcases Nat.lt_or_ge i D.length with w2 | w2
    · rw [List.getElem?_append_left w2] at hx
      have : i / c < k := by rw [Nat.div_lt_iff_lt_mul hc, Nat.mul_comm]; omega
      exact ⟨fun e => by omega, fun _ => ha x (mem_of_idx hx) y (mem_of_idx hy)⟩
    · rw [List.getElem?_append_right w2] at hx
      have h1 : ltT x y := hS.at' (by omega) hx hy
      refine ⟨fun _ => h1, fun e => ?_⟩
      exfalso
      have hi : k ≤ i / c := by rw [Nat.le_div_iff_mul_le hc, Nat.mul_comm]; omega
      have hj : j / c < k + 1 := by rw [Nat.div_lt_iff_lt_mul hc, Nat.add_mul, Nat.mul_comm k c]; omega
      omega
theorem Run.ahd {c : Nat} (hc : 0 < c) {L : List Tg} (h : Run c L) {p : Nat} (hp : p % c = 0) {i j : Nat} {x y : Tg} (hi : i < p) (hj : p ≤ j) (hx : L[i]? = some x) (hy : L[j]? = some y) : x.2 < y.2 := by
  obtain ⟨k, hk⟩ : ∃ k, p = c * k := ⟨p / c, by have := Nat.div_add_mod p c; omega⟩
  refine (h i j x y (by omega) hx hy).2 ?_
  have h1 : i / c < k := by rw [Nat.div_lt_iff_lt_mul hc, Nat.mul_comm]; omega
  have h2 : k ≤ j / c := by rw [Nat.le_div_iff_mul_le hc, Nat.mul_comm]; omega
  omega
theorem Run.srt {c : Nat} (hc : 0 < c) {L : List Tg} (h : Run c L) {p k : Nat} (hp : p % c = 0) (hk : k ≤ c) : Srt ((L.drop p).take k) := by
  obtain ⟨q, hq⟩ : ∃ q, p = c * q := ⟨p / c, by have := Nat.div_add_mod p c; omega⟩
  refine List.pairwise_iff_getElem.2 fun i j hi hj hij => ?_
  rw [List.length_take, List.length_drop] at hi hj
  have hx : L[p + i]? = some ((L.drop p).take k)[i] := by
    rw [← List.getElem?_drop, ← List.getElem?_take_of_lt (j := k) (by omega), List.getElem?_eq_getElem]
  have hy : L[p + j]? = some ((L.drop p).take k)[j] := by
    rw [← List.getElem?_drop, ← List.getElem?_take_of_lt (j := k) (by omega), List.getElem?_eq_getElem]
  refine (h (p + i) (p + j) _ _ (by omega) hx hy).1 ?_
  have e1 : (p + i) / c = q := by rw [hq, Nat.mul_add_div hc, Nat.div_eq_of_lt (by omega)]; omega
  have e2 : (p + j) / c = q := by rw [hq, Nat.mul_add_div hc, Nat.div_eq_of_lt (by omega)]; omega
  rw [e1, e2]
theorem seg_split {α : Type} (L : List α) (a k : Nat) : L = L.take a ++ (L.drop a).take k ++ (L.drop a).drop k := by
  rw [List.append_assoc, List.take_append_drop, List.take_append_drop]

theorem stable_calls {m : Mem} {v : V} {T : List Tg} (h : Ows m 3 v ((fst T).map ot)) (hl : T.length ≤ 2000000) (hT : T.Pairwise fun x y => x.2 < y.2) {n : Nat} (hn : n = T.length) {K : KV}
    (hk : ∀ m' S, S.Perm T → Srt S → Ows m' 3 v ((fst S).map ot) → Stp m m' v.fp v.fp → K (.tup []) m') : ACalls Try.prog 26 [v, .int .i64 n, .fn 19 [] []] m K := by
  refine run_on (ctx_nil _) hm c26 (by simp) fun hf => ?_
  simp (disch := omega) [-getElem?_pos, b26]
  have hTt : ∀ {i j : Nat} {x y : Tg}, i < j → T[i]? = some x → T[j]? = some y → x.2 < y.2 := fun {i j x y} hij hx hy => by
    have h1 := List.getElem?_eq_some_iff.1 hx
    have h2 := List.getElem?_eq_some_iff.1 hy
    have := List.pairwise_iff_getElem.1 hT i j h1.1 h2.1 hij
    rw [h1.2, h2.2] at this; exact this
  have blk : ∀ (D : List Tg) (a k : Nat) (S : List Tg), a % 20 = 0 → a ≤ n → D.Perm (T.take a) → Run 20 D → S.Perm ((T.drop a).take k) → Srt S → k ≤ 20 → (D ++ S).Perm (T.take (a + k)) ∧ Run 20 (D ++ S) := fun D a k S ha hae pD rD pS sS hk20 => by
    have hDl := pD.length_eq
    have hSl := pS.length_eq
    rw [List.length_take] at hDl hSl
    refine ⟨?_, rD.add (by omega) (by rw [hDl, Nat.min_eq_left (by omega)]; exact ha) sS (by omega) fun x hx y hy => ?_⟩
    · rw [List.take_add]; exact pD.append pS
    · obtain ⟨i, hi, hx⟩ := mem_take_ix (pD.subset hx)
      obtain ⟨j, hj, hy⟩ := mem_take_ix (pS.subset hy)
      rw [List.getElem?_drop] at hy
      exact hTt (by omega) hx hy
  refine exec_loopU (σ := Nat × Nat × List Tg × Mem) (fun (a, b, _, _) => [(7, .int .i64 a), (8, .int .i64 b)]) (fun (_, _, _, M) => M) (fun (a, b, D, M) => b = a + 20 ∧ a ≤ n ∧ a % 20 = 0 ∧ D.Perm (T.take a) ∧ Run 20 D ∧ Ows M 3 v ((fst (D ++ T.drop a)).map ot) ∧ Stp m M v.fp v.fp) (fun (a, _, _, _) => n - a) (0, 20, [], m) rfl
    (by dsimp only; exact ⟨rfl, by omega, rfl, List.Perm.refl _, Run.nil _, by simpa using h, Stp.refl _ _⟩) (by simp) ?_
  intro (a, b, D, M) ⟨a1, a2, a3, a4, a5, a6, a7⟩
  have hDl := a4.length_eq
  rw [List.length_take, Nat.min_eq_left (by omega)] at hDl
  by_cases hb : b ≤ n
  · have e : D ++ T.drop a = D ++ (T.drop a).take 20 ++ T.drop b := by rw [a1, List.append_assoc, ← List.drop_drop, List.take_append_drop]
    rw [e] at a6
    have hs20 : ((T.drop a).take 20).length = 20 := by rw [List.length_take, List.length_drop]; omega
    simp (disch := omega) [-getElem?_pos]
    refine insertion_calls a6 (by simp; omega) (by omega) (by omega) ((hT.sublist (List.drop_sublist _ _)).sublist (List.take_sublist _ _)) fun M2 S p1 p2 p3 p4 => ?_
    obtain ⟨q1, q2⟩ := blk D a 20 S a3 a2 a4 a5 p1 p2 (by omega)
    simp (disch := omega) [-getElem?_pos]
    exact again_mk (b, b + 20, D ++ S, M2) (by dsimp only; exact ⟨rfl, hb, by omega, by rw [a1]; exact q1, q2, p3, a7.trans p4⟩) (by dsimp only; omega) (by simp) rfl
  have hsl : (T.drop a).length = n - a := by rw [List.length_drop, hn]
  have e : D ++ T.drop a = D ++ T.drop a ++ [] := by simp
  rw [e] at a6
  simp (disch := omega) [-getElem?_pos]
  refine insertion_calls a6 (by simp; omega) (by omega) (by omega) (hT.sublist (List.drop_sublist _ _)) fun M2 S p1 p2 p3 p4 => ?_
  obtain ⟨q1, q2⟩ := blk D a (n - a) S a3 a2 a4 a5 (by rw [List.take_of_length_le (by omega)]; exact p1) p2 (by omega)
  rw [show a + (n - a) = T.length by omega, List.take_length] at q1
  rw [List.append_nil] at p3
  have s2 := a7.trans p4
  generalize D ++ S = L at *
  clear a1 a2 a3 a4 a5 a6 a7 hDl hb hsl e p1 p2 p4 hf h hT hTt blk
  simp (disch := omega) [-getElem?_pos]
  refine exec_loopU (σ := Nat × List Tg × Mem) (fun (c, _, _) => [(6, .int .i64 c)]) (fun (_, _, M) => M) (fun (c, L, M) => 0 < c ∧ c ≤ 8000000 ∧ L.Perm T ∧ Run c L ∧ Ows M 3 v ((fst L).map ot) ∧ Stp m M v.fp v.fp) (fun (c, _, _) => 8000001 - c) (20, L, M2) rfl
    (by dsimp only; exact ⟨by omega, by omega, q1, q2, p3, s2⟩) (by simp) ?_
  clear q1 q2 p3 s2
  intro (c, L, M) ⟨a1, a2, a3, a4, a5, a6⟩
  have hLl := a3.length_eq
  by_cases hc : c < n
  case neg =>
    simp (disch := omega) [-getElem?_pos]
    refine hk _ L a3 ?_ a5 a6
    have := a4.srt a1 (p := 0) (k := L.length) (by simp) (by omega)
    simpa using this
  obtain ⟨c2, hc2⟩ : ∃ c2, 2 * c = c2 := ⟨_, rfl⟩
  have hci : 2 * (c : Int) = (c2 : Int) := by omega
  have hcc : ∀ a, a % c2 = 0 → a % c = 0 := fun a ha => by
    rw [← hc2] at ha
    exact Nat.mod_eq_zero_of_dvd (Nat.dvd_trans ⟨2, by rw [Nat.mul_comm]⟩ (Nat.dvd_of_mod_eq_zero ha))
  have blk : ∀ (D : List Tg) (a k : Nat) (S : List Tg), a % c2 = 0 → a ≤ n → D.Perm (L.take a) → Run c2 D → S.Perm ((L.drop a).take k) → Srt S → k ≤ c2 → (D ++ S).Perm (L.take (a + k)) ∧ Run c2 (D ++ S) := fun D a k S ha hae pD rD pS sS hk20 => by
    have hDl := pD.length_eq
    have hSl := pS.length_eq
    rw [List.length_take] at hDl hSl
    refine ⟨?_, rD.add (by omega) (by rw [hDl, Nat.min_eq_left (by omega)]; exact ha) sS (by omega) fun x hx y hy => ?_⟩
    · rw [List.take_add]; exact pD.append pS
    · obtain ⟨i, hi, hx⟩ := mem_take_ix (pD.subset hx)
      obtain ⟨j, hj, hy⟩ := mem_take_ix (pS.subset hy)
      rw [List.getElem?_drop] at hy
      exact a4.ahd a1 (hcc a ha) (by omega) (by omega) hx hy
  have hseg : ∀ a, a % c2 = 0 → ∀ B', B' = L.drop (a + c) ∨ B' = (L.drop (a + c)).take c → Ahd ((L.drop a).take c) B' := fun a ha B' hB x hx y hy => by
    obtain ⟨i, hi, hx⟩ := mem_take_ix hx
    rw [List.getElem?_drop] at hx
    have hp : (a + c) % c = 0 := by rw [Nat.add_mod_right]; exact hcc a ha
    rcases hB with rfl | rfl
    · obtain ⟨j, hj⟩ := List.mem_iff_getElem?.1 hy
      rw [List.getElem?_drop] at hj
      exact a4.ahd a1 hp (by omega) (by omega) hx hj
    · obtain ⟨j, hj, hy⟩ := mem_take_ix hy
      rw [List.getElem?_drop] at hy
      exact a4.ahd a1 hp (by omega) (by omega) hx hy
  have hsub : ∀ a k, a % c = 0 → k ≤ c → Srt ((L.drop a).take k) := fun a k ha hk => a4.srt a1 ha hk
  simp (disch := omega) [-getElem?_pos, hci]
  refine exec_loopU (σ := Nat × Nat × List Tg × Mem) (fun (a, b, _, _) => [(7, .int .i64 a), (8, .int .i64 b)]) (fun (_, _, _, M) => M) (fun (a, b, D, M') => b = a + c2 ∧ a ≤ n ∧ a % c2 = 0 ∧ D.Perm (L.take a) ∧ Run c2 D ∧ Ows M' 3 v ((fst (D ++ L.drop a)).map ot) ∧ Stp M M' v.fp v.fp) (fun (a, _, _, _) => n - a) (0, c2, [], M) rfl
    (by dsimp only; exact ⟨by omega, by omega, by simp, List.Perm.refl _, Run.nil _, by simpa using a5, Stp.refl _ _⟩) (by simp) ?_
  intro (a, b, D, M') ⟨b1, b2, b3, b4, b5, b6, b7⟩
  have hDl := b4.length_eq
  rw [List.length_take, Nat.min_eq_left (by omega)] at hDl
  have hac := hcc a b3
  obtain ⟨mm, hmm⟩ : ∃ mm, a + c = mm := ⟨_, rfl⟩
  have hmi : (a : Int) + c = (mm : Int) := by omega
  have hmc : mm % c = 0 := by rw [← hmm, Nat.add_mod_right]; exact hac
  have hlA : ((L.drop a).take c).length = min c (n - a) := by rw [List.length_take, List.length_drop]; omega
  by_cases hb : b ≤ n
  · have hlB : ((L.drop mm).take c).length = c := by rw [List.length_take, List.length_drop]; omega
    have e : D ++ L.drop a = D ++ (L.drop a).take c ++ (L.drop mm).take c ++ L.drop b := by
      have e1 : L.drop b = (L.drop mm).drop c := by rw [List.drop_drop]; congr 1; omega
      have e2 : L.drop mm = (L.drop a).drop c := by rw [List.drop_drop, hmm]
      rw [e1, List.append_assoc, List.take_append_drop, e2, List.append_assoc, List.take_append_drop]
    rw [e] at b6
    simp (disch := omega) [-getElem?_pos, hmi]
    refine sym_calls _ (Nat.le_refl _) b6 (by rw [← e]; simp; omega) (by omega) (by omega) (by omega) (fun q => by rw [q] at hlA; simp at hlA; omega) (fun q => by rw [q] at hlB; simp at hlB; omega) (hsub a c hac (Nat.le_refl _)) (hsub mm c hmc (Nat.le_refl _)) (by rw [← hmm]; exact hseg a b3 _ (.inr rfl)) fun M3 S p1 p2 p3 p4 => ?_
    have eS : (L.drop a).take c ++ (L.drop mm).take c = (L.drop a).take c2 := by
      rw [← hc2, Nat.two_mul, List.take_add, List.drop_drop, hmm]
    rw [eS] at p1
    obtain ⟨q1, q2⟩ := blk D a c2 S b3 b2 b4 b5 p1 p2 (Nat.le_refl _)
    simp (disch := omega) [-getElem?_pos, hci]
    exact again_mk (b, b + c2, D ++ S, M3) (by dsimp only; exact ⟨rfl, hb, by rw [b1, Nat.add_mod_right]; exact b3, by rw [b1]; exact q1, q2, p3, b7.trans p4⟩) (by dsimp only; omega) (by simp) rfl
  obtain ⟨c3, hc3⟩ : ∃ c3, c * 2 = c3 := ⟨_, rfl⟩
  have hc3i : (c : Int) * 2 = (c3 : Int) := by omega
  have hc32 : c3 = c2 := by omega
  by_cases hmn : mm < n
  · have hlB : (L.drop mm).length = n - mm := by rw [List.length_drop]; omega
    have e : D ++ L.drop a = D ++ (L.drop a).take c ++ L.drop mm ++ [] := by
      have e2 : L.drop mm = (L.drop a).drop c := by rw [List.drop_drop, hmm]
      rw [List.append_nil, e2, List.append_assoc, List.take_append_drop]
    rw [e] at b6
    have hsB : Srt (L.drop mm) := by
      have := hsub mm (n - mm) hmc (by omega)
      rwa [List.take_of_length_le (by omega)] at this
    simp (disch := omega) [-getElem?_pos, hmi]
    refine sym_calls _ (Nat.le_refl _) b6 (by rw [← e]; simp; omega) (by omega) (by omega) (by omega) (fun q => by rw [q] at hlA; simp at hlA; omega) (fun q => by rw [q] at hlB; simp at hlB; omega) (hsub a c hac (Nat.le_refl _)) hsB (by rw [← hmm]; exact hseg a b3 _ (.inl rfl)) fun M3 S p1 p2 p3 p4 => ?_
    have eS : (L.drop a).take c ++ L.drop mm = (L.drop a).take (n - a) := by
      have e2 : L.drop mm = (L.drop a).drop c := by rw [List.drop_drop, hmm]
      rw [e2, List.take_append_drop, List.take_of_length_le (by rw [List.length_drop]; omega)]
    rw [eS] at p1
    obtain ⟨q1, q2⟩ := blk D a (n - a) S b3 b2 b4 b5 p1 p2 (by omega)
    rw [show a + (n - a) = L.length by omega, List.take_length] at q1
    rw [List.append_nil] at p3
    simp (disch := omega) [-getElem?_pos, hc3i]
    exact again_mk (c3, D ++ S, M3) (by dsimp only; exact ⟨by omega, by omega, q1.trans a3, by rw [hc32]; exact q2, p3, (a6.trans b7).trans p4⟩) (by dsimp only; omega) (by simp) rfl
  · have hsA : Srt (L.drop a) := by
      have := hsub a (n - a) hac (by omega)
      rwa [List.take_of_length_le (by rw [List.length_drop]; omega)] at this
    obtain ⟨q1, q2⟩ := blk D a (n - a) (L.drop a) b3 b2 b4 b5 (by rw [List.take_of_length_le (by rw [List.length_drop]; omega)]) hsA (by omega)
    rw [show a + (n - a) = L.length by omega, List.take_length] at q1
    simp (disch := omega) [-getElem?_pos, hmi, hc3i]
    exact again_mk (c3, D ++ L.drop a, M') (by dsimp only; exact ⟨by omega, by omega, q1.trans a3, by rw [hc32]; exact q2, b6, a6.trans b7⟩) (by dsimp only; omega) (by simp) rfl

/-- slices.SortStableFunc, of what comes out. -/
theorem sort_stable {m : Mem} {v : V} {L : List Ot} (h : Ows m 3 v (L.map ot)) (hl : L.length ≤ 2000000) {K : KV}
    (hk : ∀ m' S, S.Perm L.zipIdx → Srt S → Ows m' 3 v ((fst S).map ot) → Stp m m' v.fp v.fp → K (.tup []) m') : ACalls Try.prog 18 [v, .fn 19 [] []] m K := by
  refine run_on (ctx_nil _) hm c18 (by simp) fun hf => ?_
  have hv := h.sl.lenSl
  rw [List.length_map] at hv
  have e : fst L.zipIdx = L := by simp [List.zipIdx_map_fst]
  simp (disch := omega) [-getElem?_pos, b18, hv]
  refine stable_calls (T := L.zipIdx) (by rw [e]; exact h) (by simpa using hl) ?_ (by simp) fun m' S p1 p2 p3 p4 => ?_
  · refine List.pairwise_iff_getElem.2 fun i j hi hj hij => ?_
    simp; exact hij
  · simp (disch := omega) [-getElem?_pos]
    exact hk m' S p1 p2 p3 p4
end Go.Proofs.Ythkopgcdghbjlaa
