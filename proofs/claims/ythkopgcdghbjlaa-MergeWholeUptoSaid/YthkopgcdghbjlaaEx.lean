/-
  WHAT IS TAKEN, in plain words: rows of which so many were put and so many taken.
  WHAT IS PUT AND TAKEN, in plain words: what holds behind each.
  ALL THAT THE LAW OF THE WHOLE HAS: the merger, how many were put, what was taken, what it should be.
-/
import Derived.Test.YthkopgcdghbjlaaUx
import Derived.Test.YthkopgcdghbjlaaPx
namespace Go.Proofs.Ythkopgcdghbjlaa
open Go Go.AM
set_option linter.unusedVariables false
set_option linter.unusedSimpArgs false
set_option maxRecDepth 60000
set_option maxHeartbeats 8000000

/-! ### sums -/
def sumZ : Nat → (Nat → Int) → Int
  | 0, _ => 0
  | n + 1, f => sumZ n f + f n
theorem sumZ_congr {f g : Nat → Int} : ∀ {n : Nat}, (∀ i, i < n → g i = f i) → sumZ n g = sumZ n f
  | 0, _ => rfl
  | n + 1, h => by simp only [sumZ]; rw [sumZ_congr fun i hi => h i (by omega), h n (by omega)]
theorem sumZ_chg {f g : Nat → Int} {i : Nat} : ∀ {n : Nat}, i < n → (∀ j, j < n → j ≠ i → g j = f j) → sumZ n g = sumZ n f + (g i - f i)
  | 0, hi, _ => by omega
  | n + 1, hi, h => by
    simp only [sumZ]
    by_cases e : i = n
    · subst e
      rw [sumZ_congr fun j hj => h j (by omega) (by omega)]; omega
    · rw [sumZ_chg (i := i) (by omega) fun j hj hji => h j (by omega) hji, h n (by omega) (fun q => e q.symm)]; omega
theorem sumZ_nonneg {f : Nat → Int} : ∀ {n : Nat}, (∀ i, i < n → 0 ≤ f i) → 0 ≤ sumZ n f
  | 0, _ => by simp [sumZ]
  | n + 1, h => by simp only [sumZ]; have := sumZ_nonneg (f := f) (n := n) fun i hi => h i (by omega); have := h n (by omega); omega
theorem sumZ_zero {f : Nat → Int} : ∀ {n : Nat}, (∀ i, i < n → 0 ≤ f i) → sumZ n f = 0 → ∀ i, i < n → f i = 0
  | 0, _, _ => fun i hi => by omega
  | n + 1, h, e => fun i hi => by
    simp only [sumZ] at e
    have h1 := sumZ_nonneg (f := f) (n := n) fun i hi => h i (by omega)
    have h2 := h n (by omega)
    by_cases q : i = n
    · subst q; omega
    · exact sumZ_zero (n := n) (fun i hi => h i (by omega)) (by omega) i (by omega)
theorem sumZ_pos {f : Nat → Int} : ∀ {n : Nat}, 0 < sumZ n f → ∃ i, i < n ∧ 0 < f i
  | 0, e => by simp [sumZ] at e
  | n + 1, e => by
    simp only [sumZ] at e
    by_cases q : 0 < f n
    · exact ⟨n, by omega, q⟩
    · obtain ⟨i, h1, h2⟩ := sumZ_pos (n := n) (f := f) (by omega)
      exact ⟨i, by omega, h2⟩
theorem sumZ_le {f : Nat → Int} : ∀ {n : Nat}, (∀ i, i < n → f i ≤ 1) → sumZ n f ≤ n
  | 0, _ => by simp [sumZ]
  | n + 1, h => by simp only [sumZ]; have := sumZ_le (f := f) (n := n) fun i hi => h i (by omega); have := h n (by omega); omega

/-! ### rows -/
def rwL (Ls : List (List It)) (i : Nat) : List It := Ls.getD i []
theorem rwL_get {Ls : List (List It)} {i : Nat} (h : i < Ls.length) : Ls[i]? = some (rwL Ls i) := by
  unfold rwL; rw [List.getD_eq_getElem?_getD, List.getElem?_eq_getElem h]; rfl
def frO (Ls : List (List It)) (i k : Nat) : Ot := ((nthP (rwL Ls i) k).1, (nthP (rwL Ls i) k).2, (i : Int))
def tgO (Ls : List (List It)) (i k : Nat) : Tg := (frO Ls i k, (flatO (Ls.take i) 0).length + k)
theorem tag_mem (Ls : List (List It)) (x : Tg) : ∀ n, n ≤ Ls.length → (x ∈ (flatO (Ls.take n) 0).zipIdx ↔ ∃ i k, i < n ∧ k < (rwL Ls i).length ∧ x = tgO Ls i k)
  | 0, _ => by simp [flatO]
  | n + 1, h => by
    rw [flatO_take (rwL_get (Ls := Ls) (i := n) (by omega)), List.zipIdx_append, List.mem_append, tag_mem Ls x n (by omega)]
    obtain ⟨y, c⟩ := x
    rw [Nat.zero_add, List.mk_mem_zipIdx_iff_le_and_getElem?_sub]
    constructor
    · rintro (⟨i, k, h1, h2, h3⟩ | ⟨h1, h2⟩)
      · exact ⟨i, k, by omega, h2, h3⟩
      · obtain ⟨h3, h4⟩ := List.getElem?_eq_some_iff.1 h2
        have hl : (rowO (rwL Ls n) n).length = (rwL Ls n).length := by unfold rowO; rw [List.length_map]
        rw [hl] at h3
        refine ⟨n, c - (flatO (Ls.take n) 0).length, by omega, h3, ?_⟩
        unfold tgO frO
        unfold rowO at h2
        rw [List.getElem?_map, nthP_get h3] at h2
        simp only [Option.map_some, Option.some.injEq] at h2
        rw [← h2]
        congr 1
        omega
    · rintro ⟨i, k, h1, h2, h3⟩
      by_cases e : i = n
      · subst e
        right
        unfold tgO frO at h3
        injection h3 with h3 h4
        subst h4
        refine ⟨by omega, ?_⟩
        unfold rowO
        rw [show (flatO (Ls.take i) 0).length + k - (flatO (Ls.take i) 0).length = k by omega, List.getElem?_map, nthP_get h2, h3]; rfl
      · exact .inl ⟨i, k, by omega, h2, h3⟩
theorem adj_mono {l : List It} (h : Adj l) {i : Nat} : ∀ {j : Nat}, i ≤ j → j < l.length → (nthP l i).1 ≤ (nthP l j).1
  | 0, h1, _ => by have : i = 0 := by omega
                   subst this; exact Int.le_refl _
  | j + 1, h1, h2 => by
    by_cases e : i = j + 1
    · subst e; exact Int.le_refl _
    · exact Int.le_trans (adj_mono h (by omega) (by omega)) (h j (by omega))

/-- Two that are sorted, and have the same, are the same. -/
theorem srt_ext : ∀ {A B : List Tg}, Srt A → Srt B → (∀ x, x ∈ A ↔ x ∈ B) → A = B
  | [], [], _, _, _ => rfl
  | [], b :: B, _, _, h => by have := (h b).2 (by simp); cases this
  | a :: A, [], _, _, h => by have := (h a).1 (by simp); cases this
  | a :: A, b :: B, hA, hB, h => by
    obtain ⟨a1, a2⟩ := List.pairwise_cons.1 hA
    obtain ⟨b1, b2⟩ := List.pairwise_cons.1 hB
    have irr : ∀ x : Tg, ¬ ltT x x := fun x e => ltT_asym e e
    have hab : a = b := by
      rcases List.mem_cons.1 ((h a).1 (by simp)) with e | e
      · exact e
      · rcases List.mem_cons.1 ((h b).2 (by simp)) with f | f
        · exact f.symm
        · exact absurd (a1 b f) (ltT_asym (b1 a e))
    subst hab
    rw [srt_ext a2 b2 fun x => ⟨fun hx => by
      rcases List.mem_cons.1 ((h x).1 (by simp [hx])) with e | e
      · subst e; exact absurd (a1 x hx) (irr x)
      · exact e, fun hx => by
      rcases List.mem_cons.1 ((h x).2 (by simp [hx])) with e | e
      · subst e; exact absurd (b1 x hx) (irr x)
      · exact e⟩]

open Go Go.AM
set_option linter.unusedVariables false
set_option linter.unusedSimpArgs false
set_option maxRecDepth 60000
set_option maxHeartbeats 8000000

structure Pn (Ls : List (List It)) (N : Nat) (a t : Nat → Nat) (cl : Nat → Bool) (L : List Ot) (nn bb : Int) (R : Nat → Rec) (G : List Tg) : Prop where
  ta : ∀ i, i < N → t i ≤ a i
  al : ∀ i, i < N → a i ≤ (rwL Ls i).length
  Ri : ∀ i, i < N → ∃ v la so, R i = ⟨v, ((rwL Ls i).take (a i)).drop (t i + 1), la, so, decide (t i < a i), cl i⟩ ∧ (so = true → 0 < a i ∧ la = (nthP (rwL Ls i) (a i - 1)).1)
  cd : ∀ i, i < N → cl i = true → a i = (rwL Ls i).length
  Lm : ∀ y, y ∈ L ↔ ∃ i, i < N ∧ t i < a i ∧ y = frO Ls i (t i)
  Ln : (L.map fun y => y.2.2).Nodup
  Ll : (L.length : Int) = sumZ N fun i => if t i < a i then 1 else 0
  nq : nn = sumZ N fun i => (a i : Int) - t i
  bq : bb = sumZ N fun i => if cl i = false ∧ ¬ t i < a i then 1 else 0
  G1 : Srt G
  G2 : ∀ g, g ∈ G ↔ ∃ i k, i < N ∧ k < t i ∧ g = tgO Ls i k
  G3 : ∀ g ∈ G, ∀ i k, i < N → t i ≤ k → k < (rwL Ls i).length → ltT g (tgO Ls i k)

section
variable {Ls : List (List It)} {N : Nat} {a t : Nat → Nat} {cl : Nat → Bool} {L : List Ot} {nn bb : Int} {R : Nat → Rec} {G : List Tg}

theorem Pn.lenL (h : Pn Ls N a t cl L nn bb R G) : L.length ≤ N := by
  have h1 := h.Ll
  have := sumZ_le (f := fun i => if t i < a i then 1 else 0) (n := N) fun i _ => by split <;> omega
  omega
theorem Pn.nn0 (h : Pn Ls N a t cl L nn bb R G) : 0 ≤ nn := by
  rw [h.nq]; exact sumZ_nonneg fun i hi => by have := h.ta i hi; omega
theorem Pn.bb0 (h : Pn Ls N a t cl L nn bb R G) : 0 ≤ bb ∧ bb ≤ N := by
  rw [h.bq]
  exact ⟨sumZ_nonneg fun i hi => by split <;> omega, sumZ_le fun i hi => by split <;> omega⟩
theorem Pn.anyL (h : Pn Ls N a t cl L nn bb R G) (hn : 0 < nn) : 0 < L.length := by
  rw [h.nq] at hn
  obtain ⟨i, h1, h2⟩ := sumZ_pos hn
  have : frO Ls i (t i) ∈ L := (h.Lm _).2 ⟨i, h1, by omega, rfl⟩
  exact List.length_pos_of_mem this
theorem Pn.rowN (h : Pn Ls N a t cl L nn bb R G) : ∀ x ∈ L, ∃ i : Nat, i < N ∧ x.2.2 = (i : Int) := fun x hx => by
  obtain ⟨i, h1, _, h3⟩ := (h.Lm x).1 hx
  exact ⟨i, h1, by rw [h3]; rfl⟩
theorem Pn.lenS (h : Pn Ls N a t cl L nn bb R G) {i : Nat} (hi : i < N) : (R i).S.length ≤ (rwL Ls i).length := by
  obtain ⟨v, la, so, e, _⟩ := h.Ri i hi
  rw [e]; simp; omega
theorem Pn.notL (h : Pn Ls N a t cl L nn bb R G) {i : Nat} (hi : ¬ t i < a i) : (i : Int) ∉ L.map fun y => y.2.2 := fun e => by
  obtain ⟨y, hy, e⟩ := List.mem_map.1 e
  obtain ⟨j, h1, h2, h3⟩ := (h.Lm y).1 hy
  rw [h3] at e
  have : (j : Int) = (i : Int) := e
  have : j = i := by omega
  subst this; exact hi h2

theorem setv_eq {α : Type} (v : Nat → α) (s : Nat) (x : α) (i : Nat) : setv v s x i = if i = s then x else v i := rfl
/-- One more is put behind a row of which one waits. -/
theorem Pn.put (h : Pn Ls N a t cl L nn bb R G) {i : Nat} (hi : i < N) (hlt : t i < a i) (ha : a i < (rwL Ls i).length) (hc : cl i = false) (u : V) :
    Pn Ls N (setv a i (a i + 1)) t cl L (nn + 1) bb (setv R i ⟨u, ((rwL Ls i).take (a i)).drop (t i + 1) ++ [nthP (rwL Ls i) (a i)], (nthP (rwL Ls i) (a i)).1, true, true, false⟩) G := by
  have hta := h.ta i hi
  refine ⟨fun j hj => ?_, fun j hj => ?_, fun j hj => ?_, fun j hj hcj => ?_, fun y => (h.Lm y).trans ⟨?_, ?_⟩, h.Ln, ?_, ?_, ?_, h.G1, h.G2, h.G3⟩
  · rw [setv_eq]; split
    · rename_i e; subst e; omega
    · exact h.ta j hj
  · rw [setv_eq]; split
    · rename_i e; subst e; omega
    · exact h.al j hj
  · by_cases e : j = i
    · subst e
      rw [setv_self, setv_self]
      refine ⟨u, _, true, ?_, fun _ => ⟨by omega, rfl⟩⟩
      rw [takeS (nthP_get ha), List.drop_append_of_le_length (by rw [List.length_take]; omega), hc, decide_eq_true (by omega)]
      simp
    · rw [setv_ne _ _ e, setv_ne _ _ e]; exact h.Ri j hj
  · by_cases e : j = i
    · subst e; rw [hc] at hcj; cases hcj
    · rw [setv_ne _ _ e]; exact h.cd j hj hcj
  · rintro ⟨j, h1, h2, h3⟩
    refine ⟨j, h1, ?_, h3⟩
    rw [setv_eq]; split
    · rename_i e; subst e; omega
    · exact h2
  · rintro ⟨j, h1, h2, h3⟩
    refine ⟨j, h1, ?_, h3⟩
    rw [setv_eq] at h2; split at h2
    · rename_i e; subst e; omega
    · exact h2
  · rw [h.Ll]
    refine (sumZ_congr fun j hj => ?_).symm
    by_cases e : j = i
    · subst e; rw [setv_self, if_pos (by omega), if_pos hlt]
    · rw [setv_ne _ _ e]
  · rw [h.nq, sumZ_chg (i := i) (f := fun i => (a i : Int) - t i) (g := fun j => ((setv a i (a i + 1) j : Nat) : Int) - t j) hi (fun j hj e => by rw [setv_ne _ _ e])]
    rw [setv_self]; omega
  · rw [h.bq]
    refine (sumZ_congr fun j hj => ?_).symm
    by_cases e : j = i
    · subst e; rw [setv_self, if_neg (by omega), if_neg (by omega)]
    · rw [setv_ne _ _ e]
/-- One is put into a row of which none waits. -/
theorem Pn.put1 (h : Pn Ls N a t cl L nn bb R G) {i : Nat} (hi : i < N) (hlt : ¬ t i < a i) (ha : a i < (rwL Ls i).length) (hc : cl i = false) {L' : List Ot} (hL : L'.Perm (((nthP (rwL Ls i) (a i)).1, (nthP (rwL Ls i) (a i)).2, (i : Int)) :: L)) (u : V) :
    Pn Ls N (setv a i (a i + 1)) t cl L' (nn + 1) (bb - 1) (setv R i ⟨u, [], (nthP (rwL Ls i) (a i)).1, true, true, false⟩) G := by
  have hta := h.ta i hi
  have e0 : t i = a i := by omega
  refine ⟨fun j hj => ?_, fun j hj => ?_, fun j hj => ?_, fun j hj hcj => ?_, fun y => ?_, ?_, ?_, ?_, ?_, h.G1, h.G2, h.G3⟩
  · rw [setv_eq]; split
    · rename_i e; subst e; omega
    · exact h.ta j hj
  · rw [setv_eq]; split
    · rename_i e; subst e; omega
    · exact h.al j hj
  · by_cases e : j = i
    · subst e
      rw [setv_self, setv_self]
      refine ⟨u, _, true, ?_, fun _ => ⟨by omega, rfl⟩⟩
      rw [List.drop_of_length_le (by rw [List.length_take]; omega), hc, decide_eq_true (by omega)]
      simp
    · rw [setv_ne _ _ e, setv_ne _ _ e]; exact h.Ri j hj
  · by_cases e : j = i
    · subst e; rw [hc] at hcj; cases hcj
    · rw [setv_ne _ _ e]; exact h.cd j hj hcj
  · rw [hL.mem_iff, List.mem_cons, h.Lm y]
    constructor
    · rintro (rfl | ⟨j, h1, h2, h3⟩)
      · exact ⟨i, hi, by rw [setv_self]; omega, by unfold frO; rw [e0]⟩
      · refine ⟨j, h1, ?_, h3⟩
        rw [setv_eq]; split
        · rename_i e; subst e; omega
        · exact h2
    · rintro ⟨j, h1, h2, h3⟩
      by_cases e : j = i
      · subst e; left; rw [h3]; unfold frO; rw [e0]
      · rw [setv_ne _ _ e] at h2; exact .inr ⟨j, h1, h2, h3⟩
  · refine (List.Perm.nodup_iff (hL.map _)).2 ?_
    rw [List.map_cons, List.nodup_cons]
    exact ⟨h.notL hlt, h.Ln⟩
  · rw [hL.length_eq, List.length_cons, Int.natCast_add, h.Ll, sumZ_chg (i := i) (f := fun i => if t i < a i then 1 else 0) (g := fun j => if t j < setv a i (a i + 1) j then 1 else 0) hi (fun j hj e => by rw [setv_ne _ _ e])]
    rw [setv_self, if_pos (by omega), if_neg hlt]; omega
  · rw [h.nq, sumZ_chg (i := i) (f := fun i => (a i : Int) - t i) (g := fun j => ((setv a i (a i + 1) j : Nat) : Int) - t j) hi (fun j hj e => by rw [setv_ne _ _ e])]
    rw [setv_self]; omega
  · rw [h.bq, sumZ_chg (i := i) (f := fun i => if cl i = false ∧ ¬ t i < a i then 1 else 0) (g := fun j => if cl j = false ∧ ¬ t j < setv a i (a i + 1) j then 1 else 0) hi (fun j hj e => by rw [setv_ne _ _ e])]
    rw [setv_self, if_neg (by omega), if_pos ⟨hc, hlt⟩]; omega
/-- A row is closed. -/
theorem Pn.close (h : Pn Ls N a t cl L nn bb R G) {i : Nat} (hi : i < N) (ha : a i = (rwL Ls i).length) (hc : cl i = false) {v : V} {S : List It} {la : Int} {so fr c : Bool} (hR : R i = ⟨v, S, la, so, fr, c⟩) :
    Pn Ls N a t (setv cl i true) L nn (if fr then bb else bb - 1) (setv R i ⟨v, S, la, so, fr, true⟩) G := by
  obtain ⟨v', la', so', e1, e2⟩ := h.Ri i hi
  rw [hR] at e1
  injection e1 with q1 q2 q3 q4 q5 q6
  refine ⟨h.ta, h.al, fun j hj => ?_, fun j hj hcj => ?_, h.Lm, h.Ln, h.Ll, h.nq, ?_, h.G1, h.G2, h.G3⟩
  · by_cases e : j = i
    · subst e
      rw [setv_self, setv_self]
      exact ⟨v, la, so, by rw [q2, q5], by rw [q3, q4]; exact e2⟩
    · rw [setv_ne _ _ e, setv_ne _ _ e]; exact h.Ri j hj
  · by_cases e : j = i
    · subst e; exact ha
    · rw [setv_ne _ _ e] at hcj; exact h.cd j hj hcj
  · have hs := sumZ_chg (i := i) (f := fun i => if cl i = false ∧ ¬ t i < a i then 1 else 0) (g := fun j => if setv cl i true j = false ∧ ¬ t j < a j then 1 else 0) hi (fun j hj e => by rw [setv_ne _ _ e])
    rw [setv_self] at hs
    rw [hs, ← h.bq]
    by_cases w : t i < a i
    · have hf : fr = true := by rw [q5]; exact decide_eq_true w
      simp [hf, w]
    · have hf : fr = false := by rw [q5]; exact decide_eq_false w
      simp [hf, w, hc]; omega
/-- All that waits behind the one that is taken comes behind it. -/
theorem Pn.after (h : Pn Ls N a t cl L nn 0 R G) (hAdj : ∀ i, i < N → Adj (rwL Ls i)) {i : Nat} (hi : i < N) (hlt : t i < a i) (hmin : ∀ y ∈ L, leO (frO Ls i (t i)) y) :
    ∀ j k, j < N → setv t i (t i + 1) j ≤ k → k < (rwL Ls j).length → ltT (tgO Ls i (t i)) (tgO Ls j k) := by
  intro j k hj hk hkl
  by_cases e : j = i
  · subst e
    rw [setv_self] at hk
    have := adj_mono (hAdj j hj) (i := t j) (j := k) (by omega) hkl
    unfold ltT tgO frO; dsimp only
    omega
  · rw [setv_ne _ _ e] at hk
    have hb := sumZ_zero (f := fun i => if cl i = false ∧ ¬ t i < a i then 1 else 0) (n := N) (fun i _ => by split <;> omega) h.bq.symm j hj
    have hj2 : cl j = true ∨ t j < a j := by
      by_cases w : cl j = false ∧ ¬ t j < a j
      · rw [if_pos w] at hb; omega
      · by_cases w2 : t j < a j
        · exact .inr w2
        · left
          cases hcj : cl j with
          | true => rfl
          | false => exact absurd ⟨hcj, w2⟩ w
    have hj3 : t j < a j := by
      rcases hj2 with w | w
      · have := h.cd j hj w; omega
      · exact w
    have hm := hmin (frO Ls j (t j)) ((h.Lm _).2 ⟨j, hj, hj3, rfl⟩)
    have ham := adj_mono (hAdj j hj) (i := t j) (j := k) hk hkl
    unfold leO ltO frO at hm
    unfold ltT tgO frO
    dsimp only at hm ⊢
    omega
theorem Pn.nextG (h : Pn Ls N a t cl L nn 0 R G) (hAdj : ∀ i, i < N → Adj (rwL Ls i)) {i : Nat} (hi : i < N) (hlt : t i < a i) (hmin : ∀ y ∈ L, leO (frO Ls i (t i)) y) :
    Srt (G ++ [tgO Ls i (t i)]) ∧ (∀ g, g ∈ G ++ [tgO Ls i (t i)] ↔ ∃ j k, j < N ∧ k < setv t i (t i + 1) j ∧ g = tgO Ls j k) ∧ ∀ g ∈ G ++ [tgO Ls i (t i)], ∀ j k, j < N → setv t i (t i + 1) j ≤ k → k < (rwL Ls j).length → ltT g (tgO Ls j k) := by
  have hal := h.al i hi
  refine ⟨List.pairwise_append.2 ⟨h.G1, by simp, fun g hg x hx => ?_⟩, fun g => ?_, fun g hg j k hj hk hkl => ?_⟩
  · simp only [List.mem_singleton] at hx; subst hx
    exact h.G3 g hg i (t i) hi (Nat.le_refl _) (by omega)
  · rw [List.mem_append, h.G2, List.mem_singleton]
    constructor
    · rintro (⟨j, k, h1, h2, h3⟩ | rfl)
      · refine ⟨j, k, h1, ?_, h3⟩
        rw [setv_eq]; split
        · rename_i e; subst e; omega
        · exact h2
      · exact ⟨i, t i, hi, by rw [setv_self]; omega, rfl⟩
    · rintro ⟨j, k, h1, h2, h3⟩
      by_cases e : j = i
      · subst e
        rw [setv_self] at h2
        by_cases e2 : k = t j
        · subst e2; exact .inr h3
        · exact .inl ⟨j, k, h1, by omega, h3⟩
      · rw [setv_ne _ _ e] at h2; exact .inl ⟨j, k, h1, h2, h3⟩
  · rcases List.mem_append.1 hg with hg | hg
    · refine h.G3 g hg j k hj ?_ hkl
      rw [setv_eq] at hk; split at hk
      · rename_i e; subst e; omega
      · exact hk
    · simp only [List.mem_singleton] at hg; subst hg
      exact h.after hAdj hi hlt hmin j k hj hk hkl
/-- Which one it is. -/
theorem Pn.who (h : Pn Ls N a t cl L nn 0 R G) {x : Ot} {L' : List Ot} (hp : L.Perm (x :: L')) {i : Nat} (hx : x.2.2 = (i : Int)) : i < N ∧ t i < a i ∧ x = frO Ls i (t i) ∧ (L'.map fun y => y.2.2).Nodup ∧ (i : Int) ∉ (L'.map fun y => y.2.2) := by
  obtain ⟨j, h1, h2, h3⟩ := (h.Lm x).1 (hp.symm.subset (by simp))
  have e : (j : Int) = (i : Int) := by rw [← hx, h3]; rfl
  have e2 : j = i := by omega
  subst e2
  have := (List.Perm.nodup_iff (hp.map _)).1 h.Ln
  rw [List.map_cons, List.nodup_cons, hx] at this
  exact ⟨h1, h2, h3, this.2, this.1⟩
/-- The last one that waits is taken. -/
theorem Pn.take1 (h : Pn Ls N a t cl L nn 0 R G) (hAdj : ∀ i, i < N → Adj (rwL Ls i)) {x : Ot} {L' : List Ot} (hp : L.Perm (x :: L')) (hmin : ∀ y ∈ L, leO x y) {i : Nat} (hx : x.2.2 = (i : Int)) {v : V} {la : Int} {so fr c : Bool} (hR : R i = ⟨v, [], la, so, fr, c⟩) :
    x = (tgO Ls i (t i)).1 ∧ Pn Ls N a (setv t i (t i + 1)) cl L' (nn - 1) (if c then 0 else 1) (setv R i ⟨v, [], la, so, false, c⟩) (G ++ [tgO Ls i (t i)]) := by
  obtain ⟨hi, hlt, hxe, hnd, hni⟩ := h.who hp hx
  have hal := h.al i hi
  obtain ⟨v', la', so', e1, e2⟩ := h.Ri i hi
  rw [hR] at e1
  injection e1 with q1 q2 q3 q4 q5 q6
  have hae : a i = t i + 1 := by
    have := congrArg List.length q2
    rw [List.length_drop, List.length_take] at this
    simp only [List.length_nil] at this
    omega
  rw [hxe] at hmin
  obtain ⟨g1, g2, g3⟩ := h.nextG hAdj hi hlt hmin
  refine ⟨hxe, fun j hj => ?_, h.al, fun j hj => ?_, h.cd, fun y => ?_, hnd, ?_, ?_, ?_, g1, g2, g3⟩
  · rw [setv_eq]; split
    · rename_i e; subst e; omega
    · exact h.ta j hj
  · by_cases e : j = i
    · subst e
      rw [setv_self, setv_self]
      refine ⟨v, la, so, ?_, by rw [q3, q4]; exact e2⟩
      rw [List.drop_of_length_le (by rw [List.length_take]; omega), decide_eq_false (by omega), q6]
    · rw [setv_ne _ _ e, setv_ne _ _ e]; exact h.Ri j hj
  · have hy : y ∈ L' ↔ y ∈ L ∧ y.2.2 ≠ (i : Int) := by
      rw [hp.mem_iff, List.mem_cons]
      constructor
      · intro w
        exact ⟨.inr w, fun e => hni (List.mem_map.2 ⟨y, w, e⟩)⟩
      · rintro ⟨rfl | w, w2⟩
        · exact absurd hx w2
        · exact w
    rw [hy, h.Lm]
    constructor
    · rintro ⟨⟨j, h1, h2, h3⟩, h4⟩
      have e : j ≠ i := fun e => h4 (by rw [h3, e]; rfl)
      exact ⟨j, h1, by rw [setv_ne _ _ e]; exact h2, by rw [setv_ne _ _ e]; exact h3⟩
    · rintro ⟨j, h1, h2, h3⟩
      by_cases e : j = i
      · subst e; rw [setv_self] at h2; omega
      · rw [setv_ne _ _ e] at h2 h3
        refine ⟨⟨j, h1, h2, h3⟩, fun w => e ?_⟩
        rw [h3] at w
        have : (j : Int) = (i : Int) := w
        omega
  · have hl := hp.length_eq
    rw [List.length_cons] at hl
    have := h.Ll
    rw [sumZ_chg (i := i) (f := fun i => if t i < a i then 1 else 0) (g := fun j => if setv t i (t i + 1) j < a j then 1 else 0) hi (fun j hj e => by rw [setv_ne _ _ e]), ← this]
    rw [setv_self, if_neg (by omega), if_pos hlt]; omega
  · rw [h.nq, sumZ_chg (i := i) (f := fun i => (a i : Int) - t i) (g := fun j => (a j : Int) - (setv t i (t i + 1) j : Nat)) hi (fun j hj e => by rw [setv_ne _ _ e])]
    rw [setv_self]; omega
  · rw [sumZ_chg (i := i) (f := fun i => if cl i = false ∧ ¬ t i < a i then 1 else 0) (g := fun j => if cl j = false ∧ ¬ setv t i (t i + 1) j < a j then 1 else 0) hi (fun j hj e => by rw [setv_ne _ _ e]), ← h.bq]
    rw [setv_self, q6]
    cases hcl : cl i with
    | true => simp
    | false => simp [hlt, show ¬ t i + 1 < a i by omega]
/-- One is taken behind which another one waits. -/
theorem Pn.take2 (h : Pn Ls N a t cl L nn 0 R G) (hAdj : ∀ i, i < N → Adj (rwL Ls i)) {x : Ot} {L' L'' : List Ot} (hp : L.Perm (x :: L')) (hmin : ∀ y ∈ L, leO x y) {i : Nat} (hx : x.2.2 = (i : Int)) {v : V} {y : It} {S' : List It} {la : Int} {so fr c : Bool} (hR : R i = ⟨v, y :: S', la, so, fr, c⟩) (hp2 : L''.Perm ((y.1, y.2, (i : Int)) :: L')) (u : V) :
    x = (tgO Ls i (t i)).1 ∧ Pn Ls N a (setv t i (t i + 1)) cl L'' (nn - 1) 0 (setv R i ⟨u, S', la, so, true, c⟩) (G ++ [tgO Ls i (t i)]) := by
  obtain ⟨hi, hlt, hxe, hnd, hni⟩ := h.who hp hx
  have hal := h.al i hi
  obtain ⟨v', la', so', e1, e2⟩ := h.Ri i hi
  rw [hR] at e1
  injection e1 with q1 q2 q3 q4 q5 q6
  have hlt2 : t i + 1 < a i := by
    have := congrArg List.length q2
    rw [List.length_drop, List.length_take] at this
    simp only [List.length_cons] at this
    omega
  have hd : ((rwL Ls i).take (a i)).drop (t i + 1) = nthP (rwL Ls i) (t i + 1) :: ((rwL Ls i).take (a i)).drop (t i + 1 + 1) := by
    refine drop_cons ?_
    rw [List.getElem?_take_of_lt hlt2, nthP_get (by omega)]
  rw [hd] at q2
  injection q2 with q2 q7
  rw [hxe] at hmin
  obtain ⟨g1, g2, g3⟩ := h.nextG hAdj hi hlt hmin
  refine ⟨hxe, fun j hj => ?_, h.al, fun j hj => ?_, h.cd, fun z => ?_, ?_, ?_, ?_, ?_, g1, g2, g3⟩
  · rw [setv_eq]; split
    · rename_i e; subst e; omega
    · exact h.ta j hj
  · by_cases e : j = i
    · subst e
      rw [setv_self, setv_self]
      refine ⟨u, la, so, ?_, by rw [q3, q4]; exact e2⟩
      rw [decide_eq_true hlt2, q6, q7]
    · rw [setv_ne _ _ e, setv_ne _ _ e]; exact h.Ri j hj
  · have hy : z ∈ L' ↔ z ∈ L ∧ z.2.2 ≠ (i : Int) := by
      rw [hp.mem_iff, List.mem_cons]
      constructor
      · intro w
        exact ⟨.inr w, fun e => hni (List.mem_map.2 ⟨z, w, e⟩)⟩
      · rintro ⟨rfl | w, w2⟩
        · exact absurd hx w2
        · exact w
    rw [hp2.mem_iff, List.mem_cons, hy, h.Lm]
    constructor
    · rintro (rfl | ⟨⟨j, h1, h2, h3⟩, h4⟩)
      · exact ⟨i, hi, by rw [setv_self]; exact hlt2, by rw [setv_self, q2]; rfl⟩
      · have e : j ≠ i := fun e => h4 (by rw [h3, e]; rfl)
        exact ⟨j, h1, by rw [setv_ne _ _ e]; exact h2, by rw [setv_ne _ _ e]; exact h3⟩
    · rintro ⟨j, h1, h2, h3⟩
      by_cases e : j = i
      · subst e; left; rw [setv_self] at h3; rw [h3, q2]; rfl
      · right
        rw [setv_ne _ _ e] at h2 h3
        refine ⟨⟨j, h1, h2, h3⟩, fun w => e ?_⟩
        rw [h3] at w
        have : (j : Int) = (i : Int) := w
        omega
  · refine (List.Perm.nodup_iff (hp2.map _)).2 ?_
    rw [List.map_cons, List.nodup_cons]
    exact ⟨hni, hnd⟩
  · have hl := hp.length_eq
    have hl2 := hp2.length_eq
    rw [List.length_cons] at hl hl2
    rw [show (L''.length : Int) = (L.length : Int) by omega, h.Ll]
    refine (sumZ_congr fun j hj => ?_).symm
    by_cases e : j = i
    · subst e; rw [setv_self, if_pos hlt2, if_pos hlt]
    · rw [setv_ne _ _ e]
  · rw [h.nq, sumZ_chg (i := i) (f := fun i => (a i : Int) - t i) (g := fun j => (a j : Int) - (setv t i (t i + 1) j : Nat)) hi (fun j hj e => by rw [setv_ne _ _ e])]
    rw [setv_self]; omega
  · refine h.bq.trans (sumZ_congr fun j hj => ?_).symm
    by_cases e : j = i
    · subst e; rw [setv_self, if_neg (fun w => w.2 hlt2), if_neg (fun w => w.2 hlt)]
    · rw [setv_ne _ _ e]
end

open Go Go.AM
set_option linter.unusedVariables false
set_option linter.unusedSimpArgs false
set_option maxRecDepth 60000
set_option maxHeartbeats 8000000

theorem flatO_sum {Ls : List (List It)} : ∀ n, n ≤ Ls.length → ((flatO (Ls.take n) 0).length : Int) = sumZ n fun i => ((rwL Ls i).length : Int)
  | 0, _ => by simp [flatO, sumZ]
  | n + 1, h => by
    rw [flatO_take (rwL_get (Ls := Ls) (i := n) (by omega)), List.length_append]
    have := flatO_sum (Ls := Ls) n (by omega)
    have hl : (rowO (rwL Ls n) n).length = (rwL Ls n).length := by unfold rowO; rw [List.length_map]
    simp only [sumZ]; omega
theorem sumZ_mono {f g : Nat → Int} : ∀ {n : Nat}, (∀ i, i < n → f i ≤ g i) → sumZ n f ≤ sumZ n g
  | 0, _ => by simp [sumZ]
  | n + 1, h => by simp only [sumZ]; have := sumZ_mono (f := f) (g := g) (n := n) fun i hi => h i (by omega); have := h n (by omega); omega
theorem Pn.nnT {Ls : List (List It)} {a t : Nat → Nat} {cl : Nat → Bool} {L : List Ot} {nn bb : Int} {R : Nat → Rec} {G : List Tg} (h : Pn Ls Ls.length a t cl L nn bb R G) : nn ≤ (flatO Ls 0).length := by
  have := flatO_sum (Ls := Ls) Ls.length (Nat.le_refl _)
  rw [List.take_length] at this
  rw [this, h.nq]
  exact sumZ_mono fun i hi => by have := h.al i hi; omega

theorem new9 {m : Mem} {N : Nat} (hN : 0 < N ∧ N ≤ 64) {K : KV} (hk : ∀ m' q r, Mg m' q r N (.sl none 0 (some 0)) [] 0 N (fun _ => ⟨.sl none 0 (some 0), [], 0, false, false, false⟩) → m.Grew m' → m.next ≤ q → m.next ≤ r → K (.ptr (some (q, 0, 0))) m') : ACalls Try.prog 9 [.int .i64 N] m K := by
  refine run_on (ctx_nil _) hm c9 (by simp) fun hf => ?_
  simp (disch := omega) [-getElem?_pos, b9, splice]
  refine hk _ (m.next + 1) m.next ⟨by simp <;> omega, by simp <;> omega, by omega, by simp (disch := omega), ⟨_, by simp (disch := omega); rfl, by simp, fun i hi => ?_⟩, Ows.nil _ _, fun k _ h => by simp at h, by simp [V.fp], by simp [V.fp], fun i hi => Ows.nil _ _, fun i hi => by simp [V.fp], fun i hi p hp => by simp [V.fp] at hp, fun i j hi hj hij p hp => by simp [V.fp] at hp⟩ ((Mem.Grew.new m _).trans (Mem.Grew.new _ _)) (by omega) (Nat.le_refl _)
  rw [List.getElem?_replicate, if_pos hi]; rfl

structure Ms where
  fv : V
  L : List Ot
  nn : Int
  bb : Int
  R : Nat → Rec
  a : Nat → Nat
  b : Nat → Nat
  t : Nat → Nat
  cl : Nat → Bool
  G : List Tg
  H : List Tg
  u : V

structure Sx (m0 M : Mem) (q r α : Nat) (w : V) (Ls : List (List It)) (S : List Tg) (s : Ms) : Prop where
  mg : Mg M q r Ls.length s.fv s.L s.nn s.bb s.R
  pn : Pn Ls Ls.length s.a s.t s.cl s.L s.nn s.bb s.R s.G
  gr : m0.Grew M
  oa : ∃ es, M.obj α = some (.row 1 es true) ∧ es.length = Ls.length ∧ ∀ i, i < Ls.length → es[i]? = some [.int .i64 (s.b i)]
  la : α < M.next
  wo : Ows M 3 w ((fst S).map ot)
  uo : Ows M 3 s.u ((fst s.H).map ot)
  da : α ∉ fpM q r Ls.length s.fv s.R ∧ α ∉ w.fp ∧ α ∉ s.u.fp
  dw : ∀ p ∈ w.fp, p ∉ fpM q r Ls.length s.fv s.R
  du : ∀ p ∈ s.u.fp, p ∉ fpM q r Ls.length s.fv s.R ∧ p ∉ w.fp
  ge : ∀ p ∈ fpM q r Ls.length s.fv s.R, m0.next ≤ p
  ga : m0.next ≤ α
  gw : ∀ p ∈ w.fp, m0.next ≤ p
  gu : ∀ p ∈ s.u.fp, m0.next ≤ p

section
variable {m0 M : Mem} {q r α : Nat} {w : V} {Ls : List (List It)} {S : List Tg} {s : Ms}
theorem Sx.grow (h : Sx m0 M q r α w Ls S s) {M' : Mem} (hg : M.Grew M') : Sx m0 M' q r α w Ls S s := by
  obtain ⟨es, e1, e2, e3⟩ := h.oa
  have := h.la
  have := hg.next
  exact ⟨h.mg.grow hg, h.pn, h.gr.trans hg, ⟨es, by rw [hg.obj α h.la]; exact e1, e2, e3⟩, by omega, h.wo.grow hg, h.uo.grow hg, h.da, h.dw, h.du, h.ge, h.ga, h.gw, h.gu⟩
/-- The merger took a step. -/
theorem Sx.merger (h : Sx m0 M q r α w Ls S s) {M' : Mem} {fv' : V} {L' : List Ot} {nn' bb' : Int} {R' : Nat → Rec} {a' t' : Nat → Nat} {cl' : Nat → Bool} {G' : List Tg} (hm : Mg M' q r Ls.length fv' L' nn' bb' R') (hp : Pn Ls Ls.length a' t' cl' L' nn' bb' R' G') (hs : Stp M M' (fpM q r Ls.length s.fv s.R) (fpM q r Ls.length fv' R')) :
    Sx m0 M' q r α w Ls S { s with fv := fv', L := L', nn := nn', bb := bb', R := R', a := a', t := t', cl := cl', G := G' } := by
  obtain ⟨es, e1, e2, e3⟩ := h.oa
  have hla := h.la
  have hn := hs.next
  have ap : ∀ p, p < M.next → p ∉ fpM q r Ls.length s.fv s.R → p ∉ fpM q r Ls.length fv' R' := fun p hp hd e => by
    rcases hs.fp p e with w | w
    · exact hd w
    · omega
  refine ⟨hm, hp, hs.toGrew h.gr h.ge, ⟨es, by rw [hs.obj α hla h.da.1]; exact e1, e2, e3⟩, by omega, h.wo.keep hn fun p hp => hs.obj p (h.wo.lt p hp) (h.dw p hp), h.uo.keep hn fun p hp => hs.obj p (h.uo.lt p hp) (h.du p hp).1, ⟨ap α hla h.da.1, h.da.2⟩, fun p hp => ap p (h.wo.lt p hp) (h.dw p hp), fun p hp => ⟨ap p (h.uo.lt p hp) (h.du p hp).1, (h.du p hp).2⟩, fun p hp => ?_, h.ga, h.gw, h.gu⟩
  rcases hs.fp p hp with e | e
  · exact h.ge p e
  · have := h.gr.next; omega
/-- One more is counted. -/
theorem Sx.setA (h : Sx m0 M q r α w Ls S s) {es : List (List V)} (ho : M.obj α = some (.row 1 es true)) {i : Nat} (hi : i < Ls.length) (k : Nat) : Sx m0 (M.upd α (some (.row 1 (es.set i [.int .i64 k]) true))) q r α w Ls S { s with b := setv s.b i k } := by
  obtain ⟨es', e1, e2, e3⟩ := h.oa
  rw [ho] at e1; injection e1 with e1; injection e1 with _ e1; subst e1
  refine ⟨h.mg.keep (by simp) fun p hp => updO _ (fun e => h.da.1 (by rw [← e]; exact hp)), h.pn, h.gr.upd h.ga _, ⟨es.set i [.int .i64 k], by simp, by simp; exact e2, fun j hj => ?_⟩, by simp; exact h.la, h.wo.keep (by simp) fun p hp => updO _ (fun e => h.da.2.1 (by rw [← e]; exact hp)), h.uo.keep (by simp) fun p hp => updO _ (fun e => h.da.2.2 (by rw [← e]; exact hp)), h.da, h.dw, h.du, h.ge, h.ga, h.gw, h.gu⟩
  dsimp only
  by_cases e : j = i
  · subst e; rw [setv_self, List.getElem?_set_self (by omega)]
  · rw [setv_ne _ _ e, List.getElem?_set_ne (fun q => e q.symm)]; exact e3 j hj
/-- One more is kept. -/
theorem Sx.app (h : Sx m0 M q r α w Ls S s) {M' : Mem} {u' : V} {H' : List Tg} (hu : Ows M' 3 u' ((fst H').map ot)) (hs : Stp M M' s.u.fp u'.fp) : Sx m0 M' q r α w Ls S { s with u := u', H := H' } := by
  obtain ⟨es, e1, e2, e3⟩ := h.oa
  have hla := h.la
  have hn := hs.next
  have ap : ∀ p, p < M.next → p ∉ s.u.fp → p ∉ u'.fp := fun p hp hd e => by
    rcases hs.fp p e with w | w
    · exact hd w
    · omega
  have n1 : ∀ p ∈ fpM q r Ls.length s.fv s.R, p ∉ s.u.fp := fun p hp e => (h.du p e).1 hp
  have n2 : ∀ p ∈ w.fp, p ∉ s.u.fp := fun p hp e => (h.du p e).2 hp
  refine ⟨h.mg.keep hn fun p hp => hs.obj p (h.mg.lt p hp) (n1 p hp), h.pn, hs.toGrew h.gr h.gu, ⟨es, by rw [hs.obj α hla h.da.2.2]; exact e1, e2, e3⟩, by omega, h.wo.keep hn fun p hp => hs.obj p (h.wo.lt p hp) (n2 p hp), hu, ⟨h.da.1, h.da.2.1, ap α hla h.da.2.2⟩, h.dw, fun p hp => ⟨fun e => ap p (h.mg.lt p e) (n1 p e) hp, fun e => ap p (h.wo.lt p e) (n2 p e) hp⟩, h.ge, h.ga, h.gw, fun p hp => ?_⟩
  rcases hs.fp p hp with e | e
  · exact h.gu p e
  · have := h.gr.next; omega

/-- A cell that none of these is. -/
theorem Sx.cell (h : Sx m0 M q r α w Ls S s) {c : Nat} (hc : m0.next ≤ c) (h1 : c ∉ fpM q r Ls.length s.fv s.R) (h2 : c ∉ w.fp) (h3 : c ∉ s.u.fp) (h4 : c ≠ α) (o : Option AM.Obj) : Sx m0 (M.upd c o) q r α w Ls S s := by
  obtain ⟨es, e1, e2, e3⟩ := h.oa
  exact ⟨h.mg.keep (by simp) fun p hp => updO _ (fun e => h1 (by rw [← e]; exact hp)), h.pn, h.gr.upd hc _, ⟨es, by rw [updO _ h4.symm]; exact e1, e2, e3⟩, by simp; exact h.la, h.wo.keep (by simp) fun p hp => updO _ (fun e => h2 (by rw [← e]; exact hp)), h.uo.keep (by simp) fun p hp => updO _ (fun e => h3 (by rw [← e]; exact hp)), h.da, h.dw, h.du, h.ge, h.ga, h.gw, h.gu⟩

theorem Sx.put (h : Sx m0 M q r α w Ls S s) (hN : Ls.length ≤ 64) (hT : (flatO Ls 0).length ≤ 200) (hAdj : ∀ i, i < Ls.length → Adj (rwL Ls i)) {i : Nat} (hi : i < Ls.length) (ha : s.a i < (rwL Ls i).length) (hc : s.cl i = false) {K : KV}
    (hk : ∀ M' s', Sx m0 M' q r α w Ls S s' → s'.a = setv s.a i (s.a i + 1) → s'.b = s.b → s'.t = s.t → s'.cl = s.cl → s'.G = s.G → s'.H = s.H → s'.u = s.u → K (.int .i64 0) M') :
    ACalls Try.prog 10 [.ptr (some (q, 0, 0)), .int .i64 i, .agg [.int .i64 (nthP (rwL Ls i) (s.a i)).1, .int .i64 (nthP (rwL Ls i) (s.a i)).2]] M K := by
  obtain ⟨v, la, so, e1, e2⟩ := h.pn.Ri i hi
  rw [hc] at e1
  have hnn := h.pn.nnT
  have hlS := h.pn.lenS hi
  have hll := flatO_mem Ls 0 (rwL Ls i) (mem_of_idx (rwL_get hi))
  rw [e1] at hlS
  dsimp only at hlS
  have hbb := h.pn.bb0
  refine put10 h.mg hi (by omega) (by have := h.pn.lenL; omega) e1 (by omega) (x := nthP (rwL Ls i) (s.a i)) (fun hso => ?_) ⟨h.pn.nn0, by omega⟩ (by omega) (fun hfr m' u g1 g2 => ?_) (fun hfr hS m' fv' L' u g0 g1 g2 => ?_) (fun hfr => ?_)
  · obtain ⟨e3, e4⟩ := e2 hso
    rw [e4]
    exact adj_mono (hAdj i hi) (by omega) ha
  · have hp := h.pn.put hi (of_decide_eq_true hfr) ha hc u
    exact hk m' _ (h.merger g1 hp g2) rfl rfl rfl rfl rfl rfl rfl
  · have hp := h.pn.put1 hi (of_decide_eq_false hfr) ha hc g0 u
    exact hk m' _ (h.merger g1 hp g2) rfl rfl rfl rfl rfl rfl rfl
  · have := of_decide_eq_false hfr
    exact List.drop_of_length_le (by rw [List.length_take]; omega)

theorem Sx.close (h : Sx m0 M q r α w Ls S s) (hN : Ls.length ≤ 64) {i : Nat} (hi : i < Ls.length) (ha : s.a i = (rwL Ls i).length) (hc : s.cl i = false) {K : KV}
    (hk : ∀ M' s', Sx m0 M' q r α w Ls S s' → s'.a = s.a → s'.b = s.b → s'.t = s.t → s'.cl = setv s.cl i true → s'.G = s.G → s'.H = s.H → s'.u = s.u → K (.int .i64 0) M') :
    ACalls Try.prog 12 [.ptr (some (q, 0, 0)), .int .i64 i] M K := by
  obtain ⟨v, la, so, e1, e2⟩ := h.pn.Ri i hi
  rw [hc] at e1
  have hbb := h.pn.bb0
  refine close12 h.mg hi (by omega) e1 (by omega) fun m' g1 g2 => ?_
  exact hk m' _ (h.merger g1 (h.pn.close hi ha hc e1) g2) rfl rfl rfl rfl rfl rfl rfl

theorem Sx.take (h : Sx m0 M q r α w Ls S s) (hN : Ls.length ≤ 64) (hT : (flatO Ls 0).length ≤ 200) (hAdj : ∀ i, i < Ls.length → Adj (rwL Ls i)) {K : KV}
    (h1 : ¬ (s.bb = 0 ∧ 0 < s.nn) → ∀ M', Sx m0 M' q r α w Ls S s → M.Grew M' → K (.tup [.agg (ot (0, 0, 0)), .bool false]) M')
    (h2 : ∀ M' s' x, Sx m0 M' q r α w Ls S s' → s'.a = s.a → s'.b = s.b → s'.nn = s.nn - 1 → 0 < s.nn → s'.cl = s.cl → s'.G = s.G ++ [x] → s'.H = s.H → s'.u = s.u → M.next ≤ M'.next → (∀ p, p < M.next → p ∉ fpM q r Ls.length s.fv s.R → p ∉ fpM q r Ls.length s'.fv s'.R ∧ M'.obj p = M.obj p) → K (.tup [.agg (ot x.1), .bool true]) M') :
    ACalls Try.prog 11 [.ptr (some (q, 0, 0))] M K := by
  have hnn := h.pn.nnT
  by_cases hc : s.bb = 0 ∧ 0 < s.nn
  case neg => exact take_no h.mg hc fun M' g => h1 hc M' (h.grow g) g
  obtain ⟨hb, hn⟩ := hc
  have hmg := h.mg
  have hpn := h.pn
  rw [hb] at hmg hpn
  refine take11 hmg ⟨hn, by omega⟩ (by omega) (by have := hpn.lenL; omega) (hpn.anyL hn) (fun i hi => ?_) hpn.rowN (fun x L' i v la so fr cl p1 p2 p3 p4 p5 m' fv' g1 g2 => ?_) (fun x L' i v y S' la so fr cl p1 p2 p3 p4 p5 m' fv' L'' u g0 g1 g2 => ?_)
  · have := hpn.lenS hi
    have := flatO_mem Ls 0 (rwL Ls i) (mem_of_idx (rwL_get hi))
    omega
  · obtain ⟨e1, e2⟩ := hpn.take1 hAdj p1 p2 p4 p5
    rw [e1]
    exact h2 m' _ _ (h.merger g1 e2 g2) rfl rfl rfl hn rfl rfl rfl rfl g2.next (fun p hp hd => ⟨fun e => by
      rcases g2.fp p e with w | w
      · exact hd w
      · omega, g2.obj p hp hd⟩)
  · obtain ⟨e1, e2⟩ := hpn.take2 hAdj p1 p2 p4 p5 g0 u
    rw [e1]
    exact h2 m' _ _ (h.merger g1 e2 g2) rfl rfl rfl hn rfl rfl rfl rfl g2.next (fun p hp hd => ⟨fun e => by
      rcases g2.fp p e with w | w
      · exact hd w
      · omega, g2.obj p hp hd⟩)
end
/-- Where all are closed, and none waits, all were taken. -/
theorem Pn.all {Ls : List (List It)} {a t : Nat → Nat} {cl : Nat → Bool} {L : List Ot} {nn bb : Int} {R : Nat → Rec} {G S : List Tg} (h : Pn Ls Ls.length a t cl L nn bb R G) (hcl : ∀ i, i < Ls.length → cl i = true) (hno : ¬ (bb = 0 ∧ 0 < nn)) (hS : S.Perm (flatO Ls 0).zipIdx) (hS2 : Srt S) : G = S ∧ nn = 0 := by
  have hb : bb = 0 := by
    rw [h.bq]
    have : sumZ Ls.length (fun i => if cl i = false ∧ ¬ t i < a i then 1 else 0) = sumZ Ls.length (fun _ => 0) := sumZ_congr fun i hi => by rw [if_neg (by rw [hcl i hi]; simp)]
    rw [this]
    have z : ∀ n, sumZ n (fun _ => 0) = 0 := fun n => by induction n with
      | zero => rfl
      | succ n ih => simp [sumZ, ih]
    exact z _
  have hn0 := h.nn0
  have hn : nn = 0 := by omega
  refine ⟨srt_ext h.G1 hS2 fun x => ?_, hn⟩
  rw [h.G2, hS.mem_iff]
  have tm := tag_mem Ls x Ls.length (Nat.le_refl _)
  rw [List.take_length] at tm
  rw [tm]
  have ht : ∀ i, i < Ls.length → t i = (rwL Ls i).length := fun i hi => by
    have := sumZ_zero (f := fun i => (a i : Int) - t i) (n := Ls.length) (fun i hi => by have := h.ta i hi; omega) (by rw [← h.nq]; exact hn) i hi
    have := h.cd i hi (hcl i hi)
    omega
  constructor
  · rintro ⟨i, k, h1, h2, h3⟩; exact ⟨i, k, h1, by rw [← ht i h1]; exact h2, h3⟩
  · rintro ⟨i, k, h1, h2, h3⟩; exact ⟨i, k, h1, by rw [ht i h1]; exact h2, h3⟩
/-- At the start none was put. -/
theorem Pn.start (Ls : List (List It)) (R : Rec) (hR : R = ⟨.sl none 0 (some 0), [], 0, false, false, false⟩) : Pn Ls Ls.length (fun _ => 0) (fun _ => 0) (fun _ => false) [] 0 Ls.length (fun _ => R) [] := by
  have z : ∀ (n : Nat) (c : Int), sumZ n (fun _ => c) = n * c := fun n c => by
    induction n with
    | zero => simp [sumZ]
    | succ n ih => simp only [sumZ, ih]; rw [Int.natCast_succ, Int.add_mul]; omega
  refine ⟨fun _ _ => Nat.le_refl _, fun _ _ => Nat.zero_le _, fun i hi => ⟨.sl none 0 (some 0), 0, false, by rw [hR]; simp, by simp⟩, fun i hi h => (by cases h), fun y => ⟨fun h => (by cases h), fun ⟨i, _, h, _⟩ => by omega⟩, by simp, ?_, ?_, ?_, List.Pairwise.nil, fun g => ⟨fun h => (by cases h), fun ⟨i, k, _, h, _⟩ => by omega⟩, fun g h => (by cases h)⟩
  · simp [z]
  · simp [z]
  · simp [z]
end Go.Proofs.Ythkopgcdghbjlaa
