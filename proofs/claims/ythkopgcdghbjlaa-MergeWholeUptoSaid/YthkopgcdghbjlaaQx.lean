/-
  A HEAP of what comes out, in plain words: no program here but its names.
  THE HEAP's calls: less, swap, up, down, push, pop.
  THE HEAP's calls: down.
  THE HEAP's calls: push and pop.
-/
import Derived.Test.YthkopgcdghbjlaaFx
import Derived.Test.YthkopgcdghbjlaaJx
import Derived.Test.YthkopgcdghbjlaaAm34
namespace Go.Proofs.Ythkopgcdghbjlaa
open Go Go.AM
set_option linter.unusedVariables false
set_option linter.unusedSimpArgs false
set_option maxRecDepth 60000
set_option maxHeartbeats 4000000

def nO (L : List Ot) (k : Nat) : Ot := L.getD k (0, 0, 0)
theorem nO_get {L : List Ot} {k : Nat} (h : k < L.length) : L[k]? = some (nO L k) := by
  unfold nO; rw [List.getD_eq_getElem?_getD, List.getElem?_eq_getElem h]; rfl
theorem nO_app {L R : List Ot} {k : Nat} (h : k < L.length) : nO (L ++ R) k = nO L k := by
  unfold nO; rw [List.getD_eq_getElem?_getD, List.getD_eq_getElem?_getD, List.getElem?_append_left h]
theorem nO_take {L : List Ot} {n k : Nat} (h : k < n) : nO (L.take n) k = nO L k := by
  unfold nO; rw [List.getD_eq_getElem?_getD, List.getD_eq_getElem?_getD, List.getElem?_take_of_lt h]
/-- Two change places. -/
def swp (L : List Ot) (i j : Nat) : List Ot := (L.set i (nO L j)).set j (nO L i)
theorem swp_length (L : List Ot) (i j : Nat) : (swp L i j).length = L.length := by unfold swp; simp
theorem nO_swp {L : List Ot} {i j : Nat} (hi : i < L.length) (hj : j < L.length) (k : Nat) : nO (swp L i j) k = if k = j then nO L i else if k = i then nO L j else nO L k := by
  have e : ∀ (M : List Ot) (a k : Nat) (x : Ot), a < M.length → nO (M.set a x) k = if k = a then x else nO M k := by
    intro M a k x ha
    unfold nO
    rw [List.getD_eq_getElem?_getD, List.getD_eq_getElem?_getD]
    by_cases h : k = a
    · subst h; rw [List.getElem?_set_self ha, if_pos rfl]; rfl
    · rw [List.getElem?_set_ne (fun q => h q.symm), if_neg h]
  unfold swp
  rw [e _ _ _ _ (by simp; exact hj), e _ _ _ _ hi]
theorem swp_perm {L : List Ot} {i j : Nat} (hi : i < L.length) (hj : j < L.length) : (swp L i j).Perm L := by
  have := List.set_set_perm hi hj
  have e1 : nO L j = L[j] := by unfold nO; rw [List.getD_eq_getElem?_getD, List.getElem?_eq_getElem hj]; rfl
  have e2 : nO L i = L[i] := by unfold nO; rw [List.getD_eq_getElem?_getD, List.getElem?_eq_getElem hi]; rfl
  unfold swp; rw [e1, e2]; exact this

def leO (a b : Ot) : Prop := ¬ ltO b a
theorem leO_trans {a b c : Ot} (h1 : leO a b) (h2 : leO b c) : leO a c := by unfold leO ltO at *; omega
theorem ltO_le {a b : Ot} (h : ltO a b) : leO a b := by unfold leO ltO at *; omega
theorem leO_refl (a : Ot) : leO a a := by unfold leO ltO; omega

/-- The first n are a heap. -/
def Heap (L : List Ot) (n : Nat) : Prop := ∀ k, 0 < k → k < n → leO (nO L ((k - 1) / 2)) (nO L k)
theorem Heap.root {L : List Ot} {n : Nat} (h : Heap L n) : ∀ k, k < n → leO (nO L 0) (nO L k) := by
  intro k
  induction k using Nat.strongRecOn with
  | _ k ih =>
    intro hk
    by_cases h0 : k = 0
    · subst h0; exact leO_refl _
    · exact leO_trans (ih ((k - 1) / 2) (by omega) (by omega)) (h k (by omega) hk)
/-- But for the one at j, which may want to go up. -/
def UpI (L : List Ot) (j : Nat) : Prop :=
  j < L.length ∧ (∀ k, 0 < k → k < L.length → k ≠ j → leO (nO L ((k - 1) / 2)) (nO L k)) ∧ ∀ k, 0 < k → k < L.length → (k - 1) / 2 = j → 0 < j → leO (nO L ((j - 1) / 2)) (nO L k)
theorem UpI.init {L : List Ot} (h : Heap L L.length) (x : Ot) : UpI (L ++ [x]) L.length := by
  refine ⟨by simp, fun k h1 h2 h3 => ?_, fun k h1 h2 h3 h4 => ?_⟩
  · simp at h2
    rw [nO_app (by omega), nO_app (by omega)]; exact h k h1 (by omega)
  · simp at h2; omega
theorem UpI.stop {L : List Ot} {j : Nat} (h : UpI L j) (hj : j = 0 ∨ leO (nO L ((j - 1) / 2)) (nO L j)) : Heap L L.length := by
  intro k h1 h2
  by_cases e : k = j
  · subst e
    rcases hj with hj | hj
    · omega
    · exact hj
  · exact h.2.1 k h1 h2 e
theorem UpI.step {L : List Ot} {j : Nat} (h : UpI L j) (hj : 0 < j) (hl : ltO (nO L j) (nO L ((j - 1) / 2))) : UpI (swp L ((j - 1) / 2) j) ((j - 1) / 2) := by
  obtain ⟨a1, a2, a3⟩ := h
  obtain ⟨i, hi⟩ : ∃ i, (j - 1) / 2 = i := ⟨_, rfl⟩
  rw [hi] at hl ⊢
  have hil : i < L.length := by omega
  have hle := ltO_le hl
  have sw := nO_swp (L := L) hil a1
  refine ⟨by rw [swp_length]; exact hil, fun k h1 h2 h3 => ?_, fun k h1 h2 h3 h4 => ?_⟩
  · rw [swp_length] at h2
    rw [sw, sw]
    by_cases e1 : k = j
    · subst e1
      rw [hi, if_neg (by omega), if_pos rfl, if_pos rfl]; exact hle
    · rw [if_neg e1, if_neg h3]
      by_cases e2 : (k - 1) / 2 = j
      · rw [if_pos e2]
        have := a3 k h1 h2 e2 hj
        rw [hi] at this; exact this
      · rw [if_neg e2]
        have h5 := a2 k h1 h2 e1
        by_cases e3 : (k - 1) / 2 = i
        · rw [if_pos e3]; rw [e3] at h5; exact leO_trans hle h5
        · rw [if_neg e3]; exact h5
  · rw [swp_length] at h2
    rw [sw, sw]
    have h5 := a2 i h4 hil (by omega)
    rw [if_neg (show ¬ (i - 1) / 2 = j by omega), if_neg (show ¬ (i - 1) / 2 = i by omega)]
    by_cases e1 : k = j
    · rw [if_pos e1]; exact h5
    · rw [if_neg e1, if_neg (show ¬ k = i by omega)]
      have h6 := a2 k h1 h2 e1
      rw [h3] at h6
      exact leO_trans h5 h6
/-- But for the one at i, which may want to go down. -/
def DnI (L : List Ot) (n i : Nat) : Prop :=
  i < n ∧ n ≤ L.length ∧ (∀ k, 0 < k → k < n → (k - 1) / 2 ≠ i → leO (nO L ((k - 1) / 2)) (nO L k)) ∧ ∀ k, 0 < k → k < n → (k - 1) / 2 = i → 0 < i → leO (nO L ((i - 1) / 2)) (nO L k)
theorem DnI.init {L : List Ot} {n : Nat} (hn : 0 < n) (hl : n < L.length) (h : Heap L (n + 1)) : DnI (swp L 0 n) n 0 := by
  have sw := nO_swp (L := L) (i := 0) (j := n) (by omega) hl
  refine ⟨hn, by rw [swp_length]; omega, fun k h1 h2 h3 => ?_, fun k h1 h2 h3 h4 => by omega⟩
  rw [sw, sw, if_neg (by omega), if_neg (by omega), if_neg (by omega), if_neg (by omega)]
  exact h k h1 (by omega)
theorem DnI.leaf {L : List Ot} {n i : Nat} (h : DnI L n i) (hn : n ≤ 2 * i + 1) : Heap L n := fun k h1 h2 => h.2.2.1 k h1 h2 (by omega)
/-- The less of two that lie below. -/
def Less (L : List Ot) (n i j : Nat) : Prop := (j = 2 * i + 1 ∨ j = 2 * i + 2) ∧ j < n ∧ ∀ k, 0 < k → k < n → (k - 1) / 2 = i → leO (nO L j) (nO L k)
theorem Less.left {L : List Ot} {n i : Nat} (h1 : 2 * i + 1 < n) (h2 : n ≤ 2 * i + 2 ∨ ¬ ltO (nO L (2 * i + 2)) (nO L (2 * i + 1))) : Less L n i (2 * i + 1) := by
  refine ⟨.inl rfl, h1, fun k h3 h4 h5 => ?_⟩
  have : k = 2 * i + 1 ∨ k = 2 * i + 2 := by omega
  rcases this with rfl | rfl
  · exact leO_refl _
  · rcases h2 with h2 | h2
    · omega
    · exact h2
theorem Less.right {L : List Ot} {n i : Nat} (h1 : 2 * i + 2 < n) (h2 : ltO (nO L (2 * i + 2)) (nO L (2 * i + 1))) : Less L n i (2 * i + 2) := by
  refine ⟨.inr rfl, h1, fun k h3 h4 h5 => ?_⟩
  have : k = 2 * i + 1 ∨ k = 2 * i + 2 := by omega
  rcases this with rfl | rfl
  · exact ltO_le h2
  · exact leO_refl _
theorem DnI.stop {L : List Ot} {n i j : Nat} (h : DnI L n i) (hj : Less L n i j) (hl : ¬ ltO (nO L j) (nO L i)) : Heap L n := by
  intro k h1 h2
  by_cases e : (k - 1) / 2 = i
  · rw [e]; exact leO_trans hl (hj.2.2 k h1 h2 e)
  · exact h.2.2.1 k h1 h2 e
theorem DnI.step {L : List Ot} {n i j : Nat} (h : DnI L n i) (hj : Less L n i j) (hl : ltO (nO L j) (nO L i)) : DnI (swp L i j) n j := by
  obtain ⟨a1, a2, a3, a4⟩ := h
  obtain ⟨b1, b2, b3⟩ := hj
  have hji : (j - 1) / 2 = i := by omega
  have hle := ltO_le hl
  have sw := nO_swp (L := L) (i := i) (j := j) (by omega) (by omega)
  refine ⟨b2, by rw [swp_length]; exact a2, fun k h1 h2 h3 => ?_, fun k h1 h2 h3 h4 => ?_⟩
  · rw [sw, sw, if_neg h3]
    by_cases e1 : (k - 1) / 2 = i
    · rw [if_pos e1]
      by_cases e2 : k = j
      · rw [if_pos e2]; exact hle
      · rw [if_neg e2, if_neg (by omega)]; exact b3 k h1 h2 e1
    · rw [if_neg e1, if_neg (show ¬ k = j by omega)]
      have h5 := a3 k h1 h2 e1
      by_cases e2 : k = i
      · subst e2
        rw [if_pos rfl]
        exact a4 j (by omega) b2 hji h1
      · rw [if_neg e2]; exact h5
  · rw [sw, sw, hji, if_neg (show ¬ i = j by omega), if_pos rfl, if_neg (show ¬ k = j by omega), if_neg (show ¬ k = i by omega)]
    have := a3 k h1 h2 (by omega)
    rw [h3] at this; exact this
/-- What lies behind the first n is as it was. -/
theorem swp_tail {L : List Ot} {i j n : Nat} (hi : i < n) (hj : j < n) (hl : n ≤ L.length) : (swp L i j).drop n = L.drop n := by
  apply List.ext_getElem?
  intro k
  rw [List.getElem?_drop, List.getElem?_drop]
  unfold swp
  rw [List.getElem?_set_ne (by omega), List.getElem?_set_ne (by omega)]

open Go Go.AM
set_option linter.unusedVariables false
set_option linter.unusedSimpArgs false
set_option maxRecDepth 60000
set_option maxHeartbeats 8000000

theorem less52 {m : Mem} {v : V} {L : List Ot} (h : Ows m 3 v (L.map ot)) {i j : Nat} (hi : i < L.length) (hj : j < L.length) {K : KV} (hk : ∀ m', m.Grew m' → K (.bool (decide (ltO (nO L i) (nO L j)))) m') : ACalls Try.prog 52 [v, .int .i64 i, .int .i64 j] m K := by
  refine run_on (ctx_nil _) hm c52 (by simp) fun hf => ?_
  obtain ⟨p, q, full, rw, z1, _, z3, z4, _⟩ := h.sl.at (ot_get (nO_get hi)) .i64
  obtain ⟨p', q', full', rw', y1, _, y3, y4, _⟩ := h.sl.at (ot_get (nO_get hj)) .i64
  simp only [ot] at z4 y4
  simp (disch := omega) [-getElem?_pos, b52, z1, z3, z4, y1, y3, y4]
  refine order19 (a := nO L i) (b := nO L j) fun m' g => ?_
  by_cases hlt : ltO (nO L i) (nO L j)
  · have hn := ltO_cmp.2 hlt
    have := hk m' g
    rw [decide_eq_true hlt] at this
    simp (disch := omega) [-getElem?_pos]
    exact this
  · have hn : ¬ cmpO (nO L i) (nO L j) < 0 := fun e => hlt (ltO_cmp.1 e)
    have := hk m' g
    rw [decide_eq_false hlt] at this
    simp (disch := omega) [-getElem?_pos]
    exact this

theorem swap53 {m : Mem} {v : V} {L : List Ot} (h : Ows m 3 v (L.map ot)) {i j : Nat} (hi : i < L.length) (hj : j < L.length) {K : KV} (hk : ∀ m', Ows m' 3 v ((swp L i j).map ot) → Stp m m' v.fp v.fp → K (.tup []) m') : ACalls Try.prog 53 [v, .int .i64 i, .int .i64 j] m K := by
  refine run_on (ctx_nil _) hm c53 (by simp) fun hf => ?_
  by_cases e : i = j
  · subst e
    obtain ⟨p, q, full, z1, z2, z3, z4, z5, z6⟩ := h.at (ot_get (nO_get hi)) .i64
    have hql := (List.getElem?_eq_some_iff.1 z4).1
    have e1 : full.set q (ot (nO L i)) = full := by
      apply List.ext_getElem?
      intro k
      by_cases hk : k = q
      · subst hk; rw [List.getElem?_set_self hql, z4]
      · rw [List.getElem?_set_ne (fun e => hk e.symm)]
    have e2 : swp L i i = L := by
      unfold swp
      apply List.ext_getElem?
      intro k
      by_cases hk : k = i
      · subst hk; rw [List.getElem?_set_self (by simp; exact hi), nO_get hi]
      · rw [List.getElem?_set_ne (fun e => hk e.symm), List.getElem?_set_ne (fun e => hk e.symm)]
    rw [e2] at hk
    simp only [ot] at z4 e1
    simp (disch := omega) [-getElem?_pos, b53, z1, z3, z4, e1]
    refine hk _ (h.keep (by simp) fun p' hp' => ?_) (Stp.upd _ (by rw [z5]; simp) _)
    rw [z5] at hp'; simp at hp'; subst hp'; simp [z3]
  · obtain ⟨p, qi, qj, full, z1, z2, z3, z4, z5, z6, z7, z8, z9⟩ := two_at h (nO_get hi) (nO_get hj) e
    obtain ⟨w1, w2⟩ := z9 (nO L j) (nO L i)
    have hz8 := z8 (ot (nO L j))
    simp only [ot] at z5 z6 hz8 w1 w2
    simp (disch := omega) [-getElem?_pos, b53, z1, z2, z4, z5, z6, hz8]
    exact hk _ w1 w2

theorem up32 {m : Mem} {q : Nat} {u0 v u2 u3 : V} (hq : m.obj q = some (.row 4 [[u0, v, u2, u3]] true)) (hql : q < m.next) (hqv : q ∉ v.fp) {L : List Ot} (h : Ows m 3 v (L.map ot)) (hl : L.length ≤ 1000000) {j : Nat} (hu : UpI L j) {K : KV}
    (hk : ∀ m' L', L'.Perm L → Heap L' L'.length → Ows m' 3 v (L'.map ot) → Stp m m' v.fp v.fp → K (.tup []) m') : ACalls Try.prog 32 [.ifc 63 (.ptr (some (q, 0, 1))), .int .i64 j] m K := by
  refine run_on (ctx_nil _) hm c32 (by simp) fun hf => ?_
  simp (disch := omega) [-getElem?_pos, b32]
  refine exec_loopU (σ := Nat × List Ot × Mem) (fun (j, _, _) => [(1, .int .i64 j)]) (fun (_, _, M) => M) (fun (j, L', M) => L'.Perm L ∧ UpI L' j ∧ Ows M 3 v (L'.map ot) ∧ Stp m M v.fp v.fp) (fun (j, _, _) => j) (j, L, m) rfl
    (by dsimp only; exact ⟨List.Perm.refl _, hu, h, Stp.refl _ _⟩) (by simp) ?_
  intro (j, L', M) ⟨a1, a2, a4, a5⟩
  have hlen := a1.length_eq
  have hjl := a2.1
  by_cases h0 : j = 0
  · subst h0
    have ht : Int.tdiv (-1) 2 = 0 := by decide
    simp (disch := omega) [-getElem?_pos, ht]
    exact hk M L' a1 (a2.stop (.inl rfl)) a4 a5
  obtain ⟨i, hi⟩ : ∃ i, (j - 1) / 2 = i := ⟨_, rfl⟩
  have ht : Int.tdiv ((j : Int) - 1) 2 = (i : Int) := by
    rw [show (j : Int) - 1 = ((j - 1 : Nat) : Int) by omega]
    rw [← hi]; exact Int.ofNat_tdiv (j - 1) 2 |>.symm
  have hq1 : M.obj q = some (.row 4 [[u0, v, u2, u3]] true) := by rw [a5.obj q hql hqv]; exact hq
  have e53 : (53 : TypeId) ≠ 63 := by decide
  simp (disch := omega) [-getElem?_pos, ht, hq1, e53]
  refine less52 a4 (i := j) (j := i) hjl (by omega) fun M2 g => ?_
  by_cases hlt : ltO (nO L' j) (nO L' i)
  · have e53 : (53 : TypeId) ≠ 63 := by decide
    have hq2 : M2.obj q = some (.row 4 [[u0, v, u2, u3]] true) := by rw [g.obj q (by have := a5.next; omega)]; exact hq1
    simp (disch := omega) [-getElem?_pos, hq2, e53]
    refine swap53 (a4.grow g) (i := i) (j := j) (by omega) hjl fun M3 w1 w2 => ?_
    simp (disch := omega) [-getElem?_pos]
    have hst := a2.step (by omega) (by rw [hi]; exact hlt)
    rw [hi] at hst
    exact again_mk (i, swp L' i j, M3) (by dsimp only; exact ⟨(swp_perm (by omega) hjl).trans a1, hst, w1, (a5.trans (Stp.grow g _)).trans w2⟩) (by dsimp only; omega) (by simp) rfl
  · simp (disch := omega) [-getElem?_pos]
    exact hk M2 L' a1 (a2.stop (.inr (by rw [hi]; exact hlt))) (a4.grow g) (a5.trans (Stp.grow g _))

open Go Go.AM
set_option linter.unusedVariables false
set_option linter.unusedSimpArgs false
set_option maxRecDepth 60000
set_option maxHeartbeats 8000000

theorem down29 {m : Mem} {q : Nat} {u0 v u2 u3 : V} (hq : m.obj q = some (.row 4 [[u0, v, u2, u3]] true)) (hql : q < m.next) (hqv : q ∉ v.fp) {L : List Ot} (h : Ows m 3 v (L.map ot)) (hl : L.length ≤ 1000000) {n : Nat} (hn : n ≤ L.length) (hd : 0 < n → DnI L n 0) {K : KV}
    (hk : ∀ b m' L', L'.Perm L → Heap L' n → L'.drop n = L.drop n → Ows m' 3 v (L'.map ot) → Stp m m' v.fp v.fp → K (.bool b) m') : ACalls Try.prog 29 [.ifc 63 (.ptr (some (q, 0, 1))), .int .i64 0, .int .i64 n] m K := by
  refine run_on (ctx_nil _) hm c29 (by simp) fun hf => ?_
  simp (disch := omega) [-getElem?_pos, b29]
  refine exec_loopU (σ := Nat × List Ot × Mem) (fun (i, _, _) => [(7, .int .i64 i)]) (fun (_, _, M) => M) (fun (i, L', M) => L'.Perm L ∧ ((n = 0 ∧ i = 0) ∨ DnI L' n i) ∧ L'.drop n = L.drop n ∧ Ows M 3 v (L'.map ot) ∧ Stp m M v.fp v.fp) (fun (i, _, _) => n - i) (0, L, m) rfl
    (by dsimp only; exact ⟨List.Perm.refl _, (Nat.eq_zero_or_pos n).imp (fun w => ⟨w, rfl⟩) hd, rfl, h, Stp.refl _ _⟩) (by simp) ?_
  intro (i, L', M) ⟨a1, a2, a3, a4, a5⟩
  have hlen := a1.length_eq
  have hin : i ≤ n := by rcases a2 with w | w
                         · omega
                         · have := w.1; omega
  have e53 : (53 : TypeId) ≠ 63 := by decide
  by_cases hc : n ≤ 2 * i + 1
  · have hH : Heap L' n := by
      rcases a2 with w | w
      · exact fun k _ h2 => by omega
      · exact w.leaf hc
    simp (disch := omega) [-getElem?_pos]
    exact hk _ M L' a1 hH a3 a4 a5
  have hD : DnI L' n i := by rcases a2 with w | w
                             · omega
                             · exact w
  have hq1 : M.obj q = some (.row 4 [[u0, v, u2, u3]] true) := by rw [a5.obj q hql hqv]; exact hq
  have e1 : 2 * (i : Int) + 1 = ((2 * i + 1 : Nat) : Int) := by omega
  by_cases hc2 : n ≤ 2 * i + 2
  · have hL := Less.left (L := L') (n := n) (i := i) (by omega) (.inl hc2)
    have e2 : ((2 * i + 1 : Nat) : Int) = 2 * (i : Int) + 1 := by omega
    obtain ⟨j1, hj1⟩ : ∃ j1, 2 * i + 1 = j1 := ⟨_, rfl⟩
    rw [hj1] at e1 hL
    simp (disch := omega) [-getElem?_pos, hq1, e53, e1]
    refine less52 a4 (i := j1) (j := i) (by omega) (by omega) fun M3 g3 => ?_
    have hq3 : M3.obj q = some (.row 4 [[u0, v, u2, u3]] true) := by rw [g3.obj q (by have := a5.next; omega)]; exact hq1
    by_cases hl2 : ltO (nO L' (j1)) (nO L' i)
    · simp (disch := omega) [-getElem?_pos, hq3, e53]
      refine swap53 (a4.grow g3) (i := i) (j := j1) (by omega) (by omega) fun M4 w1 w2 => ?_
      simp (disch := omega) [-getElem?_pos]
      exact again_mk (j1, swp L' i (j1), M4) (by dsimp only; exact ⟨(swp_perm (by omega) (by omega)).trans a1, .inr (hD.step hL hl2), (swp_tail (by omega) (by omega) (by omega)).trans a3, w1, (a5.trans (Stp.grow g3 _)).trans w2⟩) (by dsimp only; omega) (by simp) rfl
    · simp (disch := omega) [-getElem?_pos]
      exact hk _ M3 L' a1 (hD.stop hL hl2) a3 (a4.grow g3) (a5.trans (Stp.grow g3 _))
  · obtain ⟨j1, hj1⟩ : ∃ j1, 2 * i + 1 = j1 := ⟨_, rfl⟩
    obtain ⟨j2, hj2⟩ : ∃ j2, 2 * i + 2 = j2 := ⟨_, rfl⟩
    rw [hj1] at e1
    have e2 : (j1 : Int) + 1 = (j2 : Int) := by omega
    simp (disch := omega) [-getElem?_pos, hq1, e53, e1, e2]
    refine less52 a4 (i := j2) (j := j1) (by omega) (by omega) fun M2 g2 => ?_
    have hq2 : M2.obj q = some (.row 4 [[u0, v, u2, u3]] true) := by rw [g2.obj q (by have := a5.next; omega)]; exact hq1
    have b4 := a4.grow g2
    have b5 := a5.trans (Stp.grow g2 v.fp)
    by_cases hl1 : ltO (nO L' j2) (nO L' j1)
    · have hL := Less.right (L := L') (n := n) (i := i) (by omega) (by rw [hj1, hj2]; exact hl1)
      rw [hj2] at hL
      simp (disch := omega) [-getElem?_pos, hq2, e53, e1, e2]
      refine less52 b4 (i := j2) (j := i) (by omega) (by omega) fun M3 g3 => ?_
      have hq3 : M3.obj q = some (.row 4 [[u0, v, u2, u3]] true) := by rw [g3.obj q (by have := a5.next; have := g2.next; omega)]; exact hq2
      by_cases hl2 : ltO (nO L' (j2)) (nO L' i)
      · simp (disch := omega) [-getElem?_pos, hq3, e53]
        refine swap53 (b4.grow g3) (i := i) (j := j2) (by omega) (by omega) fun M4 w1 w2 => ?_
        simp (disch := omega) [-getElem?_pos]
        exact again_mk (j2, swp L' i (j2), M4) (by dsimp only; exact ⟨(swp_perm (by omega) (by omega)).trans a1, .inr (hD.step hL hl2), (swp_tail (by omega) (by omega) (by omega)).trans a3, w1, (b5.trans (Stp.grow g3 _)).trans w2⟩) (by dsimp only; omega) (by simp) rfl
      · simp (disch := omega) [-getElem?_pos]
        exact hk _ M3 L' a1 (hD.stop hL hl2) a3 (b4.grow g3) (b5.trans (Stp.grow g3 _))
    · have hL := Less.left (L := L') (n := n) (i := i) (by omega) (.inr (by rw [hj1, hj2]; exact hl1))
      rw [hj1] at hL
      simp (disch := omega) [-getElem?_pos, hq2, e53, e1, e2]
      refine less52 b4 (i := j1) (j := i) (by omega) (by omega) fun M3 g3 => ?_
      have hq3 : M3.obj q = some (.row 4 [[u0, v, u2, u3]] true) := by rw [g3.obj q (by have := a5.next; have := g2.next; omega)]; exact hq2
      by_cases hl2 : ltO (nO L' (j1)) (nO L' i)
      · simp (disch := omega) [-getElem?_pos, hq3, e53]
        refine swap53 (b4.grow g3) (i := i) (j := j1) (by omega) (by omega) fun M4 w1 w2 => ?_
        simp (disch := omega) [-getElem?_pos]
        exact again_mk (j1, swp L' i (j1), M4) (by dsimp only; exact ⟨(swp_perm (by omega) (by omega)).trans a1, .inr (hD.step hL hl2), (swp_tail (by omega) (by omega) (by omega)).trans a3, w1, (b5.trans (Stp.grow g3 _)).trans w2⟩) (by dsimp only; omega) (by simp) rfl
      · simp (disch := omega) [-getElem?_pos]
        exact hk _ M3 L' a1 (hD.stop hL hl2) a3 (b4.grow g3) (b5.trans (Stp.grow g3 _))

open Go Go.AM
set_option linter.unusedVariables false
set_option linter.unusedSimpArgs false
set_option maxRecDepth 60000
set_option maxHeartbeats 8000000

theorem len51 {m : Mem} {v : V} {L : List Ot} (h : Ows m 3 v (L.map ot)) {K : KV} (hk : K (.int .i64 L.length) m) : ACalls Try.prog 51 [v] m K := by
  refine run_on (ctx_nil _) hm c51 (by simp) fun hf => ?_
  have hv := h.sl.lenSl
  rw [List.length_map] at hv
  simp (disch := omega) [-getElem?_pos, b51, hv]
  exact hk

theorem push55 {m : Mem} {q : Nat} {u0 v u2 u3 : V} (hq : m.obj q = some (.row 4 [[u0, v, u2, u3]] true)) (hql : q < m.next) (hqv : q ∉ v.fp) {L : List Ot} (h : Ows m 3 v (L.map ot)) (hl : L.length ≤ 1000000) {x : Ot} {K : KV}
    (hk : ∀ m' v', m'.obj q = some (.row 4 [[u0, v', u2, u3]] true) → q ∉ v'.fp → Ows m' 3 v' ((L ++ [x]).map ot) → Stp m m' (q :: v.fp) (q :: v'.fp) → K (.tup []) m') : ACalls Try.prog 55 [.ptr (some (q, 0, 1)), .ifc 30 (.agg (ot x))] m K := by
  refine run_on (ctx_nil _) hm c55 (by simp) fun hf => ?_
  simp only [ot]
  have vcs := h.sl.cs
  simp (disch := omega) [-getElem?_pos, b55, hq, List.range_succ, eltsOf, Mem.elts]
  obtain ⟨B, hB⟩ : ∃ B : AM.Obj, B = .row 3 [[V.int IntKind.i64 x.fst, V.int IntKind.i64 x.snd.fst, V.int IntKind.i64 x.snd.snd]] true := ⟨_, rfl⟩
  rw [← hB]
  have g := (Mem.Grew.new m B).trans (Mem.Grew.new _ B)
  refine (h.grow g).app (by rw [List.length_map]; omega) (by rw [List.length_map]; omega) fun v' m' w1 w2 w3 => ?_
  have hn := g.next
  have hne : q ∉ v'.fp := fun e => by
    rcases w2.fp q e with w | w
    · exact hqv w
    · omega
  have hq2 : m'.obj q = some (.row 4 [[u0, v, u2, u3]] true) := by rw [w2.obj q (by omega) hqv, g.obj q hql]; exact hq
  have vcs' := w1.sl.cs
  have vok' := w1.sl.okc
  simp (disch := omega) [-getElem?_pos, hq2, vcs', vok', splice]
  have hst : Stp m' (m'.upd q (some (.row 4 [[u0, v', u2, u3]] true))) (q :: v'.fp) (q :: v'.fp) := Stp.upd _ (by simp) _
  refine hk _ v' (by simp) hne ?_ ((((Stp.grow g v.fp).trans w2).mono (E := q :: v.fp) (E' := q :: v'.fp) (fun p hp => by simp [hp]) (fun p hp => by
    rcases List.mem_cons.1 hp with e | e
    · exact .inl (by simp [e])
    · exact .inr (.inl e))).trans hst)
  have := w1.keep (m' := m'.upd q (some (.row 4 [[u0, v', u2, u3]] true))) (by simp) (fun p hp => by rw [updO _ (fun e => hne (by rw [← e]; exact hp))])
  rw [List.map_append]; exact this

theorem push28 {m : Mem} {q : Nat} {u0 v u2 u3 : V} (hq : m.obj q = some (.row 4 [[u0, v, u2, u3]] true)) (hql : q < m.next) (hqv : q ∉ v.fp) {L : List Ot} (h : Ows m 3 v (L.map ot)) (hH : Heap L L.length) (hl : L.length ≤ 900000) {x : Ot} {K : KV}
    (hk : ∀ m' v' L', L'.Perm (x :: L) → Heap L' L'.length → m'.obj q = some (.row 4 [[u0, v', u2, u3]] true) → q ∉ v'.fp → Ows m' 3 v' (L'.map ot) → Stp m m' (q :: v.fp) (q :: v'.fp) → K (.tup []) m') : ACalls Try.prog 28 [.ifc 63 (.ptr (some (q, 0, 1))), .ifc 30 (.agg (ot x))] m K := by
  refine run_on (ctx_nil _) hm c28 (by simp) fun hf => ?_
  have e17 : (17 : TypeId) ≠ 63 := by decide
  have e37 : (37 : TypeId) ≠ 63 := by decide
  have e53 : (53 : TypeId) ≠ 63 := by decide
  simp (disch := omega) [-getElem?_pos, b28]
  refine push55 hq hql hqv h (by omega) fun m2 v2 p1 p2 p3 p4 => ?_
  simp (disch := omega) [-getElem?_pos, e17, e37, e53, p1]
  refine len51 p3 ?_
  have hj : (((L ++ [x]).length : Nat) : Int) - 1 = (L.length : Int) := by simp
  simp (disch := omega) [-getElem?_pos, hj]
  refine up32 (j := L.length) p1 (by have := p4.next; omega) p2 p3 (by simp; omega) (UpI.init hH x) fun m3 L' r1 r2 r3 r4 => ?_
  simp (disch := omega) [-getElem?_pos]
  have hlt3 := p4.next
  exact hk m3 v2 L' (r1.trans (List.perm_append_singleton x L)) r2 (by rw [r4.obj q (by omega) p2]; exact p1) p2 r3 (p4.trans (r4.mono (fun p hp => by simp [hp]) (fun p hp => .inl hp)))

theorem pop54 {m : Mem} {q : Nat} {u0 v u2 u3 : V} (hq : m.obj q = some (.row 4 [[u0, v, u2, u3]] true)) (hql : q < m.next) (hqv : q ∉ v.fp) {L : List Ot} (h : Ows m 3 v (L.map ot)) {n : Nat} (hn : L.length = n + 1) (hl : n ≤ 1000000) {K : KV}
    (hk : ∀ m' v', m'.obj q = some (.row 4 [[u0, v', u2, u3]] true) → q ∉ v'.fp → Ows m' 3 v' ((L.take n).map ot) → Stp m m' (q :: v.fp) (q :: v'.fp) → K (.ifc 30 (.agg (ot (nO L n)))) m') : ACalls Try.prog 54 [.ptr (some (q, 0, 1))] m K := by
  refine run_on (ctx_nil _) hm c54 (by simp) fun hf => ?_
  have hv := h.sl.lenSl
  rw [List.length_map, hn] at hv
  obtain ⟨p, y, full, rw, z1, z2, z3, z4, _⟩ := h.sl.at (ot_get (nO_get (k := n) (by omega))) .i64
  obtain ⟨w, y1, y2, y3⟩ := h.cutR .i64 n (by rw [List.length_map]; omega)
  have e1 : ((n + 1 : Nat) : Int) - 1 = (n : Int) := by omega
  have vcs := y2.sl.cs
  have vok := y2.sl.okc
  simp only [ot] at z4
  simp (disch := omega) [-getElem?_pos, b54, hq, hv, e1, z1, z3, z4, y1, vcs, vok, splice]
  have g := Mem.Grew.new m (.row 3 [[V.int IntKind.i64 (nO L n).1, V.int IntKind.i64 (nO L n).2.1, V.int IntKind.i64 (nO L n).2.2]] true)
  have hst : Stp (m.new (.row 3 [[V.int IntKind.i64 (nO L n).1, V.int IntKind.i64 (nO L n).2.1, V.int IntKind.i64 (nO L n).2.2]] true)) ((m.new (.row 3 [[V.int IntKind.i64 (nO L n).1, V.int IntKind.i64 (nO L n).2.1, V.int IntKind.i64 (nO L n).2.2]] true)).upd q (some (.row 4 [[u0, w, u2, u3]] true))) (q :: v.fp) (q :: v.fp) := Stp.upd _ (by simp) _
  have hne : q ∉ w.fp := fun e => hqv (y3 q e)
  refine hk _ w (by simp) hne ?_ (((Stp.grow g _).trans hst).mono (fun p hp => hp) (fun p hp => by
    rcases List.mem_cons.1 hp with e | e
    · exact .inl (by simp [e])
    · exact .inl (by simp [y3 p e])))
  rw [List.map_take]
  exact (y2.grow g).keep (by simp) (fun p hp => by rw [updO _ (fun e => hne (by rw [← e]; exact hp))])

theorem nO_mid {A : List Ot} {x : Ot} {L : List Ot} {n : Nat} (h : L.drop n = [x]) : L.take n ++ [x] = L ∧ nO L n = x ∧ L.length = n + 1 := by
  have hl : L.length = n + 1 := by
    have := congrArg List.length h
    rw [List.length_drop] at this; simp at this
    omega
  refine ⟨by rw [← h, List.take_append_drop], ?_, hl⟩
  have h0 : (L.drop n)[0]? = some x := by rw [h]; rfl
  rw [List.getElem?_drop, Nat.add_zero, nO_get (by omega)] at h0
  injection h0

theorem pop24 {m : Mem} {q : Nat} {u0 v u2 u3 : V} (hq : m.obj q = some (.row 4 [[u0, v, u2, u3]] true)) (hql : q < m.next) (hqv : q ∉ v.fp) {L : List Ot} (h : Ows m 3 v (L.map ot)) (hH : Heap L L.length) (hl : L.length ≤ 900000) (h0 : 0 < L.length) {K : KV}
    (hk : ∀ m' v' L' x, L.Perm (x :: L') → (∀ y ∈ L, leO x y) → Heap L' L'.length → m'.obj q = some (.row 4 [[u0, v', u2, u3]] true) → q ∉ v'.fp → Ows m' 3 v' (L'.map ot) → Stp m m' (q :: v.fp) (q :: v'.fp) → K (.ifc 30 (.agg (ot x))) m') : ACalls Try.prog 24 [.ifc 63 (.ptr (some (q, 0, 1)))] m K := by
  refine run_on (ctx_nil _) hm c24 (by simp) fun hf => ?_
  have e17 : (17 : TypeId) ≠ 63 := by decide
  have e37 : (37 : TypeId) ≠ 63 := by decide
  have e53 : (53 : TypeId) ≠ 63 := by decide
  obtain ⟨n, hn⟩ : ∃ n, L.length = n + 1 := ⟨L.length - 1, by omega⟩
  simp (disch := omega) [-getElem?_pos, b24, e17, e37, e53, hq]
  refine len51 h ?_
  have hj : ((L.length : Nat) : Int) - 1 = (n : Int) := by omega
  simp (disch := omega) [-getElem?_pos, hj, e53, hq]
  refine swap53 h (i := 0) (j := n) (by omega) (by omega) fun m2 p1 p2 => ?_
  have hq2 : m2.obj q = some (.row 4 [[u0, v, u2, u3]] true) := by rw [p2.obj q hql hqv]; exact hq
  simp (disch := omega) [-getElem?_pos]
  refine down29 (n := n) hq2 (by have := p2.next; omega) hqv p1 (by rw [swp_length]; omega) (by rw [swp_length]; omega) (fun w => DnI.init w (by omega) (by rw [← hn]; exact hH)) fun b m3 L2 r1 r2 r3 r4 r5 => ?_
  have hl2 := r1.length_eq
  rw [swp_length] at hl2
  have hq3 : m3.obj q = some (.row 4 [[u0, v, u2, u3]] true) := by rw [r5.obj q (by have := p2.next; omega) hqv]; exact hq2
  simp (disch := omega) [-getElem?_pos]
  refine pop54 (n := n) hq3 (by have := p2.next; have := r5.next; omega) hqv r4 (by omega) (by omega) fun m4 v' t1 t2 t3 t4 => ?_
  simp (disch := omega) [-getElem?_pos]
  have hd : L2.drop n = [nO L 0] := by
    rw [r3]
    apply List.ext_getElem?
    intro k
    rw [List.getElem?_drop]
    by_cases hk0 : k = 0
    · subst hk0
      rw [Nat.add_zero, nO_get (by rw [swp_length]; omega), nO_swp (by omega) (by omega), if_pos rfl]; rfl
    · rw [List.getElem?_eq_none (by rw [swp_length]; omega), List.getElem?_eq_none (by simp; omega)]
  obtain ⟨s1, s2, s3⟩ := nO_mid (A := []) hd
  rw [s2]
  have hperm : L.Perm (nO L 0 :: L2.take n) := by
    refine ((swp_perm (by omega) (by omega)).symm.trans r1.symm).trans ?_
    rw [← s1]
    conv => rhs; rw [s1]
    exact List.perm_append_singleton _ _
  refine hk m4 v' (L2.take n) (nO L 0) hperm (fun y hy => ?_) (fun k hk1 hk2 => ?_) t1 t2 t3 (((p2.trans r5).mono (E := q :: v.fp) (E' := q :: v.fp) (fun p hp => by simp [hp]) (fun p hp => .inl hp)).trans t4)
  · obtain ⟨k, hk⟩ := List.getElem?_of_mem hy
    have hkl := (List.getElem?_eq_some_iff.1 hk).1
    have := hH.root k hkl
    rw [nO_get hkl] at hk; injection hk with hk
    rw [hk] at this; exact this
  · rw [List.length_take] at hk2
    rw [nO_take (by omega), nO_take (by omega)]
    exact r2 k hk1 (by omega)
end Go.Proofs.Ythkopgcdghbjlaa
