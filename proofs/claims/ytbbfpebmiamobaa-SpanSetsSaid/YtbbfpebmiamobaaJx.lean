/-
  EDGES, in plain words: who is in one, in both, in one alone, by the edges in order.
-/
import Derived.Test.YtbbfpebmiamobaaIx
namespace Go.Proofs.Ytbbfpebmiamobaa
open Go Go.AM
set_option linter.unusedVariables false
set_option linter.unusedSimpArgs false
set_option maxRecDepth 60000
set_option maxHeartbeats 4000000

/-- What edges up to a time come to. -/
def fs (g : Eg → Int) (t : Int) : List Eg → Int
  | [] => 0
  | e :: E => (if e.1 ≤ t then g e else 0) + fs g t E
def sm (g : Eg → Int) : List Eg → Int
  | [] => 0
  | e :: E => g e + sm g E
theorem fs_app (g : Eg → Int) (t : Int) (A B : List Eg) : fs g t (A ++ B) = fs g t A + fs g t B := by
  induction A with
  | nil => simp [fs]
  | cons x A ih => simp only [List.cons_append, fs, ih]; omega
theorem sm_app (g : Eg → Int) (A B : List Eg) : sm g (A ++ B) = sm g A + sm g B := by
  induction A with
  | nil => simp [sm]
  | cons x A ih => simp only [List.cons_append, sm, ih]; omega
theorem fs_perm {g : Eg → Int} {t : Int} {A B : List Eg} (h : A.Perm B) : fs g t A = fs g t B := by
  induction h with
  | nil => rfl
  | cons x _ ih => simp only [fs, ih]
  | swap x y _ => simp only [fs]; omega
  | trans _ _ i1 i2 => rw [i1, i2]
theorem fs_all {g : Eg → Int} {t : Int} {A : List Eg} (h : ∀ e ∈ A, e.1 ≤ t) : fs g t A = sm g A := by
  induction A with
  | nil => rfl
  | cons x A ih => simp only [fs, sm]; rw [if_pos (h x (by simp)), ih fun e he => h e (by simp [he])]
theorem fs_none {g : Eg → Int} {t : Int} {A : List Eg} (h : ∀ e ∈ A, t < e.1) : fs g t A = 0 := by
  induction A with
  | nil => rfl
  | cons x A ih => simp only [fs]; rw [if_neg (by have := h x (by simp); omega), ih fun e he => h e (by simp [he])]; rfl

def egS (S : List Sp) : List Eg := S.flatMap fun x => [(x.1, 1, 0), (x.2, -1, 0)]
def egT (S : List Sp) : List Eg := S.flatMap fun x => [(x.1, 0, 1), (x.2, 0, -1)]
theorem egS_snoc (S : List Sp) (x : Sp) : egS (S ++ [x]) = egS S ++ [(x.1, 1, 0), (x.2, -1, 0)] := by simp [egS]
theorem egT_snoc (S : List Sp) (x : Sp) : egT (S ++ [x]) = egT S ++ [(x.1, 0, 1), (x.2, 0, -1)] := by simp [egT]
theorem egS_length (S : List Sp) : (egS S).length = 2 * S.length := by
  induction S with
  | nil => rfl
  | cons x S ih => unfold egS at *; simp only [List.flatMap_cons, List.length_append, List.length_cons, List.length_nil, ih]; omega
theorem egT_length (S : List Sp) : (egT S).length = 2 * S.length := by
  induction S with
  | nil => rfl
  | cons x S ih => unfold egT at *; simp only [List.flatMap_cons, List.length_append, List.length_cons, List.length_nil, ih]; omega

def nS (t : Int) : List Sp → Int
  | [] => 0
  | x :: S => (if x.1 ≤ t ∧ t < x.2 then 1 else 0) + nS t S
theorem nS_ge (t : Int) (S : List Sp) : 0 ≤ nS t S := by
  induction S with
  | nil => simp [nS]
  | cons x S ih => simp only [nS]; split <;> omega
theorem nS_pos {S : List Sp} (h : ∀ x ∈ S, rt x) (t : Int) : decide (0 < nS t S) = Inn S t := by
  rw [Bool.eq_iff_iff, decide_eq_true_iff]
  induction S with
  | nil => simp [nS, inn_nil]
  | cons x S ih =>
    have i0 := ih fun y hy => h y (by simp [hy])
    have e : Inn (x :: S) t = (inB x t || Inn S t) := by simp [Inn]
    rw [e, Bool.or_eq_true, inB_iff, ← i0]
    have hx := h x (by simp)
    have := nS_ge t S
    simp only [nS]
    constructor
    · intro h1
      by_cases q : x.1 ≤ t ∧ t < x.2
      · exact .inl ⟨hx, q⟩
      · rw [if_neg q] at h1; exact .inr (by omega)
    · rintro (⟨_, q⟩ | q)
      · rw [if_pos q]; omega
      · split <;> omega
theorem fsA_S {S : List Sp} (h : ∀ x ∈ S, rt x) (t : Int) : fs (·.2.1) t (egS S) = nS t S := by
  induction S with
  | nil => rfl
  | cons x S ih =>
    have hx := (h x (by simp)).2.2
    have i0 := ih fun y hy => h y (by simp [hy])
    have e : egS (x :: S) = [(x.1, 1, 0), (x.2, -1, 0)] ++ egS S := by simp [egS]
    rw [e, fs_app, i0]
    simp only [fs, nS]
    split <;> split <;> split <;> omega
theorem fsB_T {S : List Sp} (h : ∀ x ∈ S, rt x) (t : Int) : fs (·.2.2) t (egT S) = nS t S := by
  induction S with
  | nil => rfl
  | cons x S ih =>
    have hx := (h x (by simp)).2.2
    have i0 := ih fun y hy => h y (by simp [hy])
    have e : egT (x :: S) = [(x.1, 0, 1), (x.2, 0, -1)] ++ egT S := by simp [egT]
    rw [e, fs_app, i0]
    simp only [fs, nS]
    split <;> split <;> split <;> omega
theorem fsB_S (S : List Sp) (t : Int) : fs (·.2.2) t (egS S) = 0 := by
  induction S with
  | nil => rfl
  | cons x S ih =>
    have e : egS (x :: S) = [(x.1, 1, 0), (x.2, -1, 0)] ++ egS S := by simp [egS]
    rw [e, fs_app, ih]
    simp [fs]
theorem fsA_T (S : List Sp) (t : Int) : fs (·.2.1) t (egT S) = 0 := by
  induction S with
  | nil => rfl
  | cons x S ih =>
    have e : egT (x :: S) = [(x.1, 0, 1), (x.2, 0, -1)] ++ egT S := by simp [egT]
    rw [e, fs_app, ih]
    simp [fs]
theorem mem_egS {S : List Sp} {e : Eg} : e ∈ egS S ↔ ∃ x ∈ S, e = (x.1, 1, 0) ∨ e = (x.2, -1, 0) := by simp [egS]
theorem mem_egT {S : List Sp} {e : Eg} : e ∈ egT S ↔ ∃ x ∈ S, e = (x.1, 0, 1) ∨ e = (x.2, 0, -1) := by simp [egT]

def nthE (E : List Eg) (i : Nat) : Eg := E.getD i (0, 0, 0)
theorem nthE_get {l : List Eg} {i : Nat} (h : i < l.length) : l[i]? = some (nthE l i) := by simp [nthE, List.getD_eq_getElem?_getD, h]
theorem nthE_mem {l : List Eg} {i : Nat} (h : i < l.length) : nthE l i ∈ l := List.mem_of_getElem? (nthE_get h)
theorem mem_nthE {l : List Eg} {x : Eg} (h : x ∈ l) : ∃ i, i < l.length ∧ nthE l i = x := by
  obtain ⟨i, hi⟩ := List.mem_iff_getElem?.1 h
  have hl := (List.getElem?_eq_some_iff.1 hi).1
  refine ⟨i, hl, ?_⟩
  have := nthE_get hl
  rw [hi] at this; injection this with this; exact this.symm
theorem takeE {l : List Eg} {i : Nat} (h : i < l.length) : l.take (i + 1) = l.take i ++ [nthE l i] := by
  rw [List.take_add_one, nthE_get h]; rfl

/-- Edges in order, of two sets. -/
structure Edges (S U : List Sp) (E : List Eg) : Prop where
  perm : E.Perm (egS S ++ egT U)
  up : E.Pairwise fun x y => x.1 ≤ y.1
theorem Edges.at' {S U : List Sp} {E : List Eg} (h : Edges S U E) {i j : Nat} (hij : i ≤ j) (hj : j < E.length) : (nthE E i).1 ≤ (nthE E j).1 := by
  rcases Nat.eq_or_lt_of_le hij with q | q
  · subst q; exact Int.le_refl _
  have := (List.pairwise_iff_getElem.1 h.up) i j (by omega) hj q
  have e1 := nthE_get (l := E) (i := i) (by omega)
  have e2 := nthE_get (l := E) (i := j) hj
  rw [List.getElem?_eq_getElem (by omega)] at e1 e2
  injection e1 with e1; injection e2 with e2
  rw [← e1, ← e2]; exact this
theorem Edges.part {S U : List Sp} {E : List Eg} (h : Edges S U E) {i : Nat} (hi : i + 1 < E.length) {t : Int} (h1 : (nthE E i).1 ≤ t) (h2 : t < (nthE E (i + 1)).1) (g : Eg → Int) : sm g (E.take (i + 1)) = fs g t E := by
  have e : E = E.take (i + 1) ++ E.drop (i + 1) := (List.take_append_drop _ _).symm
  have a1 : fs g t (E.take (i + 1)) = sm g (E.take (i + 1)) := fs_all fun e he => by
    obtain ⟨j, hj⟩ := List.mem_iff_getElem?.1 he
    have hjl := (List.getElem?_eq_some_iff.1 hj).1
    simp at hjl
    rw [List.getElem?_take_of_lt (by omega), nthE_get (by omega)] at hj
    injection hj with hj
    have := h.at' (i := j) (j := i) (by omega) (by omega)
    rw [hj] at this; omega
  have a2 : fs g t (E.drop (i + 1)) = 0 := fs_none fun e he => by
    obtain ⟨j, hj⟩ := List.mem_iff_getElem?.1 he
    have hjl := (List.getElem?_eq_some_iff.1 hj).1
    simp at hjl
    rw [List.getElem?_drop, nthE_get (by omega)] at hj
    injection hj with hj
    have := h.at' (i := i + 1) (j := i + 1 + j) (by omega) (by omega)
    rw [hj] at this; omega
  have : fs g t E = fs g t (E.take (i + 1)) + fs g t (E.drop (i + 1)) := by rw [← fs_app, ← e]
  omega

/-- Between this edge and the next one. -/
def onJ (f : Bool → Bool → Bool) (E : List Eg) (i : Nat) : Bool := decide (i + 1 < E.length) && f (decide (0 < sm (·.2.1) (E.take (i + 1)))) (decide (0 < sm (·.2.2) (E.take (i + 1))))
def outJ (f : Bool → Bool → Bool) (E : List Eg) : Nat → List Sp
  | 0 => []
  | i + 1 => outJ f E i ++ if onJ f E i then [((nthE E i).1, (nthE E (i + 1)).1)] else []
theorem mem_outJ {f : Bool → Bool → Bool} {E : List Eg} {x : Sp} : ∀ {k : Nat}, x ∈ outJ f E k ↔ ∃ i, i < k ∧ onJ f E i = true ∧ x = ((nthE E i).1, (nthE E (i + 1)).1)
  | 0 => by simp [outJ]
  | k + 1 => by
    simp only [outJ, List.mem_append, mem_outJ (k := k)]
    constructor
    · rintro (⟨i, h1, h2, h3⟩ | h)
      · exact ⟨i, by omega, h2, h3⟩
      · split at h
        · rename_i hk; exact ⟨k, by omega, hk, by simpa using h⟩
        · cases h
    · rintro ⟨i, h1, h2, h3⟩
      by_cases q : i = k
      · subst q; right; rw [if_pos h2, h3]; simp
      · exact .inl ⟨i, by omega, h2, h3⟩
theorem outJ_length (f : Bool → Bool → Bool) (E : List Eg) : ∀ k, (outJ f E k).length ≤ k
  | 0 => by simp [outJ]
  | k + 1 => by
    have := outJ_length f E k
    simp only [outJ, List.length_append]
    split <;> simp <;> omega
theorem turn {P : Nat → Prop} [DecidablePred P] : ∀ (d a : Nat), P a → ¬ P (a + d) → ∃ i, a ≤ i ∧ i < a + d ∧ P i ∧ ¬ P (i + 1)
  | 0, a, h1, h2 => absurd h1 h2
  | d + 1, a, h1, h2 => by
    by_cases q : P (a + 1)
    · obtain ⟨i, i1, i2, i3, i4⟩ := turn d (a + 1) q (by rw [show a + 1 + d = a + (d + 1) by omega]; exact h2)
      exact ⟨i, by omega, by omega, i3, i4⟩
    · exact ⟨a, by omega, by omega, h1, q⟩

theorem joinInn {f : Bool → Bool → Bool} (hf : f false false = false) {S U : List Sp} {E : List Eg} (hS : RS S) (hU : RS U) (h : Edges S U E) (t : Int) : Inn (outJ f E E.length) t = f (Inn S t) (Inn U t) := by
  have key : ∀ i, i + 1 < E.length → (nthE E i).1 ≤ t → t < (nthE E (i + 1)).1 → f (decide (0 < sm (·.2.1) (E.take (i + 1)))) (decide (0 < sm (·.2.2) (E.take (i + 1)))) = f (Inn S t) (Inn U t) := fun i h1 h2 h3 => by
    rw [h.part h1 h2 h3, h.part h1 h2 h3, fs_perm h.perm, fs_perm h.perm, fs_app, fs_app, fsA_S hS.rt, fsB_T hU.rt, fsB_S, fsA_T, Int.add_zero, Int.zero_add, nS_pos hS.rt, nS_pos hU.rt]
  rw [Bool.eq_iff_iff]
  constructor
  · intro hI
    obtain ⟨x, hx, _, h1, h2⟩ := inn_iff.1 hI
    obtain ⟨i, i1, i2, rfl⟩ := mem_outJ.1 hx
    unfold onJ at i2
    rw [Bool.and_eq_true, decide_eq_true_iff] at i2
    rw [← key i i2.1 h1 h2]; exact i2.2
  · intro hF
    have bnd : ∀ e ∈ E, -1152921504606846976 ≤ e.1 ∧ e.1 ≤ 1152921504606846976 := fun e he => by
      have := h.perm.mem_iff.1 he
      rcases List.mem_append.1 this with q | q
      · obtain ⟨x, hx, rfl | rfl⟩ := mem_egS.1 q
        · have := hS.rt x hx; unfold rt at this; dsimp only; omega
        · have := hS.rt x hx; unfold rt at this; dsimp only; omega
      · obtain ⟨x, hx, rfl | rfl⟩ := mem_egT.1 q
        · have := hU.rt x hx; unfold rt at this; dsimp only; omega
        · have := hU.rt x hx; unfold rt at this; dsimp only; omega
    have two : ∃ a b, a ∈ E ∧ b ∈ E ∧ a.1 ≤ t ∧ t < b.1 := by
      by_cases q : Inn S t = true
      · obtain ⟨x, hx, _, h1, h2⟩ := inn_iff.1 q
        exact ⟨(x.1, 1, 0), (x.2, -1, 0), h.perm.mem_iff.2 (List.mem_append_left _ (mem_egS.2 ⟨x, hx, .inl rfl⟩)), h.perm.mem_iff.2 (List.mem_append_left _ (mem_egS.2 ⟨x, hx, .inr rfl⟩)), h1, h2⟩
      · by_cases q2 : Inn U t = true
        · obtain ⟨x, hx, _, h1, h2⟩ := inn_iff.1 q2
          exact ⟨(x.1, 0, 1), (x.2, 0, -1), h.perm.mem_iff.2 (List.mem_append_right _ (mem_egT.2 ⟨x, hx, .inl rfl⟩)), h.perm.mem_iff.2 (List.mem_append_right _ (mem_egT.2 ⟨x, hx, .inr rfl⟩)), h1, h2⟩
        · rw [Bool.not_eq_true] at q q2
          rw [q, q2, hf] at hF; cases hF
    obtain ⟨a, b, ha, hb, h1, h2⟩ := two
    obtain ⟨ja, hja, rfl⟩ := mem_nthE ha
    obtain ⟨jb, hjb, rfl⟩ := mem_nthE hb
    have hlt : ja < jb := by
      rcases Nat.lt_or_ge ja jb with q | q
      · exact q
      · have := h.at' q hja; omega
    obtain ⟨d, rfl⟩ : ∃ d, jb = ja + d := ⟨jb - ja, by omega⟩
    obtain ⟨i, i1, i2, i3, i4⟩ := turn (P := fun j => (nthE E j).1 ≤ t) d ja h1 (by omega)
    have hi : i + 1 < E.length := by omega
    rw [← key i hi i3 (by omega)] at hF
    refine inn_iff.2 ⟨((nthE E i).1, (nthE E (i + 1)).1), mem_outJ.2 ⟨i, by omega, by unfold onJ; rw [hF, decide_eq_true hi]; rfl, rfl⟩, ?_, i3, by dsimp only; omega⟩
    have b1 := bnd _ (nthE_mem (l := E) (i := i) (by omega))
    have b2 := bnd _ (nthE_mem hi)
    exact ⟨b1.1, b2.2, by dsimp only; omega⟩
end Go.Proofs.Ytbbfpebmiamobaa
