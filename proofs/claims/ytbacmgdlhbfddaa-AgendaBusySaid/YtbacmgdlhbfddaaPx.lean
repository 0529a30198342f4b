/-
  SETS OF SPANS, in plain words: no program in sight.
-/
import Derived.Test.YtbacmgdlhbfddaaAm27
namespace Go.Proofs.Ytbacmgdlhbfddaa
open Go Go.AM
set_option linter.unusedVariables false
set_option linter.unusedSimpArgs false
set_option maxRecDepth 20000

abbrev Sp := Int × Int
def rt (x : Sp) : Prop := -1152921504606846976 ≤ x.1 ∧ x.2 ≤ 1152921504606846976 ∧ x.1 < x.2
instance (x : Sp) : Decidable (rt x) := by unfold rt; infer_instance
def inB (x : Sp) (t : Int) : Bool := decide (rt x ∧ x.1 ≤ t ∧ t < x.2)
/-- Some span that may be has it. -/
def Inn (L : List Sp) (t : Int) : Bool := L.any (inB · t)
theorem inB_iff {x : Sp} {t : Int} : inB x t = true ↔ rt x ∧ x.1 ≤ t ∧ t < x.2 := by simp [inB]
theorem inn_iff {L : List Sp} {t : Int} : Inn L t = true ↔ ∃ x ∈ L, rt x ∧ x.1 ≤ t ∧ t < x.2 := by simp [Inn, List.any_eq_true, inB_iff]
theorem inn_nil (t : Int) : Inn [] t = false := rfl
theorem inn_app (A B : List Sp) (t : Int) : Inn (A ++ B) t = (Inn A t || Inn B t) := by simp [Inn]
theorem inn_one (x : Sp) (t : Int) : Inn [x] t = inB x t := by simp [Inn]

/-- They are a set. -/
structure RS (L : List Sp) : Prop where
  rt : ∀ x ∈ L, rt x
  gap : L.Pairwise fun x y => x.2 < y.1
theorem RS.nil : RS [] := ⟨by simp, by simp⟩
theorem RS.app {L : List Sp} {x : Sp} : RS (L ++ [x]) ↔ RS L ∧ Go.Proofs.Ytbacmgdlhbfddaa.rt x ∧ ∀ y ∈ L, y.2 < x.1 := by
  constructor
  · rintro ⟨h1, h2⟩
    rw [List.pairwise_append] at h2
    exact ⟨⟨fun y hy => h1 y (by simp [hy]), h2.1⟩, h1 x (by simp), fun y hy => h2.2.2 y hy x (by simp)⟩
  · rintro ⟨⟨h1, h2⟩, h3, h4⟩
    refine ⟨fun y hy => ?_, ?_⟩
    · rcases List.mem_append.1 hy with h | h
      · exact h1 y h
      · rw [List.mem_singleton.1 h]; exact h3
    · rw [List.pairwise_append]
      exact ⟨h2, by simp, fun y hy z hz => by rw [List.mem_singleton.1 hz]; exact h4 y hy⟩
/-- The last one is enough. -/
theorem RS.push {L : List Sp} {l x : Sp} (h : RS (L ++ [l])) (hx : Go.Proofs.Ytbacmgdlhbfddaa.rt x) (hl : l.2 < x.1) : RS (L ++ [l] ++ [x]) := by
  refine RS.app.2 ⟨h, hx, fun y hy => ?_⟩
  obtain ⟨h1, h2, h3⟩ := RS.app.1 h
  rcases List.mem_append.1 hy with q | q
  · have a := h3 y q
    have b := h2.2.2
    omega
  · rw [List.mem_singleton.1 q]; exact hl

/-! ### how many times -/

def cnt (p : Int → Bool) : Nat → Nat
  | 0 => 0
  | n + 1 => cnt p n + if p ((n : Int) - 1152921504606846976) then 1 else 0
theorem cnt_congr {p q : Int → Bool} : ∀ (n : Nat), (∀ k : Nat, k < n → p ((k : Int) - 1152921504606846976) = q ((k : Int) - 1152921504606846976)) → cnt p n = cnt q n
  | 0, _ => rfl
  | n + 1, h => by
    simp only [cnt]
    rw [cnt_congr n fun k hk => h k (by omega), h n (by omega)]
theorem cnt_true {p : Int → Bool} (a : Nat) : ∀ (d : Nat), (∀ k : Nat, a ≤ k → k < a + d → p ((k : Int) - 1152921504606846976) = true) → cnt p (a + d) = cnt p a + d
  | 0, _ => rfl
  | d + 1, h => by
    show cnt p (a + d + 1) = _
    simp only [cnt]
    rw [cnt_true a d fun k h1 h2 => h k h1 (by omega), h (a + d) (by omega) (by omega)]
    simp; omega
theorem cnt_false {p : Int → Bool} (a : Nat) : ∀ (d : Nat), (∀ k : Nat, a ≤ k → k < a + d → p ((k : Int) - 1152921504606846976) = false) → cnt p (a + d) = cnt p a
  | 0, _ => rfl
  | d + 1, h => by
    show cnt p (a + d + 1) = _
    simp only [cnt]
    rw [cnt_false a d fun k h1 h2 => h k h1 (by omega), h (a + d) (by omega) (by omega)]
    simp
theorem cnt_or (p q : Int → Bool) : ∀ n, cnt (fun t => p t || q t) n + cnt (fun t => p t && q t) n = cnt p n + cnt q n
  | 0 => rfl
  | n + 1 => by
    have := cnt_or p q n
    simp only [cnt]
    rcases Bool.eq_false_or_eq_true (p ((n : Int) - 1152921504606846976)) with h1 | h1 <;> rcases Bool.eq_false_or_eq_true (q ((n : Int) - 1152921504606846976)) with h2 | h2 <;> simp [h1, h2] <;> omega
theorem cnt_not (p q : Int → Bool) : ∀ n, cnt (fun t => p t && !q t) n + cnt (fun t => p t && q t) n = cnt p n
  | 0 => rfl
  | n + 1 => by
    have := cnt_not p q n
    simp only [cnt]
    rcases Bool.eq_false_or_eq_true (p ((n : Int) - 1152921504606846976)) with h1 | h1 <;> rcases Bool.eq_false_or_eq_true (q ((n : Int) - 1152921504606846976)) with h2 | h2 <;> simp [h1, h2] <;> omega
theorem cnt_none (p : Int → Bool) (h : ∀ t, p t = false) : ∀ n, cnt p n = 0
  | 0 => rfl
  | n + 1 => by simp only [cnt]; rw [cnt_none p h n, h]; rfl
theorem cnt_le (p : Int → Bool) : ∀ n, cnt p n ≤ n
  | 0 => by simp [cnt]
  | n + 1 => by
    have := cnt_le p n
    simp only [cnt]
    split <;> omega

/-- How many times spans have. -/
def sumL : List Sp → Int
  | [] => 0
  | x :: L => (x.2 - x.1) + sumL L
theorem sumL_app (A B : List Sp) : sumL (A ++ B) = sumL A + sumL B := by
  induction A with
  | nil => simp [sumL]
  | cons x A ih => simp only [List.cons_append, sumL, ih]; omega

theorem sum_cnt {L : List Sp} (h : RS L) : ∀ n : Nat, (∀ x ∈ L, x.2 + 1152921504606846976 ≤ n) → sumL L = cnt (Inn L) n := by
  generalize hr : L.reverse = R
  induction R generalizing L with
  | nil =>
    intro n _
    have : L = [] := by simpa using hr
    subst this
    rw [cnt_none _ (fun t => inn_nil t)]; rfl
  | cons x R ih =>
    intro n hn
    obtain rfl : L = R.reverse ++ [x] := by rw [← List.reverse_reverse L, hr]; simp
    obtain ⟨h1, h2, h3⟩ := RS.app.1 h
    have hx := hn x (by simp)
    obtain ⟨k1, k2, k3⟩ := h2
    obtain ⟨a, ha⟩ := Int.eq_ofNat_of_zero_le (show 0 ≤ x.1 + 1152921504606846976 by omega)
    obtain ⟨d, hd⟩ := Int.eq_ofNat_of_zero_le (show 0 ≤ x.2 - x.1 by omega)
    obtain ⟨e, he⟩ := Int.eq_ofNat_of_zero_le (show 0 ≤ n - (x.2 + 1152921504606846976) by omega)
    obtain rfl : n = a + d + e := by omega
    have i0 := ih h1 (by simp) a (fun y hy => by have := h3 y hy; omega)
    have inner : ∀ t, t < x.1 → Inn (R.reverse ++ [x]) t = Inn R.reverse t := fun t ht => by
      rw [inn_app, inn_one]
      have : inB x t = false := by unfold inB; rw [decide_eq_false_iff_not]; omega
      rw [this]; simp
    have upper : ∀ t, x.2 ≤ t → Inn (R.reverse ++ [x]) t = false := fun t ht => by
      rw [← Bool.not_eq_true, inn_iff]
      rintro ⟨y, hy, ⟨_, _, h4⟩, h5, h6⟩
      rcases List.mem_append.1 hy with q | q
      · have := h3 y q; omega
      · rw [List.mem_singleton.1 q] at h6; omega
    rw [cnt_false (a + d) e fun k q1 q2 => upper _ (by omega)]
    rw [cnt_true a d fun k q1 q2 => by rw [inn_app, inn_one, inB_iff.2 ⟨⟨k1, k2, k3⟩, by omega, by omega⟩]; simp]
    rw [cnt_congr a fun k hk => inner _ (by omega)]
    rw [sumL_app, i0]; simp [sumL]; omega
theorem sum_rng {L : List Sp} (h : RS L) : 0 ≤ sumL L ∧ sumL L ≤ 2305843009213693952 := by
  obtain ⟨n, hn⟩ : ∃ n : Nat, n = 2305843009213693952 := ⟨_, rfl⟩
  have := sum_cnt h n (fun x hx => by have := (h.rt x hx).2.1; omega)
  have := cnt_le (Inn L) n
  omega
theorem RS.take {L : List Sp} (h : RS L) (i : Nat) : RS (L.take i) := ⟨fun x hx => h.rt x (List.mem_of_mem_take hx), h.gap.sublist (List.take_sublist _ _)⟩
end Go.Proofs.Ytbacmgdlhbfddaa
