/-
  THE BEST AGREEMENT, in plain words: what going through edges in order comes to. No program here.
-/
import Derived.Test.YtginhgjbjfndfaaFx
namespace Go.Proofs.Ytginhgjbjfndfaa
open Go Go.AM
set_option linter.unusedVariables false
set_option linter.unusedSimpArgs false

abbrev Ed := Int × Int
/-- How many are open. -/
def sm : List Ed → Int
  | [] => 0
  | e :: l => e.2 + sm l
theorem sm_append : ∀ a b : List Ed, sm (a ++ b) = sm a + sm b
  | [], b => by simp [sm]
  | e :: a, b => by simp only [List.cons_append, sm, sm_append a b]; omega
theorem sm_perm {a b : List Ed} (h : a.Perm b) : sm a = sm b := by
  induction h with
  | nil => rfl
  | cons x _ ih => simp only [sm, ih]
  | swap x y l => simp only [sm]; omega
  | trans _ _ h1 h2 => omega

/-- The edges of all sources. -/
def edU : List (Int × Int) → List Ed
  | [] => []
  | x :: l => (if okS x then [(x.1, 1), (x.2, -1)] else []) ++ edU l
theorem edU_snoc (x : Int × Int) : ∀ l, edU (l ++ [x]) = edU l ++ if okS x then [(x.1, 1), (x.2, -1)] else []
  | [] => by simp [edU]
  | y :: l => by simp only [List.cons_append, edU, edU_snoc x l, List.append_assoc]
theorem edU_mem {e : Ed} : ∀ {l}, e ∈ edU l ↔ ∃ x ∈ l, okS x ∧ (e = (x.1, 1) ∨ e = (x.2, -1))
  | [] => by simp [edU]
  | y :: l => by
    simp only [edU, List.mem_append, edU_mem (l := l), List.mem_cons, exists_eq_or_imp]
    by_cases h : okS y <;> simp [h]
theorem edU_length : ∀ l, (edU l).length ≤ 2 * l.length
  | [] => by simp [edU]
  | y :: l => by
    have := edU_length l
    simp only [edU, List.length_append, List.length_cons]
    split <;> simp <;> omega

/-- Those that count at a time: what began till then, what ended ahead of it. -/
def pt (t : Int) (e : Ed) : Bool := decide (e.1 < t ∨ (e.1 = t ∧ 0 < e.2))
theorem sm_pt (t : Int) : ∀ l, sm ((edU l).filter (pt t)) = cntL l t
  | [] => rfl
  | x :: l => by
    have ih := sm_pt t l
    have e1 : cntL (x :: l) t = cntL l t + if hasS t x then 1 else 0 := by simp [cntL, List.countP_cons]
    rw [e1]
    simp only [edU]
    rw [List.filter_append, sm_append, ih]
    by_cases h : okS x
    · rw [if_pos h]
      obtain ⟨h1, h2, h3⟩ := h
      have f1 : pt t (x.1, 1) = decide (x.1 ≤ t) := by unfold pt; rw [decide_eq_decide]; dsimp only; omega
      have f2 : pt t (x.2, -1) = decide (x.2 < t) := by unfold pt; rw [decide_eq_decide]; dsimp only; omega
      have f3 : hasS t x ↔ x.1 ≤ t ∧ t ≤ x.2 := ⟨fun h => h.2, fun h => ⟨⟨h1, h2, h3⟩, h⟩⟩
      by_cases c1 : x.1 ≤ t
      · by_cases c2 : x.2 < t
        · rw [if_neg (fun h => by have := f3.1 h; omega)]
          simp [List.filter_cons, f1, f2, c1, c2, sm]
        · rw [if_pos (f3.2 ⟨c1, by omega⟩)]
          simp [List.filter_cons, f1, f2, c1, c2, sm]; omega
      · rw [if_neg (fun h => c1 (f3.1 h).1)]
        have c2 : ¬ x.2 < t := by omega
        simp [List.filter_cons, f1, f2, c1, c2, sm]
    · rw [if_neg h, if_neg (fun q => h q.1)]
      simp [sm]
theorem sm_all : ∀ l, sm (edU l) = 0
  | [] => rfl
  | x :: l => by
    simp only [edU, sm_append, sm_all l]
    split <;> simp [sm]

/-- Going through edges. -/
structure Sw where
  lo : Int
  hi : Int
  cn : Int
  n : Int
  op : Bool
def Sw.init : Sw := ⟨0, 0, 0, 0, false⟩
def Sw.step (s : Sw) (e : Ed) : Sw :=
  if 0 < e.2 ∧ s.cn < s.n + 1 then ⟨e.1, e.1, s.n + 1, s.n + e.2, true⟩
  else if e.2 < 0 ∧ s.op = true then ⟨s.lo, e.1, s.cn, s.n + e.2, false⟩
  else ⟨s.lo, s.hi, s.cn, s.n + e.2, s.op⟩
def sweep (l : List Ed) : Sw := l.foldl Sw.step Sw.init
theorem sweep_snoc (l : List Ed) (e : Ed) : sweep (l ++ [e]) = (sweep l).step e := by simp [sweep]

structure Inv (s : Sw) (P : List Ed) : Prop where
  n : s.n = sm P
  pre : ∀ Q, Q <+: P → sm Q ≤ s.cn
  st : (s.cn = 0 ∧ s.lo = 0 ∧ s.hi = 0 ∧ s.op = false) ∨ (0 < s.cn ∧ ∃ Q1 Q2, P = Q1 ++ (s.lo, 1) :: Q2 ∧ sm (Q1 ++ [(s.lo, 1)]) = s.cn ∧ (∀ Q, Q <+: Q1 → sm Q < s.cn) ∧ ((s.op = true ∧ Q2 = []) ∨ (s.op = false ∧ ∃ Q3, Q2 = (s.hi, -1) :: Q3)))

theorem rev_indE {P : List Ed → Prop} (h0 : P []) (h1 : ∀ l t, P l → P (l ++ [t])) (l : List Ed) : P l := by
  have : ∀ r : List Ed, P r.reverse := fun r => by
    induction r with
    | nil => exact h0
    | cons x r ih => rw [List.reverse_cons]; exact h1 _ _ ih
  rw [← List.reverse_reverse l]; exact this _

theorem inv : ∀ P : List Ed, (∀ e ∈ P, e.2 = 1 ∨ e.2 = -1) → Inv (sweep P) P := by
  intro P
  induction P using rev_indE with
  | h0 => intro _; exact ⟨rfl, fun Q hQ => by rw [List.prefix_nil] at hQ; subst hQ; exact Int.le_refl _, .inl ⟨rfl, rfl, rfl, rfl⟩⟩
  | h1 P e ih =>
    intro h
    obtain ⟨i1, i2, i3⟩ := ih fun x hx => h x (by simp [hx])
    have he := h e (by simp)
    have hn : sm (P ++ [e]) = sm P + e.2 := by rw [sm_append]; simp [sm]
    have hP := i2 P (List.prefix_refl P)
    rw [sweep_snoc]
    unfold Sw.step
    obtain ⟨a, b⟩ := e
    dsimp only at he hn ⊢
    generalize sweep P = s at *
    obtain ⟨lo, hi, cn, n, op⟩ := s
    dsimp only at i1 i2 i3 hP ⊢
    by_cases c1 : 0 < b ∧ cn < n + 1
    · rw [if_pos c1]
      have hb : b = 1 := by omega
      subst hb
      clear i3
      refine ⟨by dsimp only; omega, fun Q hQ => ?_, .inr ⟨?_, P, [], by simp, by dsimp only; omega, fun Q hQ => ?_, .inl ⟨rfl, rfl⟩⟩⟩
      · dsimp only
        rcases List.prefix_concat_iff.1 hQ with rfl | hQ
        · omega
        · have := i2 Q hQ; omega
      · dsimp only
        have := i2 [] List.nil_prefix
        simp only [sm] at this
        omega
      · dsimp only
        have := i2 Q hQ; omega
    · rw [if_neg c1]
      have pre' : ∀ Q, Q <+: P ++ [(a, b)] → sm Q ≤ cn := fun Q hQ => by
        clear i3
        rcases List.prefix_concat_iff.1 hQ with rfl | hQ
        · omega
        · exact i2 Q hQ
      by_cases c2 : b < 0 ∧ op = true
      · rw [if_pos c2]
        have hb : b = -1 := by clear i3; omega
        subst hb
        rcases i3 with ⟨_, _, _, q⟩ | ⟨q1, Q1, Q2, q2, q3, q4, q5⟩
        · rw [q] at c2; simp at c2
        · rcases q5 with ⟨_, rfl⟩ | ⟨q5, _⟩
          · exact ⟨by dsimp only; omega, pre', .inr ⟨q1, Q1, [(a, -1)], by rw [q2]; simp, q3, q4, .inr ⟨rfl, [], rfl⟩⟩⟩
          · rw [q5] at c2; simp at c2
      · rw [if_neg c2]
        refine ⟨by dsimp only; omega, pre', ?_⟩
        rcases i3 with q | ⟨q1, Q1, Q2, q2, q3, q4, q5⟩
        · exact .inl q
        · refine .inr ⟨q1, Q1, Q2 ++ [(a, b)], by rw [q2]; simp, q3, q4, ?_⟩
          rcases q5 with ⟨q5, rfl⟩ | ⟨q5, Q3, rfl⟩
          · -- just begun: the next one would be a new best, or an end
            exfalso
            have e1 : sm P = cn := by rw [q2]; exact q3
            rcases he with rfl | rfl
            · exact c1 ⟨by omega, by omega⟩
            · exact c2 ⟨by omega, q5⟩
          · exact .inr ⟨q5, Q3 ++ [(a, b)], by simp⟩

/-- Edges in order. -/
def Bef (x y : Ed) : Prop := x.1 < y.1 ∨ (x.1 = y.1 ∧ y.2 ≤ x.2)

theorem filter_prefix {R : Ed → Ed → Prop} {p : Ed → Bool} (hp : ∀ a b, R a b → p b = true → p a = true) : ∀ l : List Ed, l.Pairwise R → l.filter p <+: l
  | [], _ => by simp
  | a :: l, h => by
    rw [List.pairwise_cons] at h
    cases ha : p a with
    | true => rw [List.filter_cons_of_pos ha]; exact (List.prefix_cons_inj a).2 (filter_prefix hp l h.2)
    | false =>
      rw [List.filter_cons_of_neg (by simp [ha])]
      have : l.filter p = [] := by
        rw [List.filter_eq_nil_iff]
        intro b hb hpb
        rw [hp a b (h.1 b hb) hpb] at ha; cases ha
      rw [this]; exact List.nil_prefix

/-- The best agreement. -/
structure BestP (l : List (Int × Int)) (lo hi cn : Int) : Prop where
  pos : 0 < cn
  low : ∃ x ∈ l, okS x ∧ x.1 = lo
  cnt : cntL l lo = cn
  most : ∀ t, cntL l t ≤ cn
  first : ∀ x ∈ l, okS x → cntL l x.1 = cn → lo ≤ x.1
  last : ∀ x ∈ l, hasS lo x → hi ≤ x.2
  ends : ∃ x ∈ l, hasS lo x ∧ x.2 = hi
def Best (l : List (Int × Int)) (lo hi cn : Int) : Prop := (cn = 0 ∧ lo = 0 ∧ hi = 0 ∧ ∀ x ∈ l, ¬ okS x) ∨ BestP l lo hi cn

theorem Best.uniq {l : List (Int × Int)} {lo hi cn lo' hi' cn' : Int} (h : Best l lo hi cn) (k : Best l lo' hi' cn') : lo = lo' ∧ hi = hi' ∧ cn = cn' := by
  rcases h with ⟨h1, h2, h3, h4⟩ | h
  · rcases k with ⟨k1, k2, k3, k4⟩ | k
    · exact ⟨by omega, by omega, by omega⟩
    · obtain ⟨x, hx, ho, _⟩ := k.low
      exact absurd ho (h4 x hx)
  · rcases k with ⟨k1, k2, k3, k4⟩ | k
    · obtain ⟨x, hx, ho, _⟩ := h.low
      exact absurd ho (k4 x hx)
    · have e1 : cn = cn' := by
        have a := h.most lo'
        have b := k.most lo
        rw [k.cnt] at a; rw [h.cnt] at b
        omega
      subst e1
      have e2 : lo = lo' := by
        obtain ⟨x, hx, ho, hxl⟩ := h.low
        obtain ⟨y, hy, ho', hyl⟩ := k.low
        have a := h.first y hy ho' (by rw [hyl]; exact k.cnt)
        have b := k.first x hx ho (by rw [hxl]; exact h.cnt)
        omega
      subst e2
      obtain ⟨x, hx, hh, hxe⟩ := h.ends
      obtain ⟨y, hy, hh', hye⟩ := k.ends
      have a := h.last y hy hh'
      have b := k.last x hx hh
      exact ⟨rfl, by omega, rfl⟩

theorem best {l : List (Int × Int)} {E : List Ed} (hp : E.Perm (edU l)) (hs : E.Pairwise Bef) : Best l (sweep E).lo (sweep E).hi (sweep E).cn := by
  have hb : ∀ e ∈ E, e.2 = 1 ∨ e.2 = -1 := fun e he => by
    obtain ⟨x, _, _, rfl | rfl⟩ := edU_mem.1 (hp.mem_iff.1 he)
    · exact .inl rfl
    · exact .inr rfl
  obtain ⟨i1, i2, i3⟩ := inv E hb
  have hdown : ∀ t a b, Bef a b → pt t b = true → pt t a = true := fun t a b h1 h2 => by
    simp only [pt, decide_eq_true_eq] at h2 ⊢
    unfold Bef at h1
    omega
  have hcn : ∀ t, (cntL l t : Int) ≤ (sweep E).cn := fun t => by
    rw [← sm_pt, ← sm_perm (hp.filter _)]
    exact i2 _ (filter_prefix (hdown t) E hs)
  rcases i3 with ⟨q1, q2, q3, _⟩ | ⟨q1, Q1, Q2, q2, q3, q4, q5⟩
  · refine .inl ⟨q1, q2, q3, fun x hx ho => ?_⟩
    have h1 := hcn x.1
    have h2 : 0 < cntL l x.1 := List.countP_pos_iff.2 ⟨x, hx, decide_eq_true ⟨ho, Int.le_refl _, ho.2.2⟩⟩
    omega
  · right
    generalize hS : sweep E = s at *
    obtain ⟨lo, hi, cn, n, op⟩ := s
    dsimp only at *
    rcases q5 with ⟨_, rfl⟩ | ⟨_, Q3, rfl⟩
    · exfalso
      have := sm_perm hp
      rw [sm_all, q2] at this
      omega
    have hs' := hs
    rw [q2, List.pairwise_append] at hs'
    obtain ⟨s1, s2, s3⟩ := hs'
    rw [List.pairwise_cons, List.pairwise_cons] at s2
    obtain ⟨s4, s5, s6⟩ := s2
    have hmemE : ∀ e, e ∈ E ↔ ∃ x ∈ l, okS x ∧ (e = (x.1, 1) ∨ e = (x.2, -1)) := fun e => by rw [hp.mem_iff, edU_mem]
    have hE : ∀ e, e ∈ E ↔ e ∈ Q1 ∨ e = (lo, 1) ∨ e = (hi, -1) ∨ e ∈ Q3 := fun e => by rw [q2]; simp
    have hlohi : lo ≤ hi := by
      have := s4 (hi, -1) (by simp)
      unfold Bef at this; dsimp only at this; omega
    have hcnt : (cntL l lo : Int) = cn := by
      have h1 := hcn lo
      have h2 : cn ≤ cntL l lo := by
        rw [← sm_pt, ← sm_perm (hp.filter _), q2, List.filter_append, sm_append, ← q3, sm_append]
        have e1 : Q1.filter (pt lo) = Q1 := List.filter_eq_self.2 fun a ha => by
          have := s3 a ha (lo, 1) (by simp)
          exact hdown lo a (lo, 1) this (by simp [pt])
        have e2 : ∀ R : List Ed, (∀ e ∈ R, Bef (lo, 1) e) → (∀ e ∈ R, e.2 = 1 ∨ e.2 = -1) → 0 ≤ sm (R.filter (pt lo)) := by
          intro R
          induction R with
          | nil => intro _ _; simp [sm]
          | cons a R ih =>
            intro h1 h2
            have ih := ih (fun e he => h1 e (by simp [he])) (fun e he => h2 e (by simp [he]))
            cases hpa : pt lo a with
            | true =>
              rw [List.filter_cons_of_pos hpa]
              have h3 := h1 a (by simp)
              simp only [pt, decide_eq_true_eq] at hpa
              unfold Bef at h3
              dsimp only at h3
              simp only [sm]
              omega
            | false => rw [List.filter_cons_of_neg (by simp [hpa])]; exact ih
        have e3 := e2 ((hi, -1) :: Q3) (fun e he => s4 e he) (fun e he => hb e ((hE e).2 (by rcases List.mem_cons.1 he with h | h <;> simp [h])))
        have e4 : ((lo, 1) :: (hi, -1) :: Q3).filter (pt lo) = (lo, 1) :: ((hi, -1) :: Q3).filter (pt lo) := List.filter_cons_of_pos (by simp [pt])
        rw [e1, e4]
        simp only [sm] at *
        omega
      omega
    refine ⟨q1, ?_, hcnt, hcn, fun x hx ho hc => ?_, fun x hx hh => ?_, ?_⟩
    · obtain ⟨x, hx, ho, h | h⟩ := (hmemE (lo, 1)).1 ((hE _).2 (.inr (.inl rfl)))
      · exact ⟨x, hx, ho, by injection h with h1 h2; exact h1.symm⟩
      · injection h with h1 h2; omega
    · by_cases hlt : x.1 < lo
      · exfalso
        have hpre := filter_prefix (hdown x.1) E hs
        have h1 : sm (E.filter (pt x.1)) = cn := by rw [sm_perm (hp.filter _), sm_pt]; exact hc
        have h2 : E.filter (pt x.1) <+: Q1 := by
          have hq : Q1 <+: E := ⟨_, q2.symm⟩
          rcases List.prefix_or_prefix_of_prefix hpre hq with h | h
          · exact h
          · obtain ⟨R, hR⟩ := h
            cases R with
            | nil => rw [List.append_nil] at hR; rw [hR]; exact List.prefix_refl _
            | cons a R =>
              exfalso
              obtain ⟨T, hT⟩ := hpre
              rw [← hR, q2, List.append_assoc, List.append_cancel_left_eq] at hT
              simp only [List.cons_append, List.cons.injEq] at hT
              have ha : a ∈ E.filter (pt x.1) := by rw [← hR]; simp
              rw [hT.1] at ha
              have := (List.mem_filter.1 ha).2
              simp [pt] at this
              omega
        have := q4 _ h2
        omega
      · omega
    · obtain ⟨ho, h1, h2⟩ := hh
      have hm : (x.2, (-1 : Int)) ∈ E := (hmemE _).2 ⟨x, hx, ho, .inr rfl⟩
      rcases (hE _).1 hm with h | h | h | h
      · have := s3 _ h (lo, 1) (by simp)
        unfold Bef at this; dsimp only at this; omega
      · injection h with h3 h4; omega
      · injection h with h3 h4; omega
      · have := s5 _ h
        unfold Bef at this; dsimp only at this; omega
    · obtain ⟨x, hx, ho, h | h⟩ := (hmemE (hi, -1)).1 ((hE _).2 (.inr (.inr (.inl rfl))))
      · injection h with h1 h2; omega
      · injection h with h1 h2
        refine ⟨x, hx, ⟨ho, ?_, by omega⟩, h1.symm⟩
        have hm : (x.1, (1 : Int)) ∈ E := (hmemE _).2 ⟨x, hx, ho, .inl rfl⟩
        rcases (hE _).1 hm with h | h | h | h
        · have := s3 _ h (lo, 1) (by simp)
          unfold Bef at this; dsimp only at this; omega
        · injection h with h3 h4; omega
        · injection h with h3 h4; omega
        · have := s5 _ h
          unfold Bef at this; dsimp only at this
          have := ho.2.2
          omega
end Go.Proofs.Ytginhgjbjfndfaa
