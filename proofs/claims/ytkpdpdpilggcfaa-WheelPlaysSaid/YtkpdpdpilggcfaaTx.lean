/-
  ONE TICK.
-/
import Derived.Test.YtkpdpdpilggcfaaSx
import Derived.Test.YtkpdpdpilggcfaaAm32
namespace Go.Proofs.Ytkpdpdpilggcfaa
open Go Go.AM
set_option linter.unusedVariables false
set_option linter.unusedSimpArgs false
set_option maxRecDepth 60000
set_option maxHeartbeats 4000000

/-- What the map tells. -/
structure Due (l : List (Int × V)) (P : It → Prop) (k : Nat) : Prop where
  ky : KeysI l
  len : l.length = k
  get : ∀ x, P x → getI l x.1 = some (.int .i64 x.2.1)
  non : ∀ id, (∀ x, P x → x.1 ≠ id) → getI l id = none
theorem Due.nil : Due [] (fun _ => False) 0 := ⟨List.nodup_nil, rfl, fun x h => h.elim, fun id h => rfl⟩
theorem Due.imp {l : List (Int × V)} {P Q : It → Prop} {k : Nat} (h : Due l P k) (hq : ∀ x, P x ↔ Q x) : Due l Q k := ⟨h.ky, h.len, fun x hx => h.get x ((hq x).2 hx), fun id hi => h.non id fun x hx => hi x ((hq x).1 hx)⟩
theorem Due.put {l : List (Int × V)} {P : It → Prop} {k : Nat} (h : Due l P k) {x : It} (hn : ∀ y, P y → y.1 ≠ x.1) : Due (putI l x.1 (.int .i64 x.2.1)) (fun y => P y ∨ y = x) (k + 1) := by
  obtain ⟨h1, h2, h3⟩ := keysI_put h.ky x.1 (.int .i64 x.2.1)
  have hg := h.non x.1 hn
  rw [if_pos hg, h.len] at h2
  refine ⟨h1, h2, fun y hy => ?_, fun id hi => ?_⟩
  · rw [getI_put]
    rcases hy with hy | rfl
    · rw [if_neg (hn y hy)]; exact h.get y hy
    · rw [if_pos rfl]
  · rw [getI_put, if_neg (fun e => hi x (.inr rfl) e.symm)]
    exact h.non id fun y hy => hi y (.inl hy)
theorem Due.del {l : List (Int × V)} {P : It → Prop} {k : Nat} (h : Due l P k) {x : It} (hx : P x) (hu : ∀ y, P y → y.1 = x.1 → y = x) : Due (delI l x.1) (fun y => P y ∧ y ≠ x) (k - 1) := by
  obtain ⟨h1, h2, h3, h4⟩ := keysI_del h.ky x.1
  rw [h.get x hx, if_neg (by simp), h.len] at h2
  refine ⟨h1, h2, fun y hy => ?_, fun id hi => ?_⟩
  · rw [h4, if_neg (fun e => hy.2 (hu y hy.1 e))]
    exact h.get y hy.1
  · rw [h4]
    by_cases e : id = x.1
    · rw [if_pos e]
    · rw [if_neg e]
      refine h.non id fun y hy => ?_
      by_cases e2 : y = x
      · subst e2; exact fun e3 => e e3.symm
      · exact hi y ⟨hy, e2⟩

/-- A wheel lies here: its tick, and its items as they came. -/
structure Whl (c : Nat) (m : Mem) (D : List Nat) (r n : Nat) (R : List It) : Prop where
  up : R.Pairwise fun x y => x.2.2 < y.2.2
  due : ∀ x ∈ R, n < x.2.1 ∧ x.2.1 ≤ n + 65535
  ids : (R.map (·.1)).Nodup
  len : R.length ≤ 1024
  bn : n ≤ 1152921504606846976
  ex : ∃ q sq v S l g, D = fpW r q v ∧ Lay m r q n sq v S l g ∧ Fit S (fun x s => x ∈ R ∧ ix n x.2.1 = s) ∧ (∀ x ∈ R, x.2.2 ≤ sq) ∧ sq ≤ c ∧ Due l (· ∈ R) R.length ∧ GOk (mapI l) g
theorem Whl.lt {c : Nat} {m : Mem} {D : List Nat} {r n : Nat} {R : List It} (h : Whl c m D r n R) : ∀ p ∈ D, p < m.next := by
  obtain ⟨q, sq, v, S, l, g, rfl, h1, _⟩ := h.ex
  exact h1.ltp
theorem Whl.keep {c : Nat} {m m' : Mem} {D : List Nat} {r n : Nat} {R : List It} (h : Whl c m D r n R) (hn : m.next ≤ m'.next) (ho : ∀ p ∈ D, m'.obj p = m.obj p) : Whl c m' D r n R := by
  obtain ⟨q, sq, v, S, l, g, rfl, h1, h2⟩ := h.ex
  exact ⟨h.up, h.due, h.ids, h.len, h.bn, q, sq, v, S, l, g, rfl, h1.keep hn ho, h2⟩
theorem Whl.grow {c : Nat} {m m' : Mem} {D : List Nat} {r n : Nat} {R : List It} (h : Whl c m D r n R) (hg : m.Grew m') : Whl c m' D r n R := h.keep hg.next fun p hp => hg.obj p (h.lt p hp)
theorem Whl.step {c : Nat} {m m' : Mem} {D E E' : List Nat} {r n : Nat} {R : List It} (h : Whl c m D r n R) (hs : Stp m m' E E') (hd : ∀ p ∈ E, p ∉ D) : Whl c m' D r n R := h.keep hs.next (hs.keep h.lt hd)

theorem seq_inj {R : List It} (h : R.Pairwise fun x y => x.2.2 < y.2.2) {x y : It} (hx : x ∈ R) (hy : y ∈ R) (e : x.2.2 = y.2.2) : x = y := by
  obtain ⟨i, hi⟩ := List.mem_iff_getElem?.1 hx
  obtain ⟨j, hj⟩ := List.mem_iff_getElem?.1 hy
  have h1 := List.getElem?_eq_some_iff.1 hi
  have h2 := List.getElem?_eq_some_iff.1 hj
  rcases Nat.lt_trichotomy i j with w | w | w
  · have := List.pairwise_iff_getElem.1 h i j h1.1 h2.1 w
    rw [h1.2, h2.2] at this; omega
  · subst w; rw [hi] at hj; injection hj
  · have := List.pairwise_iff_getElem.1 h j i h2.1 h1.1 w
    rw [h1.2, h2.2] at this; omega
theorem id_inj {R : List It} (h : (R.map (·.1)).Nodup) {x y : It} (hx : x ∈ R) (hy : y ∈ R) (e : x.1 = y.1) : x = y := by
  obtain ⟨i, hi⟩ := List.mem_iff_getElem?.1 hx
  obtain ⟨j, hj⟩ := List.mem_iff_getElem?.1 hy
  have h1 := List.getElem?_eq_some_iff.1 hi
  have h2 := List.getElem?_eq_some_iff.1 hj
  have h1l := h1.1
  have h2l := h2.1
  rw [List.nodup_iff_pairwise_ne, List.pairwise_iff_getElem] at h
  rcases Nat.lt_trichotomy i j with w | w | w
  · have := h i j (by rw [List.length_map]; exact h1l) (by rw [List.length_map]; exact h2l) w
    rw [List.getElem_map, List.getElem_map, h1.2, h2.2] at this; exact absurd e this
  · subst w; rw [hi] at hj; injection hj
  · have := h j i (by rw [List.length_map]; exact h2l) (by rw [List.length_map]; exact h1l) w
    rw [List.getElem_map, List.getElem_map, h1.2, h2.2] at this; exact absurd e.symm this

/-- Those that fire in a tick, and the others. -/
def fireAt (R : List It) (N : Nat) : List It := R.filter fun x => decide (x.2.1 = N)
def leftAt (R : List It) (N : Nat) : List It := R.filter fun x => !decide (x.2.1 = N)
theorem fire_mem {R : List It} {N : Nat} {x : It} : x ∈ fireAt R N ↔ x ∈ R ∧ x.2.1 = N := by unfold fireAt; simp
theorem left_mem {R : List It} {N : Nat} {x : It} : x ∈ leftAt R N ↔ x ∈ R ∧ x.2.1 ≠ N := by unfold leftAt; simp
theorem fire_left (R : List It) (N : Nat) : (fireAt R N).length + (leftAt R N).length = R.length := by
  unfold fireAt leftAt
  induction R with
  | nil => rfl
  | cons a R ih => simp only [List.filter_cons]; cases h : decide (a.2.1 = N) <;> simp <;> omega
theorem slot0 {N d : Nat} : ix N d = N % 16 ↔ d = N := by
  constructor
  · intro h
    have h1 := ix_rng N d
    have h2 : lv N d = 0 := by omega
    rw [ix0 h2] at h
    unfold lv at h2
    split at h2
    · omega
    · split at h2 <;> (try omega); split at h2 <;> omega
  · rintro rfl; unfold ix; simp
theorem fired_eq {R : List It} (hu : R.Pairwise fun x y => x.2.2 < y.2.2) {N : Nat} {L F : List It} (hL : ∀ x, x ∈ L ↔ x ∈ R ∧ ix N x.2.1 = N % 16) (hn : L.Nodup) (hp : F.Perm L) (hs : F.Pairwise fun x y => x.2.2 ≤ y.2.2) : F = fireAt R N := by
  have h1 : (fireAt R N).Pairwise fun x y => x.2.2 < y.2.2 := hu.sublist List.filter_sublist
  have h2 : (fireAt R N).Nodup := h1.imp (fun h e => by rw [e] at h; omega)
  have h3 : F.Perm (fireAt R N) := hp.trans ((List.perm_ext_iff_of_nodup hn h2).2 fun x => by rw [hL x, fire_mem, slot0])
  refine List.Perm.eq_of_pairwise (le := fun x y => x.2.2 ≤ y.2.2) (fun a b ha hb h4 h5 => ?_) hs (h1.imp fun h => by omega) h3
  exact seq_inj hu (fire_mem.1 (h3.subset ha)).1 (fire_mem.1 hb).1 (by omega)
end Go.Proofs.Ytkpdpdpilggcfaa
