/-
  NEXT, of what the functions of this seat do.
-/
import Derived.Test.YtkalojiddaeekaaIx
namespace Go.Proofs.Ytkalojiddaeekaa
open Go Go.AM
set_option linter.unusedVariables false
set_option linter.unusedSimpArgs false
set_option maxRecDepth 60000
set_option maxHeartbeats 4000000

/-- In how many minutes an alarm's time on a day comes. -/
def wt (w x : Int) : Int := (x - w - 1) % 10080 + 1
/-- Of the first i alarms, and d days of the next: in so many minutes one rings. -/
def PC (L : List Al) (w : Int) (i d : Nat) (x : Int) : Prop :=
  ∃ (j : Nat) (a : Al) (k : Nat), L[j]? = some a ∧ (j < i ∧ k < 7 ∨ j = i ∧ k < d) ∧ ring1 (k * 1440 + a.2.1) a = true ∧ x = wt w (k * 1440 + a.2.1)
/-- The least of some, or none. -/
def Bst (P : Int → Prop) (b : Int) : Prop := (b = 0 ∧ ∀ x, ¬ P x) ∨ (1 ≤ b ∧ b ≤ 10080 ∧ P b ∧ ∀ x, P x → b ≤ x)
theorem wt_rng (w x : Int) : 1 ≤ wt w x ∧ wt w x ≤ 10080 := by unfold wt; omega

theorem PC_step {L : List Al} {w : Int} {i d : Nat} {a : Al} (h : L[i]? = some a) (x : Int) : PC L w i (d + 1) x ↔ PC L w i d x ∨ (ring1 (d * 1440 + a.2.1) a = true ∧ x = wt w (d * 1440 + a.2.1)) := by
  constructor
  · rintro ⟨j, b, k, h1, h2, h3, h4⟩
    by_cases hk : j = i ∧ k = d
    · obtain ⟨rfl, rfl⟩ := hk
      rw [h] at h1; injection h1 with h1; subst h1
      exact .inr ⟨h3, h4⟩
    · exact .inl ⟨j, b, k, h1, by omega, h3, h4⟩
  · rintro (⟨j, b, k, h1, h2, h3, h4⟩ | ⟨h3, h4⟩)
    · exact ⟨j, b, k, h1, by omega, h3, h4⟩
    · exact ⟨i, a, d, h, by omega, h3, h4⟩
theorem PC_next {L : List Al} {w : Int} {i : Nat} (x : Int) : PC L w i 7 x ↔ PC L w (i + 1) 0 x := by
  constructor
  · rintro ⟨j, b, k, h1, h2, h3, h4⟩; exact ⟨j, b, k, h1, by omega, h3, h4⟩
  · rintro ⟨j, b, k, h1, h2, h3, h4⟩; exact ⟨j, b, k, h1, by omega, h3, h4⟩
theorem Bst.iff {P Q : Int → Prop} {b : Int} (h : Bst P b) (hq : ∀ x, P x ↔ Q x) : Bst Q b := by
  rcases h with ⟨h1, h2⟩ | ⟨h1, h2, h3, h4⟩
  · exact .inl ⟨h1, fun x hx => h2 x ((hq x).2 hx)⟩
  · exact .inr ⟨h1, h2, (hq b).1 h3, fun x hx => h4 x ((hq x).2 hx)⟩
theorem Bst.no {P Q : Int → Prop} {b w : Int} {r : Prop} (h : Bst P b) (hq : ∀ x, Q x ↔ P x ∨ (r ∧ x = w)) (hr : ¬ r) : Bst Q b :=
  h.iff fun x => by rw [hq]; exact ⟨.inl, fun h => h.resolve_right fun h => hr h.1⟩
theorem Bst.less {P Q : Int → Prop} {b w : Int} {r : Prop} (h : Bst P b) (hq : ∀ x, Q x ↔ P x ∨ (r ∧ x = w)) (hr : r) (hw : 1 ≤ w ∧ w ≤ 10080) (hb : b = 0 ∨ w < b) : Bst Q w := by
  refine .inr ⟨hw.1, hw.2, (hq w).2 (.inr ⟨hr, rfl⟩), fun x hx => ?_⟩
  rcases (hq x).1 hx with hx | hx
  · rcases h with ⟨h1, h2⟩ | ⟨h1, h2, h3, h4⟩
    · exact absurd hx (h2 x)
    · have := h4 x hx; omega
  · omega
theorem Bst.more {P Q : Int → Prop} {b w : Int} {r : Prop} (h : Bst P b) (hq : ∀ x, Q x ↔ P x ∨ (r ∧ x = w)) (hb : b ≠ 0) (hb2 : ¬ w < b) : Bst Q b := by
  rcases h with ⟨h1, h2⟩ | ⟨h1, h2, h3, h4⟩
  · exact absurd h1 hb
  · refine .inr ⟨h1, h2, (hq b).2 (.inl h3), fun x hx => ?_⟩
    rcases (hq x).1 hx with hx | hx
    · exact h4 x hx
    · omega

theorem ringsL_ne {L : List Al} {q : Int} : ringsL L q ≠ [] ↔ ∃ a ∈ L, ring1 (q % 10080) a = true := by
  unfold ringsL
  constructor
  · intro h
    obtain ⟨x, hx⟩ := List.exists_mem_of_ne_nil _ h
    obtain ⟨a, ha, _⟩ := List.mem_map.1 hx
    exact ⟨a, (List.mem_filter.1 ha).1, (List.mem_filter.1 ha).2⟩
  · rintro ⟨a, h1, h2⟩ e
    have : a.1 ∈ (L.filter (ring1 (q % 10080))).map (·.1) := List.mem_map.2 ⟨a, List.mem_filter.2 ⟨h1, h2⟩, rfl⟩
    rw [e] at this; cases this
theorem ringsL_mod (L : List Al) (q x : Int) : ringsL L (q % 10080 + x) = ringsL L (q + x) := by
  unfold ringsL
  rw [show (q % 10080 + x) % 10080 = (q + x) % 10080 by omega]
theorem PC_all {L : List Al} (hrt : ∀ a ∈ L, rtA a) {w : Int} (hw : 0 ≤ w) (hw2 : w < 10080) (x : Int) : PC L w L.length 0 x ↔ 1 ≤ x ∧ x ≤ 10080 ∧ ringsL L (w + x) ≠ [] := by
  rw [ringsL_ne]
  constructor
  · rintro ⟨j, a, k, h1, h2, h3, h4⟩
    have ha := hrt a (mem_of_idx h1)
    unfold rtA at ha
    have hk : k < 7 := by omega
    have hr := wt_rng w (k * 1440 + a.2.1)
    rw [← h4] at hr
    refine ⟨hr.1, hr.2, a, mem_of_idx h1, ?_⟩
    have e : (w + x) % 10080 = k * 1440 + a.2.1 := by rw [h4]; unfold wt; omega
    rw [e]; exact h3
  · rintro ⟨h1, h2, a, h3, h4⟩
    have ha := hrt a h3
    unfold rtA at ha
    obtain ⟨j, hj⟩ := List.mem_iff_getElem?.1 h3
    have hm : (w + x) % 10080 % 1440 = a.2.1 := by
      unfold ring1 at h4
      simp only [Bool.and_eq_true, decide_eq_true_eq] at h4
      exact h4.2.1
    refine ⟨j, a, ((w + x) % 10080 / 1440).toNat, hj, .inl ⟨(List.getElem?_eq_some_iff.1 hj).1, by omega⟩, ?_, ?_⟩
    · rw [show ((((w + x) % 10080 / 1440).toNat : Nat) : Int) * 1440 + a.2.1 = (w + x) % 10080 by omega]; exact h4
    · unfold wt; omega

/-- The next minute in which some ring. -/
inductive NextR (L : List Al) (q : Int) : Int → List Int → Prop
  | none (h : ∀ x, 1 ≤ x → x ≤ 10080 → ringsL L (q + x) = []) : NextR L q 0 []
  | some (b : Int) (h1 : 1 ≤ b) (h2 : b ≤ 10080) (h3 : ringsL L (q + b) ≠ []) (h4 : ∀ x, 1 ≤ x → x < b → ringsL L (q + x) = []) : NextR L q b (ringsL L (q + b))

theorem next_calls {m : Mem} {D : List Nat} {s : Nat} {L : List Al} (hW : Wk m D s L) {q : Int} {K : KV} (h : ∀ b l v m', NextR L q b l → Exa m' 1 v (rowI .i64 l) → m.Grew m' → (∀ p ∈ v.fp, m.next ≤ p) → K (.tup [.int .i64 b, v]) m') : ACalls Try.prog 12 [.ptr (some (s, 0, 0)), .int .i64 q] m K := by
  have hlen := hW.len
  have hrt := hW.rt
  refine run_on x4 hm c12 (by simp) fun hf => ?_
  have hmod := ringsL_mod L q
  obtain ⟨w, hw⟩ : ∃ w, q % 10080 = w := ⟨_, rfl⟩
  have hw0 : 0 ≤ w := by omega
  have hw1 : w < 10080 := by omega
  rw [hw] at hmod
  simp (disch := omega) [-getElem?_pos, b12, F20, hw]
  refine all_calls hW fun v m1 h1 g1 h2 => ?_
  have hv := h1.sl.lenSl
  rw [List.length_map] at hv
  obtain ⟨n, hn⟩ : ∃ n, L.length = n := ⟨_, rfl⟩
  rw [hn] at hv hlen
  simp (disch := omega) [-getElem?_pos, hv]
  refine exec_loopU (σ := Nat × Int × Mem) (fun (i, b, _) => [(7, .int .i64 b), (18, .int .i64 i)]) (fun (_, _, M) => M) (fun (i, b, M) => i ≤ n ∧ Bst (PC L w i 0) b ∧ m1.Grew M) (fun (i, _, _) => n - i) (0, 0, m1) rfl
    (by dsimp only; exact ⟨by omega, .inl ⟨rfl, by rintro x ⟨j, a, k, _, h, _⟩; omega⟩, Mem.Grew.refl _⟩) (by simp) ?_
  intro (i, b, M) ⟨a1, a2, a3⟩
  by_cases hi : i < n
  case neg =>
    have : i = n := by omega
    subst this
    rw [← hn] at a2
    have hpc := PC_all hrt hw0 hw1
    rcases a2 with ⟨rfl, h3⟩ | ⟨h3, h4, h5, h6⟩
    · simp (disch := omega) [-getElem?_pos]
      refine h 0 [] _ _ (.none fun x e1 e2 => ?_) (Exa.nil _ _) (g1.trans a3) (by simp [V.fp])
      rw [← hmod]
      by_cases e : ringsL L (w + x) = []
      · exact e
      · exact absurd ((hpc x).2 ⟨e1, e2, e⟩) (h3 x)
    · simp (disch := omega) [-getElem?_pos]
      refine rings_calls (hW.grow (g1.trans a3)) fun v' m' w1 w2 w3 => ?_
      simp (disch := omega) [-getElem?_pos]
      rw [hmod] at w1
      refine h b _ v' m' (.some b h3 h4 (by rw [← hmod]; exact ((hpc b).1 h5).2.2) fun x e1 e2 => ?_) w1 ((g1.trans a3).trans w2) fun p hp => by have := w3 p hp; have := (g1.trans a3).next; omega
      rw [← hmod]
      by_cases e : ringsL L (w + x) = []
      · exact e
      · have := h6 x ((hpc x).2 ⟨e1, by omega, e⟩); omega
  obtain ⟨a, ha⟩ : ∃ a, L[i]? = some a := ⟨_, List.getElem?_eq_getElem (by omega)⟩
  have har := hrt a (mem_of_idx ha)
  obtain ⟨p, x, full, rw, z1, z2, z3, z4, _⟩ := (h1.grow a3).sl.at (al_get ha) .i64
  have hst := fun d => PC_step (w := w) (d := d) ha
  obtain ⟨id, mi, d, y⟩ := a
  unfold rtA at har
  dsimp only at har hst
  simp only [al] at z4
  simp (disch := omega) [-getElem?_pos, z1, z3, z4]
  have g2 := Mem.Grew.new M (.row 4 [[.int .i64 id, .int .i64 mi, .int .i64 d, .bool y]] true)
  have oB : (M.new (.row 4 [[.int .i64 id, .int .i64 mi, .int .i64 d, .bool y]] true)).obj M.next = some (.row 4 [[.int .i64 id, .int .i64 mi, .int .i64 d, .bool y]] true) := by simp
  have bB : M.next < (M.new (.row 4 [[.int .i64 id, .int .i64 mi, .int .i64 d, .bool y]] true)).next := by simp
  generalize M.new (.row 4 [[.int .i64 id, .int .i64 mi, .int .i64 d, .bool y]] true) = M1 at *
  generalize M.next = B at *
  refine exec_loopU (σ := Nat × Int × Mem) (fun (k, b, _) => [(7, .int .i64 b), (22, .int .i64 k)]) (fun (_, _, M) => M) (fun (k, b, M) => k ≤ 7 ∧ Bst (PC L w i k) b ∧ M1.Grew M) (fun (k, _, _) => 7 - k) (0, b, M1) rfl
    (by dsimp only; exact ⟨by omega, a2, Mem.Grew.refl _⟩) (by simp) ?_
  intro (k, c, M2) ⟨d1, d2, d3⟩
  have o2 : M2.obj B = some (.row 4 [[.int .i64 id, .int .i64 mi, .int .i64 d, .bool y]] true) := by rw [d3.obj B bB]; exact oB
  by_cases hk : k < 7
  case neg =>
    have : k = 7 := by omega
    subst this
    simp (disch := omega) [-getElem?_pos]
    exact again_mk (i + 1, c, M2) (by dsimp only; exact ⟨by omega, d2.iff fun x => PC_next x, a3.trans (g2.trans d3)⟩) (by dsimp only; omega) (by simp) rfl
  have hq := hst k
  have hwr := wt_rng w (k * 1440 + mi)
  have hwe : ((k : Int) * 1440 + mi - w - 1) % 10080 + 1 = wt w (k * 1440 + mi) := rfl
  generalize wt w (k * 1440 + mi) = u at *
  have hcr : 0 ≤ c ∧ c ≤ 10080 := by rcases d2 with ⟨h, _⟩ | ⟨h, h', _⟩ <;> omega
  have g4 := Mem.Grew.new M2 (.row 4 [[.int .i64 id, .int .i64 mi, .int .i64 d, .bool y]] true)
  cases hr : ring1 (k * 1440 + mi) (id, mi, d, y) with
  | false =>
    simp (disch := omega) [-getElem?_pos, F20, F19, al, o2, hr, hwe]
    exact again_mk (k + 1, c, _) (by dsimp only; exact ⟨by omega, d2.no hq (by rw [hr]; simp), d3.trans g4⟩) (by dsimp only; omega) (by simp) rfl
  | true =>
    by_cases hc0 : c = 0
    · subst hc0
      simp (disch := omega) [-getElem?_pos, F20, F19, al, o2, hr, hwe]
      exact again_mk (k + 1, u, _) (by dsimp only; exact ⟨by omega, d2.less hq hr hwr (.inl rfl), d3.trans g4⟩) (by dsimp only; omega) (by simp) rfl
    · by_cases hcu : u < c
      · simp (disch := omega) [-getElem?_pos, F20, F19, al, o2, hr, hwe]
        exact again_mk (k + 1, u, _) (by dsimp only; exact ⟨by omega, d2.less hq hr hwr (.inr hcu), d3.trans g4⟩) (by dsimp only; omega) (by simp) rfl
      · simp (disch := omega) [-getElem?_pos, F20, F19, al, o2, hr, hwe]
        exact again_mk (k + 1, c, _) (by dsimp only; exact ⟨by omega, d2.more hq hc0 hcu, d3.trans g4⟩) (by dsimp only; omega) (by simp) rfl
end Go.Proofs.Ytkalojiddaeekaa
