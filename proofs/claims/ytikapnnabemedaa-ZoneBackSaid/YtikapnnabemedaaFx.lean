/-
  WHAT EACH FUNCTION of this seat computes, in plain words: rules, zones.
-/
import Derived.Test.YtikapnnabemedaaCx
import Derived.Test.YtikapnnabemedaaAm26
namespace Go.Proofs.Ytikapnnabemedaa
open Go Go.AM
set_option linter.unusedVariables false
set_option linter.unusedSimpArgs false
set_option maxRecDepth 20000
set_option maxHeartbeats 4000000

def F5 : AFn
  | [], m => some (.bool true, m)
  | _, _ => none
theorem s5 : ASpec Try.prog 5 F5 := by
  intro args m r m' h
  unfold F5 at h; split at h <;> cases h
  exact reckon hm codeOk 200 20 rfl rfl (by kernel_rfl) _
/-- Into bounds. -/
def cl (t : Int) : Int := min (max t (-2199023255552)) 2199023255552
theorem cl_rng (t : Int) : -2199023255552 ≤ cl t ∧ cl t ≤ 2199023255552 := by unfold cl; omega
theorem cl_id {t : Int} (h1 : -2199023255552 ≤ t) (h2 : t ≤ 2199023255552) : cl t = t := by unfold cl; omega
def F12 : AFn
  | [.int .i64 t], m => some (.int .i64 (cl t), m)
  | _, _ => none
theorem s12 : ASpec Try.prog 12 F12 := by
  intro args m r m' h
  unfold F12 at h; split at h <;> cases h
  refine run_on (ctx_nil _) hm c12 (by simp) fun hf => ?_
  simp [b12, cl]
theorem s18 : ASpec Try.prog 18 F12 := by
  intro args m r m' h
  unfold F12 at h; split at h <;> cases h
  refine run_on (ctx_nil _) hm c18 (by simp) fun hf => ?_
  simp [b18, cl]
abbrev L1 : List (FuncId × AFn) := [(5, F5), (12, F12), (18, F12)]
theorem x1 : CtxOk Try.prog (Ctx.of L1) := ctx_cons (ctx_cons (ctx_cons (ctx_nil _) s18) s12) s5

/-- Rules that may be. -/
def okAt (l : List (Int × Int)) (i : Nat) : Prop := 0 ≤ (nthP l i).1 ∧ (nthP l i).1 ≤ 1099511627776 ∧ -86400 ≤ (nthP l i).2 ∧ (nthP l i).2 ≤ 86400 ∧ (0 < i → (nthP l (i - 1)).1 < (nthP l i).1)
instance (l : List (Int × Int)) (i : Nat) : Decidable (okAt l i) := by unfold okAt; infer_instance
def Rt (l : List (Int × Int)) : Prop := (1 ≤ l.length ∧ l.length ≤ 256) ∧ ∀ i, i < l.length → okAt l i
instance (l : List (Int × Int)) : Decidable (Rt l) := by unfold Rt; infer_instance

theorem Rt.lt {l : List (Int × Int)} (h : Rt l) : ∀ j i, i < j → j < l.length → (nthP l i).1 < (nthP l j).1
  | 0, i, hi, _ => by omega
  | j + 1, i, hi, hj => by
    have h1 := (h.2 (j + 1) hj).2.2.2.2 (by omega)
    simp only [Nat.add_sub_cancel] at h1
    by_cases e : i = j
    · subst e; exact h1
    · have := Rt.lt h j i (by omega) (by omega); omega

/-- A zone. -/
structure Zo (m : Mem) (r : Nat) (l : List (Int × Int)) : Prop where
  lt : r < m.next
  ex : ∃ q, q < m.next ∧ m.obj r = some (.row 1 [[.sl (some (q, 0, 2)) l.length (some l.length)]] true) ∧ m.obj q = some (.row 2 (rowP l) true)
  rt : Rt l
theorem Zo.grow {m m' : Mem} {r : Nat} {l : List (Int × Int)} (h : Zo m r l) (g : m.Grew m') : Zo m' r l := by
  obtain ⟨q, h1, h2, h3⟩ := h.ex
  have := g.next
  exact ⟨by have := h.lt; omega, ⟨q, by omega, by rw [g.obj r h.lt]; exact h2, by rw [g.obj q h1]; exact h3⟩, h.rt⟩
theorem sl_zone {m : Mem} {q : Nat} {l : List (Int × Int)} (h1 : q < m.next) (h3 : m.obj q = some (.row 2 (rowP l) true)) : Sl m 2 (.sl (some (q, 0, 2)) l.length (some l.length)) (rowP l) :=
  ⟨_, _, by rw [rowP_length], fun _ => ⟨q, 0, _, true, rfl, h1, h3, by rw [rowP_length]; omega, fun j _ => by rw [Nat.zero_add]⟩⟩

theorem right_calls {m : Mem} {v : V} {l : List (Int × Int)} (hv : Sl m 2 v (rowP l)) (hl : l.length ≤ 1000) {K : KV} (h : ∀ m', m.Grew m' → K (.bool (decide (Rt l))) m') : ACalls Try.prog 7 [v] m K := by
  obtain ⟨N, hN, hv1⟩ := lenP hv
  refine run_on x1 hm c7 (by simp) fun hf => ?_
  simp (disch := omega) [b7, hv1]
  refine exec_loopU (σ := Nat × Mem) (fun (i, _) => [(7, .int .i64 i)]) (fun (_, M) => M) (fun (i, M) => i ≤ N ∧ m.Grew M ∧ ∀ j, j < i → okAt l j) (fun (i, _) => N - i) (0, m) rfl
    (by dsimp only; exact ⟨by omega, Mem.Grew.refl m, fun j hj => by omega⟩) (by simp) ?_
  intro (i, M) ⟨a1, a2, a3⟩
  by_cases hi : i < N
  · obtain ⟨p, q, full, rw, z1, z2, z3, z4⟩ := atP (hv.grow a2) (y := i) (by omega)
    have ho : ∀ j, j < i + 1 → okAt l i → okAt l j := fun j hj h => by
      rcases Nat.lt_or_ge j i with q | q
      · exact a3 j q
      · have : j = i := by omega
        subst this; exact h
    have hno : ¬ okAt l i → decide (Rt l) = false := fun h => decide_eq_false fun hr => h (hr.2 i (by omega))
    obtain ⟨f, hF⟩ : ∃ f, (nthP l i).1 = f := ⟨_, rfl⟩
    obtain ⟨o, hO⟩ : ∃ f, (nthP l i).2 = f := ⟨_, rfl⟩
    have hoi : okAt l i ↔ 0 ≤ f ∧ f ≤ 1099511627776 ∧ -86400 ≤ o ∧ o ≤ 86400 ∧ (0 < i → (nthP l (i - 1)).1 < f) := by unfold okAt; rw [hF, hO]
    rw [hF, hO] at z4
    clear a3
    by_cases b0 : 0 ≤ f ∧ f ≤ 1099511627776 ∧ -86400 ≤ o ∧ o ≤ 86400
    case neg =>
      rw [hno (fun h => b0 ⟨(hoi.1 h).1, (hoi.1 h).2.1, (hoi.1 h).2.2.1, (hoi.1 h).2.2.2.1⟩)] at h
      clear ho hno hoi
      by_cases c1 : f < 0
      · simp (disch := omega) [-getElem?_pos, z1, z3, z4]
        exact h _ (a2.trans (Mem.Grew.new M _))
      by_cases c2 : 1099511627776 < f
      · simp (disch := omega) [-getElem?_pos, z1, z3, z4]
        exact h _ (a2.trans (Mem.Grew.new M _))
      by_cases c3 : o < -86400
      · simp (disch := omega) [-getElem?_pos, z1, z3, z4]
        exact h _ (a2.trans (Mem.Grew.new M _))
      simp (disch := omega) [-getElem?_pos, z1, z3, z4]
      exact h _ (a2.trans (Mem.Grew.new M _))
    obtain ⟨b1, b2, b3, b4⟩ := b0
    by_cases i0 : i = 0
    · subst i0
      have ho' : ∀ j, j < 0 + 1 → okAt l j := fun j hj => ho j hj (hoi.2 ⟨b1, b2, b3, b4, fun h => by omega⟩)
      clear ho hno hoi
      simp only [Int.ofNat_zero, Int.natCast_zero] at z1
      simp (disch := omega) [-getElem?_pos, z1, z3, z4]
      exact again_mk (0 + 1, _) (by dsimp only; exact ⟨by omega, a2.trans (Mem.Grew.new M _), ho'⟩) (by dsimp only; omega) (by simp) rfl
    · obtain ⟨p', q', full', rw', y1, y2, y3, y4⟩ := atP (hv.grow a2) (y := i - 1) (by omega)
      obtain ⟨f', hF'⟩ : ∃ f, (nthP l (i - 1)).1 = f := ⟨_, rfl⟩
      rw [hF'] at hoi y4
      have ei : (i : Int) - 1 = ((i - 1 : Nat) : Int) := by omega
      by_cases hlt : f' < f
      · have ho' : ∀ j, j < i + 1 → okAt l j := fun j hj => ho j hj (hoi.2 ⟨b1, b2, b3, b4, fun h => hlt⟩)
        clear ho hno hoi
        simp (disch := omega) [-getElem?_pos, z1, z3, z4, ei, y1, y3, y4]
        exact again_mk (i + 1, _) (by dsimp only; exact ⟨by omega, a2.trans (Mem.Grew.new M _), ho'⟩) (by dsimp only; omega) (by simp) rfl
      · rw [hno (fun h => hlt ((hoi.1 h).2.2.2.2 (by omega)))] at h
        clear ho hno hoi
        simp (disch := omega) [-getElem?_pos, z1, z3, z4, ei, y1, y3, y4]
        exact h _ (a2.trans (Mem.Grew.new M _))
  · have : i = N := by omega
    subst this
    by_cases h1 : 1 ≤ i
    · by_cases h2 : i ≤ 256
      · rw [decide_eq_true (show Rt l from ⟨by omega, fun j hj => a3 j (by omega)⟩)] at h
        clear a3
        simp (disch := omega) [-getElem?_pos, hv1]
        exact h _ a2
      · rw [decide_eq_false (show ¬ Rt l from fun hr => h2 (by have := hr.1.2; omega))] at h
        clear a3
        simp (disch := omega) [-getElem?_pos, hv1]
        exact h _ a2
    · rw [decide_eq_false (show ¬ Rt l from fun hr => h1 (by have := hr.1.1; omega))] at h
      clear a3
      simp (disch := omega) [-getElem?_pos, hv1]
      exact h _ a2

theorem new_calls {m : Mem} {v : V} {l : List (Int × Int)} (hv : Sl m 2 v (rowP l)) (hl : l.length ≤ 1000) {K : KV} (hno : ¬ Rt l → ∀ m', m.Grew m' → K (.ptr none) m') (h : Rt l → ∀ r m', m.Grew m' → Zo m' r l → K (.ptr (some (r, 0, 0))) m') : ACalls Try.prog 6 [v] m K := by
  obtain ⟨N, hN, hv1⟩ := lenP hv
  refine run_on x1 hm c6 (by simp) fun hf => ?_
  by_cases h1 : N < 1
  · have hr := hno (fun hr => by have := hr.1.1; omega)
    clear hno h
    simp (disch := omega) [-getElem?_pos, b6, hv1]
    exact hr _ (Mem.Grew.refl m)
  by_cases h2 : 256 < N
  · have hr := hno (fun hr => by have := hr.1.2; omega)
    clear hno h
    simp (disch := omega) [-getElem?_pos, b6, hv1]
    exact hr _ (Mem.Grew.refl m)
  simp (disch := omega) [-getElem?_pos, b6, hv1]
  refine exec_loopU (σ := Nat × Mem) (fun (i, _) => [(16, .int .i64 i)]) (fun (_, M) => M) (fun (i, M) => i ≤ N ∧ m.Grew M ∧ ∀ j, j < i → okAt l j) (fun (i, _) => N - i) (0, m) rfl
    (by dsimp only; exact ⟨by omega, Mem.Grew.refl m, fun j hj => by omega⟩) (by simp) ?_
  intro (i, M) ⟨a1, a2, a3⟩
  by_cases hi : i < N
  · obtain ⟨p, q, full, rw, z1, z2, z3, z4⟩ := atP (hv.grow a2) (y := i) (by omega)
    have ho : ∀ j, j < i + 1 → okAt l i → okAt l j := fun j hj h => by
      rcases Nat.lt_or_ge j i with q | q
      · exact a3 j q
      · have : j = i := by omega
        subst this; exact h
    have hno' : ¬ okAt l i → ∀ m', m.Grew m' → K (.ptr none) m' := fun h => hno fun hr => h (hr.2 i (by omega))
    obtain ⟨f, hF⟩ : ∃ f, (nthP l i).1 = f := ⟨_, rfl⟩
    obtain ⟨o, hO⟩ : ∃ f, (nthP l i).2 = f := ⟨_, rfl⟩
    have hoi : okAt l i ↔ 0 ≤ f ∧ f ≤ 1099511627776 ∧ -86400 ≤ o ∧ o ≤ 86400 ∧ (0 < i → (nthP l (i - 1)).1 < f) := by unfold okAt; rw [hF, hO]
    rw [hF, hO] at z4
    clear a3 hno h
    by_cases b0 : 0 ≤ f ∧ f ≤ 1099511627776 ∧ -86400 ≤ o ∧ o ≤ 86400
    case neg =>
      have h := hno' (fun h => b0 ⟨(hoi.1 h).1, (hoi.1 h).2.1, (hoi.1 h).2.2.1, (hoi.1 h).2.2.2.1⟩)
      clear ho hno' hoi
      by_cases c1 : f < 0
      · simp (disch := omega) [-getElem?_pos, z1, z3, z4]
        exact h _ (a2.trans (Mem.Grew.new M _))
      by_cases c2 : 1099511627776 < f
      · simp (disch := omega) [-getElem?_pos, z1, z3, z4]
        exact h _ (a2.trans (Mem.Grew.new M _))
      by_cases c3 : o < -86400
      · simp (disch := omega) [-getElem?_pos, z1, z3, z4]
        exact h _ (a2.trans (Mem.Grew.new M _))
      simp (disch := omega) [-getElem?_pos, z1, z3, z4]
      exact h _ (a2.trans (Mem.Grew.new M _))
    obtain ⟨b1, b2, b3, b4⟩ := b0
    by_cases i0 : i = 0
    · subst i0
      have ho' : ∀ j, j < 0 + 1 → okAt l j := fun j hj => ho j hj (hoi.2 ⟨b1, b2, b3, b4, fun h => by omega⟩)
      clear ho hno' hoi
      simp only [Int.ofNat_zero, Int.natCast_zero] at z1
      simp (disch := omega) [-getElem?_pos, z1, z3, z4]
      exact again_mk (0 + 1, _) (by dsimp only; exact ⟨by omega, a2.trans (Mem.Grew.new M _), ho'⟩) (by dsimp only; omega) (by simp) rfl
    · obtain ⟨p', q', full', rw', y1, y2, y3, y4⟩ := atP (hv.grow a2) (y := i - 1) (by omega)
      obtain ⟨f', hF'⟩ : ∃ f, (nthP l (i - 1)).1 = f := ⟨_, rfl⟩
      rw [hF'] at hoi y4
      have ei : (i : Int) - 1 = ((i - 1 : Nat) : Int) := by omega
      by_cases hlt : f' < f
      · have ho' : ∀ j, j < i + 1 → okAt l j := fun j hj => ho j hj (hoi.2 ⟨b1, b2, b3, b4, fun h => hlt⟩)
        clear ho hno' hoi
        simp (disch := omega) [-getElem?_pos, z1, z3, z4, ei, y1, y3, y4]
        exact again_mk (i + 1, _) (by dsimp only; exact ⟨by omega, a2.trans (Mem.Grew.new M _), ho'⟩) (by dsimp only; omega) (by simp) rfl
      · have h := hno' (fun h => hlt ((hoi.1 h).2.2.2.2 (by omega)))
        clear ho hno' hoi
        simp (disch := omega) [-getElem?_pos, z1, z3, z4, ei, y1, y3, y4]
        exact h _ (a2.trans (Mem.Grew.new M _))
  · have : i = N := by omega
    subst this
    have hr : Rt l := ⟨by omega, fun j hj => a3 j (by omega)⟩
    replace h := h hr
    clear a3 hno
    have g2 := ((Mem.Grew.new M (.row 2 (List.replicate i [.int .i64 0, .int .i64 0]) true)).trans (Mem.Grew.new _ (.row 1 [[.sl (some (M.next, 0, 2)) i (some i)]] true)))
    have hel := ((hv.grow a2).grow g2).elts
    simp (disch := omega) [-getElem?_pos, hv1]
    rw [hel]
    simp (disch := omega) [-getElem?_pos]
    refine copy_all (old := List.replicate i [.int .i64 0, .int .i64 0]) (by simp) (by simp) (by rw [rowP_length, hN]) ?_
    simp (disch := omega) [-getElem?_pos]
    refine h _ _ ((a2.trans (Mem.Grew.new M (.row 2 (rowP l) true))).trans (Mem.Grew.new _ (.row 1 [[.sl (some (M.next, 0, 2)) i (some i)]] true))) ⟨by simp, ⟨M.next, by simp <;> omega, by simp [hN], by simp⟩, hr⟩
end Go.Proofs.Ytikapnnabemedaa
