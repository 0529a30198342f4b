/-
  EDGES, JOIN, and the times at which something may change, of what the functions of this seat do.
-/
import Derived.Test.YtbbfpebmiamobaaJx
namespace Go.Proofs.Ytbbfpebmiamobaa
open Go Go.AM
set_option linter.unusedVariables false
set_option linter.unusedSimpArgs false
set_option maxRecDepth 60000
set_option maxHeartbeats 4000000

theorem rowE_length (l : List Eg) : (rowE l).length = l.length := by simp [rowE]
theorem rowE_app (A B : List Eg) : rowE (A ++ B) = rowE A ++ rowE B := by simp [rowE]
theorem rowE_get {l : List Eg} {i : Nat} (h : i < l.length) : (rowE l)[i]? = some [.int .i64 (nthE l i).1, .int .i64 (nthE l i).2.1, .int .i64 (nthE l i).2.2] := by
  unfold rowE; rw [List.getElem?_map, nthE_get h]; rfl

theorem edges_calls {m : Mem} {v w : V} {S U : List Sp} (hv : Sl m 2 v (rowP S)) (hw : Sl m 2 w (rowP U)) (hl : S.length + U.length ≤ 1000) {K : KV} (h : ∀ v' m' E, Edges S U E → m.Grew m' → (∀ p ∈ v'.fp, m.next ≤ p) → Ows m' 3 v' (rowE E) → K v' m') : ACalls Try.prog 36 [v, w] m K := by
  refine run_on (ctx_nil _) hm c36 (by simp) fun hf => ?_
  obtain ⟨N, hN, hv1⟩ := lenP hv
  obtain ⟨N2, hN2, hw1⟩ := lenP hw
  have er : ∀ a b c d e f : V, (List.range 2).map (fun i => ([a, b, c, d, e, f].drop (i * 3)).take 3) = [[a, b, c], [d, e, f]] := fun _ _ _ _ _ _ => rfl
  simp (disch := omega) [-getElem?_pos, b36, hv1]
  refine exec_loopU (σ := Nat × V × Mem) (fun (i, u, _) => [(5, u), (12, .int .i64 i)]) (fun (_, _, M) => M) (fun (i, u, M) => i ≤ N ∧ Exa M 3 u (rowE (egS (S.take i))) ∧ m.Grew M ∧ (∀ p ∈ u.fp, m.next ≤ p) ∧ (i = 0 → u = .sl none 0 (some 0))) (fun (i, _, _) => N - i) (0, .sl none 0 (some 0), m) rfl
    (by dsimp only; exact ⟨by omega, Exa.nil _ _, Mem.Grew.refl m, by simp [V.fp], fun _ => rfl⟩) (by simp) ?_
  intro (i, u, M) ⟨a1, a2, a3, a4, a5⟩
  by_cases hi : i < N
  · obtain ⟨p, q, full, rw, z1, z2, z3, z4⟩ := atP (hv.grow a3) (y := i) (by omega)
    obtain ⟨x, hx⟩ : ∃ x, nthP S i = x := ⟨_, rfl⟩
    have e1 := egS_snoc (S.take i) x
    have e2 := takeP (l := S) (i := i) (by omega)
    rw [hx] at z4 e2
    rw [← e2] at e1
    have hle := egS_length (S.take i)
    have hle2 : (S.take i).length = i := by simp; omega
    simp (disch := omega) [-getElem?_pos, z1, z3, z4, eltsOf, Mem.elts]
    simp only [er, List.take_succ_cons, List.take_zero]
    have gg := (Mem.Grew.new M (.row 2 [[.int .i64 x.1, .int .i64 x.2]] true)).trans (Mem.Grew.new _ (.row 3 [[.int .i64 x.1, .int .i64 1, .int .i64 0], [.int .i64 x.2, .int .i64 (-1), .int .i64 0]] true))
    refine (a2.grow gg).app (by rw [rowE_length, hle, hle2]; simp; omega) (by rw [rowE_length, hle, hle2]; simp; omega) fun u' M' w1 w2 w3 => ?_
    simp (disch := omega) [-getElem?_pos]
    exact again_mk (i + 1, u', M') (by dsimp only; exact ⟨by omega, by rw [e1, rowE_app]; exact w1, w2.toGrew (a3.trans gg) a4, w2.ge (by have := (a3.trans gg).next; omega) a4, fun h => by omega⟩) (by dsimp only; omega) (by simp) rfl
  have : i = N := by omega
  subst this
  rw [← hN, List.take_length] at a2
  clear hi
  simp (disch := omega) [-getElem?_pos, hw1]
  refine exec_loopU (σ := Nat × V × Mem) (fun (i, u, _) => [(5, u), (28, .int .i64 i)]) (fun (_, _, M) => M) (fun (k, u, M) => k ≤ N2 ∧ Exa M 3 u (rowE (egS S ++ egT (U.take k))) ∧ m.Grew M ∧ (∀ p ∈ u.fp, m.next ≤ p) ∧ (i + k = 0 → u = .sl none 0 (some 0))) (fun (k, _, _) => N2 - k) (0, u, M) rfl
    (by dsimp only; exact ⟨by omega, by simpa [egT] using a2, a3, a4, a5⟩) (by simp) ?_
  clear a2 a3 a4 a5
  intro (k, u, M) ⟨a2, a3, a4, a5, a6⟩
  by_cases hk : k < N2
  · obtain ⟨p, q, full, rw, z1, z2, z3, z4⟩ := atP (hw.grow a4) (y := k) (by omega)
    obtain ⟨x, hx⟩ : ∃ x, nthP U k = x := ⟨_, rfl⟩
    have e1 := egT_snoc (U.take k) x
    have e2 := takeP (l := U) (i := k) (by omega)
    rw [hx] at z4 e2
    rw [← e2] at e1
    have hle := egS_length S
    have hle3 := egT_length (U.take k)
    have hle2 : (U.take k).length = k := by simp; omega
    simp (disch := omega) [-getElem?_pos, z1, z3, z4, eltsOf, Mem.elts]
    simp only [er, List.take_succ_cons, List.take_zero]
    have gg := (Mem.Grew.new M (.row 2 [[.int .i64 x.1, .int .i64 x.2]] true)).trans (Mem.Grew.new _ (.row 3 [[.int .i64 x.1, .int .i64 0, .int .i64 1], [.int .i64 x.2, .int .i64 0, .int .i64 (-1)]] true))
    refine (a3.grow gg).app (by rw [rowE_length, List.length_append, hle, hle3, hle2]; simp; omega) (by rw [rowE_length, List.length_append, hle, hle3, hle2]; simp; omega) fun u' M' w1 w2 w3 => ?_
    simp (disch := omega) [-getElem?_pos]
    exact again_mk (k + 1, u', M') (by dsimp only; exact ⟨by omega, by rw [e1, ← List.append_assoc, rowE_app]; exact w1, w2.toGrew (a4.trans gg) a5, w2.ge (by have := (a4.trans gg).next; omega) a5, fun h => by omega⟩) (by dsimp only; omega) (by simp) rfl
  have : k = N2 := by omega
  subst this
  rw [← hN2, List.take_length] at a3
  simp (disch := omega) [-getElem?_pos]
  have hle := egS_length S
  have hle3 := egT_length U
  by_cases h0 : i + k = 0
  · have := a6 h0
    subst this
    have hS : S = [] := List.length_eq_zero_iff.1 (by omega)
    have hU : U = [] := List.length_eq_zero_iff.1 (by omega)
    subst hS; subst hU
    refine (sort_nilE M).imp fun r m' ⟨e1, e2⟩ => ?_
    subst e1; subst e2
    simp (disch := omega) [-getElem?_pos]
    exact h _ _ [] ⟨List.Perm.refl _, List.Pairwise.nil⟩ a4 (by simp [V.fp]) (Ows.nil _ _)
  · refine Ows.sortF c47.body c48.body eiE (fun _ => rfl) cfE sortsE (fun x y => cmp48 x y) (d := egS S ++ egT U) (by rw [ec_rowE]; exact a3.ows) (fun e => by have := congrArg List.length e; simp [hle, hle3] at this; omega) (by rw [List.length_append, hle, hle3]; omega) fun d' m2 e1 e2 e3 e4 e5 => ?_
    simp (disch := omega) [-getElem?_pos]
    exact h _ _ d' ⟨e1, e2.imp fun h => befE h⟩ (e4.toGrew a4 a5) a5 e3

theorem sm_rng {g : Eg → Int} : ∀ E : List Eg, (∀ e ∈ E, g e = 1 ∨ g e = -1 ∨ g e = 0) → -(E.length : Int) ≤ sm g E ∧ sm g E ≤ E.length
  | [], _ => by simp [sm]
  | e :: E, h => by
    have := sm_rng E fun x hx => h x (by simp [hx])
    have := h e (by simp)
    simp only [sm, List.length_cons]
    omega
theorem Edges.small {S U : List Sp} {E : List Eg} (h : Edges S U E) : ∀ e ∈ E, (e.2.1 = 1 ∨ e.2.1 = -1 ∨ e.2.1 = 0) ∧ (e.2.2 = 1 ∨ e.2.2 = -1 ∨ e.2.2 = 0) := fun e he => by
  rcases List.mem_append.1 (h.perm.mem_iff.1 he) with q | q
  · obtain ⟨x, _, rfl | rfl⟩ := mem_egS.1 q <;> simp
  · obtain ⟨x, _, rfl | rfl⟩ := mem_egT.1 q <;> simp

theorem join_calls {f : Bool → Bool → Bool} (hff : f false false = false) {g : FuncId} (hg : ∀ (M : Mem) (x y : Bool) (K : KV), K (.bool (f x y)) M → ACalls Try.prog g [.bool x, .bool y] M K)
    {m : Mem} {v w : V} {l l2 : List Sp} (hv : Sl m 2 v (rowP l)) (hw : Sl m 2 w (rowP l2)) (hl : l.length + l2.length ≤ 400) {K : KV} (h : ∀ v' m' W, RS W → (∀ t, Inn W t = f (Inn l t) (Inn l2 t)) → W.length ≤ 2 * (l.length + l2.length) → m.Grew m' → Sl m' 2 v' (rowP W) → K v' m') : ACalls Try.prog 28 [v, w, .fn g [] []] m K := by
  refine run_on (ctx_nil _) hm c28 (by simp) fun hf => ?_
  simp (disch := omega) [-getElem?_pos, b28]
  refine whole_calls hv (by omega) fun v1 m1 S hS inS lS g1 hv1 => ?_
  simp (disch := omega) [-getElem?_pos]
  refine whole_calls (hw.grow g1) (by omega) fun v2 m2 U hU inU lU g2 hv2 => ?_
  simp (disch := omega) [-getElem?_pos]
  refine edges_calls (hv1.grow g2) hv2 (by omega) fun ve m3 E hE g3 fp3 ho => ?_
  have hEl : E.length = 2 * (S.length + U.length) := by rw [hE.perm.length_eq, List.length_append, egS_length, egT_length]; omega
  obtain ⟨N, hN⟩ : ∃ N, E.length = N := ⟨_, rfl⟩
  have hve := ho.sl.lenSl
  rw [rowE_length, hN] at hve
  have gm := (g1.trans g2).trans g3
  simp (disch := omega) [-getElem?_pos, hve]
  refine exec_loopU (σ := Nat × V × Mem) (fun (i, u, _) => [(7, u), (8, .int .i64 (sm (·.2.1) (E.take i))), (9, .int .i64 (sm (·.2.2) (E.take i))), (20, .int .i64 i)]) (fun (_, _, M) => M) (fun (i, u, M) => i ≤ N ∧ Exa M 2 u (rowP (outJ f E i)) ∧ m3.Grew M ∧ (∀ p ∈ u.fp, m3.next ≤ p)) (fun (i, _, _) => N - i) (0, .sl none 0 (some 0), m3) rfl
    (by dsimp only; exact ⟨by omega, Exa.nil _ _, Mem.Grew.refl m3, by simp [V.fp]⟩) (by simp [sm]) ?_
  intro (i, u, M) ⟨a1, a2, a3, a4⟩
  by_cases hi : i < N
  · obtain ⟨p, q, full, rw, z1, z2, z3, z4, _⟩ := (ho.sl.grow a3).at (rowE_get (l := E) (i := i) (by omega)) .i64
    have e1 := takeE (l := E) (i := i) (by omega)
    have small := hE.small _ (nthE_mem (l := E) (i := i) (by omega))
    have rA := sm_rng (g := (·.2.1)) (E.take i) fun e he => (hE.small e (List.mem_of_mem_take he)).1
    have rB := sm_rng (g := (·.2.2)) (E.take i) fun e he => (hE.small e (List.mem_of_mem_take he)).2
    have hlt : (E.take i).length = i := by simp; omega
    rw [hlt] at rA rB
    have sA : sm (·.2.1) (E.take (i + 1)) = sm (·.2.1) (E.take i) + (nthE E i).2.1 := by rw [e1, sm_app]; simp [sm]
    have sB : sm (·.2.2) (E.take (i + 1)) = sm (·.2.2) (E.take i) + (nthE E i).2.2 := by rw [e1, sm_app]; simp [sm]
    have eo : outJ f E (i + 1) = outJ f E i ++ if onJ f E i then [((nthE E i).1, (nthE E (i + 1)).1)] else [] := rfl
    have eon : onJ f E i = (decide (i + 1 < N) && f (decide (0 < sm (·.2.1) (E.take (i + 1)))) (decide (0 < sm (·.2.2) (E.take (i + 1))))) := by unfold onJ; rw [hN]
    have hol := outJ_length f E i
    clear hE
    obtain ⟨x, hx⟩ : ∃ x, nthE E i = x := ⟨_, rfl⟩
    rw [hx] at z4 e1 small sA sB eo
    have gN := Mem.Grew.new M (.row 3 [[.int .i64 x.1, .int .i64 x.2.1, .int .i64 x.2.2]] true)
    have oN : (M.new (.row 3 [[.int .i64 x.1, .int .i64 x.2.1, .int .i64 x.2.2]] true)).obj M.next = some (.row 3 [[.int .i64 x.1, .int .i64 x.2.1, .int .i64 x.2.2]] true) := by simp
    by_cases hi1 : i + 1 < N
    · rw [decide_eq_true hi1, Bool.true_and] at eon
      obtain ⟨p', q', full', rw', y1, y2, y3, y4, _⟩ := (ho.sl.grow a3).at (rowE_get (l := E) (i := i + 1) (by omega)) .i64
      rw [show ((i + 1 : Nat) : Int) = (i : Int) + 1 by omega] at y1
      simp (disch := omega) [-getElem?_pos, z1, z3, z4, hve]
      refine hg _ _ _ _ ?_
      rw [← sA, ← sB, ← eon]
      cases hon : onJ f E i with
      | true =>
        rw [hon, if_pos rfl] at eo
        simp (disch := omega) [-getElem?_pos, y1, y3, y4, eltsOf, Mem.elts]
        have gg := gN.trans (Mem.Grew.new _ (.row 2 [[.int .i64 x.1, .int .i64 (nthE E (i + 1)).1]] true))
        refine (a2.grow gg).app (by rw [rowP_length]; simp; omega) (by rw [rowP_length]; simp; omega) fun u' M' w1 w2 w3 => ?_
        simp (disch := omega) [-getElem?_pos]
        exact again_mk (i + 1, u', M') (by dsimp only; exact ⟨by omega, by rw [eo, rowP_app]; exact w1, w2.toGrew (a3.trans gg) a4, w2.ge (by have := (a3.trans gg).next; omega) a4⟩) (by dsimp only; omega) (by simp [sA, sB]) rfl
      | false =>
        rw [hon, if_neg (by simp), List.append_nil] at eo
        simp (disch := omega) [-getElem?_pos]
        exact again_mk (i + 1, u, _) (by dsimp only; exact ⟨by omega, by rw [eo]; exact a2.grow gN, a3.trans gN, a4⟩) (by dsimp only; omega) (by simp [sA, sB]) rfl
    · rw [decide_eq_false hi1, Bool.false_and] at eon
      rw [eon, if_neg (by simp), List.append_nil] at eo
      simp (disch := omega) [-getElem?_pos, z1, z3, z4, hve]
      exact again_mk (i + 1, u, _) (by dsimp only; exact ⟨by omega, by rw [eo]; exact a2.grow gN, a3.trans gN, a4⟩) (by dsimp only; omega) (by simp [sA, sB]) rfl
  · have : i = N := by omega
    subst this
    have hol := outJ_length f E i
    simp (disch := omega) [-getElem?_pos]
    refine of_calls a2.ows.sl (by omega) fun v4 m4 W b1 b2 b3 b4 b5 => ?_
    simp (disch := omega) [-getElem?_pos]
    refine h _ _ W b1 (fun t => ?_) (by omega) ((gm.trans a3).trans b4) b5
    rw [b2, ← hN, joinInn hff hS hU hE, inS, inU]
end Go.Proofs.Ytbbfpebmiamobaa
