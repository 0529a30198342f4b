/-
  fixed, Or, And, Not, times, of what the functions of this seat do.
-/
import Derived.Test.YtbbfpebmiamobaaKx
namespace Go.Proofs.Ytbbfpebmiamobaa
open Go Go.AM
set_option linter.unusedVariables false
set_option linter.unusedSimpArgs false
set_option maxRecDepth 60000
set_option maxHeartbeats 4000000

def F7 : AFn
  | [], m => some (.bool true, m)
  | _, _ => none
theorem s7 : ASpec Try.prog 7 F7 := by
  intro args m r m' h
  unfold F7 at h; split at h <;> cases h
  exact reckon hm codeOk 300 30 rfl rfl (by kernel_rfl) _
abbrev L1 : List (FuncId × AFn) := [(7, F7)]
theorem x1 : CtxOk Try.prog (Ctx.of L1) := ctx_cons (ctx_nil _) s7

theorem or29 (M : Mem) (x y : Bool) (K : KV) (h : K (.bool (x || y)) M) : ACalls Try.prog 29 [.bool x, .bool y] M K := by
  refine run_on (ctx_nil _) hm c29 (by simp) fun hf => ?_
  cases x <;> simp [b29] <;> simpa using h
theorem and30 (M : Mem) (x y : Bool) (K : KV) (h : K (.bool (x && y)) M) : ACalls Try.prog 30 [.bool x, .bool y] M K := by
  refine run_on (ctx_nil _) hm c30 (by simp) fun hf => ?_
  cases x <;> simp [b30] <;> simpa using h
theorem not31 (M : Mem) (x y : Bool) (K : KV) (h : K (.bool (x && !y)) M) : ACalls Try.prog 31 [.bool x, .bool y] M K := by
  refine run_on (ctx_nil _) hm c31 (by simp) fun hf => ?_
  cases x <;> simp [b31] <;> simpa using h

theorem or_calls {m : Mem} {v w : V} {l l2 : List Sp} (hv : Sl m 2 v (rowP l)) (hw : Sl m 2 w (rowP l2)) (hl : l.length + l2.length ≤ 400) {K : KV} (h : ∀ v' m' W, RS W → (∀ t, Inn W t = (Inn l t || Inn l2 t)) → W.length ≤ 2 * (l.length + l2.length) → m.Grew m' → Sl m' 2 v' (rowP W) → K v' m') : ACalls Try.prog 15 [v, w] m K := by
  refine run_on (ctx_nil _) hm c15 (by simp) fun hf => ?_
  simp (disch := omega) [-getElem?_pos, b15]
  refine join_calls (f := fun x y => x || y) rfl or29 hv hw hl fun v' m' W a1 a2 a3 a4 a5 => ?_
  simp (disch := omega) [-getElem?_pos]
  exact h _ _ W a1 a2 a3 a4 a5
theorem and_calls {m : Mem} {v w : V} {l l2 : List Sp} (hv : Sl m 2 v (rowP l)) (hw : Sl m 2 w (rowP l2)) (hl : l.length + l2.length ≤ 400) {K : KV} (h : ∀ v' m' W, RS W → (∀ t, Inn W t = (Inn l t && Inn l2 t)) → W.length ≤ 2 * (l.length + l2.length) → m.Grew m' → Sl m' 2 v' (rowP W) → K v' m') : ACalls Try.prog 16 [v, w] m K := by
  refine run_on (ctx_nil _) hm c16 (by simp) fun hf => ?_
  simp (disch := omega) [-getElem?_pos, b16]
  refine join_calls (f := fun x y => x && y) rfl and30 hv hw hl fun v' m' W a1 a2 a3 a4 a5 => ?_
  simp (disch := omega) [-getElem?_pos]
  exact h _ _ W a1 a2 a3 a4 a5
theorem not_calls {m : Mem} {v w : V} {l l2 : List Sp} (hv : Sl m 2 v (rowP l)) (hw : Sl m 2 w (rowP l2)) (hl : l.length + l2.length ≤ 400) {K : KV} (h : ∀ v' m' W, RS W → (∀ t, Inn W t = (Inn l t && !Inn l2 t)) → W.length ≤ 2 * (l.length + l2.length) → m.Grew m' → Sl m' 2 v' (rowP W) → K v' m') : ACalls Try.prog 17 [v, w] m K := by
  refine run_on (ctx_nil _) hm c17 (by simp) fun hf => ?_
  simp (disch := omega) [-getElem?_pos, b17]
  refine join_calls (f := fun x y => x && !y) rfl not31 hv hw hl fun v' m' W a1 a2 a3 a4 a5 => ?_
  simp (disch := omega) [-getElem?_pos]
  exact h _ _ W a1 a2 a3 a4 a5

/-- Rows, each with what it has. -/
abbrev Rws := List (V × List Sp)
def rowV (R : Rws) : List (List V) := R.map fun r => [r.1]
def nthR (R : Rws) (i : Nat) : V × List Sp := R.getD i (.sl none 0 (some 0), [])
theorem nthR_get {l : Rws} {i : Nat} (h : i < l.length) : l[i]? = some (nthR l i) := by simp [nthR, List.getD_eq_getElem?_getD, h]
theorem nthR_mem {l : Rws} {i : Nat} (h : i < l.length) : nthR l i ∈ l := List.mem_of_getElem? (nthR_get h)
theorem rowV_get {l : Rws} {i : Nat} (h : i < l.length) : (rowV l)[i]? = some [(nthR l i).1] := by unfold rowV; rw [List.getElem?_map, nthR_get h]; rfl
theorem rowV_length (l : Rws) : (rowV l).length = l.length := by simp [rowV]
theorem takeR {l : Rws} {i : Nat} (h : i < l.length) : l.take (i + 1) = l.take i ++ [nthR l i] := by
  rw [List.take_add_one, nthR_get h]; rfl

theorem times_calls {m : Mem} {v : V} {R : Rws} (hv : Sl m 1 v (rowV R)) (hn : R.length ≤ 5) (hR : ∀ r ∈ R, Sl m 2 r.1 (rowP r.2) ∧ r.2.length ≤ 1000 ∧ ∀ x ∈ r.2, NearP x) {K : KV}
    (h : ∀ v' m' Z, (∀ r ∈ R, ∀ x ∈ r.2, x.1 ∈ Z) → Z.length ≤ 30000 → m.Grew m' → (∀ p ∈ v'.fp, m.next ≤ p) → Exa m' 1 v' (rowI .i64 Z) → K v' m') : ACalls Try.prog 11 [v] m K := by
  refine run_on (ctx_nil _) hm c11 (by simp) fun hf => ?_
  have er : ∀ a b c d e f : V, (List.range 6).map (fun i => ([a, b, c, d, e, f].drop i).take 1) = [[a], [b], [c], [d], [e], [f]] := fun _ _ _ _ _ _ => rfl
  have hv1 := hv.lenSl
  rw [rowV_length] at hv1
  obtain ⟨N, hN⟩ : ∃ N, R.length = N := ⟨_, rfl⟩
  rw [hN] at hv1
  simp (disch := omega) [-getElem?_pos, b11, hv1]
  refine exec_loopU (σ := Nat × V × List Int × Mem) (fun (i, u, _, _) => [(3, u), (10, .int .i64 i)]) (fun (_, _, _, M) => M) (fun (i, u, Z, M) => i ≤ N ∧ Exa M 1 u (rowI .i64 Z) ∧ m.Grew M ∧ (∀ p ∈ u.fp, m.next ≤ p) ∧ Z.length ≤ 6000 * i ∧ ∀ r ∈ R.take i, ∀ x ∈ r.2, x.1 ∈ Z) (fun (i, _, _, _) => N - i) (0, .sl none 0 (some 0), [], m) rfl
    (by dsimp only; exact ⟨by omega, Exa.nil _ _, Mem.Grew.refl m, by simp [V.fp], by simp, by simp⟩) (by simp) ?_
  intro (i, u, Z, M) ⟨a1, a2, a3, a4, a5, a6⟩
  by_cases hi : i < N
  case neg =>
    have : i = N := by omega
    subst this
    rw [← hN, List.take_length] at a6
    simp (disch := omega) [-getElem?_pos]
    exact h _ _ Z a6 (by omega) a3 a4 a2
  obtain ⟨p, q, full, rw, z1, z2, z3, z4, _⟩ := (hv.grow a3).at (rowV_get (l := R) (i := i) (by omega)) .i64
  have e1 := takeR (l := R) (i := i) (by omega)
  obtain ⟨hr, hrl, hrn⟩ := hR _ (nthR_mem (l := R) (i := i) (by omega))
  obtain ⟨⟨w, S⟩, hx⟩ : ∃ x, nthR R i = x := ⟨_, rfl⟩
  rw [hx] at z4 e1 hr hrl hrn
  dsimp only at z4 hr hrl hrn
  obtain ⟨n, hSn, hw1⟩ := lenP hr
  simp (disch := omega) [-getElem?_pos, z1, z3, z4, hw1]
  refine exec_loopU (σ := Nat × V × List Int × Mem) (fun (k, u, _, _) => [(3, u), (16, .int .i64 k)]) (fun (_, _, _, M) => M) (fun (k, u, Z, M) => k ≤ n ∧ Exa M 1 u (rowI .i64 Z) ∧ m.Grew M ∧ (∀ p ∈ u.fp, m.next ≤ p) ∧ Z.length ≤ 6000 * i + 6 * k ∧ (∀ r ∈ R.take i, ∀ x ∈ r.2, x.1 ∈ Z) ∧ ∀ x ∈ S.take k, x.1 ∈ Z) (fun (k, _, _, _) => n - k) (0, u, Z, M) rfl
    (by dsimp only; exact ⟨by omega, a2, a3, a4, by omega, a6, by simp⟩) (by simp) ?_
  clear a2 a3 a4 a5 a6 z1 z2 z3 z4
  intro (k, u, Z, M) ⟨b1, b2, b3, b4, b5, b6, b7⟩
  by_cases hk : k < n
  · obtain ⟨p, q, full, rw, z1, z2, z3, z4⟩ := atP (hr.grow b3) (y := k) (by omega)
    have hnr := hrn _ (nthP_mem (l := S) (i := k) (by omega))
    have e2 := takeP (l := S) (i := k) (by omega)
    obtain ⟨x, hx2⟩ : ∃ x, nthP S k = x := ⟨_, rfl⟩
    rw [hx2] at z4 e2 hnr
    unfold NearP at hnr
    simp (disch := omega) [-getElem?_pos, z1, z3, z4, eltsOf, Mem.elts]
    simp only [er, List.take_succ_cons, List.take_zero]
    have gg := (Mem.Grew.new M (.row 2 [[.int .i64 x.1, .int .i64 x.2]] true)).trans (Mem.Grew.new _ (.row 1 (rowI .i64 [x.1 - 1, x.1, x.1 + 1, x.2 - 1, x.2, x.2 + 1]) true))
    refine (b2.grow gg).app (by rw [rowI_length]; simp; omega) (by rw [rowI_length]; simp; omega) fun u' M' w1 w2 w3 => ?_
    simp (disch := omega) [-getElem?_pos]
    exact again_mk (k + 1, u', Z ++ [x.1 - 1, x.1, x.1 + 1, x.2 - 1, x.2, x.2 + 1], M') (by
      dsimp only
      refine ⟨by omega, by unfold rowI at *; rw [List.map_append]; exact w1, w2.toGrew (b3.trans gg) b4, w2.ge (by have := (b3.trans gg).next; omega) b4, by simp; omega, fun r hr y hy => List.mem_append_left _ (b6 r hr y hy), fun y hy => ?_⟩
      rw [e2] at hy
      rcases List.mem_append.1 hy with q | q
      · exact List.mem_append_left _ (b7 y q)
      · rw [List.mem_singleton.1 q]; exact List.mem_append_right _ (by simp)) (by dsimp only; omega) (by simp) rfl
  · have : k = n := by omega
    subst this
    rw [← hSn, List.take_length] at b7
    simp (disch := omega) [-getElem?_pos]
    exact again_mk (i + 1, u, Z, M) (by dsimp only; exact ⟨by omega, b2, b3, b4, by omega, fun r hr x hx => by
      rw [e1] at hr
      rcases List.mem_append.1 hr with q | q
      · exact b6 r q x hx
      · rw [List.mem_singleton.1 q] at hx; exact b7 x hx⟩) (by dsimp only; omega) (by simp) rfl
end Go.Proofs.Ytbbfpebmiamobaa
