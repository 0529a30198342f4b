/-
  EDGES IN ORDER, and the best agreement, of what the functions of this seat do.
-/
import Derived.Test.YtginhgjbjfndfaaGx
import Derived.Test.YtginhgjbjfndfaaAm27
namespace Go.Proofs.Ytginhgjbjfndfaa
open Go Go.AM
set_option linter.unusedVariables false
set_option linter.unusedSimpArgs false
set_option maxRecDepth 20000
set_option maxHeartbeats 4000000

def cmpI (a b : Int) : Int := if a < b then -1 else if b < a then 1 else 0
def orI (a b : Int) : Int := if a ≠ 0 then a else b
/-- How two edges lie. -/
def cfE (x y : Ed) : Int := orI (cmpI x.1 y.1) (cmpI y.2 x.2)
def eiE (x : Ed) : List Int := [x.1, x.2]
theorem ec_row (l : List Ed) : l.map (ecV eiE) = rowP l := rfl

def F25 : AFn
  | [.int .i64 _], m => some (.bool false, m)
  | _, _ => none
theorem s25 : ASpec Try.prog 25 F25 := by
  intro args m r m' h
  unfold F25 at h; split at h <;> cases h
  refine run_on (ctx_nil _) hm c25 (by simp) fun hf => ?_
  simp [b25]
abbrev L2 : List (FuncId × AFn) := [(25, F25)]
theorem x2 : CtxOk Try.prog (Ctx.of L2) := ctx_cons (ctx_nil _) s25
def F22 : AFn
  | [.int .i64 a, .int .i64 b], m => some (.int .i64 (cmpI a b), m)
  | _, _ => none
theorem s22 : ASpec Try.prog 22 F22 := by
  intro args m r m' h
  unfold F22 at h; split at h <;> cases h
  rename_i a b
  refine run_on x2 hm c22 (by simp) fun hf => ?_
  unfold cmpI
  by_cases h1 : a < b
  · rw [if_pos h1]; simp (disch := omega) [b22, F25]
  · by_cases h2 : b < a
    · rw [if_neg h1, if_pos h2]; simp (disch := omega) [b22, F25]
    · rw [if_neg h1, if_neg h2]; simp (disch := omega) [b22, F25]
abbrev L3 : List (FuncId × AFn) := [(22, F22)]
theorem x3 : CtxOk Try.prog (Ctx.of L3) := ctx_cons (ctx_nil _) s22

theorem or_calls {m : Mem} {q : Nat} {a b : Int} (ho : m.obj q = some (.row 1 [[.int .i64 a], [.int .i64 b]] true)) {K : KV} (h : K (.int .i64 (orI a b)) m) : ACalls Try.prog 21 [.sl (some (q, 0, 1)) 2 (some 2)] m K := by
  refine run_on (ctx_nil _) hm c21 (by simp) fun hf => ?_
  simp (disch := omega) [-getElem?_pos, b21]
  refine exec_loopU (σ := Nat) (fun i => [(8, .int .i64 i)]) (fun _ => m) (fun i => i = 0 ∨ (i = 1 ∧ a = 0) ∨ (i = 2 ∧ a = 0 ∧ b = 0)) (fun i => 2 - i) 0 rfl (.inl rfl) (by simp) ?_
  intro i hi
  rcases hi with rfl | ⟨rfl, rfl⟩ | ⟨rfl, rfl, rfl⟩
  · by_cases ha : a = 0
    · subst ha
      simp (disch := omega) [-getElem?_pos, ho]
      exact again_mk 1 (.inr (.inl ⟨rfl, rfl⟩)) (by omega) (by simp) rfl
    · unfold orI at h
      rw [if_pos ha] at h
      simp (disch := omega) [-getElem?_pos, ho, ha]
      exact h
  · by_cases hb : b = 0
    · subst hb
      simp (disch := omega) [-getElem?_pos, ho]
      exact again_mk 2 (.inr (.inr ⟨rfl, rfl, rfl⟩)) (by omega) (by simp) rfl
    · unfold orI at h
      rw [if_neg (by omega)] at h
      simp (disch := omega) [-getElem?_pos, ho, hb]
      exact h
  · unfold orI at h
    rw [if_neg (by omega)] at h
    simp (disch := omega) [-getElem?_pos]
    exact h

theorem cmp_calls (x y : Ed) {m : Mem} : ACalls Try.prog 20 [.agg (ecV eiE x), .agg (ecV eiE y)] m (fun r _ => r = .int .i64 (cfE x y)) := by
  refine run_on x3 hm c20 (by simp) fun hf => ?_
  simp (disch := omega) [-getElem?_pos, b20, ecV, eiE]
  refine drawT_J (fun e _ => e = keep [4] (Env.none.put (some 4) (.int .i64 (cfE x y)))) ?_ ?_
  · simp (disch := omega) [-getElem?_pos, F22]
    refine ⟨⟨?_, ?_, ?_⟩, ?_, ?_⟩
    all_goals
      refine or_calls (a := cmpI x.1 y.1) (b := cmpI y.2 x.2) (by simp; rfl) ?_
      simp (disch := omega) [-getElem?_pos, cfE]
  · rintro e' m' rfl
    simp (disch := omega) [-getElem?_pos]

theorem cfE_lt (x y : Ed) : Go.Proofs.ltOf cfE x y = decide (x.1 < y.1 ∨ (x.1 = y.1 ∧ y.2 < x.2)) := by
  unfold Go.Proofs.ltOf
  rw [decide_eq_decide]
  unfold cfE orI cmpI
  by_cases h1 : x.1 < y.1
  · rw [if_pos h1, if_pos (by omega)]; omega
  · rw [if_neg h1]
    by_cases h2 : y.1 < x.1
    · rw [if_pos h2, if_pos (by omega)]; omega
    · rw [if_neg h2, if_neg (by omega)]
      by_cases h3 : y.2 < x.2
      · rw [if_pos h3]; omega
      · rw [if_neg h3]
        split <;> omega
theorem swo : Go.Sort.SWO (Go.Proofs.ltOf cfE) := {
  irrefl x := by rw [cfE_lt]; simp
  trans x y z h1 h2 := by rw [cfE_lt] at *; simp only [decide_eq_true_eq] at *; omega
  ntrans x y z h1 h2 := by rw [cfE_lt] at *; simp only [decide_eq_false_iff_not] at *; omega
  }
theorem bef_of {x y : Ed} (h : ¬ cfE y x < 0) : Bef x y := by
  have h2 : Go.Proofs.ltOf cfE y x = false := decide_eq_false h
  rw [cfE_lt, decide_eq_false_iff_not] at h2
  unfold Bef; omega
theorem sort_nil (m : Mem) : ACalls Try.prog 19 [.sl none 0 (some 0), .fn 20 [] []] m (fun r m' => r = .tup [] ∧ m' = m) := reckonR hm codeOk 200 20 (nil_fn 20) rfl (by kernel_rfl) _

theorem edges_calls (hs : SortsF Try.prog 19 20 eiE 2 cfE) {m : Mem} {v : V} {l : List (Int × Int)} (hv : Sl m 2 v (rowP l)) (hl : l.length ≤ 1000) {K : KV} (h : ∀ v' m' E, E.Perm (edU l) → E.Pairwise Bef → Ows m' 2 v' (rowP E) → m.Grew m' → (∀ p ∈ v'.fp, m.next ≤ p) → K v' m') : ACalls Try.prog 15 [v] m K := by
  obtain ⟨N, hN, hv1⟩ := lenP hv
  refine run_on x1 hm c15 (by simp) fun hf => ?_
  simp (disch := omega) [-getElem?_pos, b15, hv1]
  refine exec_loopU (σ := Nat × V × Mem) (fun (i, u, _) => [(3, u), (8, .int .i64 i)]) (fun (_, _, M) => M) (fun (i, u, M) => i ≤ N ∧ Exa M 2 u (rowP (edU (l.take i))) ∧ m.Grew M ∧ (∀ p ∈ u.fp, m.next ≤ p) ∧ (edU (l.take i) = [] → u = .sl none 0 (some 0))) (fun (i, _, _) => N - i) (0, .sl none 0 (some 0), m) rfl
    (by dsimp only; exact ⟨by omega, by simpa [edU, rowP] using Exa.nil m 2, Mem.Grew.refl m, by simp [V.fp], fun _ => rfl⟩) (by simp) ?_
  intro (i, u, M) ⟨a1, a2, a3, a4, a5⟩
  by_cases hi : i < N
  · obtain ⟨p, q, full, rw, z1, z2, z3, z4⟩ := atP (hv.grow a3) (y := i) (by omega)
    have e1 : edU (l.take (i + 1)) = edU (l.take i) ++ if okS (nthP l i) then [((nthP l i).1, 1), ((nthP l i).2, -1)] else [] := by rw [takeS (nthP_get (by omega)), edU_snoc]
    have hle : (edU (l.take i)).length ≤ 2 * i := Nat.le_trans (edU_length _) (by simp; omega)
    obtain ⟨x, hx⟩ : ∃ x, nthP l i = x := ⟨_, rfl⟩
    rw [hx] at e1 z4
    have gn := Mem.Grew.new M (.row 2 [[.int .i64 x.1, .int .i64 x.2]] true)
    have ho : (M.new (.row 2 [[.int .i64 x.1, .int .i64 x.2]] true)).obj M.next = some (.row 2 [[.int .i64 x.1, .int .i64 x.2]] true) := by simp
    simp (disch := omega) [-getElem?_pos, z1, z3, z4]
    refine right18 fun m2 g2 => ?_
    have ho1 := g2.obj M.next (by simp)
    rw [ho] at ho1
    by_cases hk : okS x
    · rw [if_pos hk] at e1
      rw [decide_eq_true hk]
      simp (disch := omega) [-getElem?_pos, ho1, eltsOf, Mem.elts]
      have er : ∀ a b c d : V, (List.range 2).map (fun i => ([a, b, c, d].drop (i * 2)).take 2) = [[a, b], [c, d]] := fun _ _ _ _ => rfl
      simp only [er, List.take_succ_cons, List.take_zero]
      have w0 : Stp M (m2.new (.row 2 [[.int .i64 x.1, .int .i64 1], [.int .i64 x.2, .int .i64 (-1)]] true)) u.fp u.fp := ((Stp.grow gn _).trans (Stp.grow g2 _)).trans (Stp.new m2 _ u.fp)
      refine (((a2.grow gn).grow g2).grow (Mem.Grew.new m2 (.row 2 [[.int .i64 x.1, .int .i64 1], [.int .i64 x.2, .int .i64 (-1)]] true))).app (by rw [rowP_length]; simp; omega) (by rw [rowP_length]; simp; omega) fun u' M' w1 w2 w3 => ?_
      simp (disch := omega)
      have w2' := w0.trans w2
      refine again_mk (i + 1, u', M') ?_ (by dsimp only; omega) (by simp) rfl
      dsimp only
      exact ⟨by omega, by rw [e1]; simpa [rowP] using w1, w2'.toGrew a3 a4, w2'.ge a3.next a4, fun e => by rw [e1] at e; simp at e⟩
    · rw [if_neg hk, List.append_nil] at e1
      rw [decide_eq_false hk]
      simp (disch := omega) [-getElem?_pos]
      refine again_mk (i + 1, u, m2) ?_ (by dsimp only; omega) (by simp) rfl
      dsimp only
      exact ⟨by omega, by rw [e1]; exact (a2.grow gn).grow g2, (a3.trans gn).trans g2, a4, by rw [e1]; exact a5⟩
  · have : i = N := by omega
    subst this
    rw [List.take_of_length_le (by omega)] at a2 a5
    simp (disch := omega) [-getElem?_pos]
    have hel := edU_length l
    by_cases h0 : edU l = []
    · have := a5 h0
      subst this
      refine (sort_nil M).imp fun r m' ⟨e1, e2⟩ => ?_
      subst e1; subst e2
      simp (disch := omega) [-getElem?_pos]
      exact h _ _ [] (by rw [h0]) List.Pairwise.nil (by simpa [rowP] using Ows.nil m' 2) a3 (by simp [V.fp])
    · refine Ows.sortF c19.body c20.body eiE (fun _ => rfl) cfE hs (fun x y => cmp_calls x y) (d := edU l) (by rw [ec_row]; exact a2.ows) h0 (by omega) fun d' m2 e1 e2 e3 e4 e5 => ?_
      simp (disch := omega) [-getElem?_pos]
      rw [ec_row] at e3
      exact h _ _ d' e1 (e2.imp fun h => bef_of h) e3 (e4.toGrew a3 a4) a4
end Go.Proofs.Ytginhgjbjfndfaa
