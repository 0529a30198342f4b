/-
  AN AGENDA, in plain words: its meetings, where one stands, which clash; adding, dropping.
-/
import Derived.Test.YtbacmgdlhbfddaaIx
import Derived.Test.YtbacmgdlhbfddaaJx
namespace Go.Proofs.Ytbacmgdlhbfddaa
open Go Go.AM
set_option linter.unusedVariables false
set_option linter.unusedSimpArgs false
set_option maxRecDepth 60000
set_option maxHeartbeats 4000000

/-- A meeting: its ID, from, to, whose. -/
abbrev Mt := Int × Int × Int × Int
def mt (a : Mt) : List V := [.int .i64 a.1, .int .i64 a.2.1, .int .i64 a.2.2.1, .int .u64 a.2.2.2]
def spn (a : Mt) : Sp := (a.2.1, a.2.2.1)
theorem mt_get {L : List Mt} {i : Nat} {a : Mt} (h : L[i]? = some a) : (L.map mt)[i]? = some (mt a) := by simp [h]
theorem mt_len (L : List Mt) : ∀ x ∈ L.map mt, x.length = 4 := fun x hx => by obtain ⟨a, _, rfl⟩ := List.mem_map.1 hx; rfl

/-- May it be there, for people 'all'? -/
def okA (all : Int) (a : Mt) : Prop := rt (spn a) ∧ a.2.2.2 ≠ 0 ∧ bAndNot .u64 a.2.2.2 all = 0
instance (all : Int) (a : Mt) : Decidable (okA all a) := by unfold okA; infer_instance
def meets (a : Mt) (who : Int) : Bool := decide (bAnd .u64 a.2.2.2 who ≠ 0)
def clC (a b : Mt) : Bool := meets a b.2.2.2 && (decide (a.2.1 < b.2.2.1) && decide (b.2.1 < a.2.2.1))
def clL (a b : Mt) : Bool := meets a b.2.2.2 && decide (max a.2.1 b.2.1 < min a.2.2.1 b.2.2.1)
theorem cl_eq {a b : Mt} (h1 : rt (spn a)) (h2 : rt (spn b)) : clL a b = clC a b := by
  unfold clL clC
  congr 1
  have e1 := h1.2.2
  have e2 := h2.2.2
  simp only [spn] at e1 e2
  by_cases c1 : a.2.1 < b.2.2.1
  · by_cases c2 : b.2.1 < a.2.2.1
    · rw [decide_eq_true (show max a.2.1 b.2.1 < min a.2.2.1 b.2.2.1 by omega)]; simp [c1, c2]
    · rw [decide_eq_false (show ¬ max a.2.1 b.2.1 < min a.2.2.1 b.2.2.1 by omega)]; simp [c1, c2]
  · rw [decide_eq_false (show ¬ max a.2.1 b.2.1 < min a.2.2.1 b.2.2.1 by omega)]; simp [c1]

theorem clash26 {a b : Mt} {m : Mem} {K : KV} (h : ∀ m', m.Grew m' → K (.bool (clC a b)) m') : ACalls Try.prog 26 [.agg (mt a), .agg (mt b)] m K := by
  refine run_on (ctx_nil _) hm c26 (by simp) fun hf => ?_
  have g := (Mem.Grew.new m (.row 4 [mt a] true)).trans (Mem.Grew.new _ (.row 4 [mt b] true))
  unfold clC meets at h
  simp only [mt] at g ⊢
  by_cases h1 : bAnd .u64 a.2.2.2 b.2.2.2 = 0
  · simp only [h1, ne_eq, not_true_eq_false, decide_false, Bool.false_and] at h
    simp (disch := omega) [-getElem?_pos, b26, h1]
    exact h _ g
  · by_cases h2 : a.2.1 < b.2.2.1
    · by_cases h3 : b.2.1 < a.2.2.1
      · simp only [h1, h2, h3, ne_eq, not_false_eq_true, decide_true, Bool.true_and] at h
        simp (disch := omega) [-getElem?_pos, b26, h1, h2, h3]
        exact h _ g
      · simp only [h1, h2, h3, ne_eq, not_false_eq_true, decide_true, Bool.true_and, decide_false] at h
        simp (disch := omega) [-getElem?_pos, b26, h1, h2, h3]
        exact h _ g
    · simp only [h1, h2, ne_eq, not_false_eq_true, decide_true, Bool.true_and, decide_false, Bool.false_and] at h
      simp (disch := omega) [-getElem?_pos, b26, h1, h2]
      exact h _ g
theorem clash16 {a b : Mt} {m : Mem} {K : KV} (h : ∀ m', m.Grew m' → K (.bool (clL a b)) m') : ACalls Try.prog 16 [.agg (mt a), .agg (mt b)] m K := by
  refine run_on (ctx_nil _) hm c16 (by simp) fun hf => ?_
  have g := (Mem.Grew.new m (.row 4 [mt a] true)).trans (Mem.Grew.new _ (.row 4 [mt b] true))
  unfold clL meets at h
  simp only [mt] at g ⊢
  by_cases h1 : bAnd .u64 a.2.2.2 b.2.2.2 = 0
  · simp only [h1, ne_eq, not_true_eq_false, decide_false, Bool.false_and] at h
    simp (disch := omega) [-getElem?_pos, b16, h1]
    exact h _ g
  · simp only [h1, ne_eq, not_false_eq_true, decide_true, Bool.true_and] at h
    simp (disch := omega) [-getElem?_pos, -decN, -decY, b16, h1]
    exact h _ g
theorem right17 {x : Sp} {m : Mem} {K : KV} (h : ∀ m', m.Grew m' → K (.bool (decide (rt x))) m') : ACalls Try.prog 17 [.agg [.int .i64 x.1, .int .i64 x.2]] m K := by
  refine run_on (ctx_nil _) hm c17 (by simp) fun hf => ?_
  have g := Mem.Grew.new m (.row 2 [[.int .i64 x.1, .int .i64 x.2]] true)
  by_cases h1 : -1152921504606846976 ≤ x.1
  · by_cases h2 : x.2 ≤ 1152921504606846976
    · by_cases h3 : x.1 < x.2
      · rw [decide_eq_true (show rt x from ⟨h1, h2, h3⟩)] at h
        simp (disch := omega) [-getElem?_pos, b17]
        exact h _ g
      · rw [decide_eq_false (show ¬ rt x from fun h => h3 h.2.2)] at h
        simp (disch := omega) [-getElem?_pos, b17]
        exact h _ g
    · rw [decide_eq_false (show ¬ rt x from fun h => h2 h.2.1)] at h
      simp (disch := omega) [-getElem?_pos, b17]
      exact h _ g
  · rw [decide_eq_false (show ¬ rt x from fun h => h1 h.1)] at h
    simp (disch := omega) [-getElem?_pos, b17]
    exact h _ g

/-! ### the order -/

def F40 : AFn
  | [.sl (some (p, 0, 1)) 2 (some 2)], m => match m.obj p with
    | some (.row 1 [[.int .i64 a], [.int .i64 b]] _) => some (.int .i64 (if a = 0 then b else a), m)
    | _ => none
  | _, _ => none
theorem s40 : ASpec Try.prog 40 F40 := by
  intro args m r m' h
  unfold F40 at h; split at h
  case h_2 => cases h
  rename_i p
  split at h
  case h_2 => cases h
  rename_i a b rw ho
  cases h
  refine run_on (ctx_nil _) hm c40 (by simp) fun hf => ?_
  simp (disch := omega) [-getElem?_pos, b40]
  refine exec_loopU (σ := Nat) (fun i => [(8, .int .i64 i)]) (fun _ => m) (fun i => i ≤ 2 ∧ (0 < i → a = 0) ∧ (1 < i → b = 0)) (fun i => 2 - i) 0 rfl ⟨by omega, by omega, by omega⟩ (by simp) ?_
  intro i ⟨a1, a2, a3⟩
  have hi : i = 0 ∨ i = 1 ∨ i = 2 := by omega
  rcases hi with rfl | rfl | rfl
  · by_cases h0 : a = 0
    · subst h0
      simp (disch := omega) [-getElem?_pos, ho]
      exact again_mk 1 ⟨by omega, by omega, by omega⟩ (by omega) (by simp) rfl
    · simp (disch := omega) [-getElem?_pos, ho, h0]
  · obtain rfl := a2 (by omega)
    by_cases h0 : b = 0
    · subst h0
      simp (disch := omega) [-getElem?_pos, ho]
      exact again_mk 2 ⟨by omega, by omega, by omega⟩ (by omega) (by simp) rfl
    · simp (disch := omega) [-getElem?_pos, ho, h0]
  · obtain rfl := a2 (by omega)
    obtain rfl := a3 (by omega)
    simp (disch := omega) [-getElem?_pos, ho]
abbrev L7 : List (FuncId × AFn) := [(40, F40), (37, F37)]
theorem x7 : CtxOk Try.prog (Ctx.of L7) := ctx_cons (ctx_cons (ctx_nil _) s37) s40

def cmpM (a b : Mt) : Int := if cmpI a.2.1 b.2.1 = 0 then cmpI a.1 b.1 else cmpI a.2.1 b.2.1
theorem order24 {a b : Mt} {m : Mem} {K : KV} (h : ∀ m', m.Grew m' → K (.int .i64 (cmpM a b)) m') : ACalls Try.prog 24 [.agg (mt a), .agg (mt b)] m K := by
  refine run_on x7 hm c24 (by simp) fun hf => ?_
  have g := ((Mem.Grew.new m (.row 4 [mt a] true)).trans (Mem.Grew.new _ (.row 4 [mt b] true))).trans (Mem.Grew.new _ (.row 1 [[.int .i64 (cmpI a.2.1 b.2.1)], [.int .i64 (cmpI a.1 b.1)]] true))
  unfold cmpM at h
  simp only [mt] at g ⊢
  by_cases h1 : cmpI a.2.1 b.2.1 = 0
  · rw [if_pos h1] at h
    simp (disch := omega) [-getElem?_pos, b24]
    refine drawT_one ⟨_, _, by simp (disch := omega) [-getElem?_pos, F37, F40, List.range_succ, h1]; exact ⟨rfl, rfl⟩, ?_⟩
    simp (disch := omega) [-getElem?_pos]
    rw [h1] at g
    exact h _ g
  · rw [if_neg h1] at h
    simp (disch := omega) [-getElem?_pos, b24]
    refine drawT_one ⟨_, _, by simp (disch := omega) [-getElem?_pos, F37, F40, List.range_succ, h1]; exact ⟨rfl, rfl⟩, ?_⟩
    simp (disch := omega) [-getElem?_pos]
    exact h _ g
end Go.Proofs.Ytbacmgdlhbfddaa
