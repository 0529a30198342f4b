/-
  HOW SPANS, AND EDGES, LIE; an empty row sorted.
-/
import Derived.Test.YtbacmgdlhbfddaaFx
namespace Go.Proofs.Ytbacmgdlhbfddaa
open Go Go.AM
set_option linter.unusedVariables false
set_option linter.unusedSimpArgs false
set_option maxRecDepth 60000
set_option maxHeartbeats 4000000

def cmpI (a b : Int) : Int := if a < b then -1 else if b < a then 1 else 0
def F47 : AFn
  | [.int .i64 _], m => some (.bool false, m)
  | _, _ => none
theorem s47 : ASpec Try.prog 47 F47 := by
  intro args m r m' h
  unfold F47 at h; split at h <;> cases h
  refine run_on (ctx_nil _) hm c47 (by simp) fun hf => ?_
  simp [b47]
abbrev L2 : List (FuncId × AFn) := [(47, F47)]
theorem x2 : CtxOk Try.prog (Ctx.of L2) := ctx_cons (ctx_nil _) s47
def F37 : AFn
  | [.int .i64 a, .int .i64 b], m => some (.int .i64 (cmpI a b), m)
  | _, _ => none
theorem s37 : ASpec Try.prog 37 F37 := by
  intro args m r m' h
  unfold F37 at h; split at h <;> cases h
  rename_i a b
  refine run_on x2 hm c37 (by simp) fun hf => ?_
  unfold cmpI
  by_cases h1 : a < b
  · rw [if_pos h1]; simp (disch := omega) [b37, F47]
  · by_cases h2 : b < a
    · rw [if_neg h1, if_pos h2]; simp (disch := omega) [b37, F47]
    · rw [if_neg h1, if_neg h2]; simp (disch := omega) [b37, F47]
abbrev L3 : List (FuncId × AFn) := [(37, F37)]
theorem x3 : CtxOk Try.prog (Ctx.of L3) := ctx_cons (ctx_nil _) s37

/-! ### spans, by when they begin -/
def cfP (x y : Sp) : Int := cmpI x.1 y.1
def eiP (x : Sp) : List Int := [x.1, x.2]
theorem ec_row (l : List Sp) : l.map (ecV eiP) = rowP l := rfl
theorem ecP (x : Sp) : ecV eiP x = [.int .i64 x.1, .int .i64 x.2] := rfl
theorem cmp25 (x y : Sp) {m : Mem} : ACalls Try.prog 36 [.agg (ecV eiP x), .agg (ecV eiP y)] m (fun r _ => r = .int .i64 (cfP x y)) := by
  refine run_on x3 hm c36 (by simp) fun hf => ?_
  simp (disch := omega) [-getElem?_pos, b36, ecP, F37, cfP]

theorem cfP_lt (x y : Sp) : Go.Proofs.ltOf cfP x y = decide (x.1 < y.1) := by
  unfold Go.Proofs.ltOf
  rw [decide_eq_decide]
  unfold cfP cmpI
  split
  · omega
  · split <;> omega
theorem swoP : Go.Sort.SWO (Go.Proofs.ltOf cfP) := {
  irrefl x := by rw [cfP_lt]; simp
  trans x y z h1 h2 := by rw [cfP_lt] at *; simp only [decide_eq_true_eq] at *; omega
  ntrans x y z h1 h2 := by rw [cfP_lt] at *; simp only [decide_eq_false_iff_not] at *; omega
  }
theorem befP {x y : Sp} (h : ¬ cfP y x < 0) : x.1 ≤ y.1 := by
  have h2 : Go.Proofs.ltOf cfP y x = false := decide_eq_false h
  rw [cfP_lt, decide_eq_false_iff_not] at h2
  omega

/-! ### edges, by when they are -/
/-! ### an empty row -/
theorem len34 (m : Mem) : ACalls Try.prog 44 [.int .u64 0] m (fun r m' => r = .int .i64 0 ∧ m' = m) := reckonR hm codeOk 200 20 (fun β β' vs h => by simpa only [VRs, VR] using h) rfl (by kernel_rfl) _
theorem ins37 {m : Mem} {v : V} {f : V} {K : KV} (h : K (.tup []) m) : ACalls Try.prog 60 [v, .int .i64 0, .int .i64 0, f] m K := by
  refine run_on (ctx_nil _) hm c60 (by simp) fun hf => ?_
  simp (disch := omega) [-getElem?_pos, b60]
  refine exec_loopU (σ := Unit) (fun _ => []) (fun _ => m) (fun _ => True) (fun _ => 0) () rfl trivial (by simp) ?_
  intro _ _
  simp (disch := omega) [-getElem?_pos]
  exact h
theorem pdq33 {m : Mem} {v : V} {f : V} {K : KV} (h : K (.tup []) m) : ACalls Try.prog 46 [v, .int .i64 0, .int .i64 0, .int .i64 0, f] m K := by
  refine run_on (ctx_nil _) hm c46 (by simp) fun hf => ?_
  simp (disch := omega) [-getElem?_pos, b46]
  refine exec_loopU (σ := Unit) (fun _ => []) (fun _ => m) (fun _ => True) (fun _ => 0) () rfl trivial (by simp) ?_
  intro _ _
  simp (disch := omega) [-getElem?_pos]
  refine ins37 ?_
  simp (disch := omega) [-getElem?_pos]
  exact h
theorem sort_none {m : Mem} {v : V} {f : V} (h0 : lenSl v = some (.int .i64 0)) {K : KV} (h : K (.tup []) m) : ACalls Try.prog 35 [v, f] m K := by
  refine run_on (ctx_nil _) hm c35 (by simp) fun hf => ?_
  simp (disch := omega) [-getElem?_pos, b35, h0]
  refine (len34 m).imp fun r m' ⟨e1, e2⟩ => ?_
  subst e1; subst e2
  simp (disch := omega) [-getElem?_pos]
  refine pdq33 ?_
  simp (disch := omega) [-getElem?_pos]
  exact h
end Go.Proofs.Ytbacmgdlhbfddaa
