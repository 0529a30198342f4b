/-
  HOW ITEMS COMPARE; an empty row sorted.
-/
import Derived.Test.YtkpdpdpilggcfaaHx
import Derived.Test.YtkpdpdpilggcfaaAm27
namespace Go.Proofs.Ytkpdpdpilggcfaa
open Go Go.AM
set_option linter.unusedVariables false
set_option linter.unusedSimpArgs false
set_option maxRecDepth 60000
set_option maxHeartbeats 4000000

def cmpI (a b : Int) : Int := if a < b then -1 else if b < a then 1 else 0
def F29 : AFn
  | [.int .i64 _], m => some (.bool false, m)
  | _, _ => none
theorem s29 : ASpec Try.prog 29 F29 := by
  intro args m r m' h
  unfold F29 at h; split at h <;> cases h
  refine run_on (ctx_nil _) hm c29 (by simp) fun hf => ?_
  simp [b29]
abbrev L2 : List (FuncId × AFn) := [(29, F29)]
theorem x2 : CtxOk Try.prog (Ctx.of L2) := ctx_cons (ctx_nil _) s29
def F25 : AFn
  | [.int .i64 a, .int .i64 b], m => some (.int .i64 (cmpI a b), m)
  | _, _ => none
theorem s25 : ASpec Try.prog 25 F25 := by
  intro args m r m' h
  unfold F25 at h; split at h <;> cases h
  rename_i a b
  refine run_on x2 hm c25 (by simp) fun hf => ?_
  unfold cmpI
  by_cases h1 : a < b
  · rw [if_pos h1]; simp (disch := omega) [b25, F29]
  · by_cases h2 : b < a
    · rw [if_neg h1, if_pos h2]; simp (disch := omega) [b25, F29]
    · rw [if_neg h1, if_neg h2]; simp (disch := omega) [b25, F29]
abbrev L3 : List (FuncId × AFn) := [(25, F25)]
theorem x3 : CtxOk Try.prog (Ctx.of L3) := ctx_cons (ctx_nil _) s25

def cfT (x y : It) : Int := cmpI x.2.2 y.2.2
def eiT (x : It) : List Int := [x.1, x.2.1, x.2.2]
theorem ec_row (l : List It) : l.map (ecV eiT) = l.map it := rfl
theorem ecT (x : It) : ecV eiT x = [.int .i64 x.1, .int .i64 x.2.1, .int .i64 x.2.2] := rfl
theorem cmp24 (x y : It) {m : Mem} : ACalls Try.prog 24 [.agg (ecV eiT x), .agg (ecV eiT y)] m (fun r _ => r = .int .i64 (cfT x y)) := by
  refine run_on x3 hm c24 (by simp) fun hf => ?_
  simp (disch := omega) [-getElem?_pos, b24, ecT, F25, cfT]
theorem cfT_lt (x y : It) : Go.Proofs.ltOf cfT x y = decide (x.2.2 < y.2.2) := by
  unfold Go.Proofs.ltOf
  rw [decide_eq_decide]
  unfold cfT cmpI
  split
  · omega
  · split <;> omega
theorem swoT : Go.Sort.SWO (Go.Proofs.ltOf cfT) := {
  irrefl x := by rw [cfT_lt]; simp
  trans x y z h1 h2 := by rw [cfT_lt] at *; simp only [decide_eq_true_eq] at *; omega
  ntrans x y z h1 h2 := by rw [cfT_lt] at *; simp only [decide_eq_false_iff_not] at *; omega
  }
theorem befT {x y : It} (h : ¬ cfT y x < 0) : x.2.2 ≤ y.2.2 := by
  have h2 : Go.Proofs.ltOf cfT y x = false := decide_eq_false h
  rw [cfT_lt, decide_eq_false_iff_not] at h2
  omega
theorem len28 (m : Mem) : ACalls Try.prog 28 [.int .u64 0] m (fun r m' => r = .int .i64 0 ∧ m' = m) := reckonR hm codeOk 200 20 (fun β β' vs h => by simpa only [VRs, VR] using h) rfl (by kernel_rfl) _
theorem ins30 {m : Mem} {v : V} {f : V} {K : KV} (h : K (.tup []) m) : ACalls Try.prog 30 [v, .int .i64 0, .int .i64 0, f] m K := by
  refine run_on (ctx_nil _) hm c30 (by simp) fun hf => ?_
  simp (disch := omega) [-getElem?_pos, b30]
  refine exec_loopU (σ := Unit) (fun _ => []) (fun _ => m) (fun _ => True) (fun _ => 0) () rfl trivial (by simp) ?_
  intro _ _
  simp (disch := omega) [-getElem?_pos]
  exact h
theorem pdq27 {m : Mem} {v : V} {f : V} {K : KV} (h : K (.tup []) m) : ACalls Try.prog 27 [v, .int .i64 0, .int .i64 0, .int .i64 0, f] m K := by
  refine run_on (ctx_nil _) hm c27 (by simp) fun hf => ?_
  simp (disch := omega) [-getElem?_pos, b27]
  refine exec_loopU (σ := Unit) (fun _ => []) (fun _ => m) (fun _ => True) (fun _ => 0) () rfl trivial (by simp) ?_
  intro _ _
  simp (disch := omega) [-getElem?_pos]
  refine ins30 ?_
  simp (disch := omega) [-getElem?_pos]
  exact h
theorem sort_none {m : Mem} {v : V} {f : V} (h0 : lenSl v = some (.int .i64 0)) {K : KV} (h : K (.tup []) m) : ACalls Try.prog 23 [v, f] m K := by
  refine run_on (ctx_nil _) hm c23 (by simp) fun hf => ?_
  simp (disch := omega) [-getElem?_pos, b23, h0]
  refine (len28 m).imp fun r m' ⟨e1, e2⟩ => ?_
  subst e1; subst e2
  simp (disch := omega) [-getElem?_pos]
  refine pdq27 ?_
  simp (disch := omega) [-getElem?_pos]
  exact h
end Go.Proofs.Ytkpdpdpilggcfaa
