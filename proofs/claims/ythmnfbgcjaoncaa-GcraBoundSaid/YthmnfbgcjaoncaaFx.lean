/-
  WHAT EACH FUNCTION of this seat computes, in plain words.
-/
import Derived.Test.YthmnfbgcjaoncaaCx
namespace Go.Proofs.Ythmnfbgcjaoncaa
open Go Go.AM
set_option linter.unusedVariables false

def clampZ (t : Int) : Int := min (max t (-4611686018427387903)) 4611686018427387903
theorem clamp_in (t : Int) : -4611686018427387903 ≤ clampZ t ∧ clampZ t ≤ 4611686018427387903 := by unfold clampZ; omega

def F15 : AFn
  | [.int .i64 t], m => some (.int .i64 (clampZ t), m)
  | _, _ => none
theorem s15 : ASpec Try.prog 15 F15 := by
  intro args m r m' h
  unfold F15 at h; split at h <;> cases h
  refine run_calls (ctx_nil _) hm c15 (by simp) ?_
  simp [b15, clampZ]

def F17 : AFn
  | [.int .i64 t], m => some (.bool (decide (4611686018427387903 ≤ t)), m)
  | _, _ => none
theorem s17 : ASpec Try.prog 17 F17 := by
  intro args m r m' h
  unfold F17 at h; split at h <;> cases h
  refine run_calls (ctx_nil _) hm c17 (by simp) ?_
  simp [b17]

abbrev L1 : List (FuncId × AFn) := [(17, F17), (15, F15)]
theorem x1 : CtxOk Try.prog (Ctx.of L1) := ctx_cons (ctx_cons (ctx_nil _) s15) s17

def addZ (a b : Int) : Int := if 4611686018427387903 ≤ a then 4611686018427387903 else clampZ (clampZ a + clampZ b)
def subZ (a b : Int) : Int := if 4611686018427387903 ≤ a then 4611686018427387903 else clampZ (clampZ a - clampZ b)

def F14 : AFn
  | [.int .i64 a, .int .i64 b], m => some (.int .i64 (addZ a b), m)
  | _, _ => none
theorem s14 : ASpec Try.prog 14 F14 := by
  intro args m r m' h
  unfold F14 at h; split at h <;> cases h
  rename_i a b
  refine run_calls x1 hm c14 (by simp) ?_
  have h1 := clamp_in a
  have h2 := clamp_in b
  by_cases ha : 4611686018427387903 ≤ a <;> simp (disch := omega) [b14, addZ, F15, F17, ha, IntWalk.i64_in]

def F16 : AFn
  | [.int .i64 a, .int .i64 b], m => some (.int .i64 (subZ a b), m)
  | _, _ => none
theorem s16 : ASpec Try.prog 16 F16 := by
  intro args m r m' h
  unfold F16 at h; split at h <;> cases h
  rename_i a b
  refine run_calls x1 hm c16 (by simp) ?_
  have h1 := clamp_in a
  have h2 := clamp_in b
  by_cases ha : 4611686018427387903 ≤ a <;> simp (disch := omega) [b16, subZ, F15, F17, ha, IntWalk.i64_in]

abbrev L2 : List (FuncId × AFn) := (16, F16) :: (14, F14) :: L1
theorem x2 : CtxOk Try.prog (Ctx.of L2) := ctx_cons (ctx_cons x1 s14) s16

/-- A gate, as it lies. -/
abbrev gate (gap slack turn now : Int) : AM.Obj := .row 4 [[.int .i64 gap, .int .i64 slack, .int .i64 turn, .int .i64 now]] true

def F12 : AFn
  | [.ptr (some (r, 0, 0)), .int .i64 t], m => (match m.obj r with
    | some (.row 4 [[.int .i64 gap, .int .i64 slack, .int .i64 turn, .int .i64 now]] true) => some (.tup [], m.upd r (some (gate gap slack turn (max now (clampZ t)))))
    | _ => none)
  | _, _ => none
theorem s12 : ASpec Try.prog 12 F12 := by
  intro args m r m' h
  unfold F12 at h; split at h
  · split at h <;> cases h
    rename_i ho
    refine run_calls x2 hm c12 (by simp) ?_
    simp [b12, ho, F15]
    exact ⟨_, rfl⟩
  · cases h

def earlyZ (slack turn now : Int) : Int := max (subZ (subZ turn slack) now) 0

def F13 : AFn
  | [.ptr (some (r, 0, 0))], m => (match m.obj r with
    | some (.row 4 [[.int .i64 gap, .int .i64 slack, .int .i64 turn, .int .i64 now]] true) => some (.int .i64 (earlyZ slack turn now), m)
    | _ => none)
  | _, _ => none
theorem s13 : ASpec Try.prog 13 F13 := by
  intro args m r m' h
  unfold F13 at h; split at h
  · split at h <;> cases h
    rename_i ho
    refine run_calls x2 hm c13 (by simp) ?_
    simp [b13, ho, F16, earlyZ]
  · cases h

abbrev L3 : List (FuncId × AFn) := (13, F13) :: (12, F12) :: L2
theorem x3 : CtxOk Try.prog (Ctx.of L3) := ctx_cons (ctx_cons x2 s12) s13

def F6 : AFn
  | [.int .i64 gap, .int .i64 slack], m => if gap < 1 ∨ 1099511627776 < gap ∨ slack < 0 ∨ 1125899906842624 < slack then some (.ptr none, m) else some (.ptr (some (m.next, 0, 0)), m.new (gate gap slack 0 (-4611686018427387903)))
  | _, _ => none
theorem s6 : ASpec Try.prog 6 F6 := by
  intro args m r m' h
  unfold F6 at h; split at h
  · refine run_calls x3 hm c6 (by simp) ?_
    split at h <;> cases h <;> rename_i h
    · simp [b6]
      omega
    · simp only [not_or] at h
      simp [b6, h]
  · cases h


abbrev gateAt (m : Mem) (r : Nat) (gap slack turn now : Int) : Prop := m.obj r = some (gate gap slack turn now)

/-- One event: may it pass? What is the turn then, and the last time? -/
def passZ (gap slack turn now t : Int) : Bool × Int × Int :=
  if 0 < earlyZ slack turn (max now (clampZ t)) then (false, turn, max now (clampZ t)) else (true, addZ (max turn (max now (clampZ t))) gap, max now (clampZ t))

def F7 : AFn
  | [.ptr none, .int .i64 t], m => some (.bool false, m)
  | [.ptr (some (r, 0, 0)), .int .i64 t], m => (match m.obj r with
    | some (.row 4 [[.int .i64 gap, .int .i64 slack, .int .i64 turn, .int .i64 now]] true) =>
      some (.bool (passZ gap slack turn now t).1, m.upd r (some (gate gap slack (passZ gap slack turn now t).2.1 (passZ gap slack turn now t).2.2)))
    | _ => none)
  | _, _ => none
theorem s7 : ASpec Try.prog 7 F7 := by
  intro args m r m' h
  unfold F7 at h; split at h
  · cases h
    refine run_calls x3 hm c7 (by simp) ?_
    simp [b7]
  · split at h <;> cases h
    rename_i t _ gap slack turn now ho
    refine run_calls x3 hm c7 (by simp) ?_
    by_cases h1 : 0 < earlyZ slack turn (max now (clampZ t)) <;> simp [b7, ho, F12, F13, F14, passZ, h1]
  · cases h

def F8 : AFn
  | [.ptr none], m => some (.int .i64 0, m)
  | [.ptr (some (r, 0, 0))], m => (match m.obj r with
    | some (.row 4 [[.int .i64 gap, .int .i64 slack, .int .i64 turn, .int .i64 now]] true) => if 1 ≤ gap ∧ 0 ≤ slack ∧ slack ≤ 1125899906842624 then some (.int .i64 (slack / gap + 1), m) else none
    | _ => none)
  | _, _ => none
theorem s8 : ASpec Try.prog 8 F8 := by
  intro args m r m' h
  unfold F8 at h; split at h
  · cases h
    refine run_calls x3 hm c8 (by simp) ?_
    simp [b8]
  · split at h
    · split at h <;> cases h
      rename_i gap slack turn now ho hb
      refine run_calls x3 hm c8 (by simp) ?_
      have h0 : gap ≠ 0 := by omega
      have h1 := IntWalk.tdiv_le slack gap (by omega) (by omega)
      simp [b8, ho, h0]
      rw [IntWalk.i64_quo _ _ (by omega), IntWalk.i64_in _ (by omega)]
    · cases h
  · cases h

def F9 : AFn
  | [.ptr none, .int .i64 t], m => some (.int .i64 4611686018427387903, m)
  | [.ptr (some (r, 0, 0)), .int .i64 t], m => (match m.obj r with
    | some (.row 4 [[.int .i64 gap, .int .i64 slack, .int .i64 turn, .int .i64 now]] true) =>
      some (.int .i64 (earlyZ slack turn (max now (clampZ t))), m.upd r (some (gate gap slack turn (max now (clampZ t)))))
    | _ => none)
  | _, _ => none
theorem s9 : ASpec Try.prog 9 F9 := by
  intro args m r m' h
  unfold F9 at h; split at h
  · cases h
    refine run_calls x3 hm c9 (by simp) ?_
    simp [b9]
  · split at h <;> cases h
    rename_i t _ gap slack turn now ho
    refine run_calls x3 hm c9 (by simp) ?_
    simp [b9, ho, F12, F13]
  · cases h

def F11 : AFn
  | [.ptr none], m => some (.int .i64 0, m)
  | [.ptr (some (r, 0, 0))], m => (match m.obj r with
    | some (.row 4 [[.int .i64 gap, .int .i64 slack, .int .i64 turn, .int .i64 now]] true) => some (.int .i64 turn, m)
    | _ => none)
  | _, _ => none
theorem s11 : ASpec Try.prog 11 F11 := by
  intro args m r m' h
  unfold F11 at h; split at h
  · cases h
    refine run_calls x3 hm c11 (by simp) ?_
    simp [b11]
  · split at h <;> cases h
    rename_i ho
    refine run_calls x3 hm c11 (by simp) ?_
    simp [b11, ho]
  · cases h

abbrev L4 : List (FuncId × AFn) := (7, F7) :: L3
theorem x4 : CtxOk Try.prog (Ctx.of L4) := ctx_cons x3 s7

/-- Many of them: how many passed; the turn and the time behind. -/
def manyZ (gap slack t : Int) : Nat → Int → Int → Int → Int × Int × Int
  | 0, turn, now, passed => (passed, turn, now)
  | n + 1, turn, now, passed =>
    if (passZ gap slack turn now t).1 = true then manyZ gap slack t n (passZ gap slack turn now t).2.1 (passZ gap slack turn now t).2.2 (passed + 1)
    else (passed, (passZ gap slack turn now t).2.1, (passZ gap slack turn now t).2.2)

def F10 : AFn
  | [.ptr none, .int .i64 t, .int .i64 n], m => some (.int .i64 0, m)
  | [.ptr (some (r, 0, 0)), .int .i64 t, .int .i64 n], m => (match m.obj r with
    | some (.row 4 [[.int .i64 gap, .int .i64 slack, .int .i64 turn, .int .i64 now]] true) =>
      some (.int .i64 (manyZ gap slack t (min (max n 0) 4096).toNat turn now 0).1,
        m.upd r (some (gate gap slack (manyZ gap slack t (min (max n 0) 4096).toNat turn now 0).2.1 (manyZ gap slack t (min (max n 0) 4096).toNat turn now 0).2.2)))
    | _ => none)
  | _, _ => none

theorem s10 : ASpec Try.prog 10 F10 := by
  intro args m r m' h
  unfold F10 at h; split at h
  · cases h
    rename_i t n
    refine run_calls x4 hm c10 (by simp) ?_
    simp [b10]
    refine exec_loop (σ := Unit) (fun s => ((((Env.none.put (some 11) (.int .i64 0)).put (some 10) (.int .i64 (min (max n 0) 4096))).put (some 7) (.int .i64 0)).put (some 1) (.int .i64 t)).put (some 0) (.ptr none)) (fun _ => m) (fun _ => True) (fun _ => 0) ?_ trivial (s := ()) ?_
    · intro s _
      by_cases h : 0 < min (max n 0) 4096 <;> simp [F7, h]
    · simp
  · split at h <;> cases h
    rename_i r t n _ gap slack turn now ho
    refine run_calls x4 hm c10 (by simp) ?_
    generalize hL : min (max n 0) 4096 = L
    have hL0 : 0 ≤ L ∧ L ≤ 4096 := by omega
    simp [b10, hL]
    conv => arg 4; rw [← upd_same ho]
    refine exec_loop (σ := Int × Int × Int × Int) (fun (i, p, _, _) => ((((Env.none.put (some 11) (.int .i64 i)).put (some 10) (.int .i64 L)).put (some 7) (.int .i64 p)).put (some 1) (.int .i64 t)).put (some 0) (.ptr (some (r, 0, 0))))
      (fun (_, _, tu, no) => m.upd r (some (gate gap slack tu no)))
      (fun (i, p, tu, no) => 0 ≤ i ∧ i ≤ L ∧ 0 ≤ p ∧ p ≤ i ∧ manyZ gap slack t L.toNat turn now 0 = manyZ gap slack t (L - i).toNat tu no p) (fun (i, _, _, _) => (L - i).toNat) ?_ (s := (0, 0, turn, now)) ?_ ?_
    · intro (i, p, tu, no) ⟨h1, h2, h3, h4, h5⟩
      by_cases h : i < L
      · obtain ⟨q, hq⟩ : ∃ q, (L - i).toNat = q + 1 := ⟨(L - i).toNat - 1, by omega⟩
        have hq2 : (L - (i + 1)).toNat = q := by omega
        rw [hq, manyZ] at h5
        by_cases hp : (passZ gap slack tu no t).1 = true
        · simp [F7, h, hp, IntWalk.i64_in (p + 1) (by omega), IntWalk.i64_in (i + 1) (by omega)]
          rw [if_pos hp] at h5
          exact ⟨i + 1, p + 1, _, _, ⟨by omega, by omega, by omega, by omega, by rw [hq2]; exact h5⟩, by omega, rfl, rfl⟩
        · simp [F7, h, hp]
          rw [if_neg hp] at h5
          rw [h5]
          simp
      · have : (L - i).toNat = 0 := by omega
        rw [this, manyZ] at h5
        simp [h, h5]
    · simp; omega
    · simp
  · cases h

end Go.Proofs.Ythmnfbgcjaoncaa
