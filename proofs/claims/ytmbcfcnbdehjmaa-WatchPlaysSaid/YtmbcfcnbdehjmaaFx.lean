/-
  WHAT EACH FUNCTION of this seat computes, in plain words.
-/
import Derived.Test.YtmbcfcnbdehjmaaCx
namespace Go.Proofs.Ytmbcfcnbdehjmaa
open Go Go.AM
set_option linter.unusedVariables false
set_option linter.unusedSimpArgs false
set_option maxRecDepth 8000
set_option maxHeartbeats 4000000

/-! ### times -/

abbrev far : Int := 4611686018427387903
def clampI (n : Int) : Int := min (max n (-4611686018427387903)) 4611686018427387903
theorem clampI_def (n : Int) : clampI n = min (max n (-4611686018427387903)) 4611686018427387903 := rfl
def addI (a b : Int) : Int := if 4611686018427387903 ≤ a then 4611686018427387903 else clampI (clampI a + clampI b)
def subI (a b : Int) : Int := if 4611686018427387903 ≤ a then 4611686018427387903 else clampI (clampI a - clampI b)

def F20 : AFn
  | [.int .i64 n], m => some (.int .i64 (clampI n), m)
  | _, _ => none
theorem s20 : ASpec Try.prog 20 F20 := by
  intro args m r m' h
  unfold F20 at h; split at h <;> cases h
  refine run_calls (ctx_nil _) hm c20 (by simp) ?_
  simp [b20, clampI]

def F23 : AFn
  | [.int .i64 n], m => some (.bool (decide (4611686018427387903 ≤ n)), m)
  | _, _ => none
theorem s23 : ASpec Try.prog 23 F23 := by
  intro args m r m' h
  unfold F23 at h; split at h <;> cases h
  refine run_calls (ctx_nil _) hm c23 (by simp) ?_
  simp [b23]

abbrev L1 : List (FuncId × AFn) := [(20, F20), (23, F23)]
theorem x1 : CtxOk Try.prog (Ctx.of L1) := ctx_cons (ctx_cons (ctx_nil _) s23) s20

def F21 : AFn
  | [.int .i64 a, .int .i64 b], m => some (.int .i64 (addI a b), m)
  | _, _ => none
theorem s21 : ASpec Try.prog 21 F21 := by
  intro args m r m' h
  unfold F21 at h; split at h <;> cases h
  rename_i a b
  refine run_calls x1 hm c21 (by simp) ?_
  have h1 := clampI_def a
  have h2 := clampI_def b
  by_cases h : 4611686018427387903 ≤ a
  · simp (disch := omega) [b21, F23, addI]
  · simp (disch := omega) [b21, F23, F20, addI]

def F22 : AFn
  | [.int .i64 a, .int .i64 b], m => some (.int .i64 (subI a b), m)
  | _, _ => none
theorem s22 : ASpec Try.prog 22 F22 := by
  intro args m r m' h
  unfold F22 at h; split at h <;> cases h
  rename_i a b
  refine run_calls x1 hm c22 (by simp) ?_
  have h1 := clampI_def a
  have h2 := clampI_def b
  by_cases h : 4611686018427387903 ≤ a
  · simp (disch := omega) [b22, F23, subI]
  · simp (disch := omega) [b22, F23, F20, subI]

abbrev L2 : List (FuncId × AFn) := (21, F21) :: (22, F22) :: L1
theorem x2 : CtxOk Try.prog (Ctx.of L2) := ctx_cons (ctx_cons x1 s22) s21

/-! ### a watch -/

structure Wt where
  now : Int
  total : Int
  lapped : Int
  laps : List Int
  run : Bool

def Wt.new : Wt := ⟨-4611686018427387903, 0, 0, [], false⟩
/-- Time goes on. -/
def reachT (now total : Int) (run : Bool) (t : Int) : Int × Int :=
  (max now (clampI t), if run then addI total (subI (min (max now (clampI t)) 4611686018427387902) (min now 4611686018427387902)) else total)
def Wt.reach (w : Wt) (t : Int) : Wt := { w with now := (reachT w.now w.total w.run t).1, total := (reachT w.now w.total w.run t).2 }

def F16 : AFn
  | [.ptr (some (r, 0, 0)), .int .i64 t], m => (match m.obj r with
    | some (.row 5 [[.int .i64 now, .int .i64 total, .int .i64 lapped, .sl a n c, .bool run]] true) => some (.tup [], m.upd r (some (.row 5 [[.int .i64 (reachT now total run t).1, .int .i64 (reachT now total run t).2, .int .i64 lapped, .sl a n c, .bool run]] true)))
    | _ => none)
  | _, _ => none
theorem s16 : ASpec Try.prog 16 F16 := by
  intro args m r m' h
  unfold F16 at h; split at h
  · split at h <;> cases h
    rename_i r t _ now total lapped a n c run ho
    refine run_calls x2 hm c16 (by simp) ?_
    simp (disch := omega) [b16]
    refine drawT_one ?_
    simp (disch := omega) [ho, F20]
    cases run with
    | false => simp (disch := omega) [reachT, ho]
    | true =>
      simp (disch := omega)
      refine drawT_one ?_
      simp (disch := omega) [ho, F21, F22, reachT]
  · cases h

def F17 : AFn
  | [.ptr none], m => some (.int .i64 1, m)
  | [.ptr (some (r, 0, 0))], m => (match m.obj r with
    | some (.row 5 [[a, b, c, d, .bool run]] _) => some (.int .i64 (if run then 0 else 8), m)
    | _ => none)
  | _, _ => none
theorem s17 : ASpec Try.prog 17 F17 := by
  intro args m r m' h
  unfold F17 at h; split at h
  · cases h
    refine run_calls (ctx_nil _) hm c17 (by simp) ?_
    simp [b17]
  · split at h <;> cases h
    rename_i run _ ho
    refine run_calls (ctx_nil _) hm c17 (by simp) ?_
    cases run <;> simp [b17, ho]
  · cases h

abbrev L3 : List (FuncId × AFn) := (16, F16) :: (17, F17) :: L2
theorem x3 : CtxOk Try.prog (Ctx.of L3) := ctx_cons (ctx_cons x2 s17) s16

/-- A watch, where it lies. -/
structure Watch (m : Mem) (D : List Nat) (r : Nat) (w : Wt) : Prop where
  ex : ∃ a n c, D = r :: (V.sl a n c).fp ∧ r < m.next ∧ m.obj r = some (.row 5 [[.int .i64 w.now, .int .i64 w.total, .int .i64 w.lapped, .sl a n c, .bool w.run]] true) ∧ Ows m 1 (.sl a n c) (rowI .i64 w.laps) ∧ r ∉ (V.sl a n c).fp

theorem Watch.lt {m : Mem} {D : List Nat} {r : Nat} {w : Wt} (h : Watch m D r w) : ∀ p ∈ D, p < m.next := by
  obtain ⟨a, n, c, rfl, h1, h2, h3, h4⟩ := h.ex
  intro p hp
  rcases List.mem_cons.1 hp with rfl | hp
  · exact h1
  · exact h3.lt p hp
theorem Watch.keep {m m' : Mem} {D : List Nat} {r : Nat} {w : Wt} (h : Watch m D r w) (hn : m.next ≤ m'.next) (ho : ∀ p ∈ D, m'.obj p = m.obj p) : Watch m' D r w := by
  obtain ⟨a, n, c, rfl, h1, h2, h3, h4⟩ := h.ex
  exact ⟨a, n, c, rfl, by omega, by rw [ho r (by simp)]; exact h2, h3.keep hn (fun p hp => ho p (by simp [hp])), h4⟩
theorem Watch.grow {m m' : Mem} {D : List Nat} {r : Nat} {w : Wt} (h : Watch m D r w) (hg : m.Grew m') : Watch m' D r w := h.keep hg.next fun p hp => hg.obj p (h.lt p hp)

/-- The watch's own cells are others now. -/
theorem Watch.upd {m : Mem} {a : Option (Nat × Nat × Nat)} {n : Nat} {c : Option Nat} {r : Nat} {w : Wt} (h1 : r < m.next) (h3 : Ows m 1 (.sl a n c) (rowI .i64 w.laps)) (h4 : r ∉ (V.sl a n c).fp) :
    Watch (m.upd r (some (.row 5 [[.int .i64 w.now, .int .i64 w.total, .int .i64 w.lapped, .sl a n c, .bool w.run]] true))) (r :: (V.sl a n c).fp) r w :=
  ⟨a, n, c, rfl, by simpa using h1, by simp, h3.keep (by simp) (fun p hp => updO _ (fun e => h4 (by rw [← e]; exact hp))), h4⟩

theorem new_calls {m : Mem} {K : KV} (h : ∀ r m', Watch m' [r] r Wt.new → m.next ≤ r → m.Grew m' → K (.ptr (some (r, 0, 0))) m') : ACalls Try.prog 7 [] m K := by
  refine run_on x1 hm c7 (by simp) fun hf => ?_
  simp (disch := omega) [b7]
  exact h m.next _ ⟨none, 0, some 0, rfl, by simp, by simp [Wt.new], Ows.nil _ _, by simp [V.fp]⟩ (Nat.le_refl _) (Mem.Grew.new _ _)

/-- Start. -/
theorem start_calls {m : Mem} {D : List Nat} {r : Nat} {w : Wt} (hW : Watch m D r w) {t : Int} {K : KV}
    (h1 : w.run = true → K (.int .i64 8) m)
    (h2 : w.run = false → ∀ m', Watch m' D r { w.reach t with run := true } → Stp m m' D D → K (.int .i64 0) m') : ACalls Try.prog 8 [.ptr (some (r, 0, 0)), .int .i64 t] m K := by
  obtain ⟨a, n, c, rfl, g1, g2, g3, g4⟩ := hW.ex
  refine run_on x3 hm c8 (by simp) fun hf => ?_
  cases hr : w.run with
  | true =>
    rw [hr] at g2
    simp (disch := omega) [b8, g2]
    exact h1 hr
  | false =>
    rw [hr] at g2
    simp (disch := omega) [b8, g2, F16]
    refine h2 hr _ ?_ (Stp.upd _ (by simp) _)
    have := Watch.upd (w := { w.reach t with run := true }) g1 g3 g4
    simp only [Wt.reach, hr] at this ⊢
    exact this

/-- Stop. -/
theorem stop_calls {m : Mem} {D : List Nat} {r : Nat} {w : Wt} (hW : Watch m D r w) {t : Int} {K : KV}
    (h1 : w.run = false → K (.tup [.int .i64 0, .int .i64 8]) m)
    (h2 : w.run = true → ∀ m', Watch m' D r { w.reach t with run := false } → Stp m m' D D → K (.tup [.int .i64 (w.reach t).total, .int .i64 0]) m') : ACalls Try.prog 10 [.ptr (some (r, 0, 0)), .int .i64 t] m K := by
  obtain ⟨a, n, c, rfl, g1, g2, g3, g4⟩ := hW.ex
  refine run_on x3 hm c10 (by simp) fun hf => ?_
  cases hr : w.run with
  | false =>
    rw [hr] at g2
    simp (disch := omega) [b10, g2, F17]
    exact h1 hr
  | true =>
    rw [hr] at g2
    simp (disch := omega) [b10, g2, F16, F17]
    have := h2 hr _ (Watch.upd (w := { w.reach t with run := false }) g1 g3 g4) (Stp.upd _ (by simp) _)
    simp only [Wt.reach, hr] at this
    exact this

/-- Total. -/
theorem total_calls {m : Mem} {D : List Nat} {r : Nat} {w : Wt} (hW : Watch m D r w) {t : Int} {K : KV}
    (h : ∀ m', Watch m' D r (w.reach t) → Stp m m' D D → K (.int .i64 (w.reach t).total) m') : ACalls Try.prog 11 [.ptr (some (r, 0, 0)), .int .i64 t] m K := by
  obtain ⟨a, n, c, rfl, g1, g2, g3, g4⟩ := hW.ex
  refine run_on x3 hm c11 (by simp) fun hf => ?_
  simp (disch := omega) [b11, g2, F16]
  exact h _ (Watch.upd (w := w.reach t) g1 g3 g4) (Stp.upd _ (by simp) _)

/-- Running. -/
theorem running_calls {m : Mem} {D : List Nat} {r : Nat} {w : Wt} (hW : Watch m D r w) {K : KV} (h : K (.bool w.run) m) : ACalls Try.prog 13 [.ptr (some (r, 0, 0))] m K := by
  obtain ⟨a, n, c, rfl, g1, g2, g3, g4⟩ := hW.ex
  refine run_on x3 hm c13 (by simp) fun hf => ?_
  simp (disch := omega) [b13, g2]
  exact h

/-- Laps. -/
theorem laps_calls {m : Mem} {D : List Nat} {r : Nat} {w : Wt} (hW : Watch m D r w) (hl : w.laps.length ≤ 1000) {K : KV}
    (h : ∀ v' m', Ows m' 1 v' (rowI .i64 w.laps) → m.Grew m' → (∀ p ∈ v'.fp, m.next ≤ p) → K v' m') : ACalls Try.prog 12 [.ptr (some (r, 0, 0))] m K := by
  obtain ⟨a, n, c, rfl, g1, g2, g3, g4⟩ := hW.ex
  refine run_on x3 hm c12 (by simp) fun hf => ?_
  simp (disch := omega) [b12, g2]
  refine clone_calls x3 hm c18 (by omega) g3.sl (by rw [rowI_length]; omega) (by rw [rowI_length]; omega) fun v' m' w1 w2 w3 => ?_
  simp (disch := omega)
  exact h v' m' w1 w2 w3

/-- Reset. -/
theorem reset_calls {m : Mem} {D : List Nat} {r : Nat} {w : Wt} (hW : Watch m D r w) {K : KV}
    (h : ∀ m', Watch m' [r] r Wt.new → Stp m m' D [r] → K (.tup []) m') : ACalls Try.prog 15 [.ptr (some (r, 0, 0))] m K := by
  obtain ⟨a, n, c, rfl, g1, g2, g3, g4⟩ := hW.ex
  refine run_on x3 hm c15 (by simp) fun hf => ?_
  simp (disch := omega) [b15]
  refine run_on x1 hm c7 (by simp) fun hf => ?_
  simp (disch := omega) [b7, g2]
  refine h _ ⟨none, 0, some 0, rfl, by simp; omega, by simp [Wt.new], Ows.nil _ _, by simp [V.fp]⟩ ⟨by simp, fun p hp hd => ?_, fun p hp => by simp at hp; simp [hp]⟩
  simp only [List.mem_cons, not_or] at hd
  have := hd.1
  simp (disch := omega)

/-- The least of some numbers. -/
def leastI : List Int → Int
  | [] => 0
  | x :: l => l.foldl min x

theorem foldl_min : ∀ (l : List Int) (x : Int), l.foldl min x ≤ x ∧ (∀ y ∈ l, l.foldl min x ≤ y) ∧ (l.foldl min x = x ∨ l.foldl min x ∈ l)
  | [], x => ⟨Int.le_refl _, by simp, .inl rfl⟩
  | y :: l, x => by
    obtain ⟨h1, h2, h3⟩ := foldl_min l (min x y)
    simp only [List.foldl_cons]
    refine ⟨by omega, fun z hz => ?_, ?_⟩
    · rcases List.mem_cons.1 hz with rfl | hz
      · omega
      · exact h2 z hz
    · rcases h3 with h3 | h3
      · by_cases e : x ≤ y
        · left; omega
        · right; rw [h3]; simp; left; omega
      · right; simp [h3]

theorem min_calls {m : Mem} {v : V} {zs : List Int} (h : Sl m 1 v (rowI .i64 zs)) (hne : zs ≠ []) (hl : zs.length ≤ 1000000) {K : KV} (k : K (.int .i64 (leastI zs)) m) : ACalls Try.prog 19 [v] m K := by
  refine run_on x1 hm c19 (by simp) fun hf => ?_
  have hv := h.lenSl
  rw [rowI_length] at hv
  have hnl := List.length_pos_iff.2 hne
  obtain ⟨p, q, full, rw, b1, b2, b3, b4, b5⟩ := h.at (i := 0) (x := [.int .i64 (nth zs 0)]) (by rw [rowI_get, nth_get hnl]; rfl) .i64
  simp at b1
  simp (disch := omega) [-getElem?_pos, b19, hv, b1, b3, b4]
  refine exec_loopU (σ := Nat) (fun i => [(3, .int .i64 (zs.tail.take i |>.foldl min (nth zs 0))), (4, .int .i64 (i + 1))]) (fun _ => m) (fun i => i + 1 ≤ zs.length) (fun i => zs.length - i) 0 rfl (by omega) (by simp) ?_
  intro i hi
  by_cases hi2 : i + 1 < zs.length
  · obtain ⟨p, q, full, rw, b1, b2, b3, b4, b5⟩ := h.at (i := i + 1) (x := [.int .i64 (nth zs (i + 1))]) (by rw [rowI_get, nth_get hi2]; rfl) .i64
    simp at b1
    simp (disch := omega) [-getElem?_pos, hv, b1, b3, b4]
    have e : zs.tail.take (i + 1) = zs.tail.take i ++ [nth zs (i + 1)] := by
      rw [List.take_add_one, List.getElem?_tail, nth_get hi2]; rfl
    refine again_mk (i + 1) (by omega) (by omega) ?_ rfl
    simp [e, List.foldl_append]
  · have : zs.length = i + 1 := by omega
    have e : zs.tail.take i = zs.tail := List.take_of_length_le (by simp; omega)
    have e2 : leastI zs = zs.tail.foldl min (nth zs 0) := by
      cases zs with
      | nil => exact absurd rfl hne
      | cons z l => rfl
    simp (disch := omega) [hv]
    rw [e, ← e2]; exact k

/-- Best. -/
theorem best_calls {m : Mem} {D : List Nat} {r : Nat} {w : Wt} (hW : Watch m D r w) (hl : w.laps.length ≤ 1000) {K : KV}
    (h : K (.tup [.int .i64 (leastI w.laps), .bool (!w.laps.isEmpty)]) m) : ACalls Try.prog 14 [.ptr (some (r, 0, 0))] m K := by
  obtain ⟨a, n, c, rfl, g1, g2, g3, g4⟩ := hW.ex
  have hv := g3.sl.lenSl
  rw [rowI_length] at hv
  simp only [lenSl_sl, Option.some.injEq, V.int.injEq, true_and] at hv
  refine run_on x3 hm c14 (by simp) fun hf => ?_
  by_cases h0 : w.laps = []
  · rw [h0] at h hv
    simp at hv
    simp (disch := omega) [b14, g2, hv]
    exact h
  · have hnl := List.length_pos_iff.2 h0
    simp (disch := omega) [b14, g2]
    refine min_calls g3.sl h0 (by omega) ?_
    simp (disch := omega)
    have e : (!w.laps.isEmpty) = true := by cases hh : w.laps with
      | nil => exact absurd hh h0
      | cons x l => rfl
    rw [e] at h; exact h

/-- Lap. -/
theorem lap_calls {m : Mem} {D : List Nat} {r : Nat} {w : Wt} (hW : Watch m D r w) (hl : w.laps.length ≤ 1000) {t : Int} (hd : -9223372036854775808 ≤ (w.reach t).total - w.lapped ∧ (w.reach t).total - w.lapped ≤ 9223372036854775807) {K : KV}
    (h1 : w.run = false → K (.tup [.int .i64 0, .int .i64 8]) m)
    (h2 : w.run = true → ∀ m' D', Watch m' D' r { w.reach t with lapped := (w.reach t).total, laps := (w.laps ++ [(w.reach t).total - w.lapped]).drop (w.laps.length + 1 - 1000) } → Stp m m' D D' → K (.tup [.int .i64 ((w.reach t).total - w.lapped), .int .i64 0]) m') :
    ACalls Try.prog 9 [.ptr (some (r, 0, 0)), .int .i64 t] m K := by
  obtain ⟨a, n, c, rfl, g1, g2, g3, g4⟩ := hW.ex
  refine run_on x3 hm c9 (by simp) fun hf => ?_
  cases hr : w.run with
  | false =>
    rw [hr] at g2
    simp (disch := omega) [b9, g2, F17]
    exact h1 hr
  | true =>
    rw [hr] at g2
    replace h2 := h2 hr
    simp only [Wt.reach, hr] at h2 hd
    have hlen := g3.sl.lenSl
    rw [rowI_length] at hlen
    simp (disch := omega) [b9, g2, F16, F17, eltsOf, Mem.elts]
    generalize (reachT w.now w.total true t).1 = NW at *
    generalize (reachT w.now w.total true t).2 = TT at *
    generalize TT - w.lapped = dd at *
    obtain ⟨cut, hcut⟩ : ∃ cut, w.laps.length + 1 - 1000 = cut := ⟨_, rfl⟩
    rw [hcut] at h2
    have g3' := (g3.keep (m' := m.upd r (some (.row 5 [[.int .i64 NW, .int .i64 TT, .int .i64 TT, .sl a n c, .bool true]] true))) (by simp) (fun p hp => updO _ (fun e => g4 (by rw [← e]; exact hp)))).grow (Mem.Grew.new _ (.row 1 [[V.int .i64 dd]] true))
    refine g3'.app (by rw [rowI_length]; omega) (by rw [rowI_length]; omega) fun v1 m1 w1 w2 w3 => ?_
    have hr1 := w2.obj r (by simp; omega) g4
    simp (disch := omega) at hr1
    have hn1 := w2.next
    simp at hn1
    obtain ⟨a1, c1, rfl⟩ := w1.form
    have hrn : r ∉ (V.sl a1 (rowI .i64 w.laps ++ [[V.int .i64 dd]]).length c1).fp := fun e => by
      rcases w2.fp r e with q | q
      · exact g4 q
      · simp at q; omega
    have hll : (rowI .i64 w.laps ++ [[V.int .i64 dd]]).length = w.laps.length + 1 := by simp [rowI_length]
    obtain ⟨w4, q1, q2, q3⟩ := (w1.keep (m' := m1.upd r (some (.row 5 [[.int .i64 NW, .int .i64 TT, .int .i64 TT, .sl a1 (rowI .i64 w.laps ++ [[V.int .i64 dd]]).length c1, .bool true]] true))) (by simp) (fun p hp => updO _ (fun e => hrn (by rw [← e]; exact hp)))).cutL .i64 (cut) (by omega)
    have hmax : max ((w.laps.length : Int) + 1 - 1000) 0 = (cut : Int) := by omega
    obtain ⟨a2, c2, rfl⟩ := q2.form
    generalize ((rowI .i64 w.laps ++ [[V.int .i64 dd]]).drop cut).length = n2 at *
    have hrow : (rowI .i64 w.laps ++ [[V.int .i64 dd]]).drop cut = rowI .i64 ((w.laps ++ [dd]).drop cut) := by
      rw [← rowI_drop]; simp [rowI]
    rw [hrow] at q2
    rw [hll] at q1 q2 q3 hrn ⊢
    simp (disch := omega) [-sliceX_sl, hr1, hmax, q1]
    refine h2 _ (r :: (V.sl a2 n2 c2).fp) ⟨a2, n2, c2, rfl, by simp; omega, by simp, q2.keep (by simp) (fun p hp => ?_), fun e => hrn (q3 r e)⟩ ⟨by simp; omega, fun p hp hd => ?_, fun p hp => ?_⟩
    · have : p ≠ r := fun e => hrn (by rw [← e]; exact q3 p hp)
      simp (disch := omega)
    · simp only [List.mem_cons, not_or] at hd
      have := hd.1
      rw [updO _ this, w2.obj p (by simp; omega) hd.2]
      simp (disch := omega)
    · rcases List.mem_cons.1 hp with rfl | hp
      · exact .inl (by simp)
      · have h5 := q3 p hp
        rw [← hll] at h5
        rcases w2.fp p h5 with q | q
        · exact .inl (by simp [q])
        · right; simp at q; omega

end Go.Proofs.Ytmbcfcnbdehjmaa
