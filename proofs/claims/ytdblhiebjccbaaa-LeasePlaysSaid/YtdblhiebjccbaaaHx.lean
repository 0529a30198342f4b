/-
  WHAT ELSE IS DONE AT A DESK, in plain words.
-/
import Derived.Test.YtdblhiebjccbaaaGx
namespace Go.Proofs.Ytdblhiebjccbaaa
open Go Go.AM
set_option linter.unusedVariables false
set_option linter.unusedSimpArgs false
set_option maxRecDepth 8000
set_option maxHeartbeats 4000000

theorem take_nil {m : Mem} {now th who long : Int} {K : KV} (h : ∀ m', m.Grew m' → K (.tup [hd0.v, .int .i64 1]) m') : ACalls Try.prog 9 [.ptr none, .int .i64 now, .int .i64 th, .int .i64 who, .int .i64 long] m K := by
  refine run_on x1 hm c9 (by simp) fun hf => ?_
  simp (disch := omega) [-getElem?_pos, b9]
  refine at_nil ?_
  simp (disch := omega) [-getElem?_pos, F16]
  exact h _ (Mem.Grew.new m _)
theorem take_bad {m : Mem} {r : Nat} {now th who long : Int} (hb : who < 1 ∨ long < 1 ∨ 1099511627776 < long ∨ th < 0 ∨ 256 ≤ th) {K : KV} (h : ∀ m', m.Grew m' → K (.tup [hd0.v, .int .i64 2]) m') : ACalls Try.prog 9 [.ptr (some (r, 0, 0)), .int .i64 now, .int .i64 th, .int .i64 who, .int .i64 long] m K := by
  refine run_on x1 hm c9 (by simp) fun hf => ?_
  by_cases h1 : who < 1
  · simp (disch := omega) [-getElem?_pos, b9]
    exact h _ (Mem.Grew.new m _)
  by_cases h2 : long < 1
  · simp (disch := omega) [-getElem?_pos, b9]
    exact h _ (Mem.Grew.new m _)
  by_cases h3 : 1099511627776 < long
  · simp (disch := omega) [-getElem?_pos, b9]
    exact h _ (Mem.Grew.new m _)
  simp (disch := omega) [-getElem?_pos, b9]
  refine at_none (by omega) ?_
  simp (disch := omega) [-getElem?_pos, F16]
  exact h _ (Mem.Grew.new m _)

/-! ### Renew -/

def Dk.renew (D : Dk) (now : Int) (i : Nat) (tok long : Int) : Dk × Hd × Int :=
  let D := D.tick now
  if D.held i = false ∨ (D.h i).tok ≠ tok then (D, hd0, 7)
  else
    let x : Hd := {D.h i with en := max (D.h i).en (addT D.now long)}
    ({D with h := fun j => if j = i then x else D.h j}, x, 0)

theorem renew_calls {m : Mem} {r : Nat} {D : Dk} (hD : Desk m r D) {now tok long : Int} {i : Nat} (hi : i < 256) (hlo : 1 ≤ long) (hlo2 : long ≤ 1099511627776) {K : KV}
    (h : ∀ m', Desk m' r (D.renew now i tok long).1 → Stp m m' [r] [r] → K (.tup [(D.renew now i tok long).2.1.v, .int .i64 (D.renew now i tok long).2.2]) m') : ACalls Try.prog 10 [.ptr (some (r, 0, 0)), .int .i64 now, .int .i64 i, .int .i64 tok, .int .i64 long] m K := by
  refine run_on x1 hm c10 (by simp) fun hf => ?_
  have hlt := hD.lt
  simp (disch := omega) [-getElem?_pos, b10]
  refine at_calls (hD.new1 _) hi fun M hM sM => ?_
  have hn : (m.new (.row 3 [[.int .i64 0, .int .i64 0, .int .i64 0]] true)).next = m.next + 1 := by simp
  have oc : M.obj m.next = some (.row 3 [[.int .i64 0, .int .i64 0, .int .i64 0]] true) := by rw [sM.obj _ (by simp) (by simp; omega)]; simp
  have sn := sM.next
  rw [hn] at sn
  unfold Dk.renew at h
  dsimp only at h
  obtain ⟨D', eD⟩ : ∃ D', D.tick now = D' := ⟨_, rfl⟩
  rw [eD] at h hM
  obtain ⟨cs, o1, o2⟩ := hM.obj
  have hl := o2.len
  have e1 := o2.c1
  have et := o2.ct i hi
  have ee := o2.ce i hi
  have fin : ∀ o, Desk (M.upd m.next (some o)) r D' ∧ Stp m (M.upd m.next (some o)) [r] [r] := fun o =>
    ⟨hM.keep (by simp) (by simp; omega), ⟨by simp; omega, fun p hp h2 => by
      simp at h2
      rw [updO _ (by omega), sM.obj p (by simp; omega) (by simpa using h2), newO _ (by omega)], fun p hp => .inl hp⟩⟩
  simp (disch := omega) [-getElem?_pos]
  refine held_calls hM hi ?_
  cases hh : D'.held i with
  | false =>
    rw [if_pos (.inl hh)] at h
    simp (disch := omega) [-getElem?_pos, oc]
    exact h _ (fin _).1 (fin _).2
  | true =>
    simp only [hh, Bool.true_eq_false, false_or] at h
    by_cases ht : (D'.h i).tok = tok
    · rw [if_neg (by simpa using ht)] at h
      simp (disch := omega) [-getElem?_pos, o1, et]
      have hc := o2.en hi (max (D'.h i).en (addT D'.now long))
      obtain ⟨cs2, ec2⟩ : ∃ c, cs.set (2 + i * 3 + 2) (V.int .i64 (max (D'.h i).en (addT D'.now long))) = c := ⟨_, rfl⟩
      rw [ec2] at hc
      have hl1 := hc.len
      have e4 := hc.part hi
      simp only [if_true] at e4
      refine drawT_one ⟨_, _, by simp (disch := omega) [-getElem?_pos, o1, hl, e1, ee, F18, spl, ec2]; exact ⟨rfl, rfl⟩, ?_⟩
      simp (disch := omega) [-getElem?_pos, hl1, e4, oc]
      refine h _ ⟨?_, ?_⟩ ?_
      · simp; omega
      · refine ⟨cs2, ?_, hc⟩
        simp
        omega
      · refine ⟨by simp; omega, fun p hp h2 => ?_, fun p hp => .inl hp⟩
        simp at h2
        rw [updO _ (by omega), updO _ (by omega), sM.obj p (by simp; omega) (by simpa using h2), newO _ (by omega)]
    · rw [if_pos (by simpa using ht)] at h
      simp (disch := omega) [-getElem?_pos, o1, et, oc]
      exact h _ (fin _).1 (fin _).2
theorem renew_bad {m : Mem} {r : Nat} {now th tok long : Int} (hb : long < 1 ∨ 1099511627776 < long ∨ th < 0 ∨ 256 ≤ th) {K : KV} (h : ∀ m', m.Grew m' → K (.tup [hd0.v, .int .i64 2]) m') : ACalls Try.prog 10 [.ptr (some (r, 0, 0)), .int .i64 now, .int .i64 th, .int .i64 tok, .int .i64 long] m K := by
  refine run_on x1 hm c10 (by simp) fun hf => ?_
  by_cases h2 : long < 1
  · simp (disch := omega) [-getElem?_pos, b10]
    exact h _ (Mem.Grew.new m _)
  by_cases h3 : 1099511627776 < long
  · simp (disch := omega) [-getElem?_pos, b10]
    exact h _ (Mem.Grew.new m _)
  simp (disch := omega) [-getElem?_pos, b10]
  refine at_none (by omega) ?_
  simp (disch := omega) [-getElem?_pos, F16]
  exact h _ (Mem.Grew.new m _)

/-! ### Give -/

def Dk.give (D : Dk) (now : Int) (i : Nat) (tok : Int) : Dk × Int :=
  let D := D.tick now
  if D.held i = false ∨ (D.h i).tok ≠ tok then (D, 7)
  else ({D with g := fun j => if j = i then true else D.g j}, 0)

theorem give_calls {m : Mem} {r : Nat} {D : Dk} (hD : Desk m r D) {now tok : Int} {i : Nat} (hi : i < 256) {K : KV}
    (h : ∀ m', Desk m' r (D.give now i tok).1 → Stp m m' [r] [r] → K (.int .i64 (D.give now i tok).2) m') : ACalls Try.prog 11 [.ptr (some (r, 0, 0)), .int .i64 now, .int .i64 i, .int .i64 tok] m K := by
  refine run_on x1 hm c11 (by simp) fun hf => ?_
  have hlt := hD.lt
  simp (disch := omega) [-getElem?_pos, b11]
  refine at_calls hD hi fun M hM sM => ?_
  unfold Dk.give at h
  dsimp only at h
  obtain ⟨D', eD⟩ : ∃ D', D.tick now = D' := ⟨_, rfl⟩
  rw [eD] at h hM
  obtain ⟨cs, o1, o2⟩ := hM.obj
  have hl := o2.len
  have et := o2.ct i hi
  simp (disch := omega) [-getElem?_pos]
  refine held_calls hM hi ?_
  cases hh : D'.held i with
  | false =>
    rw [if_pos (.inl hh)] at h
    simp (disch := omega) [-getElem?_pos]
    exact h _ hM sM
  | true =>
    simp only [hh, Bool.true_eq_false, false_or] at h
    by_cases ht : (D'.h i).tok = tok
    · rw [if_neg (by simpa using ht)] at h
      have hc := o2.give hi true
      simp (disch := omega) [-getElem?_pos, o1, et, hl, spl]
      exact h _ ⟨by simpa using hM.lt, _, by rw [upd_obj, if_pos rfl], hc⟩ (sM.trans (Stp.upd M (by simp) _))
    · rw [if_pos (by simpa using ht)] at h
      simp (disch := omega) [-getElem?_pos, o1, et]
      exact h _ hM sM
theorem give_bad {m : Mem} {r : Nat} {now th tok : Int} (hb : th < 0 ∨ 256 ≤ th) {K : KV} (h : K (.int .i64 2) m) : ACalls Try.prog 11 [.ptr (some (r, 0, 0)), .int .i64 now, .int .i64 th, .int .i64 tok] m K := by
  refine run_on x1 hm c11 (by simp) fun hf => ?_
  simp (disch := omega) [-getElem?_pos, b11]
  refine at_none (by omega) ?_
  simp (disch := omega) [-getElem?_pos, F16]
  exact h

/-! ### what is told -/

theorem see_held {D : Dk} {i : Nat} (h : D.held i = true) : D.see i = D.h i := by unfold Dk.see; rw [if_pos h]
theorem see_not {D : Dk} {i : Nat} (h : D.held i = false) : D.see i = hd0 := by unfold Dk.see; rw [if_neg (by rw [h]; simp)]

theorem right_calls {m : Mem} {r : Nat} {D : Dk} (hD : Desk m r D) {now tok : Int} {i : Nat} (hi : i < 256) {K : KV}
    (h : ∀ m', Desk m' r (D.tick now) → Stp m m' [r] [r] → K (.bool ((D.tick now).held i && decide (((D.tick now).h i).tok = tok))) m') : ACalls Try.prog 12 [.ptr (some (r, 0, 0)), .int .i64 now, .int .i64 i, .int .i64 tok] m K := by
  refine run_on x1 hm c12 (by simp) fun hf => ?_
  simp (disch := omega) [-getElem?_pos, b12]
  refine of_calls hD hi fun M hM sM => ?_
  cases hh : (D.tick now).held i with
  | false =>
    rw [hh] at h
    rw [see_not hh]
    simp (disch := omega) [-getElem?_pos, Hd.v, Hd.cs]
    exact h _ (hM.new1 _) (sM.trans (Stp.new _ _ _))
  | true =>
    rw [hh] at h
    simp only [Bool.true_and] at h
    rw [see_held hh]
    simp (disch := omega) [-getElem?_pos, Hd.v, Hd.cs]
    exact h _ (hM.new1 _) (sM.trans (Stp.new _ _ _))

theorem tick_tick (D : Dk) (now : Int) : (D.tick now).tick now = D.tick now := by simp only [Dk.tick, Dk.mk.injEq, true_and, and_true]; omega

/-- The things that are held. -/
def heldL (D : Dk) (n : Nat) : List Int := ((List.range n).filter D.held).map fun (i : Nat) => (i : Int)
theorem heldL_succ (D : Dk) (n : Nat) : heldL D (n + 1) = heldL D n ++ (if D.held n = true then [(n : Int)] else []) := by
  unfold heldL
  rw [List.range_succ, List.filter_append, List.map_append]
  congr 1
  cases h : D.held n <;> simp [h]
theorem heldL_le (D : Dk) (n : Nat) : (heldL D n).length ≤ n := by
  unfold heldL
  rw [List.length_map]
  exact Nat.le_trans (List.length_filter_le _ _) (by simp)

theorem heldS_calls {m : Mem} {r : Nat} {D : Dk} (hD : Desk m r D) {now : Int} {K : KV}
    (h : ∀ v m', Desk m' r (D.tick now) → Stp m m' [r] [r] → Ows m' 1 v (rowI .i64 (heldL (D.tick now) 256)) → K v m') : ACalls Try.prog 8 [.ptr (some (r, 0, 0)), .int .i64 now] m K := by
  refine run_on x1 hm c8 (by simp) fun hf => ?_
  have hlt := hD.lt
  simp (disch := omega) [-getElem?_pos, b8]
  refine exec_loopU (σ := Nat × V × Mem) (fun (i, u, _) => [(5, u), (9, .int .i64 i)]) (fun (_, _, M) => M) (fun (i, u, M) => i ≤ 256 ∧ (∃ D2, Desk M r D2 ∧ D2.tick now = D.tick now ∧ (0 < i → D2 = D.tick now)) ∧ Ows M 1 u (rowI .i64 (heldL (D.tick now) i)) ∧ Stp m M [r] (r :: u.fp) ∧ ∀ p ∈ u.fp, m.next ≤ p) (fun (i, _, _) => 256 - i) (0, .sl none 0 (some 0), m) rfl
    (by dsimp only; exact ⟨by omega, ⟨D, hD, rfl, by omega⟩, Ows.nil _ _, by simpa [V.fp] using Stp.refl m [r], by simp [V.fp]⟩) (by simp) ?_
  intro (i, u, M) ⟨a1, ⟨D2, a2, a3, a4⟩, a5, a6, a7⟩
  by_cases hi : i < 256
  · simp (disch := omega) [-getElem?_pos]
    refine of_calls a2 hi fun M1 hM1 sM1 => ?_
    rw [a3] at hM1 ⊢
    have w1 : Ows M1 1 u (rowI .i64 (heldL (D.tick now) i)) := a5.step sM1 fun p hp he => by simp at hp; subst hp; have := a7 p he; omega
    have t1 : Stp m M1 [r] (r :: u.fp) := a6.trans (sM1.mono (by simp) (by simp +contextual))
    have hll := heldL_le (D.tick now) i
    have hls := heldL_succ (D.tick now) i
    cases hh : (D.tick now).held i with
    | false =>
      rw [hh] at hls
      simp only [Bool.false_eq_true, if_false, List.append_nil] at hls
      rw [see_not hh]
      simp (disch := omega) [-getElem?_pos, Hd.v, Hd.cs]
      refine again_mk (i + 1, u, _) ?_ (by dsimp only; omega) (by simp) rfl
      dsimp only
      exact ⟨by omega, ⟨_, hM1.new1 _, tick_tick _ _, fun _ => rfl⟩, by rw [hls]; exact w1.grow (Mem.Grew.new M1 _), t1.trans (Stp.new _ _ _), a7⟩
    | true =>
      rw [hh] at hls
      simp only [if_true] at hls
      rw [see_held hh]
      simp (disch := omega) [-getElem?_pos, Hd.v, Hd.cs, eltsOf, Mem.elts]
      refine ((w1.grow (Mem.Grew.new M1 _)).grow (Mem.Grew.new _ _)).app (by rw [rowI_length]; omega) (by rw [rowI_length]; omega) fun u' M' w2 w3 w4 => ?_
      simp (disch := omega)
      refine again_mk (i + 1, u', M') ?_ (by dsimp only; omega) (by simp) rfl
      dsimp only
      have hM2 := (hM1.new1 (.row 3 [[.int .i64 ((D.tick now).h i).who, .int .i64 ((D.tick now).h i).tok, .int .i64 ((D.tick now).h i).en]] true)).new1 (.row 1 [[.int .i64 i]] true)
      refine ⟨by omega, ⟨_, hM2.keep w3.next (w3.obj r hM2.lt fun e => by have := a7 r e; omega), tick_tick _ _, fun _ => rfl⟩, by rw [hls, ← rowI_append]; exact w2, ?_, ?_⟩
      · exact (t1.trans ((Stp.new _ _ _).trans (Stp.new _ _ _))).trans (w3.mono (fun p hp => by simp [hp]) fun p hp => by simp at hp; rcases hp with rfl | hp <;> simp [*])
      · exact w3.ge (by simp; have := t1.next; omega) a7
  · have : i = 256 := by omega
    subst this
    have := a4 (by omega)
    subst this
    simp (disch := omega)
    exact h _ _ a2 (a6.mono (by simp) fun p hp => .inl hp) a5

/-- The earliest end of the things that are held. -/
def nextI (D : Dk) : Nat → Int
  | 0 => 4611686018427387903
  | n + 1 => if D.held n = true then min (nextI D n) (D.h n).en else nextI D n

theorem next_calls {m : Mem} {r : Nat} {D : Dk} (hD : Desk m r D) {now : Int} {K : KV}
    (h : ∀ m', Desk m' r (D.tick now) → Stp m m' [r] [r] → K (.int .i64 (nextI (D.tick now) 256)) m') : ACalls Try.prog 13 [.ptr (some (r, 0, 0)), .int .i64 now] m K := by
  refine run_on x1 hm c13 (by simp) fun hf => ?_
  simp (disch := omega) [-getElem?_pos, b13]
  refine exec_loopU (σ := Nat × Mem) (fun (i, _) => [(5, .int .i64 (nextI (D.tick now) i)), (9, .int .i64 i)]) (fun (_, M) => M) (fun (i, M) => i ≤ 256 ∧ (∃ D2, Desk M r D2 ∧ D2.tick now = D.tick now ∧ (0 < i → D2 = D.tick now)) ∧ Stp m M [r] [r]) (fun (i, _) => 256 - i) (0, m) rfl
    (by dsimp only; exact ⟨by omega, ⟨D, hD, rfl, by omega⟩, Stp.refl m [r]⟩) (by simp [nextI]) ?_
  intro (i, M) ⟨a1, ⟨D2, a2, a3, a4⟩, a6⟩
  by_cases hi : i < 256
  · simp (disch := omega) [-getElem?_pos]
    refine of_calls a2 hi fun M1 hM1 sM1 => ?_
    rw [a3] at hM1 ⊢
    cases hh : (D.tick now).held i with
    | false =>
      rw [see_not hh]
      simp (disch := omega) [-getElem?_pos, Hd.v, Hd.cs]
      refine again_mk (i + 1, _) ?_ (by dsimp only; omega) (by simp [nextI, hh]) rfl
      dsimp only
      exact ⟨by omega, ⟨_, hM1.new1 _, tick_tick _ _, fun _ => rfl⟩, (a6.trans sM1).trans (Stp.new _ _ _)⟩
    | true =>
      rw [see_held hh]
      simp (disch := omega) [-getElem?_pos, Hd.v, Hd.cs]
      refine again_mk (i + 1, _) ?_ (by dsimp only; omega) (by simp [nextI, hh]) rfl
      dsimp only
      exact ⟨by omega, ⟨_, hM1.new1 _, tick_tick _ _, fun _ => rfl⟩, (a6.trans sM1).trans (Stp.new _ _ _)⟩
  · have : i = 256 := by omega
    subst this
    have := a4 (by omega)
    subst this
    simp (disch := omega)
    exact h _ a2 a6
theorem next_nil {m : Mem} {now : Int} {K : KV} (h : ∀ m', m.Grew m' → K (.int .i64 4611686018427387903) m') : ACalls Try.prog 13 [.ptr none, .int .i64 now] m K := by
  refine run_on x1 hm c13 (by simp) fun hf => ?_
  simp (disch := omega) [-getElem?_pos, b13]
  refine exec_loopU (σ := Nat × Mem) (fun (i, _) => [(5, .int .i64 4611686018427387903), (9, .int .i64 i)]) (fun (_, M) => M) (fun (i, M) => i ≤ 256 ∧ m.Grew M) (fun (i, _) => 256 - i) (0, m) rfl
    (by dsimp only; exact ⟨by omega, Mem.Grew.refl m⟩) (by simp) ?_
  intro (i, M) ⟨a1, a2⟩
  by_cases hi : i < 256
  · simp (disch := omega) [-getElem?_pos]
    refine of_nil fun M1 g1 => ?_
    simp (disch := omega) [-getElem?_pos, hd0, Hd.v, Hd.cs]
    refine again_mk (i + 1, _) ?_ (by dsimp only; omega) (by simp) rfl
    dsimp only
    exact ⟨by omega, (a2.trans g1).trans (Mem.Grew.new _ _)⟩
  · have : i = 256 := by omega
    subst this
    simp (disch := omega)
    exact h _ a2
end Go.Proofs.Ytdblhiebjccbaaa
