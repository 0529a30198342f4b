/-
  A CLOCK.
  A SET OF PROCESSORS.
  A SET OF PROCESSORS: of some; the next one.
  AN ENGINE: how it lies; what its clocks tell.
  AN ENGINE: times; it looks ahead.
  AN ENGINE: it looks ahead.
  AN ENGINE: a part of it is turned; a timer is cancelled; a kick.
  AN ENGINE: a kick; a timer is cancelled.
  AN ENGINE: time goes by; a timer comes.
  AN ENGINE: a timer comes.
  AN ENGINE: all that are due fire.
  AN ENGINE: interrupts.
  AN ENGINE: a step of its clock.
  AN ENGINE: a processor comes.
-/
import Derived.Test.YtkcpojagecfcbaaGreatDoorK34
namespace Go.Proofs.YtkcpojagecfcbaaGreatDoor
open Go Go.AM
set_option linter.unusedVariables false
set_option linter.unusedSimpArgs false
set_option maxRecDepth 60000
set_option maxHeartbeats 16000000
structure Clk where
  ctr : Int
  mono : Int
  o1 : Int
  o2 : Int
  asleep : Bool
  slept : Int
  gen : Int
def Clk.cs (C : Clk) : List V := [.int .i64 C.ctr, .int .i64 C.mono, .int .i64 0, .int .i64 C.o1, .int .i64 C.o2, .bool C.asleep, .int .i64 C.slept, .int .i64 C.gen]
abbrev ckO (C : Clk) : AM.Obj := .row 8 [C.cs] true
def Clk.off (C : Clk) : Nat → Int
  | 0 => 0
  | 1 => C.o1
  | _ => C.o2
def Clk.tm (C : Clk) (k : Nat) : Int := C.mono + C.off k
/-- What bounds it all. -/
structure CkOk (C : Clk) : Prop where
  m0 : 0 ≤ C.mono
  s0 : 0 ≤ C.slept
  z0 : 0 ≤ C.o2
  s1 : C.slept ≤ C.ctr
  sum : C.ctr = C.mono + C.o2 + (if C.asleep then C.slept else 0)
  top : C.ctr ≤ 1152921504606846976
  r0 : -1152921504606846976 ≤ C.o1
  r1 : C.o1 - C.o2 ≤ 1152921504606846976
  g0 : -9223372036854775808 ≤ C.gen
  g1 : C.gen ≤ 9223372036854775807
theorem CkOk.rng {C : Clk} (h : CkOk C) : 0 ≤ C.mono ∧ C.mono ≤ 1152921504606846976 ∧ 0 ≤ C.o2 ∧ C.o2 ≤ 1152921504606846976 ∧ 0 ≤ C.slept ∧ C.slept ≤ 1152921504606846976 ∧ 0 ≤ C.ctr ∧ C.ctr ≤ 1152921504606846976 ∧ -1152921504606846976 ≤ C.o1 ∧ C.o1 ≤ 2305843009213693952 := by
  obtain ⟨h1, h2, h3, h4, h5, h6, h7, h8, h9, h10⟩ := h
  split at h5 <;> omega
def Clk.new : Clk := ⟨0, 0, 0, 0, false, 0, 0⟩
theorem ck_new : CkOk Clk.new := ⟨by decide, by decide, by decide, by decide, by decide, by decide, by decide, by decide, by decide, by decide⟩
def Clk.adv (C : Clk) (n : Int) : Clk × Int :=
  if n < 0 ∨ 1152921504606846976 - C.ctr < n then (C, 2)
  else (if C.asleep then { C with ctr := C.ctr + n, slept := C.slept + n } else { C with ctr := C.ctr + n, mono := C.mono + n }, 0)
theorem ck_adv {C : Clk} (h : CkOk C) (n : Int) : CkOk (C.adv n).1 := by
  unfold Clk.adv
  split
  · exact h
  · rename_i c
    obtain ⟨h1, h2, h3, h4, h5, h6, h7, h8, h9, h10⟩ := h
    have c1 : 0 ≤ n := by omega
    cases ha : C.asleep with
    | true =>
      rw [ha] at h5
      simp only [if_true] at h5 ⊢
      exact ⟨h1, by simp; omega, h3, by simp; omega, by simp [ha]; omega, by simp; omega, h7, h8, h9, h10⟩
    | false =>
      rw [ha] at h5
      simp only [Bool.false_eq_true, if_false] at h5 ⊢
      exact ⟨by simp; omega, h2, h3, by simp; omega, by simp [ha]; omega, by simp; omega, h7, h8, h9, h10⟩
/-- Offsets are others; it is told, if they are. -/
def Clk.move (C : Clk) (a b : Int) : Clk := if a = C.o1 ∧ b = C.o2 then C else { C with o1 := a, o2 := b, gen := IntKind.i64.wrap (C.gen + 1) }
def Clk.set (C : Clk) (t : Int) : Clk × Int := if t < 0 ∨ 1152921504606846976 < t then (C, 2) else (C.move (t - C.mono) C.o2, 0)
def Clk.suspend (C : Clk) : Clk × Int := if C.asleep then (C, 8) else ({ C with asleep := true, slept := 0 }, 0)
def Clk.resume (C : Clk) : Clk × Int := if C.asleep then (({ C with asleep := false }).move (C.o1 + C.slept) (C.o2 + C.slept), 0) else (C, 8)
theorem wrap_rng (n : Int) : -9223372036854775808 ≤ IntKind.i64.wrap n ∧ IntKind.i64.wrap n ≤ 9223372036854775807 := by
  unfold IntKind.wrap
  simp [IntKind.signed, IntKind.bits]
  omega
theorem ck_move {C : Clk} (h : CkOk C) {a b : Int} (hb : 0 ≤ b) (hs : C.ctr = C.mono + b + (if C.asleep then C.slept else 0)) (ha : -1152921504606846976 ≤ a) (hab : a - b ≤ 1152921504606846976) : CkOk (C.move a b) := by
  unfold Clk.move
  split
  · exact h
  · exact ⟨h.m0, h.s0, hb, h.s1, hs, h.top, ha, hab, (wrap_rng _).1, (wrap_rng _).2⟩
theorem ck_set {C : Clk} (h : CkOk C) (t : Int) : CkOk (C.set t).1 := by
  have r := h.rng
  unfold Clk.set
  split
  · exact h
  · exact ck_move h h.z0 h.sum (by omega) (by omega)
theorem ck_suspend {C : Clk} (h : CkOk C) : CkOk C.suspend.1 := by
  have r := h.rng
  unfold Clk.suspend
  cases ha : C.asleep with
  | true => exact h
  | false =>
    have hs := h.sum
    rw [ha] at hs
    simp only [Bool.false_eq_true, if_false] at hs ⊢
    exact ⟨h.m0, by simp, h.z0, by simp; omega, by simp; omega, h.top, h.r0, h.r1, h.g0, h.g1⟩
theorem ck_resume {C : Clk} (h : CkOk C) : CkOk C.resume.1 := by
  have r := h.rng
  unfold Clk.resume
  cases ha : C.asleep with
  | false => exact h
  | true =>
    have hs := h.sum
    have hr := h.r1
    rw [ha] at hs
    simp only [if_true] at hs ⊢
    have hz := h.z0
    unfold Clk.move
    split
    · rename_i e
      have e2 : C.o2 + C.slept = C.o2 := e.2
      exact ⟨h.m0, h.s0, h.z0, h.s1, by simp; omega, h.top, h.r0, h.r1, h.g0, h.g1⟩
    · exact ⟨h.m0, h.s0, by simp; omega, h.s1, by simp; omega, h.top, by simp; omega, by simp; omega, (wrap_rng _).1, (wrap_rng _).2⟩
section
variable {m : Mem} {r : Nat} {C : Clk}
theorem cnew23 {K : KV} (hk : K (.ptr (some (m.next, 0, 0))) (m.new (ckO Clk.new))) : ACalls Tryz.prog 23 [] m K := by
  refine run_on xD hm c23 (by simp) fun hf => ?_
  simp (disch := omega) [-getElem?_pos, b23, splice]
  exact hk
def F70 : AFn
  | [.ptr (some _), .int .i64 k], m => some (.bool (decide (0 ≤ k) && decide (k < 3)), m)
  | _, _ => none
theorem s70 : ASpec Tryz.prog 70 F70 := by
  intro args m r m' h
  unfold F70 at h; split at h <;> cases h
  rename_i p k
  refine run_on (ctx_nil _) hm c70 (by simp) fun hf => ?_
  by_cases h1 : 0 ≤ k
  · simp (disch := omega) [b70, h1]
  · simp (disch := omega) [b70, h1]
abbrev LC : List (FuncId × AFn) := [(75, F75), (74, F74), (72, F72), (115, F115), (133, F133), (82, F82), (109, F109), (110, F110), (70, F70)]
theorem xC : CtxOk Tryz.prog (Ctx.of LC) := ctx_cons (ctx_cons (ctx_cons (ctx_cons (ctx_cons (ctx_cons (ctx_cons (ctx_cons (ctx_cons (ctx_nil _) s70) s110) s109) s82) s133) s115) s72) s74) s75
theorem now39 (o : m.obj r = some (ckO C)) (h : CkOk C) {k : Nat} (hk3 : k < 3) {K : KV} (hk : K (.tup [.int .i64 (C.tm k), .bool true]) m) : ACalls Tryz.prog 39 [.ptr (some (r, 0, 0)), .int .i64 k] m K := by
  have rg := h.rng
  refine run_on xC hm c39 (by simp) fun hf => ?_
  unfold ckO Clk.cs at o
  unfold Clk.tm Clk.off at hk
  have hc : k = 0 ∨ k = 1 ∨ k = 2 := by omega
  rcases hc with rfl | rfl | rfl <;>
  · simp (disch := omega) [-getElem?_pos, b39, F70, o]
    simpa using hk
theorem offs108 (o : m.obj r = some (ckO C)) {k : Nat} (hk3 : k < 3) {K : KV} (hk : K (.tup [.int .i64 (C.off k), .bool true]) m) : ACalls Tryz.prog 108 [.ptr (some (r, 0, 0)), .int .i64 k] m K := by
  refine run_on xC hm c108 (by simp) fun hf => ?_
  unfold ckO Clk.cs at o
  unfold Clk.off at hk
  have hc : k = 0 ∨ k = 1 ∨ k = 2 := by omega
  rcases hc with rfl | rfl | rfl <;>
  · simp (disch := omega) [-getElem?_pos, b108, F70, o]
    exact hk
theorem gen62 (o : m.obj r = some (ckO C)) {K : KV} (hk : K (.int .i64 C.gen) m) : ACalls Tryz.prog 62 [.ptr (some (r, 0, 0))] m K := by
  refine run_on xC hm c62 (by simp) fun hf => ?_
  unfold ckO Clk.cs at o
  simp (disch := omega) [-getElem?_pos, b62, o]
  exact hk
theorem adv55 (o : m.obj r = some (ckO C)) (h : CkOk C) {n : Int} {K : KV} (hk : K (.int .i64 (C.adv n).2) (if (C.adv n).2 = 0 then m.upd r (some (ckO (C.adv n).1)) else m)) : ACalls Tryz.prog 55 [.ptr (some (r, 0, 0)), .int .i64 n] m K := by
  have rg := h.rng
  refine run_on xC hm c55 (by simp) fun hf => ?_
  unfold ckO Clk.cs at *
  unfold Clk.adv at hk
  by_cases c1 : n < 0
  · rw [if_pos (.inl c1)] at hk
    simp (disch := omega) [-getElem?_pos, b55, o, c1]
    simpa using hk
  · by_cases c2 : 1152921504606846976 - C.ctr < n
    · rw [if_pos (.inr c2)] at hk
      simp (disch := omega) [-getElem?_pos, b55, o, c1, c2]
      simpa using hk
    · rw [if_neg (by omega)] at hk
      cases ha : C.asleep with
      | true =>
        rw [ha] at o hk
        simp (disch := omega) [-getElem?_pos, b55, o, c1, c2, splice]
        simpa [ha] using hk
      | false =>
        rw [ha] at o hk
        simp (disch := omega) [-getElem?_pos, b55, o, c1, c2, splice]
        simpa [ha] using hk
theorem susp33 (o : m.obj r = some (ckO C)) {K : KV} (hk : K (.int .i64 C.suspend.2) (if C.suspend.2 = 0 then m.upd r (some (ckO C.suspend.1)) else m)) : ACalls Tryz.prog 33 [.ptr (some (r, 0, 0))] m K := by
  refine run_on xC hm c33 (by simp) fun hf => ?_
  unfold ckO Clk.cs at *
  unfold Clk.suspend at hk
  cases ha : C.asleep with
  | true =>
    rw [ha] at o hk
    simp (disch := omega) [-getElem?_pos, b33, o]
    simpa using hk
  | false =>
    rw [ha] at o hk
    simp (disch := omega) [-getElem?_pos, b33, o, splice]
    simpa using hk
theorem only_up {m X : Mem} (g : m.Grew X) (r : Nat) (o : AM.Obj) : Only m r o (X.upd r (some o)) := ⟨g.next, fun p hp h => (updO _ h).trans (g.obj p hp), by simp⟩
theorem move63 (o : m.obj r = some (ckO C)) (hr : r < m.next) {a b : Int} {K : KV} (hk : ∀ M, Only m r (ckO (C.move a b)) M → K (.tup []) M) : ACalls Tryz.prog 63 [.ptr (some (r, 0, 0)), .agg [.int .i64 0, .int .i64 a, .int .i64 b]] m K := by
  refine run_on xC hm c63 (by simp) fun hf => ?_
  unfold ckO Clk.cs at *
  unfold Clk.move at hk
  have g := Mem.Grew.new m (.row 3 [[.int .i64 0, .int .i64 a, .int .i64 b]] true)
  by_cases c : a = C.o1 ∧ b = C.o2
  · rw [if_pos c] at hk
    obtain ⟨rfl, rfl⟩ := c
    simp (disch := omega) [-getElem?_pos, b63, o]
    exact hk _ ⟨g.next, fun p hp _ => g.obj p hp, (g.obj r hr).trans o⟩
  · rw [if_neg c] at hk
    by_cases c1 : a = C.o1
    · have c2 : ¬ b = C.o2 := fun q => c ⟨c1, q⟩
      subst c1
      have e2 : (b == C.o2) = false := by simpa using c2
      simp (disch := omega) [-getElem?_pos, b63, o, e2, splice]
      exact hk _ (only_up g r _)
    · have e1 : (a == C.o1) = false := by simpa using c1
      cases e2 : (b == C.o2) with
      | true =>
        simp (disch := omega) [-getElem?_pos, b63, o, e1, e2, splice]
        exact hk _ (only_up g r _)
      | false =>
        simp (disch := omega) [-getElem?_pos, b63, o, e1, e2, splice]
        exact hk _ (only_up g r _)
theorem set32 (o : m.obj r = some (ckO C)) (h : CkOk C) (hr : r < m.next) {t : Int} {K : KV} (hk : ∀ M, Only m r (ckO (C.set t).1) M → K (.int .i64 (C.set t).2) M) : ACalls Tryz.prog 32 [.ptr (some (r, 0, 0)), .int .i64 t] m K := by
  have rg := h.rng
  refine run_on xC hm c32 (by simp) fun hf => ?_
  have o' := o
  unfold ckO Clk.cs at o
  unfold Clk.set at hk
  by_cases c1 : t < 0
  · rw [if_pos (.inl c1)] at hk
    simp (disch := omega) [-getElem?_pos, b32, o, c1]
    exact hk _ ⟨Nat.le_refl _, fun _ _ _ => rfl, o'⟩
  · by_cases c2 : 1152921504606846976 < t
    · rw [if_pos (.inr c2)] at hk
      simp (disch := omega) [-getElem?_pos, b32, o, c1, c2]
      exact hk _ ⟨Nat.le_refl _, fun _ _ _ => rfl, o'⟩
    · rw [if_neg (by omega)] at hk
      simp (disch := omega) [-getElem?_pos, b32, o, c1, c2, splice]
      have g := Mem.Grew.new m (.row 3 [[.int .i64 0, .int .i64 (t - C.mono), .int .i64 C.o2]] true)
      refine move63 (C := C) ((g.obj r hr).trans o') (by simp; omega) fun M hO => ?_
      have hn := hO.next
      simp only [new_next] at hn
      simp (disch := omega) [-getElem?_pos]
      exact hk _ ⟨by omega, fun p hp h => (hO.obj p (by simp; omega) h).trans (g.obj p hp), hO.at'⟩
theorem resume34 (o : m.obj r = some (ckO C)) (h : CkOk C) (hr : r < m.next) {K : KV} (hk : ∀ M, Only m r (ckO C.resume.1) M → K (.int .i64 C.resume.2) M) : ACalls Tryz.prog 34 [.ptr (some (r, 0, 0))] m K := by
  have rg := h.rng
  refine run_on xC hm c34 (by simp) fun hf => ?_
  have o' := o
  unfold ckO Clk.cs at o
  unfold Clk.resume at hk
  cases ha : C.asleep with
  | false =>
    rw [ha] at o hk
    simp (disch := omega) [-getElem?_pos, b34, o]
    exact hk _ ⟨Nat.le_refl _, fun _ _ _ => rfl, o'⟩
  | true =>
    rw [ha] at o hk
    simp (disch := omega) [-getElem?_pos, b34, o, splice]
    have gX : ∀ (B : AM.Obj) (o2 : Option AM.Obj), (m.upd r (some (ckO { C with asleep := false }))).Grew (((m.upd r (some (ckO { C with asleep := false }))).new B).upd m.next o2) := fun B o2 => (Mem.Grew.new _ B).upd (Nat.le_refl _) o2
    refine move63 (C := { C with asleep := false }) (((gX _ _).obj r hr).trans (by simp)) (by simp; omega) fun M hO => ?_
    have hn := hO.next
    simp only [new_next, upd_next] at hn
    simp (disch := omega) [-getElem?_pos]
    exact hk _ ⟨by omega, fun p hp h => (hO.obj p (by simp; omega) h).trans (((gX _ _).obj p hp).trans (updO _ h)), hO.at'⟩
end
set_option maxHeartbeats 16000000
theorem of32 (a : Nat) (h : a < 4294967296) : (BitVec.ofInt 32 (a : Int)) = BitVec.ofNat 32 a := by
  apply BitVec.eq_of_toNat_eq
  simp [BitVec.toNat_ofInt]
theorem wrap32 (n : Nat) (h : n < 4294967296) : IntKind.u32.wrap (n : Int) = n := by
  unfold IntKind.wrap
  simp [IntKind.signed, IntKind.bits]
  omega
theorem and32 (a b : Nat) (ha : a < 4294967296) (hb : b < 4294967296) : bAnd .u32 a b = ((a &&& b : Nat) : Int) := by
  show IntKind.u32.wrap (((BitVec.ofInt 32 a) &&& (BitVec.ofInt 32 b)).toNat : Nat) = _
  rw [of32 a ha, of32 b hb, BitVec.toNat_and, BitVec.toNat_ofNat, BitVec.toNat_ofNat, Nat.mod_eq_of_lt ha, Nat.mod_eq_of_lt hb, wrap32 _ (Nat.lt_of_le_of_lt Nat.and_le_left ha)]
theorem or32 (a b : Nat) (ha : a < 4294967296) (hb : b < 4294967296) : bOr .u32 a b = ((a ||| b : Nat) : Int) := by
  show IntKind.u32.wrap (((BitVec.ofInt 32 a) ||| (BitVec.ofInt 32 b)).toNat : Nat) = _
  rw [of32 a ha, of32 b hb, BitVec.toNat_or, BitVec.toNat_ofNat, BitVec.toNat_ofNat, Nat.mod_eq_of_lt ha, Nat.mod_eq_of_lt hb, wrap32 _ (Nat.or_lt_two_pow (n := 32) ha hb)]
theorem and_pow (n k : Nat) : n &&& 2 ^ k = 0 ↔ n.testBit k = false := by
  constructor
  · intro h
    have := congrArg (fun x => x.testBit k) h
    simpa [Nat.testBit_and, Nat.testBit_two_pow_self] using this
  · intro h
    apply Nat.eq_of_testBit_eq
    intro j
    rw [Nat.testBit_and, Nat.testBit_two_pow, Nat.zero_testBit]
    by_cases e : k = j
    · subst e; simp [h]
    · simp [e]
def bitN (i : Int) : Nat := if 0 ≤ i ∧ i < 16 then 2 ^ i.toNat else 0
theorem bitN_lt (i : Int) : bitN i < 65536 := by
  unfold bitN; split
  · rename_i h
    exact Nat.pow_lt_pow_right (by omega) (n := 16) (by omega)
  · omega
def hasM (w : Nat) (i : Int) : Bool := decide (0 ≤ i) && decide (i < 16) && w.testBit i.toNat
theorem hasM_and (w : Nat) (i : Int) : (w &&& bitN i = 0) ↔ hasM w i = false := by
  unfold hasM bitN
  by_cases h : 0 ≤ i ∧ i < 16
  · rw [if_pos h, decide_eq_true h.1, decide_eq_true h.2, and_pow]
    simp
  · rw [if_neg h]
    have : (decide (0 ≤ i) && decide (i < 16)) = false := by
      by_cases h1 : 0 ≤ i
      · rw [decide_eq_false (by omega : ¬ i < 16)]; simp
      · rw [decide_eq_false h1]; rfl
    rw [this]; simp
def F51 : AFn
  | [.int .i64 i], m => some (.int .u32 (bitN i : Nat), m)
  | _, _ => none
theorem s51 : ASpec Tryz.prog 51 F51 := by
  intro args m r m' h
  unfold F51 at h; split at h <;> cases h
  rename_i i
  refine run_on (ctx_nil _) hm c51 (by simp) fun hf => ?_
  unfold bitN
  by_cases h1 : i < 0
  · rw [if_neg (by omega)]
    simp (disch := omega) [b51, h1]
  · by_cases h2 : 16 ≤ i
    · rw [if_neg (by omega)]
      simp (disch := omega) [b51, h1, h2]
    · rw [if_pos (by omega)]
      have hi : i = 0 ∨ i = 1 ∨ i = 2 ∨ i = 3 ∨ i = 4 ∨ i = 5 ∨ i = 6 ∨ i = 7 ∨ i = 8 ∨ i = 9 ∨ i = 10 ∨ i = 11 ∨ i = 12 ∨ i = 13 ∨ i = 14 ∨ i = 15 := by omega
      rcases hi with rfl | rfl | rfl | rfl | rfl | rfl | rfl | rfl | rfl | rfl | rfl | rfl | rfl | rfl | rfl | rfl <;> simp (disch := omega) [b51] <;> rfl
def F64 : AFn
  | [.int .u32 w, .int .i64 i], m => if 0 ≤ w ∧ w < 65536 then some (.bool (hasM w.toNat i), m) else none
  | _, _ => none
abbrev LM0 : List (FuncId × AFn) := [(51, F51)]
theorem xM0 : CtxOk Tryz.prog (Ctx.of LM0) := ctx_cons (ctx_nil _) s51
theorem s64 : ASpec Tryz.prog 64 F64 := by
  intro args m r m' h
  unfold F64 at h; split at h
  case h_2 => cases h
  rename_i w i
  split at h
  case isFalse => cases h
  rename_i hw
  cases h
  obtain ⟨n, rfl⟩ := Int.eq_ofNat_of_zero_le hw.1
  have hn : n < 65536 := by omega
  have hb := bitN_lt i
  refine run_on xM0 hm c64 (by simp) fun hf => ?_
  have ha := and32 n (bitN i) (by omega) (by omega)
  simp (disch := omega) [b64, F51, ha]
  cases hh : hasM n i with
  | false => rw [(hasM_and n i).2 hh]; simp
  | true =>
    have : ¬ (n &&& bitN i = 0) := fun q => by rw [(hasM_and n i).1 q] at hh; cases hh
    simpa using this
/-- All but one. -/
def woM (w : Nat) (i : Int) : Nat := ((BitVec.ofNat 32 w &&& ~~~BitVec.ofNat 32 (bitN i)) &&& BitVec.ofNat 32 65535).toNat
theorem woM_lt (w : Nat) (i : Int) : woM w i < 65536 := by
  unfold woM
  rw [BitVec.toNat_and]
  exact Nat.lt_of_le_of_lt Nat.and_le_right (by decide)
theorem bitN_bit (i j : Nat) (hi : i < 16) : (bitN i).testBit j = decide (i = j) := by
  unfold bitN
  rw [if_pos (by omega), Int.toNat_natCast, Nat.testBit_two_pow]
theorem ones16 (j : Nat) : (65535 : Nat).testBit j = decide (j < 16) := by
  have : (65535 : Nat) = 2 ^ 16 - 1 := by decide
  rw [this, Nat.testBit_two_pow_sub_one]
theorem woM_bit {w : Nat} (hw : w < 65536) {i : Nat} (hi : i < 16) (j : Nat) : (woM w i).testBit j = (w.testBit j && !decide (i = j)) := by
  have hb := bitN_lt i
  unfold woM
  rw [← BitVec.getLsbD, BitVec.getLsbD_and, BitVec.getLsbD_and, BitVec.getLsbD_not, BitVec.getLsbD_ofNat, BitVec.getLsbD_ofNat, BitVec.getLsbD_ofNat, bitN_bit i j hi, ones16]
  by_cases hj : j < 16
  · have : j < 32 := by omega
    simp [hj, this]
  · have : w.testBit j = false := Nat.testBit_lt_two_pow (Nat.lt_of_lt_of_le hw (Nat.pow_le_pow_right (by omega) (by omega) : 2 ^ 16 ≤ 2 ^ j))
    simp [hj, this]
def F92 : AFn
  | [.int .u32 w, .int .i64 i], m => if 0 ≤ w ∧ w < 65536 then some (.int .u32 (woM w.toNat i : Nat), m) else none
  | _, _ => none
theorem s92 : ASpec Tryz.prog 92 F92 := by
  intro args m r m' h
  unfold F92 at h; split at h
  case h_2 => cases h
  rename_i w i
  split at h
  case isFalse => cases h
  rename_i hw
  cases h
  obtain ⟨n, rfl⟩ := Int.eq_ofNat_of_zero_le hw.1
  have hn : n < 65536 := by omega
  have hb := bitN_lt i
  refine run_on xM0 hm c92 (by simp) fun hf => ?_
  have e1 : bAndNot .u32 (n : Int) (bitN i : Nat) = ((BitVec.ofNat 32 n &&& ~~~BitVec.ofNat 32 (bitN i)).toNat : Nat) := by
    show IntKind.u32.wrap (((BitVec.ofInt 32 n) &&& ~~~(BitVec.ofInt 32 (bitN i : Nat))).toNat : Nat) = _
    rw [of32 n (by omega), of32 _ (by omega)]
    exact wrap32 _ (BitVec.isLt _)
  have e2 : bAnd .u32 (((BitVec.ofNat 32 n &&& ~~~BitVec.ofNat 32 (bitN i)).toNat : Nat) : Int) 65535 = (woM n i : Nat) := by
    have := and32 (BitVec.ofNat 32 n &&& ~~~BitVec.ofNat 32 (bitN i)).toNat 65535 (BitVec.isLt _) (by omega)
    rw [show ((65535 : Nat) : Int) = 65535 from rfl] at this
    rw [this]
    unfold woM
    rw [BitVec.toNat_and _ (BitVec.ofNat 32 65535)]
    rfl
  generalize (BitVec.ofNat 32 n &&& ~~~BitVec.ofNat 32 (bitN i)).toNat = X at e1 e2
  simp (disch := omega) [b92, F51, e1, e2]
abbrev LM : List (FuncId × AFn) := [(51, F51), (64, F64), (92, F92)]
theorem xM : CtxOk Tryz.prog (Ctx.of LM) := ctx_cons (ctx_cons (ctx_cons (ctx_nil _) s92) s64) s51
def listM (w n : Nat) : List Nat := (List.range n).filter fun i => w.testBit i
theorem listM_succ (w n : Nat) : listM w (n + 1) = if w.testBit n then listM w n ++ [n] else listM w n := by
  unfold listM
  rw [List.range_succ, List.filter_append]
  cases h : w.testBit n <;> simp [h]
theorem listM_le (w n : Nat) : (listM w n).length ≤ n := by
  unfold listM
  exact Nat.le_trans (List.length_filter_le _ _) (by simp)
theorem list49 {m : Mem} {w : Nat} (hw : w < 65536) {K : KV} (hk : ∀ v M, m.Grew M → Own m.next M 1 v ((listM w 16).map fun i : Nat => [V.int .i64 i]) → K v M) : ACalls Tryz.prog 49 [.int .u32 w] m K := by
  refine run_on xM hm c49 (by simp) fun hf => ?_
  simp (disch := omega) [-getElem?_pos, b49]
  refine exec_loopU (σ := Nat × V × Mem) (fun (i, v, _) => [(5, .int .i64 i), (3, v), (0, .int .u32 w)]) (fun (_, _, M) => M) (fun (i, v, M) => i ≤ 16 ∧ m.Grew M ∧ Own m.next M 1 v ((listM w i).map fun i : Nat => [V.int .i64 i])) (fun (i, _, _) => 16 - i) (0, .sl .none 0 (some 0), m) rfl
    ⟨by omega, Mem.Grew.refl _, Own.none _ _ _⟩ (by simp) ?_
  intro (i, v, M) ⟨a1, a2, a3⟩
  by_cases hi : i < 16
  · have hh : hasM w (i : Int) = w.testBit i := by unfold hasM; rw [decide_eq_true (by omega), decide_eq_true (by omega)]; simp
    have hn := a2.next
    have hle := listM_le w i
    cases hb : w.testBit i with
    | false =>
      rw [hb] at hh
      simp (disch := omega) [-getElem?_pos, F64, hh]
      exact again_mk (i + 1, v, M) ⟨by omega, a2, by rw [listM_succ, hb]; exact a3⟩ (by dsimp only; omega) (by simp) rfl
    | true =>
      rw [hb] at hh
      simp (disch := omega) [-getElem?_pos, F64, hh, splice, eltsOf, Mem.elts]
      refine appendX_own3 a3 (Mem.Grew.new M _) (by omega) (by simp) (by simp; omega) (by simp; omega) fun v' M2 u1 u2 u3 u4 => ?_
      simp (disch := omega) [-getElem?_pos]
      refine again_mk (i + 1, v', M2) ⟨by omega, ⟨by rw [u3]; simp; omega, fun p hp => (u2 p (by simp; omega) (.inl hp)).trans (((Mem.Grew.new M _).obj p (by omega)).trans (a2.obj p hp))⟩, by rw [listM_succ, hb]; simpa using u1⟩ (by dsimp only; omega) (by simp) rfl
  · obtain rfl : i = 16 := by omega
    simp (disch := omega) [-getElem?_pos]
    exact hk _ _ a2 a3
set_option maxHeartbeats 16000000
def ofA (a : Nat) : List Nat → Nat
  | [] => a
  | i :: l => ofA (a ||| bitN i) l
theorem ofA_lt {a : Nat} (l : List Nat) (h : a < 65536) : ofA a l < 65536 := by
  induction l generalizing a with
  | nil => exact h
  | cons i l ih => exact ih (Nat.or_lt_two_pow (n := 16) h (bitN_lt i))
theorem ofA_bit (a : Nat) (l : List Nat) (hl : ∀ i ∈ l, i < 16) (j : Nat) : (ofA a l).testBit j = (a.testBit j || decide (j ∈ l)) := by
  induction l generalizing a with
  | nil => simp [ofA]
  | cons i l ih =>
    unfold ofA
    rw [ih _ fun k hk => hl k (by simp [hk]), Nat.testBit_or, bitN_bit i j (hl i (by simp))]
    by_cases e : i = j
    · subst e; simp
    · have e2 : ¬ j = i := fun q => e q.symm
      simp [e, e2]
theorem ofA_get (a : Nat) (l : List Nat) (k : Nat) (hk : k < l.length) : ofA a (l.take (k + 1)) = ofA a (l.take k) ||| bitN l[k] := by
  induction l generalizing a k with
  | nil => simp at hk
  | cons i l ih =>
    cases k with
    | zero => simp [ofA]
    | succ k =>
      simp only [List.take_succ_cons, ofA, List.getElem_cons_succ]
      exact ih _ k (by simpa using hk)
theorem of25 {m : Mem} {v : V} {l : List Nat} (h : Sl m 1 v (l.map fun i : Nat => [V.int .i64 i])) (hl : l.length < 1000) {K : KV} (hk : K (.int .u32 (ofA 0 l : Nat)) m) : ACalls Tryz.prog 25 [v] m K := by
  refine run_on xM hm c25 (by simp) fun hf => ?_
  have hlen := h.lenSl
  rw [List.length_map] at hlen
  simp (disch := omega) [-getElem?_pos, b25, hlen]
  refine exec_loopU (σ := Nat) (fun i => [(8, .int .i64 i), (7, .int .i64 l.length), (6, v), (3, .int .u32 (ofA 0 (l.take i) : Nat))]) (fun _ => m) (fun i => i ≤ l.length) (fun i => l.length - i) 0 rfl (by omega) (by simp [ofA]) ?_
  intro i a1
  by_cases hi : i < l.length
  · obtain ⟨p, q, full, rw', c1, c2, c3, c4, _⟩ := h.at (i := i) (x := [V.int .i64 (l[i] : Nat)]) (by simp [hi]) .i64
    have ho := or32 (ofA 0 (l.take i)) (bitN l[i]) (by have := ofA_lt (a := 0) (l.take i) (by omega); omega) (by have := bitN_lt l[i]; omega)
    simp (disch := omega) [-getElem?_pos, c1, c2, c3, c4, F51, ho]
    exact again_mk (i + 1) (by omega) (by omega) (by rw [ofA_get 0 l i hi]; simp) rfl
  · obtain rfl : i = l.length := by omega
    rw [List.take_length]
    simp (disch := omega) [-getElem?_pos]
    exact hk
set_option maxHeartbeats 16000000
/-- A processor. -/
structure Cp where
  Q : Nat → List Tmr
  D : Dev
  raised : Bool
  kicked : Bool
/-- An engine: so many processors, a clock, who is online, and where which timer is. -/
structure Eng where
  n : Nat
  C : Clk
  c : Nat → Cp
  on : Nat
  wh : List (Int × Nat)
structure CA where
  o : Nat
  d : Nat
  b : BA
def CA.all (a : CA) : List Nat := a.o :: a.d :: a.b.all
structure EA where
  e : Nat
  k : Nat
  q : Nat
  w : Nat
  c : Nat → CA
def EA.all (a : EA) (n : Nat) : List Nat := [a.e, a.k, a.q, a.w] ++ (List.range n).flatMap fun i => (a.c i).all
theorem EA.mem {a : EA} {n p : Nat} : p ∈ a.all n ↔ (p = a.e ∨ p = a.k ∨ p = a.q ∨ p = a.w) ∨ ∃ i, i < n ∧ p ∈ (a.c i).all := by
  unfold EA.all
  simp only [List.mem_append, List.mem_cons, List.not_mem_nil, or_false, List.mem_flatMap, List.mem_range]
theorem CA.mem {a : CA} {p : Nat} : p ∈ a.all ↔ p = a.o ∨ p = a.d ∨ p ∈ a.b.all := by
  unfold CA.all; simp only [List.mem_cons]
def whV (l : List (Int × Nat)) : List (Int × V) := l.map fun x => (x.1, .int .i64 x.2)
abbrev cpO (a : CA) (c : Cp) : AM.Obj := .row 4 [[.ptr (some (a.b.o, 0, 0)), .ptr (some (a.d, 0, 0)), .bool c.raised, .bool c.kicked]] true
abbrev enO (a : EA) (E : Eng) : AM.Obj := .row 4 [[.ptr (some (a.k, 0, 0)), .sl (some (a.q, 0, 1)) E.n none, .int .u32 E.on, .map (some a.w)]] true
/-- All names are of different things. -/
structure Apart (a : EA) (n : Nat) : Prop where
  ek : a.e ≠ a.k
  eq : a.e ≠ a.q
  ew : a.e ≠ a.w
  kq : a.k ≠ a.q
  kw : a.k ≠ a.w
  qw : a.q ≠ a.w
  s : ∀ i, i < n → ∀ p ∈ (a.c i).all, p ≠ a.e ∧ p ≠ a.k ∧ p ≠ a.q ∧ p ≠ a.w
  od : ∀ i, i < n → (a.c i).o ≠ (a.c i).d
  ob : ∀ i, i < n → (a.c i).o ∉ (a.c i).b.all
  db : ∀ i, i < n → (a.c i).d ∉ (a.c i).b.all
  ij : ∀ i j, i < n → j < n → i ≠ j → ∀ p ∈ (a.c i).all, p ∉ (a.c j).all
/-- A processor lies here. -/
structure CpR (m : Mem) (a : CA) (c : Cp) : Prop where
  o : m.obj a.o = some (cpO a c)
  d : m.obj a.d = some (dvO c.D)
  b : Bas m a.b c.Q
  lo : a.o < m.next
  ld : a.d < m.next
structure EngR (m : Mem) (a : EA) (E : Eng) : Prop where
  oe : m.obj a.e = some (enO a E)
  ok : m.obj a.k = some (ckO E.C)
  oq : m.obj a.q = some (.row 1 ((List.range E.n).map fun i => [V.ptr (some ((a.c i).o, 0, 0))]) true)
  ow : ∃ g, m.obj a.w = some (.map (mapI (whV E.wh)) g)
  c : ∀ i, i < E.n → CpR m (a.c i) (E.c i)
  ap : Apart a E.n
  lt : a.e < m.next ∧ a.k < m.next ∧ a.q < m.next ∧ a.w < m.next
section
variable {m m' : Mem} {a : EA} {E : Eng}
theorem CpR.lts {a : CA} {c : Cp} (h : CpR m a c) : ∀ p ∈ a.all, p < m.next := fun p hp => by
  rcases CA.mem.1 hp with rfl | rfl | hp
  · exact h.lo
  · exact h.ld
  · exact h.b.lts p hp
theorem CpR.keep {a : CA} {c : Cp} (h : CpR m a c) (hn : m.next ≤ m'.next) (ho : ∀ p ∈ a.all, m'.obj p = m.obj p) : CpR m' a c :=
  ⟨by rw [ho _ (CA.mem.2 (.inl rfl))]; exact h.o, by rw [ho _ (CA.mem.2 (.inr (.inl rfl)))]; exact h.d, h.b.keep hn fun p hp => ho p (CA.mem.2 (.inr (.inr hp))), by have := h.lo; omega, by have := h.ld; omega⟩
theorem EngR.lts (h : EngR m a E) : ∀ p ∈ a.all E.n, p < m.next := fun p hp => by
  obtain ⟨l1, l2, l3, l4⟩ := h.lt
  rcases EA.mem.1 hp with (rfl | rfl | rfl | rfl) | ⟨i, hi, hp⟩
  · exact l1
  · exact l2
  · exact l3
  · exact l4
  · exact (h.c i hi).lts p hp
theorem EngR.keep (h : EngR m a E) (hn : m.next ≤ m'.next) (ho : ∀ p ∈ a.all E.n, m'.obj p = m.obj p) : EngR m' a E := by
  obtain ⟨l1, l2, l3, l4⟩ := h.lt
  obtain ⟨g, hw⟩ := h.ow
  exact ⟨by rw [ho _ (EA.mem.2 (.inl (.inl rfl)))]; exact h.oe, by rw [ho _ (EA.mem.2 (.inl (.inr (.inl rfl))))]; exact h.ok, by rw [ho _ (EA.mem.2 (.inl (.inr (.inr (.inl rfl)))))]; exact h.oq, ⟨g, by rw [ho _ (EA.mem.2 (.inl (.inr (.inr (.inr rfl)))))]; exact hw⟩,
    fun i hi => (h.c i hi).keep hn fun p hp => ho p (EA.mem.2 (.inr ⟨i, hi, hp⟩)), h.ap, ⟨by omega, by omega, by omega, by omega⟩⟩
theorem EngR.grow (h : EngR m a E) (hg : m.Grew m') : EngR m' a E := h.keep hg.next fun p hp => hg.obj p (h.lts p hp)
def F57 : AFn
  | [.ptr (some (r, 0, 0))], m => match m.obj r with
    | some (.row 4 [[.ptr (some (k, 0, 0)), _, _, _]] _) => match m.obj k with
      | some (.row 8 [[_, .int .i64 n, .int .i64 0, _, _, _, _, _]] _) => if -4611686018427387904 ≤ n ∧ n ≤ 4611686018427387904 then some (.int .i64 n, m) else none
      | _ => none
    | _ => none
  | _, _ => none
theorem s57 : ASpec Tryz.prog 57 F57 := by
  intro args m r m' h
  unfold F57 at h; split at h
  case h_2 => cases h
  split at h
  case h_2 => cases h
  rename_i ho
  split at h
  case h_2 => cases h
  rename_i hk
  split at h
  case isFalse => cases h
  rename_i hn
  cases h
  refine run_on xC hm c57 (by simp) fun hf => ?_
  simp (disch := omega) [-getElem?_pos, b57, ho]
  refine run_on xC hm c39 (by simp) fun hf => ?_
  simp (disch := omega) [-getElem?_pos, b39, F70, hk]
end
set_option maxHeartbeats 16000000
section
variable {m m' : Mem} {a : EA} {E : Eng}
def upto3 (f : Nat → Int) (i k : Nat) : Int := if k < i then f k else 0
theorem times84 (h : EngR m a E) (hC : CkOk E.C) {K : KV} (hk : ∀ M, m.Grew M → K (.tup [.agg (t3 E.C.tm), .agg (t3 E.C.off)]) M) : ACalls Tryz.prog 84 [.ptr (some (a.e, 0, 0))] m K := by
  refine run_on xC hm c84 (by simp) fun hf => ?_
  simp (disch := omega) [-getElem?_pos, b84]
  obtain ⟨M1, hM1⟩ : ∃ M1, (m.new (.row 3 [[.int .i64 0, .int .i64 0, .int .i64 0]] true)).new (.row 3 [[.int .i64 0, .int .i64 0, .int .i64 0]] true) = M1 := ⟨_, rfl⟩
  have g1 : m.Grew M1 := hM1 ▸ (Mem.Grew.new _ _).trans (Mem.Grew.new _ _)
  have o1 : M1.obj m.next = some (.row 3 [[.int .i64 0, .int .i64 0, .int .i64 0]] true) := by rw [← hM1]; simp
  have o2 : M1.obj (m.next + 1) = some (.row 3 [[.int .i64 0, .int .i64 0, .int .i64 0]] true) := by rw [← hM1]; simp
  have hn1 : M1.next = m.next + 1 + 1 := by rw [← hM1]; simp
  rw [hM1]
  refine exec_loopU (σ := Nat × Mem) (fun (i, _) => [(5, .int .i64 i), (3, .ptr (some (m.next + 1, 0, 0))), (2, .ptr (some (m.next, 0, 0))), (0, .ptr (some (a.e, 0, 0)))]) (fun (_, M) => M)
    (fun (i, M) => i ≤ 3 ∧ m.Grew M ∧ M.next = M1.next ∧ M.obj m.next = some (.row 3 [t3 (upto3 E.C.tm i)] true) ∧ M.obj (m.next + 1) = some (.row 3 [t3 (upto3 E.C.off i)] true)) (fun (i, _) => 3 - i) (0, M1) rfl ⟨by omega, g1, rfl, o1, o2⟩ (by simp) ?_
  intro (i, M) ⟨a1, a2, a3, a4, a5⟩
  have hE := h.grow a2
  have oe := hE.oe
  have ok := hE.ok
  have hi : i = 0 ∨ i = 1 ∨ i = 2 ∨ i = 3 := by omega
  obtain ⟨l1, l2, l3, l4⟩ := h.lt
  have fin : ∀ (i : Nat), i < 3 → ∀ l1 l2, l1 = t3 (upto3 E.C.tm (i + 1)) → l2 = t3 (upto3 E.C.off (i + 1)) → m.Grew ((M.upd m.next (some (.row 3 [l1] true))).upd (m.next + 1) (some (.row 3 [l2] true))) ∧ ((M.upd m.next (some (.row 3 [l1] true))).upd (m.next + 1) (some (.row 3 [l2] true))).next = M1.next ∧ ((M.upd m.next (some (.row 3 [l1] true))).upd (m.next + 1) (some (.row 3 [l2] true))).obj m.next = some (.row 3 [t3 (upto3 E.C.tm (i + 1))] true) ∧ ((M.upd m.next (some (.row 3 [l1] true))).upd (m.next + 1) (some (.row 3 [l2] true))).obj (m.next + 1) = some (.row 3 [t3 (upto3 E.C.off (i + 1))] true) :=
    fun i _ l1 l2 e1 e2 => ⟨(a2.upd (Nat.le_refl _) _).upd (by omega) _, a3, by rw [updO _ (by omega), e1]; simp, by rw [e2]; simp⟩
  rcases hi with rfl | rfl | rfl | rfl
  · simp (disch := omega) [-getElem?_pos, oe]
    refine now39 (k := 0) ok hC (by omega) ?_
    simp (disch := omega) [-getElem?_pos, oe, a4, splice]
    refine offs108 (k := 0) (C := E.C) (by rw [updO _ (by omega)]; exact ok) (by omega) ?_
    simp (disch := omega) [-getElem?_pos, a5, splice]
    exact again_mk (1, _) ⟨by omega, fin 0 (by omega) _ _ (by simp [upto3]) (by simp [upto3])⟩ (by dsimp only; omega) (by simp) rfl
  · simp (disch := omega) [-getElem?_pos, oe]
    refine now39 (k := 1) ok hC (by omega) ?_
    simp (disch := omega) [-getElem?_pos, oe, a4, splice]
    refine offs108 (k := 1) (C := E.C) (by rw [updO _ (by omega)]; exact ok) (by omega) ?_
    simp (disch := omega) [-getElem?_pos, a5, splice]
    exact again_mk (2, _) ⟨by omega, fin 1 (by omega) _ _ (by simp [upto3]) (by simp [upto3])⟩ (by dsimp only; omega) (by simp) rfl
  · simp (disch := omega) [-getElem?_pos, oe]
    refine now39 (k := 2) ok hC (by omega) ?_
    simp (disch := omega) [-getElem?_pos, oe, a4, splice]
    refine offs108 (k := 2) (C := E.C) (by rw [updO _ (by omega)]; exact ok) (by omega) ?_
    simp (disch := omega) [-getElem?_pos, a5, splice]
    exact again_mk (3, _) ⟨by omega, fin 2 (by omega) _ _ (by simp [upto3]) (by simp [upto3])⟩ (by dsimp only; omega) (by simp) rfl
  · have e1 : t3 (upto3 E.C.tm 3) = t3 E.C.tm := by simp [t3, upto3]
    have e2 : t3 (upto3 E.C.off 3) = t3 E.C.off := by simp [t3, upto3]
    rw [e1] at a4
    rw [e2] at a5
    simp (disch := omega) [-getElem?_pos, a4, a5]
    refine drawT_one ⟨_, _, by simp (disch := omega) [-getElem?_pos, a4, a5, splice]; exact ⟨rfl, rfl⟩, ?_⟩
    simp (disch := omega) [-getElem?_pos, splice]
    exact hk _ ((a2.upd (Nat.le_refl _) _).upd (by omega) _)
end
set_option maxHeartbeats 16000000
abbrev LE : List (FuncId × AFn) := [(75, F75), (74, F74), (72, F72), (115, F115), (133, F133), (82, F82), (109, F109), (110, F110), (70, F70), (51, F51), (64, F64), (92, F92), (57, F57)]
theorem xE : CtxOk Tryz.prog (Ctx.of LE) := ctx_cons (ctx_cons (ctx_cons (ctx_cons (ctx_cons (ctx_cons (ctx_cons (ctx_cons (ctx_cons (ctx_cons (ctx_cons (ctx_cons (ctx_cons (ctx_nil _) s57) s92) s64) s51) s70) s110) s109) s82) s133) s115) s72) s74) s75
def lookD (C : Clk) (c : Cp) : Dev := (c.D.sooner C.mono (nextB c.Q C.off (!c.raised) 6)).1
section
variable {m m' : Mem} {a : EA} {E : Eng}
theorem look53 (h : EngR m a E) (hC : CkOk E.C) {i : Nat} (hi : i < E.n) {K : KV} (hk : ∀ M, Only m (a.c i).d (dvO (lookD E.C (E.c i))) M → K (.tup []) M) : ACalls Tryz.prog 53 [.ptr (some (a.e, 0, 0)), .ptr (some ((a.c i).o, 0, 0))] m K := by
  refine run_on xE hm c53 (by simp) fun hf => ?_
  simp (disch := omega) [-getElem?_pos, b53]
  refine times84 h hC fun M g => ?_
  simp (disch := omega) [-getElem?_pos, splice]
  obtain ⟨M1, hM1⟩ : ∃ M1, (M.new (.row 3 [t3 E.C.tm] true)).new (.row 3 [t3 E.C.off] true) = M1 := ⟨_, rfl⟩
  have gM := (Mem.Grew.new M (.row 3 [t3 E.C.tm] true)).trans (Mem.Grew.new _ (.row 3 [t3 E.C.off] true))
  have g1 : m.Grew M1 := hM1 ▸ g.trans gM
  have o5 : M1.obj (M.next + 1) = some (.row 3 [t3 E.C.off] true) := by rw [← hM1]; simp
  rw [hM1]
  have h1 := h.grow g1
  have hc := h1.c i hi
  have oe1 := h1.oe
  have ok1 := h1.ok
  have oc1 := hc.o
  have od1 := hc.d
  have ld := (h.c i hi).ld
  have rg := hC.rng
  unfold ckO Clk.cs at ok1
  refine drawT_J (fun _ M' => Only m (a.c i).d (dvO (lookD E.C (E.c i))) M') ?_ fun e' M' hJ => by simp (disch := omega) [-getElem?_pos]; exact hk _ hJ
  have two : ∀ {K1 : KV}, (∀ M', Only m (a.c i).d (dvO (lookD E.C (E.c i))) M' → ∀ v, K1 v M') → ∀ M2, M1.Grew M2 → ACalls Tryz.prog 85 [.ptr (some ((a.c i).d, 0, 0)), .int .i64 E.C.mono, .int .i64 (nextB (E.c i).Q E.C.off (!(E.c i).raised) 6)] M2 K1 := by
    intro K1 hK M2 g2
    have gg := g1.trans g2
    refine sooner85 (D := (E.c i).D) ((g2.obj _ (by have := g1.next; omega)).trans od1) ?_
    refine hK _ ?_ _
    unfold lookD
    cases hs : ((E.c i).D.sooner E.C.mono (nextB (E.c i).Q E.C.off (!(E.c i).raised) 6)).2 with
    | true => rw [if_pos rfl]; exact only_up gg _ _
    | false =>
      rw [if_neg (by simp)]
      have e : ((E.c i).D.sooner E.C.mono (nextB (E.c i).Q E.C.off (!(E.c i).raised) 6)).1 = (E.c i).D := by
        revert hs; unfold Dev.sooner; split
        · intro _; rfl
        · intro q; cases q
      rw [e]
      exact ⟨gg.next, fun p hp _ => gg.obj p hp, (gg.obj _ ld).trans (h.c i hi).d⟩
  have one : ∀ {K1 : KV}, (∀ M2, M1.Grew M2 → K1 (.int .i64 (nextB (E.c i).Q E.C.off (!(E.c i).raised) 6)) M2) → ACalls Tryz.prog 86 [.ptr (some ((a.c i).b.o, 0, 0)), .agg (t3 E.C.off), .bool (!(E.c i).raised)] M1 K1 := fun hK => bnext86 hc.b hK
  simp (disch := omega) [-getElem?_pos, oe1, ok1, oc1, o5, F57]
  have lt1 : a.e < M1.next ∧ a.k < M1.next := ⟨h1.lt.1, h1.lt.2.1⟩
  have lo1 := hc.lo
  repeat' first
    | (refine one fun M2 g2 => ?_
       have oe2 := (g2.obj _ lt1.1).trans oe1
       have ok2 := (g2.obj _ lt1.2).trans ok1
       have oc2 := (g2.obj _ lo1).trans oc1
       try simp (disch := omega) [-getElem?_pos, oe2, ok2, oc2, F57]
       refine two (fun M' hJ v => ?_) M2 g2
       simp (disch := omega) [-getElem?_pos]
       exact hJ)
    | refine And.intro ?_ ?_
end
set_option maxHeartbeats 16000000
def upC (f : Nat → Cp) (i : Nat) (c : Cp) : Nat → Cp := fun k => if k = i then c else f k
theorem upC_self (f : Nat → Cp) (i : Nat) (c : Cp) : upC f i c i = c := if_pos rfl
theorem upC_ne (f : Nat → Cp) {i k : Nat} (c : Cp) (h : k ≠ i) : upC f i c k = f k := if_neg h
def Eng.setC (E : Eng) (i : Nat) (c : Cp) : Eng := { E with c := upC E.c i c }
def Eng.look (E : Eng) (i : Nat) : Eng := E.setC i { E.c i with D := lookD E.C (E.c i) }
section
variable {m m' : Mem} {a : EA} {E : Eng}
theorem EngR.cp_in (h : EngR m a E) {i : Nat} (hi : i < E.n) {p : Nat} (hp : p ∈ (a.c i).all) : p ∈ a.all E.n := EA.mem.2 (.inr ⟨i, hi, hp⟩)
/-- A processor is turned. -/
theorem EngR.setC (h : EngR m a E) {i : Nat} (hi : i < E.n) {c : Cp} (hc : CpR m' (a.c i) c) (hs : Stp m m' (a.c i).all (a.c i).all) : EngR m' a (E.setC i c) ∧ Stp m m' (a.all E.n) (a.all E.n) := by
  obtain ⟨l1, l2, l3, l4⟩ := h.lt
  obtain ⟨g, hw⟩ := h.ow
  have hn := hs.next
  have ne := h.ap.s i hi
  refine ⟨⟨?_, ?_, ?_, ⟨g, ?_⟩, fun k hk => ?_, h.ap, ⟨by omega, by omega, by omega, by omega⟩⟩, hs.mono (fun p hp => h.cp_in hi hp) fun p hp => .inl hp⟩
  · rw [hs.obj _ l1 fun q => (ne _ q).1 rfl]; exact h.oe
  · rw [hs.obj _ l2 fun q => (ne _ q).2.1 rfl]; exact h.ok
  · rw [hs.obj _ l3 fun q => (ne _ q).2.2.1 rfl]; exact h.oq
  · rw [hs.obj _ l4 fun q => (ne _ q).2.2.2 rfl]; exact hw
  · show CpR m' (a.c k) (upC E.c i c k)
    by_cases e : k = i
    · rw [e, upC_self]; exact hc
    · rw [upC_ne _ _ e]
      exact (h.c k hk).keep hn fun p hp => hs.obj p ((h.c k hk).lts p hp) (h.ap.ij k i hk hi e p hp)
/-- The map of places is turned. -/
theorem EngR.setW (h : EngR m a E) {wh : List (Int × Nat)} {g : List Nat × Nat} : EngR (m.upd a.w (some (.map (mapI (whV wh)) g))) a { E with wh := wh } ∧ Stp m (m.upd a.w (some (.map (mapI (whV wh)) g))) (a.all E.n) (a.all E.n) := by
  have ap := h.ap
  refine ⟨⟨?_, ?_, ?_, ⟨g, by simp⟩, fun k hk => ?_, h.ap, h.lt⟩, Stp.upd _ (EA.mem.2 (.inl (.inr (.inr (.inr rfl))))) _⟩
  · rw [updO _ ap.ew]; exact h.oe
  · rw [updO _ ap.kw]; exact h.ok
  · rw [updO _ ap.qw]; exact h.oq
  · exact (h.c k hk).keep (by simp) fun p hp => updO _ (ap.s k hk p hp).2.2.2
/-- Its clock is turned. -/
theorem EngR.setK (h : EngR m a E) {C : Clk} (hO : Only m a.k (ckO C) m') : EngR m' a { E with C := C } ∧ Stp m m' (a.all E.n) (a.all E.n) := by
  have ap := h.ap
  obtain ⟨l1, l2, l3, l4⟩ := h.lt
  obtain ⟨g, hw⟩ := h.ow
  have hn := hO.next
  refine ⟨⟨?_, hO.at', ?_, ⟨g, ?_⟩, fun k hk => ?_, h.ap, ⟨by omega, by omega, by omega, by omega⟩⟩, ⟨hn, fun p hp hd => hO.obj p hp fun e => hd (EA.mem.2 (.inl (.inr (.inl e)))), fun p hp => .inl hp⟩⟩
  · rw [hO.obj _ l1 ap.ek]; exact h.oe
  · rw [hO.obj _ l3 ap.kq.symm]; exact h.oq
  · rw [hO.obj _ l4 ap.kw.symm]; exact hw
  · exact (h.c k hk).keep hn fun p hp => hO.obj p ((h.c k hk).lts p hp) (ap.s k hk p hp).2.1
/-- Who is online is turned. -/
theorem EngR.setOn (h : EngR m a E) (on : Nat) : EngR (m.upd a.e (some (enO a { E with on := on }))) a { E with on := on } ∧ Stp m (m.upd a.e (some (enO a { E with on := on }))) (a.all E.n) (a.all E.n) := by
  have ap := h.ap
  obtain ⟨g, hw⟩ := h.ow
  refine ⟨⟨by simp, ?_, ?_, ⟨g, ?_⟩, fun k hk => ?_, h.ap, h.lt⟩, Stp.upd _ (EA.mem.2 (.inl (.inl rfl))) _⟩
  · rw [updO _ ap.ek.symm]; exact h.ok
  · rw [updO _ ap.eq.symm]; exact h.oq
  · rw [updO _ ap.ew.symm]; exact hw
  · exact (h.c k hk).keep (by simp) fun p hp => updO _ (ap.s k hk p hp).1
/-- Its device is turned. -/
theorem CpR.dev {a : EA} {n i : Nat} {c : Cp} (h : CpR m (a.c i) c) (ap : Apart a n) (hi : i < n) {D : Dev} (hO : Only m (a.c i).d (dvO D) m') : CpR m' (a.c i) { c with D := D } ∧ Stp m m' (a.c i).all (a.c i).all := by
  have hn := hO.next
  have l1 := h.lo
  have l2 := h.ld
  refine ⟨⟨?_, hO.at', h.b.keep hn fun p hp => hO.obj p (h.b.lts p hp) fun e => ap.db i hi (e ▸ hp), by omega, by omega⟩, ⟨hn, fun p hp hd => hO.obj p hp fun e => hd (CA.mem.2 (.inr (.inl e))), fun p hp => .inl hp⟩⟩
  rw [hO.obj _ l1 (ap.od i hi)]; exact h.o
/-- Its queues are turned. -/
theorem CpR.que {a : EA} {n i : Nat} {c : Cp} (h : CpR m (a.c i) c) (ap : Apart a n) (hi : i < n) {Q : Nat → List Tmr} (hb : Bas m' (a.c i).b Q) (hs : Stp m m' (a.c i).b.all (a.c i).b.all) : CpR m' (a.c i) { c with Q := Q } ∧ Stp m m' (a.c i).all (a.c i).all := by
  have hn := hs.next
  have l1 := h.lo
  have l2 := h.ld
  refine ⟨⟨?_, ?_, hb, by omega, by omega⟩, hs.mono (fun p hp => CA.mem.2 (.inr (.inr hp))) fun p hp => .inl hp⟩
  · rw [hs.obj _ l1 (ap.ob i hi)]; exact h.o
  · rw [hs.obj _ l2 (ap.db i hi)]; exact h.d
/-- Its marks are turned. -/
theorem CpR.marks {a : EA} {n i : Nat} {c : Cp} (h : CpR m (a.c i) c) (ap : Apart a n) (hi : i < n) (r k : Bool) : CpR (m.upd (a.c i).o (some (cpO (a.c i) { c with raised := r, kicked := k }))) (a.c i) { c with raised := r, kicked := k } ∧ Stp m (m.upd (a.c i).o (some (cpO (a.c i) { c with raised := r, kicked := k }))) (a.c i).all (a.c i).all := by
  refine ⟨⟨by simp, ?_, h.b.keep (by simp) fun p hp => updO _ fun e => ap.ob i hi (e ▸ hp), h.lo, h.ld⟩, Stp.upd _ (CA.mem.2 (.inl rfl)) _⟩
  rw [updO _ (ap.od i hi).symm]; exact h.d
theorem elook (h : EngR m a E) (hC : CkOk E.C) {i : Nat} (hi : i < E.n) {K : KV} (hk : ∀ M, EngR M a (E.look i) → Stp m M (a.all E.n) (a.all E.n) → K (.tup []) M) : ACalls Tryz.prog 53 [.ptr (some (a.e, 0, 0)), .ptr (some ((a.c i).o, 0, 0))] m K := by
  refine look53 h hC hi fun M hO => ?_
  obtain ⟨c1, c2⟩ := (h.c i hi).dev h.ap hi hO
  obtain ⟨e1, e2⟩ := h.setC hi c1 c2
  exact hk M e1 e2
end
set_option maxHeartbeats 16000000
def getN : List (Int × Nat) → Int → Option Nat
  | [], _ => none
  | (b, v) :: l, a => if a = b then some v else getN l a
def putN : List (Int × Nat) → Int → Nat → List (Int × Nat)
  | [], a, v => [(a, v)]
  | (b, u) :: l, a, v => if a = b then (b, v) :: l else (b, u) :: putN l a v
def delN : List (Int × Nat) → Int → List (Int × Nat)
  | [], _ => []
  | (b, u) :: l, a => if a = b then l else (b, u) :: delN l a
theorem getI_whV (l : List (Int × Nat)) (k : Int) : getI (whV l) k = (getN l k).map fun i : Nat => V.int .i64 i := by
  induction l with
  | nil => rfl
  | cons x l ih =>
    show (if k = x.1 then some _ else getI (whV l) k) = (if k = x.1 then some x.2 else getN l k).map _
    split
    · rfl
    · exact ih
theorem putI_whV (l : List (Int × Nat)) (k : Int) (i : Nat) : putI (whV l) k (.int .i64 i) = whV (putN l k i) := by
  induction l with
  | nil => rfl
  | cons x l ih =>
    show (if k = x.1 then _ else _ :: putI (whV l) k (.int .i64 i)) = whV (if k = x.1 then (x.1, i) :: l else x :: putN l k i)
    split
    · rfl
    · rw [ih]; rfl
theorem delI_whV (l : List (Int × Nat)) (k : Int) : delI (whV l) k = whV (delN l k) := by
  induction l with
  | nil => rfl
  | cons x l ih =>
    show (if k = x.1 then _ else _ :: delI (whV l) k) = whV (if k = x.1 then l else x :: delN l k)
    split
    · rfl
    · rw [ih]; rfl
/-- A place of a processor in the row. -/
theorem row_at (a : EA) {n i : Nat} (hi : i < n) : ((List.range n).map fun i => [V.ptr (some ((a.c i).o, 0, 0))])[i]? = some [V.ptr (some ((a.c i).o, 0, 0))] := by
  rw [List.getElem?_map, List.getElem?_range hi]; rfl
def Eng.kick (E : Eng) (i : Nat) : Eng := (E.setC i { E.c i with kicked := false }).look i
def Eng.cancel (E : Eng) (id : Int) : Eng × Int :=
  match getN E.wh id with
  | none => (E, 7)
  | some i => (({ E with wh := delN E.wh id }).setC i { E.c i with Q := fun j => dropT ((E.c i).Q j) id }, 0)
section
variable {m m' : Mem} {a : EA} {E : Eng}
theorem kick60 (h : EngR m a E) (hC : CkOk E.C) {i : Nat} (hi : i < E.n) {K : KV} (hk : ∀ M, EngR M a (if (E.c i).kicked then E.kick i else E) → Stp m M (a.all E.n) (a.all E.n) → K (.int .i64 (if (E.c i).kicked then 0 else 8)) M) : ACalls Tryz.prog 60 [.ptr (some (a.e, 0, 0)), .int .i64 i] m K := by
  refine run_on xE hm c60 (by simp) fun hf => ?_
  have oe := h.oe
  have oq := h.oq
  have hc := h.c i hi
  have oc := hc.o
  unfold cpO at oc
  have hr := row_at a hi
  cases hkk : (E.c i).kicked with
  | false =>
    rw [hkk] at hk oc
    simp (disch := omega) [-getElem?_pos, b60, oe, oq, hr, oc]
    exact hk _ h (Stp.refl _ _)
  | true =>
    rw [hkk] at hk oc
    simp (disch := omega) [-getElem?_pos, b60, oe, oq, hr, oc, splice]
    obtain ⟨c1, c2⟩ := hc.marks h.ap hi (E.c i).raised false
    obtain ⟨e1, e2⟩ := h.setC hi c1 c2
    refine elook (E := E.setC i { E.c i with kicked := false }) e1 hC hi fun M f1 f2 => ?_
    simp (disch := omega) [-getElem?_pos]
    exact hk M f1 (e2.trans f2)
theorem cancel27 (h : EngR m a E) {id : Int} (hw : ∀ i, getN E.wh id = some i → i < E.n) (hu : ∀ i, i < E.n → Uni (E.c i).Q) {K : KV} (hk : ∀ M, EngR M a (E.cancel id).1 → Stp m M (a.all E.n) (a.all E.n) → K (.int .i64 (E.cancel id).2) M) : ACalls Tryz.prog 27 [.ptr (some (a.e, 0, 0)), .int .i64 id] m K := by
  refine run_on xE hm c27 (by simp) fun hf => ?_
  have oe := h.oe
  obtain ⟨g, ow⟩ := h.ow
  have hg := getI_whV E.wh id
  unfold Eng.cancel at hk
  cases hN : getN E.wh id with
  | none =>
    rw [hN] at hg hk
    simp only [Option.map_none] at hg
    simp (disch := omega) [-getElem?_pos, b27, oe, ow, hg]
    exact hk _ h (Stp.refl _ _)
  | some i =>
    rw [hN] at hg hk
    simp only [Option.map_some] at hg
    have hi := hw i hN
    have oq := h.oq
    have oc := (h.c i hi).o
    have hr := row_at a hi
    have ap := h.ap
    have n1 := ap.qw
    have n2 := (ap.s i hi _ (CA.mem.2 (.inl rfl))).2.2.2
    have n3 := ap.ew
    obtain ⟨w1, w2⟩ := h.setW (wh := delN E.wh id) (g := stD (mapI (whV E.wh)) (.int .i64 id) g)
    simp (disch := omega) [-getElem?_pos, b27, oe, ow, hg, oq, oc, hr, delI_whV]
    refine bcancel54 (w1.c i hi).b (hu i hi) fun v M b1 b2 => ?_
    obtain ⟨c1, c2⟩ := (w1.c i hi).que ap hi b1 b2
    obtain ⟨e1, e2⟩ := w1.setC hi c1 c2
    simp (disch := omega) [-getElem?_pos]
    exact hk M e1 (w2.trans e2)
end
set_option maxHeartbeats 16000000
def passC (C : Clk) (c : Cp) : Cp := { c with D := (c.D.pass C.mono).1 }
def Eng.passed (E : Eng) (k : Nat) : Eng := { E with c := fun i => if i < k then passC E.C (E.c i) else E.c i }
def Eng.advance (E : Eng) (n : Int) : Eng × Int := if (E.C.adv n).2 = 0 then (({ E with C := (E.C.adv n).1 } : Eng).passed E.n, 0) else (E, (E.C.adv n).2)
theorem passed_succ (E : Eng) (k : Nat) : (E.passed k).setC k (passC E.C (E.c k)) = E.passed (k + 1) := by
  unfold Eng.passed Eng.setC
  congr 1
  funext i
  unfold upC
  by_cases e : i = k
  · subst e; simp
  · rw [if_neg e]
    dsimp only
    by_cases e2 : i < k
    · rw [if_pos e2, if_pos (by omega)]
    · rw [if_neg e2, if_neg (by omega)]
section
variable {m m' : Mem} {a : EA} {E : Eng}
theorem advance28 (h : EngR m a E) (hC : CkOk E.C) (h16 : E.n ≤ 16) {n : Int} {K : KV} (hk : ∀ M, EngR M a (E.advance n).1 → Stp m M (a.all E.n) (a.all E.n) → K (.int .i64 (E.advance n).2) M) : ACalls Tryz.prog 28 [.ptr (some (a.e, 0, 0)), .int .i64 n] m K := by
  refine run_on xE hm c28 (by simp) fun hf => ?_
  have oe := h.oe
  have lk := h.lt.2.1
  simp (disch := omega) [-getElem?_pos, b28, oe]
  refine adv55 h.ok hC ?_
  unfold Eng.advance at hk
  by_cases hx : (E.C.adv n).2 = 0
  · rw [if_pos hx] at hk
    rw [hx, if_pos rfl]
    obtain ⟨w1, w2⟩ := h.setK (C := (E.C.adv n).1) (only_up (Mem.Grew.refl m) a.k _)
    have hC2 := ck_adv hC n
    generalize m.upd a.k (some (ckO (E.C.adv n).1)) = M1 at *
    obtain ⟨E1, hE1⟩ : ∃ E1 : Eng, { E with C := (E.C.adv n).1 } = E1 := ⟨_, rfl⟩
    have en : E1.n = E.n := by rw [← hE1]
    have eC : E1.C = (E.C.adv n).1 := by rw [← hE1]
    rw [hE1] at hk w1
    rw [← eC] at hC2
    rw [← en] at hk w2 h16
    have rg := hC2.rng
    have oe1 := w1.oe
    simp (disch := omega) [-getElem?_pos, oe1]
    have p0 : E1.passed 0 = E1 := by unfold Eng.passed; congr 1
    refine exec_loopU (σ := Nat × Mem) (fun (i, _) => [(22, .int .i64 i), (21, .int .i64 E1.n), (20, .sl (some (a.q, 0, 1)) E1.n none), (0, .ptr (some (a.e, 0, 0)))]) (fun (_, M) => M)
      (fun (i, M) => i ≤ E1.n ∧ EngR M a (E1.passed i) ∧ Stp m M (a.all E1.n) (a.all E1.n)) (fun (i, _) => E1.n - i) (0, M1) rfl ⟨by omega, by rw [p0]; exact w1, w2⟩ (by simp) ?_
    intro (i, M) ⟨a1, a2, a3⟩
    by_cases hi : i < E1.n
    · have oe := a2.oe
      have ok := a2.ok
      have oq := a2.oq
      have hc := a2.c i hi
      have hr : ((List.range (E1.passed i).n).map fun i => [V.ptr (some ((a.c i).o, 0, 0))])[i]? = some [V.ptr (some ((a.c i).o, 0, 0))] := row_at a hi
      have eci : (E1.passed i).c i = E1.c i := by unfold Eng.passed; simp
      rw [eci] at hc
      have oc := hc.o
      unfold cpO at oc
      have ekk : (E1.passed i).C = E1.C := rfl
      rw [ekk] at ok
      unfold ckO Clk.cs at ok
      have od := hc.d
      obtain ⟨M2, hM2⟩ : ∃ M2, (if ((E1.c i).D.pass E1.C.mono).2 then M.upd (a.c i).d (some (dvO ((E1.c i).D.pass E1.C.mono).1)) else M) = M2 := ⟨_, rfl⟩
      have hO : Only M (a.c i).d (dvO ((E1.c i).D.pass E1.C.mono).1) M2 := by
        rw [← hM2]
        cases hs : ((E1.c i).D.pass E1.C.mono).2 with
        | true => rw [if_pos rfl]; exact only_up (Mem.Grew.refl M) _ _
        | false =>
          rw [if_neg (by simp)]
          have e : ((E1.c i).D.pass E1.C.mono).1 = (E1.c i).D := by
            revert hs; unfold Dev.pass; split
            · intro q; cases q
            · intro _; rfl
          rw [e]; exact ⟨Nat.le_refl _, fun _ _ _ => rfl, od⟩
      obtain ⟨c1, c2⟩ := hc.dev a2.ap hi hO
      obtain ⟨f1, f2⟩ := a2.setC hi c1 c2
      have f1' : EngR M2 a (E1.passed (i + 1)) := by rw [← passed_succ]; exact f1
      simp (disch := omega) [-getElem?_pos, oe, oq, hr]
      refine drawT_one ⟨(((Env.none.put (some 22) (V.int .i64 i)).put (some 21) (V.int .i64 E1.n)).put (some 20) (V.sl (some (a.q, 0, 1)) E1.n none)).put (some 0) (V.ptr (some (a.e, 0, 0))), M2, ?h1, ?h2⟩
      case h1 =>
        simp (disch := omega) [-getElem?_pos, oe, oc, ok, F57]
        refine ⟨?_, ?_⟩
        · refine pass56 od ?_
          simp (disch := omega) [-getElem?_pos]
          exact hM2
        · refine pass56 od ?_
          simp (disch := omega) [-getElem?_pos]
          exact hM2
      case h2 =>
        simp (disch := omega) [-getElem?_pos]
        exact again_mk (i + 1, M2) ⟨by omega, f1', a3.trans f2⟩ (by dsimp only; omega) (by simp) rfl
    · obtain rfl : i = E1.n := by omega
      simp (disch := omega) [-getElem?_pos]
      exact hk _ a2 a3
  · rw [if_neg hx] at hk
    rw [if_neg hx]
    simp (disch := omega) [-getElem?_pos, hx]
    exact hk _ h (Stp.refl _ _)
end
set_option maxHeartbeats 16000000
structure Stq where
  kind : Int
  cpu : Int
  n : Int
  t : Tmr
def Stq.cs (s : Stq) : List V := [.int .i64 s.kind, .int .i64 s.cpu, .int .i64 s.n, .int .i64 s.t.id, .int .i64 s.t.ck, .int .i64 s.t.soft, .int .i64 s.t.hard, .bool s.t.lazy]
/-- Who is online is there. -/
structure OnOk (E : Eng) : Prop where
  lt : E.on < 65536
  n : ∀ i, E.on.testBit i = true → i < E.n
  n16 : E.n ≤ 16
def Eng.start (E : Eng) (s : Stq) : Eng × Int :=
  if hasM E.on s.cpu = false ∨ s.t.ck < 0 ∨ 3 ≤ s.t.ck ∨ s.t.hard < s.t.soft then (E, 2)
  else if (getN E.wh s.t.id).isSome then (E, 9)
  else if 64 ≤ E.wh.length then (E, 3)
  else if startE (E.c s.cpu.toNat).Q s.t = 0 then (({ E.setC s.cpu.toNat { E.c s.cpu.toNat with Q := startQ (E.c s.cpu.toNat).Q s.t } with wh := putN E.wh s.t.id s.cpu.toNat } : Eng).look s.cpu.toNat, 0)
  else (E.setC s.cpu.toNat { E.c s.cpu.toNat with Q := startQ (E.c s.cpu.toNat).Q s.t }, startE (E.c s.cpu.toNat).Q s.t)
theorem hasM_n {E : Eng} (h : OnOk E) {i : Int} (hh : hasM E.on i = true) : i.toNat < E.n ∧ i = (i.toNat : Int) := by
  unfold hasM at hh
  simp only [Bool.and_eq_true, decide_eq_true_eq] at hh
  exact ⟨h.n _ hh.2, by omega⟩
section
variable {m m' : Mem} {a : EA} {E : Eng}
theorem at37 (h : EngR m a E) (hon : OnOk E) {i : Int} {K : KV} (hk : K (.ptr (if hasM E.on i then some ((a.c i.toNat).o, 0, 0) else none)) m) : ACalls Tryz.prog 37 [.ptr (some (a.e, 0, 0)), .int .i64 i] m K := by
  refine run_on xE hm c37 (by simp) fun hf => ?_
  have oe := h.oe
  have oq := h.oq
  have hlt := hon.lt
  cases hh : hasM E.on i with
  | false =>
    rw [hh] at hk
    simp (disch := omega) [-getElem?_pos, b37, oe, F64, hh]
    simpa using hk
  | true =>
    rw [hh] at hk
    obtain ⟨h1, h2⟩ := hasM_n hon hh
    have hr := row_at a h1
    rw [if_pos rfl] at hk
    generalize i.toNat = k at *
    subst h2
    simp (disch := omega) [-getElem?_pos, b37, oe, oq, F64, hh, hr]
    exact hk
theorem start26 (h : EngR m a E) (hC : CkOk E.C) (hon : OnOk E) {s : Stq} (hlen : ∀ i, i < E.n → ∀ j, j < 6 → ((E.c i).Q j).length ≤ E.wh.length) {K : KV} (hk : ∀ M, EngR M a (E.start s).1 → Stp m M (a.all E.n) (a.all E.n) → K (.int .i64 (E.start s).2) M) : ACalls Tryz.prog 26 [.ptr (some (a.e, 0, 0)), .agg s.cs] m K := by
  refine run_on xE hm c26 (by simp) fun hf => ?_
  obtain ⟨M1, hM1⟩ : ∃ M1, m.new (.row 8 [s.cs] true) = M1 := ⟨_, rfl⟩
  have g1 : m.Grew M1 := hM1 ▸ Mem.Grew.new _ _
  have oS : M1.obj m.next = some (.row 8 [s.cs] true) := by rw [← hM1]; simp
  have hS : M1.next = m.next + 1 := by rw [← hM1]; simp
  have h1 := h.grow g1
  have hl := h.lt
  unfold Stq.cs at hM1 oS ⊢
  simp (disch := omega) [-getElem?_pos, b26, hM1, oS]
  refine at37 h1 hon ?_
  unfold Eng.start at hk
  obtain ⟨M2, hM2⟩ : ∃ M2, M1.new (.row 5 [s.t.cs] true) = M2 := ⟨_, rfl⟩
  have g2 : m.Grew M2 := hM2 ▸ g1.trans (Mem.Grew.new _ _)
  have oS2 : M2.obj m.next = some (.row 8 [s.cs] true) := by rw [← hM2]; exact ((Mem.Grew.new M1 _).obj _ (by omega)).trans oS
  have oT2 : M2.obj M1.next = some (.row 5 [s.t.cs] true) := by rw [← hM2]; simp
  have hn2 : M2.next = M1.next + 1 := by rw [← hM2]; simp
  have h2 := h.grow g2
  unfold Tmr.cs at hM2 oT2
  unfold Stq.cs at oS2
  by_cases hbad : hasM E.on s.cpu = false ∨ s.t.ck < 0 ∨ 3 ≤ s.t.ck ∨ s.t.hard < s.t.soft
  · rw [if_pos hbad] at hk
    cases hh : hasM E.on s.cpu with
    | false =>
      simp (disch := omega) [-getElem?_pos, splice, hM2, oS, oT2]
      exact hk _ h2 (Stp.grow g2 _)
    | true =>
      by_cases c1 : s.t.ck < 0
      · simp (disch := omega) [-getElem?_pos, splice, hM2, oS, oT2, c1]
        exact hk _ h2 (Stp.grow g2 _)
      · by_cases c2 : 3 ≤ s.t.ck
        · simp (disch := omega) [-getElem?_pos, splice, hM2, oS, oT2, c1, c2]
          exact hk _ h2 (Stp.grow g2 _)
        · have c3 : s.t.hard < s.t.soft := by
            rw [hh] at hbad; simp only [Bool.true_eq_false, false_or] at hbad; omega
          simp (disch := omega) [-getElem?_pos, splice, hM2, oS, oT2, c1, c2, c3]
          exact hk _ h2 (Stp.grow g2 _)
  · rw [if_neg hbad] at hk
    simp only [not_or, Bool.not_eq_false] at hbad
    obtain ⟨hh, c1, c2, c3⟩ := hbad
    obtain ⟨hi, hci⟩ := hasM_n hon hh
    obtain ⟨g, ow⟩ := h2.ow
    have oe := h2.oe
    have hg := getI_whV E.wh s.t.id
    rw [hh, if_pos rfl]
    cases hN : getN E.wh s.t.id with
    | some i =>
      rw [hN] at hg hk
      simp only [Option.map_some] at hg
      simp (disch := omega) [-getElem?_pos, splice, hM2, oS, oS2, oT2, c1, c2, c3, oe, ow, hg]
      exact hk _ h2 (Stp.grow g2 _)
    | none =>
      rw [hN] at hg hk
      simp only [Option.map_none, Option.isSome_none, Bool.false_eq_true, if_false] at hg hk
      have hlw : (whV E.wh).length = E.wh.length := by simp [whV]
      by_cases c4 : 64 ≤ E.wh.length
      · rw [if_pos c4] at hk
        simp (disch := omega) [-getElem?_pos, splice, hM2, oS, oS2, oT2, c1, c2, c3, oe, ow, hg, hlw, c4]
        exact hk _ h2 (Stp.grow g2 _)
      · rw [if_neg c4] at hk
        generalize s.cpu.toNat = k at *
        have hc := h2.c k hi
        have oc := hc.o
        simp (disch := omega) [-getElem?_pos, splice, hM2, oS, oS2, oT2, c1, c2, c3, oe, ow, hg, hlw, c4, oc]
        have hblt := (h.c k hi).b.lts
        refine bstart52 hc.b (t := s.t) (fun j hj => by have := hlen k hi j hj; omega) fun M3 b1 b2 => ?_
        obtain ⟨q1, q2⟩ := hc.que h2.ap hi b1 b2
        obtain ⟨e1, e2⟩ := h2.setC hi q1 q2
        have hn3 := b2.next
        have oS3 := (b2.obj m.next (by omega) (fun q => by have := hblt _ q; omega)).trans oS2
        have oT3 := (b2.obj M1.next (by omega) (fun q => by have := hblt _ q; omega)).trans oT2
        obtain ⟨g3, ow3⟩ := e1.ow
        have oe3 := e1.oe
        have ow3 : M3.obj a.w = some (.map (mapI (whV E.wh)) g3) := ow3
        by_cases hx : startE (E.c k).Q s.t = 0
        · rw [if_pos hx] at hk
          rw [hx]
          simp (disch := omega) [-getElem?_pos, splice, oS3, oT3, oe3, ow3]
          have hp : putI (whV E.wh) s.t.id (.int .i64 s.cpu) = whV (putN E.wh s.t.id k) := by rw [hci]; exact putI_whV _ _ _
          obtain ⟨w1, w2⟩ := e1.setW (wh := putN E.wh s.t.id k) (g := stU (mapI (whV E.wh)) (.int .i64 s.t.id) g3)
          rw [hp]
          refine elook w1 hC hi fun M4 f1 f2 => ?_
          simp (disch := omega) [-getElem?_pos]
          exact hk _ f1 ((((Stp.grow g2 _).trans e2).trans w2).trans f2)
        · rw [if_neg hx] at hk
          simp (disch := omega) [-getElem?_pos, splice, hx]
          exact hk _ e1 ((Stp.grow g2 _).trans e2)
end
set_option maxHeartbeats 16000000
/-- A timer that came. -/
structure Frd where
  id : Int
  ck : Int
  cpu : Nat
  mono : Int
  read : Int
def Frd.cs (f : Frd) : List V := [.int .i64 f.id, .int .i64 f.ck, .int .i64 f.cpu, .int .i64 f.mono, .int .i64 f.read]
def frdOf (C : Clk) (i : Nat) (t : Tmr) : Frd := ⟨t.id, t.ck, i, C.tm 0, C.tm t.ck.toNat⟩
def Eng.fired (E : Eng) (i : Nat) (lazy : Bool) : List Tmr := expB (E.c i).Q E.C.tm lazy 6
def delAll (wh : List (Int × Nat)) (l : List Tmr) : List (Int × Nat) := l.foldl (fun w t => delN w t.id) wh
def Eng.fire (E : Eng) (i : Nat) (lazy : Bool) : Eng × List Frd :=
  ({ E.setC i { E.c i with Q := restB (E.c i).Q E.C.tm lazy 6 } with wh := delAll E.wh (E.fired i lazy) }, (E.fired i lazy).map (frdOf E.C i))
section
variable {m m' : Mem} {a : EA} {E : Eng}
theorem fire90 (h : EngR m a E) (hC : CkOk E.C) {i : Nat} (hi : i < E.n) {lazy : Bool} (hl : ∀ j, j < 6 → ((E.c i).Q j).length ≤ 64) (hck : ∀ t ∈ E.fired i lazy, 0 ≤ t.ck ∧ t.ck < 3) {K : KV}
    (hk : ∀ v M, EngR M a (E.fire i lazy).1 → Stp m M (a.all E.n) (a.all E.n) → Own m.next M 5 v ((E.fire i lazy).2.map Frd.cs) → K v M) : ACalls Tryz.prog 90 [.ptr (some (a.e, 0, 0)), .int .i64 i, .bool lazy] m K := by
  refine run_on xE hm c90 (by simp) fun hf => ?_
  simp (disch := omega) [-getElem?_pos, b90]
  refine times84 h hC fun M g => ?_
  obtain ⟨M1, hM1⟩ : ∃ M1, (M.new (.row 3 [t3 E.C.tm] true)).new (.row 3 [t3 E.C.off] true) = M1 := ⟨_, rfl⟩
  have g1 : m.Grew M1 := hM1 ▸ g.trans ((Mem.Grew.new _ _).trans (Mem.Grew.new _ _))
  have o5 : M1.obj M.next = some (.row 3 [t3 E.C.tm] true) := by rw [← hM1]; simp
  have hn1 : M1.next = M.next + 1 + 1 := by rw [← hM1]; simp
  have h1 := h.grow g1
  have hc := h1.c i hi
  have oe1 := h1.oe
  have oq1 := h1.oq
  have oc1 := hc.o
  have hr := row_at a hi
  have hgn := g.next
  simp (disch := omega) [-getElem?_pos, splice, hM1, oe1, oq1, oc1, hr, o5]
  refine bexp117 hc.b hl fun lv M2 b1 b2 ow => ?_
  obtain ⟨q1, q2⟩ := hc.que h1.ap hi b1 b2
  obtain ⟨e1, e2⟩ := h1.setC hi q1 q2
  have hn2 := b2.next
  have hblt := (h.c i hi).b.lts
  have o52 : M2.obj M.next = some (.row 3 [t3 E.C.tm] true) := (b2.obj M.next (by omega) (fun q => by have := hblt _ q; omega)).trans o5
  have hsl := ow.sl
  have hlen := hsl.lenSl
  rw [List.length_map] at hlen
  have hL64 : (E.fired i lazy).length ≤ 384 := expB_le E.C.tm lazy fun j hj => hl j hj
  simp (disch := omega) [-getElem?_pos, hlen]
  have eL : expB (E.c i).Q E.C.tm lazy 6 = E.fired i lazy := rfl
  rw [eL] at *
  have hlt := h.lts
  obtain ⟨L, hL⟩ : ∃ L, E.fired i lazy = L := ⟨_, rfl⟩
  have hfire : E.fire i lazy = ({ E.setC i { E.c i with Q := restB (E.c i).Q E.C.tm lazy 6 } with wh := delAll E.wh L }, L.map (frdOf E.C i)) := by unfold Eng.fire; rw [hL]
  rw [hfire] at hk
  have hck : ∀ t ∈ L, 0 ≤ t.ck ∧ t.ck < 3 := hL ▸ hck
  have ow : Own M1.next M2 5 lv (L.map Tmr.cs) := hL ▸ ow
  have hsl := ow.sl
  have hL64 : L.length ≤ 384 := hL ▸ hL64
  rw [hL]
  obtain ⟨E1, hE1⟩ : ∃ E1, E.setC i { E.c i with Q := restB (E.c i).Q E.C.tm lazy 6 } = E1 := ⟨_, rfl⟩
  have en : E1.n = E.n := by rw [← hE1]; rfl
  have ewh : E1.wh = E.wh := by rw [← hE1]; rfl
  rw [hE1] at e1 hk
  have lnot : ∀ p, lv.addr = some p → p ∉ a.all E.n := fun p hp q => by have := (ow.addr_lt hp).1; have := hlt p q; omega
  refine exec_loopU (σ := Nat × V × Mem) (fun (j, v, _) => [(31, .int .i64 j), (30, .int .i64 L.length), (29, lv), (8, .ptr (some (M.next, 0, 0))), (7, v), (1, .int .i64 i), (0, .ptr (some (a.e, 0, 0)))]) (fun (_, _, M) => M)
    (fun (j, v, M3) => j ≤ L.length ∧ EngR M3 a { E1 with wh := delAll E.wh (L.take j) } ∧ Stp m M3 (a.all E.n) (a.all E.n) ∧ M2.next ≤ M3.next ∧ (∀ p, p < M2.next → p ∉ a.all E.n → M3.obj p = M2.obj p) ∧ Own M2.next M3 5 v ((L.take j).map fun t => (frdOf E.C i t).cs))
    (fun (j, _, _) => L.length - j) (0, .sl .none 0 (some 0), M2) rfl
    ⟨by omega, by rw [List.take_zero]; show EngR M2 a { E1 with wh := E.wh }; rw [← ewh]; exact e1, (Stp.grow g1 _).trans e2, Nat.le_refl _, fun _ _ _ => rfl, Own.none _ _ _⟩ (by simp) ?_
  intro (j, v, M3) ⟨a1, a2, a3, a4, a5, a6⟩
  by_cases hj : j < L.length
  · have hs3 : Sl M3 5 lv (L.map Tmr.cs) := hsl.keep a4 fun p hp ha => a5 p hp (lnot p ha)
    obtain ⟨p, q, full, rw', d1, d2, d3, d4, _⟩ := hs3.at (i := j) (x := (L[j]).cs) (by simp [hj]) .i64
    obtain ⟨t, ht⟩ : ∃ t, L[j] = t := ⟨_, rfl⟩
    rw [ht] at d4
    have htm : t ∈ L := ht ▸ List.getElem_mem hj
    obtain ⟨k1, k2⟩ := hck t htm
    have o53 : M3.obj M.next = some (.row 3 [t3 E.C.tm] true) := (a5 M.next (by omega) (fun q => by have := hlt _ q; omega)).trans o52
    obtain ⟨gM, owM⟩ := a2.ow
    have gT := Mem.Grew.new M3 (.row 5 [t.cs] true)
    have hT3 := a2.grow gT
    have oe3 := hT3.oe
    obtain ⟨g3, ow3⟩ := hT3.ow
    have ow3 : (M3.new (.row 5 [t.cs] true)).obj a.w = some (.map (mapI (whV (delAll E.wh (L.take j)))) g3) := ow3
    have lw : a.w < m.next := h.lt.2.2.2
    have m3 := a3.next
    have oT3 : (M3.new (.row 5 [t.cs] true)).obj M3.next = some (.row 5 [t.cs] true) := by simp
    have oA3 : (M3.new (.row 5 [t.cs] true)).obj M.next = some (.row 3 [t3 E.C.tm] true) := (gT.obj _ (by omega)).trans o53
    have nA : M.next ≠ a.w := by omega
    have nT : M3.next ≠ a.w := by omega
    obtain ⟨w1, w2⟩ := hT3.setW (wh := delN (delAll E.wh (L.take j)) t.id) (g := stD (mapI (whV (delAll E.wh (L.take j)))) (.int .i64 t.id) gM)
    have own3 := own_upd (a6.grow gT) (r := a.w) (fun e => by have := (a6.addr_lt e).1; omega) (some (.map (mapI (whV (delN (delAll E.wh (L.take j)) t.id))) (stD (mapI (whV (delAll E.wh (L.take j)))) (.int .i64 t.id) gM)))
    have hTn : (M3.new (.row 5 [t.cs] true)).next = M3.next + 1 := by simp
    unfold Tmr.cs at d4 gT oe3 ow3 oT3 oA3 w1 w2 own3 hTn
    have oeM := a2.oe
    have owM : M3.obj a.w = some (.map (mapI (whV (delAll E.wh (L.take j)))) gM) := owM
    have le : a.e < m.next := h.lt.1
    have hc3 : t.ck = 0 ∨ t.ck = 1 ∨ t.ck = 2 := by omega
    simp (disch := omega) [-getElem?_pos, d1, d2, d3, d4, splice, oeM, owM, o53, delI_whV]
    generalize M3.new (.row 5 [[.int .i64 t.id, .int .i64 t.ck, .int .i64 t.soft, .int .i64 t.hard, .bool t.lazy]] true) = M4 at *
    have eA : (t3 E.C.tm)[t.ck.toNat]? = some (V.int .i64 (E.C.tm t.ck.toNat)) := by
      have : t.ck.toNat = 0 ∨ t.ck.toNat = 1 ∨ t.ck.toNat = 2 := by omega
      rcases this with e | e | e <;> rw [e] <;> rfl
    have fr4 : ∀ p, p < M2.next → p ∉ a.all E.n → (M4.upd a.w (some (.map (mapI (whV (delN (delAll E.wh (L.take j)) t.id))) (stD (mapI (whV (delAll E.wh (L.take j)))) (.int .i64 t.id) gM)))).obj p = M2.obj p := fun p hp hd =>
      (updO _ fun e => hd (EA.mem.2 (.inl (.inr (.inr (.inr e)))))).trans ((gT.obj p (by omega)).trans (a5 p hp hd))
    have n5 : (M4.upd a.w (some (.map (mapI (whV (delN (delAll E.wh (L.take j)) t.id))) (stD (mapI (whV (delAll E.wh (L.take j)))) (.int .i64 t.id) gM)))).next = M3.next + 1 := by simp; exact hTn
    generalize M4.upd a.w (some (.map (mapI (whV (delN (delAll E.wh (L.take j)) t.id))) (stD (mapI (whV (delAll E.wh (L.take j)))) (.int .i64 t.id) gM))) = M5 at *
    simp (disch := omega) [-getElem?_pos, eA, splice, eltsOf, Mem.elts]
    have hln : ((L.take j).map fun t => (frdOf E.C i t).cs).length ≤ 384 := by simp; omega
    refine appendX_own3 own3 (Mem.Grew.new M5 _) (by omega) (by simp) (by simp only [List.length_cons, List.length_nil]; omega) (by simp only [List.length_cons, List.length_nil]; omega) fun v' M6 u1 u2 u3 u4 => ?_
    simp (disch := omega) [-getElem?_pos]
    have n6 : M6.next = M3.next + 1 + 1 + 1 := by rw [u3]; simp; omega
    have fr6 : ∀ p, p < M2.next → M6.obj p = M5.obj p := fun p hp => (u2 p (by simp; omega) (.inl hp)).trans ((Mem.Grew.new M5 _).obj p (by omega))
    have al : ∀ p ∈ a.all E.n, p < M2.next := fun p hp => by have := hlt p hp; omega
    have eT : L.take (j + 1) = L.take j ++ [t] := by rw [List.take_add_one, List.getElem?_eq_getElem hj, ht]; rfl
    refine again_mk (j + 1, v', M6) ⟨by omega, ?_, ?_, by show M2.next ≤ M6.next; omega, fun p hp hd => (fr6 p hp).trans (fr4 p hp hd), ?_⟩ (by dsimp only; omega) (by simp) rfl
    · have eD : delAll E.wh (L.take (j + 1)) = delN (delAll E.wh (L.take j)) t.id := by rw [eT]; unfold delAll; rw [List.foldl_append]; rfl
      show EngR M6 a { E1 with wh := delAll E.wh (L.take (j + 1)) }
      rw [eD]
      refine EngR.keep (show EngR M5 a { E1 with wh := delN (delAll E.wh (L.take j)) t.id } from w1) (by omega) fun p hp => fr6 p (al p ?_)
      rw [← en]; exact hp
    · exact ⟨by show m.next ≤ M6.next; omega, fun p hp hd => (fr6 p (by omega)).trans ((fr4 p (by omega) hd).trans (((Stp.grow g1 (a.all E.n)).trans e2).obj p hp hd)), fun p hp => .inl hp⟩
    · show Own M2.next M6 5 v' ((L.take (j + 1)).map fun t => (frdOf E.C i t).cs)
      rw [eT, List.map_append]; exact u1
  · obtain rfl : j = L.length := by omega
    rw [List.take_length] at a2 a6
    simp (disch := omega) [-getElem?_pos]
    refine hk _ _ a2 a3 ?_
    rw [List.map_map]
    have hn0 : m.next ≤ M2.next := by omega
    rcases a6 with ⟨f1, f2⟩ | ⟨q, f1, f2, f3⟩
    · exact .inl ⟨f1, f2⟩
    · exact .inr ⟨q, f1, by omega, f3⟩
end
set_option maxHeartbeats 16000000
def Eng.unraise (E : Eng) (i : Nat) : Eng := E.setC i { E.c i with raised := false }
def Eng.softirq (E : Eng) (i : Nat) : Eng × List Frd := (((E.unraise i).fire i true).1.look i, ((E.unraise i).fire i true).2)
def Eng.untake (E : Eng) (i : Nat) : Eng := E.setC i { E.c i with D := (E.c i).D.take.1 }
def Eng.raise (E : Eng) (i : Nat) : Eng := E.setC i { E.c i with raised := (E.c i).raised || dueB (E.c i).Q E.C.tm true }
def Eng.irq (E : Eng) (i : Nat) : Eng × List Frd := ((((E.untake i).fire i false).1.raise i).look i, ((E.untake i).fire i false).2)
/-- What firing asks for. -/
structure FireOk (E : Eng) (i : Nat) : Prop where
  len : ∀ j, j < 6 → ((E.c i).Q j).length ≤ 64
  ck : ∀ j, j < 6 → ∀ t ∈ (E.c i).Q j, 0 ≤ t.ck ∧ t.ck < 3
theorem fired_mem {E : Eng} {i : Nat} {lazy : Bool} {t : Tmr} (h : t ∈ E.fired i lazy) : ∃ j, j < 6 ∧ t ∈ (E.c i).Q j := by
  unfold Eng.fired expB at h
  simp only [List.mem_flatMap, List.mem_range] at h
  obtain ⟨j, hj, h⟩ := h
  refine ⟨j, hj, ?_⟩
  unfold expS expL at h
  split at h
  · exact (List.takeWhile_sublist _).subset h
  · cases h
section
variable {m m' : Mem} {a : EA} {E : Eng}
theorem softirq59 (h : EngR m a E) (hC : CkOk E.C) {i : Nat} (hi : i < E.n) (hF : FireOk E i) {K : KV}
    (hk0 : (E.c i).raised = false → K (.tup [.sl none 0 (some 0), .int .i64 8]) m)
    (hk1 : (E.c i).raised = true → ∀ v M, EngR M a (E.softirq i).1 → Stp m M (a.all E.n) (a.all E.n) → Own m.next M 5 v ((E.softirq i).2.map Frd.cs) → K (.tup [v, .int .i64 0]) M) : ACalls Tryz.prog 59 [.ptr (some (a.e, 0, 0)), .int .i64 i] m K := by
  refine run_on xE hm c59 (by simp) fun hf => ?_
  have oe := h.oe
  have oq := h.oq
  have hc := h.c i hi
  have oc := hc.o
  unfold cpO at oc
  have hr := row_at a hi
  cases hkk : (E.c i).raised with
  | false =>
    rw [hkk] at oc
    simp (disch := omega) [-getElem?_pos, b59, oe, oq, hr, oc]
    exact hk0 hkk
  | true =>
    rw [hkk] at oc
    simp (disch := omega) [-getElem?_pos, b59, oe, oq, hr, oc, splice]
    obtain ⟨c1, c2⟩ := hc.marks h.ap hi false (E.c i).kicked
    obtain ⟨e1, e2⟩ := h.setC hi c1 c2
    have e1 : EngR _ a (E.unraise i) := e1
    have eQ : ((E.unraise i).c i).Q = (E.c i).Q := by unfold Eng.unraise Eng.setC; simp [upC]
    refine fire90 e1 hC hi (fun j hj => by rw [eQ]; exact hF.len j hj) (fun t ht => by obtain ⟨j, hj, hm⟩ := fired_mem ht; rw [eQ] at hm; exact hF.ck j hj t hm) fun v M f1 f2 f3 => ?_
    simp (disch := omega) [-getElem?_pos]
    refine elook f1 hC hi fun M2 w1 w2 => ?_
    simp (disch := omega) [-getElem?_pos]
    have w2 : Stp M M2 (a.all E.n) (a.all E.n) := w2
    have hlt := h.lts
    refine hk1 hkk v M2 w1 ((e2.trans f2).trans w2) ?_
    rcases f3 with ⟨x1, x2⟩ | ⟨q, x1, x2, x3, x4, x5⟩
    · exact .inl ⟨x1, x2⟩
    · simp at x2
      have hw := w2.next
      exact .inr ⟨q, x1, x2, by omega, (w2.obj q x3 fun p => by have := hlt q p; omega).trans x4, x5⟩
theorem own_step {n0 n1 : Nat} {M M2 : Mem} {v : V} {es : List (List V)} {D : List Nat} (h : Own n1 M 5 v es) (hs : Stp M M2 D D) (h01 : n0 ≤ n1) (hd : ∀ p ∈ D, p < n1) : Own n0 M2 5 v es := by
  rcases h with ⟨x1, x2⟩ | ⟨q, x1, x2, x3, x4, x5⟩
  · exact .inl ⟨x1, x2⟩
  · have hw := hs.next
    exact .inr ⟨q, x1, by omega, by omega, (hs.obj q x3 fun p => by have := hd q p; omega).trans x4, x5⟩
theorem irq58 (h : EngR m a E) (hC : CkOk E.C) {i : Nat} (hi : i < E.n) (hF : FireOk E i) {K : KV}
    (hk0 : (E.c i).D.latched = false → K (.tup [.sl none 0 (some 0), .int .i64 8]) m)
    (hk1 : (E.c i).D.latched = true → ∀ v M, EngR M a (E.irq i).1 → Stp m M (a.all E.n) (a.all E.n) → Own m.next M 5 v ((E.irq i).2.map Frd.cs) → K (.tup [v, .int .i64 0]) M) : ACalls Tryz.prog 58 [.ptr (some (a.e, 0, 0)), .int .i64 i] m K := by
  refine run_on xE hm c58 (by simp) fun hf => ?_
  have oe := h.oe
  have oq := h.oq
  have hc := h.c i hi
  have oc := hc.o
  unfold cpO at oc
  have hr := row_at a hi
  simp (disch := omega) [-getElem?_pos, b58, oe, oq, hr, oc]
  refine take89 hc.d ?_
  have et : (E.c i).D.take = if (E.c i).D.latched then ({ (E.c i).D with latched := false }, true) else ((E.c i).D, false) := rfl
  cases hkk : (E.c i).D.latched with
  | false =>
    rw [hkk] at et
    rw [et]
    simp (disch := omega) [-getElem?_pos]
    exact hk0 hkk
  | true =>
    rw [hkk, if_pos rfl] at et
    rw [et]
    obtain ⟨c1, c2⟩ := hc.dev h.ap hi (only_up (Mem.Grew.refl m) (a.c i).d (dvO (E.c i).D.take.1))
    obtain ⟨e1, e2⟩ := h.setC hi c1 c2
    have e1 : EngR _ a (E.untake i) := e1
    rw [et] at e1 e2
    simp (disch := omega) [-getElem?_pos]
    have eQ : ((E.untake i).c i).Q = (E.c i).Q := by unfold Eng.untake Eng.setC; simp [upC]
    generalize m.upd (a.c i).d (some (dvO ({ (E.c i).D with latched := false }, true).1)) = M0 at *
    have hlt := h.lts
    have hn0 := e2.next
    refine fire90 e1 hC hi (fun j hj => by rw [eQ]; exact hF.len j hj) (fun t ht => by obtain ⟨j, hj, hm⟩ := fired_mem ht; rw [eQ] at hm; exact hF.ck j hj t hm) fun v M f1 f2 f3 => ?_
    obtain ⟨E2, hE2⟩ : ∃ E2, ((E.untake i).fire i false).1 = E2 := ⟨_, rfl⟩
    have en2 : E2.n = E.n := by rw [← hE2]; rfl
    have eC2 : E2.C = E.C := by rw [← hE2]; rfl
    have eirq : E.irq i = ((E2.raise i).look i, ((E.untake i).fire i false).2) := by unfold Eng.irq; rw [hE2]
    rw [hE2] at f1
    rw [eirq] at hk1
    have hi2 : i < E2.n := by rw [en2]; exact hi
    have hC2 : CkOk E2.C := by rw [eC2]; exact hC
    have f2 : Stp M0 M (a.all E.n) (a.all E.n) := f2
    simp (disch := omega) [-getElem?_pos]
    refine times84 f1 hC2 fun M1 g1 => ?_
    have gN := (Mem.Grew.new M1 (.row 3 [t3 E2.C.tm] true)).trans (Mem.Grew.new _ (.row 3 [t3 E2.C.off] true))
    have gg := g1.trans gN
    have h2 := f1.grow gg
    have hc2 := h2.c i hi2
    have oc2 := hc2.o
    unfold cpO at oc2
    have hM1n := g1.next
    have hc1 := (f1.grow g1).c i hi2
    have oc1 := hc1.o
    unfold cpO at oc1
    have lo1 := hc1.lo
    have oA : ((M1.new (.row 3 [t3 E2.C.tm] true)).new (.row 3 [t3 E2.C.off] true)).obj M1.next = some (.row 3 [t3 E2.C.tm] true) := by simp
    have hA : M1.next < ((M1.new (.row 3 [t3 E2.C.tm] true)).new (.row 3 [t3 E2.C.off] true)).next := by simp; omega
    have done : ∀ (M3 : Mem) (b : Bool), M.Grew M3 → b = ((E2.c i).raised || dueB (E2.c i).Q E2.C.tm true) → ∀ {K1 : KV}, (∀ v' M4, EngR M4 a ((E2.raise i).look i) → Stp m M4 (a.all E.n) (a.all E.n) → Own m.next M4 5 v ((((E.untake i).fire i false).2).map Frd.cs) → K1 v' M4) →
        ACalls Tryz.prog 53 [.ptr (some (a.e, 0, 0)), .ptr (some ((a.c i).o, 0, 0))] (M3.upd (a.c i).o (some (.row 4 [[.ptr (some ((a.c i).b.o, 0, 0)), .ptr (some ((a.c i).d, 0, 0)), .bool b, .bool (E2.c i).kicked]] true))) K1 := by
      intro M3 b g3 hb K1 hK
      have h3 := f1.grow g3
      obtain ⟨c1, c2⟩ := (h3.c i hi2).marks h3.ap hi2 b (E2.c i).kicked
      obtain ⟨x1, x2⟩ := h3.setC hi2 c1 c2
      have er : E2.setC i { E2.c i with raised := b, kicked := (E2.c i).kicked } = E2.raise i := by unfold Eng.raise; rw [hb]
      rw [er] at x1
      rw [en2] at x2
      refine elook x1 hC2 hi2 fun M4 w1 w2 => ?_
      have w2 : Stp _ M4 (a.all E2.n) (a.all E2.n) := w2
      rw [en2] at w2
      have s34 := ((Stp.grow g3 (a.all E.n)).trans x2).trans w2
      exact hK _ M4 w1 ((e2.trans f2).trans s34) (own_step f3 s34 hn0 fun p hp => by have := hlt p hp; omega)
    cases hrr : (E2.c i).raised with
    | true =>
      rw [hrr] at oc2 oc1
      simp (disch := omega) [-getElem?_pos, splice, oc1, oc2]
      refine done _ true gg (by rw [hrr]; rfl) fun v' M4 x1 x2 x3 => ?_
      simp (disch := omega) [-getElem?_pos]
      exact hk1 hkk v M4 x1 x2 x3
    | false =>
      rw [hrr] at oc2 oc1
      simp (disch := omega) [-getElem?_pos, splice, oc1, oc2]
      refine bdue91 hc2.b (tm := E2.C.tm) fun M3 g3 => ?_
      have oc3 := (g3.obj _ hc2.lo).trans oc2
      simp (disch := omega) [-getElem?_pos, splice, oc3]
      refine done M3 _ (gg.trans g3) (by rw [hrr]; rfl) fun v' M4 x1 x2 x3 => ?_
      simp (disch := omega) [-getElem?_pos]
      exact hk1 hkk v M4 x1 x2 x3
end
set_option maxHeartbeats 16000000
def Eng.kicks (E : Eng) (l : List Nat) : Eng := l.foldl (fun E i => E.setC i { E.c i with kicked := true }) E
theorem kicks_same (E : Eng) (l : List Nat) : (E.kicks l).n = E.n ∧ (E.kicks l).C = E.C ∧ (E.kicks l).on = E.on ∧ (E.kicks l).wh = E.wh := by
  unfold Eng.kicks
  induction l generalizing E with
  | nil => exact ⟨rfl, rfl, rfl, rfl⟩
  | cons i l ih => exact ih (E.setC i { E.c i with kicked := true })
def Eng.stepC (E : Eng) (C : Clk) : Eng := if C.gen = E.C.gen then { E with C := C } else ({ E with C := C } : Eng).kicks (listM E.on 16)
theorem listM_mem {w n i : Nat} : i ∈ listM w n ↔ i < n ∧ w.testBit i = true := by
  unfold listM; rw [List.mem_filter, List.mem_range]
section
variable {m m' : Mem} {a : EA} {E : Eng}
theorem step30 (h : EngR m a E) (hon : OnOk E) {g : FuncId} {fs cs : List V} {C : Clk} {x : Int} (hfn : ∀ {K : KV}, (∀ M, Only m a.k (ckO C) M → K (.int .i64 x) M) → ACalls Tryz.prog g (fs ++ cs) m K) {K : KV}
    (hk : ∀ M, EngR M a (E.stepC C) → Stp m M (a.all E.n) (a.all E.n) → K (.int .i64 x) M) : ACalls Tryz.prog 30 [.ptr (some (a.e, 0, 0)), .fn g fs cs] m K := by
  refine run_on (ctx_nil _) hm c30 (by simp) fun hf => ?_
  have oe := h.oe
  have hlt16 := hon.lt
  simp (disch := omega) [-getElem?_pos, b30, oe]
  refine gen62 h.ok ?_
  simp (disch := omega) [-getElem?_pos]
  refine hfn fun M hO => ?_
  obtain ⟨e1, e2⟩ := h.setK hO
  have oe1 := e1.oe
  simp (disch := omega) [-getElem?_pos, oe1]
  refine gen62 e1.ok ?_
  unfold Eng.stepC at hk
  by_cases hgen : C.gen = E.C.gen
  · rw [if_pos hgen] at hk
    simp (disch := omega) [-getElem?_pos, hgen]
    exact hk _ e1 e2
  · rw [if_neg hgen] at hk
    simp (disch := omega) [-getElem?_pos, hgen, oe1]
    refine list49 hlt16 fun v M1 g1 ow => ?_
    have hlen := ow.sl.lenSl
    rw [List.length_map] at hlen
    simp (disch := omega) [-getElem?_pos, hlen]
    obtain ⟨E1, hE1⟩ : ∃ E1 : Eng, { E with C := C } = E1 := ⟨_, rfl⟩
    obtain ⟨L, hL⟩ : ∃ L, listM E.on 16 = L := ⟨_, rfl⟩
    rw [hL] at ow hk ⊢
    rw [hE1] at e1 hk
    have en : E1.n = E.n := by rw [← hE1]
    have hle : L.length ≤ 16 := hL ▸ listM_le E.on 16
    have hL2 : ∀ i ∈ L, i < E1.n := fun i hi => by rw [← hL] at hi; rw [en]; exact hon.n i (listM_mem.1 hi).2
    have hlt := e1.lts
    rw [← en] at e2
    refine exec_loopU (σ := Nat × Mem) (fun (j, _) => [(29, .int .i64 j), (28, .int .i64 L.length), (27, v), (6, .int .i64 x), (0, .ptr (some (a.e, 0, 0)))]) (fun (_, M) => M)
      (fun (j, M3) => j ≤ L.length ∧ EngR M3 a (E1.kicks (L.take j)) ∧ Stp M1 M3 (a.all E1.n) (a.all E1.n)) (fun (j, _) => L.length - j) (0, M1) rfl ⟨by omega, e1.grow g1, Stp.refl _ _⟩ (by simp) ?_
    intro (j, M3) ⟨a1, a2, a3⟩
    by_cases hj : j < L.length
    · have hs3 : Sl M3 1 v (L.map fun i : Nat => [V.int .i64 i]) := ow.sl.keep a3.next fun p hp ha => a3.obj p hp fun q => by have := (ow.addr_lt ha).1; have := hlt p q; omega
      obtain ⟨p, q, full, rw', d1, d2, d3, d4, _⟩ := hs3.at (i := j) (x := [V.int .i64 (L[j] : Nat)]) (by simp [hj]) .i64
      obtain ⟨i, hi⟩ : ∃ i, L[j] = i := ⟨_, rfl⟩
      rw [hi] at d4
      have hin : i < E1.n := hL2 i (hi ▸ List.getElem_mem hj)
      have eks := (kicks_same E1 (L.take j)).1
      have hin2 : i < (E1.kicks (L.take j)).n := by rw [eks]; exact hin
      have oe3 := a2.oe
      have oq3 := a2.oq
      have hr := row_at a hin2
      have hc := a2.c i hin2
      have oc := hc.o
      unfold cpO at oc
      simp (disch := omega) [-getElem?_pos, d1, d2, d3, d4, oe3, oq3, hr, oc, splice]
      obtain ⟨c1, c2⟩ := hc.marks a2.ap hin2 ((E1.kicks (L.take j)).c i).raised true
      obtain ⟨f1, f2⟩ := a2.setC hin2 c1 c2
      rw [eks] at f2
      have eT : L.take (j + 1) = L.take j ++ [i] := by rw [List.take_add_one, List.getElem?_eq_getElem hj, hi]; rfl
      have eK : E1.kicks (L.take (j + 1)) = (E1.kicks (L.take j)).setC i { (E1.kicks (L.take j)).c i with kicked := true } := by rw [eT]; unfold Eng.kicks; rw [List.foldl_append]; rfl
      exact again_mk (j + 1, _) ⟨by omega, by rw [eK]; exact f1, a3.trans f2⟩ (by dsimp only; omega) (by simp) rfl
    · obtain rfl : j = L.length := by omega
      rw [List.take_length] at a2
      simp (disch := omega) [-getElem?_pos]
      refine hk _ a2 ?_
      rw [← en]
      exact (e2.trans (Stp.grow g1 _)).trans a3
end
set_option maxHeartbeats 16000000
def Same (M X : Mem) : Prop := M = X
def Eng.bring (E : Eng) (i : Int) : Eng × Int :=
  if i < 0 ∨ (E.n : Int) ≤ i then (E, 2) else if hasM E.on i then (E, 8)
  else ({ E.setC i.toNat { E.c i.toNat with D := { (E.c i.toNat).D with off := false } } with on := E.on ||| bitN i }, 0)
section
variable {m m' : Mem} {a : EA} {E : Eng}
theorem bring35 (h : EngR m a E) (hon : OnOk E) {i : Int} {K : KV} (hk : ∀ M, EngR M a (E.bring i).1 → Stp m M (a.all E.n) (a.all E.n) → K (.int .i64 (E.bring i).2) M) : ACalls Tryz.prog 35 [.ptr (some (a.e, 0, 0)), .int .i64 i] m K := by
  refine run_on xE hm c35 (by simp) fun hf => ?_
  have oe := h.oe
  have oq := h.oq
  have hlt := hon.lt
  have h16 := hon.n16
  unfold Eng.bring at hk
  by_cases c1 : i < 0
  · rw [if_pos (.inl c1)] at hk
    simp (disch := omega) [-getElem?_pos, b35, oe, c1]
    exact hk _ h (Stp.refl _ _)
  by_cases c2 : (E.n : Int) ≤ i
  · rw [if_pos (.inr c2)] at hk
    simp (disch := omega) [-getElem?_pos, b35, oe, c1, c2]
    exact hk _ h (Stp.refl _ _)
  rw [if_neg (by omega)] at hk
  cases hh : hasM E.on i with
  | true =>
    rw [hh] at hk
    simp (disch := omega) [-getElem?_pos, b35, oe, c1, c2, F64, hh]
    exact hk _ h (Stp.refl _ _)
  | false =>
    rw [hh] at hk
    simp only [Bool.false_eq_true, if_false] at hk
    obtain ⟨k, rfl⟩ := Int.eq_ofNat_of_zero_le (show 0 ≤ i by omega)
    have hi : k < E.n := by omega
    rw [Int.toNat_natCast] at hk
    have hr := row_at a hi
    have hc := h.c k hi
    have oc := hc.o
    unfold cpO at oc
    simp (disch := omega) [-getElem?_pos, b35, oe, oq, c1, c2, F64, hh, hr, oc]
    refine on65 hc.d ?_
    obtain ⟨c3, c4⟩ := hc.dev h.ap hi (only_up (Mem.Grew.refl m) (a.c k).d (dvO { (E.c k).D with off := false }))
    obtain ⟨e1, e2⟩ := h.setC hi c3 c4
    have oe1 := e1.oe
    have le := e1.lt.1
    generalize m.upd (a.c k).d (some (dvO { (E.c k).D with off := false })) = M at *
    have gN := Mem.Grew.new M (.row 1 [[.int .i64 k]] true)
    have e3 := e1.grow gN
    obtain ⟨x1, x2⟩ := e3.setOn (E.on ||| bitN k)
    have hsl : Sl (M.new (.row 1 [[.int .i64 k]] true)) 1 (.sl (some (M.next, 0, 1)) 1 (some 1)) ([k].map fun i : Nat => [V.int .i64 i]) :=
      ⟨_, _, rfl, fun _ => ⟨M.next, 0, [[V.int .i64 k]], true, rfl, by simp, by simp, by simp, fun j _ => by simp⟩⟩
    have ho := or32 E.on (bitN k) (by omega) (by have := bitN_lt k; omega)
    have e0 : ofA 0 [k] = bitN k := by simp [ofA]
    simp (disch := omega) [-getElem?_pos]
    refine drawT_J (fun _ M' => Same M' ((M.new (.row 1 [[.int .i64 k]] true)).upd a.e (some (enO a { E.setC k { E.c k with D := { (E.c k).D with off := false } } with on := E.on ||| bitN k })))) ?_ fun e' M' hJ => by
      rw [show M' = _ from hJ]
      simp (disch := omega) [-getElem?_pos]
      exact hk _ x1 ((e2.trans (Stp.grow gN _)).trans x2)
    have eon : (E.setC k { E.c k with D := { (E.c k).D with off := false } }).on = E.on := rfl
    have oeN := e3.oe
    simp (disch := omega) [-getElem?_pos, oe1, splice]
    repeat' first
      | (refine of25 hsl (by simp) ?_
         rw [e0]
         simp (disch := omega) [-getElem?_pos, oe1, eon, ho, splice]
         exact rfl)
      | refine And.intro ?_ ?_
end
end Go.Proofs.YtkcpojagecfcbaaGreatDoor
