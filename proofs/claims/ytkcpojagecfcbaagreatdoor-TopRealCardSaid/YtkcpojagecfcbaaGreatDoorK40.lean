/-
  STEPS OF REAL: sleeping timers alone; a tick.
  STEPS OF REAL: what a tick fires; who sleeps.
  STEPS OF REAL: tasks go to sleep.
  STEPS OF REAL: the law.
-/
import Derived.Test.YtkcpojagecfcbaaGreatDoorK39
namespace Go.Proofs.YtkcpojagecfcbaaGreatDoor
open Go Go.AM
set_option linter.unusedVariables false
set_option linter.unusedSimpArgs false
set_option maxRecDepth 60000
set_option maxHeartbeats 4000000
/-- A device is armed ahead of all timers, and behind now. -/
structure KD (now : Int) (c : Cp) : Prop where
  off : c.D.off = false
  ah : c.D.armed = true → now < c.D.at'
  all : c.D.latched = true ∨ ∀ j, j < 6 → ∀ t ∈ c.Q j, c.D.armed = true ∧ c.D.at' ≤ t.soft
/-- Sleepers' queues: of Mono, and of Boot. -/
structure SQ (c : Cp) : Prop where
  q : ∀ j, j < 6 → j ≠ 0 → j ≠ 4 → c.Q j = []
  b : ∀ j, j < 6 → ∀ t ∈ c.Q j, 0 ≤ t.soft ∧ t.soft ≤ 100000
structure TI (now : Int) (n : Nat) (E : Eng) : Prop where
  inv : Inv 1 1073741824 E
  en : E.n = n
  on : ∀ i, i < n → E.on.testBit i = true
  mono : E.C.mono = now
  o2 : E.C.o2 = 0
  awake : E.C.asleep = false
  now0 : 0 ≤ now ∧ now ≤ 1000
  sq : ∀ i, i < n → SQ (E.c i)
  rs : ∀ i, i < n → (E.c i).raised = false
  kd : ∀ i, i < n → KD now (E.c i)
theorem tm_now {C : Clk} {now : Int} (hm : C.mono = now) (ho : C.o2 = 0) : C.tm 0 = now ∧ C.tm 2 = now := by
  constructor
  · show C.mono + 0 = now; omega
  · show C.mono + C.o2 = now; omega
theorem SQ.j {c : Cp} (h : SQ c) {j : Nat} (hj : j < 6) {t : Tmr} (ht : t ∈ c.Q j) : j = 0 ∨ j = 4 := by
  by_cases h0 : j = 0
  · exact .inl h0
  · by_cases h4 : j = 4
    · exact .inr h4
    · rw [h.q j hj h0 h4] at ht; cases ht
theorem SQ.sub {c c' : Cp} (h : SQ c) (hs : ∀ j, (c'.Q j).Sublist (c.Q j)) : SQ c' :=
  ⟨fun j hj h0 h4 => by have := hs j; rw [h.q j hj h0 h4] at this; exact List.sublist_nil.1 this, fun j hj t ht => h.b j hj t ((hs j).subset ht)⟩
theorem look_kd {C : Clk} {now : Int} {c : Cp} (hm : C.mono = now) (ho : C.o2 = 0) (hn : 0 ≤ now ∧ now ≤ 1000) (hr : c.raised = false) (hs : ∀ j, j < 6 → Srt (c.Q j)) (hd : c.D.lo = 1 ∧ c.D.hi = 1073741824) (hoff : c.D.off = false) (hq : SQ c)
    (h1 : c.D.armed = true → now < c.D.at') (h2 : c.D.latched = true ∨ ∀ j, j < 6 → ∀ t ∈ c.Q j, now < t.soft) : KD now { c with D := lookD C c } := by
  have hl := lookD_same C c
  have hN : ∀ j, j < 6 → ∀ t ∈ c.Q j, nextB c.Q C.off true 6 ≤ t.soft := fun j hj t ht => by
    have h3 := nextB_le hs C hj ht
    have hb := hq.b j hj t ht
    have e : comes C j t = t.soft := by
      unfold comes subT
      rw [if_neg (by omega)]
      have eo : C.off (j / 2) = 0 := by
        rcases hq.j hj ht with rfl | rfl
        · rfl
        · exact ho
      rw [eo]
      unfold cl
      omega
    rw [e] at h3
    exact h3
  have hlook : lookD C c = (c.D.sooner now (nextB c.Q C.off true 6)).1 := by unfold lookD; rw [hr, hm]; rfl
  generalize nextB c.Q C.off true 6 = N at *
  have a1 : addT now c.D.lo = now + 1 := by unfold addT cl; rw [if_neg (by omega), hd.1]; omega
  have a2 : addT now c.D.hi = now + 1073741824 := by unfold addT cl; rw [if_neg (by omega), hd.2]; omega
  have hw : now < c.D.when now N ∧ ∀ x : Int, N ≤ x → now < x → x ≤ 100000 → c.D.when now N ≤ x := by
    unfold Dev.when btwT
    rw [a1, a2]
    refine ⟨by unfold cl; omega, fun x h3 h4 h5 => by unfold cl; omega⟩
  refine ⟨by show (lookD C c).off = false; rw [hl.2.2.2]; exact hoff, ?_, ?_⟩
  · show (lookD C c).armed = true → now < (lookD C c).at'
    rw [hlook]
    unfold Dev.sooner
    split
    · exact h1
    · exact fun _ => hw.1
  · show (lookD C c).latched = true ∨ ∀ j, j < 6 → ∀ t ∈ c.Q j, (lookD C c).armed = true ∧ (lookD C c).at' ≤ t.soft
    rw [hl.2.2.1]
    rcases h2 with h2 | h2
    · exact .inl h2
    · refine .inr fun j hj t ht => ?_
      have h3 := hN j hj t ht
      have h4 := h2 j hj t ht
      have h5 := hq.b j hj t ht
      rw [hlook]
      unfold Dev.sooner
      split
      · next h =>
        rw [hoff] at h
        simp only [Bool.false_eq_true, false_or] at h
        rcases h with h | ⟨h6, h7⟩
        · omega
        · have := hw.2 t.soft h3 h4 h5.2
          exact ⟨h6, by show c.D.at' ≤ _; omega⟩
      · exact ⟨rfl, hw.2 t.soft h3 h4 h5.2⟩
theorem KD.later {now : Int} {c : Cp} (h : KD now c) : c.D.latched = true ∨ ∀ j, j < 6 → ∀ t ∈ c.Q j, now < t.soft := by
  rcases h.all with h1 | h1
  · exact .inl h1
  · refine .inr fun j hj t ht => ?_
    obtain ⟨h2, h3⟩ := h1 j hj t ht
    have := h.ah h2
    omega
theorem rest_later {C : Clk} {now : Int} {c : Cp} (hm : C.mono = now) (ho : C.o2 = 0) (hn : 0 ≤ now ∧ now ≤ 1000) (hq : SQ c) (hs : ∀ j, j < 6 → Srt (c.Q j)) {j : Nat} (hj : j < 6) {t : Tmr} (ht : t ∈ restB c.Q C.tm false 6 j) : now < t.soft := by
  have hmem := (restB_sub j).subset ht
  have hb := hq.b j hj t hmem
  have hj2 := hq.j hj hmem
  have er : restB c.Q C.tm false 6 j = restL (c.Q j) (C.tm (j / 2)) := by
    unfold restB restS
    rw [if_pos hj, if_pos (by rcases hj2 with rfl | rfl <;> rfl)]
  have etm : C.tm (j / 2) = now := by
    rcases hj2 with rfl | rfl
    · exact (tm_now hm ho).1
    · exact (tm_now hm ho).2
  rw [er, etm] at ht
  cases hd : isDue t now with
  | true => exact absurd ht (due_gone (hs j hj) hd)
  | false =>
    unfold isDue at hd
    rw [decide_eq_true (by omega), Bool.true_and, decide_eq_false_iff_not] at hd
    unfold cl at hd
    omega
theorem noLazy {c : Cp} (hq : SQ c) (tm : Nat → Int) : dueB (restB c.Q tm false 6) tm true = false := by
  unfold dueB
  rw [List.any_eq_false]
  intro j hj
  have hj := List.mem_range.1 hj
  unfold dueStep
  split
  · simp
  · next t l h =>
    have ht : t ∈ restB c.Q tm false 6 j := by rw [h]; simp
    rcases hq.j hj ((restB_sub j).subset ht) with rfl | rfl <;> simp [sideN]
section
variable {now : Int} {n : Nat} {E E' : Eng} {F : List Frd}
theorem TI.n16 (h : TI now n E) : n ≤ 16 := by rw [← h.en]; exact h.inv.on.n16
theorem TI.list (h : TI now n E) : listM E.on 16 = List.range n := by
  have h16 := h.n16
  have e : ∀ i, E.on.testBit i = decide (i < n) := fun i => by
    by_cases q : i < n
    · rw [h.on i q, decide_eq_true q]
    · rw [decide_eq_false q]
      cases hb : E.on.testBit i with
      | false => rfl
      | true => exact absurd (by rw [← h.en]; exact h.inv.on.n i hb) q
  unfold listM
  rw [show (16 : Nat) = n + (16 - n) from by omega, List.range_add, List.filter_append]
  have e1 : (List.range n).filter (fun i => E.on.testBit i) = List.range n := by
    rw [List.filter_eq_self]
    intro i hi
    rw [e, decide_eq_true (List.mem_range.1 hi)]
  have e2 : ((List.range (16 - n)).map (n + ·)).filter (fun i => E.on.testBit i) = [] := by
    rw [List.filter_eq_nil_iff]
    intro i hi
    obtain ⟨k, _, rfl⟩ := List.mem_map.1 hi
    rw [e]; simp
  rw [e1, e2, List.append_nil]
/-- What a processor that took an interrupt fires. -/
def fl (E : Eng) (i : Nat) : List Frd := if (E.c i).D.latched = true then (expB (E.c i).Q E.C.tm false 6).map (frdOf E.C i) else []
theorem flat_split {α : Type} {f g : Nat → List α} {i : Nat} (hi : i < n) (h0 : ∀ k, k < i → f k = []) (h1 : ∀ k, k < i → g k = []) (h2 : g i = []) (h3 : ∀ k, i < k → g k = f k) : (List.range n).flatMap f = f i ++ (List.range n).flatMap g := by
  rw [List.range_eq_range', range_mid hi, List.flatMap_append, List.flatMap_cons, List.flatMap_append, List.flatMap_cons, h2]
  have e1 : (List.range' 0 i).flatMap f = [] := by
    rw [List.flatMap_eq_nil_iff]
    intro k hk
    exact h0 k (by have := (List.mem_range'_1.1 hk).2; omega)
  have e2 : (List.range' 0 i).flatMap g = [] := by
    rw [List.flatMap_eq_nil_iff]
    intro k hk
    exact h1 k (by have := (List.mem_range'_1.1 hk).2; omega)
  have e3 : (List.range' (i + 1) (n - i - 1)).flatMap g = (List.range' (i + 1) (n - i - 1)).flatMap f := by
    refine congrArg List.flatten (List.map_congr_left fun k hk => ?_)
    exact h3 k (by have := (List.mem_range'_1.1 hk).1; omega)
  rw [e1, e2, e3]
  rfl
/-- A processor is turned. -/
theorem TI.turn (h : TI now n E) {i : Nat} (hi : i < n) {c : Cp} {w : List (Int × Nat)} (hI : Inv 1 1073741824 { E.setC i c with wh := w }) (hq : SQ c) (hr : c.raised = false) (hk : KD now c) : TI now n { E.setC i c with wh := w } := by
  have two : ∀ {P : Cp → Prop}, (∀ k, k < n → P (E.c k)) → P c → ∀ k, k < n → P ((E.setC i c).c k) := fun {P} h1 h2 k hk => by
    show P (upC E.c i c k)
    unfold upC
    split
    · exact h2
    · exact h1 k hk
  exact ⟨hI, h.en, h.on, h.mono, h.o2, h.awake, h.now0, two (P := SQ) h.sq hq, two (P := fun c => c.raised = false) h.rs hr, two (P := KD now) h.kd hk⟩
theorem TI.kickC (h : TI now n E) {i : Nat} (hi : i < n) : TI now n (E.kick i) ∧ ∀ k, fl (E.kick i) k = fl E k ∧ ((E.kick i).c k).Q = (E.c k).Q ∧ ((E.kick i).c k).D.latched = (E.c k).D.latched := by
  have hin : i < E.n := by rw [h.en]; exact hi
  obtain ⟨k1, _⟩ := h.inv.kick i
  have kd := h.kd i hi
  rw [kick_eq] at k1 ⊢
  refine ⟨h.turn (w := E.wh) hi k1 ((h.sq i hi).sub fun j => List.Sublist.refl _) (h.rs i hi) ?_, fun k => ?_⟩
  · exact look_kd (c := { E.c i with kicked := false }) h.mono h.o2 h.now0 (h.rs i hi) (h.inv.srt i hin) (h.inv.dev i hin) kd.off ((h.sq i hi).sub fun j => List.Sublist.refl _) kd.ah kd.later
  · have e : ((E.setC i (Go.Proofs.YtkcpojagecfcbaaGreatDoor.kickC E.C (E.c i))).c k).Q = (E.c k).Q ∧ ((E.setC i (Go.Proofs.YtkcpojagecfcbaaGreatDoor.kickC E.C (E.c i))).c k).D.latched = (E.c k).D.latched := by
      show (upC E.c i _ k).Q = _ ∧ (upC E.c i _ k).D.latched = _
      unfold upC
      split
      · next e => subst e; exact ⟨rfl, (lookD_same _ _).2.2.1⟩
      · exact ⟨rfl, rfl⟩
    refine ⟨?_, e⟩
    unfold fl
    rw [e.1, e.2]
    rfl
theorem TI.irqC (h : TI now n E) {i : Nat} (hi : i < n) : TI now n (E.irq i).1 ∧ ((E.irq i).1.c i).D.latched = false ∧ ((E.irq i).1.c i).Q = restB (E.c i).Q E.C.tm false 6 ∧ (∀ k, k ≠ i → (E.irq i).1.c k = E.c k) ∧ (E.irq i).1.C = E.C ∧ (E.irq i).2 = (expB (E.c i).Q E.C.tm false 6).map (frdOf E.C i) := by
  have hin : i < E.n := by rw [h.en]; exact hi
  have kd := h.kd i hi
  have sq := h.sq i hi
  have tk := take_same (E.c i).D
  have hl := lookD_same E.C (irqR E.C (E.c i))
  rw [irq_eq]
  obtain ⟨k1, _⟩ := h.inv.firs hin (lazy := false) (c := Go.Proofs.YtkcpojagecfcbaaGreatDoor.irqC E.C (E.c i)) rfl ⟨hl.1.trans tk.1, hl.2.1.trans tk.2.1⟩
  have hrr : (irqR E.C (E.c i)).raised = false := by
    show ((E.c i).raised || dueB (restB (E.c i).Q E.C.tm false 6) E.C.tm true) = false
    rw [h.rs i hi, noLazy sq]; rfl
  have sq2 : SQ (irqR E.C (E.c i)) := sq.sub fun j => restB_sub j
  have dv := h.inv.dev i hin
  have ecI : (E.setC i (Go.Proofs.YtkcpojagecfcbaaGreatDoor.irqC E.C (E.c i))).c i = Go.Proofs.YtkcpojagecfcbaaGreatDoor.irqC E.C (E.c i) := upC_self _ _ _
  refine ⟨h.turn hi k1 (sq2.sub fun j => List.Sublist.refl _) hrr ?_, ?_, ?_, fun k hk => upC_ne _ _ hk, rfl, rfl⟩
  · refine look_kd (c := irqR E.C (E.c i)) h.mono h.o2 h.now0 hrr (fun j hj => (h.inv.srt i hin j hj).sublist (restB_sub j)) ⟨tk.1.trans dv.1, tk.2.1.trans dv.2⟩ (tk.2.2.2.1.trans kd.off) sq2 ?_ ?_
    · show (E.c i).D.take.1.armed = true → now < (E.c i).D.take.1.at'
      rw [tk.2.2.2.2.1, tk.2.2.2.2.2]
      exact kd.ah
    · exact .inr fun j hj t ht => rest_later h.mono h.o2 h.now0 sq (h.inv.srt i hin) hj ht
  · show ((E.setC i (Go.Proofs.YtkcpojagecfcbaaGreatDoor.irqC E.C (E.c i))).c i).D.latched = false
    rw [ecI]
    exact hl.2.2.1.trans tk.2.2.1
  · show ((E.setC i (Go.Proofs.YtkcpojagecfcbaaGreatDoor.irqC E.C (E.c i))).c i).Q = _
    rw [ecI]
    rfl
theorem TI.settle {k : Nat} (hs : SetTo k E E' F) (h : TI now n E) : TI now n E' ∧ F = (List.range n).flatMap (fl E) ∧ (∀ i, i < n → (E'.c i).Q = if (E.c i).D.latched = true then restB (E.c i).Q E.C.tm false 6 else (E.c i).Q) ∧ E'.C = E.C ∧ ∀ i, i < n → (E'.c i).D.latched = false ∧ (E'.c i).kicked = false := by
  induction hs with
  | stop E h1 =>
    have hp : ∀ i, i < n → (E.c i).kicked = false ∧ (E.c i).D.latched = false ∧ (E.c i).raised = false := fun i hi => one_none h.inv.on h1 (h.on i hi)
    refine ⟨h, ?_, fun i hi => ?_, rfl, fun i hi => ⟨(hp i hi).2.1, (hp i hi).1⟩⟩
    · symm
      rw [List.flatMap_eq_nil_iff]
      intro i hi
      unfold fl
      rw [(hp i (List.mem_range.1 hi)).2.1, if_neg (by simp)]
    · rw [(hp i hi).2.1, if_neg (by simp)]
  | step m E E1 E' F1 F2 h1 _ ih =>
    unfold Eng.one at h1
    rw [h.list] at h1
    split at h1
    · next i hi =>
      cases h1
      obtain ⟨_, hi2, _⟩ := List.find?_range_eq_some.1 hi
      have hi3 := List.mem_range.1 hi2
      obtain ⟨t1, t2⟩ := h.kickC hi3
      obtain ⟨r1, r2, r3, r4, r5⟩ := ih t1
      have eC : (E.kick i).C = E.C := by rw [kick_eq]; rfl
      refine ⟨r1, ?_, fun k hk => ?_, r4.trans eC, r5⟩
      · rw [List.nil_append, r2]
        refine congrArg List.flatten (List.map_congr_left fun k _ => (t2 k).1)
      · rw [r3 k hk, (t2 k).2.1, (t2 k).2.2, eC]
    · split at h1
      · next i hi =>
        have h1 := Option.some.inj h1
        obtain ⟨hp, hi2, hno⟩ := List.find?_range_eq_some.1 hi
        have hi3 := List.mem_range.1 hi2
        obtain ⟨t1, t2, t3, t4, t5, t6⟩ := h.irqC hi3
        rw [h1] at t1 t2 t3 t4 t5 t6
        have t6 : F1 = (expB (E.c i).Q E.C.tm false 6).map (frdOf E.C i) := t6
        have t5 : E1.C = E.C := t5
        have t4 : ∀ k, k ≠ i → E1.c k = E.c k := t4
        have t3 : (E1.c i).Q = restB (E.c i).Q E.C.tm false 6 := t3
        have t2 : (E1.c i).D.latched = false := t2
        obtain ⟨r1, r2, r3, r4, r5⟩ := ih t1
        have hp : (E.c i).D.latched = true := hp
        refine ⟨r1, ?_, fun k hk => ?_, r4.trans t5, r5⟩
        · rw [r2, t6]
          have ei : fl E i = (expB (E.c i).Q E.C.tm false 6).map (frdOf E.C i) := by unfold fl; rw [if_pos hp]
          rw [← ei]
          symm
          refine flat_split hi3 (fun k hk => ?_) (fun k hk => ?_) ?_ (fun k hk => ?_)
          · have := hno k hk
            unfold fl
            rw [if_neg (by simpa using this)]
          · have := hno k hk
            unfold fl
            rw [t4 k (by omega), if_neg (by simpa using this)]
          · unfold fl
            rw [t2, if_neg (by simp)]
          · unfold fl
            rw [t4 k (by omega), t5]
        · rw [r3 k hk]
          by_cases e : k = i
          · subst e
            rw [t2, if_neg (by simp), t3, if_pos hp]
          · rw [t4 k e, t5]
      · split at h1
        · next i hi =>
          obtain ⟨hp, hi2, _⟩ := List.find?_range_eq_some.1 hi
          have := h.rs i (List.mem_range.1 hi2)
          rw [this] at hp
          cases hp
        · cases h1
end
set_option maxHeartbeats 4000000
/-- Ahead of a tick. -/
structure TK (now : Int) (n : Nat) (E : Eng) : Prop where
  ti : TI now n E
  la : ∀ i, i < n → (E.c i).D.latched = false
def outP (Q : Nat → List Tmr) (now : Int) (i : Nat) : List Frd := (expB Q (fun _ => now) false 6).map fun t => ⟨t.id, t.ck, i, now, now⟩
def outQ (Q : Nat → Nat → List Tmr) (now : Int) (n : Nat) : List Frd := (List.range n).flatMap fun i => outP (Q i) now i
/-- Behind an advance. -/
structure AV (now : Int) (n : Nat) (Q : Nat → Nat → List Tmr) (E : Eng) : Prop where
  ti : TI now n E
  fl : ∀ i, i < n → fl E i = outP (Q i) now i
  q : ∀ i, i < n → (if (E.c i).D.latched = true then restB (E.c i).Q E.C.tm false 6 else (E.c i).Q) = restB (Q i) (fun _ => now) false 6
theorem same_tm {Q : Nat → List Tmr} (hq : ∀ j, j < 6 → j ≠ 0 → j ≠ 4 → Q j = []) {tm : Nat → Int} {now : Int} (h0 : tm 0 = now) (h2 : tm 2 = now) : expB Q tm false 6 = expB Q (fun _ => now) false 6 ∧ restB Q tm false 6 = restB Q (fun _ => now) false 6 := by
  have key : ∀ j, j < 6 → expS tm false j (Q j) = expS (fun _ => now) false j (Q j) ∧ restS tm false j (Q j) = restS (fun _ => now) false j (Q j) := fun j hj => by
    by_cases e0 : j = 0
    · subst e0
      show (if 0 % 2 = sideN false then expL (Q 0) (tm 0) else []) = _ ∧ (if 0 % 2 = sideN false then restL (Q 0) (tm 0) else Q 0) = _
      rw [h0]; exact ⟨rfl, rfl⟩
    · by_cases e4 : j = 4
      · subst e4
        show (if 4 % 2 = sideN false then expL (Q 4) (tm 2) else []) = _ ∧ (if 4 % 2 = sideN false then restL (Q 4) (tm 2) else Q 4) = _
        rw [h2]; exact ⟨rfl, rfl⟩
      · rw [hq j hj e0 e4]
        unfold expS restS expL restL
        constructor <;> (split <;> rfl)
  constructor
  · unfold expB
    exact congrArg List.flatten (List.map_congr_left fun j hj => (key j (List.mem_range.1 hj)).1)
  · funext j
    unfold restB
    split
    · next hj => exact (key j hj).2
    · rfl
theorem exp_rest_none {Q : Nat → List Tmr} {now : Int} (h : ∀ j, j < 6 → ∀ t ∈ Q j, isDue t now = false) : expB Q (fun _ => now) false 6 = [] ∧ restB Q (fun _ => now) false 6 = Q := by
  have key : ∀ l : List Tmr, (∀ t ∈ l, isDue t now = false) → expL l now = [] ∧ restL l now = l := fun l hl => by
    unfold expL restL
    cases l with
    | nil => exact ⟨rfl, rfl⟩
    | cons t l => rw [List.takeWhile_cons, List.dropWhile_cons, hl t (by simp)]; exact ⟨rfl, rfl⟩
  constructor
  · unfold expB
    rw [List.flatMap_eq_nil_iff]
    intro j hj
    unfold expS
    split
    · exact (key _ (h j (List.mem_range.1 hj))).1
    · rfl
  · funext j
    unfold restB restS
    split
    · next hj =>
      split
      · exact (key _ (h j hj)).2
      · rfl
    · rfl
theorem exp_mem {Q : Nat → List Tmr} {now : Int} {t : Tmr} (h : t ∈ expB Q (fun _ => now) false 6) : ∃ j, j < 6 ∧ t ∈ Q j ∧ isDue t now = true := by
  unfold expB at h
  obtain ⟨j, hj, ht⟩ := List.mem_flatMap.1 h
  unfold expS at ht
  split at ht
  · unfold expL at ht
    refine ⟨j, List.mem_range.1 hj, (List.takeWhile_sublist _).subset ht, ?_⟩
    exact (List.all_eq_true.1 (List.all_takeWhile (l := Q j) (p := fun t => isDue t now))) t ht
  · cases ht
theorem exp_or {Q : Nat → List Tmr} {now : Int} {t : Tmr} {j : Nat} (hj : j < 6) (h : t ∈ Q j) : t ∈ expB Q (fun _ => now) false 6 ∨ t ∈ restB Q (fun _ => now) false 6 j := by
  have e := expS_rest (fun _ => now) false j (Q j)
  rw [← e] at h
  rcases List.mem_append.1 h with h | h
  · exact .inl (List.mem_flatMap.2 ⟨j, List.mem_range.2 hj, h⟩)
  · refine .inr ?_
    unfold restB
    rw [if_pos hj]
    exact h
section
variable {now : Int} {n : Nat} {E E' : Eng} {F : List Frd} {s : Stq} {x : Int} {Q : Nat → Nat → List Tmr}
theorem TI.ckj (h : TI now n E) {i j : Nat} (hi : i < n) (hj : j < 6) {t : Tmr} (ht : t ∈ (E.c i).Q j) : (j = 0 ∨ j = 4) ∧ t.ck = (j / 2 : Nat) :=
  ⟨(h.sq i hi).j hj ht, (h.inv.pl i (by rw [h.en]; exact hi) j hj t ht).1⟩
theorem TK.adv (h : TK now n E) (h9 : now < 1000) (hd : DoTo E s E' F x) (k1 : s.kind = 3) (n1 : s.n = 1) : AV (now + 1) n (fun i => (E.c i).Q) E' ∧ F = [] := by
  obtain ⟨i1, _⟩ := hd.inv h.ti.inv
  obtain ⟨e1, e2, _⟩ := do_adv hd k1
  refine ⟨?_, e2⟩
  have hm := h.ti.mono
  have hn0 := h.ti.now0
  have hsum := h.ti.inv.ck.sum
  rw [h.ti.awake, h.ti.o2] at hsum
  simp only [Bool.false_eq_true, if_false] at hsum
  have hadv : E.C.adv 1 = ({ E.C with ctr := E.C.ctr + 1, mono := E.C.mono + 1 }, 0) := by
    unfold Clk.adv
    rw [if_neg (by omega), if_neg (by rw [h.ti.awake]; simp)]
  rw [n1] at e1
  have e1 : E' = ({ E with C := { E.C with ctr := E.C.ctr + 1, mono := E.C.mono + 1 } } : Eng).passed E.n := by
    rw [e1]
    unfold Eng.advance
    rw [hadv]
    rfl
  have ec : ∀ i, i < n → E'.c i = passC { E.C with ctr := E.C.ctr + 1, mono := E.C.mono + 1 } (E.c i) := fun i hi => by
    rw [e1]
    exact passed_c { E with C := { E.C with ctr := E.C.ctr + 1, mono := E.C.mono + 1 } } (by rw [← h.ti.en] at hi; exact hi)
  have eq : ∀ i, i < n → (E'.c i).Q = (E.c i).Q := fun i hi => by rw [ec i hi]; rfl
  have hC : E'.C = { E.C with ctr := E.C.ctr + 1, mono := E.C.mono + 1 } := by rw [e1]; rfl
  have ti : TI (now + 1) n E' := by
    refine ⟨i1, by rw [e1]; exact h.ti.en, by rw [e1]; exact h.ti.on, by rw [hC]; show E.C.mono + 1 = _; omega, by rw [hC]; exact h.ti.o2, by rw [hC]; exact h.ti.awake, by omega, fun i hi => ?_, fun i hi => ?_, fun i hi => ?_⟩
    · exact (h.ti.sq i hi).sub fun j => by rw [eq i hi]; exact List.Sublist.refl _
    · rw [ec i hi]; exact h.ti.rs i hi
    · have kd := h.ti.kd i hi
      have la := h.la i hi
      rw [ec i hi]
      unfold passC Dev.pass
      split
      · exact ⟨kd.off, fun q => (by cases q), .inl rfl⟩
      · next hno =>
        refine ⟨kd.off, fun q => ?_, .inr fun j hj t ht => ?_⟩
        · have q : (E.c i).D.armed = true := q
          show now + 1 < (E.c i).D.at'
          apply Int.not_le.1
          intro hle
          apply hno
          refine ⟨q, ?_⟩
          show _ ≤ cl (E.C.mono + 1)
          rw [cl_id (by omega) (by omega)]
          omega
        · rcases kd.all with q | q
          · rw [la] at q; cases q
          · exact q j hj t ht
  obtain ⟨t0, t2⟩ := tm_now ti.mono ti.o2
  have hnd : ∀ i, i < n → (E'.c i).D.latched ≠ true → ∀ j, j < 6 → ∀ t ∈ (E.c i).Q j, isDue t (now + 1) = false := fun i hi hl j hj t ht => by
    have hlater := (ti.kd i hi).later
    rcases hlater with q | q
    · exact absurd q hl
    · have := q j hj t (by rw [eq i hi]; exact ht)
      have hb := (h.ti.sq i hi).b j hj t ht
      unfold isDue
      rw [Bool.and_eq_false_iff]
      refine .inr (decide_eq_false fun hc => ?_)
      rw [cl_id (by omega) (by omega), cl_id (by omega) (by omega)] at hc
      omega
  refine ⟨ti, fun i hi => ?_, fun i hi => ?_⟩
  · unfold fl outP
    split
    · have q := (same_tm (ti.sq i hi).q t0 t2).1
      rw [q, eq i hi]
      refine List.map_congr_left fun t ht => ?_
      obtain ⟨j, hj, hm, _⟩ := exp_mem ht
      obtain ⟨hj2, hck⟩ := h.ti.ckj hi hj hm
      unfold frdOf
      rw [t0]
      have : E'.C.tm t.ck.toNat = now + 1 := by
        rw [hck, Int.toNat_natCast]
        rcases hj2 with rfl | rfl
        · exact t0
        · exact t2
      rw [this]
    · next hl =>
      rw [(exp_rest_none (hnd i hi hl)).1]
      rfl
  · split
    · rw [(same_tm (ti.sq i hi).q t0 t2).2, eq i hi]
    · next hl =>
      rw [(exp_rest_none (hnd i hi hl)).2, eq i hi]
theorem AV.settle (h : AV now n Q E) (hd : DoTo E s E' F x) (k1 : s.kind = 12) : TK now n E' ∧ F = outQ Q now n ∧ ∀ i, i < n → (E'.c i).Q = restB (Q i) (fun _ => now) false 6 := by
  obtain ⟨_, k, hs⟩ := do_settle hd k1
  obtain ⟨r1, r2, r3, r4, r5⟩ := h.ti.settle hs
  refine ⟨⟨r1, fun i hi => (r5 i hi).1⟩, ?_, fun i hi => (r3 i hi).trans (h.q i hi)⟩
  rw [r2]
  exact congrArg List.flatten (List.map_congr_left fun i hi => h.fl i (List.mem_range.1 hi))
theorem AV.congr (h : AV now n Q E) {Q' : Nat → Nat → List Tmr} (e : ∀ i, i < n → Q i = Q' i) : AV now n Q' E :=
  ⟨h.ti, fun i hi => by rw [← e i hi]; exact h.fl i hi, fun i hi => by rw [← e i hi]; exact h.q i hi⟩
theorem TK.set (h : TK now n E) (hd : DoTo E s E' F x) (k1 : s.kind = 7) : TK now n E' ∧ F = [] ∧ ∀ i, (E'.c i).Q = (E.c i).Q := by
  obtain ⟨i1, _⟩ := hd.inv h.ti.inv
  obtain ⟨e1, e2, _⟩ := do_set hd k1
  have hC : (E.C.set s.n).1.mono = E.C.mono ∧ (E.C.set s.n).1.o2 = E.C.o2 ∧ (E.C.set s.n).1.asleep = E.C.asleep := by
    unfold Clk.set Clk.move
    split
    · exact ⟨rfl, rfl, rfl⟩
    · split <;> exact ⟨rfl, rfl, rfl⟩
  obtain ⟨_, _, b3, b4, b5⟩ := h.ti.inv.stepC (ck_set h.ti.inv.ck s.n)
  rw [← e1] at b3 b4 b5
  have ec : ∀ i, ∃ b, E'.c i = { E.c i with kicked := b } := fun i => by
    rw [e1]
    unfold Eng.stepC
    split
    · exact ⟨_, rfl⟩
    · rw [kicks_c]
      split
      · exact ⟨true, rfl⟩
      · exact ⟨_, rfl⟩
  refine ⟨⟨⟨i1, b5.trans h.ti.en, fun i hi => by rw [b4]; exact h.ti.on i hi, by rw [b3, hC.1]; exact h.ti.mono, by rw [b3, hC.2.1]; exact h.ti.o2, by rw [b3, hC.2.2]; exact h.ti.awake, h.ti.now0, fun i hi => ?_, fun i hi => ?_, fun i hi => ?_⟩, fun i hi => ?_⟩, e2, fun i => ?_⟩
  all_goals
    obtain ⟨b, e⟩ := ec i
    rw [e]
  · have := h.ti.sq i hi; exact ⟨this.q, this.b⟩
  · exact h.ti.rs i hi
  · have := h.ti.kd i hi; exact ⟨this.off, this.ah, this.all⟩
  · exact h.la i hi
/-- Who sleeps has a timer; each timer is a sleeper's. -/
structure Sl' (n : Nat) (S : Nat → Slp) (A : Nat → Bool) (Q : Nat → Nat → List Tmr) : Prop where
  t : ∀ i, i < n → ∀ j, j < 6 → ∀ t ∈ Q i j, t.soft ≤ 255 ∧ ∃ k : Nat, k < 32 ∧ t.id = k ∧ A k = true ∧ (S k).ck = t.ck ∧ (S k).till = t.soft
  a : ∀ k, A k = true → k < 32 ∧ ∃ i, i < n ∧ ∃ j, j < 6 ∧ ∃ t ∈ Q i j, t.id = k
variable {S : Nat → Slp} {A : Nat → Bool}
theorem Sl'.congr (h : Sl' n S A Q) {Q' : Nat → Nat → List Tmr} (e : ∀ i, i < n → Q' i = Q i) : Sl' n S A Q' :=
  ⟨fun i hi j hj t ht => h.t i hi j hj t (by rw [← e i hi]; exact ht), fun k hk => by
    obtain ⟨a, i, hi, j, hj, t, ht, q⟩ := h.a k hk
    exact ⟨a, i, hi, j, hj, t, by rw [e i hi]; exact ht, q⟩⟩
theorem wakeL_congr {tm tm' : Nat → Int} : ∀ {A : Nat → Bool} {F : List Frd}, (∀ f ∈ F, overS (S f.id.toNat) tm = overS (S f.id.toNat) tm') → wakeL S tm A F = wakeL S tm' A F
  | A, [], _ => rfl
  | A, f :: l, h => by
    rw [wakeL_cons, wakeL_cons, h f (by simp), wakeL_congr (A := A) (F := l) fun g hg => h g (by simp [hg]), wakeL_congr (A := upN' A f.id.toNat false) (F := l) fun g hg => h g (by simp [hg])]
theorem wakeL_A {tm : Nat → Int} : ∀ {A : Nat → Bool} {F : List Frd}, (∀ f ∈ F, overS (S f.id.toNat) tm = true) → ∀ k, (wakeL S tm A F).2 k = (A k && !(F.any fun f => f.id.toNat == k))
  | A, [], _, k => by simp [wakeL_nil]
  | A, f :: l, h, k => by
    have i1 := wakeL_A (A := A) (F := l) (fun g hg => h g (by simp [hg])) k
    have i2 := wakeL_A (A := upN' A f.id.toNat false) (F := l) (fun g hg => h g (by simp [hg])) k
    rw [wakeL_cons, h f (by simp), Bool.and_true, List.any_cons]
    by_cases e : f.id.toNat = k
    · subst e
      split
      · rw [i2]; unfold upN'; simp
      · next hA => rw [i1]; simp at hA; simp [hA]
    · have e2 : (f.id.toNat == k) = false := by simpa using e
      rw [e2, Bool.false_or]
      split
      · rw [i2]; unfold upN'; rw [if_neg (fun q => e q.symm)]
      · exact i1
theorem Sl'.ckr (hI : TI now n E) (h : Sl' n S A fun i => (E.c i).Q) : ∀ k, A k = true → 0 ≤ (S k).ck ∧ (S k).ck < 3 := fun k hk => by
  obtain ⟨_, i, hi, j, hj, t, ht, e⟩ := h.a k hk
  obtain ⟨_, k', _, e2, _, e3, _⟩ := h.t i hi j hj t ht
  have : k' = k := by omega
  subst this
  obtain ⟨_, hck⟩ := hI.ckj hi hj ht
  rw [e3, hck]
  omega
theorem outQ_mem {now' : Int} {f : Frd} (hf : f ∈ outQ Q now' n) : ∃ i j t, i < n ∧ j < 6 ∧ t ∈ Q i j ∧ t ∈ expB (Q i) (fun _ => now') false 6 ∧ isDue t now' = true ∧ f.id = t.id := by
  unfold outQ at hf
  obtain ⟨i, hi, hf⟩ := List.mem_flatMap.1 hf
  unfold outP at hf
  obtain ⟨t, ht, rfl⟩ := List.mem_map.1 hf
  obtain ⟨j, hj, hm, hd⟩ := exp_mem ht
  exact ⟨i, j, t, List.mem_range.1 hi, hj, hm, ht, hd, rfl⟩
theorem Sl'.over (hI : TI now n E) (h : Sl' n S A fun i => (E.c i).Q) {now' : Int} {tm : Nat → Int} (hn : 0 ≤ now' ∧ now' ≤ 1000) (t0 : tm 0 = now') (t2 : tm 2 = now') : ∀ f ∈ outQ (fun i => (E.c i).Q) now' n, (∃ k : Nat, k < 32 ∧ f.id = k) ∧ overS (S f.id.toNat) tm = true := fun f hf => by
  obtain ⟨i, j, t, hi, hj, ht, _, hd, e⟩ := outQ_mem hf
  obtain ⟨h255, k, hk, e2, hA, e3, e4⟩ := h.t i hi j hj t ht
  obtain ⟨hj2, hck⟩ := hI.ckj hi hj ht
  have hb := (hI.sq i hi).b j hj t ht
  refine ⟨⟨k, hk, by omega⟩, ?_⟩
  have ek : f.id.toNat = k := by omega
  rw [ek]
  unfold overS
  have etm : tm (S k).ck.toNat = now' := by
    rw [e3, hck, Int.toNat_natCast]
    rcases hj2 with rfl | rfl
    · exact t0
    · exact t2
  rw [etm, e4]
  unfold isDue at hd
  simp only [Bool.and_eq_true, decide_eq_true_eq] at hd ⊢
  rw [cl_id (by omega) (by omega), cl_id (by omega) (by omega)] at hd
  rw [cl_id (by omega) (by omega)]
  exact hd
theorem Sl'.next (hI : TI now n E) (h : Sl' n S A fun i => (E.c i).Q) {now' : Int} {tm : Nat → Int} (hn : 0 ≤ now' ∧ now' ≤ 1000) (t0 : tm 0 = now') (t2 : tm 2 = now') : Sl' n S (wakeL S tm A (outQ (fun i => (E.c i).Q) now' n)).2 fun i => restB (E.c i).Q (fun _ => now') false 6 := by
  have hA := wakeL_A (S := S) (tm := tm) (A := A) (F := outQ (fun i => (E.c i).Q) now' n) fun f hf => (h.over hI hn t0 t2 f hf).2
  constructor
  · intro i hi j hj t ht
    have hm := (restB_sub j).subset ht
    obtain ⟨h255, k, hk, e2, hAk, e3, e4⟩ := h.t i hi j hj t hm
    refine ⟨h255, k, hk, e2, ?_, e3, e4⟩
    rw [hA, hAk, Bool.true_and, Bool.not_eq_true', List.any_eq_false]
    intro f hf he
    obtain ⟨i', j', t', hi', hj', ht', _, hd', e'⟩ := outQ_mem hf
    obtain ⟨h255', k', hk', e2', _, _, e4'⟩ := h.t i' hi' j' hj' t' ht'
    have he : f.id.toNat = k := by simpa using he
    have : k' = k := by omega
    subst this
    have hsoft : t'.soft = t.soft := by omega
    obtain ⟨hj2, _⟩ := hI.ckj hi hj hm
    have er : restB (E.c i).Q (fun _ => now') false 6 j = restL ((E.c i).Q j) now' := by
      unfold restB restS
      rw [if_pos hj, if_pos (by rcases hj2 with rfl | rfl <;> rfl)]
    rw [er] at ht
    refine due_gone (hI.inv.srt i (by rw [hI.en]; exact hi) j hj) (t := t) ?_ ht
    unfold isDue at hd' ⊢
    rw [← hsoft]
    exact hd'
  · intro k hk
    rw [hA] at hk
    simp only [Bool.and_eq_true, Bool.not_eq_true', List.any_eq_false] at hk
    obtain ⟨hk32, i, hi, j, hj, t, ht, e⟩ := h.a k hk.1
    refine ⟨hk32, i, hi, j, hj, t, ?_, e⟩
    rcases exp_or (now := now') hj ht with q | q
    · exfalso
      refine hk.2 ⟨t.id, t.ck, i, now', now'⟩ ?_ (by simp [e])
      unfold outQ outP
      exact List.mem_flatMap.2 ⟨i, List.mem_range.2 hi, List.mem_map.2 ⟨t, q, rfl⟩⟩
    · exact q
/-- None sleeps any more. -/
theorem Sl'.none (hI : TK now n E) (h : Sl' n S A fun i => (E.c i).Q) (hn : 255 ≤ now) (k : Nat) : A k = false := by
  cases hA : A k with
  | false => rfl
  | true =>
    obtain ⟨_, i, hi, j, hj, t, ht, e⟩ := h.a k hA
    obtain ⟨h255, _⟩ := h.t i hi j hj t ht
    rcases (hI.ti.kd i hi).later with q | q
    · rw [hI.la i hi] at q; cases q
    · have := q j hj t ht
      omega
end
set_option maxHeartbeats 4000000
structure PS (n i : Nat) (U : Usr) : Prop where
  tk : TK 0 n U.E
  un : U.n = n
  sl : Sl' n U.S U.A fun i => (U.E.c i).Q
  fr : ∀ k, i ≤ k → U.A k = false
  wl : U.E.wh.length ≤ i
theorem start_ok {lo hi : Int} {E : Eng} (h : Inv lo hi E) {s : Stq} {i : Nat} (hc : s.cpu = i) (hb : E.on.testBit i = true) (c0 : 0 ≤ s.t.ck) (c3 : s.t.ck < 3) (hh : s.t.soft ≤ s.t.hard) (hg : getN E.wh s.t.id = none) (hl : E.wh.length < 64) : E.start s = ((E.come i s.t).look i, 0) := by
  have hi0 := h.on.n i hb
  have h16 := h.on.n16
  have hq := startQ_ok (Q := (E.c i).Q) (t := s.t) (by omega) (by omega) (by omega) (hasB_none h hg hi0)
  have hM : hasM E.on (i : Int) = true := by
    unfold hasM
    rw [decide_eq_true (by omega), decide_eq_true (by omega), Int.toNat_natCast, hb]; rfl
  unfold Eng.start
  rw [hc, Int.toNat_natCast, if_neg (by rintro (q | q | q | q); (rw [hM] at q; cases q); all_goals omega), if_neg (by rw [hg]; simp), if_neg (by omega), if_pos hq.1, hq.2]
  rfl
theorem ps_new {n : Nat} (h1 : 1 ≤ n) (h16 : n ≤ 16) : PS n 0 (Usr.new n) := by
  have i1 : Inv 1 1073741824 (Eng.new n 1 1073741824) := inv_new h1 h16
  refine ⟨⟨⟨i1, rfl, fun i hi => ?_, rfl, rfl, rfl, by omega, fun i hi => ⟨fun _ _ _ _ => rfl, fun j _ t ht => by cases ht⟩, fun _ _ => rfl, fun i hi => ⟨rfl, fun q => (by cases q), .inr fun j _ t ht => by cases ht⟩⟩, fun _ _ => rfl⟩, rfl, ⟨fun i _ j _ t ht => (by cases ht), fun k hk => (by cases hk)⟩, fun _ _ => rfl, Nat.le_refl _⟩
  show (ofA 0 (List.range n)).testBit i = true
  rw [new_on h16, decide_eq_true hi]
section
variable {n i : Nat} {U : Usr}
theorem ps_X (h : PS n i U) {k : Nat} (hk : k < 3) {v : Int} (hv : 0 ≤ v ∧ v ≤ 255) : ∃ ck : Nat, (ck = 0 ∨ ck = 2) ∧ newS i k v U.E.C.tm = ⟨i, ck, v, true⟩ := by
  obtain ⟨t0, t2⟩ := tm_now h.tk.ti.mono h.tk.ti.o2
  have ha : addT v 0 = v := by unfold addT cl; rw [if_neg (by omega)]; omega
  have hk : k = 0 ∨ k = 1 ∨ k = 2 := by omega
  unfold newS
  rcases hk with rfl | rfl | rfl
  · exact ⟨0, .inl rfl, by simp [t0, ha]⟩
  · exact ⟨0, .inl rfl, by simp [t0, ha]⟩
  · exact ⟨2, .inr rfl, by simp [t2, ha]⟩
theorem PS.slept (h : PS n i U) (h1 : 1 ≤ n) (hi : i < 32) {k : Nat} (hk : k < 3) {v : Int} (hv : 0 ≤ v ∧ v ≤ 255) : PS n (i + 1) (U.slept i k v) := by
  obtain ⟨ck, hck, hX⟩ := ps_X h hk hv
  obtain ⟨t0, t2⟩ := tm_now h.tk.ti.mono h.tk.ti.o2
  have hti := h.tk.ti
  have hI := hti.inv
  have etm : U.E.C.tm ck = 0 := by rcases hck with rfl | rfl; exact t0; exact t2
  have hAi : U.A i = false := h.fr i (Nat.le_refl _)
  have hov : overS ⟨i, ck, v, true⟩ U.E.C.tm = decide (v ≤ 0) := by
    unfold overS
    show (decide (v < _) && decide (v ≤ cl (U.E.C.tm (ck : Int).toNat))) = _
    rw [Int.toNat_natCast, etm, decide_eq_true (by omega), Bool.true_and]
    rfl
  unfold Usr.slept
  rw [hX, hov]
  have nk : ∀ i', i' < n → ∀ j, j < 6 → ∀ t ∈ (U.E.c i').Q j, t.id ≠ (i : Int) := fun i' hi' j hj t ht e => by
    obtain ⟨_, k', _, e2, hA, _⟩ := h.sl.t i' hi' j hj t ht
    have : k' = i := by omega
    subst this
    rw [hAi] at hA
    cases hA
  by_cases hv0 : v ≤ 0
  · rw [decide_eq_true hv0, if_pos rfl]
    have eA : ∀ k, upN' (upN' U.A i true) i false k = U.A k := fun k => by
      unfold upN'
      split
      · next e => subst e; exact hAi.symm
      · rfl
    refine ⟨h.tk, h.un, ⟨fun i' hi' j hj t ht => ?_, fun k hk => ?_⟩, fun k hk => ?_, Nat.le_succ_of_le h.wl⟩
    · obtain ⟨a, k', b, e2, hA, e3, e4⟩ := h.sl.t i' hi' j hj t ht
      have hne : k' ≠ i := fun e => nk i' hi' j hj t ht (by omega)
      refine ⟨a, k', b, e2, (eA k').trans hA, ?_, ?_⟩
      · show (upN' U.S i _ k').ck = _; unfold upN'; rw [if_neg hne]; exact e3
      · show (upN' U.S i _ k').till = _; unfold upN'; rw [if_neg hne]; exact e4
    · exact h.sl.a k ((eA k).symm.trans hk)
    · exact (eA k).trans (h.fr k (by omega))
  · rw [decide_eq_false hv0, if_neg (by simp)]
    obtain ⟨cpu, hcpu⟩ : ∃ cpu, i % U.n = cpu := ⟨_, rfl⟩
    have hcn : cpu < n := by rw [← hcpu, h.un]; exact Nat.mod_lt _ (by omega)
    have hcE : cpu < U.E.n := by rw [hti.en]; exact hcn
    have hb := hti.on cpu hcn
    have hg : getN U.E.wh (i : Int) = none := by
      cases hg : getN U.E.wh (i : Int) with
      | none => rfl
      | some c =>
        obtain ⟨t, ht, e⟩ := hI.get.1 hg
        obtain ⟨hc, j, hj, hm⟩ := all_mem.1 ht
        exact absurd e (nk c (by rw [← hti.en]; exact hc) j hj t hm)
    obtain ⟨T, hT⟩ : ∃ T : Tmr, (⟨i, ck, v, v, false⟩ : Tmr) = T := ⟨_, rfl⟩
    have T1 : T.id = i := by rw [← hT]
    have T2 : T.ck = ck := by rw [← hT]
    have T3 : T.soft = v := by rw [← hT]
    have T4 : T.hard = v := by rw [← hT]
    have T5 : T.lazy = false := by rw [← hT]
    have hput : U.E.put i ck v (i % U.n) false = (U.E.come cpu T).look cpu := by
      unfold Eng.put
      rw [hcpu, hT]
      rcases cancel_spec hI (i : Int) with ⟨_, e⟩ | ⟨t, c, _, _, e, _⟩
      · rw [e, start_ok hI (s := ⟨1, cpu, 0, T⟩) rfl hb (by show 0 ≤ T.ck; omega) (by show T.ck < 3; omega) (by show T.soft ≤ T.hard; omega) (by show getN _ T.id = none; rw [T1]; exact hg) (by have := h.wl; omega)]
      · rw [hg] at e; cases e
    have hjT : jOf T = 0 ∨ jOf T = 4 := by
      unfold jOf sideN
      rw [T2, T5, Int.toNat_natCast]
      rcases hck with rfl | rfl
      · exact .inl rfl
      · exact .inr rfl
    obtain ⟨c1, c2⟩ := hI.come hb (t := T) (by omega) (by omega) (by omega) (by rw [T1]; exact hg) (by have := h.wl; omega)
    obtain ⟨l1, _⟩ := c1.look cpu
    have hlook : (U.E.come cpu T).look cpu = { U.E.setC cpu { ({ U.E.c cpu with Q := upQ (U.E.c cpu).Q (jOf T) (insT ((U.E.c cpu).Q (jOf T)) T) } : Cp) with D := lookD U.E.C { U.E.c cpu with Q := upQ (U.E.c cpu).Q (jOf T) (insT ((U.E.c cpu).Q (jOf T)) T) } } with wh := putN U.E.wh T.id cpu } := by
      unfold Eng.come
      exact look_setCw _ _ _ _
    rw [hlook] at l1 hput
    obtain ⟨Q', hQ'⟩ : ∃ Q', upQ (U.E.c cpu).Q (jOf T) (insT ((U.E.c cpu).Q (jOf T)) T) = Q' := ⟨_, rfl⟩
    rw [hQ'] at l1 hput
    have mQ : ∀ j t, t ∈ Q' j ↔ (j = jOf T ∧ t = T) ∨ t ∈ (U.E.c cpu).Q j := fun j t => by
      rw [← hQ']
      unfold upQ
      split
      · next e =>
        subst e
        rw [(insT_perm _ _).mem_iff, List.mem_cons]
        simp
      · next e => simp [e]
    have hj6 : jOf T < 6 := by omega
    have kd := hti.kd cpu hcn
    have la := h.tk.la cpu hcn
    have sq := hti.sq cpu hcn
    have rs := hti.rs cpu hcn
    have sq' : SQ { U.E.c cpu with Q := Q' } := by
      refine ⟨fun j hj h0 h4 => ?_, fun j hj t ht => ?_⟩
      · show Q' j = []
        cases hl : Q' j with
        | nil => rfl
        | cons t l =>
          have : t ∈ Q' j := by rw [hl]; simp
          rcases (mQ j t).1 this with ⟨e, _⟩ | hm
          · omega
          · rw [sq.q j hj h0 h4] at hm; cases hm
      · rcases (mQ j t).1 ht with ⟨_, e⟩ | hm
        · subst e; omega
        · exact sq.b j hj t hm
    have srt' : ∀ j, j < 6 → Srt (Q' j) := fun j hj => by
      rw [← hQ']
      unfold upQ
      split
      · next e => subst e; exact insT_srt (hI.srt cpu hcE _ hj) T
      · exact hI.srt cpu hcE j hj
    have kd' : KD 0 { ({ U.E.c cpu with Q := Q' } : Cp) with D := lookD U.E.C { U.E.c cpu with Q := Q' } } := by
      refine look_kd (c := { U.E.c cpu with Q := Q' }) hti.mono hti.o2 (by omega) rs srt' (hI.dev cpu hcE) kd.off sq' kd.ah (.inr fun j hj t ht => ?_)
      rcases (mQ j t).1 ht with ⟨_, e⟩ | hm
      · subst e; omega
      · rcases kd.later with q | q
        · rw [la] at q; cases q
        · exact q j hj t hm
    have ti' := hti.turn (c := { ({ U.E.c cpu with Q := Q' } : Cp) with D := lookD U.E.C { U.E.c cpu with Q := Q' } }) (w := putN U.E.wh T.id cpu) hcn l1 (sq'.sub fun j => List.Sublist.refl _) rs kd'
    rw [← hput] at ti'
    have eQ : ∀ i', i' < n → ((U.E.put i ck v (i % U.n) false).c i').Q = if i' = cpu then Q' else (U.E.c i').Q := fun i' _ => by
      rw [hput]
      show (upC U.E.c cpu _ i').Q = _
      unfold upC
      split <;> rfl
    have eL : ∀ i', i' < n → ((U.E.put i ck v (i % U.n) false).c i').D.latched = false := fun i' hi' => by
      rw [hput]
      show (upC U.E.c cpu _ i').D.latched = _
      unfold upC
      split
      · show (lookD _ _).latched = false
        rw [(lookD_same _ _).2.2.1]
        exact la
      · exact h.tk.la i' hi'
    have mQ2 : ∀ i', i' < n → ∀ j t, t ∈ ((U.E.put i ck v (i % U.n) false).c i').Q j → (i' = cpu ∧ j = jOf T ∧ t = T) ∨ t ∈ (U.E.c i').Q j := fun i' hi' j t ht => by
      rw [eQ i' hi'] at ht
      split at ht
      · next e =>
        rcases (mQ j t).1 ht with q | q
        · exact .inl ⟨e, q⟩
        · rw [e]; exact .inr q
      · exact .inr ht
    have eA : ∀ k, k ≠ i → upN' U.A i true k = U.A k := fun k hk => by unfold upN'; rw [if_neg hk]
    have eAi : upN' U.A i true i = true := by unfold upN'; rw [if_pos rfl]
    refine ⟨⟨ti', eL⟩, h.un, ⟨fun i' hi' j hj t ht => ?_, fun k hk => ?_⟩, fun k hk => (eA k (by omega)).trans (h.fr k (by omega)), ?_⟩
    · rcases mQ2 i' hi' j t ht with ⟨_, _, e⟩ | hm
      · subst e
        refine ⟨by omega, i, hi, T1, eAi, ?_, ?_⟩
        · show (upN' U.S i _ i).ck = _; unfold upN'; rw [if_pos rfl, T2]
        · show (upN' U.S i _ i).till = _; unfold upN'; rw [if_pos rfl, T3]
      · obtain ⟨a, k', b, e2, hA, e3, e4⟩ := h.sl.t i' hi' j hj t hm
        have hne : k' ≠ i := fun e => nk i' hi' j hj t hm (by omega)
        refine ⟨a, k', b, e2, (eA k' hne).trans hA, ?_, ?_⟩
        · show (upN' U.S i _ k').ck = _; unfold upN'; rw [if_neg hne]; exact e3
        · show (upN' U.S i _ k').till = _; unfold upN'; rw [if_neg hne]; exact e4
    · by_cases e : k = i
      · subst e
        refine ⟨hi, cpu, hcn, jOf T, hj6, T, ?_, T1⟩
        show T ∈ ((U.E.put k ck v (k % U.n) false).c cpu).Q (jOf T)
        rw [eQ cpu hcn, if_pos rfl]
        exact (mQ _ _).2 (.inl ⟨rfl, rfl⟩)
      · have hk : upN' U.A i true k = true := hk
        rw [eA k e] at hk
        obtain ⟨a, i', hi', j, hj, t, ht, q⟩ := h.sl.a k hk
        refine ⟨a, i', hi', j, hj, t, ?_, q⟩
        show t ∈ ((U.E.put i ck v (i % U.n) false).c i').Q j
        rw [eQ i' hi']
        split
        · next e => subst e; exact (mQ _ _).2 (.inr ht)
        · exact ht
    · show (U.E.put i ck v (i % U.n) false).wh.length ≤ i + 1
      rw [hput]
      show (putN U.E.wh T.id cpu).length ≤ i + 1
      have := (putN_new (w := U.E.wh) (k := T.id) cpu (by rw [T1]; exact hg)).length_eq
      have := h.wl
      simp at *
      omega
/-- Two systems, of which one sees steps of Real. -/
structure SR (now : Int) (n : Nat) (U V : Usr) : Prop where
  a : TK now n U.E
  b : TK now n V.E
  q : ∀ i, i < n → (V.E.c i).Q = (U.E.c i).Q
  s : V.S = U.S
  w : V.A = U.A
  sl : Sl' n U.S U.A fun i => (U.E.c i).Q
theorem PS.sr (h : PS n i U) : SR 0 n U U := ⟨h.tk, h.tk, fun _ _ => rfl, rfl, rfl, h.sl⟩
variable {m m' : Mem} {b : UA}
theorem UsrR.keep (h : UsrR m b U) (hn : m.next ≤ m'.next) (ho : ∀ p ∈ b.all U.E.n, m'.obj p = m.obj p) : UsrR m' b U := by
  obtain ⟨rest, o⟩ := h.ou
  have hb : ∀ p ∈ b.a.all U.E.n, p ∈ b.all U.E.n := fun p hp => by unfold UA.all; simp [hp]
  exact ⟨⟨rest, by rw [ho _ (by unfold UA.all; simp)]; exact o⟩, by rw [ho _ (by unfold UA.all; simp)]; exact h.os, h.eng.keep hn fun p hp => ho p (hb p hp), h.n1, h.n2, h.n3, by have := h.lu; omega, by have := h.ls; omega⟩
end
set_option maxHeartbeats 16000000
theorem real_law (m0 : Mem) (x0 x1' x2' x3' : V) (h0 : IsV m0 (.int .u8) x0) (h1 : IsV m0 (.slice 1 (.int .u8)) x1') (h2 : IsV m0 (.slice 1 (.int .u8)) x2') (h3 : IsV m0 (.slice 1 (.int .u16)) x3') : ACalls Tryz.prog 5 [x0, x1', x2', x3'] m0 (fun r _ => r = .bool true) := by
  obtain ⟨c, rfl, hwc⟩ := h0.int
  replace hwc := wf_u8' hwc
  refine run_on xE hm c5 (by simp) fun hf => ?_
  obtain ⟨ns, hv1, hml1, hw1⟩ := h1.slI hf
  obtain ⟨cs, hv2, hml2, hw2⟩ := h2.slI hf
  obtain ⟨ts, hv3, hml3, hw3⟩ := h3.slI hf
  simp (disch := omega) [-getElem?_pos, b5]
  refine run7 fun m00 g00 => ?_
  have lv1 := hv1.lenSl
  have lv2 := hv2.lenSl
  have lv3 := hv3.lenSl
  rw [rowI_length] at lv1 lv2 lv3
  by_cases hl : (30 : Int) < ns.length
  · simp (disch := omega) [-getElem?_pos, lv1, lv2, lv3]
  by_cases hl3 : (300 : Int) < ts.length
  · simp (disch := omega) [-getElem?_pos, lv1, lv2, lv3]
  have hc4 : 0 ≤ c.tmod 4 ∧ c.tmod 4 < 4 := by rw [Int.tmod_eq_emod_of_nonneg hwc.1]; omega
  obtain ⟨n, hn, hn1, hn4⟩ : ∃ n : Nat, 1 + c.tmod 4 = (n : Int) ∧ 1 ≤ n ∧ n ≤ 4 := ⟨(1 + c.tmod 4).toNat, by omega, by omega, by omega⟩
  simp (disch := omega) [-getElem?_pos, lv1, lv2, lv3]
  rw [hn]
  refine unew17 (n := n) hn1 (by omega) fun a M1 g1 u1 f1 => ?_
  simp (disch := omega) [-getElem?_pos, lv1, lv2, lv3]
  rw [hn]
  refine unew17 (n := n) hn1 (by omega) fun b M2 g2 u2 f2 => ?_
  simp (disch := omega) [-getElem?_pos, lv1, lv2, lv3]
  have n00 := g00.next
  have n01 := g1.next
  have hA0 : ∀ p ∈ a.all n, m00.next ≤ p ∧ p < M1.next := fun p hp => ⟨f1 p hp, u1.lts p hp⟩
  have hB0 : ∀ p ∈ b.all n, M1.next ≤ p := f2
  have fA : ∀ p ∈ a.all n, m00.next ≤ p := fun p hp => (hA0 p hp).1
  have fB : ∀ p ∈ b.all n, m00.next ≤ p := fun p hp => by have := hB0 p hp; omega
  have hAB : ∀ p ∈ a.all n, p ∉ b.all n := fun p hp hq => by have := hA0 p hp; have := hB0 p hq; omega
  have G2 := g1.trans g2
  have uA2 := u1.grow g2
  refine exec_loopU (σ := Nat × Usr × Mem) (fun (i, _, _) => [(42, .int .i64 i), (41, .int .i64 ns.length), (40, x1'), (10, .ptr (some (b.u, 0, 0))), (9, .ptr (some (a.u, 0, 0))), (3, x3'), (2, x2')]) (fun (_, _, M) => M)
    (fun (i, U, M) => i ≤ ns.length ∧ UsrR M a U ∧ UsrR M b U ∧ PS n i U ∧ m00.Grew M) (fun (i, _, _) => ns.length - i)
    (0, Usr.new n, M2) rfl ⟨by omega, uA2, u2, ps_new hn1 (by omega), G2⟩ (by simp) ?_
  intro (i, U, M) ⟨b1, b2, b3, b4, b5⟩
  have gM := g00.trans b5
  by_cases hi : i < ns.length
  · obtain ⟨z, hz⟩ : ∃ z, ns[i] = z := ⟨_, rfl⟩
    have hwz := wf_u8' (hw1 z (hz ▸ List.getElem_mem hi))
    obtain ⟨p1, q1, full1, rw1, d1, d2, d3, d4, _⟩ := (hv1.grow gM).at (i := i) (x := [V.int .u8 z]) (by simp [rowI, hi, hz]) .i64
    have hI := b4.tk.ti.inv
    have eN : U.E.n = n := b4.tk.ti.en
    have hm4 : i % U.n < n := by rw [b4.un]; exact Nat.mod_lt _ (by omega)
    have hUn := b4.un
    by_cases hc : i < cs.length
    case' pos =>
      obtain ⟨y, hy⟩ : ∃ y, cs[i] = y := ⟨_, rfl⟩
      have hwy := wf_u8' (hw2 y (hy ▸ List.getElem_mem hc))
      obtain ⟨p2, q2, full2, rw2, e1, e2, e3, e4, _⟩ := (hv2.grow gM).at (i := i) (x := [V.int .u8 y]) (by simp [rowI, hc, hy]) .i64
      have hc3 : 0 ≤ y.tmod 3 ∧ y.tmod 3 < 3 := by rw [Int.tmod_eq_emod_of_nonneg hwy.1]; omega
      obtain ⟨k, hk, hk3⟩ : ∃ k : Nat, y.tmod 3 = (k : Int) ∧ k < 3 := ⟨(y.tmod 3).toNat, by omega, by omega⟩
      simp (disch := omega) [-getElem?_pos, lv1, lv2, lv3, d1, d2, d3, d4, e1, e2, e3, e4, splice]
      rw [hk]
    case' neg =>
      obtain ⟨k, hk, hk3⟩ : ∃ k : Nat, (1 : Int) = (k : Int) ∧ k < 3 := ⟨1, rfl, by omega⟩
      simp (disch := omega) [-getElem?_pos, lv1, lv2, lv3, d1, d2, d3, d4, splice]
      rw [show V.int .i64 1 = V.int .i64 k from by rw [← hk]]
    all_goals
      obtain ⟨ck, hck, hX⟩ := ps_X b4 hk3 (v := z) (by omega)
      have htop : (newS i k z U.E.C.tm).till < 4611686018427387903 := by rw [hX]; show z < _; omega
      have hon := b4.tk.ti.on _ hm4
      refine sleep18 (task := i) (k := k) (n := z) b2 hI (by omega) (b4.fr i (Nat.le_refl _)) hk3 (by omega) (by omega) (by omega) (by omega) hon htop fun M3 u3 i3 n3 s3 => ?_
      rw [eN] at s3
      have ub3 : UsrR M3 b U := b3.keep s3.next fun p hp => s3.obj p (b3.lts p hp) fun q => hAB p q (by rw [eN] at hp; exact hp)
      simp (disch := omega) [-getElem?_pos, lv1, lv2, lv3, splice]
      refine sleep18 (task := i) (k := k) (n := z) ub3 hI (by omega) (b4.fr i (Nat.le_refl _)) hk3 (by omega) (by omega) (by omega) (by omega) hon htop fun M4 u4 i4 n4 s4 => ?_
      rw [eN] at s4
      have ua4 : UsrR M4 a (U.slept i k z) := u3.keep s4.next fun p hp => s4.obj p (u3.lts p hp) fun q => hAB p (by rw [n3, eN] at hp; exact hp) q
      simp (disch := omega) [-getElem?_pos, lv1, lv2, lv3, splice]
      exact again_mk (i + 1, U.slept i k z, M4) ⟨by omega, ua4, u4, b4.slept hn1 (by omega) hk3 (by omega), s4.toGrew (s3.toGrew b5 fA) fB⟩ (by dsimp only; omega) (by first | (simp; done) | (have hk1 : k = 1 := (by omega); subst hk1; simp)) rfl
  · obtain rfl : i = ns.length := by omega
    have sr0 := b4.sr
    simp (disch := omega) [-getElem?_pos, lv1, lv2, lv3]
    refine exec_loopU (σ := Nat × Usr × Usr × Mem) (fun (now, _, _, _) => [(73, .int .i64 now), (10, .ptr (some (b.u, 0, 0))), (9, .ptr (some (a.u, 0, 0))), (3, x3')]) (fun (_, _, _, M) => M)
      (fun (now, U, Vb, M) => now ≤ 270 ∧ UsrR M a U ∧ UsrR M b Vb ∧ SR now n U Vb ∧ m00.Grew M) (fun (now, _, _, _) => 270 - now)
      (0, U, U, M) rfl ⟨by omega, b2, b3, sr0, b5⟩ (by simp) ?_
    clear b2 b3 b4 b5 sr0 gM
    clear U M
    intro (now, U, Vb, M) ⟨b1, b2, b3, b4, b5⟩
    have gM := g00.trans b5
    have b4 : SR (now : Int) n U Vb := b4
    by_cases hi : now < 270
    · have eNb0 := b4.b.ti.en
      by_cases hs : now < ts.length
      case' pos =>
        obtain ⟨z, hz⟩ : ∃ z, ts[now] = z := ⟨_, rfl⟩
        obtain ⟨p1, q1, full1, rw1, d1, d2, d3, d4, _⟩ := (hv3.grow gM).at (i := now) (x := [V.int .u16 z]) (by simp [rowI, hs, hz]) .i64
        have hwz : 0 ≤ z ∧ z ≤ 65535 := by
          have := hw3 z (hz ▸ List.getElem_mem hs)
          simpa [IntKind.min, IntKind.max, IntKind.signed, IntKind.bits] using wf_int this
        have st := fun {K1 : KV} => step19 (K := K1) b3 b4.b.ti.inv (s := ⟨7, 0, z, ⟨0, 0, 0, 0, false⟩⟩) (by show (7 : Int) ≠ 1; decide) (by show (7 : Int) ≠ 2; decide) (fun i hi => by rw [b4.s]; exact b4.sl.ckr b4.a.ti i (by rw [← b4.w]; exact hi)) (fun E' F x hd f hf => by rw [(do_set hd rfl).2.1] at hf; cases hf)
        unfold Stq.cs at st
        simp (disch := omega) [-getElem?_pos, lv3, d1, d2, d3, d4, splice]
        refine st fun E3 F3 x3 hd3 w3 M3 ub3 i3 n3 s3 _ => ?_
        clear st
        obtain ⟨tk3, rfl, eq3⟩ := b4.b.set hd3 rfl
        rw [wakeL_nil] at ub3
        rw [eNb0] at s3
        have sr3 : SR (now : Int) n U { Vb with E := E3, A := Vb.A } := ⟨b4.a, tk3, fun i hi => (eq3 i).trans (b4.q i hi), b4.s, b4.w, b4.sl⟩
        have ub3 : UsrR M3 b { Vb with E := E3, A := Vb.A } := ub3
        generalize ({ Vb with E := E3, A := Vb.A } : Usr) = V' at ub3 sr3
        have ua3 : UsrR M3 a U := b2.keep s3.next fun p hp => s3.obj p (b2.lts p hp) fun q => hAB p (by rw [b4.a.ti.en] at hp; exact hp) q
        have g3 := s3.toGrew b5 fB
        clear d1 d2 d3 d4 s3 tk3 hd3 eq3 b2 b3 b4 b5 gM
        simp (disch := omega) [-getElem?_pos, lv3, splice]
      case' neg =>
        have ua3 := b2
        have ub3 := b3
        have sr3 := b4
        have g3 := b5
        clear b2 b3 b4 b5 gM
        generalize Vb = V' at *
        generalize M = M3 at *
        simp (disch := omega) [-getElem?_pos, lv3, splice]
      all_goals
        have hIa := sr3.a.ti.inv
        have hIb := sr3.b.ti.inv
        have eNa : U.E.n = n := sr3.a.ti.en
        have eNb : V'.E.n = n := sr3.b.ti.en
        have hcka := sr3.sl.ckr sr3.a.ti
        have hckb : ∀ i, V'.A i = true → 0 ≤ (V'.S i).ck ∧ (V'.S i).ck < 3 := fun i hi => by rw [sr3.s]; exact hcka i (by rw [← sr3.w]; exact hi)
        have over := fun {tm : Nat → Int} => sr3.sl.over sr3.a.ti (now' := (now : Int) + 1) (tm := tm) (by omega)
        have st := fun {K1 : KV} => step19 (K := K1) ua3 hIa (s := ⟨3, 0, 1, ⟨0, 0, 0, 0, false⟩⟩) (by decide) (by decide) hcka (fun E' F x hd f hf => by rw [(do_adv hd rfl).2.1] at hf; cases hf)
        unfold Stq.cs at st
        refine st fun E4 F4 x4 hd4 v4 M4 ua4 i4 n4 s4 _ => ?_
        clear st
        obtain ⟨av4, rfl⟩ := sr3.a.adv (by omega) hd4 rfl rfl
        rw [wakeL_nil] at ua4
        rw [eNa] at s4
        have ub4 : UsrR M4 b V' := ub3.keep s4.next fun p hp => s4.obj p (ub3.lts p hp) fun q => hAB p q (by rw [eNb] at hp; exact hp)
        have st := fun {K1 : KV} => step19 (K := K1) ub4 hIb (s := ⟨3, 0, 1, ⟨0, 0, 0, 0, false⟩⟩) (by decide) (by decide) hckb (fun E' F x hd f hf => by rw [(do_adv hd rfl).2.1] at hf; cases hf)
        unfold Stq.cs at st
        simp (disch := omega) [-getElem?_pos, splice]
        refine st fun E5 F5 x5 hd5 v5 M5 ub5 i5 n5 s5 _ => ?_
        clear st
        obtain ⟨av5, rfl⟩ := sr3.b.adv (by omega) hd5 rfl rfl
        rw [wakeL_nil] at ub5
        rw [eNb] at s5
        replace av5 := av5.congr (Q' := fun i => (U.E.c i).Q) sr3.q
        have eN4 : E4.n = n := n4.trans eNa
        have eN5 : E5.n = n := n5.trans eNb
        have ua4 : UsrR M4 a { U with E := E4, A := U.A } := ua4
        have ub5 : UsrR M5 b { V' with E := E5, A := V'.A } := ub5
        have ua5 : UsrR M5 a { U with E := E4, A := U.A } := ua4.keep s5.next fun p hp => s5.obj p (ua4.lts p hp) fun q => hAB p (by have hp : p ∈ a.all E4.n := hp; rw [eN4] at hp; exact hp) q
        have i4 : Inv 1 1073741824 ({ U with E := E4, A := U.A } : Usr).E := i4
        have i5 : Inv 1 1073741824 ({ V' with E := E5, A := V'.A } : Usr).E := i5
        have st := fun {K1 : KV} => step19 (K := K1) ua5 i4 (s := ⟨12, 0, 0, ⟨0, 0, 0, 0, false⟩⟩) (by decide) (by decide) hcka (fun E' F x hd f hf => by
          obtain ⟨_, e, _⟩ := av4.settle hd rfl
          rw [e] at hf
          exact (over (tm := fun _ => (now : Int) + 1) rfl rfl f hf).1)
        unfold Stq.cs at st
        simp (disch := omega) [-getElem?_pos, splice]
        refine st fun E6 F6 x6 hd6 v6 M6 ua6 i6 n6 s6 ow6 => ?_
        clear st
        have s6 : Stp M5 M6 (a.all E4.n) (a.all E4.n) := s6
        rw [eN4] at s6
        have ub6 : UsrR M6 b { V' with E := E5, A := V'.A } := ub5.keep s6.next fun p hp => s6.obj p (ub5.lts p hp) fun q => hAB p q (by have hp : p ∈ b.all E5.n := hp; rw [eN5] at hp; exact hp)
        have st := fun {K1 : KV} => step19 (K := K1) ub6 i5 (s := ⟨12, 0, 0, ⟨0, 0, 0, 0, false⟩⟩) (by decide) (by decide) hckb (fun E' F x hd f hf => by
          obtain ⟨_, e, _⟩ := av5.settle hd rfl
          rw [e] at hf
          exact (over (tm := fun _ => (now : Int) + 1) rfl rfl f hf).1)
        unfold Stq.cs at st
        simp (disch := omega) [-getElem?_pos, splice]
        refine st fun E7 F7 x7 hd7 v7 M7 ub7 i7 n7 s7 ow7 => ?_
        clear st
        have s7 : Stp M6 M7 (b.all E5.n) (b.all E5.n) := s7
        rw [eN5] at s7
        have eN6 : E6.n = n := Eq.trans n6 eN4
        have eN7 : E7.n = n := Eq.trans n7 eN5
        obtain ⟨tk6, e6, q6⟩ := av4.settle hd6 rfl
        obtain ⟨tk7, e7, q7⟩ := av5.settle hd7 rfl
        obtain ⟨t60, t62⟩ := tm_now tk6.ti.mono tk6.ti.o2
        obtain ⟨t70, t72⟩ := tm_now tk7.ti.mono tk7.ti.o2
        have hw7 : wakeL V'.S E7.C.tm V'.A F7 = wakeL U.S E6.C.tm U.A F6 := by
          rw [sr3.s, sr3.w, e6, e7]
          exact wakeL_congr fun f hf => ((over t70 t72 f hf).2).trans (over t60 t62 f hf).2.symm
        have ow6 : Own M5.next M6 2 v6 ((wakeL U.S E6.C.tm U.A F6).1.map Frd.ws) := ow6
        have ow7 : Own M6.next M7 2 v7 ((wakeL V'.S E7.C.tm V'.A F7).1.map Frd.ws) := ow7
        have ua6 : UsrR M6 a { U with E := E6, A := (wakeL U.S E6.C.tm U.A F6).2 } := ua6
        have ub7 : UsrR M7 b { V' with E := E7, A := (wakeL V'.S E7.C.tm V'.A F7).2 } := ub7
        have sl' := sr3.sl.next sr3.a.ti (now' := (now : Int) + 1) (by omega) t60 t62
        rw [← e6] at sl'
        rw [hw7] at ow7 ub7
        obtain ⟨W, hW⟩ : ∃ W, wakeL U.S E6.C.tm U.A F6 = W := ⟨_, rfl⟩
        rw [hW] at ow6 ow7 ua6 ub7 sl'
        have hWl : W.1.length ≤ 65 := by
          rw [← hW]
          exact Nat.le_trans (wakeL_le _ _ _ _) ((hd6.inv i4).2.len i4)
        have sr7 : SR ((now + 1 : Nat) : Int) n { U with E := E6, A := W.2 } { V' with E := E7, A := W.2 } := by
          rw [show ((now + 1 : Nat) : Int) = (now : Int) + 1 from by omega]
          exact ⟨tk6, tk7, fun i hi => (q7 i hi).trans (q6 i hi).symm, sr3.s, rfl, sl'.congr q6⟩
        have ua7 : UsrR M7 a { U with E := E6, A := W.2 } := ua6.keep s7.next fun p hp => s7.obj p (ua6.lts p hp) fun q => hAB p (by have hp : p ∈ a.all E6.n := hp; rw [eN6] at hp; exact hp) q
        have g7 : m00.Grew M7 := s7.toGrew (s6.toGrew (s5.toGrew (s4.toGrew g3 fA) fB) fA) fB
        have ub5l := ub5.lts
        have ub5l : ∀ p ∈ b.all n, p < M5.next := fun p hp => ub5l p (by show p ∈ b.all E5.n; rw [eN5]; exact hp)
        have ow67 : Own M5.next M7 2 v6 (W.1.map Frd.ws) := ow6.keep s7.next fun p h1 h2 => s7.obj p h2 fun q => by have := ub5l p q; omega
        have l6 := ow67.sl.lenSl
        have l7 := ow7.sl.lenSl
        rw [List.length_map] at l6 l7
        clear hw7 sl' ow6 ua6 ub6 tk6 tk7 av4 av5 hd4 hd5 hd6 hd7 over hcka hckb e6 e7 q6 q7 t60 t62 t70 t72 hW s4 s5 s6 s7 ua3 ub3 ua4 ub4 ua5 ub5 i4 i5 i6 i7 n4 n5 n6 n7 ub5l sr3 hIa hIb
        generalize ({ U with E := E6, A := W.2 } : Usr) = U8 at ua7 sr7
        generalize ({ V' with E := E7, A := W.2 } : Usr) = V8 at ub7 sr7
        simp (disch := omega) [-getElem?_pos, l6, l7, splice]
        refine exec_loopU (σ := Nat) (fun k => [(113, .int .i64 k), (112, .int .i64 W.1.length), (73, .int .i64 now), (17, v7), (15, v6), (10, .ptr (some (b.u, 0, 0))), (9, .ptr (some (a.u, 0, 0))), (3, x3')]) (fun _ => M7) (fun k => k ≤ W.1.length) (fun k => W.1.length - k) 0 rfl (by omega) (by simp) ?_
        intro k hk
        by_cases hkW : k < W.1.length
        · obtain ⟨f, hf⟩ : ∃ f, W.1[k] = f := ⟨_, rfl⟩
          obtain ⟨p1, q1, full1, rw1, y1, y2, y3, y4, _⟩ := ow67.sl.at (i := k) (x := f.ws) (by simp [hkW, hf]) .i64
          obtain ⟨p2, q2, full2, rw2, z1, z2, z3, z4, _⟩ := ow7.sl.at (i := k) (x := f.ws) (by simp [hkW, hf]) .i64
          unfold Frd.ws at y4 z4
          simp (disch := omega) [-getElem?_pos, y1, y2, y3, y4, z1, z2, z3, z4, splice]
          exact again_mk (k + 1) (by omega) (by omega) (by simp) rfl
        · obtain rfl : k = W.1.length := by omega
          simp (disch := omega) [-getElem?_pos]
          exact again_mk (now + 1, U8, V8, M7) ⟨by omega, ua7, ub7, sr7, g7⟩ (by dsimp only; omega) (by simp) rfl
    · obtain rfl : now = 270 := by omega
      have none1 : ∀ k, U.A k = false := b4.sl.none b4.a (by omega)
      have none2 : ∀ k, Vb.A k = false := fun k => by rw [b4.w]; exact none1 k
      have e1 : asleepL U.A 32 = [] := by
        unfold asleepL
        rw [List.filter_eq_nil_iff]
        intro i _
        rw [none1]; simp
      have e2 : asleepL Vb.A 32 = [] := by
        unfold asleepL
        rw [List.filter_eq_nil_iff]
        intro i _
        rw [none2]; simp
      simp (disch := omega) [-getElem?_pos]
      refine sleeping20 b2 fun v M1 g1 o1 => ?_
      rw [e1] at o1
      have l1 := o1.sl.lenSl
      simp only [List.map_nil, List.length_nil] at l1
      simp (disch := omega) [-getElem?_pos, l1]
      refine sleeping20 (b3.grow g1) fun v' M2 g2 o2 => ?_
      rw [e2] at o2
      have l2 := o2.sl.lenSl
      simp only [List.map_nil, List.length_nil] at l2
      simp (disch := omega) [-getElem?_pos, l2]
end Go.Proofs.YtkcpojagecfcbaaGreatDoor
