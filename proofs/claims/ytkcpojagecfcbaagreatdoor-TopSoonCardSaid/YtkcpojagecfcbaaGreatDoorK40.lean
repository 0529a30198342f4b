/-
  NO TIMER STAYS: each step leaves devices armed in time; what is due fires as it settles.
  WHAT FIRES IS PERMITTED: times, counted by hand; timers by their IDs.
  NO TIMER STAYS: the law.
-/
import Derived.Test.YtkcpojagecfcbaaGreatDoorK39
namespace Go.Proofs.YtkcpojagecfcbaaGreatDoor
open Go Go.AM
set_option linter.unusedVariables false
set_option linter.unusedSimpArgs false
set_option maxRecDepth 60000
set_option maxHeartbeats 4000000
section
variable {lo hi : Int} {E E' : Eng} {s : Stq} {F : List Frd} {x : Int}
theorem adv_off (C : Clk) (n : Int) : (C.adv n).1.off = C.off ∧ C.mono ≤ (C.adv n).1.mono := by
  unfold Clk.adv
  split
  · exact ⟨rfl, Int.le_refl _⟩
  · next h =>
    have hoff : ∀ D : Clk, D.o1 = C.o1 → D.o2 = C.o2 → D.off = C.off := fun D h1 h2 => by
      funext k
      match k with
      | 0 => rfl
      | 1 => exact h1
      | k + 2 => exact h2
    split
    · exact ⟨hoff _ rfl rfl, Int.le_refl _⟩
    · exact ⟨hoff _ rfl rfl, by show C.mono ≤ C.mono + n; omega⟩
theorem Inv.offline (h : Inv lo hi E) {i : Nat} (hi0 : i < E.n) (hb : E.on.testBit i = false) {j : Nat} (hj : j < 6) {t : Tmr} (ht : t ∈ (E.c i).Q j) : False := by
  have := h.whOn (all_mem.2 ⟨hi0, j, hj, ht⟩)
  rw [this] at hb
  cases hb
theorem Soon.gone (h : Soon lo E) (hI : Inv lo hi E) (h0 : 0 ≤ lo ∧ lo ≤ hi ∧ hi ≤ 100000) {i to : Nat} (hi0 : E.on.testBit i = true) (hb : (woM E.on i).testBit to = true) : Soon lo (E.gone i to) := by
  have h16 := hI.on.n16
  have hlt := hI.on.lt
  have hin := hI.on.n i hi0
  have hbit := woM_bit hlt (i := i) (by omega)
  have hb2 := hb
  rw [hbit] at hb2
  simp only [Bool.and_eq_true, Bool.not_eq_true', decide_eq_false_iff_not] at hb2
  have hne : to ≠ i := fun q => hb2.2 q.symm
  have hto := hI.on.n to hb2.1
  obtain ⟨m1, m2, m3⟩ := hI.moves hne hb2.1 (l := allB (E.c i).Q 6) (fun t ht => by obtain ⟨j, hj, q⟩ := allB_mem.1 ht; exact all_mem.2 ⟨hin, j, hj, q⟩) (hI.idsB hin)
  obtain ⟨c1, Q, c2⟩ := moves_c (E := E) hne (allB (E.c i).Q 6)
  have hs := moves_same E i to (allB (E.c i).Q 6)
  unfold Eng.gone
  generalize E.moves i to (allB (E.c i).Q 6) = E1 at *
  obtain ⟨s1, s2, s3⟩ := hs
  intro k hk
  have hk : (woM E.on i).testBit k = true := hk
  rw [hbit] at hk
  simp only [Bool.and_eq_true, Bool.not_eq_true', decide_eq_false_iff_not] at hk
  obtain ⟨hk1, hk2⟩ := hk
  have hki : k ≠ i := fun q => hk2 q.symm
  have eto : (E1.quiet i).c to = { E.c to with Q := Q } := by rw [← c2]; exact upC_ne _ _ hne
  show Arm lo E1.C (upC (E1.quiet i).c to { (E1.quiet i).c to with D := lookD E1.C ((E1.quiet i).c to) } k)
  rw [s2]
  by_cases e : k = to
  · subst e
    rw [upC_self, eto]
    refine hI.armLook h0 hto (c := { E.c k with Q := Q }) (fun j hj => ?_) ⟨rfl, rfl⟩ (h k hk1).off
    have := m1.srt k (by rw [s1]; exact hto) j hj
    rw [c2] at this
    exact this
  · rw [upC_ne _ _ e]
    have : (E1.quiet i).c k = E.c k := (upC_ne _ _ hki).trans (c1 k hki e)
    rw [this]
    exact h k hk1
theorem Soon.doto (h : Soon lo E) (hI : Inv lo hi E) (h0 : 0 ≤ lo ∧ lo ≤ hi ∧ hi ≤ 100000) (hd : DoTo E s E' F x) : Soon lo E' := by
  cases hd with
  | start hk =>
    rcases start_spec hI s with ⟨x, hx, e⟩ | ⟨i, e1, hb, c0, c3, hh, hn, hl, e⟩
    · rw [e]; exact h
    · rw [e]
      have hi0 := hI.on.n i hb
      show Soon lo ((E.come i s.t).look i)
      unfold Eng.come
      rw [look_setCw]
      refine h.setC (fun _ => hI.armLook h0 hi0 (c := { E.c i with Q := upQ (E.c i).Q (jOf s.t) (insT ((E.c i).Q (jOf s.t)) s.t) }) (fun j hj => ?_) ⟨rfl, rfl⟩ (h i hb).off) _
      show Srt (upQ (E.c i).Q (jOf s.t) (insT ((E.c i).Q (jOf s.t)) s.t) j)
      unfold upQ
      split
      · next e => subst e; exact insT_srt (hI.srt i hi0 _ hj) s.t
      · exact hI.srt i hi0 j hj
  | cancel hk =>
    rcases cancel_spec hI s.n with ⟨hn, e⟩ | ⟨t, i, ht, ei, hg, e⟩
    · rw [e]; exact h
    · rw [e]
      exact h.setC (fun hb => (h i hb).less (c' := { E.c i with Q := fun j => dropT ((E.c i).Q j) s.n }) (fun j hj t ht => dropT_sub ht) rfl rfl rfl rfl (Int.le_refl _)) _
  | adv hk =>
    rcases adv_spec E s.n with ⟨a1, a2, e⟩ | ⟨a1, e⟩
    · rw [e]; exact h
    · rw [e]
      obtain ⟨o1, o2⟩ := adv_off E.C s.n
      intro i hi0
      have hi1 := hI.on.n i hi0
      show Arm lo (E.C.adv s.n).1 ((({ E with C := (E.C.adv s.n).1 } : Eng).passed E.n).c i)
      rw [passed_c { E with C := (E.C.adv s.n).1 } hi1]
      exact (h i hi0).pass o1 o2
  | act hk ha => exact h.act hI h0 (by assumption)
  | set hk =>
    refine h.stepC (fun e => ?_) hI
    unfold Clk.set at *
    split
    · exact ⟨rfl, rfl⟩
    · next c =>
      rw [if_neg c] at e
      rw [move_gen hI.ck e]
      exact ⟨rfl, rfl⟩
  | susp hk =>
    refine h.stepC (fun e => ?_) hI
    unfold Clk.suspend at *
    split
    · exact ⟨rfl, rfl⟩
    · refine ⟨?_, rfl⟩
      funext k
      match k with
      | 0 => rfl
      | 1 => rfl
      | k + 2 => rfl
  | res hk =>
    refine h.stepC (fun e => ?_) hI
    unfold Clk.resume Clk.move at *
    split
    · next c =>
      rw [if_pos c] at e
      split at e
      · next d =>
        rw [if_pos d]
        refine ⟨?_, rfl⟩
        funext k
        match k with
        | 0 => rfl
        | 1 => rfl
        | k + 2 => rfl
      · exact absurd e (gen_ne (C := { E.C with asleep := false }) hI.ck.g0 hI.ck.g1)
    · exact ⟨rfl, rfl⟩
  | off i to hk h1 h2 => exact h.gone hI h0 h1 h2
  | bring hk =>
    rcases bring_spec hI s.cpu with ⟨x, hx, e⟩ | ⟨k, e1, hk2, hb, e⟩
    · rw [e]; exact h
    · rw [e]
      have h16 := hI.on.n16
      intro i hi0
      have hi0 : (E.on ||| bitN k).testBit i = true := hi0
      rw [bitN_or (by omega), Bool.or_eq_true, decide_eq_true_eq] at hi0
      show Arm lo E.C (upC E.c k { E.c k with D := { (E.c k).D with off := false } } i)
      by_cases q : i = k
      · subst q
        rw [upC_self]
        exact ⟨rfl, .inr (.inr (.inr fun j hj t ht => (hI.offline hk2 hb hj ht).elim))⟩
      · rw [upC_ne _ _ q]
        exact h i (hi0.resolve_right fun z => q z.symm)
  | settle k E' F hk hs => exact Soon.settle hs h hI h0
  | non x hx hk => exact h
theorem soon_new {n : Nat} : Soon lo (Eng.new n lo hi) := fun i _ => ⟨rfl, .inr (.inr (.inr fun j _ t ht => by cases ht))⟩
theorem RunTo.soon {l : List Stq} (hr : RunTo E l E' F) (h : Soon lo E) (hI : Inv lo hi E) (h0 : 0 ≤ lo ∧ lo ≤ hi ∧ hi ≤ 100000) : Soon lo E' ∧ Inv lo hi E' := by
  induction hr with
  | nil => exact ⟨h, hI⟩
  | snoc l s E1 E2 F F2 x _ hd ih => exact ⟨ih.1.doto ih.2 h0 hd, (hd.inv ih.2).1⟩
/-! ### what is due fires -/
theorem due_gone {l : List Tmr} (hs : Srt l) {now : Int} {t : Tmr} (hd : isDue t now = true) : t ∉ l.dropWhile fun t => isDue t now := by
  induction l with
  | nil => intro h; cases h
  | cons u l ih =>
    unfold Srt at hs
    rw [List.pairwise_cons] at hs
    rw [List.dropWhile_cons]
    split
    · exact ih hs.2
    · next hu =>
      intro h
      apply hu
      rcases List.mem_cons.1 h with rfl | h
      · exact hd
      · have := hs.1 t h
        unfold isDue at *
        simp only [Bool.and_eq_true, decide_eq_true_eq] at *
        unfold cl at *
        omega
theorem due_head {l : List Tmr} (hs : Srt l) {now : Int} {t : Tmr} (ht : t ∈ l) (hd : isDue t now = true) : ∃ u r, l = u :: r ∧ isDue u now = true := by
  cases l with
  | nil => cases ht
  | cons u l =>
    refine ⟨u, l, rfl, ?_⟩
    unfold Srt at hs
    rw [List.pairwise_cons] at hs
    rcases List.mem_cons.1 ht with rfl | h
    · exact hd
    · have := hs.1 t h
      unfold isDue at *
      simp only [Bool.and_eq_true, decide_eq_true_eq] at *
      unfold cl at *
      omega
/-- What is due waits for an interrupt, or for what was raised. -/
def Wait (D : Tmr → Prop) (E : Eng) : Prop := ∀ i j t, i < E.n → j < 6 → t ∈ (E.c i).Q j → D t → (E.c i).D.latched = true ∨ (j % 2 = 1 ∧ (E.c i).raised = true)
theorem Wait.turn {D : Tmr → Prop} (h : Wait D E) {i : Nat} {c : Cp} (hc : i < E.n → ∀ j t, j < 6 → t ∈ c.Q j → D t → c.D.latched = true ∨ (j % 2 = 1 ∧ c.raised = true)) (w : List (Int × Nat)) : Wait D { E.setC i c with wh := w } := by
  intro k j t hk hj ht hd
  have ht : t ∈ (upC E.c i c k).Q j := ht
  show (upC E.c i c k).D.latched = true ∨ (j % 2 = 1 ∧ (upC E.c i c k).raised = true)
  by_cases e : k = i
  · subst e
    rw [upC_self] at ht ⊢
    exact hc hk j t hj ht hd
  · rw [upC_ne _ _ e] at ht ⊢
    exact h k j t hk hj ht hd
theorem Wait.act {D : Tmr → Prop} (h : Wait D E) (hI : Inv lo hi E) (hD : ∀ t, D t → isDue t (E.C.tm t.ck.toNat) = true) (ha : Act E E' F) : Wait D E' := by
  rcases ha with ⟨i, h1, h2⟩ | ⟨i, h1, h2⟩ | ⟨i, h1, h2⟩
  · rw [kick_eq]
    refine h.turn (i := i) (c := kickC E.C (E.c i)) (fun hi0 j t hj ht hd => ?_) E.wh
    unfold kickC
    dsimp only
    rw [(lookD_same _ _).2.2.1]
    exact h i j t hi0 hj ht hd
  · rw [irq_eq]
    refine h.turn (i := i) (c := irqC E.C (E.c i)) (fun hi0 j t hj ht hd => ?_) _
    have ht : t ∈ restB (E.c i).Q E.C.tm false 6 j := ht
    have hm := (restB_sub j).subset ht
    have hp := (hI.pl i hi0 j hj t hm).1
    have ek : t.ck.toNat = j / 2 := by omega
    have hdue := hD t hd
    rw [ek] at hdue
    have er : restB (E.c i).Q E.C.tm false 6 j = restS E.C.tm false j ((E.c i).Q j) := if_pos hj
    by_cases hpar : j % 2 = 0
    · rw [er] at ht
      unfold restS restL at ht
      rw [if_pos (by unfold sideN; simpa using hpar)] at ht
      exact (due_gone (hI.srt i hi0 j hj) hdue ht).elim
    · refine .inr ⟨by omega, ?_⟩
      show ((E.c i).raised || dueB (restB (E.c i).Q E.C.tm false 6) E.C.tm true) = true
      rw [Bool.or_eq_true]
      right
      unfold dueB
      rw [List.any_eq_true]
      refine ⟨j, List.mem_range.2 hj, ?_⟩
      have es : restS E.C.tm false j ((E.c i).Q j) = (E.c i).Q j := by unfold restS; rw [if_neg (by unfold sideN; simp; omega)]
      rw [er, es]
      obtain ⟨u, r, e, hu⟩ := due_head (hI.srt i hi0 j hj) hm hdue
      rw [e]
      unfold dueStep
      dsimp only
      rw [hu, decide_eq_true (by unfold sideN; simp; omega)]
      rfl
  · rw [soft_eq]
    refine h.turn (i := i) (c := softC E.C (E.c i)) (fun hi0 j t hj ht hd => ?_) _
    have ht : t ∈ restB (E.c i).Q E.C.tm true 6 j := ht
    have hm := (restB_sub j).subset ht
    have hp := (hI.pl i hi0 j hj t hm).1
    have ek : t.ck.toNat = j / 2 := by omega
    have hdue := hD t hd
    rw [ek] at hdue
    have er : restB (E.c i).Q E.C.tm true 6 j = restS E.C.tm true j ((E.c i).Q j) := if_pos hj
    by_cases hpar : j % 2 = 1
    · rw [er] at ht
      unfold restS restL at ht
      rw [if_pos (by unfold sideN; simpa using hpar)] at ht
      exact (due_gone (hI.srt i hi0 j hj) hdue ht).elim
    · left
      show (lookD E.C (softR E.C (E.c i))).latched = true
      rw [(lookD_same _ _).2.2.1]
      rcases h i j t hi0 hj hm hd with q | q
      · exact q
      · exact absurd q.1 hpar
theorem Wait.settle {D : Tmr → Prop} {k : Nat} (hs : SetTo k E E' F) (h : Wait D E) (hI : Inv lo hi E) (hD : ∀ t, D t → isDue t (E.C.tm t.ck.toNat) = true) : Wait D E' := by
  induction hs with
  | stop E _ => exact h
  | step n E E1 E' F F' h1 _ ih =>
    have ha := one_act h1
    obtain ⟨i1, i2, _⟩ := hI.act ha
    exact ih (h.act hI hD ha) i1 (by rw [i2]; exact hD)
theorem due_comes {C : Clk} (hC : CkOk C) {j : Nat} {t : Tmr} (hj : j < 6) (hp : t.ck = (j / 2 : Nat)) (hd : isDue t (C.tm t.ck.toNat) = true) : comes C j t ≤ C.mono := by
  have rg := hC.rng
  have ek : t.ck.toNat = j / 2 := by omega
  rw [ek] at hd
  have ho : -1152921504606846976 ≤ C.off (j / 2) ∧ C.off (j / 2) ≤ 2305843009213693952 := by
    have : j / 2 = 0 ∨ j / 2 = 1 ∨ j / 2 = 2 := by omega
    rcases this with e | e | e <;> rw [e]
    · show _ ≤ (0 : Int) ∧ (0 : Int) ≤ _; omega
    · show _ ≤ C.o1 ∧ C.o1 ≤ _; omega
    · show _ ≤ C.o2 ∧ C.o2 ≤ _; omega
  unfold isDue at hd
  simp only [Bool.and_eq_true, decide_eq_true_eq] at hd
  obtain ⟨h1, h2⟩ := hd
  have h2 : cl t.soft ≤ cl (C.mono + C.off (j / 2)) := h2
  unfold comes subT
  rw [if_neg (by omega)]
  generalize C.off (j / 2) = o at *
  unfold cl at *
  omega
theorem inj_nodup {α β : Type} {f : α → β} {l : List α} (h : (l.map f).Nodup) {a b : α} (ha : a ∈ l) (hb : b ∈ l) (e : f a = f b) : a = b := by
  induction l with
  | nil => cases ha
  | cons x l ih =>
    rw [List.map_cons, List.nodup_cons] at h
    rcases List.mem_cons.1 ha with ea | ha'
    · rcases List.mem_cons.1 hb with eb | hb'
      · rw [ea, eb]
      · exact absurd (List.mem_map.2 ⟨b, hb', by rw [← e, ea]⟩) h.1
    · rcases List.mem_cons.1 hb with eb | hb'
      · exact absurd (List.mem_map.2 ⟨a, ha', by rw [e, eb]⟩) h.1
      · exact ih h.2 ha' hb'
/-- What was due, behind all that waits, is gone when time went by. -/
theorem soon_fired {E3 E4 : Eng} {k : Nat} (hI : Inv lo hi E) (h : Soon lo E) (h0 : 0 ≤ lo ∧ lo ≤ hi ∧ hi ≤ 100000) (hno : E.one = none) (hsl : E.C.asleep = false) (ha : E.advance (lo + 1) = (E3, 0)) (hs : SetTo k E3 E4 F) {t : Tmr} {i : Nat} (ht : (t, i) ∈ E.all) (hd : isDue t (E.C.tm t.ck.toNat) = true) : getN E4.wh t.id = none := by
  rcases adv_spec E (lo + 1) with ⟨a1, a2, e⟩ | ⟨a1, e⟩
  · rw [e] at ha
    exact absurd (Prod.mk.inj ha).2 a2
  rw [e] at ha
  have e3 : ({ E with C := (E.C.adv (lo + 1)).1 } : Eng).passed E.n = E3 := (Prod.mk.inj ha).1
  have hC3 := ck_adv hI.ck (lo + 1)
  obtain ⟨i3, al3⟩ := hI.adv hC3
  rw [e3] at i3 al3
  have hm3 : (E.C.adv (lo + 1)).1.mono = E.C.mono + (lo + 1) := by
    unfold Clk.adv at *
    split at a1
    · exact absurd a1 (by show (2 : Int) ≠ 0; decide)
    · next c => rw [if_neg c, hsl]; rfl
  obtain ⟨o1, o2⟩ := adv_off E.C (lo + 1)
  have ck3 : E3.C = (E.C.adv (lo + 1)).1 := by rw [← e3]; rfl
  have n3 : E3.n = E.n := by rw [← e3]; rfl
  have rg3 := hC3.rng
  have rg := hI.ck.rng
  have hD3 : ∀ t : Tmr, isDue t (E.C.tm t.ck.toNat) = true → isDue t (E3.C.tm t.ck.toNat) = true := fun t hd => by
    unfold isDue at *
    simp only [Bool.and_eq_true, decide_eq_true_eq] at *
    refine ⟨hd.1, ?_⟩
    have hle : E.C.tm t.ck.toNat ≤ E3.C.tm t.ck.toNat := by
      unfold Clk.tm
      rw [ck3, o1]; omega
    have h2 := hd.2
    generalize E.C.tm t.ck.toNat = a at *
    generalize E3.C.tm t.ck.toNat = b at *
    unfold cl at *
    omega
  have hW : Wait (fun t => isDue t (E.C.tm t.ck.toNat) = true) E3 := by
    intro i j t hi0 hj ht hd
    left
    rw [n3] at hi0
    have ec : E3.c i = passC (E.C.adv (lo + 1)).1 (E.c i) := by rw [← e3]; exact passed_c _ hi0
    rw [ec] at ht ⊢
    rw [(pass_same _ _).1] at ht
    have hb := hI.whOn (all_mem.2 ⟨hi0, j, hj, ht⟩)
    obtain ⟨p1, p2, p3⟩ := one_none hI.on hno hb
    have hc := due_comes hI.ck hj (hI.pl i hi0 j hj t ht).1 hd
    rcases (h i hb).ok with q | q | q | q
    · rw [p1] at q; cases q
    · rw [p2] at q; cases q
    · rw [p3] at q; cases q
    · obtain ⟨q1, q2⟩ := q j hj t ht (by omega)
      unfold passC Dev.pass
      rw [if_pos ⟨q1, by rw [cl_id (by omega) (by omega), hm3]; omega⟩]
  obtain ⟨i4, c4, on4, n4, L, _, p4⟩ := hs.inv i3
  have hW4 := Wait.settle hs hW i3 hD3
  have hno4 := hs.end'
  cases hg : getN E4.wh t.id with
  | none => rfl
  | some k4 =>
    obtain ⟨u, hu, eu⟩ := i4.get.1 hg
    have hu3 : (u, k4) ∈ E3.all := p4.mem_iff.2 (List.mem_append.2 (.inr hu))
    rw [al3] at hu3
    have hw1 := hI.get.2 ⟨u, hu3, eu⟩
    have hw2 := hI.get.2 ⟨t, ht, rfl⟩
    have hk4 : k4 = i := Option.some.inj (hw1.symm.trans hw2)
    subst hk4
    have hut : u = t := by
      have hnd := hI.ids
      exact (Prod.mk.inj (inj_nodup hnd hu3 ht eu)).1
    subst hut
    obtain ⟨hi0, j, hj, hm⟩ := all_mem.1 hu
    have hb := i4.whOn hu
    obtain ⟨p1, p2, p3⟩ := one_none i4.on hno4 hb
    rcases hW4 k4 j u hi0 hj hm hd with q | q
    · rw [p2] at q; cases q
    · rw [p3] at q; cases q.2
end
set_option maxHeartbeats 16000000
section
variable {m m' : Mem}
def F11 : AFn
  | [.int .i64 t], m => some (.int .i64 (cl t), m)
  | _, _ => none
theorem s11 : ASpec Tryz.prog 11 F11 := by
  intro args m r m' h
  unfold F11 at h; split at h <;> cases h
  rename_i t
  refine run_on (ctx_nil _) hm c11 (by simp) fun hf => ?_
  unfold cl
  by_cases h1 : 4611686018427387903 < t
  · rw [show min (max t (-4611686018427387903)) 4611686018427387903 = 4611686018427387903 from by omega]
    simp (disch := omega) [b11, h1]
  · by_cases h2 : t < -4611686018427387903
    · rw [show min (max t (-4611686018427387903)) 4611686018427387903 = -4611686018427387903 from by omega]
      simp (disch := omega) [b11, h1, h2]
    · rw [show min (max t (-4611686018427387903)) 4611686018427387903 = t from by omega]
      simp (disch := omega) [b11, h1, h2]
abbrev LP : List (FuncId × AFn) := (11, F11) :: LE
theorem xP : CtxOk Tryz.prog (Ctx.of LP) := ctx_cons xE s11
/-- Timers by their IDs. -/
structure Ther (lm : List (Int × V)) (T : List Tmr) : Prop where
  nd : (T.map (·.id)).Nodup
  keys : KeysI lm
  get : ∀ t ∈ T, getI lm t.id = some (.agg t.cs)
  no : ∀ id, (∀ t ∈ T, t.id ≠ id) → getI lm id = none
  len : lm.length = T.length
theorem Ther.perm {lm : List (Int × V)} {T T' : List Tmr} (h : Ther lm T) (p : T.Perm T') : Ther lm T' :=
  ⟨((p.map _).nodup_iff).1 h.nd, h.keys, fun t ht => h.get t (p.mem_iff.2 ht), fun id hn => h.no id fun t ht => hn t (p.mem_iff.1 ht), h.len.trans p.length_eq⟩
theorem Ther.put {lm : List (Int × V)} {T : List Tmr} (h : Ther lm T) {t : Tmr} (hn : ∀ u ∈ T, u.id ≠ t.id) : Ther (putI lm t.id (.agg t.cs)) (t :: T) := by
  obtain ⟨k1, k2, k3⟩ := keysI_put h.keys t.id (.agg t.cs)
  have h0 := h.no t.id hn
  refine ⟨?_, k1, fun u hu => ?_, fun id hi => ?_, by rw [k2, if_pos h0, h.len]; rfl⟩
  · rw [List.map_cons, List.nodup_cons]
    refine ⟨fun q => ?_, h.nd⟩
    obtain ⟨u, hu, e⟩ := List.mem_map.1 q
    exact hn u hu e
  · rw [getI_put]
    rcases List.mem_cons.1 hu with rfl | hu
    · rw [if_pos rfl]
    · rw [if_neg (hn u hu)]; exact h.get u hu
  · rw [getI_put, if_neg (fun e => hi t (by simp) e.symm)]
    exact h.no id fun u hu => hi u (by simp [hu])
end
set_option maxHeartbeats 16000000
theorem run_snoc {E E' : Eng} {l : List Stq} {s : Stq} {F : List Frd} (h : RunTo E (l ++ [s]) E' F) : ∃ E1 F1 F2 x, RunTo E l E1 F1 ∧ DoTo E1 s E' F2 x := by
  generalize hL : l ++ [s] = L at h
  cases h with
  | nil => simp at hL
  | snoc l' s' E1 _ F1 F2 x h1 h2 =>
    obtain ⟨rfl, e⟩ := List.append_inj' hL rfl
    cases e
    exact ⟨E1, F1, F2, x, h1, h2⟩
theorem run_nil {E E' : Eng} {F : List Frd} (h : RunTo E [] E' F) : E' = E := by
  generalize hL : ([] : List Stq) = L at h
  cases h with
  | nil => rfl
  | snoc l' s' E1 _ F1 F2 x h1 h2 => simp at hL
theorem do_res {E E' : Eng} {s : Stq} {F : List Frd} {x : Int} (hd : DoTo E s E' F x) (hk : s.kind = 9) : E' = E.stepC E.C.resume.1 := by
  cases hd <;> first | rfl | omega
theorem resume_awake (C : Clk) : C.resume.1.asleep = false := by
  unfold Clk.resume
  split
  · unfold Clk.move
    split <;> rfl
  · next h => simpa using h
theorem stepC_C (E : Eng) (C : Clk) : (E.stepC C).C = C := by
  unfold Eng.stepC
  split
  · rfl
  · exact (kicks_same { E with C := C } _).2.1
theorem run_awake {lo hi : Int} {E E' : Eng} {F : List Frd} (hI : Inv lo hi E) (h : RunTo E [⟨9, 0, 0, Tmr.zero⟩, ⟨12, 0, 0, Tmr.zero⟩] E' F) : E'.C.asleep = false ∧ E'.one = none := by
  obtain ⟨E1, F1, F2, x, h1, d1⟩ := run_snoc (l := [⟨9, 0, 0, Tmr.zero⟩]) h
  obtain ⟨E2, F3, F4, y, h2, d2⟩ := run_snoc (l := []) h1
  obtain rfl := run_nil h2
  have e1 := do_res d2 rfl
  obtain ⟨i1, _⟩ := d2.inv hI
  obtain ⟨_, k, hs⟩ := do_settle d1 rfl
  obtain ⟨_, c, _⟩ := hs.inv i1
  refine ⟨?_, hs.end'⟩
  rw [c, e1, stepC_C]
  exact resume_awake _
/-- What was due: its IDs. -/
def DueL (E : Eng) (D : List Int) : Prop := ∀ id ∈ D, ∃ t i, (t, i) ∈ E.all ∧ t.id = id ∧ isDue t (E.C.tm t.ck.toNat) = true
theorem soon_law (m0 : Mem) (x0 x1' x2' : V) (h0 : IsV m0 (.int .u8) x0) (h1 : IsV m0 (.int .u8) x1') (h2 : IsV m0 shT x2') : ACalls Tryz.prog 4 [x0, x1', x2'] m0 (fun r _ => r = .bool true) := by
  obtain ⟨c, rfl, hwc⟩ := h0.int
  obtain ⟨ls, rfl, hwl⟩ := h1.int
  replace hwc := wf_u8' hwc
  replace hwl := wf_u8' hwl
  refine run_on xP hm c4 (by simp) fun hf => ?_
  obtain ⟨es, hv, hml, hes⟩ := h2.slR hf
  obtain ⟨l, rfl⟩ := stqs_of hes
  simp (disch := omega) [-getElem?_pos, b4]
  refine run7 fun m00 g00 => ?_
  have hv1 := hv.lenSl
  rw [List.length_map] at hv1
  by_cases hl : (150 : Int) < l.length
  · simp (disch := omega) [-getElem?_pos, hv1]
  obtain ⟨n, hn, hn1, hn16⟩ : ∃ n : Nat, 1 + c.tmod 16 = (n : Int) ∧ 1 ≤ n ∧ n ≤ 16 := ⟨(1 + c.tmod 16).toNat, by rw [Int.tmod_eq_emod_of_nonneg hwc.1]; omega, by rw [Int.tmod_eq_emod_of_nonneg hwc.1]; omega, by rw [Int.tmod_eq_emod_of_nonneg hwc.1]; omega⟩
  have hc16 : 0 ≤ c.tmod 16 ∧ c.tmod 16 < 16 := by rw [Int.tmod_eq_emod_of_nonneg hwc.1]; omega
  simp (disch := omega) [-getElem?_pos, hv1]
  rw [hn]
  refine new8 (n := n) (lo := ls) (hi := ls + 1000) hn1 hn16 (by omega) (by omega) (by omega) (by omega) fun a M1 g1 e1 f1 => ?_
  have hlo : 0 ≤ ls ∧ ls ≤ ls + 1000 ∧ ls + 1000 ≤ 100000 := by omega
  have i1 : Inv ls (ls + 1000) (Eng.new n ls (ls + 1000)) := inv_new hn1 hn16
  have s1 : Soon ls (Eng.new n ls (ls + 1000)) := soon_new
  have n00 := g00.next
  have n1 := g1.next
  have f1' : ∀ p ∈ a.all n, m0.next ≤ p := fun p hp => by have := f1 p hp; omega
  have va : l ≠ [] → ∀ p, x2'.addr = some p → p ∉ a.all n := fun hne p hp hd => by
    obtain ⟨aa, cc, rfl, hx⟩ := hv.ex
    obtain ⟨r, i, full, rw, h3, h4, _⟩ := hx (by simpa using hne)
    subst h3
    simp only [V.addr, Option.some.injEq] at hp
    have := f1' p hd
    omega
  simp (disch := omega) [-getElem?_pos]
  refine run13 e1 i1 (hv.grow (g00.trans g1)) va (by omega) fun E2 F2 r2 i2 n2 w2 M2 e2 t2 _ => ?_
  obtain ⟨s2, _⟩ := r2.soon s1 i1 hlo
  have n2 : E2.n = n := n2
  simp (disch := omega) [-getElem?_pos, splice]
  generalize hR : List.map (fun i => List.take 8 (List.drop (i * 8) _)) (List.range 2) = R
  have eR : R = ([⟨9, 0, 0, Tmr.zero⟩, ⟨12, 0, 0, Tmr.zero⟩] : List Stq).map Stq.cs := by rw [← hR]; rfl
  have gR := Mem.Grew.new M2 (.row 8 R true)
  have hs2 : Sl (M2.new (.row 8 R true)) 8 (.sl (some (M2.next, 0, 8)) 2 (some 2)) (([⟨9, 0, 0, Tmr.zero⟩, ⟨12, 0, 0, Tmr.zero⟩] : List Stq).map Stq.cs) :=
    ⟨_, _, rfl, fun _ => ⟨M2.next, 0, R, true, rfl, by simp, by simp, by rw [eR]; simp, fun j _ => by rw [eR, Nat.zero_add]⟩⟩
  have lt2 := e2.lts
  refine run13 (e2.grow gR) i2 hs2 (fun _ p hp q => ?_) (by decide) fun E3 F3 r3 i3 n3 w3 M3 e3 t3 _ => ?_
  · simp only [V.addr, Option.some.injEq] at hp
    have := lt2 p q
    omega
  obtain ⟨s3, _⟩ := r3.soon s2 i2 hlo
  obtain ⟨awake, hno⟩ := run_awake i2 r3
  rw [n2] at n3
  clear r2 r3 s2 i2 e2 hs2 gR eR hR lt2
  simp (disch := omega) [-getElem?_pos]
  have hwl3 := i3.len
  have lt3 := e3.lts
  rw [n3] at lt3
  refine exec_loopU (σ := Nat × List Int × V × Mem) (fun (i, _, v, _) => [(46, .int .i64 i), (45, .int .i64 n), (9, v), (8, .ptr (some (a.e, 0, 0))), (1, .int .u8 ls)]) (fun (_, _, _, M) => M)
    (fun (i, D, v, M) => i ≤ n ∧ M3.Grew M ∧ Own M3.next M 1 v (D.map fun z => [V.int .i64 z]) ∧ DueL E3 D ∧ D.length ≤ (visP E3.ids i 0).length) (fun (i, _, _, _) => n - i)
    (0, [], .sl .none 0 (some 0), M3) rfl ⟨by omega, Mem.Grew.refl _, Own.none _ _ _, fun _ h => (by cases h), by simp⟩ (by simp) ?_
  intro (i, D, v, M4) ⟨b1, b2, b3, b4, b5⟩
  have e4 := e3.grow b2
  by_cases hi : i < n
  · have hiE : i < E3.n := by rw [n3]; exact hi
    have hL := ids_len E3 i
    have hB := i3.lenB hiE
    simp (disch := omega) [-getElem?_pos]
    refine etimers14 (i := (i : Int)) e4 i3.on (fun k hk j' hj' => Nat.le_trans (i3.lenQ hk hj') hwl3) fun w M5 g5 ow => ?_
    rw [i3.told hiE] at ow
    obtain ⟨T, hT⟩ : ∃ T, allB (E3.c i).Q 6 = T := ⟨_, rfl⟩
    rw [hT] at ow hL hB
    have hlw := ow.sl.lenSl
    rw [List.length_map] at hlw
    have n5 := g5.next
    simp (disch := omega) [-getElem?_pos, hlw]
    refine exec_loopU (σ := Nat × List Int × V × Mem) (fun (k, _, v, _) => [(53, .int .i64 k), (52, .int .i64 T.length), (51, w), (46, .int .i64 i), (45, .int .i64 n), (9, v), (8, .ptr (some (a.e, 0, 0))), (1, .int .u8 ls)]) (fun (_, _, _, M) => M)
      (fun (k, D, v, M) => k ≤ T.length ∧ M3.Grew M ∧ M5.next ≤ M.next ∧ (∀ p, w.addr = some p → M.obj p = M5.obj p ∧ v.addr ≠ some p) ∧ Own M3.next M 1 v (D.map fun z => [V.int .i64 z]) ∧ DueL E3 D ∧ D.length ≤ (visP E3.ids i k).length) (fun (k, _, _, _) => T.length - k)
      (0, D, v, M5) rfl ⟨by omega, b2.trans g5, Nat.le_refl _, fun p hp => ⟨rfl, fun q => by have := (ow.addr_lt hp).1; have := (b3.addr_lt q).2; omega⟩, b3.grow g5, b4, b5⟩ (by simp) ?_
    intro (k, D, v, M6) ⟨c1, c2, c3, c4, c5, c6, c7⟩
    have hvl := i3.visLe hiE (j := k) (by rw [hL]; exact c1)
    by_cases hk : k < T.length
    · obtain ⟨t, ht⟩ : ∃ t, T[k] = t := ⟨_, rfl⟩
      have htm : t ∈ allB (E3.c i).Q 6 := by rw [hT, ← ht]; exact List.getElem_mem hk
      obtain ⟨jq, hjq, htq⟩ := allB_mem.1 htm
      have hall := all_mem.2 ⟨hiE, jq, hjq, htq⟩
      have hpl := (i3.pl i hiE jq hjq t htq).1
      have hs6 : Sl M6 5 w (T.map Tmr.cs) := ow.sl.keep c3 fun p hp hq => (c4 p hq).1
      obtain ⟨p, q, full, rw', d1, d2, d3, d4, dw⟩ := hs6.at (i := k) (x := (T[k]).cs) (by simp [hk]) .i64
      rw [ht] at d4
      have hkI : k < (E3.ids i).length := by rw [hL]; exact hk
      have gT := Mem.Grew.new M6 (.row 5 [t.cs] true)
      have oT : (M6.new (.row 5 [t.cs] true)).obj M6.next = some (.row 5 [t.cs] true) := by simp
      have e6 := e3.grow (c2.trans gT)
      have nT : (M6.new (.row 5 [t.cs] true)).next = M6.next + 1 := by simp
      have hvs := visP_step E3.ids i hkI
      have hvlen : (visP E3.ids i (k + 1)).length = (visP E3.ids i k).length + 1 := by rw [hvs, List.length_append]; rfl
      have ownT := c5.grow gT
      unfold Tmr.cs at d4 gT oT e6 nT ownT
      simp (disch := omega) [-getElem?_pos, d1, d2, d3, d4, splice]
      generalize M6.new (.row 5 [[.int .i64 t.id, .int .i64 t.ck, .int .i64 t.soft, .int .i64 t.hard, .bool t.lazy]] true) = M7 at *
      have rg := i3.ck.rng
      obtain ⟨ck, hck, hck3⟩ : ∃ ck : Nat, t.ck = ck ∧ ck < 3 := ⟨jq / 2, hpl, by omega⟩
      have rdr : -1152921504606846976 ≤ E3.C.tm ck ∧ E3.C.tm ck ≤ 3458764513820540928 := by
        have : ck = 0 ∨ ck = 1 ∨ ck = 2 := by omega
        rcases this with rfl | rfl | rfl
        · show _ ≤ E3.C.mono + 0 ∧ E3.C.mono + 0 ≤ _; omega
        · show _ ≤ E3.C.mono + E3.C.o1 ∧ E3.C.mono + E3.C.o1 ≤ _; omega
        · show _ ≤ E3.C.mono + E3.C.o2 ∧ E3.C.mono + E3.C.o2 ≤ _; omega
      rw [hck] at oT ⊢
      refine enow15 (k := ck) e6 i3.ck hck3 ?_
      by_cases d1 : t.soft < 4611686018427387903
      · by_cases d2 : cl t.soft ≤ E3.C.tm ck
        · simp (disch := omega) [-getElem?_pos, oT, d1, d2, F11, splice, eltsOf, Mem.elts]
          have hdl : (D.map fun z => [V.int .i64 z]).length ≤ 64 := by rw [List.length_map]; omega
          have m3 := c2.next
          refine appendX_own3 ownT (Mem.Grew.new M7 _) (by omega) (by simp) (by simp only [List.length_cons, List.length_nil]; omega) (by simp only [List.length_cons, List.length_nil]; omega) fun v' M8 u1 u2 u3 u4 => ?_
          simp (disch := omega) [-getElem?_pos]
          simp only [new_next] at u3
          have key : ∀ p, p < M7.next → (p < M3.next ∨ v.addr ≠ some p) → M8.obj p = M7.obj p := fun p hp hc => (u2 p (by simp; omega) (by rcases hc with hc | hc; exact .inl hc; exact .inr (.inr hc))).trans ((Mem.Grew.new M7 _).obj p hp)
          refine again_mk (k + 1, D ++ [t.id], v', M8) ⟨by omega, ⟨by show M3.next ≤ M8.next; omega, fun p hp => (key p (by omega) (.inl hp)).trans ((gT.obj p (by omega)).trans (c2.obj p hp))⟩, by show M5.next ≤ M8.next; omega, fun p hp => ?_, by rw [List.map_append]; exact u1, ?_, ?_⟩ (by dsimp only; omega) (by simp) rfl
          · have h6 := c4 p hp
            have hp5 := (ow.addr_lt hp).2
            refine ⟨(key p (by omega) (.inr h6.2)).trans ((gT.obj p (by omega)).trans h6.1), fun e => ?_⟩
            rw [u4] at e
            simp at e
            omega
          · intro z hz
            rcases List.mem_append.1 hz with hz | hz
            · exact c6 z hz
            · rw [List.mem_singleton] at hz
              subst hz
              refine ⟨t, i, hall, rfl, ?_⟩
              unfold isDue
              rw [hck, Int.toNat_natCast, cl_id (t := E3.C.tm ck) (by omega) (by omega), decide_eq_true d1, decide_eq_true d2]
              rfl
          · show (D ++ [t.id]).length ≤ (visP E3.ids i (k + 1)).length
            rw [hvlen, List.length_append, List.length_singleton]
            omega
        · simp (disch := omega) [-getElem?_pos, oT, d1, d2, F11]
          exact again_mk (k + 1, D, v, M7) ⟨by omega, c2.trans gT, by show M5.next ≤ M7.next; omega, fun p hp => ⟨(gT.obj p (by have := (ow.addr_lt hp).2; omega)).trans (c4 p hp).1, (c4 p hp).2⟩, ownT, c6, by show D.length ≤ (visP E3.ids i (k + 1)).length; rw [hvlen]; omega⟩ (by dsimp only; omega) (by simp) rfl
      · simp (disch := omega) [-getElem?_pos, oT, d1]
        exact again_mk (k + 1, D, v, M7) ⟨by omega, c2.trans gT, by show M5.next ≤ M7.next; omega, fun p hp => ⟨(gT.obj p (by have := (ow.addr_lt hp).2; omega)).trans (c4 p hp).1, (c4 p hp).2⟩, ownT, c6, by show D.length ≤ (visP E3.ids i (k + 1)).length; rw [hvlen]; omega⟩ (by dsimp only; omega) (by simp) rfl
    · obtain rfl : k = T.length := by omega
      simp (disch := omega) [-getElem?_pos]
      rw [← hL, visP_next] at c7
      exact again_mk (i + 1, D, v, M6) ⟨by omega, c2, c5, c6, c7⟩ (by dsimp only; omega) (by simp) rfl
  · obtain rfl : i = n := by omega
    have hall := i3.visAll
    rw [n3] at hall
    rw [hall] at b5
    have d1 := fun {K1 : KV} => do9 (K := K1) e4 i3 (s := ⟨3, 0, ls + 1, ⟨0, 0, 0, 0, false⟩⟩)
    unfold Stq.cs at d1
    simp (disch := omega) [-getElem?_pos, splice]
    refine d1 fun E5 F5 x5 hd5 v5 M5 e5 t5 _ => ?_
    clear d1
    obtain ⟨i5, f5⟩ := hd5.inv i3
    obtain ⟨q5, _, qx⟩ := do_adv hd5 rfl
    have n5 : E5.n = i := f5.n.trans n3
    rw [n3] at t5
    by_cases hx : x5 = 0
    case neg => simp (disch := omega) [-getElem?_pos, hx]
    have hadv : E3.advance (ls + 1) = (E5, 0) := by
      have h1 : E5 = (E3.advance (ls + 1)).1 := q5
      have h2 : x5 = (E3.advance (ls + 1)).2 := qx
      rw [h1, ← hx, h2]
    have d2 := fun {K1 : KV} => do9 (K := K1) e5 i5 (s := ⟨12, 0, 0, ⟨0, 0, 0, 0, false⟩⟩)
    unfold Stq.cs at d2
    simp (disch := omega) [-getElem?_pos, hx, splice]
    refine d2 fun E6 F6 x6 hd6 v6 M6 e6 t6 _ => ?_
    clear d2
    obtain ⟨_, kk, hs6⟩ := do_settle hd6 rfl
    rw [n5] at t6
    have m3 := b2.next
    have m5 := t5.next
    have m6 := t6.next
    have own6 : Own M3.next M6 1 v (D.map fun z => [V.int .i64 z]) := b3.keep (by omega) fun p hp h2 => by
      have : p ∉ a.all i := fun q => by have := lt3 p q; omega
      exact (t6.obj p (by omega) this).trans (t5.obj p h2 this)
    have hlD := own6.sl.lenSl
    rw [List.length_map] at hlD
    simp (disch := omega) [-getElem?_pos, hlD]
    refine exec_loopU (σ := Nat) (fun k => [(97, .int .i64 k), (96, .int .i64 D.length), (95, v), (8, .ptr (some (a.e, 0, 0)))]) (fun _ => M6) (fun k => k ≤ D.length) (fun k => D.length - k) 0 rfl (by omega) (by simp) ?_
    intro k hk
    by_cases hkD : k < D.length
    · obtain ⟨p, q, full, rw', z1, z2, z3, z4, _⟩ := own6.sl.at (i := k) (x := [V.int .i64 D[k]]) (by simp [hkD]) .i64
      obtain ⟨t, ti, ht, hid, hdue⟩ := b4 D[k] (List.getElem_mem hkD)
      have hnone := soon_fired i3 s3 hlo hno awake hadv hs6 ht hdue
      rw [hid] at hnone
      simp (disch := omega) [-getElem?_pos, z1, z2, z3, z4]
      refine ewhere16 e6 ?_
      rw [hnone]
      simp (disch := omega) [-getElem?_pos]
      exact again_mk (k + 1) (by omega) (by omega) (by simp) rfl
    · obtain rfl : k = D.length := by omega
      simp (disch := omega) [-getElem?_pos]
end Go.Proofs.YtkcpojagecfcbaaGreatDoor
