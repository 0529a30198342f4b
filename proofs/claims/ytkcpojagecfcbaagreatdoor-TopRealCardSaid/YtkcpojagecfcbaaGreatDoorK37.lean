/-
  AN ENGINE: what always holds is kept by each step.
  AN ENGINE: a step of a processor.
  AN ENGINE does a step.
  AN ENGINE does steps.
  AN ENGINE is made.
  AN ENGINE is made: its code.
-/
import Derived.Test.YtkcpojagecfcbaaGreatDoorK36
namespace Go.Proofs.YtkcpojagecfcbaaGreatDoor
open Go Go.AM
set_option linter.unusedVariables false
set_option linter.unusedSimpArgs false
set_option maxRecDepth 60000
set_option maxHeartbeats 4000000
section
variable {lo hi : Int} {E E' : Eng} {s : Stq} {F : List Frd} {x : Int}
theorem FrL.nil (E : Eng) : FrL E [] [] := ⟨rfl, fun y hy => by cases hy⟩
/-- Nothing comes, nothing goes. -/
theorem Eff.idle (ck : E'.C = E.C.did s) (n : E'.n = E.n) (ht : E'.ts.Perm E.ts) (h1 : s.kind = 1 → x ≠ 0) (h2 : s.kind = 2 → x ≠ 0 ∧ getN E.wh s.n = none) : Eff E s E' [] x := by
  refine ⟨ck, n, ⟨[], [], FrL.nil _, ?_, ?_⟩, fun k e => absurd e (h1 k), fun k => ?_⟩
  · rw [if_neg fun q => h1 q.1 q.2]
    exact ht.symm
  · rw [if_neg fun q => (h2 q.1).1 q.2]
  · rw [(h2 k).2]
    exact ⟨fun q => absurd q (h2 k).1, fun q => by cases q⟩
theorem Eff.act {L : List (Tmr × Nat)} (hk : s.kind ≠ 1 ∧ s.kind ≠ 2) (ck : E'.C = E.C.did s) (n : E'.n = E.n) (hL : FrL E' L F) (ht : E.all.Perm (L ++ E'.all)) : Eff E s E' F x := by
  refine ⟨ck, n, ⟨L, [], hL, ?_, ?_⟩, fun k => absurd k hk.1, fun k => absurd k hk.2⟩
  · rw [if_neg fun q => hk.1 q.1]
    have := ht.map (·.1)
    rw [List.map_append] at this
    exact this
  · rw [if_neg fun q => hk.2 q.1]
theorem ts_of (h : E'.all = E.all) : E'.ts.Perm E.ts := by unfold Eng.ts; rw [h]
theorem did_of (h : s.kind ≠ 3 ∧ s.kind ≠ 7 ∧ s.kind ≠ 8 ∧ s.kind ≠ 9) : E.C.did s = E.C := by
  unfold Clk.did
  rw [if_neg h.1, if_neg h.2.1, if_neg h.2.2.1, if_neg h.2.2.2]
theorem did_tm (h : E'.C = E.C) {L : List (Tmr × Nat)} (hL : FrL E L F) : FrL E' L F := by unfold FrL at *; rw [h]; exact hL
theorem DoTo.inv (h : Inv lo hi E) (hd : DoTo E s E' F x) : Inv lo hi E' ∧ Eff E s E' F x := by
  cases hd with
  | start hk =>
    rcases start_spec h s with ⟨x, hx, e⟩ | ⟨i, e1, hb, h0, h3, hh, hn, hl, e⟩
    · rw [e]
      exact ⟨h, .idle (did_of (by omega)).symm rfl (List.Perm.refl _) (fun _ => hx) fun q => by omega⟩
    · rw [e]
      obtain ⟨c1, c2⟩ := h.come hb h0 h3 hh hn hl
      obtain ⟨l1, l2⟩ := c1.look i
      refine ⟨l1, (did_of (by omega)).symm, rfl, ⟨[], [], FrL.nil _, ?_, ?_⟩, fun _ _ => hn, fun q => by omega⟩
      · rw [if_pos ⟨hk, rfl⟩]
        have p := c2.map (·.1)
        unfold Eng.ts
        rw [l2]
        exact p.symm
      · rw [if_neg (by omega)]
  | cancel hk =>
    rcases cancel_spec h s.n with ⟨hn, e⟩ | ⟨t, i, ht, ei, hg, e⟩
    · rw [e]
      exact ⟨h, .idle (did_of (by omega)).symm rfl (List.Perm.refl _) (fun q => by omega) fun q => ⟨by show (7 : Int) ≠ 0; decide, hn⟩⟩
    · rw [e]
      obtain ⟨d1, d2⟩ := h.drop ht
      rw [ei] at d1 d2
      refine ⟨d1, (did_of (by omega)).symm, rfl, ⟨[], [t], FrL.nil _, ?_, ?_⟩, fun q => by omega, fun _ => ?_⟩
      · rw [if_neg (by omega)]
        exact d2.map (·.1)
      · rw [if_pos ⟨hk, rfl⟩]; exact ⟨t, rfl, ei⟩
      · rw [hg]; exact ⟨fun _ => rfl, fun _ => rfl⟩
  | adv hk =>
    have ed : E.C.did s = (E.C.adv s.n).1 := by unfold Clk.did; rw [if_pos hk]
    rcases adv_spec E s.n with ⟨a1, a2, e⟩ | ⟨a1, e⟩
    · rw [e]
      exact ⟨h, .idle (by rw [ed, a1]) rfl (List.Perm.refl _) (fun q => by omega) fun q => by omega⟩
    · rw [e]
      obtain ⟨b1, b2⟩ := h.adv (ck_adv h.ck s.n)
      exact ⟨b1, .idle (by rw [ed]; rfl) rfl (ts_of b2) (fun q => by omega) fun q => by omega⟩
  | act E' F hk ha =>
    obtain ⟨b1, b2, b3, b4, L, b5, b6⟩ := h.act ha
    exact ⟨b1, .act (by omega) (by rw [b2, did_of (by omega)]) b4 (did_tm b2 b5) b6⟩
  | set hk =>
    obtain ⟨b1, b2, b3, b4, b5⟩ := h.stepC (ck_set h.ck s.n)
    exact ⟨b1, .idle (by rw [b3]; unfold Clk.did; rw [if_neg (by omega), if_pos hk]) b5 (ts_of b2) (fun q => by omega) fun q => by omega⟩
  | susp hk =>
    obtain ⟨b1, b2, b3, b4, b5⟩ := h.stepC (ck_suspend h.ck)
    exact ⟨b1, .idle (by rw [b3]; unfold Clk.did; rw [if_neg (by omega), if_neg (by omega), if_pos hk]) b5 (ts_of b2) (fun q => by omega) fun q => by omega⟩
  | res hk =>
    obtain ⟨b1, b2, b3, b4, b5⟩ := h.stepC (ck_resume h.ck)
    exact ⟨b1, .idle (by rw [b3]; unfold Clk.did; rw [if_neg (by omega), if_neg (by omega), if_neg (by omega), if_pos hk]) b5 (ts_of b2) (fun q => by omega) fun q => by omega⟩
  | off i to hk h1 h2 =>
    obtain ⟨b1, b2, b3, b4, b5⟩ := h.gone h1 h2
    exact ⟨b1, .idle (by rw [b3, did_of (by omega)]) b4 b2 (fun q => by omega) fun q => by omega⟩
  | bring hk =>
    rcases bring_spec h s.cpu with ⟨x, hx, e⟩ | ⟨k, e1, hk2, hb, e⟩
    · rw [e]
      exact ⟨h, .idle (did_of (by omega)).symm rfl (List.Perm.refl _) (fun q => by omega) fun q => by omega⟩
    · rw [e]
      obtain ⟨b1, b2⟩ := h.bring hk2
      exact ⟨b1, .idle (did_of (by omega)).symm rfl (ts_of b2) (fun q => by omega) fun q => by omega⟩
  | settle k E' F hk hs =>
    obtain ⟨b1, b2, b3, b4, L, b5, b6⟩ := hs.inv h
    exact ⟨b1, .act (by omega) (by rw [b2, did_of (by omega)]) b4 (did_tm b2 b5) b6⟩
  | non x hx hk => exact ⟨h, .idle (did_of (by omega)).symm rfl (List.Perm.refl _) (fun q => by omega) fun q => by omega⟩
theorem Eff.len (h : Inv lo hi E) (he : Eff E s E' F x) : F.length ≤ 65 := by
  obtain ⟨L, G, ⟨h1, _⟩, h2, _⟩ := he.fr
  have l := h2.length_eq
  have := h.count
  have := h.len
  have e : E.ts.length = E.all.length := by unfold Eng.ts; rw [List.length_map]
  rw [h1, List.length_map]
  rw [List.length_append, List.length_append, List.length_map] at l
  split at l
  · rw [List.length_singleton] at l; omega
  · rw [List.length_nil] at l; omega
end
set_option maxHeartbeats 16000000
section
variable {m m' : Mem} {a : EA} {E : Eng} {lo hi : Int}
theorem of29 (h : EngR m a E) (hI : Inv lo hi E) {s : Stq} (hkd : s.kind = 4 ∨ s.kind = 5 ∨ s.kind = 6 ∨ s.kind = 10) {K : KV}
    (hk : ∀ E' F x, DoTo E s E' F x → ∀ v M, EngR M a E' → Stp m M (a.all E.n) (a.all E.n) → Own m.next M 5 v (F.map Frd.cs) → K (.tup [v, .int .i64 x]) M) : ACalls Tryz.prog 29 [.ptr (some (a.e, 0, 0)), .agg s.cs] m K := by
  refine run_on xE hm c29 (by simp) fun hf => ?_
  obtain ⟨M1, hM1⟩ : ∃ M1, m.new (.row 8 [s.cs] true) = M1 := ⟨_, rfl⟩
  have g1 : m.Grew M1 := hM1 ▸ Mem.Grew.new _ _
  have oS : M1.obj m.next = some (.row 8 [s.cs] true) := by rw [← hM1]; simp
  have hS : M1.next = m.next + 1 := by rw [← hM1]; simp
  have h1 := h.grow g1
  have sg := Stp.grow g1 (a.all E.n)
  unfold Stq.cs at hM1 oS ⊢
  simp (disch := omega) [-getElem?_pos, b29, hM1, oS]
  refine at37 h1 hI.on ?_
  cases hh : hasM E.on s.cpu with
  | false =>
    simp (disch := omega) [-getElem?_pos]
    exact hk E [] 2 (.non 2 (by decide) (by omega)) _ _ h1 sg (Own.none _ _ _)
  | true =>
    obtain ⟨hi0, hci⟩ := hasM_n hI.on hh
    have hb : E.on.testBit s.cpu.toNat = true := by
      unfold hasM at hh
      simp only [Bool.and_eq_true, decide_eq_true_eq] at hh
      exact hh.2
    generalize s.cpu.toNat = i at *
    have hF := hI.fireOk hi0
    have own : ∀ {v M F}, Own M1.next M 5 v F → Own m.next M 5 v F := fun q => own_le q (by omega)
    rw [hci] at oS ⊢
    rcases hkd with e | e | e | e
    · rw [e] at oS ⊢
      simp (disch := omega) [-getElem?_pos, oS]
      refine irq58 h1 hI.ck hi0 hF (fun hl => ?_) fun hl v M x1 x2 x3 => ?_
      · simp (disch := omega) [-getElem?_pos]
        exact hk E [] 8 (.non 8 (by decide) (by omega)) _ _ h1 sg (Own.none _ _ _)
      · simp (disch := omega) [-getElem?_pos]
        exact hk _ _ 0 (.act _ _ (by omega) (.irq i hb hl)) _ _ x1 (sg.trans x2) (own x3)
    · rw [e] at oS ⊢
      simp (disch := omega) [-getElem?_pos, oS]
      refine softirq59 h1 hI.ck hi0 hF (fun hl => ?_) fun hl v M x1 x2 x3 => ?_
      · simp (disch := omega) [-getElem?_pos]
        exact hk E [] 8 (.non 8 (by decide) (by omega)) _ _ h1 sg (Own.none _ _ _)
      · simp (disch := omega) [-getElem?_pos]
        exact hk _ _ 0 (.act _ _ (by omega) (.soft i hb hl)) _ _ x1 (sg.trans x2) (own x3)
    · rw [e] at oS ⊢
      simp (disch := omega) [-getElem?_pos, oS]
      refine kick60 h1 hI.ck hi0 fun M x1 x2 => ?_
      simp (disch := omega) [-getElem?_pos]
      cases hl : (E.c i).kicked with
      | true =>
        rw [hl] at x1
        exact hk _ _ 0 (.act _ _ (by omega) (.kick i hb hl)) _ _ x1 (sg.trans x2) (Own.none _ _ _)
      | false =>
        rw [hl] at x1
        exact hk E [] 8 (.non 8 (by decide) (by omega)) _ _ x1 (sg.trans x2) (Own.none _ _ _)
    · rw [e] at oS ⊢
      simp (disch := omega) [-getElem?_pos, oS]
      refine offline61 h1 hI.ck hI.on hb (hI.uni hi0) hF.len (fun to j hto hne hj => ?_) (fun _ => ?_) fun to hto M x1 x2 => ?_
      · have := hI.lenTwo hi0 hto hne
        have := Q_le (E.c to).Q hj
        omega
      · simp (disch := omega) [-getElem?_pos]
        exact hk E [] 8 (.non 8 (by decide) (by omega)) _ _ h1 sg (Own.none _ _ _)
      · simp (disch := omega) [-getElem?_pos]
        exact hk _ _ 0 (.off i to e hb hto) _ _ x1 (sg.trans x2) (Own.none _ _ _)
end
set_option maxHeartbeats 16000000
theorem SetTo.few {lo hi : Int} {E E' : Eng} {k : Nat} {F : List Frd} (hs : SetTo k E E' F) (h : Inv lo hi E) : F.length ≤ 64 := by
  obtain ⟨_, _, _, _, L, ⟨e, _⟩, p⟩ := hs.inv h
  have l := p.length_eq
  rw [List.length_append, h.count] at l
  have := h.len
  rw [e, List.length_map]
  omega
section
variable {m m' : Mem} {a : EA} {E : Eng} {lo hi : Int}
theorem set31 (h : EngR m a E) (hC : CkOk E.C) {p q : Nat} {s : Stq} (hp : m.obj p = some (.row 1 [[.ptr (some (a.e, 0, 0))]] true)) (hq : m.obj q = some (.row 8 [s.cs] true)) {K : KV} (hk : ∀ M, Only m a.k (ckO (E.C.set s.n).1) M → K (.int .i64 (E.C.set s.n).2) M) :
    ACalls Tryz.prog 31 [.ptr (some (p, 0, 0)), .ptr (some (q, 0, 0))] m K := by
  refine run_on (ctx_nil _) hm c31 (by simp) fun hf => ?_
  have oe := h.oe
  unfold Stq.cs at hq
  simp (disch := omega) [-getElem?_pos, b31, hp, hq, oe]
  refine set32 h.ok hC h.lt.2.1 fun M hO => ?_
  simp (disch := omega) [-getElem?_pos]
  exact hk M hO
theorem susp_only (h : EngR m a E) {K : KV} (hk : ∀ M, Only m a.k (ckO E.C.suspend.1) M → K (.int .i64 E.C.suspend.2) M) : ACalls Tryz.prog 33 ([.ptr (some (a.k, 0, 0))] ++ []) m K := by
  refine susp33 h.ok (hk _ ?_)
  unfold Clk.suspend
  cases ha : E.C.asleep with
  | true => exact ⟨Nat.le_refl _, fun _ _ _ => rfl, h.ok⟩
  | false => exact only_up (Mem.Grew.refl m) _ _
theorem do9 (h : EngR m a E) (hI : Inv lo hi E) {s : Stq} {K : KV}
    (hk : ∀ E' F x, DoTo E s E' F x → ∀ v M, EngR M a E' → Stp m M (a.all E.n) (a.all E.n) → Own m.next M 5 v (F.map Frd.cs) → K (.tup [v, .int .i64 x]) M) : ACalls Tryz.prog 9 [.ptr (some (a.e, 0, 0)), .agg s.cs] m K := by
  refine run_on xE hm c9 (by simp) fun hf => ?_
  obtain ⟨M1, hM1⟩ : ∃ M1, (m.new (.row 1 [[.ptr (some (a.e, 0, 0))]] true)).new (.row 8 [s.cs] true) = M1 := ⟨_, rfl⟩
  have g1 : m.Grew M1 := hM1 ▸ (Mem.Grew.new _ _).trans (Mem.Grew.new _ _)
  have oP : M1.obj m.next = some (.row 1 [[.ptr (some (a.e, 0, 0))]] true) := by rw [← hM1]; simp
  have oS : M1.obj (m.next + 1) = some (.row 8 [s.cs] true) := by rw [← hM1]; simp
  have hS : M1.next = m.next + 1 + 1 := by rw [← hM1]; simp
  have h1 := h.grow g1
  have sg := Stp.grow g1 (a.all E.n)
  have oS' := oS
  have own : ∀ {v M F}, Own M1.next M 5 v F → Own m.next M 5 v F := fun q => own_le q (by omega)
  unfold Stq.cs at hM1 oS
  by_cases k1 : s.kind = 1
  · rw [k1] at oS
    have es : V.agg [.int .i64 1, .int .i64 s.cpu, .int .i64 s.n, .int .i64 s.t.id, .int .i64 s.t.ck, .int .i64 s.t.soft, .int .i64 s.t.hard, .bool s.t.lazy] = .agg s.cs := by unfold Stq.cs; rw [k1]
    simp (disch := omega) [-getElem?_pos, b9, Stq.cs, hM1, oP, oS]
    rw [es]
    refine start26 h1 hI.ck hI.on (fun i hi j hj => hI.lenQ hi hj) fun M x1 x2 => ?_
    simp (disch := omega) [-getElem?_pos]
    exact hk _ _ _ (.start k1) _ _ x1 (sg.trans x2) (Own.none _ _ _)
  by_cases k2 : s.kind = 2
  · rw [k2] at oS
    simp (disch := omega) [-getElem?_pos, b9, Stq.cs, hM1, oP, oS]
    refine cancel27 h1 (fun i hi => hI.on.n i (hI.onl _ (getN_mem hi))) (fun i hi => hI.uni hi) fun M x1 x2 => ?_
    simp (disch := omega) [-getElem?_pos]
    exact hk _ _ _ (.cancel k2) _ _ x1 (sg.trans x2) (Own.none _ _ _)
  by_cases k3 : s.kind = 3
  · rw [k3] at oS
    simp (disch := omega) [-getElem?_pos, b9, Stq.cs, hM1, oP, oS]
    refine advance28 h1 hI.ck hI.on.n16 fun M x1 x2 => ?_
    simp (disch := omega) [-getElem?_pos]
    exact hk _ _ _ (.adv k3) _ _ x1 (sg.trans x2) (Own.none _ _ _)
  by_cases kk : s.kind = 4 ∨ s.kind = 5 ∨ s.kind = 6 ∨ s.kind = 10
  · have ho := fun {K1 : KV} => of29 (K := K1) h1 hI kk
    unfold Stq.cs at ho
    rcases kk with e | e | e | e
    all_goals
      rw [e] at oS ho
      simp (disch := omega) [-getElem?_pos, b9, Stq.cs, hM1, oP, oS]
      refine ho fun E' F x hd v M x1 x2 x3 => ?_
      simp (disch := omega) [-getElem?_pos]
      exact hk _ _ _ hd _ _ x1 (sg.trans x2) (own x3)
  by_cases k7 : s.kind = 7
  · rw [k7] at oS
    simp (disch := omega) [-getElem?_pos, b9, Stq.cs, hM1, oP, oS]
    refine step30 h1 hI.on (g := 31) (fs := []) (cs := [.ptr (some (m.next, 0, 0)), .ptr (some (m.next + 1, 0, 0))]) (C := (E.C.set s.n).1) (x := (E.C.set s.n).2) (fun hK => set31 h1 hI.ck oP oS' hK) fun M x1 x2 => ?_
    simp (disch := omega) [-getElem?_pos]
    exact hk _ _ _ (.set k7) _ _ x1 (sg.trans x2) (Own.none _ _ _)
  have oe1 := h1.oe
  by_cases k8 : s.kind = 8
  · rw [k8] at oS
    simp (disch := omega) [-getElem?_pos, b9, Stq.cs, hM1, oP, oS, oe1]
    refine step30 h1 hI.on (g := 33) (fs := [.ptr (some (a.k, 0, 0))]) (cs := []) (C := E.C.suspend.1) (x := E.C.suspend.2) (fun hK => susp_only h1 hK) fun M x1 x2 => ?_
    simp (disch := omega) [-getElem?_pos]
    exact hk _ _ _ (.susp k8) _ _ x1 (sg.trans x2) (Own.none _ _ _)
  by_cases k9 : s.kind = 9
  · rw [k9] at oS
    simp (disch := omega) [-getElem?_pos, b9, Stq.cs, hM1, oP, oS, oe1]
    refine step30 h1 hI.on (g := 34) (fs := [.ptr (some (a.k, 0, 0))]) (cs := []) (C := E.C.resume.1) (x := E.C.resume.2) (fun hK => resume34 h1.ok hI.ck h1.lt.2.1 hK) fun M x1 x2 => ?_
    simp (disch := omega) [-getElem?_pos]
    exact hk _ _ _ (.res k9) _ _ x1 (sg.trans x2) (Own.none _ _ _)
  by_cases k11 : s.kind = 11
  · rw [k11] at oS
    simp (disch := omega) [-getElem?_pos, b9, Stq.cs, hM1, oP, oS]
    refine bring35 h1 hI.on fun M x1 x2 => ?_
    simp (disch := omega) [-getElem?_pos]
    exact hk _ _ _ (.bring k11) _ _ x1 (sg.trans x2) (Own.none _ _ _)
  by_cases k12 : s.kind = 12
  · rw [k12] at oS
    obtain ⟨n, E', F, hs⟩ := settles hI
    simp (disch := omega) [-getElem?_pos, b9, Stq.cs, hM1, oP, oS]
    refine settle36 h1 (holds_inv E.n) ⟨hI, rfl⟩ hs (by have := hs.few hI; omega) fun v M x1 x2 x3 => ?_
    simp (disch := omega) [-getElem?_pos]
    exact hk _ _ _ (.settle n E' F k12 hs) _ _ x1 (sg.trans x2) (own x3)
  simp only [not_or] at kk
  obtain ⟨k4, k5, k6, k10⟩ := kk
  simp (disch := omega) [-getElem?_pos, b9, Stq.cs, hM1, oP, oS, k1, k2, k3, k4, k5, k6, k7, k8, k9, k10, k11, k12]
  exact hk E [] 1 (.non 1 (by decide) ⟨k1, k2, k3, k7, k8, k9, k12⟩) _ _ h1 sg (Own.none _ _ _)
end
set_option maxHeartbeats 16000000
inductive RunTo (E : Eng) : List Stq → Eng → List Frd → Prop where
  | nil : RunTo E [] E []
  | snoc (l : List Stq) (s : Stq) (E1 E2 : Eng) (F F2 : List Frd) (x : Int) : RunTo E l E1 F → DoTo E1 s E2 F2 x → RunTo E (l ++ [s]) E2 (F ++ F2)
section
variable {m m' : Mem} {a : EA} {E : Eng} {lo hi : Int}
theorem DoTo.n {E' : Eng} {s : Stq} {F : List Frd} {x : Int} (h : Inv lo hi E) (hd : DoTo E s E' F x) : E'.n = E.n := (hd.inv h).2.n
theorem run13 (h : EngR m a E) (hI : Inv lo hi E) {v : V} {l : List Stq} (hs : Sl m 8 v (l.map Stq.cs)) (ha : l ≠ [] → ∀ p, v.addr = some p → p ∉ a.all E.n) (hl : l.length ≤ 1000) {K : KV}
    (hk : ∀ E' F, RunTo E l E' F → Inv lo hi E' → E'.n = E.n → ∀ w M, EngR M a E' → Stp m M (a.all E.n) (a.all E.n) → Own m.next M 5 w (F.map Frd.cs) → K w M) : ACalls Tryz.prog 13 [.ptr (some (a.e, 0, 0)), v] m K := by
  refine run_on xE hm c13 (by simp) fun hf => ?_
  have hlen := hs.lenSl
  rw [List.length_map] at hlen
  have hlt := h.lts
  simp (disch := omega) [-getElem?_pos, b13, hlen]
  refine exec_loopU (σ := Nat × Eng × List Frd × V × Mem) (fun (j, _, _, w, _) => [(12, .int .i64 j), (11, .int .i64 l.length), (10, v), (5, w), (0, .ptr (some (a.e, 0, 0)))]) (fun (_, _, _, _, M) => M)
    (fun (j, E1, D, w, M) => j ≤ l.length ∧ EngR M a E1 ∧ Inv lo hi E1 ∧ E1.n = E.n ∧ Stp m M (a.all E.n) (a.all E.n) ∧ Own m.next M 5 w (D.map Frd.cs) ∧ RunTo E (l.take j) E1 D ∧ D.length ≤ 65 * j) (fun (j, _, _, _, _) => l.length - j)
    (0, E, [], .sl .none 0 (some 0), m) rfl ⟨by omega, h, hI, rfl, Stp.refl _ _, Own.none _ _ _, .nil, by simp⟩ (by simp) ?_
  intro (j, E1, D, w, M) ⟨a1, a2, a3, a4, a5, a6, a7, a8⟩
  by_cases hj : j < l.length
  · have hs3 : Sl M 8 v (l.map Stq.cs) := hs.keep a5.next fun p hp hq => a5.obj p hp (ha (fun e => by rw [e] at hj; simp at hj) p hq)
    obtain ⟨p, q, full, rw', d1, d2, d3, d4, _⟩ := hs3.at (i := j) (x := (l[j]).cs) (by simp [hj]) .i64
    obtain ⟨s, hs⟩ : ∃ s, l[j] = s := ⟨_, rfl⟩
    rw [hs] at d4
    have m3 := a5.next
    have d4' := d4
    unfold Stq.cs at d4
    obtain ⟨M1, hM1⟩ : ∃ M1, M.new (.row 8 [s.cs] true) = M1 := ⟨_, rfl⟩
    have g1 : M.Grew M1 := hM1 ▸ Mem.Grew.new _ _
    have oS : M1.obj M.next = some (.row 8 [s.cs] true) := by rw [← hM1]; simp
    have hn1 : M1.next = M.next + 1 := by rw [← hM1]; simp
    have h1 := a2.grow g1
    have hdo := fun {K1 : KV} => do9 (K := K1) h1 a3 (s := s)
    unfold Stq.cs at hM1 oS hdo
    simp (disch := omega) [-getElem?_pos, d1, d2, d3, d4, splice, hM1, oS]
    refine hdo fun E2 F2 x hd v2 M2 x1 x2 x3 => ?_
    obtain ⟨i1, i2⟩ := hd.inv a3
    rw [a4] at x2
    have e2 : E2.n = E.n := i2.n.trans a4
    have hF := i2.len a3
    have own1 : Own m.next M1 5 w (D.map Frd.cs) := a6.grow g1
    have own2 := own_step own1 x2 (Nat.le_refl _) hlt
    have hw := elts_own x3
    have n2 := x2.next
    simp (disch := omega) [-getElem?_pos, hw]
    have hl2 : (D.map Frd.cs).length + (F2.map Frd.cs).length ≤ 1000000 := by
      simp only [List.length_map]; omega
    refine app_own own2 x3 (by omega) hl2 fun v' M3 u1 u2 u3 => ?_
    simp (disch := omega) [-getElem?_pos]
    have al : ∀ p ∈ a.all E.n, p < m.next := hlt
    have eT : l.take (j + 1) = l.take j ++ [s] := by rw [List.take_add_one, List.getElem?_eq_getElem hj, hs]; rfl
    exact again_mk (j + 1, E2, D ++ F2, v', M3) ⟨by omega, x1.keep u2 fun p hp => u3 p (al p (by rw [← e2]; exact hp)), i1, e2, ⟨by show m.next ≤ M3.next; omega, fun p hp hd => (u3 p hp).trans ((x2.obj p (by omega) hd).trans ((g1.obj p (by omega)).trans (a5.obj p hp hd))), fun p hp => .inl hp⟩, by rw [List.map_append]; exact u1, by rw [eT]; exact .snoc _ _ _ _ _ _ _ a7 hd, by rw [List.length_append]; omega⟩ (by dsimp only; omega) (by simp) rfl
  · obtain rfl : j = l.length := by omega
    rw [List.take_length] at a7
    simp (disch := omega) [-getElem?_pos]
    exact hk E1 D a7 a3 a4 w M a2 a5 a6
end
set_option maxHeartbeats 16000000
def Cp.fresh (lo hi : Int) : Cp := ⟨fun _ => [], ⟨lo, hi, 0, false, false, false⟩, false, false⟩
def Eng.new (n : Nat) (lo hi : Int) : Eng := ⟨n, Clk.new, fun _ => Cp.fresh lo hi, ofA 0 (List.range n), []⟩
theorem ofA_snoc (a : Nat) (l : List Nat) (i : Nat) : ofA a (l ++ [i]) = ofA a l ||| bitN i := by
  induction l generalizing a with
  | nil => rfl
  | cons k l ih => exact ih _
theorem new_on {n : Nat} (h : n ≤ 16) (i : Nat) : (ofA 0 (List.range n)).testBit i = decide (i < n) := by
  rw [ofA_bit 0 _ (fun k hk => by have := List.mem_range.1 hk; omega)]
  simp
theorem inv_new {n : Nat} {lo hi : Int} (h1 : 1 ≤ n) (h16 : n ≤ 16) : Inv lo hi (Eng.new n lo hi) := by
  have hb := new_on h16
  have hlt : ofA 0 (List.range n) < 65536 := ofA_lt _ (by omega)
  have ea : (Eng.new n lo hi).all = [] := by
    unfold Eng.all
    rw [List.flatMap_eq_nil_iff]
    intro i hi
    rfl
  refine ⟨ck_new, ⟨hlt, fun i hi => ?_, h16⟩, fun e => ?_, by rw [ea]; exact List.Perm.refl _, List.nodup_nil, by show (0 : Nat) ≤ 64; omega, fun i _ j _ t ht => (by cases ht), fun i _ j _ => List.Pairwise.nil, fun x hx => (by cases hx), fun i _ => ⟨rfl, rfl⟩⟩
  · have hi : (ofA 0 (List.range n)).testBit i = true := hi
    rw [hb] at hi
    exact of_decide_eq_true hi
  · have e : ofA 0 (List.range n) = 0 := e
    have := hb 0
    rw [e, decide_eq_true (by omega)] at this
    simp at this
/-- An engine, as it is made: so many processors are there. -/
structure NewR (m M : Mem) (e k w : Nat) (c : Nat → CA) (v : V) (i on : Nat) (Z : Cp) : Prop where
  gr : m.Grew M
  oe : M.obj e = some (.row 4 [[.ptr (some (k, 0, 0)), v, .int .u32 on, .map (some w)]] true)
  ok : M.obj k = some (ckO Clk.new)
  ow : ∃ g, M.obj w = some (.map [] g)
  own : Own m.next M 1 v ((List.range i).map fun j => [V.ptr (some ((c j).o, 0, 0))])
  cp : ∀ j, j < i → CpR M (c j) Z
  ne : e ≠ k ∧ e ≠ w ∧ k ≠ w
  lt : e < M.next ∧ k < M.next ∧ w < M.next
  ge : m.next ≤ e ∧ m.next ≤ k ∧ m.next ≤ w
  cge : ∀ j, j < i → ∀ p ∈ (c j).all, m.next ≤ p
  s : ∀ j, j < i → ∀ p ∈ (c j).all, p ≠ e ∧ p ≠ k ∧ p ≠ w ∧ v.addr ≠ some p
  va : v.addr ≠ some e ∧ v.addr ≠ some k ∧ v.addr ≠ some w
  od : ∀ j, j < i → (c j).o ≠ (c j).d
  ob : ∀ j, j < i → (c j).o ∉ (c j).b.all
  db : ∀ j, j < i → (c j).d ∉ (c j).b.all
  ij : ∀ j l, j < i → l < i → j ≠ l → ∀ p ∈ (c j).all, p ∉ (c l).all
def upF (c : Nat → CA) (i : Nat) (x : CA) : Nat → CA := fun k => if k = i then x else c k
section
variable {m M M' : Mem} {e k w : Nat} {c : Nat → CA} {v : V} {i on : Nat} {Z : Cp}
/-- One more comes. -/
theorem NewR.more (h : NewR m M e k w c v i on Z) {x : CA} {v' : V} {on' : Nat} (hx : CpR M' x Z) (hn : M.next ≤ M'.next) (ho : ∀ p, p < M.next → p ≠ e → v.addr ≠ some p → M'.obj p = M.obj p)
    (oe : M'.obj e = some (.row 4 [[.ptr (some (k, 0, 0)), v', .int .u32 on', .map (some w)]] true)) (own : Own m.next M' 1 v' (((List.range i).map fun j => [V.ptr (some ((c j).o, 0, 0))]) ++ [[V.ptr (some (x.o, 0, 0))]]))
    (hv : ∀ p, v'.addr = some p → M.next ≤ p ∧ p ∉ x.all) (hge : ∀ p ∈ x.all, M.next ≤ p) (od : x.o ≠ x.d) (ob : x.o ∉ x.b.all) (db : x.d ∉ x.b.all) : NewR m M' e k w (upF c i x) v' (i + 1) on' Z := by
  obtain ⟨l1, l2, l3⟩ := h.lt
  obtain ⟨g1, g2, g3⟩ := h.ge
  obtain ⟨n1, n2, n3⟩ := h.ne
  obtain ⟨v1, v2, v3⟩ := h.va
  have gn := h.gr.next
  obtain ⟨g, ow⟩ := h.ow
  have eo : ∀ j, j ≠ i → upF c i x j = c j := fun j hj => if_neg hj
  have ei : upF c i x i = x := if_pos rfl
  have two : ∀ {P : CA → Prop}, (∀ j, j < i → P (c j)) → P x → ∀ j, j < i + 1 → P (upF c i x j) := fun h1 h2 j hj => by
    by_cases q : j = i
    · rw [q, ei]; exact h2
    · rw [eo j q]; exact h1 j (by omega)
  have vlt : ∀ p, v.addr = some p → m.next ≤ p := fun p hp => (h.own.addr_lt hp).1
  refine ⟨⟨by omega, fun p hp => ?_⟩, oe, ?_, ⟨g, ?_⟩, ?_, two (P := fun y => CpR M' y Z) (fun j hj => ?_) hx, h.ne, ⟨by omega, by omega, by omega⟩, h.ge, ?_, ?_, ⟨?_, ?_, ?_⟩, two (P := fun y => y.o ≠ y.d) h.od od, two (P := fun y => y.o ∉ y.b.all) h.ob ob, two (P := fun y => y.d ∉ y.b.all) h.db db, ?_⟩
  · rw [ho p (by omega) (by omega) (fun q => by have := vlt p q; omega)]
    exact h.gr.obj p hp
  · rw [ho k l2 n1.symm v2]; exact h.ok
  · rw [ho w l3 n2.symm v3]; exact ow
  · rw [List.range_succ, List.map_append]
    have : (List.range i).map (fun j => [V.ptr (some ((upF c i x j).o, 0, 0))]) = (List.range i).map fun j => [V.ptr (some ((c j).o, 0, 0))] := by
      refine List.map_congr_left fun j hj => ?_
      have := List.mem_range.1 hj
      rw [eo j (by omega)]
    rw [this]
    simpa [ei] using own
  · exact (h.cp j hj).keep hn fun p hp => ho p ((h.cp j hj).lts p hp) (h.s j hj p hp).1 (h.s j hj p hp).2.2.2
  · exact two (P := fun y => ∀ p ∈ y.all, m.next ≤ p) h.cge fun p hp => by have := hge p hp; omega
  · refine two (P := fun y => ∀ p ∈ y.all, p ≠ e ∧ p ≠ k ∧ p ≠ w ∧ v'.addr ≠ some p) (fun j hj p hp => ?_) fun p hp => ?_
    · obtain ⟨q1, q2, q3, q4⟩ := h.s j hj p hp
      refine ⟨q1, q2, q3, fun q => ?_⟩
      have := (hv p q).1
      have := (h.cp j hj).lts p hp
      omega
    · have := hge p hp
      exact ⟨by omega, by omega, by omega, fun q => (hv p q).2 hp⟩
  · exact fun q => by have := (hv _ q).1; omega
  · exact fun q => by have := (hv _ q).1; omega
  · exact fun q => by have := (hv _ q).1; omega
  · intro j l hj hl hne p hp hq
    by_cases q1 : j = i
    · rw [q1, ei] at hp
      rw [eo l (by omega)] at hq
      have := hge p hp
      have := (h.cp l (by omega)).lts p hq
      omega
    · rw [eo j q1] at hp
      by_cases q2 : l = i
      · rw [q2, ei] at hq
        have := hge p hq
        have := (h.cp j (by omega)).lts p hp
        omega
      · rw [eo l q2] at hq
        exact h.ij j l (by omega) (by omega) hne p hp hq
/-- Who is online is another. -/
theorem NewR.turnOn (h : NewR m M e k w c v i on Z) (on' : Nat) (hg : M.Grew M') : NewR m (M'.upd e (some (.row 4 [[.ptr (some (k, 0, 0)), v, .int .u32 on', .map (some w)]] true))) e k w c v i on' Z := by
  obtain ⟨l1, l2, l3⟩ := h.lt
  obtain ⟨g1, g2, g3⟩ := h.ge
  obtain ⟨n1, n2, n3⟩ := h.ne
  obtain ⟨v1, v2, v3⟩ := h.va
  obtain ⟨g, ow⟩ := h.ow
  have hn := hg.next
  have hn' := h.gr.next
  refine ⟨⟨by simp; omega, fun p hp => ?_⟩, by simp, ?_, ⟨g, ?_⟩, own_upd (h.own.grow hg) v1 _, fun j hj => ?_, h.ne, ⟨by simp; omega, by simp; omega, by simp; omega⟩, h.ge, h.cge, h.s, h.va, h.od, h.ob, h.db, h.ij⟩
  · rw [updO _ (by omega), hg.obj p (by omega)]; exact h.gr.obj p hp
  · rw [updO _ n1.symm, hg.obj k l2]; exact h.ok
  · rw [updO _ n2.symm, hg.obj w l3]; exact ow
  · exact (h.cp j hj).keep (by simp; omega) fun p hp => by rw [updO _ (h.s j hj p hp).1, hg.obj p ((h.cp j hj).lts p hp)]
theorem NewR.eng {n : Nat} {lo hi : Int} (h : NewR m M e k w c v n (ofA 0 (List.range n)) (Cp.fresh lo hi)) (h1 : 1 ≤ n) : ∃ a : EA, a.e = e ∧ EngR M a (Eng.new n lo hi) ∧ ∀ p ∈ a.all n, m.next ≤ p := by
  have hne : (List.range n).map (fun j => [V.ptr (some ((c j).o, 0, 0))]) ≠ [] := by
    intro q
    have := congrArg List.length q
    simp at this
    omega
  obtain ⟨q, rfl, q1, q2, q3⟩ := h.own.of_ne hne
  obtain ⟨g, ow⟩ := h.ow
  obtain ⟨l1, l2, l3⟩ := h.lt
  obtain ⟨n1, n2, n3⟩ := h.ne
  obtain ⟨v1, v2, v3⟩ := h.va
  obtain ⟨g1, g2, g3⟩ := h.ge
  have vn : ∀ p, (V.sl (some (q, 0, 1)) ((List.range n).map fun j => [V.ptr (some ((c j).o, 0, 0))]).length none).addr ≠ some p → p ≠ q := fun p hp e => hp (by subst e; rfl)
  refine ⟨⟨e, k, q, w, c⟩, rfl, ⟨?_, h.ok, q3, ⟨g, ow⟩, fun i hi => h.cp i hi, ⟨n1, vn _ v1, n2, vn _ v2, n3, (vn _ v3).symm, fun i hi p hp => ?_, h.od, h.ob, h.db, h.ij⟩, ⟨l1, l2, q2, l3⟩⟩, fun p hp => ?_⟩
  · have := h.oe
    rw [List.length_map, List.length_range] at this
    exact this
  · obtain ⟨x1, x2, x3, x4⟩ := h.s i hi p hp
    exact ⟨x1, x2, vn _ x4, x3⟩
  · rcases EA.mem.1 hp with (rfl | rfl | rfl | rfl) | ⟨i, hi, hp⟩
    · exact g1
    · exact g2
    · exact q1
    · exact g3
    · exact h.cge i hi p hp
end
set_option maxHeartbeats 16000000
section
variable {m m' : Mem}
/-- One more is there. -/
def NewX (m : Mem) (e k w i on : Nat) (Z : Cp) (M : Mem) : Prop := ∃ c v, NewR m M e k w c v i on Z
theorem onE_lt (i : Nat) : ofA 0 (List.range i) < 65536 := ofA_lt _ (by omega)
theorem new8 {n : Nat} {lo hi : Int} (h1 : 1 ≤ n) (h16 : n ≤ 16) (hl0 : 0 ≤ lo) (hlh : lo ≤ hi) (h1h : 1 ≤ hi) (htop : hi ≤ 1099511627776) {K : KV}
    (hk : ∀ a M, m.Grew M → EngR M a (Eng.new n lo hi) → (∀ p ∈ a.all n, m.next ≤ p) → K (.ptr (some (a.e, 0, 0))) M) : ACalls Tryz.prog 8 [.int .i64 n, .int .i64 lo, .int .i64 hi] m K := by
  refine run_on xE hm c8 (by simp) fun hf => ?_
  simp (disch := omega) [-getElem?_pos, b8]
  refine dnew22 hl0 hlh h1h htop ?_
  simp (disch := omega) [-getElem?_pos]
  refine cnew23 ?_
  simp (disch := omega) [-getElem?_pos, splice]
  obtain ⟨M1, hM1⟩ : ∃ M1, (((m.new (dvO ⟨lo, hi, 0, false, false, false⟩)).new (ckO Clk.new)).new (.map [] ([], 0))).new (.row 4 [[.ptr (some (m.next + 1, 0, 0)), .sl none 0 (some 0), .int .u32 0, .map (some (m.next + 1 + 1))]] true) = M1 := ⟨_, rfl⟩
  have g1 : m.Grew M1 := hM1 ▸ (((Mem.Grew.new _ _).trans (Mem.Grew.new _ _)).trans (Mem.Grew.new _ _)).trans (Mem.Grew.new _ _)
  have oe : M1.obj (m.next + 1 + 1 + 1) = some (.row 4 [[.ptr (some (m.next + 1, 0, 0)), .sl none 0 (some 0), .int .u32 0, .map (some (m.next + 1 + 1))]] true) := by rw [← hM1]; simp
  have ok : M1.obj (m.next + 1) = some (ckO Clk.new) := by
    rw [← hM1]; simp
  have ow : M1.obj (m.next + 1 + 1) = some (.map [] ([], 0)) := by rw [← hM1]; simp
  have hn1 : M1.next = m.next + 1 + 1 + 1 + 1 := by rw [← hM1]; simp
  have N0 : NewR m M1 (m.next + 1 + 1 + 1) (m.next + 1) (m.next + 1 + 1) (fun _ => ⟨0, 0, 0, fun _ => ⟨0, 0, 0, 0, 0⟩⟩) (.sl none 0 (some 0)) 0 (ofA 0 (List.range 0)) (Cp.fresh lo hi) :=
    ⟨g1, oe, ok, ⟨_, ow⟩, Own.none _ _ _, fun j hj => by omega, by omega, by omega, by omega, fun j hj => by omega, fun j hj => by omega, ⟨by simp [V.addr], by simp [V.addr], by simp [V.addr]⟩, fun j hj => by omega, fun j hj => by omega, fun j hj => by omega, fun j l hj => by omega⟩
  rw [hM1]
  generalize m.next + 1 + 1 + 1 = e at *
  generalize m.next + 1 + 1 = w at *
  generalize m.next + 1 = k at *
  refine exec_loopU (σ := Nat × (Nat → CA) × V × Mem) (fun (i, _, _, _) => [(26, .int .i64 i), (25, .int .i64 n), (7, .ptr (some (e, 0, 0))), (2, .int .i64 hi), (1, .int .i64 lo)]) (fun (_, _, _, M) => M)
    (fun (i, c, v, M) => i ≤ n ∧ NewR m M e k w c v i (ofA 0 (List.range i)) (Cp.fresh lo hi)) (fun (i, _, _, _) => n - i) (0, _, _, M1) rfl ⟨by omega, N0⟩ (by simp) ?_
  intro (i, c, v, M) ⟨a1, a2⟩
  by_cases hi0 : i < n
  · have oeM := a2.oe
    simp (disch := omega) [-getElem?_pos]
    obtain ⟨le, lk, lw⟩ := a2.lt
    obtain ⟨ve, vk, vw⟩ := a2.va
    have fin : ∀ M2 b, M.Grew M2 → (∀ p ∈ b.all, M.next ≤ p) → Bas M2 b (fun _ => []) → ∀ {K1 : KV}, (∀ v' M3, v'.cs = [v'] → v'.okc = true → M3.obj e = some (.row 4 [[.ptr (some (k, 0, 0)), v, .int .u32 (ofA 0 (List.range i) : Nat), .map (some w)]] true) →
        NewX m e k w (i + 1) (ofA 0 (List.range i)) (Cp.fresh lo hi) (M3.upd e (some (.row 4 [[.ptr (some (k, 0, 0)), v', .int .u32 (ofA 0 (List.range i) : Nat), .map (some w)]] true))) → K1 v' M3) →
        appendX 1 8 (((M2.new (dvO ⟨lo, hi, 0, false, false, false⟩)).new (.row 4 [[.ptr (some (b.o, 0, 0)), .ptr (some (M2.next, 0, 0)), .bool false, .bool false]] true)).new (.row 1 [[.ptr (some (M2.next + 1, 0, 0))]] true)) v [[.ptr (some (M2.next + 1, 0, 0))]] K1 := by
      intro M2 b g2 hb hB K1 hK
      have n2 := g2.next
      have gX := (((Mem.Grew.new M2 (dvO ⟨lo, hi, 0, false, false, false⟩)).trans (Mem.Grew.new _ (.row 4 [[.ptr (some (b.o, 0, 0)), .ptr (some (M2.next, 0, 0)), .bool false, .bool false]] true))).trans (Mem.Grew.new _ (.row 1 [[.ptr (some (M2.next + 1, 0, 0))]] true)))
      have od : (((M2.new (dvO ⟨lo, hi, 0, false, false, false⟩)).new (.row 4 [[.ptr (some (b.o, 0, 0)), .ptr (some (M2.next, 0, 0)), .bool false, .bool false]] true)).new (.row 1 [[.ptr (some (M2.next + 1, 0, 0))]] true)).obj M2.next = some (dvO ⟨lo, hi, 0, false, false, false⟩) := by
        simp; omega
      have oo : (((M2.new (dvO ⟨lo, hi, 0, false, false, false⟩)).new (.row 4 [[.ptr (some (b.o, 0, 0)), .ptr (some (M2.next, 0, 0)), .bool false, .bool false]] true)).new (.row 1 [[.ptr (some (M2.next + 1, 0, 0))]] true)).obj (M2.next + 1) = some (.row 4 [[.ptr (some (b.o, 0, 0)), .ptr (some (M2.next, 0, 0)), .bool false, .bool false]] true) := by
        simp
      have nX : (((M2.new (dvO ⟨lo, hi, 0, false, false, false⟩)).new (.row 4 [[.ptr (some (b.o, 0, 0)), .ptr (some (M2.next, 0, 0)), .bool false, .bool false]] true)).new (.row 1 [[.ptr (some (M2.next + 1, 0, 0))]] true)).next = M2.next + 1 + 1 + 1 := by simp
      generalize (((M2.new (dvO ⟨lo, hi, 0, false, false, false⟩)).new (.row 4 [[.ptr (some (b.o, 0, 0)), .ptr (some (M2.next, 0, 0)), .bool false, .bool false]] true)).new (.row 1 [[.ptr (some (M2.next + 1, 0, 0))]] true)) = MX at *
      have gA := g2.trans gX
      have hmn := a2.gr.next
      refine appendX_own3 a2.own gA hmn (by simp) (by simp; omega) (by simp; omega) fun v' M3 u1 u2 u3 u4 => ?_
      have u2' : ∀ p, p < MX.next → v.addr ≠ some p → M3.obj p = MX.obj p := fun p hp hq => u2 p hp (.inr (.inr hq))
      have vlt : ∀ p, v.addr = some p → p < M.next := fun p hp => (a2.own.addr_lt hp).2
      have new : ∀ p, M.next ≤ p → p < MX.next → M3.obj p = MX.obj p := fun p h1 h2 => u2' p h2 fun q => by have := vlt p q; omega
      have o3 := (u2' e (by omega) ve).trans ((gA.obj e le).trans oeM)
      have ne4 : v'.addr ≠ some e := fun q => by rw [u4] at q; simp at q; omega
      have bl := hB.lts
      refine hK v' M3 u1.sl.cs u1.sl.okc o3 ⟨_, v', a2.more (x := ⟨M2.next + 1, M2.next, b⟩) (v' := v') ⟨?_, ?_, ?_, ?_, ?_⟩ (by simp; omega) (fun p hp h1 h2 => ?_) (by simp) (own_upd u1 ne4 _) (fun p hp => ?_) (fun p hp => ?_) (by simp) (fun q => ?_) fun q => ?_⟩
      · rw [updO _ (by show M2.next + 1 ≠ e; omega)]
        exact (new _ (by show M.next ≤ M2.next + 1; omega) (by show M2.next + 1 < MX.next; omega)).trans oo
      · rw [updO _ (by show M2.next ≠ e; omega)]
        exact (new _ (by show M.next ≤ M2.next; omega) (by show M2.next < MX.next; omega)).trans od
      · refine (hB.grow gX).keep (by simp; omega) fun p hp => ?_
        have h1 := hb p hp
        have h2 := bl p hp
        rw [updO _ (by omega)]
        exact new p h1 (by omega)
      · show M2.next + 1 < M3.next; omega
      · show M2.next < M3.next; omega
      · rw [updO _ h1, u2' p (by omega) h2]; exact gA.obj p hp
      · rw [u4] at hp
        simp only [Option.some.injEq] at hp
        refine ⟨by omega, fun q => ?_⟩
        rcases CA.mem.1 q with q | q | q
        · have q : p = M2.next + 1 := q; omega
        · have q : p = M2.next := q; omega
        · have := bl p q; omega
      · rcases CA.mem.1 hp with q | q | q
        · have q : p = M2.next + 1 := q; omega
        · have q : p = M2.next := q; omega
        · exact hb p q
      · have := bl _ q; have : M2.next + 1 < M2.next := this; omega
      · have := bl _ q; have : M2.next < M2.next := this; omega
    refine drawT_J (fun e' M' => e' = (((((Env.none.put (some 26) (V.int .i64 i)).put (some 25) (V.int .i64 n)).put (some 8) (V.int .i64 i)).put (some 7) (V.ptr (some (e, 0, 0)))).put (some 2) (V.int .i64 hi)).put (some 1) (V.int .i64 lo) ∧ NewX m e k w (i + 1) (ofA 0 (List.range i)) (Cp.fresh lo hi) M') ?_ fun e' M' hJ => ?_
    · simp (disch := omega) [-getElem?_pos, oeM]
      have one : ∀ {K1 : KV}, (∀ M2 b, M.Grew M2 → (∀ p ∈ b.all, M.next ≤ p) → Bas M2 b (fun _ => []) → K1 (.ptr (some (b.o, 0, 0))) M2) → ACalls Tryz.prog 24 [] M K1 := fun hK => bnew24 hK
      have two : ∀ M2, ∀ {K1 : KV}, K1 (.ptr (some (M2.next, 0, 0))) (M2.new (dvO ⟨lo, hi, 0, false, false, false⟩)) → ACalls Tryz.prog 22 [.int .i64 lo, .int .i64 hi] M2 K1 := fun M2 K1 hK => dnew22 hl0 hlh h1h htop hK
      refine ⟨?_, ?_⟩
      all_goals
        refine one fun M2 b g2 hb hB => ?_
        have n2 := g2.next
        have oe2 := (g2.obj e le).trans oeM
        simp (disch := omega) [-getElem?_pos, oe2]
        repeat' first
          | (refine two _ ?_
             simp (disch := omega) [-getElem?_pos, oe2, splice, eltsOf, Mem.elts]
             refine fin M2 b g2 hb hB fun v' M3 cs ok o3 hX => ?_
             simp (disch := omega) [-getElem?_pos, cs, ok, o3, splice]
             exact hX)
          | refine And.intro ?_ ?_
    · obtain ⟨rfl, c', v', hN⟩ := hJ
      have oeN := hN.oe
      have hlt := onE_lt i
      have gN := Mem.Grew.new M' (.row 1 [[.int .i64 i]] true)
      have hN2 := hN.turnOn (ofA 0 (List.range (i + 1))) gN
      have hsl : Sl (M'.new (.row 1 [[.int .i64 i]] true)) 1 (.sl (some (M'.next, 0, 1)) 1 (some 1)) ([i].map fun i : Nat => [V.int .i64 i]) :=
        ⟨_, _, rfl, fun _ => ⟨M'.next, 0, [[V.int .i64 i]], true, rfl, by simp, by simp, by simp, fun j _ => by simp⟩⟩
      have ho := or32 (ofA 0 (List.range i)) (bitN i) (by omega) (by have := bitN_lt i; omega)
      have e0 : ofA 0 [i] = bitN i := by simp [ofA]
      have e1 : ofA 0 (List.range i) ||| bitN i = ofA 0 (List.range (i + 1)) := by rw [List.range_succ, ofA_snoc]
      rw [e1] at ho
      have oeM := gN.obj e hN.lt.1
      have le := hN.lt.1
      simp (disch := omega) [-getElem?_pos]
      refine drawT_J (fun e' X => e' = (((((Env.none.put (some 26) (V.int .i64 i)).put (some 25) (V.int .i64 n)).put (some 7) (V.ptr (some (e, 0, 0)))).put (some 2) (V.int .i64 hi)).put (some 1) (V.int .i64 lo)) ∧ Same X ((M'.new (.row 1 [[.int .i64 i]] true)).upd e (some (.row 4 [[.ptr (some (k, 0, 0)), v', .int .u32 (ofA 0 (List.range (i + 1)) : Nat), .map (some w)]] true)))) ?_ fun e' X hJ => ?_
      · simp (disch := omega) [-getElem?_pos, oeN, splice]
        repeat' first
          | (refine of25 hsl (by simp) ?_
             rw [e0]
             simp (disch := omega) [-getElem?_pos, oeN, ho, splice]
             exact rfl)
          | refine And.intro ?_ ?_
      · obtain ⟨rfl, hX⟩ := hJ
        rw [show X = _ from hX]
        simp (disch := omega) [-getElem?_pos]
        exact again_mk (i + 1, c', v', _) ⟨by omega, hN2⟩ (by dsimp only; omega) (by simp) rfl
  · obtain rfl : i = n := by omega
    obtain ⟨a, rfl, x1, x2⟩ := a2.eng h1
    simp (disch := omega) [-getElem?_pos]
    exact hk a M a2.gr x1 x2
end
end Go.Proofs.YtkcpojagecfcbaaGreatDoor
