/-
  A TREE, plain: a node is cut out; what follows a place.
  A TREE, plain: what is first, what follows; a key is put; a node is dropped.
  A TREE: put and drop, whole.
  TIMES; as specs.
  A QUEUE: what it holds; how it is asked.
  A QUEUE: a timer is taken out; the first that is due.
  A QUEUE: the first that is due; a timer comes; a new one.
  A QUEUE: a timer comes.
-/
import Derived.Test.YtkcpojagecfcbaaGreatDoorK32
import Derived.Test.YtkcpojagecfcbaaGreatDoorAm29
namespace Go.Proofs.YtkcpojagecfcbaaGreatDoor
open Go Go.AM
set_option linter.unusedVariables false
set_option linter.unusedSimpArgs false
/-- A tree of these places, in this order. -/
structure Ord (S : List Nat) (T : Tr) (L : List Nat) : Prop where
  ex : ∃ t h, At S T t [] ∧ RB t h ∧ col t = false ∧ io t = L
theorem FillE.to {S : List Nat} {T T0 : Tr} {x : Nat} {L : List Nat} (h : FillE S T x L) : ∃ n T', FillTo n T x T' ∧ Ord S T' L ∧ Kept S T T' := by
  obtain ⟨n, T', t', h', f1, f2, f3, f4, f5, f6⟩ := h
  exact ⟨n, T', f1, ⟨t', h', f2, f3, f4, f5⟩, f6⟩
/-- How the rest goes, once a place is out. -/
theorem cut_end {S : List Nat} (h0 : 0 ∉ S) {T2 : Tr} {X : Bt} {σ : List Fr} {c : Bool} {k : Nat} (hA : At S T2 X σ) (hup : rtP X = 0 → (T2.f 0).up = pu σ) (hz : (T2.f 0).red = false) (hr : RB X k) (hp : Pth σ (if c then k else k + 1)) (hc : c = true → col X = false ∧ σ ≠ [] ∧ pc σ = false) :
    ∃ T', (if c = true then T' = T2 else ∃ n, FillTo n T2 (rtP X) T') ∧ Ord S T' (ioP σ (io X)) ∧ Kept S T2 T' := by
  cases c with
  | true =>
    obtain ⟨c1, c2, c3⟩ := hc rfl
    obtain ⟨t', h', w1, w2, w3, w4⟩ := hA.whole hr hp (fun _ => c1) (fun _ => c1)
    exact ⟨T2, rfl, ⟨t', h', w1, w2, w3, w4⟩, Kept.refl _ _⟩
  | false =>
    obtain ⟨n, T', f1, f2, f3⟩ := (fill_ex S h0 σ.length T2 X σ k (Nat.le_refl _) hA hup hr hp hz).to (T0 := T2)
    exact ⟨T', ⟨n, f1⟩, f2, f3⟩
theorem cut_ex {S : List Nat} (h0 : 0 ∉ S) {T : Tr} {L : List Nat} {z : Nat} (hO : Ord S T L) (hz : (T.f 0).red = false) (hm : z ∈ L) :
    ∃ T' L1 L2, CutTo T z T' ∧ L = L1 ++ z :: L2 ∧ Ord S T' (L1 ++ L2) ∧ Like T T' ∧ (T'.f 0).red = false ∧ (∀ i, i ∉ 0 :: S → T'.f i = T.f i) := by
  obtain ⟨t0, hh, hA0, hr0, hc0, hL⟩ := hO.ex
  subst hL
  obtain ⟨c, l, r, π, k, hA, hF, hio⟩ := find_ex t0 [] hh hA0 ⟨hr0, trivial, fun q => by rw [hc0] at q; cases q⟩ hm
  have hio : ioP π (io (.node c l z r)) = io t0 := hio
  obtain ⟨P1, P2, hP⟩ := ioP_split π
  obtain ⟨z0, zu, zc, zl, zr, rl, rr⟩ := hA.foc.rep
  have l0 : rtP l = 0 ↔ l = .nil := by
    constructor
    · intro q; cases l with
      | nil => rfl
      | node c' l' x' r' => exact absurd q rl.1
    · rintro rfl; rfl
  have r0 : rtP r = 0 ↔ r = .nil := by
    constructor
    · intro q; cases r with
      | nil => rfl
      | node c' l' x' r' => exact absurd q rr.1
    · rintro rfl; rfl
  have one : ∀ (s : Bool) (X : Bt), Bt.node c l z r = bt s c .nil z X → io (.node c l z r) = io (bt s c .nil z X) → T.only z = rtP X → HeirTo T z z →
      ∃ T' L1 L2, CutTo T z T' ∧ io t0 = L1 ++ z :: L2 ∧ Ord S T' (L1 ++ L2) ∧ Like T T' ∧ (T'.f 0).red = false ∧ (∀ i, i ∉ 0 :: S → T'.f i = T.f i) := by
    intro s X eX eio hon hH
    have hA1 : At S T (bt s c .nil z X) π := eX ▸ hA
    have hF1 : Fits (bt s c .nil z X) π k := eX ▸ hF
    obtain ⟨q1, q2, q3, q4, q5, q6⟩ := hA1.hang
    obtain ⟨f1, f2, f3⟩ := hF1
    rw [col_bt] at f3
    have zcc : ((T.hang z (rtP X)).f z).red = c := by rw [q4]; exact zc
    have hr : ∃ k', RB X k' ∧ k = (if c then k' else k' + 1) ∧ (c = true → col X = false) := by
      cases c with
      | true => obtain ⟨_, g, _, g2⟩ := rb_red.1 f1; exact ⟨k, g, rfl, fun _ => g2⟩
      | false => obtain ⟨k', e, _, g⟩ := rb_black.1 f1; exact ⟨k', g, e, fun q => by cases q⟩
    obtain ⟨k', g1, g2, g3⟩ := hr
    obtain ⟨T', e1, e2, e3⟩ := cut_end h0 (c := c) q1 (fun e => by rw [← q2, e]) (by rw [q3]; exact hz) g1 (g2 ▸ f2) (fun q => ⟨g3 q, f3 q⟩)
    refine ⟨T', P1 ++ (if s then io X else []), (if s then [] else io X) ++ P2, ⟨z, rtP X, hH, hon, ?_⟩, ?_, ?_, (Like.hang _ _ _).trans e3.like, ?_, ?_⟩
    · rw [zcc]; unfold Tr.cut0; rw [if_pos rfl]; exact e1
    · rw [← hio, eio, hP, io_bt]; cases s <;> simp [io]
    · rw [hP] at e2; cases s <;> simpa using e2
    · rw [e3.out 0 h0, q3]; exact hz
    · intro i hi
      rw [e3.out i (fun q => hi (List.mem_cons_of_mem _ q)), q5 i hi]
  by_cases hl : l = .nil
  · subst hl
    exact one false r rfl rfl (by unfold Tr.only; rw [zl, if_pos (show rtP Bt.nil = 0 from rfl), zr]) (by unfold HeirTo; rw [if_neg fun q => q.1 zl])
  by_cases hrn : r = .nil
  · subst hrn
    exact one true l rfl rfl (by unfold Tr.only; rw [if_neg (by rw [zl]; exact fun q => hl (l0.1 q)), zl]) (by unfold HeirTo; rw [if_neg fun q => q.2 zr])
  -- both
  have hAr : At S T (bt true c r z l) π := hA
  have hFr : Fits (bt true c r z l) π k := hF
  obtain ⟨k1, fr1, fr2, fr3, fr4⟩ := hFr.dn
  obtain ⟨n, ρ, cy, y, Y, k2, R, m1, m2, m3, m4, m5, m6⟩ := most_ex r _ _ hrn hAr.dn fr1
  have hAy : At S T (bt false cy .nil y Y) (ρ ++ ⟨true, c, z, l⟩ :: π) := m2
  obtain ⟨q1, q2, q3, q4, q5, q6⟩ := hAy.hang
  have yrep := hAy.foc.rep
  obtain ⟨y0, _, yc, yl, yr, _, _⟩ := rep_bt.1 yrep
  have yl : (T.f y).lf = 0 := yl
  have yr : (T.f y).rt = rtP Y := yr
  have hyS : y ∈ S := hAy.sub y (by simp [allp, mem_bt])
  obtain ⟨T1, hT1⟩ : ∃ T1, T.hang y (rtP Y) = T1 := ⟨_, rfl⟩
  have lk1 : Like T T1 := hT1 ▸ Like.hang _ _ _
  rw [hT1] at q1 q2 q3 q4 q5
  have hA2 : At S T1 (.node c l z (plug ρ Y)) π := (at_plug.1 q1).up
  have hy2 : y ∉ allp (.node c l z (plug ρ Y)) π := by
    intro hm
    refine q6 ?_
    have e1 := (ioP_perm ρ (io Y)).mem_iff (a := y)
    revert hm
    unfold allp
    rw [show io (Bt.node c l z (plug ρ Y)) = io l ++ z :: io (plug ρ Y) from rfl, io_plug]
    simp only [List.mem_append, List.mem_cons, e1]
    have e2 : ∀ (ρ π : List Fr), plP (ρ ++ π) = plP ρ ++ plP π := by
      intro ρ π
      induction ρ with
      | nil => rfl
      | cons F ρ ih => simp [plP, ih]
    rw [e2]
    simp only [plP, List.mem_append, List.mem_cons]
    rintro ((h | h | h | h) | h) <;> simp [h]
  obtain ⟨b1, b2⟩ := hA2.swap hy2 y0 hyS
  have hA3 : At S (T1.swap z y) (bt true c (plug ρ Y) y l) π := b1
  have hA4 : At S (T1.swap z y) Y (ρ ++ ⟨true, c, y, l⟩ :: π) := at_plug.2 hA3.dn
  have yz : y ≠ z := by
    intro e; subst e
    have := hAy.foc.nd
    rw [(List.Perm.append_right _ (io_bt_perm false cy .nil y Y)).nodup_iff] at this
    simp only [io, List.nil_append, List.cons_append, List.nodup_cons, List.mem_append, not_or] at this
    have e2 : ∀ (ρ π : List Fr), plP (ρ ++ π) = plP ρ ++ plP π := by
      intro ρ π
      induction ρ with
      | nil => rfl
      | cons F ρ ih => simp [plP, ih]
    rw [e2] at this
    exact this.1.2 (by simp [plP])
  have hpz : ∀ F ∈ ρ, F.p ≠ z := by
    intro F hFm e
    have e2 : ∀ (ρ π : List Fr), plP (ρ ++ π) = plP ρ ++ plP π := by
      intro ρ π
      induction ρ with
      | nil => rfl
      | cons F ρ ih => simp [plP, ih]
    have e3 : ∀ (ρ : List Fr), F ∈ ρ → F.p ∈ plP ρ := by
      intro ρ
      induction ρ with
      | nil => intro h; cases h
      | cons G ρ ih =>
        intro h
        simp only [plP, List.mem_cons, List.mem_append]
        rcases List.mem_cons.1 h with rfl | h
        · exact .inl rfl
        · exact .inr (.inr (ih h))
    have hn := hAy.foc.nd
    rw [e2, List.nodup_append] at hn
    have hn2 := hn.2.1
    rw [List.nodup_append] at hn2
    exact hn2.2.2 F.p (e3 ρ hFm) z (by simp [plP]) e
  have hpu : pu (ρ ++ ⟨true, c, y, l⟩ :: π) = if pu (ρ ++ ⟨true, c, z, l⟩ :: π) = z then y else pu (ρ ++ ⟨true, c, z, l⟩ :: π) := by
    cases ρ with
    | nil => show y = if z = z then y else z; rw [if_pos rfl]
    | cons F ρ => show F.p = if F.p = z then y else F.p; rw [if_neg (hpz F (by simp))]
  have e2z : (T1.swap z y).f 0 = T1.f 0 := b2 0 h0
  obtain ⟨w, hw⟩ : ∃ w, pu (ρ ++ ⟨true, c, y, l⟩ :: π) = w := ⟨_, rfl⟩
  have ecut : T.cut0 z y (rtP Y) = (T1.swap z y).mod (rtP Y) (sU w) := by
    unfold Tr.cut0
    rw [if_neg yz, hT1, q2, ← hw, hpu]
  have hA5 : At S ((T1.swap z y).mod (rtP Y) (sU w)) Y (ρ ++ ⟨true, c, y, l⟩ :: π) ∧ (rtP Y = 0 → (((T1.swap z y).mod (rtP Y) (sU w)).f 0).up = w) ∧ (((T1.swap z y).mod (rtP Y) (sU w)).f 0).red = false ∧ Like (T1.swap z y) ((T1.swap z y).mod (rtP Y) (sU w)) ∧ (∀ i, i ∉ 0 :: S → ((T1.swap z y).mod (rtP Y) (sU w)).f i = (T1.swap z y).f i) := by
    by_cases e : rtP Y = 0
    · rw [e]
      refine ⟨hA4.zero _, fun _ => ?_, ?_, Like.mU _ _ _, fun i hi => upN_ne _ _ fun q => hi (by rw [q]; simp)⟩
      · rw [show ((T1.swap z y).mod 0 (sU w)).f 0 = sU w ((T1.swap z y).f 0) from upN_self (T1.swap z y).f 0 (sU w)]; rfl
      · rw [show ((T1.swap z y).mod 0 (sU w)).f 0 = sU w ((T1.swap z y).f 0) from upN_self (T1.swap z y).f 0 (sU w)]
        show ((T1.swap z y).f 0).red = false
        rw [e2z, q3]; exact hz
    · have hu := rep_rup hA4.foc.rep e
      rw [hw] at hu
      rw [mod_self _ _ _ (show sU w ((T1.swap z y).f (rtP Y)) = _ by unfold sU; rw [← hu])]
      exact ⟨hA4, fun q => absurd q e, by rw [e2z, q3]; exact hz, Like.refl _, fun _ _ => rfl⟩
  obtain ⟨a1, a2, a3, a4, a5⟩ := hA5
  obtain ⟨f1, f2, f3⟩ := m3
  have f1 : RB (bt false cy .nil y Y) k2 := f1
  have hr : ∃ k', RB Y k' ∧ k2 = (if cy then k' else k' + 1) ∧ (cy = true → col Y = false) := by
    cases cy with
    | true => obtain ⟨_, g, _, g2⟩ := rb_red.1 f1; exact ⟨k2, g, rfl, fun _ => g2⟩
    | false => obtain ⟨k', e, _, g⟩ := rb_black.1 f1; exact ⟨k', g, e, fun q => by cases q⟩
  obtain ⟨k', g1, g2, g3⟩ := hr
  have swapP : ∀ (ρ : List Fr) (k : Nat), Pth (ρ ++ ⟨true, c, z, l⟩ :: π) k → Pth (ρ ++ ⟨true, c, y, l⟩ :: π) k := by
    intro ρ
    induction ρ with
    | nil => intro k h; exact h
    | cons F ρ ih =>
      intro k ⟨h1, h2, h3⟩
      refine ⟨h1, fun q => ?_, ih _ h3⟩
      obtain ⟨p1, p2, p3⟩ := h2 q
      refine ⟨p1, by simp, ?_⟩
      cases ρ with
      | nil => exact p3
      | cons G ρ => exact p3
  have f3' : cy = true → (ρ ++ ⟨true, c, y, l⟩ :: π) ≠ [] ∧ pc (ρ ++ ⟨true, c, y, l⟩ :: π) = false := fun q => by
    obtain ⟨_, p⟩ := f3 q
    refine ⟨by simp, ?_⟩
    cases ρ with
    | nil => exact p
    | cons G ρ => exact p
  obtain ⟨T', e1, e2, e3⟩ := cut_end h0 (c := cy) a1 (fun q => by rw [hw]; exact a2 q) a3 g1 (swapP _ _ (g2 ▸ f2)) (fun q => ⟨g3 q, f3' q⟩)
  refine ⟨T', P1 ++ io l, io r ++ P2, ⟨y, rtP Y, ?_, ?_, ?_⟩, ?_, ?_, ((lk1.trans (Like.swap _ _ _)).trans a4).trans e3.like, ?_, ?_⟩
  · unfold HeirTo
    rw [if_pos ⟨by rw [zl]; exact fun q => hl (l0.1 q), by rw [zr]; exact fun q => hrn (r0.1 q)⟩, zr]
    exact ⟨n, m1⟩
  · unfold Tr.only; rw [if_pos yl, yr]
  · rw [hT1, q4, yc, ecut]; exact e1
  · rw [← hio, hP]; simp [io]
  · have : ioP (ρ ++ ⟨true, c, y, l⟩ :: π) (io Y) = P1 ++ io l ++ (io r ++ P2) := by
      rw [ioP_app, m4, ← m5, m4]
      show ioP π (io l ++ y :: (io Y ++ R)) = _
      rw [hP]; simp [io]
    rw [this] at e2
    exact e2
  · rw [e3.out 0 h0]; exact a3
  · intro i hi
    rw [e3.out i (fun q => hi (List.mem_cons_of_mem _ q)), a5 i hi, b2 i (fun q => hi (List.mem_cons_of_mem _ q)), q5 i hi]
end Go.Proofs.YtkcpojagecfcbaaGreatDoor
namespace Go.Proofs.YtkcpojagecfcbaaGreatDoor
open Go Go.AM
set_option linter.unusedVariables false
set_option linter.unusedSimpArgs false
theorem first_ex {S : List Nat} {T : Tr} {L : List Nat} (hO : Ord S T L) : ∃ n, MostTo T.f n T.root (L.headD 0) := by
  obtain ⟨t, h, hA, hr, hc, rfl⟩ := hO.ex
  by_cases e : t = .nil
  · subst e
    have : T.root = 0 := hA.foc.path
    rw [this]
    exact ⟨0, .stop 0 (.inl rfl)⟩
  · obtain ⟨n, ρ, cy, y, Y, k, R, m1, m2, m3, m4, m5, m6⟩ := most_ex t [] h e hA ⟨hr, trivial, fun q => by rw [hc] at q; cases q⟩
    have hp : T.root = rtP t := hA.foc.path
    rw [hp]
    rw [m4] at m5
    rw [← m5]
    exact ⟨n, m1⟩
theorem up_ex {S : List Nat} {T : Tr} {t : Bt} {π : List Fr} (hA : At S T t π) (h0 : rtP t ≠ 0) : ∃ A B, (∀ M, ioP π M = A ++ M ++ B) ∧ ∃ n, UpTo T.f n (rtP t) (B.headD 0) := by
  induction π generalizing t with
  | nil =>
    refine ⟨[], [], fun M => by simp [ioP], 0, ?_⟩
    have hu : (T.f (rtP t)).up = 0 := rep_rup hA.foc.rep h0
    have := UpTo.stop (f := T.f) (rtP t) (.inl hu)
    rw [hu] at this
    exact this
  | cons F π ih =>
    obtain ⟨s, c, p, b⟩ := F
    have hu : (T.f (rtP t)).up = p := rep_rup hA.foc.rep h0
    have p0 : p ≠ 0 := hA.foc.path.1
    cases s with
    | false =>
      obtain ⟨A, B, hAB⟩ := ioP_split π
      refine ⟨A, p :: io b ++ B, fun M => by show ioP π (M ++ p :: io b) = _; rw [hAB]; simp, 0, ?_⟩
      have hrt : (T.f p).rt = rtP b := hA.foc.path.2.2.1
      have := UpTo.stop (f := T.f) (rtP t) (.inr (by rw [hu, hrt]; exact (hA.ne h0).symm))
      rw [hu] at this
      exact this
    | true =>
      have hA2 := hA.up
      obtain ⟨A, B, hAB, n, hU⟩ := ih hA2 (by rw [rtP_bt]; exact p0)
      rw [rtP_bt] at hU
      have hrt : (T.f p).rt = rtP t := hA.foc.path.2.1
      exact ⟨A ++ io b ++ [p], B, fun M => by show ioP π (io b ++ p :: M) = _; rw [hAB]; simp, n + 1, .step n _ _ (by rw [hu]; exact p0) (by rw [hu, hrt]) (by rw [hu]; exact hU)⟩
theorem mid_eq {A B A' B' : List Nat} {x : Nat} (h : A ++ x :: B = A' ++ x :: B') (hn : (A ++ x :: B).Nodup) : A = A' ∧ B = B' := by
  induction A generalizing A' with
  | nil =>
    cases A' with
    | nil => simp at h; exact ⟨rfl, h⟩
    | cons a A' =>
      simp only [List.nil_append, List.cons_append, List.cons.injEq] at h
      simp only [List.nil_append, List.nodup_cons] at hn
      exact absurd (by rw [h.2]; simp) hn.1
  | cons a A ih =>
    cases A' with
    | nil =>
      simp only [List.nil_append, List.cons_append, List.cons.injEq] at h
      simp only [List.cons_append, List.nodup_cons] at hn
      exact absurd (by rw [h.1]; simp) hn.1
    | cons a' A' =>
      simp only [List.cons_append, List.cons.injEq, List.nodup_cons] at h hn
      obtain ⟨e1, e2⟩ := ih h.2 hn.2
      exact ⟨by rw [h.1, e1], e2⟩
theorem Ord.nodup {S : List Nat} {T : Tr} {L : List Nat} (hO : Ord S T L) : L.Nodup := by
  obtain ⟨t, h, hA, hr, hc, rfl⟩ := hO.ex
  have := hA.foc.nd
  simpa [plP] using this
theorem Ord.pos {S : List Nat} {T : Tr} {L : List Nat} (hO : Ord S T L) : ∀ z ∈ L, z ≠ 0 := by
  obtain ⟨t, h, hA, hr, hc, rfl⟩ := hO.ex
  exact rep_pos hA.foc.rep
theorem next_ex {S : List Nat} {T : Tr} {L1 L2 : List Nat} {x : Nat} (hO : Ord S T (L1 ++ x :: L2)) : AfterTo T.f x (L2.headD 0) := by
  have hnd := hO.nodup
  obtain ⟨t, h, hA, hr, hc, hL⟩ := hO.ex
  obtain ⟨c, l, r, σ, k, g1, g2, g3⟩ := find_ex t [] h hA ⟨hr, trivial, fun q => by rw [hc] at q; cases q⟩ (show x ∈ io t by rw [hL]; simp)
  have g3 : ioP σ (io (.node c l x r)) = io t := g3
  obtain ⟨x0, _, _, _, xr, _, rr⟩ := g1.foc.rep
  obtain ⟨A, B, hAB, n, hU⟩ := up_ex g1 (show rtP (.node c l x r) ≠ 0 from x0)
  have hU : UpTo T.f n x (B.headD 0) := hU
  have e : A ++ io l ++ x :: (io r ++ B) = L1 ++ x :: L2 := by rw [← hL, ← g3, hAB]; simp [io]
  obtain ⟨e1, e2⟩ := mid_eq e (by rw [e]; exact hnd)
  rw [← e2]
  by_cases hrn : r = .nil
  · subst hrn
    exact .inr ⟨xr, n, hU⟩
  · have g1' : At S T (bt true c r x l) σ := g1
    obtain ⟨k', f1, _⟩ := (show Fits (bt true c r x l) σ k from g2).dn
    obtain ⟨n', ρ, cy, y, Y, k2, R, m1, m2, m3, m4, m5, m6⟩ := most_ex r _ _ hrn g1'.dn f1
    refine .inl ⟨?_, n', ?_⟩
    · rw [xr]; cases r with
      | nil => exact absurd rfl hrn
      | node c' l' x' r' => exact rr.1
    · rw [xr, ← m5, m4]; exact m1
/-! ### the order of keys; free places -/
def Fl (f : Nat → Nd) : Nat → List Nat → Prop
  | x, [] => x = 0
  | x, p :: l => x = p ∧ p ≠ 0 ∧ Fl f (f p).lf l
theorem Fl.congr {f g : Nat → Nd} {x : Nat} {l : List Nat} (h : Fl f x l) (e : ∀ z ∈ l, g z = f z) : Fl g x l := by
  induction l generalizing x with
  | nil => exact h
  | cons p l ih => exact ⟨h.1, h.2.1, by rw [e p (by simp)]; exact ih h.2.2 fun z hz => e z (by simp [hz])⟩
/-- A tree that holds times in order, at these places; those are free. -/
structure TOK (T : Tr) (L F : List Nat) : Prop where
  ord : Ord L T L
  free : Fl T.f T.free F
  nd : (L ++ F).Nodup
  inr : ∀ i ∈ L ++ F, 0 < i ∧ i < T.len
  cnt : L.length + F.length + 1 = T.len
  z : (T.f 0).red = false
  srt : L.Pairwise fun a b => (T.f a).tm ≤ (T.f b).tm
  sq : ∀ x ∈ L, (T.f x).sq = 0 ∧ (T.f x).tk = true
theorem cmpK_ge {a b : Int} : decide (0 ≤ cmpK (a, 0) (b, 0)) = decide (b ≤ a) := by
  unfold cmpK cmpI
  by_cases h1 : a < b
  · have h2 : ¬ b ≤ a := by omega
    simp [h1, h2]
  · by_cases h2 : b < a
    · have h3 : b ≤ a := by omega
      simp [h1, h2, h3]
    · have h3 : b ≤ a := by omega
      simp [h1, h2, h3]
def headside : List Fr → Bool
  | [] => false
  | F :: _ => F.s
theorem At.congr {S : List Nat} {T T' : Tr} {t : Bt} {π : List Fr} (h : At S T t π) (er : T'.root = T.root) (e : ∀ z ∈ S, T'.f z = T.f z) : At S T' t π := by
  refine ⟨⟨rep_congr (fun z hz => e z (h.sub z (List.mem_append.2 (.inl hz)))) h.foc.rep, repP_congr er (fun z hz => e z (h.sub z (List.mem_append.2 (.inr hz)))) h.foc.path, h.foc.nd⟩, h.sub⟩
theorem At.mono {S S' : List Nat} {T : Tr} {t : Bt} {π : List Fr} (h : At S T t π) (e : ∀ z ∈ S, z ∈ S') : At S' T t π := ⟨h.foc, fun z hz => e z (h.sub z hz)⟩
theorem desc_ex {S : List Nat} {T : Tr} {k : Int} (hsq : ∀ x ∈ S, (T.f x).sq = 0) : ∀ (t : Bt) (π : List Fr) (h : Nat) (A B : List Nat), At S T t π → Fits t π h → (io t).Pairwise (fun a b => (T.f a).tm ≤ (T.f b).tm) → (∀ M, ioP π M = A ++ M ++ B) → (∀ a ∈ A, (T.f a).tm ≤ k) → (∀ b ∈ B, k < (T.f b).tm) →
    ∃ n π' k' A' B', DescTo T.f (k, 0) n (rtP t) (pu π) (headside π) (pu π') (headside π') ∧ At S T .nil π' ∧ Fits .nil π' k' ∧ (∀ M, ioP π' M = A' ++ M ++ B') ∧ (∀ a ∈ A', (T.f a).tm ≤ k) ∧ (∀ b ∈ B', k < (T.f b).tm) ∧ A' ++ B' = A ++ io t ++ B := by
  intro t
  induction t with
  | nil => intro π h A B hA hF _ hM ha hb; exact ⟨0, π, h, A, B, .stop _ _, hA, hF, hM, ha, hb, by simp [io]⟩
  | node c l x r ihl ihr =>
    intro π h A B hA hF hs hM ha hb
    obtain ⟨x0, _, _, xl, xr, _, _⟩ := hA.foc.rep
    have hx : x ∈ S := hA.sub x (by simp [allp, io])
    have hd : decide (0 ≤ cmpK (k, 0) ((T.f x).tm, (T.f x).sq)) = decide ((T.f x).tm ≤ k) := by rw [hsq x hx]; exact cmpK_ge
    simp only [io, List.pairwise_append, List.pairwise_cons] at hs
    by_cases hle : (T.f x).tm ≤ k
    · have hA' : At S T (bt true c r x l) π := hA
      obtain ⟨k', f1, _⟩ := (show Fits (bt true c r x l) π h from hF).dn
      obtain ⟨n, π', k'', A', B', g1, g2, g3, g4, g5, g6, g7⟩ := ihr (⟨true, c, x, l⟩ :: π) k' (A ++ io l ++ [x]) B hA'.dn f1 hs.2.1.2 (fun M => by show ioP π (io l ++ x :: M) = _; rw [hM]; simp)
        (fun a hm => by
          simp only [List.mem_append, List.mem_singleton] at hm
          rcases hm with (hm | hm) | rfl
          · exact ha a hm
          · have := hs.2.2 a hm x (by simp); omega
          · exact hle) hb
      refine ⟨n + 1, π', k'', A', B', .step n x _ _ _ _ x0 ?_, g2, g3, g4, g5, g6, by rw [g7]; simp [io]⟩
      rw [hd, decide_eq_true hle]
      show DescTo T.f (k, 0) n (T.f x).rt x true _ _
      rw [xr]
      exact g1
    · have hA' : At S T (bt false c l x r) π := hA
      obtain ⟨k', f1, _⟩ := (show Fits (bt false c l x r) π h from hF).dn
      obtain ⟨n, π', k'', A', B', g1, g2, g3, g4, g5, g6, g7⟩ := ihl (⟨false, c, x, r⟩ :: π) k' A (x :: io r ++ B) hA'.dn f1 hs.1 (fun M => by show ioP π (M ++ x :: io r) = _; rw [hM]; simp) ha
        (fun b hm => by
          simp only [List.mem_append, List.mem_cons] at hm
          rcases hm with (rfl | hm) | hm
          · omega
          · have := hs.2.1.1 b hm; omega
          · exact hb b hm)
      refine ⟨n + 1, π', k'', A', B', .step n x _ _ _ _ x0 ?_, g2, g3, g4, g5, g6, by rw [g7]; simp [io]⟩
      rw [hd, decide_eq_false hle]
      show DescTo T.f (k, 0) n (T.f x).lf x false _ _
      rw [xl]
      exact g1
/-- A new node hangs where it is to. -/
theorem hook_at {S : List Nat} {T : Tr} {π : List Fr} {x : Nat} (hA : At S T .nil π) (hx : x ∉ S) (x0 : x ≠ 0) (hl : (T.f x).lf = 0) (hr : (T.f x).rt = 0) (hred : (T.f x).red = true) :
    At (x :: S) (T.hook x (pu π) (headside π)) (.node true .nil x .nil) π ∧ Kept (x :: S) T (T.hook x (pu π) (headside π)) := by
  have hxπ : x ∉ plP π := fun q => hx (hA.sub x (by simp [allp, q]))
  cases π with
  | nil =>
    have e : T.hook x (pu []) (headside []) = (T.mod x (sU 0)).rt x := by unfold Tr.hook; rw [if_pos (show pu [] = 0 from rfl)]; rfl
    rw [e]
    have fx : ((T.mod x (sU 0)).rt x).f x = sU 0 (T.f x) := upN_self _ _ _
    refine ⟨⟨⟨⟨x0, by rw [fx]; rfl, by rw [fx]; exact hred, by rw [fx]; exact hl, by rw [fx]; exact hr, trivial, trivial⟩, rfl, by simp [io, plP]⟩, fun z hz => (show z = x by simpa [allp, io, plP] using hz) ▸ List.mem_cons_self⟩, (Like.mU _ _ _).trans (Like.rt _ _), fun z hz => upN_ne _ _ fun q => hz (by rw [q]; simp)⟩
  | cons F π =>
    obtain ⟨s, c, p, b⟩ := F
    obtain ⟨g1, g2, g3, g4, g5, g6, g7⟩ := hA.foc.path
    have e : T.hook x (pu (⟨s, c, p, b⟩ :: π)) (headside (⟨s, c, p, b⟩ :: π)) = (T.mod x (sU p)).mod p (sCh s x) := by unfold Tr.hook; rw [if_neg (show pu (⟨s, c, p, b⟩ :: π) ≠ 0 from g1)]; rfl
    rw [e]
    have hpS : p ∈ S := hA.sub p (by simp [allp, plP])
    have px : p ≠ x := fun q => hx (q ▸ hpS)
    have hn := hA.foc.nd
    simp only [io, List.nil_append, plP, List.nodup_cons, List.mem_append, not_or] at hn
    have fx : ((T.mod x (sU p)).mod p (sCh s x)).f x = sU p (T.f x) := by
      show upN (upN _ _ _) _ _ _ = _
      rw [upN_ne _ _ px.symm, upN_self]
    have fp : ((T.mod x (sU p)).mod p (sCh s x)).f p = sCh s x (T.f p) := by
      show upN (upN _ _ _) _ _ _ = _
      rw [upN_self, upN_ne _ _ px]
    have fz : ∀ z, z ≠ x → z ≠ p → ((T.mod x (sU p)).mod p (sCh s x)).f z = T.f z := fun z h1 h2 => by
      show upN (upN _ _ _) _ _ _ = _
      rw [upN_ne _ _ h2, upN_ne _ _ h1]
    refine ⟨⟨⟨⟨x0, by rw [fx]; rfl, by rw [fx]; exact hred, by rw [fx]; exact hl, by rw [fx]; exact hr, trivial, trivial⟩, ⟨g1, ?_, ?_, ?_, ?_, ?_, ?_⟩, ?_⟩, ?_⟩, ?_⟩
    · show ch (((T.mod x (sU p)).mod p (sCh s x)).f p) s = x
      rw [fp]; cases s <;> rfl
    · show ch (((T.mod x (sU p)).mod p (sCh s x)).f p) (!s) = rtP b
      rw [fp, sCh_ch']; exact g3
    · show (((T.mod x (sU p)).mod p (sCh s x)).f p).red = c
      rw [fp, sCh_red]; exact g4
    · show (((T.mod x (sU p)).mod p (sCh s x)).f p).up = pu π
      rw [fp, sCh_up]; exact g5
    · exact rep_congr (fun z hz => fz z (fun q => hxπ (by rw [← q]; simp [plP]; exact .inr (.inl hz))) (fun q => hn.1.1 (q ▸ hz))) g6
    · exact repP_congr (T := T) rfl (fun z hz => fz z (fun q => hxπ (by rw [← q]; simp [plP, hz])) (fun q => hn.1.2 (q ▸ hz))) g7
    · have hn' := hA.foc.nd
      simp only [io, List.nil_append, List.cons_append, List.nodup_cons] at hn' ⊢
      exact ⟨hxπ, hn'⟩
    · intro z hz
      simp only [allp, io, List.nil_append, List.cons_append, List.mem_cons] at hz ⊢
      rcases hz with hz | hz
      · exact .inl hz
      · exact .inr (hA.sub z (by simpa [allp, io] using hz))
    · refine ⟨(Like.mU _ _ _).trans (Like.mCh _ _ _ _), fun z hz => fz z (fun q => hz (by rw [q]; simp)) (fun q => hz (by rw [q]; simp [hpS]))⟩
end Go.Proofs.YtkcpojagecfcbaaGreatDoor
namespace Go.Proofs.YtkcpojagecfcbaaGreatDoor
open Go Go.AM
set_option linter.unusedVariables false
set_option linter.unusedSimpArgs false
/-- A free place, taken. -/
structure Got (T T1 : Tr) (L F' : List Nat) (x : Nat) : Prop where
  place : T.place = (x, T1)
  x0 : 0 < x
  xl : x < T1.len
  root : T1.root = T.root
  xL : x ∉ L
  xF : x ∉ F'
  f : ∀ z, z ≠ x → T1.f z = T.f z
  free : Fl T1.f T1.free F'
  nd : (L ++ F').Nodup
  inr : ∀ i ∈ L ++ F', 0 < i ∧ i < T1.len
  cnt : L.length + F'.length + 2 = T1.len
theorem got {T : Tr} {L F : List Nat} (h : TOK T L F) (hl : L.length < 64) : ∃ T1 F' x, Got T T1 L F' x := by
  obtain ⟨ho, hf, hn, hi, hc, hz, hs, hq⟩ := h
  cases F with
  | nil =>
    have hf : T.free = 0 := hf
    simp only [List.append_nil, List.length_nil] at hn hi hc
    refine ⟨{ T with f := upN T.f T.len (fun _ => Nd.zero), len := T.len + 1 }, [], T.len, ?_, by omega, by show T.len < T.len + 1; omega, rfl, fun q => by have := hi _ q; omega, by simp, fun z hz => upN_ne T.f (fun _ => Nd.zero) hz, hf, by simpa using hn, fun i hm => ?_, by show _ = T.len + 1; simp; omega⟩
    · unfold Tr.place
      rw [if_neg (by rw [hf]; simp), if_neg (by omega)]
    · have := hi i (by simpa using hm)
      exact ⟨this.1, by show i < T.len + 1; omega⟩
  | cons p F =>
    obtain ⟨e, p0, hf⟩ := hf
    have hp := hi p (by simp)
    simp only [List.length_cons] at hc
    have hn2 := hn
    simp only [List.nodup_append, List.nodup_cons, List.mem_cons] at hn2
    refine ⟨{ T with free := (T.f p).lf }, F, p, ?_, hp.1, hp.2, rfl, fun q => hn2.2.2 p q p (.inl rfl) rfl, hn2.2.1.1, fun z _ => rfl, hf, ?_, fun i hm => hi i ?_, by show _ = T.len; omega⟩
    · unfold Tr.place
      rw [if_pos (by rw [e]; exact p0), e]
    · exact (List.perm_middle.nodup_iff.1 hn |> fun q => (List.nodup_cons.1 q).2)
    · simp only [List.mem_append, List.mem_cons] at hm ⊢
      rcases hm with hm | hm <;> simp [hm]
/-- What becomes of the keys. -/
theorem put_tok {T : Tr} {L F : List Nat} (h : TOK T L F) (hl : L.length < 64) (k : Int) : ∃ x T1 T' F' n1 n2 u s A B, T.place = (x, T1) ∧ 0 < x ∧ DescTo (T1.fresh x (k, 0)).f (k, 0) n1 T1.root 0 false u s ∧ MendTo n2 ((T1.fresh x (k, 0)).hook x u s) x T' ∧
    TOK T' (A ++ x :: B) F' ∧ L = A ++ B ∧ x ∉ L ∧ (T'.f x).tm = k ∧ (∀ z ∈ L, (T'.f z).tm = (T.f z).tm ∧ (T'.f z).tn = (T.f z).tn) ∧ (∀ a ∈ A, (T.f a).tm ≤ k) ∧ (∀ b ∈ B, k < (T.f b).tm) := by
  obtain ⟨T1, F', x, g⟩ := got h hl
  have h' := h
  obtain ⟨ho, hf, hn, hi, hc, hz, hs, hq⟩ := h
  obtain ⟨t, hh, hA, hr, hcol, hL⟩ := ho.ex
  obtain ⟨T2, hT2⟩ : ∃ T2, T1.fresh x (k, 0) = T2 := ⟨_, rfl⟩
  have f2 : ∀ z, z ≠ x → T2.f z = T.f z := fun z hzx => by
    rw [← hT2]; exact (upN_ne _ _ hzx).trans (g.f z hzx)
  have f2x : T2.f x = ndNew (k, 0) (T1.f x) := by rw [← hT2]; exact upN_self _ _ _
  have r2 : T2.root = T.root := by rw [← hT2]; exact g.root
  have hLx : ∀ z ∈ L, z ≠ x := fun z hm e => g.xL (e ▸ hm)
  have hA2 : At L T2 t [] := hA.congr r2 fun z hm => f2 z (hLx z hm)
  have hs2 : (io t).Pairwise fun a b => (T2.f a).tm ≤ (T2.f b).tm := by
    rw [hL]
    refine hs.imp_of_mem fun {a b} ha hb hab => ?_
    rw [f2 a (hLx a ha), f2 b (hLx b hb)]; exact hab
  obtain ⟨n1, π', k', A, B, d1, d2, d3, d4, d5, d6, d7⟩ := desc_ex (k := k) (fun z hm => by rw [f2 z (hLx z hm)]; exact (hq z hm).1) t [] hh [] [] hA2 ⟨hr, trivial, fun q => by rw [hcol] at q; cases q⟩ hs2 (fun M => by simp [ioP]) (by simp) (by simp)
  have d7 : A ++ B = L := by rw [d7]; simpa using hL
  have x0 : x ≠ 0 := by have := g.x0; omega
  obtain ⟨a1, k1⟩ := hook_at d2 g.xL x0 (by rw [f2x]; rfl) (by rw [f2x]; rfl) (by rw [f2x]; rfl)
  have zL : 0 ∉ x :: L := fun q => by
    rcases List.mem_cons.1 q with e | e
    · exact x0 e.symm
    · have := hi 0 (by simp [e]); omega
  have z2 : (T2.f 0).red = false := by rw [f2 0 x0.symm]; exact hz
  obtain ⟨n2, T', t', h'', m1, m2, m3, m4, m5, m6⟩ := mend_ex (x :: L) zL π'.length (T2.hook x (pu π') (headside π')) .nil .nil x π' k' (Nat.le_refl _) a1 d3.rb d3.rb rfl rfl d3.path (by rw [k1.out 0 zL]; exact z2)
  have kk := k1.trans m6
  have hio : io t' = A ++ x :: B := by rw [m5, d4]; simp [io]
  have hmem : ∀ z, z ∈ A ++ x :: B ↔ z ∈ x :: L := fun z => by
    rw [← d7]; simp only [List.mem_append, List.mem_cons]; constructor <;> (rintro (h | h | h) <;> simp [h])
  have kf := kk.like.f
  have hlen : T'.len = T1.len := by rw [kk.like.len, ← hT2]; rfl
  have key : ∀ z ∈ L, (T'.f z).tm = (T.f z).tm ∧ (T'.f z).tn = (T.f z).tn := fun z hm => by
    obtain ⟨q1, q2, q3, q4⟩ := kf z
    rw [f2 z (hLx z hm)] at q1 q4
    exact ⟨q1, q4⟩
  have keyx : (T'.f x).tm = k := by rw [(kf x).1, f2x]; rfl
  have perm : (A ++ x :: B).Perm (x :: L) := by rw [← d7]; exact List.perm_middle
  refine ⟨x, T1, T', F', n1, n2, pu π', headside π', A, B, g.place, g.x0, ?_, by rw [hT2]; exact m1, ⟨?_, ?_, ?_, ?_, ?_, ?_, ?_, ?_⟩, d7.symm, g.xL, keyx, key, fun a ha => ?_, fun b hb => ?_⟩
  · rw [hT2]
    have e : T1.root = rtP t := g.root.trans hA.foc.path
    rw [e]; exact d1
  · exact ⟨t', h'', m2.mono fun z hm => (hmem z).2 hm, m3, m4, hio⟩
  · have e : T'.free = T1.free := by rw [kk.like.free, ← hT2]; rfl
    rw [e]
    refine g.free.congr fun z hm => ?_
    have z1 : z ≠ x := fun e => g.xF (e ▸ hm)
    have z2 : z ∉ x :: L := fun q => by
      rcases List.mem_cons.1 q with e | e
      · exact z1 e
      · have := g.nd; rw [List.nodup_append] at this; exact this.2.2 z e z hm rfl
    rw [kk.out z z2, f2 z z1, g.f z z1]
  · refine ((perm.append_right F').nodup_iff).2 ?_
    show (x :: (L ++ F')).Nodup
    refine List.nodup_cons.2 ⟨?_, g.nd⟩
    rw [List.mem_append, not_or]; exact ⟨g.xL, g.xF⟩
  · intro i hm
    rw [hlen]
    rw [List.mem_append, hmem, List.mem_cons] at hm
    rcases hm with (rfl | hm) | hm
    · exact ⟨g.x0, g.xl⟩
    · exact g.inr i (by simp [hm])
    · exact g.inr i (by simp [hm])
  · rw [hlen, ← g.cnt, ← d7]; simp; omega
  · rw [kk.out 0 zL]; exact z2
  · have hsA : (A ++ B).Pairwise fun a b => (T.f a).tm ≤ (T.f b).tm := by rw [d7]; exact hs
    have mA : ∀ a ∈ A, a ∈ L := fun a ha => by rw [← d7]; simp [ha]
    have mB : ∀ b ∈ B, b ∈ L := fun b hb => by rw [← d7]; simp [hb]
    rw [List.pairwise_append] at hsA
    rw [List.pairwise_append, List.pairwise_cons]
    refine ⟨hsA.1.imp_of_mem fun {a b} ha hb q => by rw [(key a (mA a ha)).1, (key b (mA b hb)).1]; exact q, ⟨fun b hb => ?_, hsA.2.1.imp_of_mem fun {a b} ha hb q => by rw [(key a (mB a ha)).1, (key b (mB b hb)).1]; exact q⟩, fun a ha b hb => ?_⟩
    · rw [keyx, (key b (mB b hb)).1]
      have := d6 b hb
      rw [f2 b (hLx b (mB b hb))] at this
      omega
    · rcases List.mem_cons.1 hb with rfl | hb
      · rw [keyx, (key a (mA a ha)).1]
        have := d5 a ha
        rw [f2 a (hLx a (mA a ha))] at this
        exact this
      · rw [(key a (mA a ha)).1, (key b (mB b hb)).1]; exact hsA.2.2 a ha b hb
  · intro z hm
    rw [(kf z).2.1, (kf z).2.2.1]
    rcases List.mem_cons.1 ((hmem z).1 hm) with rfl | hm
    · rw [f2x]; exact ⟨rfl, rfl⟩
    · rw [f2 z (hLx z hm)]; exact hq z hm
  · have := d5 a ha
    rw [f2 a (hLx a (by rw [← d7]; simp [ha]))] at this
    exact this
  · have := d6 b hb
    rw [f2 b (hLx b (by rw [← d7]; simp [hb]))] at this
    exact this
theorem gone_f (T : Tr) (x : Nat) : (T.gone x).f = upN (upN T.f x fun d => { Nd.zero with lf := T.free, tn := d.tn }) 0 fun _ => Nd.zero := rfl
theorem drop_tok {T : Tr} {A B F : List Nat} {x : Nat} (h : TOK T (A ++ x :: B) F) : ∃ T', CutTo T x T' ∧ T'.len = T.len ∧ (T'.f x).tn = (T.f x).tn ∧ TOK (T'.gone x) (A ++ B) (x :: F) ∧ (∀ z ∈ A ++ B, ((T'.gone x).f z).tm = (T.f z).tm ∧ ((T'.gone x).f z).tn = (T.f z).tn) := by
  obtain ⟨ho, hf, hn, hi, hc, hz, hs, hq⟩ := h
  have zL : 0 ∉ A ++ x :: B := fun q => by have := hi 0 (List.mem_append.2 (.inl q)); omega
  have hnd := ho.nodup
  obtain ⟨T', L1, L2, c1, c2, c3, c4, c5, c6⟩ := cut_ex zL ho hz (show x ∈ A ++ x :: B by simp)
  obtain ⟨e1, e2⟩ := mid_eq c2 hnd
  subst e1; subst e2
  have perm : (A ++ x :: B).Perm (x :: (A ++ B)) := List.perm_middle
  have hxn := (perm.nodup_iff.1 hnd)
  rw [List.nodup_cons] at hxn
  have x0 : x ≠ 0 := by have := hi x (by simp); omega
  have gz : ∀ z, z ≠ x → z ≠ 0 → (T'.gone x).f z = T'.f z := fun z h1 h2 => by
    rw [gone_f, upN_ne _ _ h2, upN_ne _ _ h1]
  have mL : ∀ z ∈ A ++ B, z ∈ A ++ x :: B := fun z hm => perm.mem_iff.2 (List.mem_cons_of_mem _ hm)
  have z0 : ∀ z ∈ A ++ B, z ≠ 0 := fun z hm e => zL (e ▸ mL z hm)
  have zx : ∀ z ∈ A ++ B, z ≠ x := fun z hm e => hxn.1 (e ▸ hm)
  have key : ∀ z ∈ A ++ B, ((T'.gone x).f z).tm = (T.f z).tm ∧ ((T'.gone x).f z).tn = (T.f z).tn := fun z hm => by
    rw [gz z (zx z hm) (z0 z hm)]
    exact ⟨(c4.f z).1, (c4.f z).2.2.2⟩
  have hnF := hn
  refine ⟨T', c1, c4.len, (c4.f x).2.2.2, ⟨?_, ?_, ?_, ?_, ?_, ?_, ?_, ?_⟩, key⟩
  · obtain ⟨t, h, w1, w2, w3, w4⟩ := c3.ex
    have w1' : At (A ++ B) T' t [] := by
      refine ⟨w1.foc, fun z hm => ?_⟩
      rw [← w4]; simpa [allp, plP] using hm
    exact ⟨t, h, w1'.congr rfl fun z hm => gz z (zx z hm) (z0 z hm), w2, w3, w4⟩
  · refine ⟨rfl, x0, ?_⟩
    have fx : (T'.gone x).f x = { Nd.zero with lf := T'.free, tn := (T'.f x).tn } := by
      rw [gone_f, upN_ne _ _ x0, upN_self]
    rw [fx]
    show Fl _ T'.free F
    rw [c4.free]
    rw [List.nodup_append] at hnF
    refine hf.congr fun z hm => ?_
    have z1 : z ≠ x := fun e => hnF.2.2 x (by simp) z hm e.symm
    have z2 : z ≠ 0 := fun e => by have := hi z (by simp [hm]); omega
    rw [gz z z1 z2]
    refine c6 z fun q => ?_
    rcases List.mem_cons.1 q with e | e
    · exact z2 e
    · exact hnF.2.2 z e z hm rfl
  · refine (List.Perm.nodup_iff ?_).1 hn
    rw [List.append_assoc, List.append_assoc]
    refine List.Perm.append_left _ ?_
    show (x :: (B ++ F)).Perm (B ++ x :: F)
    exact List.perm_middle.symm
  · intro i hm
    show 0 < i ∧ i < T'.len
    rw [c4.len]
    simp only [List.mem_append, List.mem_cons] at hm
    exact hi i (by simp only [List.mem_append, List.mem_cons]; rcases hm with (hm | hm) | hm | hm <;> simp [hm])
  · show _ = T'.len
    rw [c4.len, ← hc]; simp; omega
  · have : (T'.gone x).f 0 = Nd.zero := by rw [gone_f, upN_self]
    rw [this]; rfl
  · have hs' : (A ++ B).Pairwise fun a b => (T.f a).tm ≤ (T.f b).tm := by
      rw [List.pairwise_append, List.pairwise_cons] at hs
      rw [List.pairwise_append]
      exact ⟨hs.1, hs.2.1.2, fun a ha b hb => hs.2.2 a ha b (by simp [hb])⟩
    exact hs'.imp_of_mem fun {a b} ha hb q => by rw [(key a ha).1, (key b hb).1]; exact q
  · intro z hm
    rw [gz z (zx z hm) (z0 z hm), (c4.f z).2.1, (c4.f z).2.2.1]
    exact hq z (mL z hm)
theorem new_tok : TOK Tr.new [] [] :=
  ⟨⟨.nil, 0, ⟨⟨trivial, rfl, by simp [io, plP]⟩, fun z hz => by simp [allp, io, plP] at hz⟩, rfl, rfl, rfl⟩, rfl, by simp, by simp, rfl, rfl, by simp, by simp⟩
set_option maxHeartbeats 4000000
/-- Into bounds. -/
def cl (t : Int) : Int := min (max t (-4611686018427387903)) 4611686018427387903
theorem cl_rng (t : Int) : -4611686018427387903 ≤ cl t ∧ cl t ≤ 4611686018427387903 := by unfold cl; omega
theorem cl_id {t : Int} (h1 : -4611686018427387903 ≤ t) (h2 : t ≤ 4611686018427387903) : cl t = t := by unfold cl; omega
def addT (a b : Int) : Int := if 4611686018427387903 ≤ a then 4611686018427387903 else cl (cl a + cl b)
def subT (a b : Int) : Int := if 4611686018427387903 ≤ a then 4611686018427387903 else cl (cl a - cl b)
/-- Within two. -/
def btwT (a t b : Int) : Int := min (max (cl t) (cl a)) (cl b)
def F75 : AFn
  | [.int .i64 t], m => some (.int .i64 (cl t), m)
  | _, _ => none
theorem s75 : ASpec Tryz.prog 75 F75 := by
  intro args m r m' h
  unfold F75 at h; split at h <;> cases h
  refine run_on (ctx_nil _) hm c75 (by simp) fun hf => ?_
  simp [b75, cl]
def F74 : AFn
  | [.int .i64 t], m => some (.bool (decide (4611686018427387903 ≤ t)), m)
  | _, _ => none
theorem s74 : ASpec Tryz.prog 74 F74 := by
  intro args m r m' h
  unfold F74 at h; split at h <;> cases h
  refine run_on (ctx_nil _) hm c74 (by simp) fun hf => ?_
  simp [b74]
abbrev LK0 : List (FuncId × AFn) := [(75, F75), (74, F74)]
theorem xK0 : CtxOk Tryz.prog (Ctx.of LK0) := ctx_cons (ctx_cons (ctx_nil _) s74) s75
def F72 : AFn
  | [.int .i64 a, .int .i64 b], m => some (.int .i64 (addT a b), m)
  | _, _ => none
theorem s72 : ASpec Tryz.prog 72 F72 := by
  intro args m r m' h
  unfold F72 at h; split at h <;> cases h
  rename_i a b
  have h1 := cl_rng a
  have h2 := cl_rng b
  refine run_on xK0 hm c72 (by simp) fun hf => ?_
  by_cases ha : 4611686018427387903 ≤ a
  · simp (disch := omega) [b72, F75, F74, addT, ha]
  · simp (disch := omega) [b72, F75, F74, addT, ha]
def F115 : AFn
  | [.int .i64 a, .int .i64 b], m => some (.int .i64 (subT a b), m)
  | _, _ => none
theorem s115 : ASpec Tryz.prog 115 F115 := by
  intro args m r m' h
  unfold F115 at h; split at h <;> cases h
  rename_i a b
  have h1 := cl_rng a
  have h2 := cl_rng b
  refine run_on xK0 hm c115 (by simp) fun hf => ?_
  by_cases ha : 4611686018427387903 ≤ a
  · simp (disch := omega) [b115, F75, F74, subT, ha]
  · simp (disch := omega) [b115, F75, F74, subT, ha]
def F133 : AFn
  | [.int .i64 a, .int .i64 t, .int .i64 b], m => some (.int .i64 (btwT a t b), m)
  | _, _ => none
theorem s133 : ASpec Tryz.prog 133 F133 := by
  intro args m r m' h
  unfold F133 at h; split at h <;> cases h
  rename_i a t b
  refine run_on xK0 hm c133 (by simp) fun hf => ?_
  simp (disch := omega) [b133, F75, btwT]
/-- The least of two, within bounds. -/
def leastT (a b : Int) : Int := min (min 4611686018427387903 (cl a)) (cl b)
theorem first114 {m : Mem} {p : Nat} {a b : Int} {rw : Bool} (ho : m.obj p = some (.row 1 [[.int .i64 a], [.int .i64 b]] rw)) {K : KV} (hk : K (.int .i64 (leastT a b)) m) : ACalls Tryz.prog 114 [.sl (some (p, 0, 1)) 2 (some 2)] m K := by
  refine run_on xK0 hm c114 (by simp) fun hf => ?_
  simp (disch := omega) [-getElem?_pos, b114]
  refine exec_loopU (σ := Nat) (fun i => [(3, .int .i64 (if i = 0 then 4611686018427387903 else if i = 1 then min 4611686018427387903 (cl a) else leastT a b)), (8, .int .i64 i)]) (fun _ => m) (fun i => i ≤ 2) (fun i => 2 - i) 0 rfl (by omega) (by simp) ?_
  intro i a1
  have hi : i = 0 ∨ i = 1 ∨ i = 2 := by omega
  rcases hi with rfl | rfl | rfl
  · simp (disch := omega) [-getElem?_pos, ho, F75]
    exact again_mk 1 (by omega) (by omega) (by simp) rfl
  · simp (disch := omega) [-getElem?_pos, ho, F75]
    exact again_mk 2 (by omega) (by omega) (by simp [leastT]) rfl
  · simp (disch := omega) [-getElem?_pos, ho]
    exact hk
abbrev LK : List (FuncId × AFn) := [(75, F75), (74, F74), (72, F72), (115, F115), (133, F133)]
theorem xK : CtxOk Tryz.prog (Ctx.of LK) := ctx_cons (ctx_cons (ctx_cons (ctx_cons (ctx_cons (ctx_nil _) s133) s115) s72) s74) s75
end Go.Proofs.YtkcpojagecfcbaaGreatDoor
namespace Go.AM
open Go
set_option linter.unusedVariables false
set_option linter.unusedSimpArgs false
/-- A map's entries, by pairs of whole numbers. -/
def mapP (l : List ((Int × Int) × V)) : List (V × V) := l.map fun x => (.agg [.int .i64 x.1.1, .int .i64 x.1.2], x.2)
def getP : List ((Int × Int) × V) → Int × Int → Option V
  | [], _ => none
  | (b, v) :: l, a => if a = b then some v else getP l a
def putP : List ((Int × Int) × V) → Int × Int → V → List ((Int × Int) × V)
  | [], a, v => [(a, v)]
  | (b, u) :: l, a, v => if a = b then (b, v) :: l else (b, u) :: putP l a v
def delP : List ((Int × Int) × V) → Int × Int → List ((Int × Int) × V)
  | [], _ => []
  | (b, u) :: l, a => if a = b then l else (b, u) :: delP l a
theorem eqC_pair (a b c d : Int) : eqC (.agg [.int .i64 a, .int .i64 b]) (.agg [.int .i64 c, .int .i64 d]) = some (decide ((a, b) = (c, d))) := by
  simp only [eqC, and_self, if_true, Option.some.injEq]
  by_cases h1 : a = c <;> by_cases h2 : b = d <;> simp [h1, h2]
theorem findM_mapP (l : List ((Int × Int) × V)) (a b : Int) : findM (mapP l) (.agg [.int .i64 a, .int .i64 b]) = some (getP l (a, b)) := by
  induction l with
  | nil => rfl
  | cons x l ih =>
    obtain ⟨⟨c, d⟩, v⟩ := x
    simp only [mapP, List.map_cons, findM, eqC_pair, getP]
    by_cases h : (a, b) = (c, d)
    · simp [h]
    · rw [if_neg h, decide_eq_false h]; exact ih
theorem setM_mapP (l : List ((Int × Int) × V)) (a b : Int) (v : V) : setM (mapP l) (.agg [.int .i64 a, .int .i64 b]) v = some (mapP (putP l (a, b) v)) := by
  induction l with
  | nil => rfl
  | cons x l ih =>
    obtain ⟨⟨c, d⟩, u⟩ := x
    simp only [mapP, List.map_cons, setM, eqC_pair, putP]
    by_cases h : (a, b) = (c, d)
    · simp [h]
    · rw [if_neg h, decide_eq_false h]; simp only
      have ih' : setM (l.map fun x => (V.agg [.int .i64 x.1.1, .int .i64 x.1.2], x.2)) (.agg [.int .i64 a, .int .i64 b]) v = some (mapP (putP l (a, b) v)) := ih
      rw [ih']; rfl
theorem delM_mapP (l : List ((Int × Int) × V)) (a b : Int) : delM (mapP l) (.agg [.int .i64 a, .int .i64 b]) = some (mapP (delP l (a, b))) := by
  induction l with
  | nil => rfl
  | cons x l ih =>
    obtain ⟨⟨c, d⟩, u⟩ := x
    simp only [mapP, List.map_cons, delM, eqC_pair, delP]
    by_cases h : (a, b) = (c, d)
    · simp [h]
    · rw [if_neg h, decide_eq_false h]; simp only
      have ih' : delM (l.map fun x => (V.agg [.int .i64 x.1.1, .int .i64 x.1.2], x.2)) (.agg [.int .i64 a, .int .i64 b]) = some (mapP (delP l (a, b))) := ih
      rw [ih']; rfl
theorem getP_put (l : List ((Int × Int) × V)) (a b : Int × Int) (v : V) : getP (putP l a v) b = if b = a then some v else getP l b := by
  induction l with
  | nil => simp [putP, getP]
  | cons x l ih =>
    obtain ⟨c, u⟩ := x
    simp only [putP]
    by_cases h : a = c
    · subst h
      rw [if_pos rfl]; simp only [getP]
      by_cases h1 : b = a <;> simp [h1]
    · rw [if_neg h]; simp only [getP]
      rw [ih]
      by_cases h1 : b = c
      · subst h1; rw [if_pos rfl, if_neg (fun e => h e.symm), if_pos rfl]
      · rw [if_neg h1, if_neg h1]
theorem getP_del (l : List ((Int × Int) × V)) (a b : Int × Int) (h : b ≠ a) : getP (delP l a) b = getP l b := by
  induction l with
  | nil => rfl
  | cons x l ih =>
    obtain ⟨c, u⟩ := x
    simp only [delP]
    by_cases q : a = c
    · subst q
      rw [if_pos rfl]; simp only [getP]
      rw [if_neg h]
    · rw [if_neg q]; simp only [getP]
      rw [ih]
attribute [simp] findM_mapP setM_mapP delM_mapP
end Go.AM
namespace Go.Proofs.YtkcpojagecfcbaaGreatDoor
open Go Go.AM
set_option linter.unusedVariables false
set_option linter.unusedSimpArgs false
set_option maxRecDepth 60000
set_option maxHeartbeats 8000000
/-- A timer. -/
structure Tmr where
  id : Int
  ck : Int
  soft : Int
  hard : Int
  lazy : Bool
deriving DecidableEq
def Tmr.cs (t : Tmr) : List V := [.int .i64 t.id, .int .i64 t.ck, .int .i64 t.soft, .int .i64 t.hard, .bool t.lazy]
def Tmr.zero : Tmr := ⟨0, 0, 0, 0, false⟩
def entV (t : Tmr) (x : Nat) (g : Int) : V := .agg [.int .i64 t.id, .int .i64 t.ck, .int .i64 t.soft, .int .i64 t.hard, .bool t.lazy, .int .i64 x, .int .i64 g]
/-- Behind all that aren't later. -/
def insT : List Tmr → Tmr → List Tmr
  | [], t => [t]
  | u :: l, t => if cl u.soft ≤ cl t.soft then u :: insT l t else t :: u :: l
def hasT (l : List Tmr) (i : Int) : Bool := l.any fun t => decide (t.id = i)
def dropT (l : List Tmr) (i : Int) : List Tmr := l.filter fun t => !decide (t.id = i)
/-- Where a queue lies. -/
structure QA where
  o : Nat
  τ : Nat
  ν : Nat
  b : Nat
  i : Nat
def QA.all (a : QA) : List Nat := [a.o, a.τ, a.ν, a.b, a.i]
/-- A queue lies here: timers, and their places. -/
structure QR (m : Mem) (a : QA) (T : Tr) (P : List (Tmr × Nat)) (F : List Nat) (bm : List (Int × V)) (bg : List Nat × Nat) (im : List ((Int × Int) × V)) (ig : List Nat × Nat) : Prop where
  tm : Tm m a.τ a.ν T
  tok : TOK T (P.map (·.2)) F
  q : m.obj a.o = some (.row 3 [[.ptr (some (a.τ, 0, 0)), .map (some a.b), .map (some a.i)]] true)
  ob : m.obj a.b = some (.map (mapI bm) bg)
  oi : m.obj a.i = some (.map (mapP im) ig)
  lt : ∀ p ∈ a.all, p < m.next
  nd : a.all.Nodup
  kb : KeysI bm
  key : ∀ p ∈ P, (T.f p.2).tm = cl p.1.soft
  hb : ∀ p ∈ P, getI bm p.1.id = some (entV p.1 p.2 (T.f p.2).tn)
  hb0 : ∀ k, (∀ p ∈ P, p.1.id ≠ k) → getI bm k = none
  hi : ∀ p ∈ P, getP im ((p.2 : Int), (T.f p.2).tn) = some (.int .i64 p.1.id)
  ids : (P.map (·.1.id)).Nodup
def Que (m : Mem) (a : QA) (l : List Tmr) : Prop := ∃ T P F bm bg im ig, QR m a T P F bm bg im ig ∧ P.map (·.1) = l
section
variable {m m' : Mem} {a : QA} {T : Tr} {P : List (Tmr × Nat)} {F : List Nat} {bm : List (Int × V)} {bg ig : List Nat × Nat} {im : List ((Int × Int) × V)} {l : List Tmr}
theorem QR.ne (h : QR m a T P F bm bg im ig) : a.o ≠ a.τ ∧ a.o ≠ a.ν ∧ a.o ≠ a.b ∧ a.o ≠ a.i ∧ a.τ ≠ a.ν ∧ a.τ ≠ a.b ∧ a.τ ≠ a.i ∧ a.ν ≠ a.b ∧ a.ν ≠ a.i ∧ a.b ≠ a.i := by
  have := h.nd
  simp only [QA.all, List.nodup_cons, List.mem_cons, List.not_mem_nil, or_false, not_or] at this
  obtain ⟨⟨h1, h2, h3, h4⟩, ⟨h5, h6, h7⟩, ⟨h8, h9⟩, h10, _⟩ := this
  exact ⟨h1, h2, h3, h4, h5, h6, h7, h8, h9, h10⟩
theorem QR.lts (h : QR m a T P F bm bg im ig) : a.o < m.next ∧ a.τ < m.next ∧ a.ν < m.next ∧ a.b < m.next ∧ a.i < m.next :=
  ⟨h.lt _ (by simp [QA.all]), h.lt _ (by simp [QA.all]), h.lt _ (by simp [QA.all]), h.lt _ (by simp [QA.all]), h.lt _ (by simp [QA.all])⟩
theorem QR.keep (h : QR m a T P F bm bg im ig) (hn : m.next ≤ m'.next) (ho : ∀ p ∈ a.all, m'.obj p = m.obj p) : QR m' a T P F bm bg im ig :=
  ⟨h.tm.keep hn fun p hp => ho p (by simp only [List.mem_cons, List.not_mem_nil, or_false] at hp; rcases hp with rfl | rfl <;> simp [QA.all]), h.tok, by rw [ho a.o (by simp [QA.all])]; exact h.q, by rw [ho a.b (by simp [QA.all])]; exact h.ob, by rw [ho a.i (by simp [QA.all])]; exact h.oi, fun p hp => by have := h.lt p hp; omega, h.nd, h.kb, h.key, h.hb, h.hb0, h.hi, h.ids⟩
theorem QR.grow (h : QR m a T P F bm bg im ig) (hg : m.Grew m') : QR m' a T P F bm bg im ig := h.keep hg.next fun p hp => hg.obj p (h.lt p hp)
theorem Que.keep (h : Que m a l) (hn : m.next ≤ m'.next) (ho : ∀ p ∈ a.all, m'.obj p = m.obj p) : Que m' a l := by
  obtain ⟨T, P, F, bm, bg, im, ig, h, e⟩ := h
  exact ⟨T, P, F, bm, bg, im, ig, h.keep hn ho, e⟩
theorem Que.grow (h : Que m a l) (hg : m.Grew m') : Que m' a l := by
  obtain ⟨T, P, F, bm, bg, im, ig, h, e⟩ := h
  exact ⟨T, P, F, bm, bg, im, ig, h.grow hg, e⟩
theorem QR.get (h : QR m a T P F bm bg im ig) (k : Int) : (getI bm k).isSome = hasT (P.map (·.1)) k := by
  unfold hasT
  by_cases e : ∃ p ∈ P, p.1.id = k
  · obtain ⟨p, hp, rfl⟩ := e
    rw [h.hb p hp]
    symm
    simp only [Option.isSome_some, List.any_map, List.any_eq_true, Function.comp]
    exact ⟨p, hp, by simp⟩
  · rw [h.hb0 k fun p hp q => e ⟨p, hp, q⟩]
    symm
    rw [Option.isSome_none, List.any_eq_false]
    intro t ht
    obtain ⟨p, hp, rfl⟩ := List.mem_map.1 ht
    simpa using fun q => e ⟨p, hp, q⟩
theorem has106 (h : Que m a l) {i : Int} {K : KV} (hk : ∀ m', m.Grew m' → K (.bool (hasT l i)) m') : ACalls Tryz.prog 106 [.ptr (some (a.o, 0, 0)), .int .i64 i] m K := by
  obtain ⟨T, P, F, bm, bg, im, ig, h, e⟩ := h
  subst e
  have hg := h.get i
  refine run_on xK hm c106 (by simp) fun hf => ?_
  have oq := h.q
  have ob := h.ob
  cases hb : getI bm i with
  | none =>
    rw [hb] at hg
    rw [← hg] at hk
    simp (disch := omega) [-getElem?_pos, b106, oq, ob, hb, splice]
    exact hk _ (Mem.Grew.new _ _)
  | some v =>
    rw [hb] at hg
    rw [← hg] at hk
    have hv : ∃ t x g, v = entV t x g := by
      by_cases e : ∃ p ∈ P, p.1.id = i
      · obtain ⟨p, hp, rfl⟩ := e
        rw [h.hb p hp] at hb
        cases hb
        exact ⟨_, _, _, rfl⟩
      · rw [h.hb0 i fun p hp q => e ⟨p, hp, q⟩] at hb; cases hb
    obtain ⟨t, x, g, rfl⟩ := hv
    unfold entV at hb
    simp (disch := omega) [-getElem?_pos, b106, oq, ob, hb, splice]
    exact hk _ (Mem.Grew.new _ _)
theorem first113 (h : Que m a l) {K : KV} (hk : ∀ m', m.Grew m' → K (.tup [.agg (l.headD Tmr.zero).cs, .bool (!l.isEmpty)]) m') : ACalls Tryz.prog 113 [.ptr (some (a.o, 0, 0))] m K := by
  obtain ⟨T, P, F, bm, bg, im, ig, h, e⟩ := h
  subst e
  refine run_on xK hm c113 (by simp) fun hf => ?_
  obtain ⟨n, hM⟩ := first_ex h.tok.ord
  obtain ⟨M1, hM1⟩ : ∃ M1, m.new (.row 5 [[.int .i64 0, .int .i64 0, .int .i64 0, .int .i64 0, .bool false]] true) = M1 := ⟨_, rfl⟩
  have g1 : m.Grew M1 := hM1 ▸ Mem.Grew.new _ _
  have oR : M1.obj m.next = some (.row 5 [[.int .i64 0, .int .i64 0, .int .i64 0, .int .i64 0, .bool false]] true) := by rw [← hM1]; simp
  have hR : m.next < M1.next := by rw [← hM1]; simp
  have h1 := h.grow g1
  have oq := h1.q
  simp (disch := omega) [-getElem?_pos, b113, hM1, oq]
  refine first94 h1.tm hM fun m2 g2 => ?_
  have h2 := h1.grow g2
  have oR2 := (g2.obj _ hR).trans oR
  have hn2 := g2.next
  have oq2 := h2.q
  have ob2 := h2.ob
  have oi2 := h2.oi
  obtain ⟨b1, b2, b3, b4, b5⟩ := h1.lts
  obtain ⟨c1, c2, c3, c4, c5⟩ := h2.lts
  have gg := g1.trans g2
  have hg1 := g1.next
  cases P with
  | nil =>
    simp (disch := omega) [-getElem?_pos, splice, oR2]
    exact hk _ ((gg.trans (Mem.Grew.new _ _)).upd (Nat.le_refl _) _)
  | cons p P =>
    have hp0 : p.2 ≠ 0 := h.tok.ord.pos p.2 (by simp)
    have hb := h.hb p (by simp)
    have hi := h.hi p (by simp)
    unfold entV at hb
    simp (disch := omega) [-getElem?_pos, splice, oR2, oq2, ob2, oi2, hp0, hb, hi]
    exact hk _ ((gg.trans (Mem.Grew.new _ _)).upd (Nat.le_refl _) _)
end
set_option maxHeartbeats 8000000
def getT (l : List Tmr) (i : Int) : Tmr := (l.find? fun t => decide (t.id = i)).getD Tmr.zero
theorem has_split {P : List (Tmr × Nat)} {i : Int} (h : hasT (P.map (·.1)) i = true) : ∃ A p B, P = A ++ p :: B ∧ p.1.id = i := by
  unfold hasT at h
  rw [List.any_eq_true] at h
  obtain ⟨t, ht, e⟩ := h
  obtain ⟨p, hp, rfl⟩ := List.mem_map.1 ht
  obtain ⟨A, B, rfl⟩ := List.append_of_mem hp
  exact ⟨A, p, B, rfl, by simpa using e⟩
theorem hasT_false {l : List Tmr} {i : Int} (h : hasT l i = false) : ∀ t ∈ l, t.id ≠ i := by
  unfold hasT at h
  rw [List.any_eq_false] at h
  intro t ht
  simpa using h t ht
theorem dropT_not {l : List Tmr} {i : Int} (h : ∀ t ∈ l, t.id ≠ i) : dropT l i = l := by
  unfold dropT
  rw [List.filter_eq_self]
  intro t ht
  simpa using h t ht
theorem dropT_mid {A B : List Tmr} {p : Tmr} (h : ((A ++ p :: B).map (·.id)).Nodup) : dropT (A ++ p :: B) p.id = A ++ B ∧ getT (A ++ p :: B) p.id = p := by
  rw [List.map_append, List.map_cons, List.nodup_append, List.nodup_cons] at h
  have hA : ∀ t ∈ A, t.id ≠ p.id := fun t ht e => h.2.2 t.id (List.mem_map.2 ⟨t, ht, rfl⟩) p.id (by simp) e
  have hB : ∀ t ∈ B, t.id ≠ p.id := fun t ht e => h.2.1.1 (e ▸ List.mem_map.2 ⟨t, ht, rfl⟩)
  constructor
  · have e1 := dropT_not hA
    have e2 := dropT_not hB
    unfold dropT at *
    rw [List.filter_append, List.filter_cons, e1, e2]
    simp
  · unfold getT
    rw [List.find?_append]
    have : A.find? (fun t => decide (t.id = p.id)) = none := by
      rw [List.find?_eq_none]; intro t ht; simpa using hA t ht
    rw [this]; simp
section
variable {m m' : Mem} {a : QA} {T : Tr} {P : List (Tmr × Nat)} {F : List Nat} {bm : List (Int × V)} {bg ig : List Nat × Nat} {im : List ((Int × Int) × V)} {l : List Tmr}
theorem Que.lt (h : Que m a l) : ∀ p ∈ a.all, p < m.next := by
  obtain ⟨T, P, F, bm, bg, im, ig, h, e⟩ := h
  exact h.lt
theorem Que.lts (h : Que m a l) : a.o < m.next ∧ a.τ < m.next ∧ a.ν < m.next ∧ a.b < m.next ∧ a.i < m.next := by
  obtain ⟨T, P, F, bm, bg, im, ig, h, e⟩ := h
  exact h.lts
theorem Que.ids (h : Que m a l) : (l.map (·.id)).Nodup := by
  obtain ⟨T, P, F, bm, bg, im, ig, h, rfl⟩ := h
  have := h.ids
  rw [List.map_map]; exact this
theorem tok_held {T : Tr} {L F : List Nat} (h : TOK T L F) {x : Nat} (hx : x ∈ L) : Held T x :=
  ⟨(h.inr x (by simp [hx])).1, (h.inr x (by simp [hx])).2, (h.sq x hx).2⟩
theorem Stp.updNew {m X : Mem} {D D' : List Nat} (h : Stp m X D D') {r : Nat} (hr : m.next ≤ r) (o : Option AM.Obj) : Stp m (X.upd r o) D D' :=
  ⟨h.next, fun p hp hd => by rw [updO _ (by omega)]; exact h.obj p hp hd, h.fp⟩
theorem drop88 (h : Que m a l) {i : Int} {K : KV} (hk : ∀ m', Que m' a (dropT l i) → Stp m m' a.all a.all → K (.tup [.agg (getT l i).cs, .bool (hasT l i)]) m') : ACalls Tryz.prog 88 [.ptr (some (a.o, 0, 0)), .int .i64 i] m K := by
  refine run_on xK hm c88 (by simp) fun hf => ?_
  obtain ⟨M1, hM1⟩ : ∃ M1, m.new (.row 5 [[.int .i64 0, .int .i64 0, .int .i64 0, .int .i64 0, .bool false]] true) = M1 := ⟨_, rfl⟩
  have g1 : m.Grew M1 := hM1 ▸ Mem.Grew.new _ _
  have oR : M1.obj m.next = some (.row 5 [[.int .i64 0, .int .i64 0, .int .i64 0, .int .i64 0, .bool false]] true) := by rw [← hM1]; simp
  have hR : m.next < M1.next := by rw [← hM1]; simp
  have h1 := h.grow g1
  obtain ⟨l1, l2, l3, l4, l5⟩ := h.lts
  simp (disch := omega) [-getElem?_pos, b88, hM1]
  refine has106 h1 fun m2 g2 => ?_
  have h2 := h1.grow g2
  have hn1 := g1.next
  have hn2 := g2.next
  have oR2 := (g2.obj _ hR).trans oR
  have gg := g1.trans g2
  cases hh : hasT l i with
  | false =>
    rw [hh] at hk
    have e1 : dropT l i = l := dropT_not (hasT_false hh)
    have e2 : getT l i = Tmr.zero := by
      unfold getT
      rw [List.find?_eq_none.2 fun t ht => by simpa using hasT_false hh t ht]; rfl
    rw [e1, e2] at hk
    simp (disch := omega) [-getElem?_pos, splice, oR2]
    have g3 : m.Grew (m2.upd m.next (some (.row 5 [[.int .i64 0, .int .i64 0, .int .i64 0, .int .i64 0, .bool false]] true))) := gg.upd (Nat.le_refl _) _
    exact hk _ (h.grow g3) (Stp.grow g3 _)
  | true =>
    rw [hh] at hk
    have hids := h.ids
    obtain ⟨T, P, F, bm, bg, im, ig, q, e⟩ := h2
    subst e
    obtain ⟨A, p, B, rfl, rfl⟩ := has_split hh
    have hmid := dropT_mid (A := A.map (·.1)) (B := B.map (·.1)) (p := p.1) (by simpa using hids)
    rw [List.map_append, List.map_cons, hmid.1, hmid.2] at hk
    have oq := q.q
    have ob := q.ob
    have oi := q.oi
    have hb := q.hb p (by simp)
    unfold entV at hb
    obtain ⟨c1, c2, c3, c4, c5⟩ := q.lts
    obtain ⟨n1, n2, n3, n4, n5, n6, n7, n8, n9, n10⟩ := q.ne
    simp (disch := omega) [-getElem?_pos, splice, oq, ob, hb]
    have ox : (m2.new (.row 7 [[.int .i64 p.1.id, .int .i64 p.1.ck, .int .i64 p.1.soft, .int .i64 p.1.hard, .bool p.1.lazy, .int .i64 p.2, .int .i64 (T.f p.2).tn]] true)).obj m2.next = some (.row 7 [[.int .i64 p.1.id, .int .i64 p.1.ck, .int .i64 p.1.soft, .int .i64 p.1.hard, .bool p.1.lazy, .int .i64 p.2, .int .i64 (T.f p.2).tn]] true) := by simp
    have g3 := Mem.Grew.new m2 (.row 7 [[.int .i64 p.1.id, .int .i64 p.1.ck, .int .i64 p.1.soft, .int .i64 p.1.hard, .bool p.1.lazy, .int .i64 p.2, .int .i64 (T.f p.2).tn]] true)
    have hn3 : m2.next < (m2.new (.row 7 [[.int .i64 p.1.id, .int .i64 p.1.ck, .int .i64 p.1.soft, .int .i64 p.1.hard, .bool p.1.lazy, .int .i64 p.2, .int .i64 (T.f p.2).tn]] true)).next := by simp
    have q3 := q.grow g3
    have oq3 := q3.q
    generalize m2.new (.row 7 [[.int .i64 p.1.id, .int .i64 p.1.ck, .int .i64 p.1.soft, .int .i64 p.1.hard, .bool p.1.lazy, .int .i64 p.2, .int .i64 (T.f p.2).tn]] true) = m3 at *
    have tok := q.tok
    rw [List.map_append, List.map_cons] at tok
    obtain ⟨T', d1, d2, d3, d4, d5⟩ := drop_tok tok
    refine drop116 q3.tm (tok_held tok (by simp)) d2 d3 d1 fun m4 e1 e2 => ?_
    have hn4 := e2.next
    have k4 : ∀ r, r < m3.next → r ≠ a.τ → r ≠ a.ν → m4.obj r = m3.obj r := fun r h1 h2 h3 => e2.obj r h1 (by simp [h2, h3])
    have oq4 := (k4 a.o (by omega) n1 n2).trans oq3
    have ob4 := (k4 a.b (by omega) n6.symm n8.symm).trans q3.ob
    have oi4 := (k4 a.i (by omega) n7.symm n9.symm).trans q3.oi
    have ox4 := (k4 m2.next (by omega) (by omega) (by omega)).trans ox
    have oR4 := (k4 m.next (by omega) (by omega) (by omega)).trans ((g3.obj m.next (by omega)).trans oR2)
    simp (disch := omega) [-getElem?_pos, splice, oq4, ob4, oi4, ox4, oR4]
    have fst : Stp m m4 a.all a.all := (Stp.grow (gg.trans g3) _).trans (e2.mono (by simp [QA.all]) (fun r hr => .inl hr))
    refine hk _ ⟨T'.gone p.2, A ++ B, p.2 :: F, delI bm p.1.id, stD (mapI bm) (.int .i64 p.1.id) bg, delP im (p.2, (T.f p.2).tn), stD (mapP im) (.agg [.int .i64 p.2, .int .i64 (T.f p.2).tn]) ig, ?_, by simp⟩ (Stp.updNew ((fst.trans (Stp.upd _ (by simp [QA.all]) _)).trans (Stp.upd _ (by simp [QA.all]) _)) (Nat.le_refl _) _)
    · have hkb := keysI_del q.kb p.1.id
      have hids2 := q.ids
      rw [List.map_append, List.map_cons, List.nodup_append, List.nodup_cons] at hids2
      have pne : ∀ r ∈ A ++ B, r.1.id ≠ p.1.id := fun r hr e => by
        rcases List.mem_append.1 hr with hr | hr
        · exact hids2.2.2 r.1.id (List.mem_map.2 ⟨r, hr, rfl⟩) p.1.id (by simp) e
        · exact hids2.2.1.1 (e ▸ List.mem_map.2 ⟨r, hr, rfl⟩)
      have mem : ∀ r ∈ A ++ B, r ∈ A ++ p :: B := fun r hr => by
        rcases List.mem_append.1 hr with hr | hr <;> simp [hr]
      have pl : ∀ r ∈ A ++ B, r.2 ∈ A.map (·.2) ++ B.map (·.2) := fun r hr => by
        rcases List.mem_append.1 hr with hr | hr
        · exact List.mem_append.2 (.inl (List.mem_map.2 ⟨r, hr, rfl⟩))
        · exact List.mem_append.2 (.inr (List.mem_map.2 ⟨r, hr, rfl⟩))
      have xne : ∀ r ∈ A ++ B, r.2 ≠ p.2 := fun r hr e => by
        have hnd := tok.ord.nodup
        rw [(List.perm_middle (a := p.2)).nodup_iff, List.nodup_cons] at hnd
        exact hnd.1 (e ▸ pl r hr)
      refine ⟨e1.keep (by simp) fun r hr => ?_, by rw [List.map_append]; exact d4, ?_, ?_, ?_, ?_, q.nd, hkb.1, fun r hr => ?_, fun r hr => ?_, fun k hkk => ?_, fun r hr => ?_, ?_⟩
      · simp only [List.mem_cons, List.not_mem_nil, or_false] at hr
        rcases hr with rfl | rfl
        · rw [updO _ (by omega), updO _ n7, updO _ n6]
        · rw [updO _ (by omega), updO _ n9, updO _ n8]
      · rw [updO _ (by omega), updO _ n4, updO _ n3]; exact oq4
      · rw [updO _ (by omega), updO _ n10]; simp
      · rw [updO _ (by omega)]; simp
      · intro r hr; have := q.lt r hr; simp; omega
      · rw [(d5 r.2 (pl r hr)).1]; exact q.key r (mem r hr)
      · rw [hkb.2.2.2, if_neg (pne r hr), (d5 r.2 (pl r hr)).2]; exact q.hb r (mem r hr)
      · rw [hkb.2.2.2]
        split
        · rfl
        · rename_i hne
          refine q.hb0 k fun r hr => ?_
          simp only [List.mem_append, List.mem_cons] at hr
          rcases hr with hr | rfl | hr
          · exact hkk r (by simp [hr])
          · exact fun e => hne e.symm
          · exact hkk r (by simp [hr])
      · rw [(d5 r.2 (pl r hr)).2, getP_del]
        · exact q.hi r (mem r hr)
        · intro e
          have : (r.2 : Int) = p.2 := congrArg Prod.fst e
          exact xne r hr (by omega)
      · rw [List.map_append, List.nodup_append]
        exact ⟨hids2.1, hids2.2.1.2, fun x hx y hy => hids2.2.2 x hx y (by simp [hy])⟩
end
set_option maxHeartbeats 8000000
/-- Whether a timer is due. -/
def isDue (t : Tmr) (now : Int) : Bool := decide (t.soft < 4611686018427387903) && decide (cl t.soft ≤ cl now)
/-- What is taken out of a queue, if its first timer is due. -/
def dueL (l : List Tmr) (now : Int) : Option (Tmr × List Tmr) :=
  match l with
  | [] => none
  | t :: r => if isDue t now then some (t, r) else none
theorem insT_mid {A B : List Tmr} {t : Tmr} (hA : ∀ u ∈ A, cl u.soft ≤ cl t.soft) (hB : ∀ u ∈ B, cl t.soft < cl u.soft) : insT (A ++ B) t = A ++ t :: B := by
  induction A with
  | nil =>
    cases B with
    | nil => rfl
    | cons u B =>
      show insT (u :: B) t = _
      unfold insT
      rw [if_neg (by have := hB u (by simp); omega)]; rfl
  | cons u A ih =>
    show insT (u :: (A ++ B)) t = _
    unfold insT
    rw [if_pos (hA u (by simp)), ih fun v hv => hA v (by simp [hv])]; rfl
section
variable {m m' : Mem} {a : QA} {T : Tr} {P : List (Tmr × Nat)} {F : List Nat} {bm : List (Int × V)} {bg ig : List Nat × Nat} {im : List ((Int × Int) × V)} {l : List Tmr}
theorem due137 (h : Que m a l) {now : Int} {K : KV} (hk0 : dueL l now = none → ∀ m', Que m' a l → Stp m m' a.all a.all → K (.tup [.agg Tmr.zero.cs, .bool false]) m')
    (hk1 : ∀ t r, dueL l now = some (t, r) → ∀ m', Que m' a r → Stp m m' a.all a.all → K (.tup [.agg t.cs, .bool true]) m') : ACalls Tryz.prog 137 [.ptr (some (a.o, 0, 0)), .int .i64 now] m K := by
  refine run_on xK hm c137 (by simp) fun hf => ?_
  obtain ⟨M1, hM1⟩ : ∃ M1, m.new (.row 5 [[.int .i64 0, .int .i64 0, .int .i64 0, .int .i64 0, .bool false]] true) = M1 := ⟨_, rfl⟩
  have g1 : m.Grew M1 := hM1 ▸ Mem.Grew.new _ _
  have oR : M1.obj m.next = some (.row 5 [[.int .i64 0, .int .i64 0, .int .i64 0, .int .i64 0, .bool false]] true) := by rw [← hM1]; simp
  have hR : m.next < M1.next := by rw [← hM1]; simp
  have h1 := h.grow g1
  obtain ⟨l1, l2, l3, l4, l5⟩ := h.lts
  simp (disch := omega) [-getElem?_pos, b137, hM1]
  refine first113 h1 fun m2 g2 => ?_
  have hn2 := g2.next
  have oR2 := (g2.obj _ hR).trans oR
  have gg := g1.trans g2
  cases l with
  | nil =>
    simp (disch := omega) [-getElem?_pos, splice, oR2, Tmr.cs, Tmr.zero]
    have g3 : m.Grew ((m2.new (.row 5 [[.int .i64 0, .int .i64 0, .int .i64 0, .int .i64 0, .bool false]] true)).upd m.next (some (.row 5 [[.int .i64 0, .int .i64 0, .int .i64 0, .int .i64 0, .bool false]] true))) := (gg.trans (Mem.Grew.new _ _)).upd (Nat.le_refl _) _
    exact hk0 rfl _ (h.grow g3) (Stp.grow g3 _)
  | cons t r =>
    by_cases c1 : 4611686018427387903 ≤ t.soft
    · simp (disch := omega) [-getElem?_pos, splice, oR2, Tmr.cs, F74, c1]
      have g3 : m.Grew ((m2.new (.row 5 [[.int .i64 t.id, .int .i64 t.ck, .int .i64 t.soft, .int .i64 t.hard, .bool t.lazy]] true)).upd m.next (some (.row 5 [[.int .i64 0, .int .i64 0, .int .i64 0, .int .i64 0, .bool false]] true))) := (gg.trans (Mem.Grew.new _ _)).upd (Nat.le_refl _) _
      exact hk0 (by simp [dueL, isDue, c1]) _ (h.grow g3) (Stp.grow g3 _)
    · by_cases c2 : cl now < cl t.soft
      · simp (disch := omega) [-getElem?_pos, splice, oR2, Tmr.cs, F74, F75, c1, c2]
        have g3 : m.Grew ((m2.new (.row 5 [[.int .i64 t.id, .int .i64 t.ck, .int .i64 t.soft, .int .i64 t.hard, .bool t.lazy]] true)).upd m.next (some (.row 5 [[.int .i64 0, .int .i64 0, .int .i64 0, .int .i64 0, .bool false]] true))) := (gg.trans (Mem.Grew.new _ _)).upd (Nat.le_refl _) _
        exact hk0 (by simp [dueL, isDue, c1, c2]) _ (h.grow g3) (Stp.grow g3 _)
      · simp (disch := omega) [-getElem?_pos, splice, oR2, Tmr.cs, F74, F75, c1, c2]
        have g3 := Mem.Grew.new m2 (.row 5 [[.int .i64 t.id, .int .i64 t.ck, .int .i64 t.soft, .int .i64 t.hard, .bool t.lazy]] true)
        have oR3 := (g3.obj m.next (by omega)).trans oR2
        have hn3 := g3.next
        have hd := dropT_mid (A := []) (B := r) (p := t) h.ids
        refine drop88 (h1.grow (g2.trans g3)) fun m4 q4 s4 => ?_
        have hn4 := s4.next
        have oR4 := (s4.obj m.next (by omega) (by simp [QA.all]; omega)).trans oR3
        have hh : hasT (t :: r) t.id = true := by simp [hasT]
        rw [List.nil_append] at hd
        rw [hd.1] at q4
        rw [hd.2, hh]
        simp (disch := omega) [-getElem?_pos, splice, oR4, Tmr.cs]
        exact hk1 t r (by simp [dueL, isDue]; omega) _ (q4.keep (by simp) fun p hp => updO _ (by have := h.lt p hp; omega)) (Stp.updNew ((Stp.grow (gg.trans g3) _).trans s4) (Nat.le_refl _) _)
theorem new50 {K : KV} (hk : ∀ m' a, m.Grew m' → (∀ p ∈ a.all, m.next ≤ p) → Que m' a [] → K (.ptr (some (a.o, 0, 0))) m') : ACalls Tryz.prog 50 [] m K := by
  refine run_on xK hm c50 (by simp) fun hf => ?_
  simp (disch := omega) [-getElem?_pos, b50]
  refine new80 fun m1 τ ν g1 h1 h2 hT => ?_
  have a1 := hT.lt1
  have a2 := hT.lt2
  have a3 := hT.ne
  have hn := g1.next
  simp (disch := omega) [-getElem?_pos, splice]
  refine hk _ ⟨m1.next + 1 + 1, τ, ν, m1.next, m1.next + 1⟩ (((g1.trans (Mem.Grew.new _ _)).trans (Mem.Grew.new _ _)).trans (Mem.Grew.new _ _)) (fun p hp => ?_) ⟨Tr.new, [], [], [], ([], 0), [], ([], 0), ⟨((hT.grow (Mem.Grew.new _ _)).grow (Mem.Grew.new _ _)).grow (Mem.Grew.new _ _), new_tok, by simp, ?_, ?_, fun p hp => ?_, ?_, ?_, by simp, by simp, fun k _ => rfl, by simp, by simp⟩, rfl⟩
  · simp only [QA.all, List.mem_cons, List.not_mem_nil, or_false] at hp; omega
  · show _ = some (AM.Obj.map [] ([], 0))
    simp (disch := omega) [upd_obj]
  · show _ = some (AM.Obj.map [] ([], 0))
    simp (disch := omega) [upd_obj]
  · simp only [QA.all, List.mem_cons, List.not_mem_nil, or_false] at hp; simp; omega
  · simp only [QA.all, List.nodup_cons, List.mem_cons, List.not_mem_nil, or_false, not_or, List.nodup_nil, and_true, not_false_eq_true]
    omega
  · simp [KeysI]
end
set_option maxHeartbeats 8000000
section
variable {m m' : Mem} {a : QA} {T : Tr} {P : List (Tmr × Nat)} {F : List Nat} {bm : List (Int × V)} {bg ig : List Nat × Nat} {im : List ((Int × Int) × V)} {l : List Tmr}
def tail83_33 : St :=
 .seq
 (.seq
  (.region [⟨(some 33), .mov (.t 6), none⟩,
     ⟨(some 34), .bin .neq (.t 33) (.c (.int .i64 0)), none⟩]) <|
  .cond (.t 34)
   (.seq
    (.region [⟨(some 35), .mov (.t 6), none⟩,
       ⟨(some 4), .mov (.t 35), none⟩]) <|
    .ret)
   (.skip)) <|
 .seq
 (.draw false [0, 3, 5] (
    .op ⟨(some 36), .mov (.t 0), none⟩ <|
    .op ⟨(some 37), .nilck (.t 36), none⟩ <|
    .op ⟨(some 38), .faddr 1 (.t 37), none⟩ <|
    .op ⟨(some 39), .load false 1 (.t 38), none⟩ <|
    .op ⟨(some 40), .faddr 0 (.t 3), none⟩ <|
    .op ⟨(some 41), .load false 1 (.t 40), none⟩ <|
    .op ⟨(some 42), .load true 5 (.t 3), none⟩ <|
    .op ⟨(some 43), .load true 2 (.t 5), none⟩ <|
    .op ⟨(some 44), .build [(.int .i64 0), (.int .i64 0), (.int .i64 0), (.int .i64 0), (.bool false), (.int .i64 0), (.int .i64 0)] [(0, 5, (.t 42)), (5, 2, (.t 43))], none⟩ <|
    .op ⟨none, .mapUpd (.t 39) (.t 41) (.t 44) false, none⟩ <|
    .done)) <|
 .seq
 (.draw false [] (
    .op ⟨(some 45), .mov (.t 0), none⟩ <|
    .op ⟨(some 46), .nilck (.t 45), none⟩ <|
    .op ⟨(some 47), .faddr 2 (.t 46), none⟩ <|
    .op ⟨(some 48), .load false 1 (.t 47), none⟩ <|
    .op ⟨(some 49), .load true 2 (.t 5), none⟩ <|
    .op ⟨(some 50), .faddr 0 (.t 3), none⟩ <|
    .op ⟨(some 51), .load false 1 (.t 50), none⟩ <|
    .op ⟨none, .mapUpd (.t 48) (.t 49) (.t 51) true, none⟩ <|
    .done)) <|
 .seq
 (.region [⟨(some 4), .mov (.c (.int .i64 0)), none⟩]) <|
 .ret
def b83t : IFn := ⟨
 .seq
 (.region [⟨(some 3), .box (.t 1), none⟩,
    ⟨(some 4), .mov (.c (.int .i64 0)), none⟩]) <|
 .seq
 (.block 0 <|
  .seq
  (.region [⟨(some 8), .mov (.t 0), none⟩,
     ⟨(some 9), .eq false false [.ptr] (.t 8) (.c (.ptr none)), none⟩,
     ⟨(some 7), .mov (.t 9), none⟩]) <|
  .cond (.t 7)
   (.seq
    (.region [⟨(some 4), .mov (.c (.int .i64 1)), none⟩]) <|
    .ret)
   (.seq
    (.region [⟨(some 11), .faddr 3 (.t 3), none⟩,
       ⟨(some 12), .load false 1 (.t 11), none⟩,
       ⟨(some 13), .faddr 2 (.t 3), none⟩,
       ⟨(some 14), .load false 1 (.t 13), none⟩,
       ⟨(some 15), .bin .lss (.t 12) (.t 14), none⟩,
       ⟨(some 10), .mov (.t 15), none⟩]) <|
    .cond (.t 10)
     (.seq
      (.region [⟨(some 4), .mov (.c (.int .i64 2)), none⟩]) <|
      .ret)
     (.seq
      (.region [⟨(some 17), .mov (.t 0), none⟩,
         ⟨(some 18), .faddr 0 (.t 3), none⟩,
         ⟨(some 19), .load false 1 (.t 18), none⟩,
         ⟨(some 20), .call (.f 106) [(.t 17), (.t 19)], none⟩,
         ⟨(some 16), .mov (.t 20), none⟩]) <|
      .cond (.t 16)
       (.seq
        (.region [⟨(some 4), .mov (.c (.int .i64 9)), none⟩]) <|
        .ret)
       (.skip)))) <|
 .seq
 (.draw false [0, 3, 5, 6] (
    .op ⟨(some 22), .mov (.t 0), none⟩ <|
    .op ⟨(some 23), .nilck (.t 22), none⟩ <|
    .op ⟨(some 24), .faddr 0 (.t 23), none⟩ <|
    .op ⟨(some 26), .faddr 2 (.t 3), none⟩ <|
    .op ⟨(some 27), .load false 1 (.t 26), none⟩ <|
    .alt (.alt (.op ⟨(some 25), .load false 1 (.t 24), none⟩ <|
      .alt (.op ⟨(some 28), .call (.f 75) [(.t 27)], none⟩ <|
       .op ⟨(some 29), .build [(.int .i64 0), (.int .i64 0)] [(0, 1, (.t 28))], none⟩ <|
       .alt (.op ⟨(some 30), .call (.f 107) [(.t 25), (.t 29)], none⟩ <|
        .op ⟨(some 21), .mov (.t 30), none⟩ <|
        .op ⟨(some 31), .extract (.t 21) 0, none⟩ <|
        .op ⟨(some 32), .extract (.t 21) 1, none⟩ <|
        .op ⟨(some 5), .alloc [(.int .i64 0), (.int .i64 0)], none⟩ <|
        .op ⟨none, .store 2 (.t 5) (.t 31), none⟩ <|
        .op ⟨(some 6), .mov (.t 32), none⟩ <|
        .done) <|
       .op ⟨(some 5), .alloc [(.int .i64 0), (.int .i64 0)], none⟩ <|
       .op ⟨(some 30), .call (.f 107) [(.t 25), (.t 29)], none⟩ <|
       .op ⟨(some 21), .mov (.t 30), none⟩ <|
       .op ⟨(some 31), .extract (.t 21) 0, none⟩ <|
       .op ⟨(some 32), .extract (.t 21) 1, none⟩ <|
       .op ⟨none, .store 2 (.t 5) (.t 31), none⟩ <|
       .op ⟨(some 6), .mov (.t 32), none⟩ <|
       .done) <|
      .op ⟨(some 5), .alloc [(.int .i64 0), (.int .i64 0)], none⟩ <|
      .op ⟨(some 28), .call (.f 75) [(.t 27)], none⟩ <|
      .op ⟨(some 29), .build [(.int .i64 0), (.int .i64 0)] [(0, 1, (.t 28))], none⟩ <|
      .op ⟨(some 30), .call (.f 107) [(.t 25), (.t 29)], none⟩ <|
      .op ⟨(some 21), .mov (.t 30), none⟩ <|
      .op ⟨(some 31), .extract (.t 21) 0, none⟩ <|
      .op ⟨(some 32), .extract (.t 21) 1, none⟩ <|
      .op ⟨none, .store 2 (.t 5) (.t 31), none⟩ <|
      .op ⟨(some 6), .mov (.t 32), none⟩ <|
      .done) <|
     .op ⟨(some 28), .call (.f 75) [(.t 27)], none⟩ <|
     .op ⟨(some 25), .load false 1 (.t 24), none⟩ <|
     .op ⟨(some 29), .build [(.int .i64 0), (.int .i64 0)] [(0, 1, (.t 28))], none⟩ <|
     .alt (.op ⟨(some 30), .call (.f 107) [(.t 25), (.t 29)], none⟩ <|
      .op ⟨(some 21), .mov (.t 30), none⟩ <|
      .op ⟨(some 31), .extract (.t 21) 0, none⟩ <|
      .op ⟨(some 32), .extract (.t 21) 1, none⟩ <|
      .op ⟨(some 5), .alloc [(.int .i64 0), (.int .i64 0)], none⟩ <|
      .op ⟨none, .store 2 (.t 5) (.t 31), none⟩ <|
      .op ⟨(some 6), .mov (.t 32), none⟩ <|
      .done) <|
     .op ⟨(some 5), .alloc [(.int .i64 0), (.int .i64 0)], none⟩ <|
     .op ⟨(some 30), .call (.f 107) [(.t 25), (.t 29)], none⟩ <|
     .op ⟨(some 21), .mov (.t 30), none⟩ <|
     .op ⟨(some 31), .extract (.t 21) 0, none⟩ <|
     .op ⟨(some 32), .extract (.t 21) 1, none⟩ <|
     .op ⟨none, .store 2 (.t 5) (.t 31), none⟩ <|
     .op ⟨(some 6), .mov (.t 32), none⟩ <|
     .done) <|
    .op ⟨(some 5), .alloc [(.int .i64 0), (.int .i64 0)], none⟩ <|
    .alt (.op ⟨(some 25), .load false 1 (.t 24), none⟩ <|
     .op ⟨(some 28), .call (.f 75) [(.t 27)], none⟩ <|
     .op ⟨(some 29), .build [(.int .i64 0), (.int .i64 0)] [(0, 1, (.t 28))], none⟩ <|
     .op ⟨(some 30), .call (.f 107) [(.t 25), (.t 29)], none⟩ <|
     .op ⟨(some 21), .mov (.t 30), none⟩ <|
     .op ⟨(some 31), .extract (.t 21) 0, none⟩ <|
     .op ⟨(some 32), .extract (.t 21) 1, none⟩ <|
     .op ⟨none, .store 2 (.t 5) (.t 31), none⟩ <|
     .op ⟨(some 6), .mov (.t 32), none⟩ <|
     .done) <|
    .op ⟨(some 28), .call (.f 75) [(.t 27)], none⟩ <|
    .op ⟨(some 25), .load false 1 (.t 24), none⟩ <|
    .op ⟨(some 29), .build [(.int .i64 0), (.int .i64 0)] [(0, 1, (.t 28))], none⟩ <|
    .op ⟨(some 30), .call (.f 107) [(.t 25), (.t 29)], none⟩ <|
    .op ⟨(some 21), .mov (.t 30), none⟩ <|
    .op ⟨(some 31), .extract (.t 21) 0, none⟩ <|
    .op ⟨(some 32), .extract (.t 21) 1, none⟩ <|
    .op ⟨none, .store 2 (.t 5) (.t 31), none⟩ <|
    .op ⟨(some 6), .mov (.t 32), none⟩ <|
    .done)) <|
 tail83_33, [.slot 4]⟩
theorem c83t : Code1 Tryz.prog 83 52 b83t := c83
theorem ins_end {m : Mem} {a : QA} {T T' : Tr} {P : List (Tmr × Nat)} {F' : List Nat} {bm : List (Int × V)} {bg ig : List Nat × Nat} {im : List ((Int × Int) × V)} {t : Tmr} {x : Nat} {A B : List Nat}
    (q : QR m a T P F bm bg im ig) (hh : hasT (P.map (·.1)) t.id = false) (tok : TOK T' (A ++ x :: B) F') (hAB : P.map (·.2) = A ++ B) (hx : x ∉ P.map (·.2)) (hkx : (T'.f x).tm = cl t.soft) (hkz : ∀ z ∈ P.map (·.2), (T'.f z).tm = (T.f z).tm ∧ (T'.f z).tn = (T.f z).tn)
    (hA : ∀ z ∈ A, (T.f z).tm ≤ cl t.soft) (hB : ∀ z ∈ B, cl t.soft < (T.f z).tm) {M : Mem} {M' : Mem} (hTm : Tm M a.τ a.ν T') (hn : m.next ≤ M.next) (hM : M.next ≤ M'.next) (hM' : ∀ r, r ∈ [a.τ, a.ν] → M'.obj r = M.obj r) (oq : M'.obj a.o = m.obj a.o)
    (ob : M'.obj a.b = some (.map (mapI (putI bm t.id (entV t x (T'.f x).tn))) (stU (mapI bm) (.int .i64 t.id) bg))) (oi : M'.obj a.i = some (.map (mapP (putP im (x, (T'.f x).tn) (.int .i64 t.id))) (stU (mapP im) (.agg [.int .i64 x, .int .i64 (T'.f x).tn]) ig))) :
    Que M' a (insT (P.map (·.1)) t) := by
  obtain ⟨PA, PB, rfl, eA, eB⟩ : ∃ PA PB, P = PA ++ PB ∧ PA.map (·.2) = A ∧ PB.map (·.2) = B := by
    obtain ⟨PA, PB, e1, e2, e3⟩ := List.map_eq_append_iff.1 hAB
    exact ⟨PA, PB, e1, e2, e3⟩
  subst eA; subst eB
  have nh := hasT_false hh
  have mem2 : ∀ r ∈ PA ++ PB, r.2 ∈ (PA ++ PB).map (·.2) := fun r hr => List.mem_map.2 ⟨r, hr, rfl⟩
  have mem1 : ∀ r ∈ PA ++ PB, r.1.id ≠ t.id := fun r hr => nh r.1 (List.mem_map.2 ⟨r, hr, rfl⟩)
  have kk := keysI_put q.kb t.id (entV t x (T'.f x).tn)
  have eL : insT ((PA ++ PB).map (·.1)) t = PA.map (·.1) ++ t :: PB.map (·.1) := by
    rw [List.map_append]
    refine insT_mid (fun u hu => ?_) fun u hu => ?_
    · obtain ⟨r, hr, rfl⟩ := List.mem_map.1 hu
      rw [← q.key r (by simp [hr])]; exact hA r.2 (List.mem_map.2 ⟨r, hr, rfl⟩)
    · obtain ⟨r, hr, rfl⟩ := List.mem_map.1 hu
      rw [← q.key r (by simp [hr])]; exact hB r.2 (List.mem_map.2 ⟨r, hr, rfl⟩)
  have cases : ∀ r, r ∈ PA ++ (t, x) :: PB → r = (t, x) ∨ r ∈ PA ++ PB := fun r hr => by
    simp only [List.mem_append, List.mem_cons] at hr ⊢
    rcases hr with h | h | h <;> simp [h]
  refine ⟨T', PA ++ (t, x) :: PB, F', putI bm t.id (entV t x (T'.f x).tn), _, putP im (x, (T'.f x).tn) (.int .i64 t.id), _, ⟨hTm.keep hM hM', ?_, by rw [oq]; exact q.q, ob, oi, fun p hp => by have := q.lt p hp; omega, q.nd, kk.1, fun r hr => ?_, fun r hr => ?_, fun k hkk => ?_, fun r hr => ?_, ?_⟩, by rw [eL]; simp⟩
  · rw [List.map_append, List.map_cons]; exact tok
  · rcases cases r hr with rfl | hr
    · exact hkx
    · rw [(hkz r.2 (mem2 r hr)).1]; exact q.key r hr
  · rcases cases r hr with rfl | hr
    · rw [getI_put, if_pos rfl]
    · rw [getI_put, if_neg (mem1 r hr), (hkz r.2 (mem2 r hr)).2]; exact q.hb r hr
  · rw [getI_put, if_neg (fun e => hkk (t, x) (by simp) e.symm)]
    exact q.hb0 k fun r hr => hkk r (by simp only [List.mem_append, List.mem_cons] at hr ⊢; rcases hr with h | h <;> simp [h])
  · rcases cases r hr with rfl | hr
    · rw [getP_put, if_pos rfl]
    · rw [getP_put, if_neg, (hkz r.2 (mem2 r hr)).2]
      · exact q.hi r hr
      · intro e
        have : (r.2 : Int) = x := congrArg Prod.fst e
        exact hx ((show r.2 = x by omega) ▸ mem2 r hr)
  · have hp : ((PA ++ (t, x) :: PB).map (·.1.id)).Perm (t.id :: (PA ++ PB).map (·.1.id)) := by
      rw [List.map_append, List.map_cons, List.map_append]; exact List.perm_middle
    rw [hp.nodup_iff, List.nodup_cons]
    exact ⟨fun hm => by obtain ⟨r, hr, e⟩ := List.mem_map.1 hm; exact mem1 r hr e, q.ids⟩
/-- The error of a timer that comes. -/
def addE (l : List Tmr) (t : Tmr) : Int := if t.hard < t.soft then 2 else if hasT l t.id then 9 else 0
theorem add83 (h : Que m a l) {t : Tmr} (hl : l.length < 64) {K : KV} (hk : ∀ m', Que m' a (if addE l t = 0 then insT l t else l) → Stp m m' a.all a.all → K (.int .i64 (addE l t)) m') : ACalls Tryz.prog 83 [.ptr (some (a.o, 0, 0)), .agg t.cs] m K := by
  refine run_on xK hm c83t (by simp) fun hf => ?_
  obtain ⟨M1, hM1⟩ : ∃ M1, m.new (.row 5 [t.cs] true) = M1 := ⟨_, rfl⟩
  have g1 : m.Grew M1 := hM1 ▸ Mem.Grew.new _ _
  have oT : M1.obj m.next = some (.row 5 [t.cs] true) := by rw [← hM1]; simp
  have hT : m.next < M1.next := by rw [← hM1]; simp
  have h1 := h.grow g1
  obtain ⟨l1, l2, l3, l4, l5⟩ := h.lts
  unfold addE at hk
  unfold Tmr.cs at hM1 oT ⊢
  by_cases c1 : t.hard < t.soft
  · rw [if_pos c1] at hk
    simp (disch := omega) [-getElem?_pos, b83t, hM1, oT, c1]
    exact hk _ (by simpa using h1) (Stp.grow g1 _)
  · rw [if_neg c1] at hk
    simp (disch := omega) [-getElem?_pos, b83t, hM1, oT, c1]
    refine has106 h1 fun m2 g2 => ?_
    have h2 := h1.grow g2
    have hn2 := g2.next
    have oT2 := (g2.obj _ hT).trans oT
    have gg := g1.trans g2
    cases hh : hasT l t.id with
    | true =>
      rw [hh] at hk
      simp (disch := omega) [-getElem?_pos, splice]
      exact hk _ (by simpa using h2) (Stp.grow gg _)
    | false =>
      rw [hh] at hk
      obtain ⟨T, P, F, bm, bg, im, ig, q, e⟩ := h2
      subst e
      have oq := q.q
      obtain ⟨b1, b2, b3, b4, b5⟩ := q.lts
      obtain ⟨n1, n2, n3, n4, n5, n6, n7, n8, n9, n10⟩ := q.ne
      have hL : (P.map (·.2)).length < 64 := by simpa using hl
      obtain ⟨x, T1, T', F', k1, k2, u, s, A, B, e1, e2, e3, e4, e5, e6, e7, e8, e9, e10, e11⟩ := put_tok q.tok hL (cl t.soft)
      have fin : ∀ (e : Env) (M M' : Mem) (r : Nat), e 0 = .ptr (some (a.o, 0, 0)) → e 3 = .ptr (some (m.next, 0, 0)) → e 5 = .ptr (some (r, 0, 0)) → e 6 = .int .i64 0 → Tm M a.τ a.ν T' → M.next ≤ M'.next → m2.next ≤ M.next → Stp m2 M' a.all a.all →
          m2.next ≤ r → r < M'.next → M'.obj r = some (.row 2 [[.int .i64 x, .int .i64 (T'.f x).tn]] true) → (∀ r ∈ [a.τ, a.ν], M'.obj r = M.obj r) → M'.obj m.next = m2.obj m.next → M'.obj a.o = m2.obj a.o → M'.obj a.b = m2.obj a.b → M'.obj a.i = m2.obj a.i →
          exec (Ctx.on Tryz.prog LK) tail83_33 e M' (endX [.slot 4] K) := by
        intro e M M' r h0 h3 h5 h6 hTm hn hn0 hst hr1 hr2 hr3 hk1 hk2 hk3 hk4 hk5
        have oq' := hk3.trans q.q
        have ob' := hk4.trans q.ob
        have oi' := hk5.trans q.oi
        have oT' := hk2.trans oT2
        unfold tail83_33
        simp (disch := omega) [-getElem?_pos, splice, h0, h3, h5, h6, oq', ob', oi', oT', hr3]
        refine hk _ ?_ (((Stp.grow gg _).trans hst).trans ((Stp.upd _ (by simp [QA.all]) _).trans (Stp.upd _ (by simp [QA.all]) _)))
        simp only [Bool.false_eq_true, if_false, if_true]
        refine ins_end q hh e5 e6 e7 e8 e9 e10 e11 hTm hn0 (by simp; exact hn) (fun r hr => ?_) ?_ ?_ ?_
        · simp only [List.mem_cons, List.not_mem_nil, or_false] at hr
          rw [updO _ (by rcases hr with rfl | rfl; exact n7; exact n9), updO _ (by rcases hr with rfl | rfl; exact n6; exact n8)]
          exact hk1 r (by simpa using hr)
        · rw [updO _ n4, updO _ n3]; exact hk3
        · rw [updO _ n10]; simp [entV]
        · simp
      have put0 : ∀ {M : Mem} {K : KV}, m2.Grew M → (∀ m', Tm m' a.τ a.ν T' → Stp M m' [a.τ, a.ν] [a.τ, a.ν] → K (.tup [.agg [.int .i64 x, .int .i64 (T'.f x).tn], .int .i64 0]) m') → ACalls Tryz.prog 107 [.ptr (some (a.τ, 0, 0)), .agg [.int .i64 (cl t.soft), .int .i64 0]] M K := fun hg hk => by
        refine put107 (q.grow hg).tm (k := (cl t.soft, 0)) (x := x) (n1 := k1) (n2 := k2) (u := u) (s := s) (by rw [e1]) (by omega) ?_ ?_ hk
        · rw [e1]; exact e3
        · rw [e1]; exact e4
      have one : ∀ (e : Env) (m3 : Mem), e 0 = .ptr (some (a.o, 0, 0)) → e 3 = .ptr (some (m.next, 0, 0)) → e 5 = .ptr (some (m3.next, 0, 0)) → e 6 = .int .i64 0 → Tm m3 a.τ a.ν T' → Stp m2 m3 [a.τ, a.ν] [a.τ, a.ν] →
          exec (Ctx.on Tryz.prog LK) tail83_33 e (m3.new (.row 2 [[.int .i64 x, .int .i64 (T'.f x).tn]] true)) (endX [.slot 4] K) := by
        intro e m3 h0 h3 h5 h6 p1 p2
        have hn3 := p2.next
        have g := Mem.Grew.new m3 (.row 2 [[.int .i64 x, .int .i64 (T'.f x).tn]] true)
        have far : ∀ r, r < m2.next → r ≠ a.τ → r ≠ a.ν → (m3.new (.row 2 [[.int .i64 x, .int .i64 (T'.f x).tn]] true)).obj r = m2.obj r := fun r w1 w2 w3 => (g.obj r (by omega)).trans (p2.obj r w1 (by simp [w2, w3]))
        refine fin e m3 _ m3.next h0 h3 h5 h6 p1 g.next hn3 ((p2.mono (by simp [QA.all]) (fun r hr => .inl hr)).trans (Stp.grow g _)) hn3 (by simp) (by simp) (fun r hr => g.obj r ?_) (far _ (by omega) (by omega) (by omega)) (far _ b1 n1 n2) (far _ b4 n6.symm n8.symm) (far _ b5 n7.symm n9.symm)
        simp only [List.mem_cons, List.not_mem_nil, or_false] at hr
        rcases hr with rfl | rfl <;> omega
      have two : ∀ (e : Env) (m3 : Mem), e 0 = .ptr (some (a.o, 0, 0)) → e 3 = .ptr (some (m.next, 0, 0)) → e 5 = .ptr (some (m2.next, 0, 0)) → e 6 = .int .i64 0 → Tm m3 a.τ a.ν T' → Stp (m2.new (.row 2 [[.int .i64 0, .int .i64 0]] true)) m3 [a.τ, a.ν] [a.τ, a.ν] →
          exec (Ctx.on Tryz.prog LK) tail83_33 e (m3.upd m2.next (some (.row 2 [[.int .i64 x, .int .i64 (T'.f x).tn]] true))) (endX [.slot 4] K) := by
        intro e m3 h0 h3 h5 h6 p1 p2
        have hn3 := p2.next
        have g := Mem.Grew.new m2 (.row 2 [[.int .i64 0, .int .i64 0]] true)
        simp only [new_next] at hn3
        have p3 := (Stp.grow g [a.τ, a.ν]).trans p2
        have far : ∀ r, r < m2.next → r ≠ a.τ → r ≠ a.ν → (m3.upd m2.next (some (.row 2 [[.int .i64 x, .int .i64 (T'.f x).tn]] true))).obj r = m2.obj r := fun r w1 w2 w3 => (updO _ (by omega)).trans (p3.obj r w1 (by simp [w2, w3]))
        refine fin e m3 _ m2.next h0 h3 h5 h6 p1 (by simp) (by omega) (Stp.updNew (p3.mono (by simp [QA.all]) (fun r hr => .inl hr)) (Nat.le_refl _) _) (Nat.le_refl _) (by simp; omega) (by simp) (fun r hr => updO _ ?_) (far _ (by omega) (by omega) (by omega)) (far _ b1 n1 n2) (far _ b4 n6.symm n8.symm) (far _ b5 n7.symm n9.symm)
        simp only [List.mem_cons, List.not_mem_nil, or_false] at hr
        rcases hr with rfl | rfl <;> omega
      have oO : ∀ {m3 : Mem}, Stp (m2.new (.row 2 [[.int .i64 0, .int .i64 0]] true)) m3 [a.τ, a.ν] [a.τ, a.ν] → m3.obj m2.next = some (.row 2 [[.int .i64 0, .int .i64 0]] true) := fun p2 =>
        (p2.obj m2.next (by simp) (by simp; omega)).trans (by simp)
      simp (disch := omega) [-getElem?_pos, splice, oq, oT2, F75]
      have gN := Mem.Grew.new m2 (.row 2 [[.int .i64 0, .int .i64 0]] true)
      have k1 : ∀ {K1 : KV}, (∀ m3, Tm m3 a.τ a.ν T' → Stp m2 m3 [a.τ, a.ν] [a.τ, a.ν] → K1 (.tup [.agg [.int .i64 x, .int .i64 (T'.f x).tn], .int .i64 0]) m3) → ACalls Tryz.prog 107 [.ptr (some (a.τ, 0, 0)), .agg [.int .i64 (cl t.soft), .int .i64 0]] m2 K1 := fun hk => put0 (Mem.Grew.refl _) hk
      refine ⟨⟨⟨⟨?_, ?_⟩, ?_⟩, ⟨?_, ?_⟩⟩, ⟨?_, ?_⟩⟩
      · refine k1 fun m3 p1 p2 => ?_
        simp (disch := omega) [-getElem?_pos, splice]
        exact one _ m3 (by simp) (by simp) (by simp) (by simp) p1 p2
      · refine put0 gN fun m3 p1 p2 => ?_
        have o5 := oO p2
        simp (disch := omega) [-getElem?_pos, splice, o5]
        exact two _ m3 (by simp) (by simp) (by simp) (by simp) p1 p2
      · refine put0 gN fun m3 p1 p2 => ?_
        have o5 := oO p2
        simp (disch := omega) [-getElem?_pos, splice, o5]
        exact two _ m3 (by simp) (by simp) (by simp) (by simp) p1 p2
      · refine k1 fun m3 p1 p2 => ?_
        simp (disch := omega) [-getElem?_pos, splice]
        exact one _ m3 (by simp) (by simp) (by simp) (by simp) p1 p2
      · refine put0 gN fun m3 p1 p2 => ?_
        have o5 := oO p2
        simp (disch := omega) [-getElem?_pos, splice, o5]
        exact two _ m3 (by simp) (by simp) (by simp) (by simp) p1 p2
      · refine put0 gN fun m3 p1 p2 => ?_
        have o5 := oO p2
        simp (disch := omega) [-getElem?_pos, splice, o5]
        exact two _ m3 (by simp) (by simp) (by simp) (by simp) p1 p2
      · refine put0 gN fun m3 p1 p2 => ?_
        have o5 := oO p2
        simp (disch := omega) [-getElem?_pos, splice, o5]
        exact two _ m3 (by simp) (by simp) (by simp) (by simp) p1 p2
end
end Go.Proofs.YtkcpojagecfcbaaGreatDoor
