/-
  DEALING OUT the slots that come.
-/
import Derived.Test.YtkpdpdpilggcfaaGx
import Derived.Test.YtkpdpdpilggcfaaPx
namespace Go.Proofs.Ytkpdpdpilggcfaa
open Go Go.AM
set_option linter.unusedVariables false
set_option linter.unusedSimpArgs false
set_option maxRecDepth 60000
set_option maxHeartbeats 4000000

theorem Fit.lay {S : Nat → List It} {Q : It → Nat → Prop} (h : Fit S Q) {x : It} {s : Nat} (hs : s < 64) (hn : ¬ Q x s) : Fit (setv S s (S s ++ [x])) (fun y t => Q y t ∨ (y = x ∧ t = s)) := by
  refine ⟨fun t ht y => ?_, fun t ht => ?_⟩
  · by_cases e : t = s
    · subst e
      rw [setv_self, List.mem_append, h.mem t ht y]; simp
    · rw [setv_ne _ _ e, h.mem t ht y]; simp [e]
  · by_cases e : t = s
    · subst e
      rw [setv_self, List.nodup_append]
      refine ⟨h.nd t ht, by simp, fun a ha b hb => ?_⟩
      simp only [List.mem_singleton] at hb
      subst hb
      intro e2
      subst e2
      exact hn ((h.mem t ht a).1 ha)
    · rw [setv_ne _ _ e]; exact h.nd t ht
theorem Fit.clear {S : Nat → List It} {R : List It} {σ : It → Nat} (h : Fit S fun x s => x ∈ R ∧ σ x = s) {s : Nat} (hs : s < 64) : Fit (setv S s []) (fun y t => y ∈ R ∧ σ y ≠ s ∧ σ y = t) := by
  refine ⟨fun t ht y => ?_, fun t ht => ?_⟩
  · by_cases e : t = s
    · subst e
      rw [setv_self]; simp only [List.not_mem_nil, false_iff]
      rintro ⟨_, h1, h2⟩; exact h1 h2
    · rw [setv_ne _ _ e, h.mem t ht y]
      exact ⟨fun ⟨a, b⟩ => ⟨a, by rw [b]; exact e, b⟩, fun ⟨a, _, b⟩ => ⟨a, b⟩⟩
  · by_cases e : t = s
    · subst e; rw [setv_self]; simp
    · rw [setv_ne _ _ e]; exact h.nd t ht
theorem Fit.len {S : Nat → List It} {Q : It → Nat → Prop} (h : Fit S Q) {R : List It} (hq : ∀ x s, Q x s → x ∈ R) {s : Nat} (hs : s < 64) : (S s).length ≤ R.length := nodup_sub_len _ _ (h.nd s hs) fun x hx => hq x s ((h.mem s hs x).1 hx)
/-- While a slot is dealt out. -/
def Qd (R L0 : List It) (N s0 : Nat) (σ : It → Nat) (k : Nat) (x : It) (s : Nat) : Prop := (x ∈ R ∧ σ x ≠ s0 ∧ σ x = s) ∨ (x ∈ L0.take k ∧ ix N x.2.1 = s)
theorem qd_next {R L0 : List It} {N s0 : Nat} {σ : It → Nat} {k : Nat} {y : It} (hy : L0[k]? = some y) (x : It) (s : Nat) : (Qd R L0 N s0 σ k x s ∨ (x = y ∧ s = ix N y.2.1)) ↔ Qd R L0 N s0 σ (k + 1) x s := by
  unfold Qd
  rw [takeS hy, List.mem_append]
  simp only [List.mem_singleton]
  constructor
  · rintro ((h | h) | ⟨rfl, rfl⟩)
    · exact .inl h
    · exact .inr ⟨.inl h.1, h.2⟩
    · exact .inr ⟨.inr rfl, rfl⟩
  · rintro (h | ⟨h | rfl, h2⟩)
    · exact .inl (.inl h)
    · exact .inl (.inr ⟨h, h2⟩)
    · exact .inr ⟨rfl, h2.symm⟩
theorem qd_not {R L0 : List It} {N s0 : Nat} {σ : It → Nat} (hL : ∀ x, x ∈ L0 ↔ x ∈ R ∧ σ x = s0) (hn : L0.Nodup) {k : Nat} {y : It} (hy : L0[k]? = some y) (s : Nat) : ¬ Qd R L0 N s0 σ k y s := by
  have hm := mem_of_idx hy
  rintro (⟨_, h, _⟩ | ⟨h, _⟩)
  · exact h ((hL y).1 hm).2
  · obtain ⟨j, hj⟩ := List.mem_iff_getElem?.1 h
    rw [List.getElem?_take] at hj
    split at hj
    · rename_i hlt
      have h1 := List.getElem?_eq_some_iff.1 hj
      have h2 := List.getElem?_eq_some_iff.1 hy
      rw [List.nodup_iff_pairwise_ne, List.pairwise_iff_getElem] at hn
      exact hn j k h1.1 h2.1 hlt (h1.2.trans h2.2.symm)
    · cases hj
theorem qd_all {R L0 : List It} {N s0 : Nat} {σ : It → Nat} (hL : ∀ x, x ∈ L0 ↔ x ∈ R ∧ σ x = s0) (x : It) (s : Nat) : Qd R L0 N s0 σ L0.length x s ↔ x ∈ R ∧ (if σ x = s0 then ix N x.2.1 else σ x) = s := by
  unfold Qd
  rw [List.take_length, hL x]
  split
  · rename_i e
    constructor
    · rintro (⟨_, h, _⟩ | ⟨⟨h, _⟩, h2⟩)
      · exact absurd e h
      · exact ⟨h, h2⟩
    · rintro ⟨h, h2⟩; exact .inr ⟨⟨h, e⟩, h2⟩
  · rename_i e
    constructor
    · rintro (⟨h, _, h2⟩ | ⟨⟨_, h⟩, _⟩)
      · exact ⟨h, h2⟩
      · exact absurd h e
    · rintro ⟨h, h2⟩; exact .inl ⟨h, e, h2⟩
theorem qd_mem {R L0 : List It} {N s0 : Nat} {σ : It → Nat} (hL : ∀ x, x ∈ L0 ↔ x ∈ R ∧ σ x = s0) {k : Nat} {x : It} {s : Nat} (h : Qd R L0 N s0 σ k x s) : x ∈ R := by
  rcases h with h | h
  · exact h.1
  · exact ((hL x).1 (List.mem_of_mem_take h.1)).1
theorem it_get {L : List It} {i : Nat} {a : It} (h : L[i]? = some a) : (L.map it)[i]? = some (it a) := by simp [h]

theorem deal_calls {m : Mem} {r q n N sq : Nat} {v : Nat → V} {S : Nat → List It} {l : List (Int × V)} {g : List Nat × Nat} (hN : N = n + 1) (hL : Lay m r q N sq v S l g) (hn : N < 4611686018427387904) {R : List It} (hF : Fit S fun x s => x ∈ R ∧ ix n x.2.1 = s) (hlt : ∀ x ∈ R, n < x.2.1 ∧ x.2.1 < 4611686018427387904) (hR : R.length ≤ 100000) {K : KV}
    (h : ∀ m' v' S', Lay m' r q N sq v' S' l g → Fit S' (fun x s => x ∈ R ∧ ix N x.2.1 = s) → Stp m m' (fpW r q v) (fpW r q v') → K (.tup []) m') : ACalls Try.prog 22 [.ptr (some (r, 0, 0))] m K := by
  have hlt1 : ∀ x ∈ R, n < x.2.1 := fun x hx => (hlt x hx).1
  refine run_on (ctx_nil _) hm c22 (by simp) fun hf => ?_
  simp (disch := omega) [-getElem?_pos, b22]
  refine exec_loopU (σ := Nat × (Nat → V) × (Nat → List It) × (It → Nat) × Mem) (fun (j, _, _, _, _) => [(2, .int .i64 j)]) (fun (_, _, _, _, M) => M) (fun (j, v', S', σ, M) => j ≤ 3 ∧ Dn R n (j + 1) σ ∧ Fit S' (fun x s => x ∈ R ∧ σ x = s) ∧ Lay M r q N sq v' S' l g ∧ Stp m M (fpW r q v) (fpW r q v')) (fun (j, _, _, _, _) => j) (3, v, S, (fun x => ix n x.2.1), m) rfl
    (by dsimp only; exact ⟨by omega, Dn.start R n, hF, hL, Stp.refl _ _⟩) (by simp) ?_
  clear hL hF
  intro (j, v', S', σ, M) ⟨a1, a2, hF, hL, hS⟩
  obtain ⟨cs, o1, o2⟩ := hL.row
  have e0 := o2.c0
  have el := o2.len
  have f1 : (N : Int).fdiv 16 = ((N / 16 : Nat) : Int) := fdivN N 16
  have f2 : (N : Int).fdiv 256 = ((N / 256 : Nat) : Int) := fdivN N 256
  have f3 : (N : Int).fdiv 4096 = ((N / 4096 : Nat) : Int) := fdivN N 4096
  have w1 : bAnd .i64 ((N : Int) / 16) 15 = (N : Int) / 16 % 16 := by
    have h := and15 (N / 16) (by omega)
    rw [Int.natCast_emod, Int.natCast_ediv] at h
    exact h
  have w2 : bAnd .i64 ((N : Int) / 256) 15 = (N : Int) / 256 % 16 := by
    have h := and15 (N / 256) (by omega)
    rw [Int.natCast_emod, Int.natCast_ediv] at h
    exact h
  have w3 : bAnd .i64 ((N : Int) / 4096) 15 = (N : Int) / 4096 % 16 := by
    have h := and15 (N / 4096) (by omega)
    rw [Int.natCast_emod, Int.natCast_ediv] at h
    exact h
  have y1 := and15 N hn
  have y2 := and255 N hn
  have y3 := and4095 N hn
  simp only [Int.natCast_ediv, Int.natCast_emod] at f1 f2 f3 y1 y2 y3
  have hj : j = 0 ∨ j = 1 ∨ j = 2 ∨ j = 3 := by omega
  rcases hj with rfl | rfl | rfl | rfl
  · simp (disch := omega) [-getElem?_pos]
    have hd := a2.done hlt1
    exact h _ v' S' hL (hF.imp fun x s hs => ⟨fun ⟨a, b⟩ => ⟨a, by rw [hN, ← hd x a]; exact b⟩, fun ⟨a, b⟩ => ⟨a, by rw [hd x a, ← hN]; exact b⟩⟩) hS
  · by_cases hc : N % 16 = 0
    case neg =>
      simp (disch := omega) [-getElem?_pos, o1, e0, el, IntKind.bits, f1, f2, f3, y1, y2, y3]
      exact again_mk (1 - 1, v', S', σ, M) (by dsimp only; exact ⟨by omega, a2.skip hlt1 (l := 1) (c := 16) (by omega) (by rw [← hN]; exact hc), hF, hL, hS⟩) (by dsimp only; omega) (by simp) rfl
    obtain ⟨t, ht⟩ : ∃ t, N / 16 % 16 = t := ⟨_, rfl⟩
    have ht2 : ((N : Int) / 16 % 16).toNat = t := by omega
    have hs : 16 + t < 64 := by omega
    have ev : cs[18 + t]? = some (v' (16 + t)) := by have := o2.cv (16 + t) hs; rwa [show 2 + (16 + t) = 18 + t by omega] at this
    have hO := hL.sl (16 + t) hs
    have hLm := hF.mem (16 + t) hs
    have hLn := hF.nd (16 + t) hs
    have hv := hO.sl.lenSl
    have hll := hF.len (fun x s h => h.1) hs
    have hcc := o2.slot hs (.sl none 0 (some 0))
    rw [show 2 + (16 + t) = 18 + t by omega] at hcc
    have hst := hL.setSlot (m' := M) hs (L := []) (Ows.nil _ _) ⟨Nat.le_refl _, fun p hp _ => rfl, fun p hp => by simp [V.fp] at hp⟩ hcc
    have hF1 := hF.clear hs
    have hnf : ∀ p ∈ fpW r q (setv v' (16 + t) (.sl none 0 (some 0))), p ∉ (v' (16 + t)).fp := fun p hp hq => by
      rcases mem_fpW.1 hp with rfl | rfl | ⟨a, ha, hp⟩
      · exact (hL.nr _ hs).1 hq
      · exact (hL.nr _ hs).2 hq
      · by_cases e : a = 16 + t
        · subst e; rw [setv_self] at hp; simp [V.fp] at hp
        · rw [setv_ne _ _ e] at hp; exact hL.dj a _ ha hs e p hp hq
    have hO1 : Ows (M.upd r (some (.row 67 [cs.set (18 + t) (.sl none 0 (some 0))] true))) 3 (v' (16 + t)) ((S' (16 + t)).map it) := hO.keep (by simp) fun p hp => by rw [updO _ (fun e => (hL.nr _ hs).1 (by rw [← e]; exact hp))]
    obtain ⟨L0, hL0⟩ : ∃ L0, S' (16 + t) = L0 := ⟨_, rfl⟩
    rw [hL0] at hO hLm hLn hv hll hO1
    rw [List.length_map] at hv
    obtain ⟨nn, hnn⟩ : ∃ nn, L0.length = nn := ⟨_, rfl⟩
    rw [hnn] at hv hll
    have hqa := qd_all (N := N) hLm
    rw [hnn] at hqa
    simp (disch := omega) [-getElem?_pos, o1, e0, el, IntKind.bits, f1, f2, f3, y1, y2, y3, w1, w2, w3, ht2, ev, spl, hv]
    obtain ⟨hL1, hS1⟩ := hst
    replace hS1 := hS.trans hS1
    generalize hv1 : setv v' (16 + t) (.sl none 0 (some 0)) = v1 at *
    generalize M.upd r (some (.row 67 [cs.set (18 + t) (.sl none 0 (some 0))] true)) = M1 at *
    generalize setv S' (16 + t) [] = S1 at *
    refine exec_loopU (σ := Nat × (Nat → V) × (Nat → List It) × Mem) (fun (k, _, _, _) => [(44, .int .i64 k)]) (fun (_, _, _, M) => M) (fun (k, v2, S2, M) => k ≤ nn ∧ Fit S2 (Qd R L0 N (16 + t) σ k) ∧ Lay M r q N sq v2 S2 l g ∧ Stp M1 M (fpW r q v1) (fpW r q v2)) (fun (k, _, _, _) => nn - k) (0, v1, S1, M1) rfl
      (by dsimp only; exact ⟨by omega, hF1.imp fun x s hs => by unfold Qd; simp, hL1, Stp.refl _ _⟩) (by simp) ?_
    intro (k, v2, S2, M2) ⟨b1, b2, b3, b4⟩
    by_cases hk : k < nn
    case neg =>
      have : k = nn := by omega
      subst this
      simp (disch := omega) [-getElem?_pos]
      exact again_mk (1 - 1, v2, S2, (fun x => if σ x = 16 + t then ix N x.2.1 else σ x), M2) (by
        dsimp only
        refine ⟨by omega, ?_, b2.imp fun x s hs => hqa x s, b3, hS1.trans b4⟩
        have := a2.deal hlt1 (l := 1) (c := 16) (by omega)
        rw [← hN, ht] at this
        exact this) (by dsimp only; omega) (by simp) rfl
    obtain ⟨x, hx⟩ : ∃ x, L0[k]? = some x := ⟨_, List.getElem?_eq_getElem (by omega)⟩
    have hxR := ((hLm x).1 (mem_of_idx hx)).1
    have hO2 := hO1.step b4 hnf
    obtain ⟨p, c, full, rw, z1, z2, z3, z4, _⟩ := hO2.sl.at (it_get hx) .i64
    simp only [it] at z4
    have gS := Mem.Grew.new M2 (.row 3 [[.int .i64 x.1, .int .i64 x.2.1, .int .i64 x.2.2]] true)
    have hln : ∀ s, s < 64 → (S2 s).length ≤ 100000 := fun s hs => by have := b2.len (fun x s h => qd_mem hLm h) hs; omega
    simp (disch := omega) [-getElem?_pos, z1, z3, z4]
    refine lay_calls (x := x) (b3.grow gS) hn (hlt x hxR).2 hln fun m' u c1 c2 => ?_
    simp (disch := omega) [-getElem?_pos]
    exact again_mk (k + 1, _, _, m') (by dsimp only; exact ⟨by omega, (b2.lay (ix_lt N x.2.1) (qd_not hLm hLn hx _)).imp fun y s hs => qd_next hx y s, c1, b4.trans ((Stp.grow gS _).trans c2)⟩) (by dsimp only; omega) (by simp) rfl
  · by_cases hc : N % 256 = 0
    case neg =>
      simp (disch := omega) [-getElem?_pos, o1, e0, el, IntKind.bits, f1, f2, f3, y1, y2, y3]
      exact again_mk (2 - 1, v', S', σ, M) (by dsimp only; exact ⟨by omega, a2.skip hlt1 (l := 2) (c := 256) (by omega) (by rw [← hN]; exact hc), hF, hL, hS⟩) (by dsimp only; omega) (by simp) rfl
    obtain ⟨t, ht⟩ : ∃ t, N / 256 % 16 = t := ⟨_, rfl⟩
    have ht2 : ((N : Int) / 256 % 16).toNat = t := by omega
    have hs : 32 + t < 64 := by omega
    have ev : cs[34 + t]? = some (v' (32 + t)) := by have := o2.cv (32 + t) hs; rwa [show 2 + (32 + t) = 34 + t by omega] at this
    have hO := hL.sl (32 + t) hs
    have hLm := hF.mem (32 + t) hs
    have hLn := hF.nd (32 + t) hs
    have hv := hO.sl.lenSl
    have hll := hF.len (fun x s h => h.1) hs
    have hcc := o2.slot hs (.sl none 0 (some 0))
    rw [show 2 + (32 + t) = 34 + t by omega] at hcc
    have hst := hL.setSlot (m' := M) hs (L := []) (Ows.nil _ _) ⟨Nat.le_refl _, fun p hp _ => rfl, fun p hp => by simp [V.fp] at hp⟩ hcc
    have hF1 := hF.clear hs
    have hnf : ∀ p ∈ fpW r q (setv v' (32 + t) (.sl none 0 (some 0))), p ∉ (v' (32 + t)).fp := fun p hp hq => by
      rcases mem_fpW.1 hp with rfl | rfl | ⟨a, ha, hp⟩
      · exact (hL.nr _ hs).1 hq
      · exact (hL.nr _ hs).2 hq
      · by_cases e : a = 32 + t
        · subst e; rw [setv_self] at hp; simp [V.fp] at hp
        · rw [setv_ne _ _ e] at hp; exact hL.dj a _ ha hs e p hp hq
    have hO1 : Ows (M.upd r (some (.row 67 [cs.set (34 + t) (.sl none 0 (some 0))] true))) 3 (v' (32 + t)) ((S' (32 + t)).map it) := hO.keep (by simp) fun p hp => by rw [updO _ (fun e => (hL.nr _ hs).1 (by rw [← e]; exact hp))]
    obtain ⟨L0, hL0⟩ : ∃ L0, S' (32 + t) = L0 := ⟨_, rfl⟩
    rw [hL0] at hO hLm hLn hv hll hO1
    rw [List.length_map] at hv
    obtain ⟨nn, hnn⟩ : ∃ nn, L0.length = nn := ⟨_, rfl⟩
    rw [hnn] at hv hll
    have hqa := qd_all (N := N) hLm
    rw [hnn] at hqa
    simp (disch := omega) [-getElem?_pos, o1, e0, el, IntKind.bits, f1, f2, f3, y1, y2, y3, w1, w2, w3, ht2, ev, spl, hv]
    obtain ⟨hL1, hS1⟩ := hst
    replace hS1 := hS.trans hS1
    generalize hv1 : setv v' (32 + t) (.sl none 0 (some 0)) = v1 at *
    generalize M.upd r (some (.row 67 [cs.set (34 + t) (.sl none 0 (some 0))] true)) = M1 at *
    generalize setv S' (32 + t) [] = S1 at *
    refine exec_loopU (σ := Nat × (Nat → V) × (Nat → List It) × Mem) (fun (k, _, _, _) => [(44, .int .i64 k)]) (fun (_, _, _, M) => M) (fun (k, v2, S2, M) => k ≤ nn ∧ Fit S2 (Qd R L0 N (32 + t) σ k) ∧ Lay M r q N sq v2 S2 l g ∧ Stp M1 M (fpW r q v1) (fpW r q v2)) (fun (k, _, _, _) => nn - k) (0, v1, S1, M1) rfl
      (by dsimp only; exact ⟨by omega, hF1.imp fun x s hs => by unfold Qd; simp, hL1, Stp.refl _ _⟩) (by simp) ?_
    intro (k, v2, S2, M2) ⟨b1, b2, b3, b4⟩
    by_cases hk : k < nn
    case neg =>
      have : k = nn := by omega
      subst this
      simp (disch := omega) [-getElem?_pos]
      exact again_mk (2 - 1, v2, S2, (fun x => if σ x = 32 + t then ix N x.2.1 else σ x), M2) (by
        dsimp only
        refine ⟨by omega, ?_, b2.imp fun x s hs => hqa x s, b3, hS1.trans b4⟩
        have := a2.deal hlt1 (l := 2) (c := 256) (by omega)
        rw [← hN, ht] at this
        exact this) (by dsimp only; omega) (by simp) rfl
    obtain ⟨x, hx⟩ : ∃ x, L0[k]? = some x := ⟨_, List.getElem?_eq_getElem (by omega)⟩
    have hxR := ((hLm x).1 (mem_of_idx hx)).1
    have hO2 := hO1.step b4 hnf
    obtain ⟨p, c, full, rw, z1, z2, z3, z4, _⟩ := hO2.sl.at (it_get hx) .i64
    simp only [it] at z4
    have gS := Mem.Grew.new M2 (.row 3 [[.int .i64 x.1, .int .i64 x.2.1, .int .i64 x.2.2]] true)
    have hln : ∀ s, s < 64 → (S2 s).length ≤ 100000 := fun s hs => by have := b2.len (fun x s h => qd_mem hLm h) hs; omega
    simp (disch := omega) [-getElem?_pos, z1, z3, z4]
    refine lay_calls (x := x) (b3.grow gS) hn (hlt x hxR).2 hln fun m' u c1 c2 => ?_
    simp (disch := omega) [-getElem?_pos]
    exact again_mk (k + 1, _, _, m') (by dsimp only; exact ⟨by omega, (b2.lay (ix_lt N x.2.1) (qd_not hLm hLn hx _)).imp fun y s hs => qd_next hx y s, c1, b4.trans ((Stp.grow gS _).trans c2)⟩) (by dsimp only; omega) (by simp) rfl
  · by_cases hc : N % 4096 = 0
    case neg =>
      simp (disch := omega) [-getElem?_pos, o1, e0, el, IntKind.bits, f1, f2, f3, y1, y2, y3]
      exact again_mk (3 - 1, v', S', σ, M) (by dsimp only; exact ⟨by omega, a2.skip hlt1 (l := 3) (c := 4096) (by omega) (by rw [← hN]; exact hc), hF, hL, hS⟩) (by dsimp only; omega) (by simp) rfl
    obtain ⟨t, ht⟩ : ∃ t, N / 4096 % 16 = t := ⟨_, rfl⟩
    have ht2 : ((N : Int) / 4096 % 16).toNat = t := by omega
    have hs : 48 + t < 64 := by omega
    have ev : cs[50 + t]? = some (v' (48 + t)) := by have := o2.cv (48 + t) hs; rwa [show 2 + (48 + t) = 50 + t by omega] at this
    have hO := hL.sl (48 + t) hs
    have hLm := hF.mem (48 + t) hs
    have hLn := hF.nd (48 + t) hs
    have hv := hO.sl.lenSl
    have hll := hF.len (fun x s h => h.1) hs
    have hcc := o2.slot hs (.sl none 0 (some 0))
    rw [show 2 + (48 + t) = 50 + t by omega] at hcc
    have hst := hL.setSlot (m' := M) hs (L := []) (Ows.nil _ _) ⟨Nat.le_refl _, fun p hp _ => rfl, fun p hp => by simp [V.fp] at hp⟩ hcc
    have hF1 := hF.clear hs
    have hnf : ∀ p ∈ fpW r q (setv v' (48 + t) (.sl none 0 (some 0))), p ∉ (v' (48 + t)).fp := fun p hp hq => by
      rcases mem_fpW.1 hp with rfl | rfl | ⟨a, ha, hp⟩
      · exact (hL.nr _ hs).1 hq
      · exact (hL.nr _ hs).2 hq
      · by_cases e : a = 48 + t
        · subst e; rw [setv_self] at hp; simp [V.fp] at hp
        · rw [setv_ne _ _ e] at hp; exact hL.dj a _ ha hs e p hp hq
    have hO1 : Ows (M.upd r (some (.row 67 [cs.set (50 + t) (.sl none 0 (some 0))] true))) 3 (v' (48 + t)) ((S' (48 + t)).map it) := hO.keep (by simp) fun p hp => by rw [updO _ (fun e => (hL.nr _ hs).1 (by rw [← e]; exact hp))]
    obtain ⟨L0, hL0⟩ : ∃ L0, S' (48 + t) = L0 := ⟨_, rfl⟩
    rw [hL0] at hO hLm hLn hv hll hO1
    rw [List.length_map] at hv
    obtain ⟨nn, hnn⟩ : ∃ nn, L0.length = nn := ⟨_, rfl⟩
    rw [hnn] at hv hll
    have hqa := qd_all (N := N) hLm
    rw [hnn] at hqa
    simp (disch := omega) [-getElem?_pos, o1, e0, el, IntKind.bits, f1, f2, f3, y1, y2, y3, w1, w2, w3, ht2, ev, spl, hv]
    obtain ⟨hL1, hS1⟩ := hst
    replace hS1 := hS.trans hS1
    generalize hv1 : setv v' (48 + t) (.sl none 0 (some 0)) = v1 at *
    generalize M.upd r (some (.row 67 [cs.set (50 + t) (.sl none 0 (some 0))] true)) = M1 at *
    generalize setv S' (48 + t) [] = S1 at *
    refine exec_loopU (σ := Nat × (Nat → V) × (Nat → List It) × Mem) (fun (k, _, _, _) => [(44, .int .i64 k)]) (fun (_, _, _, M) => M) (fun (k, v2, S2, M) => k ≤ nn ∧ Fit S2 (Qd R L0 N (48 + t) σ k) ∧ Lay M r q N sq v2 S2 l g ∧ Stp M1 M (fpW r q v1) (fpW r q v2)) (fun (k, _, _, _) => nn - k) (0, v1, S1, M1) rfl
      (by dsimp only; exact ⟨by omega, hF1.imp fun x s hs => by unfold Qd; simp, hL1, Stp.refl _ _⟩) (by simp) ?_
    intro (k, v2, S2, M2) ⟨b1, b2, b3, b4⟩
    by_cases hk : k < nn
    case neg =>
      have : k = nn := by omega
      subst this
      simp (disch := omega) [-getElem?_pos]
      exact again_mk (3 - 1, v2, S2, (fun x => if σ x = 48 + t then ix N x.2.1 else σ x), M2) (by
        dsimp only
        refine ⟨by omega, ?_, b2.imp fun x s hs => hqa x s, b3, hS1.trans b4⟩
        have := a2.deal hlt1 (l := 3) (c := 4096) (by omega)
        rw [← hN, ht] at this
        exact this) (by dsimp only; omega) (by simp) rfl
    obtain ⟨x, hx⟩ : ∃ x, L0[k]? = some x := ⟨_, List.getElem?_eq_getElem (by omega)⟩
    have hxR := ((hLm x).1 (mem_of_idx hx)).1
    have hO2 := hO1.step b4 hnf
    obtain ⟨p, c, full, rw, z1, z2, z3, z4, _⟩ := hO2.sl.at (it_get hx) .i64
    simp only [it] at z4
    have gS := Mem.Grew.new M2 (.row 3 [[.int .i64 x.1, .int .i64 x.2.1, .int .i64 x.2.2]] true)
    have hln : ∀ s, s < 64 → (S2 s).length ≤ 100000 := fun s hs => by have := b2.len (fun x s h => qd_mem hLm h) hs; omega
    simp (disch := omega) [-getElem?_pos, z1, z3, z4]
    refine lay_calls (x := x) (b3.grow gS) hn (hlt x hxR).2 hln fun m' u c1 c2 => ?_
    simp (disch := omega) [-getElem?_pos]
    exact again_mk (k + 1, _, _, m') (by dsimp only; exact ⟨by omega, (b2.lay (ix_lt N x.2.1) (qd_not hLm hLn hx _)).imp fun y s hs => qd_next hx y s, c1, b4.trans ((Stp.grow gS _).trans c2)⟩) (by dsimp only; omega) (by simp) rfl
end Go.Proofs.Ytkpdpdpilggcfaa
