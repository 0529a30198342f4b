/-
  LEASEALONE, of what the functions of this seat do.
-/
import Derived.Test.YtdblhiebjccbaaaIx
namespace Go.Proofs.Ytdblhiebjccbaaa
open Go Go.AM
set_option linter.unusedVariables false
set_option linter.unusedSimpArgs false
set_option maxRecDepth 8000
set_option maxHeartbeats 4000000

/-- A desk of whose things only one was ever asked for. -/
structure St9 (D : Dk) (g now who en tok : Int) (k : Nat) : Prop where
  gr : D.grace = g
  g0 : 0 ≤ g ∧ g ≤ 255
  nw : D.now ≤ now
  n0 : 0 ≤ now ∧ now ≤ 7 * k
  st : (D.g 9 = true ∧ who = 0 ∧ en = 0 ∧ tok = 0 ∧ D.h 9 = ⟨0, 0, 0⟩) ∨ (D.g 9 = false ∧ 1 ≤ who ∧ who ≤ 4 ∧ D.h 9 = ⟨who, tok, en⟩ ∧ 1 ≤ tok ∧ tok ≤ k ∧ 0 ≤ en ∧ en ≤ 7 * k + 16)

theorem take_busy {D T : Dk} {now who long : Int} {i : Nat} (h : D.tick now = T) (hb : T.held i = true ∨ (T.g i = false ∧ (T.h i).who ≠ who ∧ subT T.now (T.h i).en < T.grace)) : D.take now i who long = (T, hd0, 9) := by
  subst h; exact if_pos hb
theorem take_free {D T : Dk} {now who long : Int} {i : Nat} (h : D.tick now = T) (hb : ¬ (T.held i = true ∨ (T.g i = false ∧ (T.h i).who ≠ who ∧ subT T.now (T.h i).en < T.grace))) :
    D.take now i who long = (⟨T.grace, T.now, fun j => if j = i then ⟨who, (T.h i).tok + 1, addT T.now long⟩ else T.h j, fun j => if j = i then false else T.g j⟩, ⟨who, (T.h i).tok + 1, addT T.now long⟩, 0) := by
  subst h; exact if_neg hb

theorem St9.take {D : Dk} {g now who en tok : Int} {k : Nat} (h : St9 D g now who en tok k) (hk : k ≤ 1000) {d next long : Int} (hd : 0 ≤ d ∧ d ≤ 7) (hn : 1 ≤ next ∧ next ≤ 4) (hl : 1 ≤ long ∧ long ≤ 16) :
    (∃ D1, D.take (now + d) 9 next long = (D1, hd0, 9) ∧ St9 D1 g (now + d) who en tok (k + 1) ∧ D1.now = now + d) ∨
    (∃ D1, D.take (now + d) 9 next long = (D1, ⟨next, tok + 1, now + d + long⟩, 0) ∧ St9 D1 g (now + d) next (now + d + long) (tok + 1) (k + 1) ∧ D1.now = now + d ∧ en ≤ now + d ∧ (who = 0 ∨ next = who ∨ en + g ≤ now + d)) := by
  obtain ⟨gr, g0, nw, n0, st⟩ := h
  have et : D.tick (now + d) = ⟨D.grace, now + d, D.h, D.g⟩ := by
    simp only [Dk.tick, Dk.mk.injEq, true_and, and_true]
    rw [cl_id (by omega) (by omega)]; omega
  have ea : addT (now + d) long = now + d + long := by
    unfold addT; rw [if_neg (by omega), cl_id (t := now + d) (by omega) (by omega), cl_id (t := long) (by omega) (by omega), cl_id (by omega) (by omega)]
  have eh : (⟨D.grace, now + d, D.h, D.g⟩ : Dk).held 9 = (!D.g 9 && decide (now + d < (D.h 9).en)) := rfl
  rcases st with ⟨s1, rfl, rfl, rfl, s5⟩ | ⟨s1, s2, s3, s4, s5, s6, s7, s8⟩
  · right
    have hf : ¬ ((⟨D.grace, now + d, D.h, D.g⟩ : Dk).held 9 = true ∨ (D.g 9 = false ∧ (D.h 9).who ≠ next ∧ subT (now + d) (D.h 9).en < D.grace)) := by rw [eh, s1]; simp
    rw [take_free et hf]
    dsimp only
    rw [ea, s5]
    exact ⟨_, rfl, ⟨gr, g0, Int.le_refl _, ⟨by omega, by omega⟩, .inr ⟨by simp, by omega, by omega, by simp, by omega, by omega, by omega, by omega⟩⟩, rfl, by omega, .inl rfl⟩
  · have es : subT (now + d) en = now + d - en := by
      unfold subT; rw [if_neg (by omega), cl_id (t := now + d) (by omega) (by omega), cl_id (t := en) (by omega) (by omega), cl_id (by omega) (by omega)]
    by_cases hb : now + d < en ∨ (who ≠ next ∧ now + d - en < g)
    · left
      have hf : (⟨D.grace, now + d, D.h, D.g⟩ : Dk).held 9 = true ∨ (D.g 9 = false ∧ (D.h 9).who ≠ next ∧ subT (now + d) (D.h 9).en < D.grace) := by
        rw [eh, s1, s4, gr]; dsimp only; rw [es]
        rcases hb with hb | hb
        · left; simpa using hb
        · right; exact ⟨rfl, hb⟩
      rw [take_busy et hf]
      exact ⟨_, rfl, ⟨gr, g0, Int.le_refl _, ⟨by omega, by omega⟩, .inr ⟨s1, s2, s3, s4, s5, by omega, s7, by omega⟩⟩, rfl⟩
    · right
      have h1 : ¬ now + d < en := fun h => hb (.inl h)
      have h2 : ¬ (who ≠ next ∧ now + d - en < g) := fun h => hb (.inr h)
      have hf : ¬ ((⟨D.grace, now + d, D.h, D.g⟩ : Dk).held 9 = true ∨ (D.g 9 = false ∧ (D.h 9).who ≠ next ∧ subT (now + d) (D.h 9).en < D.grace)) := by
        rw [eh, s1, s4, gr]; dsimp only; rw [es]
        rintro (h | ⟨_, h⟩)
        · exact h1 (by simpa using h)
        · exact h2 h
      rw [take_free et hf]
      dsimp only
      rw [ea, s4]
      refine ⟨_, rfl, ⟨gr, g0, Int.le_refl _, ⟨by omega, by omega⟩, .inr ⟨by simp, by omega, by omega, by simp, by omega, by omega, by omega, by omega⟩⟩, rfl, by omega, ?_⟩
      by_cases hw : next = who
      · exact .inr (.inl hw)
      · exact .inr (.inr (by have := fun q => h2 ⟨fun e => hw e.symm, q⟩; omega))

theorem St9.see {D : Dk} {g now who en tok : Int} {k : Nat} (h : St9 D g now who en tok k) (hk : k ≤ 1000) (hn : D.now = now) : D.tick now = D ∧ D.held 9 = decide (now < en) ∧ (now < en → D.h 9 = ⟨who, tok, en⟩) := by
  obtain ⟨gr, g0, nw, n0, st⟩ := h
  refine ⟨?_, ?_, fun hlt => ?_⟩
  · simp only [Dk.tick]
    rw [cl_id (by omega) (by omega), hn, Int.max_self, ← hn]
  · unfold Dk.held
    rw [hn]
    rcases st with ⟨s1, rfl, rfl, rfl, s5⟩ | ⟨s1, s2, s3, s4, s5, s6, s7, s8⟩
    · rw [s1, s5]; dsimp only; rw [decide_eq_false (by omega)]; rfl
    · rw [s1, s4]; rfl
  · rcases st with ⟨s1, rfl, rfl, rfl, s5⟩ | ⟨s1, s2, s3, s4, s5, s6, s7, s8⟩
    · omega
    · exact s4

theorem alone (m0 : Mem) (x0 x1' : V) (h0 : IsV m0 (.int .u8) x0) (h1 : IsV m0 (.slice 1 (.int .u16)) x1') : ACalls Try.prog 4 [x0, x1'] m0 (fun r _ => r = .bool true) := by
  obtain ⟨t, rfl, hwt⟩ := h0.int
  replace hwt := wf_u8 hwt
  refine run_on (ctx_nil _) hm c4 (by simp) fun hf => ?_
  obtain ⟨zs, hv, hml, hwf⟩ := h1.slI hf
  obtain ⟨N, hN, hv1⟩ := len1 hv
  simp (disch := omega) [b4]
  refine fixed_calls fun m1 g1 => ?_
  by_cases hl : (150 : Int) < N
  · simp (disch := omega) [hv1]
  simp (disch := omega) [hv1]
  refine new_calls (by omega) fun r m2 hD hr g2 => ?_
  simp (disch := omega) [hv1]
  have hz : ∀ k, k < N → 0 ≤ nth zs k ∧ nth zs k ≤ 65535 := fun k hk => by have := wf_u16 (hwf _ (nth_mem (show k < zs.length by omega))); omega
  refine exec_loopU (σ := Nat × Int × Int × Int × Int × Dk × Mem) (fun (i, now, who, en, tok, _, _) => [(6, .int .i64 now), (7, .int .i64 who), (8, .int .i64 en), (9, .int .i64 tok), (27, .int .i64 i)]) (fun (_, _, _, _, _, _, M) => M)
    (fun (i, now, who, en, tok, D, M) => i ≤ N ∧ Desk M r D ∧ m0.Grew M ∧ St9 D t now who en tok i) (fun (i, _, _, _, _, _, _) => N - i) (0, 0, 0, 0, 0, Dk.new t, m2) rfl
    (by dsimp only; exact ⟨by omega, hD, g1.trans g2, rfl, by omega, by simp [Dk.new], by omega, .inl ⟨rfl, rfl, rfl, rfl, rfl⟩⟩) (by simp) ?_
  intro (i, now, who, en, tok, D, M) ⟨a1, a2, a3, a4⟩
  by_cases hi : i < N
  · obtain ⟨p, q, full, rw, b1, b2, b3, b4⟩ := at1 (hv.grow a3) (y := i) (by omega)
    have hzi := hz i hi
    obtain ⟨y, hy⟩ : ∃ y, nth zs i = y := ⟨_, rfl⟩
    rw [hy] at b4 hzi
    have hq : ∀ a b : Int, 0 ≤ a → a.tdiv b = a / b := fun a b h => Int.tdiv_eq_ediv_of_nonneg h
    have hmm : ∀ a b : Int, 0 ≤ a → a.tmod b = a % b := fun a b h => Int.tmod_eq_emod_of_nonneg h
    have e1 : y.tmod 8 = y % 8 := hmm _ _ hzi.1
    have e2 : (y.tdiv 8) = y / 8 := hq _ _ hzi.1
    have e3 : (y / 8).tmod 4 = y / 8 % 4 := hmm _ _ (by omega)
    have e4 : (y.tdiv 32) = y / 32 := hq _ _ hzi.1
    have e5 : (y / 32).tmod 16 = y / 32 % 16 := hmm _ _ (by omega)
    obtain ⟨d, hd⟩ : ∃ d, y % 8 = d := ⟨_, rfl⟩
    obtain ⟨nx, hnx⟩ : ∃ d, y / 8 % 4 = d := ⟨_, rfl⟩
    obtain ⟨lo, hlo⟩ : ∃ d, y / 32 % 16 = d := ⟨_, rfl⟩
    have hb : 0 ≤ d ∧ d ≤ 7 ∧ 0 ≤ nx ∧ nx ≤ 3 ∧ 0 ≤ lo ∧ lo ≤ 15 := by omega
    have hy8 : 0 ≤ y / 8 ∧ y / 8 ≤ 65535 ∧ 0 ≤ y / 32 ∧ y / 32 ≤ 65535 := by omega
    have hn0 := a4.n0
    have key := a4.take (by omega) (d := d) (next := 1 + nx) (long := 1 + lo) (by omega) (by omega) (by omega)
    have htok : -9223372036854775808 ≤ (D.h 9).tok ∧ (D.h 9).tok < 9223372036854775807 := by
      rcases a4.st with ⟨s1, rfl, rfl, rfl, s5⟩ | ⟨s1, s2, s3, s4, s5, s6, s7, s8⟩
      · rw [s5]; dsimp only; omega
      · rw [s4]; dsimp only; omega
    simp (disch := omega) [-getElem?_pos, b1, b3, b4, e1, e2, e3, e4, e5, hd, hnx, hlo]
    refine take_calls (i := 9) a2 (by omega) (by omega) (by omega) (by omega) htok fun M1 hM1 sM1 => ?_
    have g3 : m0.Grew M1 := sM1.toGrew a3 (by have := g1.next; simp; omega)
    rcases key with ⟨D1, k1, k2, k3⟩ | ⟨D1, k1, k2, k3, k4, k5⟩
    · rw [k1] at hM1 ⊢
      dsimp only at hM1 ⊢
      simp (disch := omega) [-getElem?_pos, hd0, Hd.v, Hd.cs]
      have n1 := hM1.new1 (.row 3 [[.int .i64 0, .int .i64 0, .int .i64 0]] true)
      have g4 := g3.trans (Mem.Grew.new M1 (.row 3 [[.int .i64 0, .int .i64 0, .int .i64 0]] true))
      obtain ⟨t1, t2, t3⟩ := k2.see (by omega) k3
      refine of_calls (i := 9) n1 (by omega) fun M2 hM2 sM2 => ?_
      have g5 := sM2.toGrew g4 (by have := g1.next; simp; omega)
      rw [t1] at hM2 ⊢
      by_cases hh : now + d < en
      · rw [decide_eq_true hh] at t2
        rw [see_held t2, t2, t3 hh]
        simp (disch := omega) [-getElem?_pos, Hd.v, Hd.cs]
        refine again_mk (i + 1, now + d, who, en, tok, D1, _) ?_ (by dsimp only; omega) (by simp) rfl
        dsimp only
        exact ⟨by omega, hM2.new1 _, g5.trans (Mem.Grew.new _ _), k2⟩
      · rw [decide_eq_false hh] at t2
        rw [see_not t2, t2]
        simp (disch := omega) [-getElem?_pos, hd0, Hd.v, Hd.cs]
        refine again_mk (i + 1, now + d, who, en, tok, D1, _) ?_ (by dsimp only; omega) (by simp) rfl
        dsimp only
        exact ⟨by omega, hM2.new1 _, g5.trans (Mem.Grew.new _ _), k2⟩
    · rw [k1] at hM1 ⊢
      dsimp only at hM1 ⊢
      have n1 := hM1.new1 (.row 3 [[.int .i64 (1 + nx), .int .i64 (tok + 1), .int .i64 (now + d + (1 + lo))]] true)
      have g4 := g3.trans (Mem.Grew.new M1 (.row 3 [[.int .i64 (1 + nx), .int .i64 (tok + 1), .int .i64 (now + d + (1 + lo))]] true))
      obtain ⟨t1, t2, t3⟩ := k2.see (by omega) k3
      have htk : -9223372036854775808 ≤ tok ∧ tok < 1000 := by
        rcases a4.st with ⟨s1, rfl, rfl, rfl, s5⟩ | ⟨s1, s2, s3, s4, s5, s6, s7, s8⟩ <;> omega
      have hen : 0 ≤ en ∧ en ≤ 10000 := by
        rcases a4.st with ⟨s1, rfl, rfl, rfl, s5⟩ | ⟨s1, s2, s3, s4, s5, s6, s7, s8⟩ <;> omega
      by_cases hw0 : who = 0
      case' pos => simp (disch := omega) [-getElem?_pos, Hd.v, Hd.cs]
      case' neg =>
        by_cases hw1 : 1 + nx = who
        case' neg => 
          have hw2 : ¬ now + d < en + t := by omega
          simp (disch := omega) [-getElem?_pos, Hd.v, Hd.cs]
        case' pos => simp (disch := omega) [-getElem?_pos, Hd.v, Hd.cs]
      all_goals
        refine of_calls (i := 9) n1 (by omega) fun M2 hM2 sM2 => ?_
        have g5 := sM2.toGrew g4 (by have := g1.next; simp; omega)
        rw [t1] at hM2 ⊢
        have hh : now + d < now + d + (1 + lo) := by omega
        rw [decide_eq_true hh] at t2
        rw [see_held t2, t2, t3 hh]
        simp (disch := omega) [-getElem?_pos, Hd.v, Hd.cs]
        refine again_mk (i + 1, now + d, 1 + nx, now + d + (1 + lo), tok + 1, D1, _) ?_ (by dsimp only; omega) (by simp) rfl
        dsimp only
        exact ⟨by omega, hM2.new1 _, g5.trans (Mem.Grew.new _ _), k2⟩
  · have : i = N := by omega
    subst this
    simp (disch := omega)
end Go.Proofs.Ytdblhiebjccbaaa
