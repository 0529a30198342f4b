/-
  THE STATEMENTS of this seat, of what its functions compute.
-/
import Derived.Test.YthmnfbgcjaoncaaFx
import Derived.Test.YthmnfbgcjaoncaaAm16
namespace Go.Proofs.Ythmnfbgcjaoncaa
open Go Go.AM
set_option linter.unusedVariables false

abbrev L5 : List (FuncId × AFn) := (6, F6) :: (8, F8) :: (9, F9) :: (11, F11) :: (10, F10) :: L4
theorem x5 : CtxOk Try.prog (Ctx.of L5) := ctx_cons (ctx_cons (ctx_cons (ctx_cons (ctx_cons x4 s10) s11) s9) s8) s6

/-- The facts. -/
def F5 : AFn
  | [], m => some (.bool true, m)
  | _, _ => none
theorem s5 : ASpec Try.prog 5 F5 := by
  intro args m r m' h
  unfold F5 at h; split at h <;> cases h
  exact ACalls.of_empty rfl rfl (run_calls x5 hm c5 (by simp) (of_rfl (a := V.bool true) (by kernel_rfl))) _

abbrev L6 : List (FuncId × AFn) := (5, F5) :: L5
theorem x6 : CtxOk Try.prog (Ctx.of L6) := ctx_cons x5 s5

theorem sub_small {a b : Int} (h : -1000000000000 ≤ a ∧ a ≤ 1000000000000) (k : -1000000000000 ≤ b ∧ b ≤ 1000000000000) : subZ a b = a - b := by
  unfold subZ clampZ; rw [if_neg (by omega)]; omega
theorem add_small {a b : Int} (h : -1000000000000 ≤ a ∧ a ≤ 1000000000000) (k : -1000000000000 ≤ b ∧ b ≤ 1000000000000) : addZ a b = a + b := by
  unfold addZ clampZ; rw [if_neg (by omega)]; omega
theorem clamp_small {a : Int} (h : -4611686018427387903 ≤ a ∧ a ≤ 4611686018427387903) : clampZ a = a := by unfold clampZ; omega

theorem early_small {s t n : Int} (h : 0 ≤ t ∧ t ≤ 100000000000) (k : 0 ≤ s ∧ s ≤ 100000) (l : -100000000000 ≤ n ∧ n ≤ 100000000000) : earlyZ s t n = max (t - s - n) 0 := by
  unfold earlyZ; rw [sub_small (a := t) (by omega) (by omega), sub_small (by omega) (by omega)]

theorem waits (gap slack : Int) (hg : 0 ≤ gap ∧ gap ≤ 65535) (hs : 0 ≤ slack ∧ slack ≤ 65535) (zs : List Int) (hz : ∀ z ∈ zs, 0 ≤ z ∧ z ≤ 255) (a : Option (Nat × Nat × Nat)) (c : Option Nat) (ha : zs ≠ [] → a = some (0, 0, 1)) :
    ACalls Try.prog 4 [.int .u16 gap, .int .u16 slack, .sl a zs.length c] (Mem.empty.arg 1 (zs.map fun z => [.int .u8 z])) (fun r _ => r = .bool true) := by
  refine run_calls x6 hm c4 (by simp) ?_
  generalize hM : Mem.empty.arg 1 (zs.map fun z => [.int .u8 z]) = m0
  have hn : m0.next = 1 := by subst hM; rfl
  have ho : zs ≠ [] → m0.obj 0 = some (.row 1 (zs.map fun z => [.int .u8 z]) false) := by intro h; subst hM; simp [Mem.arg, Mem.empty, h]
  by_cases hl : (100 : Int) < zs.length
  · simp [b4, F5, hl]
  have hF : F6 [.int .i64 (1 + gap), .int .i64 slack] m0 = some (.ptr (some (1, 0, 0)), m0.new (gate (1 + gap) slack 0 (-4611686018427387903))) := by
    simp only [F6]; rw [if_neg (by omega), hn]
  simp [b4, F5, hl, IntWalk.i64_in gap (by omega), IntWalk.i64_in slack (by omega), IntWalk.i64_in (1 + gap) (by omega), hF]
  refine exec_loop (σ := Int × Int × Int × Nat) (fun (now, _, _, i) => en [(7, .ptr (some (1, 0, 0))), (8, .int .i64 now), (23, .sl a zs.length c), (24, .int .i64 zs.length), (25, .int .i64 i)])
    (fun (_, T, N, _) => m0.new (gate (1 + gap) slack T N))
    (fun (now, T, N, i) => i ≤ zs.length ∧ 0 ≤ now ∧ now ≤ i * 200000 ∧ -4611686018427387903 ≤ N ∧ N ≤ now ∧ 0 ≤ T ∧ T ≤ now + slack + 1 + gap) (fun (_, _, _, i) => zs.length - i) ?_ (s := (0, 0, -4611686018427387903, 0)) ?_ ?_
  · intro (now, T, N, i) ⟨h1, h2, h3, h4, h5, h6, h7⟩

    by_cases hi : (i : Int) < zs.length
    · have hne : zs ≠ [] := by intro e; subst e; simp at hi; omega
      have ho := ho hne
      have ha := ha hne
      subst ha
      obtain ⟨z, hzi⟩ : ∃ z, zs[i]? = some z := ⟨_, List.getElem?_eq_getElem (by omega)⟩
      have hzb := hz z (List.mem_of_getElem? hzi)
      have hu : ∀ T N T' N', (m0.new (gate (1 + gap) slack T N)).upd 1 (some (gate (1 + gap) slack T' N')) = m0.new (gate (1 + gap) slack T' N') := fun _ _ _ _ => upd_new _ _ _ hn.symm
      have hc : clampZ (now + z) = now + z := clamp_small (by omega)
      have hx : max N (now + z) = now + z := by omega
      have hE := early_small (s := slack) (t := T) (n := now + z) (by omega) (by omega) (by omega)
      generalize hW : earlyZ slack T (now + z) = W at hE
      have hp1 : 0 < W → passZ (1 + gap) slack T (now + z) (now + z + W - 1) = (false, T, now + z + W - 1) := by
        intro hw
        have e1 : max (now + z) (clampZ (now + z + W - 1)) = now + z + W - 1 := by rw [clamp_small (by omega)]; omega
        unfold passZ; rw [e1, if_pos (by rw [early_small (by omega) (by omega) (by omega)]; omega)]
      have hp2 : ∀ q, now + z ≤ q → q ≤ now + z + W → passZ (1 + gap) slack T q (now + z + W) = (true, max T (now + z + W) + (1 + gap), now + z + W) := by
        intro q hq hq2
        have e1 : max q (clampZ (now + z + W)) = now + z + W := by rw [clamp_small (by omega)]; omega
        unfold passZ; rw [e1, if_neg (by rw [early_small (by omega) (by omega) (by omega)]; omega), add_small (by omega) (by omega)]
      by_cases hw : 0 < W
      · simp [hi, ho, hn, hzi, F9, F7, hu, hc, hx, hW, hw, IntWalk.i64_in z (by omega), IntWalk.i64_in (now + z) (by omega), IntWalk.i64_in (now + z + W) (by omega), IntWalk.i64_in (now + z + W - 1) (by omega), IntWalk.i64_in ((i : Int) + 1) (by omega),
          hp1 hw, hp2 (now + z + W - 1) (by omega) (by omega)]
        exact ⟨_, _, _, i + 1, ⟨by omega, by omega, by omega, by omega, by omega, by omega, by omega⟩, by omega, rfl, rfl⟩
      · simp [hi, ho, hn, hzi, F9, F7, hu, hc, hx, hW, hw, IntWalk.i64_in z (by omega), IntWalk.i64_in (now + z) (by omega), IntWalk.i64_in (now + z + W) (by omega), IntWalk.i64_in ((i : Int) + 1) (by omega),
          hp2 (now + z) (by omega) (by omega)]
        exact ⟨_, _, _, i + 1, ⟨by omega, by omega, by omega, by omega, by omega, by omega, by omega⟩, by omega, rfl, rfl⟩
    · simp [hi]
  · simp; omega
  · simp

theorem last_step {p D X S : Int} (hD : 1 ≤ D) (hX : 0 ≤ X) (hS : 0 ≤ S) (h : (p - 1) * D ≤ X + S) : p ≤ X / D + (S / D + 1) + 1 := by
  have h1 : p - 1 ≤ (X + S) / D := (Int.le_ediv_iff_mul_le (by omega)).2 h
  have h2 : X + S < (X / D + S / D + 2) * D := by
    have a1 := Int.emod_add_mul_ediv X D
    have a2 := Int.emod_add_mul_ediv S D
    have b1 := Int.emod_lt_of_pos X (show 0 < D by omega)
    have b2 := Int.emod_lt_of_pos S (show 0 < D by omega)
    rw [Int.add_mul, Int.add_mul, Int.mul_comm (X / D), Int.mul_comm (S / D)]
    omega
  have h3 : (X + S) / D < X / D + S / D + 2 := Int.ediv_lt_of_lt_mul (by omega) h2
  omega

theorem bound (gap slack fr to : Int) (hg : 0 ≤ gap ∧ gap ≤ 255) (hs : 0 ≤ slack ∧ slack ≤ 65535) (hf : 0 ≤ fr ∧ fr ≤ 255) (ht : 0 ≤ to ∧ to ≤ 255) (zs : List Int) (hz : ∀ z ∈ zs, 0 ≤ z ∧ z ≤ 255) (a : Option (Nat × Nat × Nat)) (c : Option Nat) (ha : zs ≠ [] → a = some (0, 0, 1)) :
    ACalls Try.prog 3 [.int .u8 gap, .int .u16 slack, .sl a zs.length c, .int .u8 fr, .int .u8 to] (Mem.empty.arg 1 (zs.map fun z => [.int .u8 z])) (fun r _ => r = .bool true) := by
  refine run_calls x6 hm c3 (by simp) ?_
  generalize hM : Mem.empty.arg 1 (zs.map fun z => [.int .u8 z]) = m0
  have hn : m0.next = 1 := by subst hM; rfl
  have ho : zs ≠ [] → m0.obj 0 = some (.row 1 (zs.map fun z => [.int .u8 z]) false) := by intro h; subst hM; simp [Mem.arg, Mem.empty, h]
  by_cases hl : (200 : Int) < zs.length
  · simp [b3, F5, hl]
  have hF : F6 [.int .i64 (1 + gap), .int .i64 slack] m0 = some (.ptr (some (1, 0, 0)), m0.new (gate (1 + gap) slack 0 (-4611686018427387903))) := by
    simp only [F6]; rw [if_neg (by omega), hn]
  generalize hI : min fr to = I
  generalize hK : max fr to = J
  generalize hD : 1 + gap = D at hF
  simp [b3, F5, hl, IntWalk.i64_in gap (by omega), IntWalk.i64_in slack (by omega), hD, IntWalk.i64_in D (by omega), hF, hI, hK, IntWalk.i64_in I (by omega), IntWalk.i64_in J (by omega)]
  refine exec_loop (σ := Int × Int × Int × Int × Int × Int × Nat) (fun (now, be, ed, p, _, _, i) => en [(2, .sl a zs.length c), (11, .int .i64 D), (12, .ptr (some (1, 0, 0))), (13, .int .i64 I), (14, .int .i64 J), (15, .int .i64 now), (16, .int .i64 be), (17, .int .i64 ed), (18, .int .i64 p), (41, .sl a zs.length c), (42, .int .i64 zs.length), (43, .int .i64 i)])
    (fun (_, _, _, _, T, N, _) => m0.new (gate D slack T N))
    (fun (now, be, ed, p, T, N, i) => i ≤ zs.length ∧ 0 ≤ now ∧ now ≤ i * 15 ∧ -4611686018427387903 ≤ N ∧ N ≤ now ∧ 0 ≤ T ∧ T ≤ now + slack + D ∧ 0 ≤ p ∧ p ≤ i ∧ 0 ≤ be ∧ 0 ≤ ed ∧ ed ≤ now ∧ be ≤ now ∧ (i ≤ I → p = 0) ∧
      (I < i → be ≤ ed) ∧ (0 < p → be + p * D ≤ T ∧ (p - 1) * D ≤ ed - be + slack)) (fun (_, _, _, _, _, _, i) => zs.length - i) ?_ (s := (0, 0, 0, 0, 0, -4611686018427387903, 0)) ?_ ?_
  · intro (now, be, ed, p, T, N, i) ⟨h1, h2, h3, h4, h5, h6, h7, h8, h9, h10, h11, h12, h13, h14, h15, h16⟩
    by_cases hi : (i : Int) < zs.length
    · have hne : zs ≠ [] := by intro e; subst e; simp at hi; omega
      have ho := ho hne
      have ha := ha hne
      subst ha
      obtain ⟨z, hzi⟩ : ∃ z, zs[i]? = some z := ⟨_, List.getElem?_eq_getElem (by omega)⟩
      have hzb := hz z (List.mem_of_getElem? hzi)
      have hu : ∀ T N T' N', (m0.new (gate D slack T N)).upd 1 (some (gate D slack T' N')) = m0.new (gate D slack T' N') := fun _ _ _ _ => upd_new _ _ _ hn.symm
      obtain ⟨q, hq, hq1⟩ : ∃ q, z.tmod 16 = q ∧ 0 ≤ q ∧ q ≤ 15 := ⟨_, rfl, by rw [Int.tmod_eq_emod_of_nonneg (by omega)]; omega, by rw [Int.tmod_eq_emod_of_nonneg (by omega)]; omega⟩
      obtain ⟨t, ht⟩ : ∃ t, now + q = t := ⟨_, rfl⟩
      have hc : clampZ t = t := clamp_small (by omega)
      have hx : max N t = t := by omega
      have hE := early_small (s := slack) (t := T) (n := t) (by omega) (by omega) (by omega)
      have e1 : (p + 1) * D = p * D + D := by rw [Int.add_mul, Int.one_mul]
      have e2 : (p - 1) * D = p * D - D := by rw [Int.sub_mul, Int.one_mul]
      have e3 : (p + 1 - 1) * D = p * D := by rw [Int.add_sub_cancel]
      have e4 : p = 0 → p * D = 0 := fun h => by rw [h, Int.zero_mul]
      by_cases hp : T - slack ≤ t
      · have hP : passZ D slack T N t = (true, max T t + D, t) := by
          unfold passZ; rw [hc, hx, if_neg (by omega), add_small (by omega) (by omega)]
        by_cases c1 : (i : Int) = I
        · subst c1
          · simp [hi, ho, hn, hzi, hq, IntWalk.i64_in q (by omega), ht, IntWalk.i64_in t (by omega), F7, hP, hu, show (i : Int) ≤ J by omega, IntWalk.i64_in (p + 1) (by omega), IntWalk.i64_in ((i : Int) + 1) (by omega)]
            exact ⟨t, t, t, p + 1, _, _, i + 1, ⟨by omega, by omega, by omega, by omega, by omega, by omega, by omega, by omega, by omega, by omega, by omega, by omega, by omega, by omega, by omega, by omega⟩, by omega, rfl, rfl⟩
        · by_cases c2 : I ≤ (i : Int) <;> by_cases c3 : (i : Int) ≤ J
          · simp [hi, ho, hn, hzi, hq, IntWalk.i64_in q (by omega), ht, IntWalk.i64_in t (by omega), F7, hP, hu, c1, c2, c3, IntWalk.i64_in (p + 1) (by omega), IntWalk.i64_in ((i : Int) + 1) (by omega)]
            exact ⟨t, be, t, p + 1, _, _, i + 1, ⟨by omega, by omega, by omega, by omega, by omega, by omega, by omega, by omega, by omega, by omega, by omega, by omega, by omega, by omega, by omega, by omega⟩, by omega, rfl, rfl⟩
          · simp [hi, ho, hn, hzi, hq, IntWalk.i64_in q (by omega), ht, IntWalk.i64_in t (by omega), F7, hP, hu, c1, c2, c3, IntWalk.i64_in ((i : Int) + 1) (by omega)]
            exact ⟨t, be, ed, p, _, _, i + 1, ⟨by omega, by omega, by omega, by omega, by omega, by omega, by omega, by omega, by omega, by omega, by omega, by omega, by omega, by omega, by omega, by omega⟩, by omega, rfl, rfl⟩
          · simp [hi, ho, hn, hzi, hq, IntWalk.i64_in q (by omega), ht, IntWalk.i64_in t (by omega), F7, hP, hu, c1, c2, c3, IntWalk.i64_in ((i : Int) + 1) (by omega)]
            exact ⟨t, be, t, p, _, _, i + 1, ⟨by omega, by omega, by omega, by omega, by omega, by omega, by omega, by omega, by omega, by omega, by omega, by omega, by omega, by omega, by omega, by omega⟩, by omega, rfl, rfl⟩
          · omega
      · have hP : passZ D slack T N t = (false, T, t) := by
          unfold passZ; rw [hc, hx, if_pos (by omega)]
        by_cases c1 : (i : Int) = I
        · subst c1
          simp [hi, ho, hn, hzi, hq, IntWalk.i64_in q (by omega), ht, IntWalk.i64_in t (by omega), F7, hP, hu, show (i : Int) ≤ J by omega, IntWalk.i64_in ((i : Int) + 1) (by omega)]
          exact ⟨t, t, t, p, _, _, i + 1, ⟨by omega, by omega, by omega, by omega, by omega, by omega, by omega, by omega, by omega, by omega, by omega, by omega, by omega, by omega, by omega, by omega⟩, by omega, rfl, rfl⟩
        · by_cases c3 : (i : Int) ≤ J
          · simp [hi, ho, hn, hzi, hq, IntWalk.i64_in q (by omega), ht, IntWalk.i64_in t (by omega), F7, hP, hu, c1, c3, IntWalk.i64_in ((i : Int) + 1) (by omega)]
            exact ⟨t, be, t, p, _, _, i + 1, ⟨by omega, by omega, by omega, by omega, by omega, by omega, by omega, by omega, by omega, by omega, by omega, by omega, by omega, by omega, by omega, by omega⟩, by omega, rfl, rfl⟩
          · simp [hi, ho, hn, hzi, hq, IntWalk.i64_in q (by omega), ht, IntWalk.i64_in t (by omega), F7, hP, hu, c1, c3, IntWalk.i64_in ((i : Int) + 1) (by omega)]
            exact ⟨t, be, ed, p, _, _, i + 1, ⟨by omega, by omega, by omega, by omega, by omega, by omega, by omega, by omega, by omega, by omega, by omega, by omega, by omega, by omega, by omega, by omega⟩, by omega, rfl, rfl⟩
    · simp [hi]
      by_cases hI2 : (zs.length : Int) ≤ I
      · intro h; omega
      · have hX : 0 ≤ ed - be := by omega
        have hd : ¬ D = 0 := by omega
        have t1 := IntWalk.tdiv_le (ed - be) D (by omega) (by omega)
        have t2 := IntWalk.tdiv_le slack D (by omega) (by omega)
        have hle : p ≤ (ed - be) / D + (slack / D + 1) + 1 := by
          by_cases hp : 0 < p
          · exact last_step (by omega) hX (by omega) (h16 hp).2
          · omega
        simp [F8, IntWalk.i64_in (ed - be) (by omega), hd, IntWalk.i64_quo (ed - be) D (by omega), show 1 ≤ D by omega, show 0 ≤ slack by omega, show slack ≤ 1125899906842624 by omega, hn]
        rw [IntWalk.i64_in ((ed - be) / D + (slack / D + 1)) (by omega), IntWalk.i64_in _ (by omega)]
        omega
  · simp; omega
  · simp

end Go.Proofs.Ythmnfbgcjaoncaa
