/-
  THE STATEMENTS of this seat, of what its functions compute.
-/
import Derived.Test.YthmnfbgcjaoncaaFx
import Derived.Test.YthmnfbgcjaoncaaAm16
namespace Go.Proofs.Ythmnfbgcjaoncaa
open Go Go.AM
set_option linter.unusedVariables false

abbrev L5 : List (FuncId × AFn) := (6, F6) :: (8, F8) :: (9, F9) :: (11, F11) :: (10, F10) :: L4
theorem x5 : CtxOk Try.prog (Ctx.of L5) := ctx_cons (ctx_cons (ctx_cons (ctx_cons (ctx_cons x4 s10) s11) s9) s8) s6

/-- The facts. -/
def F5 : AFn
  | [], m => some (.bool true, m)
  | _, _ => none
theorem s5 : ASpec Try.prog 5 F5 := by
  intro args m r m' h
  unfold F5 at h; split at h <;> cases h
  exact ACalls.of_empty rfl rfl (run_calls x5 hm c5 (by simp) (of_rfl (a := V.bool true) (by kernel_rfl))) _

abbrev L6 : List (FuncId × AFn) := (5, F5) :: L5
theorem x6 : CtxOk Try.prog (Ctx.of L6) := ctx_cons x5 s5

theorem sub_small {a b : Int} (h : -1000000000000 ≤ a ∧ a ≤ 1000000000000) (k : -1000000000000 ≤ b ∧ b ≤ 1000000000000) : subZ a b = a - b := by
  unfold subZ clampZ; rw [if_neg (by omega)]; omega
theorem add_small {a b : Int} (h : -1000000000000 ≤ a ∧ a ≤ 1000000000000) (k : -1000000000000 ≤ b ∧ b ≤ 1000000000000) : addZ a b = a + b := by
  unfold addZ clampZ; rw [if_neg (by omega)]; omega
theorem clamp_small {a : Int} (h : -4611686018427387903 ≤ a ∧ a ≤ 4611686018427387903) : clampZ a = a := by unfold clampZ; omega

theorem early_small {s t n : Int} (h : 0 ≤ t ∧ t ≤ 100000000000) (k : 0 ≤ s ∧ s ≤ 100000) (l : -100000000000 ≤ n ∧ n ≤ 100000000000) : earlyZ s t n = max (t - s - n) 0 := by
  unfold earlyZ; rw [sub_small (a := t) (by omega) (by omega), sub_small (by omega) (by omega)]

theorem waits (gap slack : Int) (hg : 0 ≤ gap ∧ gap ≤ 65535) (hs : 0 ≤ slack ∧ slack ≤ 65535) (zs : List Int) (hz : ∀ z ∈ zs, 0 ≤ z ∧ z ≤ 255) (a : Option (Nat × Nat × Nat)) (c : Option Nat) (ha : zs ≠ [] → a = some (0, 0, 1)) :
    ACalls Try.prog 4 [.int .u16 gap, .int .u16 slack, .sl a zs.length c] (Mem.empty.arg 1 (zs.map fun z => [.int .u8 z])) (fun r _ => r = .bool true) := by
  refine run_calls x6 hm c4 (by simp) ?_
  generalize hM : Mem.empty.arg 1 (zs.map fun z => [.int .u8 z]) = m0
  have hn : m0.next = 1 := by subst hM; rfl
  have ho : zs ≠ [] → m0.obj 0 = some (.row 1 (zs.map fun z => [.int .u8 z]) false) := by intro h; subst hM; simp [Mem.arg, Mem.empty, h]
  by_cases hl : (100 : Int) < zs.length
  · simp [b4, F5, hl]
  have hF : F6 [.int .i64 (1 + gap), .int .i64 slack] m0 = some (.ptr (some (1, 0, 0)), m0.new (gate (1 + gap) slack 0 (-4611686018427387903))) := by
    simp only [F6]; rw [if_neg (by omega), hn]
  simp [b4, F5, hl, IntWalk.i64_in gap (by omega), IntWalk.i64_in slack (by omega), IntWalk.i64_in (1 + gap) (by omega), hF]
  refine exec_loop (σ := Int × Int × Int × Nat) (fun (now, _, _, i) => en [(7, .ptr (some (1, 0, 0))), (8, .int .i64 now), (23, .sl a zs.length c), (24, .int .i64 zs.length), (25, .int .i64 i)])
    (fun (_, T, N, _) => m0.new (gate (1 + gap) slack T N))
    (fun (now, T, N, i) => i ≤ zs.length ∧ 0 ≤ now ∧ now ≤ i * 200000 ∧ -4611686018427387903 ≤ N ∧ N ≤ now ∧ 0 ≤ T ∧ T ≤ now + slack + 1 + gap) (fun (_, _, _, i) => zs.length - i) ?_ (s := (0, 0, -4611686018427387903, 0)) ?_ ?_
  · intro (now, T, N, i) ⟨h1, h2, h3, h4, h5, h6, h7⟩

    by_cases hi : (i : Int) < zs.length
    · have hne : zs ≠ [] := by intro e; subst e; simp at hi; omega
      have ho := ho hne
      have ha := ha hne
      subst ha
      obtain ⟨z, hzi⟩ : ∃ z, zs[i]? = some z := ⟨_, List.getElem?_eq_getElem (by omega)⟩
      have hzb := hz z (List.mem_of_getElem? hzi)
      have hu : ∀ T N T' N', (m0.new (gate (1 + gap) slack T N)).upd 1 (some (gate (1 + gap) slack T' N')) = m0.new (gate (1 + gap) slack T' N') := fun _ _ _ _ => upd_new _ _ _ hn.symm
      have hc : clampZ (now + z) = now + z := clamp_small (by omega)
      have hx : max N (now + z) = now + z := by omega
      have hE := early_small (s := slack) (t := T) (n := now + z) (by omega) (by omega) (by omega)
      generalize hW : earlyZ slack T (now + z) = W at hE
      have hp1 : 0 < W → passZ (1 + gap) slack T (now + z) (now + z + W - 1) = (false, T, now + z + W - 1) := by
        intro hw
        have e1 : max (now + z) (clampZ (now + z + W - 1)) = now + z + W - 1 := by rw [clamp_small (by omega)]; omega
        unfold passZ; rw [e1, if_pos (by rw [early_small (by omega) (by omega) (by omega)]; omega)]
      have hp2 : ∀ q, now + z ≤ q → q ≤ now + z + W → passZ (1 + gap) slack T q (now + z + W) = (true, max T (now + z + W) + (1 + gap), now + z + W) := by
        intro q hq hq2
        have e1 : max q (clampZ (now + z + W)) = now + z + W := by rw [clamp_small (by omega)]; omega
        unfold passZ; rw [e1, if_neg (by rw [early_small (by omega) (by omega) (by omega)]; omega), add_small (by omega) (by omega)]
      by_cases hw : 0 < W
      · simp [hi, ho, hn, hzi, F9, F7, hu, hc, hx, hW, hw, IntWalk.i64_in z (by omega), IntWalk.i64_in (now + z) (by omega), IntWalk.i64_in (now + z + W) (by omega), IntWalk.i64_in (now + z + W - 1) (by omega), IntWalk.i64_in ((i : Int) + 1) (by omega),
          hp1 hw, hp2 (now + z + W - 1) (by omega) (by omega)]
        exact ⟨_, _, _, i + 1, ⟨by omega, by omega, by omega, by omega, by omega, by omega, by omega⟩, by omega, rfl, rfl⟩
      · simp [hi, ho, hn, hzi, F9, F7, hu, hc, hx, hW, hw, IntWalk.i64_in z (by omega), IntWalk.i64_in (now + z) (by omega), IntWalk.i64_in (now + z + W) (by omega), IntWalk.i64_in ((i : Int) + 1) (by omega),
          hp2 (now + z) (by omega) (by omega)]
        exact ⟨_, _, _, i + 1, ⟨by omega, by omega, by omega, by omega, by omega, by omega, by omega⟩, by omega, rfl, rfl⟩
    · simp [hi]
  · simp; omega
  · simp

end Go.Proofs.Ythmnfbgcjaoncaa
