/-
  HISTOQUANTILES, of what the functions of this seat do.
-/
import Derived.Test.YtledckcliiemoaaIx
namespace Go.Proofs.Ytledckcliiemoaa
open Go Go.AM
set_option linter.unusedVariables false
set_option linter.unusedSimpArgs false
set_option maxRecDepth 8000
set_option maxHeartbeats 2000000

theorem and32 {n : Int} (h : 0 ≤ n) (h2 : n < 4294967296) : bAnd .u64 n 4294967295 = n := by
  show IntKind.u64.wrap (((BitVec.ofInt 64 n) &&& (BitVec.ofInt 64 4294967295)).toNat : Nat) = _
  have e : ∀ a : Int, 0 ≤ a → a < 18446744073709551616 → (BitVec.ofInt 64 a).toNat = a.toNat := fun a h1 h2 => by
    rw [BitVec.toNat_ofInt]; congr 1; omega
  rw [BitVec.toNat_and, e n h (by omega), e _ (by omega) (by omega), show (4294967295 : Int).toNat = 2 ^ 32 - 1 from rfl, Nat.and_two_pow_sub_one_eq_mod, wu64 (by omega) (by omega)]
  omega
theorem fdiv32 {n : Int} (h : 0 ≤ n) (h2 : n < 4294967296) : Int.fdiv n 4294967296 = 0 := by
  rw [Int.fdiv_eq_ediv_of_nonneg _ (by omega)]; omega

theorem mul_calls {m : Mem} {x y P : Int} (hx : 0 ≤ x ∧ x < 65536) (hy : 0 ≤ y ∧ y < 65536) (hP : x * y = P) {K : KV} (h : K (.tup [.int .u64 0, .int .u64 P]) m) : ACalls Try.prog 23 [.int .u64 x, .int .u64 y] m K := by
  have hP0 : 0 ≤ P := by rw [← hP]; exact Int.mul_nonneg hx.1 hy.1
  have hP1 : P < 4294967296 := by
    have : x * y ≤ 65535 * 65535 := Int.mul_le_mul (by omega) (by omega) hy.1 (by omega)
    omega
  refine run_on (ctx_nil _) hm c23 (by simp) fun hf => ?_
  have e1 := and32 hx.1 (by omega)
  have e2 := and32 hy.1 (by omega)
  have e3 := fdiv32 hx.1 (by omega)
  have e4 := fdiv32 hy.1 (by omega)
  have e5 := fdiv32 hP0 hP1
  have e6 : bAnd .u64 0 4294967295 = 0 := and32 (by omega) (by omega)
  have e7 : Int.fdiv 0 4294967296 = 0 := fdiv32 (by omega) (by omega)
  simp (disch := omega) [b23, e1, e2, e3, e4, e5, e6, e7, hP]
  exact h
theorem div_calls {m : Mem} {lo y : Nat} (hlo : lo < 4294967296) (hy : 0 < y ∧ y < 65536) {K : KV} (h : K (.tup [.int .u64 ((lo / y : Nat) : Int), .int .u64 ((lo % y : Nat) : Int)]) m) : ACalls Try.prog 24 [.int .u64 0, .int .u64 lo, .int .u64 y] m K := by
  refine run_on (ctx_nil _) hm c24 (by simp) fun hf => ?_
  have hd := Nat.div_le_self lo y
  have hmm := Nat.mod_lt lo hy.1
  have e1 : ((lo : Int)).tdiv (y : Int) = ((lo / y : Nat) : Int) := by rw [Int.tdiv_eq_ediv_of_nonneg (by omega)]; rfl
  have e2 : ((lo : Int)).tmod (y : Int) = ((lo % y : Nat) : Int) := by rw [Int.tmod_eq_emod_of_nonneg (by omega)]; rfl
  obtain ⟨q, hq⟩ : ∃ q, lo / y = q := ⟨_, rfl⟩
  obtain ⟨s, hs⟩ : ∃ s, lo % y = s := ⟨_, rfl⟩
  rw [hq] at e1 h hd
  rw [hs] at e2 h hmm
  simp (disch := omega) [b24, e1, e2]
  exact h

/-- The greatest duration of a box. -/
def highI (b : Int) : Int := if b = 62 then 4611686018427387903 else max (lowI (b + 1) - 1) 0
theorem lowI_rng (b : Int) : 0 ≤ lowI b ∧ lowI b ≤ 2305843009213693952 := by
  obtain ⟨c, hc⟩ := Int.eq_ofNat_of_zero_le (show 0 ≤ min (max b 0) 62 by omega)
  rw [lw_low (j := c) (b := b) hc.symm]
  exact lw_rng (by omega)
theorem high_calls {m : Mem} {b : Int} (hb : 0 ≤ b ∧ b ≤ 62) {K : KV} (h : K (.int .i64 (highI b)) m) : ACalls Try.prog 25 [.int .i64 b] m K := by
  refine run_on (ctx_nil _) hm c25 (by simp) fun hf => ?_
  unfold highI at h
  have hr := lowI_rng (b + 1)
  by_cases h1 : b = 62
  · rw [if_pos h1] at h
    simp (disch := omega) [b25, h1]
    exact h
  · rw [if_neg h1] at h
    simp (disch := omega) [b25]
    refine low_calls ?_
    simp (disch := omega)
    exact h

/-- How many are to be reached. -/
def need (N : Nat) (p : Int) : Int := max ((N * min (max p 0) 1000 + 999) / 1000) 1
theorem quantile_calls {m : Mem} {r : Nat} {w : Ty} {l : List Int} (hT : Tal m r w) (hL : TL l w) (hl : 0 < l.length ∧ l.length ≤ 1000) {p : Int} {K : KV}
    (h : ∀ B : Nat, B < 63 → (below B l : Int) < need l.length p → need l.length p ≤ below (B + 1) l → K (.tup [.int .i64 (lowI B), .int .i64 (highI B), .bool true]) m) : ACalls Try.prog 17 [.ptr (some (r, 0, 0)), .int .i64 p] m K := by
  have hn := hL.n
  obtain ⟨N, hN⟩ : ∃ N, l.length = N := ⟨_, rfl⟩
  rw [hN] at hn hl h
  refine run_on (ctx_nil _) hm c17 (by simp) fun hf => ?_
  simp (disch := omega) [b17]
  refine count_calls hT ?_
  rw [hn]
  obtain ⟨c, hc⟩ := Int.eq_ofNat_of_zero_le (show 0 ≤ min (max p 0) 1000 by omega)
  obtain ⟨P, hP⟩ : ∃ P : Nat, N * c = P := ⟨_, rfl⟩
  have hPI : (N : Int) * c = P := by exact_mod_cast hP
  have hnd : need N p = max (((P : Int) + 999) / 1000) 1 := by unfold need; rw [hc, hPI]
  have hcr : c ≤ 1000 := by omega
  have hPr : P ≤ 1000 * 1000 := by rw [← hP]; exact Nat.mul_le_mul (by omega) hcr
  have hPN : P ≤ N * 1000 := by rw [← hP]; exact Nat.mul_le_mul_left _ hcr
  rw [hnd] at h
  simp (disch := omega) [hc]
  refine mul_calls (by omega) (by omega) hPI ?_
  simp (disch := omega)
  refine div_calls (y := 1000) (by omega) (by omega) ?_
  obtain ⟨nd, hnd2⟩ : ∃ nd : Nat, max (((P : Int) + 999) / 1000) 1 = nd := ⟨(max (((P : Int) + 999) / 1000) 1).toNat, by omega⟩
  rw [hnd2] at h
  have hndN : nd ≤ N := by omega
  by_cases hrem : 0 < P % 1000
  case' pos =>
    have e1 : max ((P : Int) / 1000 + 1) 1 = nd := by omega
    simp (disch := omega) [e1]
  case' neg =>
    have e1 : max ((P : Int) / 1000) 1 = nd := by omega
    simp (disch := omega) [e1]
  all_goals
    have h63 : below 63 l = N := by rw [below_all fun t _ => bx_lt t, hN]
    have hnd1 : 1 ≤ nd := by omega
    refine exec_loopU (σ := Nat) (fun j => [(13, .int .i64 (below j l)), (14, .int .i64 ((j : Int) - 1))]) (fun _ => m) (fun j => j ≤ 63 ∧ (0 < j → below (j - 1) l < nd)) (fun j => 63 - j) 0 rfl ⟨by omega, fun h => by omega⟩ (by simp [below_zero]) ?_
    intro j ⟨d1, d2⟩
    by_cases hj : below j l < nd
    · have hj63 : j < 63 := by
        by_cases e : j = 63
        · subst e; omega
        · omega
      have g1 := Ty.at0 hT.len hj63
      rw [hL.b j hj63] at g1
      have g2 := below_succ j l
      have g3 := cnt_le j l
      have g4 : (j : Int) - 1 + 1 = j := by omega
      have g5 : ((j + 1 : Nat) : Int) - 1 = j := by omega
      obtain ⟨C, hC⟩ : ∃ C, cnt j l = C := ⟨_, rfl⟩
      rw [hC] at g1 g2 g3
      obtain ⟨bj, hbj⟩ : ∃ b, below j l = b := ⟨_, rfl⟩
      rw [hbj] at hj g2
      clear d2 h
      simp (disch := omega) [-getElem?_pos, hT.obj, g1, g4, hbj]
      refine again_mk (j + 1) ⟨by omega, fun _ => ?_⟩ (by omega) ?_ rfl
      · rw [Nat.add_sub_cancel, hbj]; exact hj
      · rw [g5, g2]; simp
    · have hj0 : 0 < j := by
        by_cases e : j = 0
        · subst e; rw [below_zero] at hj; omega
        · omega
      have hd := d2 hj0
      obtain ⟨B, hB⟩ : ∃ B, j - 1 = B := ⟨_, rfl⟩
      have hjB : j = B + 1 := by omega
      rw [hB] at hd
      subst hjB
      replace h := h B (by omega) (by omega) (by omega)
      clear d2
      have g5 : ((B + 1 : Nat) : Int) - 1 = B := by omega
      simp (disch := omega)
      refine low_calls ?_
      simp (disch := omega)
      refine high_calls (by omega) ?_
      simp (disch := omega)
      exact h

theorem below_srt (k : Nat) (l : List Int) : below k (srt l) = below k l := by
  unfold below
  rw [(srt_perm l).countP_eq, List.countP_map]
  congr 1
  funext t; simp [bx_clI]
theorem below_mono {j k : Nat} (h : j ≤ k) (l : List Int) : below j l ≤ below k l := by
  unfold below
  refine List.countP_mono_left fun x _ hx => ?_
  simp at hx ⊢; omega
theorem srt_cl (l : List Int) {p : Nat} (hp : p < l.length) : clI (nth (srt l) p) = nth (srt l) p := by
  obtain ⟨t, _, e⟩ := List.mem_map.1 ((srt_perm l).mem_iff.1 (nth_mem (show p < (srt l).length by rw [srt_length]; exact hp)))
  rw [← e, clI_clI]
theorem srt_bx (l : List Int) {i j : Nat} (h : i ≤ j) (hj : j < l.length) : bx (nth (srt l) i) ≤ bx (nth (srt l) j) :=
  bx_mono (by rw [srt_cl l (by omega), srt_cl l hj]; exact srt_mono l h hj)
theorem srt_lt {l : List Int} {p k : Nat} (hp : p < l.length) (h : bx (nth (srt l) p) < k) : p + 1 ≤ below k l := by
  rw [← below_srt]
  have hlen := srt_length l
  have e : below k (srt l) = below k ((srt l).take (p + 1)) + below k ((srt l).drop (p + 1)) := by
    unfold below; rw [← List.countP_append, List.take_append_drop]
  have e2 : below k ((srt l).take (p + 1)) = p + 1 := by
    rw [below_all, List.length_take]
    · omega
    · intro t ht
      obtain ⟨i, hi, e3⟩ := List.getElem_of_mem ht
      rw [List.length_take] at hi
      rw [List.getElem_take, nth_elem (by omega)] at e3
      have := srt_bx l (i := i) (j := p) (by omega) hp
      rw [← e3]; omega
  omega
theorem srt_ge {l : List Int} {p k : Nat} (hp : p < l.length) (h : k ≤ bx (nth (srt l) p)) : below k l ≤ p := by
  rw [← below_srt]
  have hlen := srt_length l
  have e : below k (srt l) = below k ((srt l).take p) + below k ((srt l).drop p) := by
    unfold below; rw [← List.countP_append, List.take_append_drop]
  have e2 : below k ((srt l).drop p) = 0 := by
    unfold below
    rw [List.countP_eq_zero]
    intro t ht
    obtain ⟨i, hi, e3⟩ := List.getElem_of_mem ht
    rw [List.length_drop] at hi
    rw [List.getElem_drop, nth_elem (by omega)] at e3
    have := srt_bx l (i := p) (j := p + i) (by omega) (by omega)
    rw [e3] at this
    simp; omega
  have e4 : below k ((srt l).take p) ≤ p := by
    have : below k ((srt l).take p) ≤ ((srt l).take p).length := List.countP_le_length
    rw [List.length_take] at this; omega
  omega
theorem srt_box {l : List Int} {B nd : Nat} (h1 : below B l < nd) (h2 : nd ≤ below (B + 1) l) (h3 : 1 ≤ nd) (h4 : nd ≤ l.length) : bx (nth (srt l) (nd - 1)) = B := by
  have a1 : ¬ bx (nth (srt l) (nd - 1)) < B := fun e => by have := srt_lt (by omega) e; omega
  have a2 : ¬ B + 1 ≤ bx (nth (srt l) (nd - 1)) := fun e => by have := srt_ge (by omega) e; omega
  omega

theorem box_rng {d : Int} {B : Nat} (hd : clI d = d) (hB : bx d = B) : lowI B ≤ d ∧ d ≤ highI B ∧ bx (lowI B) = B ∧ bx (highI B) = B := by
  have hB63 := bx_lt d
  have hr := clI_rng d
  rw [hd] at hr
  obtain ⟨n, rfl⟩ := Int.eq_ofNat_of_zero_le hr.1
  have hn : bl n = B := by rw [← hB]; unfold bx; rw [hd]; rfl
  have hlt := (bl_le B n).1 (by omega)
  have hp : (2 : Nat) ^ B ≤ 2 ^ 62 := Nat.pow_le_pow_right (by omega) (by omega)
  have e62 : (2 : Nat) ^ 62 = 4611686018427387904 := rfl
  rw [e62] at hp
  have hlow : lowI B = lw B := lw_low (by omega)
  have hhigh : highI B = ((2 ^ B - 1 : Nat) : Int) := by
    have hp1 : 1 ≤ 2 ^ B := Nat.pow_pos (by omega)
    unfold highI
    by_cases h : B = 62
    · subst h; rw [if_pos (by omega), e62]; rfl
    · rw [if_neg (by omega), lw_low (j := B + 1) (b := (B : Int) + 1) (by omega)]
      unfold lw
      rw [if_neg (by omega), Nat.add_sub_cancel]
      have e : ((2 ^ B : Nat) : Int) = (2 : Int) ^ B := by push_cast; rfl
      omega
  have hbh : bx (highI B) = bl (2 ^ B - 1) := by
    unfold bx; rw [hhigh, clI_id (by omega) (by omega), Int.toNat_natCast]
  by_cases h0 : B = 0
  · subst h0
    have hl0 : lowI ((0 : Nat) : Int) = 0 := by rw [hlow]; rfl
    refine ⟨by omega, by rw [hhigh]; omega, ?_, ?_⟩
    · rw [hl0]; unfold bx; rw [clI_id (by omega) (by omega)]; exact bl_zero
    · rw [hbh]; exact bl_zero
  · have hge : 2 ^ (B - 1) ≤ n := by
      have : ¬ bl n ≤ B - 1 := by omega
      rw [bl_le] at this; omega
    have e1 : (2 : Nat) ^ B = 2 * 2 ^ (B - 1) := by
      have : B = (B - 1) + 1 := by omega
      conv => lhs; rw [this, Nat.pow_succ]
      omega
    have hpos : 1 ≤ 2 ^ (B - 1) := Nat.pow_pos (by omega)
    have hl1 : lowI B = ((2 ^ (B - 1) : Nat) : Int) := by
      rw [hlow]; unfold lw; rw [if_neg h0]; push_cast; rfl
    have b1 : bl (2 ^ (B - 1)) = B := by
      have q1 := (bl_le B (2 ^ (B - 1))).2 (by omega)
      have q2 : ¬ bl (2 ^ (B - 1)) ≤ B - 1 := fun e => by have := (bl_le _ _).1 e; omega
      omega
    have b2 : bl (2 ^ B - 1) = B := by
      have q1 := (bl_le B (2 ^ B - 1)).2 (by omega)
      have q2 : ¬ bl (2 ^ B - 1) ≤ B - 1 := fun e => by have := (bl_le _ _).1 e; omega
      omega
    refine ⟨by rw [hl1]; omega, by rw [hhigh]; omega, ?_, by rw [hbh, b2]⟩
    unfold bx
    rw [hl1, clI_id (by omega) (by omega), Int.toNat_natCast, b1]

end Go.Proofs.Ytledckcliiemoaa
