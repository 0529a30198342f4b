/-
  WHAT EACH FUNCTION of this seat computes, in plain words.
-/
import Derived.Test.YtledckcliiemoaaCx
import Derived.Test.YtledckcliiemoaaAm24
namespace Go.Proofs.Ytledckcliiemoaa
open Go Go.AM
set_option linter.unusedVariables false
set_option linter.unusedSimpArgs false
set_option maxRecDepth 8000
set_option maxHeartbeats 4000000

/-- How many binary digits. -/
def bl (n : Nat) : Nat := if n = 0 then 0 else bl (n / 2) + 1
termination_by n
decreasing_by omega
theorem bl_zero : bl 0 = 0 := by rw [bl, if_pos rfl]
theorem bl_pos {n : Nat} (h : n ≠ 0) : bl n = bl (n / 2) + 1 := by rw [bl, if_neg h]
theorem bl_le : ∀ (k n : Nat), bl n ≤ k ↔ n < 2 ^ k
  | 0, n => by
    by_cases h : n = 0
    · subst h; rw [bl_zero]; simp
    · rw [bl_pos h]; simp; omega
  | k + 1, n => by
    by_cases h : n = 0
    · subst h; rw [bl_zero]; simp; exact Nat.pow_pos (by omega)
    · rw [bl_pos h, Nat.pow_succ]
      have := bl_le k (n / 2)
      omega
theorem bl_shift : ∀ (k n : Nat), 2 ^ k ≤ n → bl n = k + bl (n / 2 ^ k)
  | 0, n, h => by simp
  | k + 1, n, h => by
    rw [Nat.pow_succ] at h
    have hp : 0 < 2 ^ k := Nat.pow_pos (by omega)
    rw [bl_pos (by omega), bl_shift k (n / 2) (by omega), Nat.div_div_eq_div_mul, Nat.pow_succ, Nat.mul_comm 2]
    omega

def tab8 : ByteArray := ⟨#[0, 1, 2, 2, 3, 3, 3, 3, 4, 4, 4, 4, 4, 4, 4, 4, 5, 5, 5, 5, 5, 5, 5, 5, 5, 5, 5, 5, 5, 5, 5, 5, 6, 6, 6, 6, 6, 6, 6, 6, 6, 6, 6, 6, 6, 6, 6, 6, 6, 6, 6, 6, 6, 6, 6, 6, 6, 6, 6, 6, 6, 6, 6, 6, 7, 7, 7, 7, 7, 7, 7, 7, 7, 7, 7, 7, 7, 7, 7, 7, 7, 7, 7, 7, 7, 7, 7, 7, 7, 7, 7, 7, 7, 7, 7, 7, 7, 7, 7, 7, 7, 7, 7, 7, 7, 7, 7, 7, 7, 7, 7, 7, 7, 7, 7, 7, 7, 7, 7, 7, 7, 7, 7, 7, 7, 7, 7, 7, 8, 8, 8, 8, 8, 8, 8, 8, 8, 8, 8, 8, 8, 8, 8, 8, 8, 8, 8, 8, 8, 8, 8, 8, 8, 8, 8, 8, 8, 8, 8, 8, 8, 8, 8, 8, 8, 8, 8, 8, 8, 8, 8, 8, 8, 8, 8, 8, 8, 8, 8, 8, 8, 8, 8, 8, 8, 8, 8, 8, 8, 8, 8, 8, 8, 8, 8, 8, 8, 8, 8, 8, 8, 8, 8, 8, 8, 8, 8, 8, 8, 8, 8, 8, 8, 8, 8, 8, 8, 8, 8, 8, 8, 8, 8, 8, 8, 8, 8, 8, 8, 8, 8, 8, 8, 8, 8, 8, 8, 8, 8, 8, 8, 8, 8, 8, 8, 8, 8, 8, 8, 8, 8, 8, 8, 8, 8, 8]⟩
theorem len8F : ∀ x : Fin 256, (tab8.data.toList[x.val]?).map (fun b => b.toNat) = some (if x.val = 0 then 0 else Nat.log2 x.val + 1) := by decide
theorem bl_small : ∀ x, x < 256 → bl x = if x = 0 then 0 else Nat.log2 x + 1 := by
  intro x hx
  split
  · rename_i h; rw [h, bl_zero]
  · rename_i h
    have h1 := Nat.log2_self_le h
    have h2 := Nat.lt_log2_self (n := x)
    have h3 := (bl_le (Nat.log2 x + 1) x).2 h2
    have h4 : ¬ bl x ≤ Nat.log2 x := fun e => by have := (bl_le _ _).1 e; omega
    omega
theorem len8 {x : Nat} (h : x < 256) : indexSV (.str tab8) (.int .u8 x) = some (.int .u8 (bl x)) := by
  have h1 := len8F ⟨x, h⟩
  rw [indexSV_str, if_pos (by omega), Int.toNat_natCast, bl_small x h]
  dsimp only at h1
  cases hg : tab8.data.toList[x]? with
  | none => rw [hg] at h1; cases h1
  | some b =>
    rw [hg] at h1
    simp only [Option.map_some, Option.some.injEq] at h1
    simp only [h1]

theorem len_calls {m : Mem} {n : Nat} (hn : n < 18446744073709551616) {K : KV} (h : K (.int .i64 (bl n)) m) : ACalls Try.prog 21 [.int .u64 n] m K := by
  refine run_on (ctx_nil _) hm c21 (by simp) fun hf => ?_
  have ht : ∀ x : Nat, x < 256 → indexSV (.str ⟨#[0, 1, 2, 2, 3, 3, 3, 3, 4, 4, 4, 4, 4, 4, 4, 4, 5, 5, 5, 5, 5, 5, 5, 5, 5, 5, 5, 5, 5, 5, 5, 5, 6, 6, 6, 6, 6, 6, 6, 6, 6, 6, 6, 6, 6, 6, 6, 6, 6, 6, 6, 6, 6, 6, 6, 6, 6, 6, 6, 6, 6, 6, 6, 6, 7, 7, 7, 7, 7, 7, 7, 7, 7, 7, 7, 7, 7, 7, 7, 7, 7, 7, 7, 7, 7, 7, 7, 7, 7, 7, 7, 7, 7, 7, 7, 7, 7, 7, 7, 7, 7, 7, 7, 7, 7, 7, 7, 7, 7, 7, 7, 7, 7, 7, 7, 7, 7, 7, 7, 7, 7, 7, 7, 7, 7, 7, 7, 7, 8, 8, 8, 8, 8, 8, 8, 8, 8, 8, 8, 8, 8, 8, 8, 8, 8, 8, 8, 8, 8, 8, 8, 8, 8, 8, 8, 8, 8, 8, 8, 8, 8, 8, 8, 8, 8, 8, 8, 8, 8, 8, 8, 8, 8, 8, 8, 8, 8, 8, 8, 8, 8, 8, 8, 8, 8, 8, 8, 8, 8, 8, 8, 8, 8, 8, 8, 8, 8, 8, 8, 8, 8, 8, 8, 8, 8, 8, 8, 8, 8, 8, 8, 8, 8, 8, 8, 8, 8, 8, 8, 8, 8, 8, 8, 8, 8, 8, 8, 8, 8, 8, 8, 8, 8, 8, 8, 8, 8, 8, 8, 8, 8, 8, 8, 8, 8, 8, 8, 8, 8, 8, 8, 8, 8, 8, 8, 8]⟩) (.int .u8 x) = some (.int .u8 (bl x)) := fun x hx => len8 hx
  by_cases h32 : 4294967296 ≤ n
  · obtain ⟨x32, hx32⟩ : ∃ y, n / 4294967296 = y := ⟨_, rfl⟩
    have e32 : Int.fdiv (n : Int) 4294967296 = (x32 : Int) := by rw [Int.fdiv_eq_ediv_of_nonneg _ (by omega)]; omega
    have b32' := bl_shift 32 n h32
    rw [show (n / 2 ^ 32 : Nat) = x32 from hx32] at b32'
    by_cases h16 : 65536 ≤ x32
    · obtain ⟨x16, hx16⟩ : ∃ y, x32 / 65536 = y := ⟨_, rfl⟩
      have e16 : Int.fdiv (x32 : Int) 65536 = (x16 : Int) := by rw [Int.fdiv_eq_ediv_of_nonneg _ (by omega)]; omega
      have b16' := bl_shift 16 x32 h16
      rw [show (x32 / 2 ^ 16 : Nat) = x16 from hx16] at b16'
      by_cases h8 : 256 ≤ x16
      · obtain ⟨x8, hx8⟩ : ∃ y, x16 / 256 = y := ⟨_, rfl⟩
        have e8 : Int.fdiv (x16 : Int) 256 = (x8 : Int) := by rw [Int.fdiv_eq_ediv_of_nonneg _ (by omega)]; omega
        have b8' := bl_shift 8 x16 h8
        rw [show (x16 / 2 ^ 8 : Nat) = x8 from hx8] at b8'
        have h9 : bl x8 ≤ 8 := (bl_le 8 x8).2 (by omega)
        have e9 := ht x8 (by omega)
        rw [show ((bl n : Nat) : Int) = 56 + (bl x8 : Nat) by omega] at h
        simp (disch := omega) [-indexSV_str, b21, e9, e32, e16, e8]
        exact h
      · have h9 : bl x16 ≤ 8 := (bl_le 8 x16).2 (by omega)
        have e9 := ht x16 (by omega)
        rw [show ((bl n : Nat) : Int) = 48 + (bl x16 : Nat) by omega] at h
        simp (disch := omega) [-indexSV_str, b21, e9, e32, e16]
        exact h
    · by_cases h8 : 256 ≤ x32
      · obtain ⟨x8, hx8⟩ : ∃ y, x32 / 256 = y := ⟨_, rfl⟩
        have e8 : Int.fdiv (x32 : Int) 256 = (x8 : Int) := by rw [Int.fdiv_eq_ediv_of_nonneg _ (by omega)]; omega
        have b8' := bl_shift 8 x32 h8
        rw [show (x32 / 2 ^ 8 : Nat) = x8 from hx8] at b8'
        have h9 : bl x8 ≤ 8 := (bl_le 8 x8).2 (by omega)
        have e9 := ht x8 (by omega)
        rw [show ((bl n : Nat) : Int) = 40 + (bl x8 : Nat) by omega] at h
        simp (disch := omega) [-indexSV_str, b21, e9, e32, e8]
        exact h
      · have h9 : bl x32 ≤ 8 := (bl_le 8 x32).2 (by omega)
        have e9 := ht x32 (by omega)
        rw [show ((bl n : Nat) : Int) = 32 + (bl x32 : Nat) by omega] at h
        simp (disch := omega) [-indexSV_str, b21, e9, e32]
        exact h
  · by_cases h16 : 65536 ≤ n
    · obtain ⟨x16, hx16⟩ : ∃ y, n / 65536 = y := ⟨_, rfl⟩
      have e16 : Int.fdiv (n : Int) 65536 = (x16 : Int) := by rw [Int.fdiv_eq_ediv_of_nonneg _ (by omega)]; omega
      have b16' := bl_shift 16 n h16
      rw [show (n / 2 ^ 16 : Nat) = x16 from hx16] at b16'
      by_cases h8 : 256 ≤ x16
      · obtain ⟨x8, hx8⟩ : ∃ y, x16 / 256 = y := ⟨_, rfl⟩
        have e8 : Int.fdiv (x16 : Int) 256 = (x8 : Int) := by rw [Int.fdiv_eq_ediv_of_nonneg _ (by omega)]; omega
        have b8' := bl_shift 8 x16 h8
        rw [show (x16 / 2 ^ 8 : Nat) = x8 from hx8] at b8'
        have h9 : bl x8 ≤ 8 := (bl_le 8 x8).2 (by omega)
        have e9 := ht x8 (by omega)
        rw [show ((bl n : Nat) : Int) = 24 + (bl x8 : Nat) by omega] at h
        simp (disch := omega) [-indexSV_str, b21, e9, e16, e8]
        exact h
      · have h9 : bl x16 ≤ 8 := (bl_le 8 x16).2 (by omega)
        have e9 := ht x16 (by omega)
        rw [show ((bl n : Nat) : Int) = 16 + (bl x16 : Nat) by omega] at h
        simp (disch := omega) [-indexSV_str, b21, e9, e16]
        exact h
    · by_cases h8 : 256 ≤ n
      · obtain ⟨x8, hx8⟩ : ∃ y, n / 256 = y := ⟨_, rfl⟩
        have e8 : Int.fdiv (n : Int) 256 = (x8 : Int) := by rw [Int.fdiv_eq_ediv_of_nonneg _ (by omega)]; omega
        have b8' := bl_shift 8 n h8
        rw [show (n / 2 ^ 8 : Nat) = x8 from hx8] at b8'
        have h9 : bl x8 ≤ 8 := (bl_le 8 x8).2 (by omega)
        have e9 := ht x8 (by omega)
        rw [show ((bl n : Nat) : Int) = 8 + (bl x8 : Nat) by omega] at h
        simp (disch := omega) [-indexSV_str, b21, e9, e8]
        exact h
      · have h9 : bl n ≤ 8 := (bl_le 8 n).2 (by omega)
        have e9 := ht n (by omega)
        rw [show ((bl n : Nat) : Int) = ((bl n : Nat) : Int) by omega] at h
        simp (disch := omega) [-indexSV_str, b21, e9]
        exact h

/-- Into bounds. -/
def clI (t : Int) : Int := min (max t 0) 4611686018427387903
theorem clI_rng (t : Int) : 0 ≤ clI t ∧ clI t ≤ 4611686018427387903 := by unfold clI; omega
theorem clI_id {t : Int} (h1 : 0 ≤ t) (h2 : t ≤ 4611686018427387903) : clI t = t := by unfold clI; omega
def F20 : AFn
  | [.int .i64 t], m => some (.int .i64 (clI t), m)
  | _, _ => none
theorem s20 : ASpec Try.prog 20 F20 := by
  intro args m r m' h
  unfold F20 at h; split at h <;> cases h
  refine run_on (ctx_nil _) hm c20 (by simp) fun hf => ?_
  simp [b20, clI]
theorem s22 : ASpec Try.prog 22 F20 := by
  intro args m r m' h
  unfold F20 at h; split at h <;> cases h
  refine run_on (ctx_nil _) hm c22 (by simp) fun hf => ?_
  simp [b22, clI]
abbrev L0 : List (FuncId × AFn) := [(20, F20), (22, F20)]
theorem x0 : CtxOk Try.prog (Ctx.of L0) := ctx_cons (ctx_cons (ctx_nil _) s22) s20

/-- A duration's box. -/
def bx (t : Int) : Nat := bl (clI t).toNat
theorem bx_lt (t : Int) : bx t < 63 := by
  have h := clI_rng t
  have := (bl_le 62 (clI t).toNat).2 (by have : (2 : Nat) ^ 62 = 4611686018427387904 := rfl
                                         omega)
  unfold bx; omega
theorem box_calls {m : Mem} {t : Int} {K : KV} (h : K (.int .i64 (bx t)) m) : ACalls Try.prog 15 [.int .i64 t] m K := by
  have hr := clI_rng t
  refine run_on x0 hm c15 (by simp) fun hf => ?_
  obtain ⟨x, hx⟩ := Int.eq_ofNat_of_zero_le hr.1
  have hb : bx t = bl x := by unfold bx; rw [hx]; rfl
  rw [hb] at h
  rw [hx] at hr
  simp (disch := omega) [b15, F20, hx]
  refine len_calls (by omega) ?_
  simp (disch := omega)
  exact h
/-- A duration's box, by halving. -/
theorem boxR_calls {m : Mem} {t : Int} {K : KV} (h : K (.int .i64 (bx t)) m) : ACalls Try.prog 11 [.int .i64 t] m K := by
  have hr := clI_rng t
  refine run_on x0 hm c11 (by simp) fun hf => ?_
  obtain ⟨x, hx⟩ := Int.eq_ofNat_of_zero_le hr.1
  have hb : bx t = bl x := by unfold bx; rw [hx]; rfl
  have hbl := bx_lt t
  rw [hb] at h hbl
  rw [hx] at hr
  simp (disch := omega) [b11, F20, hx]
  refine exec_loopU (σ := Nat × Nat) (fun (n, y) => [(0, .int .i64 y), (3, .int .i64 n)]) (fun _ => m) (fun (n, y) => n + bl y = bl x ∧ y ≤ x) (fun (_, y) => y) (0, x) rfl ⟨by omega, by omega⟩ (by simp) ?_
  intro (n, y) ⟨a1, a2⟩
  by_cases hy : 0 < y
  · have e1 : ((y : Int)).tdiv 2 = ((y / 2 : Nat) : Int) := by rw [Int.tdiv_eq_ediv_of_nonneg (by omega)]; omega
    have e2 := bl_pos (n := y) (by omega)
    simp (disch := omega) [e1]
    exact again_mk (n + 1, y / 2) (by dsimp only; exact ⟨by omega, by omega⟩) (by dsimp only; omega) (by simp) rfl
  · have : y = 0 := by omega
    subst this
    rw [bl_zero] at a1
    have : n = bl x := by omega
    subst this
    simp (disch := omega)
    exact h

/-- The least duration of a box. -/
def lowI (b : Int) : Int := if min (max b 0) 62 = 0 then 0 else 2 ^ (min (max b 0) 62 - 1).toNat
theorem low_calls {m : Mem} {b : Int} {K : KV} (h : K (.int .i64 (lowI b)) m) : ACalls Try.prog 16 [.int .i64 b] m K := by
  refine run_on (ctx_nil _) hm c16 (by simp) fun hf => ?_
  obtain ⟨c, hc⟩ := Int.eq_ofNat_of_zero_le (show 0 ≤ min (max b 0) 62 by omega)
  unfold lowI at h
  rw [hc] at h
  have hcr : c ≤ 62 := by omega
  by_cases h0 : c = 0
  · rw [if_pos (by omega)] at h
    simp (disch := omega) [b16, hc]
    exact h
  · rw [if_neg (by omega)] at h
    have e1 : ((c : Int) - 1).toNat = c - 1 := by omega
    rw [e1] at h
    have e2 : min (c - 1) 64 = c - 1 := by omega
    have hp : (2 : Nat) ^ (c - 1) ≤ 2 ^ 61 := Nat.pow_le_pow_right (by omega) (by omega)
    have e4 : (2 : Nat) ^ 61 = 2305843009213693952 := rfl
    have hp2 : ((2 : Int) ^ (c - 1)) ≤ 2305843009213693952 := by
      have e5 : ((2 ^ (c - 1) : Nat) : Int) = (2 : Int) ^ (c - 1) := by push_cast; rfl
      rw [e4] at hp; omega
    have hp3 : (0 : Int) ≤ 2 ^ (c - 1) := Int.pow_nonneg (by omega)
    have e3 : IntKind.i64.wrap (2 ^ (c - 1)) = 2 ^ (c - 1) := w64 (by omega) (by omega)
    simp (disch := omega) [b16, hc, e1, e2, e3]
    exact h

/-- A tally: its boxes, how many, the least and the greatest. -/
structure Ty where
  b : List Int
  n : Int
  lo : Int
  hi : Int
def Ty.cs (w : Ty) : List V := w.b.map (V.int .i64) ++ [.int .i64 w.n, .int .i64 w.lo, .int .i64 w.hi]
structure Tal (m : Mem) (r : Nat) (w : Ty) : Prop where
  lt : r < m.next
  obj : m.obj r = some (.row 66 [w.cs] true)
  len : w.b.length = 63
theorem Tal.grow {m m' : Mem} {r : Nat} {w : Ty} (h : Tal m r w) (hg : m.Grew m') : Tal m' r w := ⟨by have := hg.next; have := h.lt; omega, by rw [hg.obj r h.lt]; exact h.obj, h.len⟩
theorem Ty.at0 {w : Ty} (h : w.b.length = 63) {i : Nat} (hi : i < 63) : w.cs[i]? = some (.int .i64 (nth w.b i)) := by
  unfold Ty.cs; rw [List.getElem?_append_left (by simp; omega), List.getElem?_map, nth_get (by omega)]; rfl
theorem Ty.at63 {w : Ty} (h : w.b.length = 63) : w.cs[63]? = some (.int .i64 w.n) := by
  unfold Ty.cs; rw [List.getElem?_append_right (by simp [h])]; simp [h]
theorem Ty.at64 {w : Ty} (h : w.b.length = 63) : w.cs[64]? = some (.int .i64 w.lo) := by
  unfold Ty.cs; rw [List.getElem?_append_right (by simp [h])]; simp [h]
theorem Ty.at65 {w : Ty} (h : w.b.length = 63) : w.cs[65]? = some (.int .i64 w.hi) := by
  unfold Ty.cs; rw [List.getElem?_append_right (by simp [h])]; simp [h]
theorem Ty.set0 {w : Ty} (h : w.b.length = 63) {i : Nat} (hi : i < 63) (z : Int) : w.cs.set i (.int .i64 z) = (Ty.mk (w.b.set i z) w.n w.lo w.hi).cs := by
  unfold Ty.cs; rw [List.set_append_left _ _ (by simp; omega), ← List.map_set]
theorem Ty.set63 {w : Ty} (h : w.b.length = 63) (z : Int) : w.cs.set 63 (.int .i64 z) = (Ty.mk w.b z w.lo w.hi).cs := by
  unfold Ty.cs; rw [List.set_append_right _ _ (by simp [h])]; simp [h]
theorem Ty.set64 {w : Ty} (h : w.b.length = 63) (z : Int) : w.cs.set 64 (.int .i64 z) = (Ty.mk w.b w.n z w.hi).cs := by
  unfold Ty.cs; rw [List.set_append_right _ _ (by simp [h])]; simp [h]
theorem Ty.set65 {w : Ty} (h : w.b.length = 63) (z : Int) : w.cs.set 65 (.int .i64 z) = (Ty.mk w.b w.n w.lo z).cs := by
  unfold Ty.cs; rw [List.set_append_right _ _ (by simp [h])]; simp [h]
def Ty.new : Ty := ⟨List.replicate 63 0, 0, 0, 0⟩
theorem new_calls {m : Mem} {K : KV} (h : ∀ r m', Tal m' r Ty.new → m.next ≤ r → m.Grew m' → K (.ptr (some (r, 0, 0))) m') : ACalls Try.prog 7 [] m K := by
  refine run_on (ctx_nil _) hm c7 (by simp) fun hf => ?_
  simp (disch := omega) [b7]
  exact h m.next _ ⟨by simp, by simp [Ty.cs, Ty.new], by simp [Ty.new]⟩ (Nat.le_refl _) (Mem.Grew.new _ _)
theorem count_calls {m : Mem} {r : Nat} {w : Ty} (hT : Tal m r w) {K : KV} (h : K (.int .i64 w.n) m) : ACalls Try.prog 14 [.ptr (some (r, 0, 0))] m K := by
  refine run_on (ctx_nil _) hm c14 (by simp) fun hf => ?_
  have e1 := Ty.at63 hT.len
  simp (disch := omega) [-getElem?_pos, b14, hT.obj, e1]
  exact h

end Go.Proofs.Ytledckcliiemoaa
