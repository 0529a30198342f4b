/-
  HISTOCOUNTS, of what the functions of this seat do.
-/
import Derived.Test.YtledckcliiemoaaHx
namespace Go.Proofs.Ytledckcliiemoaa
open Go Go.AM
set_option linter.unusedVariables false
set_option linter.unusedSimpArgs false
set_option maxRecDepth 8000
set_option maxHeartbeats 4000000

def F6 : AFn
  | [], m => some (.bool true, m)
  | _, _ => none
theorem s6 : ASpec Try.prog 6 F6 := by
  intro args m r m' h
  unfold F6 at h; split at h <;> cases h
  exact reckon hm codeOk 80 20 rfl rfl (by kernel_rfl) _
abbrev L6 : List (FuncId × AFn) := [(6, F6)]
theorem x6 : CtxOk Try.prog (Ctx.of L6) := ctx_cons (ctx_nil _) s6

theorem bl_mono {a b : Nat} (h : a ≤ b) : bl a ≤ bl b := (bl_le _ _).2 (Nat.lt_of_le_of_lt h ((bl_le _ _).1 (Nat.le_refl _)))
theorem bx_mono {s t : Int} (h : clI s ≤ clI t) : bx s ≤ bx t := bl_mono (by omega)

/-- How many have this box. -/
def cnt (k : Nat) (l : List Int) : Nat := l.countP fun t => decide (bx t = k)
theorem cnt_snoc (k : Nat) (l : List Int) (t : Int) : cnt k (l ++ [t]) = cnt k l + if bx t = k then 1 else 0 := by
  unfold cnt; rw [List.countP_append, List.countP_singleton]; simp
theorem cnt_le (k : Nat) (l : List Int) : cnt k l ≤ l.length := List.countP_le_length
/-- How many have a lower box. -/
def below (k : Nat) (l : List Int) : Nat := l.countP fun t => decide (bx t < k)
theorem below_zero (l : List Int) : below 0 l = 0 := by unfold below; rw [List.countP_eq_zero]; simp
theorem below_succ (k : Nat) : ∀ l : List Int, below (k + 1) l = below k l + cnt k l
  | [] => rfl
  | t :: l => by
    have ih := below_succ k l
    unfold below cnt at ih ⊢
    simp only [List.countP_cons, ih]
    by_cases h1 : bx t = k
    · have h2 : ¬ bx t < k := by omega
      have h3 : bx t < k + 1 := by omega
      simp [h1]; omega
    · by_cases h2 : bx t < k
      · have h3 : bx t < k + 1 := by omega
        simp [h1, h2, h3]; omega
      · have h3 : ¬ bx t < k + 1 := by omega
        simp [h1, h2, h3]
theorem below_all {k : Nat} {l : List Int} (h : ∀ t ∈ l, bx t < k) : below k l = l.length := by
  unfold below; rw [List.countP_eq_length]; simpa using h
theorem cnt_srt (k : Nat) (l : List Int) : cnt k (srt l) = cnt k l := by
  unfold cnt
  rw [(srt_perm l).countP_eq, List.countP_map]
  congr 1
  funext t; simp [bx_clI]

/-- What a tally of these durations has. -/
structure TL (l : List Int) (w : Ty) : Prop where
  len : w.b.length = 63
  n : w.n = l.length
  b : ∀ k, k < 63 → nth w.b k = cnt k l
  rlo : 0 ≤ w.lo ∧ w.lo ≤ 4611686018427387903
  rhi : 0 ≤ w.hi ∧ w.hi ≤ 4611686018427387903
  all : ∀ t ∈ l, w.lo ≤ clI t ∧ clI t ≤ w.hi
  lo : l ≠ [] → ∃ t ∈ l, clI t = w.lo
  hi : l ≠ [] → ∃ t ∈ l, clI t = w.hi
theorem nth_rep (N i : Nat) : nth (List.replicate N 0) i = 0 := by
  unfold nth
  rw [List.getD_eq_getElem?_getD, List.getElem?_replicate]
  split <;> rfl
theorem TL.new : TL [] Ty.new := ⟨by simp [Ty.new], rfl, fun k hk => by unfold Ty.new; dsimp only; rw [nth_rep]; rfl, by simp [Ty.new], by simp [Ty.new], by simp, by simp, by simp⟩

theorem nth_setj (zs : List Int) (i j : Nat) (z : Int) (hj : i < zs.length) : nth (zs.set i z) j = if i = j then z else nth zs j := by
  unfold nth
  simp only [List.getD_eq_getElem?_getD, List.getElem?_set]
  by_cases h : i = j
  · subst h; simp [hj]
  · simp [h]
theorem TL.snoc {l : List Int} {w : Ty} (h : TL l w) (t : Int) : TL (l ++ [t]) (w.many t 1) := by
  have hr := clI_rng t
  have e : w.many t 1 = ⟨w.b.set (bx t) (nth w.b (bx t) + 1), w.n + 1, if w.n = 0 then clI t else min w.lo (clI t), if w.n = 0 then clI t else max w.hi (clI t)⟩ := by unfold Ty.many; rw [if_neg (by omega)]
  have h1 := h.rlo
  have h2 := h.rhi
  have hn := h.n
  have hcnt : ∀ k, k < 63 → nth (w.b.set (bx t) (nth w.b (bx t) + 1)) k = cnt k (l ++ [t]) := fun k hk => by
    rw [nth_setj w.b (bx t) k _ (by rw [h.len]; exact bx_lt t), cnt_snoc]
    by_cases e : bx t = k
    · rw [if_pos e, if_pos e, h.b _ (bx_lt t), e]; omega
    · rw [if_neg e, if_neg e, h.b k hk]; omega
  by_cases h0 : w.n = 0
  · have hl : l = [] := List.eq_nil_of_length_eq_zero (by omega)
    rw [if_pos h0, if_pos h0] at e
    rw [e]
    refine ⟨by simp [h.len], by simp; omega, fun k hk => ?_, hr, hr, fun s hs => ?_, fun _ => ⟨t, by simp, rfl⟩, fun _ => ⟨t, by simp, rfl⟩⟩
    · exact hcnt k hk
    · rw [hl] at hs; simp at hs; subst hs; exact ⟨by dsimp only; omega, by dsimp only; omega⟩
  · have hl : l ≠ [] := fun e => by rw [e] at hn; simp at hn; omega
    rw [if_neg h0, if_neg h0] at e
    rw [e]
    obtain ⟨s1, hs1, hs2⟩ := h.lo hl
    obtain ⟨s3, hs3, hs4⟩ := h.hi hl
    refine ⟨by simp [h.len], by simp; omega, fun k hk => ?_, by dsimp only; omega, by dsimp only; omega, fun s hs => ?_, fun _ => ?_, fun _ => ?_⟩
    · exact hcnt k hk
    · dsimp only
      rcases List.mem_append.1 hs with hs | hs
      · have := h.all s hs; omega
      · simp at hs; subst hs; omega
    · dsimp only
      by_cases hc : w.lo ≤ clI t
      · exact ⟨s1, by simp [hs1], by omega⟩
      · exact ⟨t, by simp, by omega⟩
    · dsimp only
      by_cases hc : clI t ≤ w.hi
      · exact ⟨s3, by simp [hs3], by omega⟩
      · exact ⟨t, by simp, by omega⟩

/-- The tally of these durations. -/
theorem TL.bnd {l : List Int} {w : Ty} (h : TL l w) (hl : l.length ≤ 1000000) : (0 ≤ w.n ∧ w.n ≤ 1000000) ∧ ∀ i, i < 63 → 0 ≤ nth w.b i ∧ nth w.b i ≤ 1000000 :=
  ⟨by have := h.n; omega, fun i hi => by have := h.b i hi; have := cnt_le i l; omega⟩

theorem srt_first {l : List Int} {w : Ty} (h : TL l w) (hl : l ≠ []) : nth (srt l) 0 = w.lo := by
  obtain ⟨t, ht, he⟩ := h.lo hl
  have hm : w.lo ∈ srt l := (srt_perm l).mem_iff.2 (List.mem_map.2 ⟨t, ht, he⟩)
  have hs := srt_sorted l
  have hall : ∀ x ∈ srt l, w.lo ≤ x := fun x hx => by
    obtain ⟨s, hs, rfl⟩ := List.mem_map.1 ((srt_perm l).mem_iff.1 hx)
    exact (h.all s hs).1
  cases hR : srt l with
  | nil => rw [hR] at hm; cases hm
  | cons x R =>
    rw [hR] at hm hs hall
    rw [nth_zero]
    rw [List.pairwise_cons] at hs
    have h1 := hall x (by simp)
    rcases List.mem_cons.1 hm with e | hm
    · exact e.symm
    · have := hs.1 _ hm; omega
theorem srt_mono (l : List Int) {i j : Nat} (h : i ≤ j) (hj : j < l.length) : nth (srt l) i ≤ nth (srt l) j := by
  have hs := srt_sorted l
  have hlen := srt_length l
  by_cases e : i = j
  · subst e; omega
  · rw [List.pairwise_iff_getElem] at hs
    have := hs i j (by omega) (by omega) (by omega)
    rw [nth_elem, nth_elem] at this; exact this
theorem srt_last {l : List Int} {w : Ty} (h : TL l w) (hl : l ≠ []) : nth (srt l) (l.length - 1) = w.hi := by
  obtain ⟨t, ht, he⟩ := h.hi hl
  have hlen := srt_length l
  have hp := List.length_pos_iff.2 hl
  have hm : w.hi ∈ srt l := (srt_perm l).mem_iff.2 (List.mem_map.2 ⟨t, ht, he⟩)
  obtain ⟨j, hj, e⟩ := List.getElem_of_mem hm
  rw [nth_elem hj] at e
  have h1 := srt_mono l (i := j) (j := l.length - 1) (by omega) (by omega)
  obtain ⟨s, hs, e2⟩ := List.mem_map.1 ((srt_perm l).mem_iff.1 (nth_mem (show l.length - 1 < (srt l).length by omega)))
  have h2 := (h.all s hs).2
  omega
theorem bx_lo {l : List Int} {w : Ty} (h : TL l w) : bx w.hi < 63 := bx_lt _
theorem below_hi {l : List Int} {w : Ty} (h : TL l w) : below (bx w.hi + 1) l = l.length := below_all fun t ht => by
  have := bx_mono (s := t) (t := w.hi) (by rw [clI_id h.rhi.1 h.rhi.2]; exact (h.all t ht).2)
  omega

/-- The least duration of a box, step by step. -/
def lw (j : Nat) : Int := if j = 0 then 0 else 2 ^ (j - 1)
theorem lw_rng {j : Nat} (h : j ≤ 62) : 0 ≤ lw j ∧ lw j ≤ 2305843009213693952 := by
  unfold lw
  split
  · omega
  · have hp : (2 : Nat) ^ (j - 1) ≤ 2 ^ 61 := Nat.pow_le_pow_right (by omega) (by omega)
    have e4 : (2 : Nat) ^ 61 = 2305843009213693952 := rfl
    have e5 : ((2 ^ (j - 1) : Nat) : Int) = (2 : Int) ^ (j - 1) := by push_cast; rfl
    have e6 : (0 : Int) ≤ 2 ^ (j - 1) := Int.pow_nonneg (by omega)
    rw [e4] at hp
    omega
theorem lw_succ (j : Nat) : lw (j + 1) = max (2 * lw j) 1 := by
  unfold lw
  rw [if_neg (by omega)]
  by_cases h : j = 0
  · subst h; rfl
  · rw [if_neg h]
    have e : j + 1 - 1 = (j - 1) + 1 := by omega
    have hp : (0 : Int) < 2 ^ (j - 1) := Int.pow_pos (by omega)
    rw [e, Int.pow_succ]; omega
theorem lw_low {j : Nat} {b : Int} (h : (j : Int) = min (max b 0) 62) : lowI b = lw j := by
  unfold lowI lw
  rw [← h]
  by_cases h0 : j = 0
  · rw [if_pos (by omega), if_pos h0]
  · rw [if_neg (by omega), if_neg h0]
    congr 1; omega

theorem counts (m0 : Mem) (x0' x1' x2' : V) (h0 : IsV m0 (.slice 1 (.int .i64)) x0') (h1 : IsV m0 (.int .i64) x1') (h2 : IsV m0 (.int .i64) x2') : ACalls Try.prog 3 [x0', x1', x2'] m0 (fun r _ => r = .bool true) := by
  obtain ⟨t, rfl, _⟩ := h1.int
  obtain ⟨b, rfl, _⟩ := h2.int
  refine run_on x6 hm c3 (by simp) fun hf => ?_
  obtain ⟨l, hv, hml, hwf⟩ := h0.slI hf
  obtain ⟨N, hN, hv1⟩ := len1 hv
  by_cases hl : (150 : Int) < N
  · simp (disch := omega) [b3, F6, hv1]
  simp (disch := omega) [b3, F6, hv1]
  refine new_calls fun r m1 hT hr hg => ?_
  simp (disch := omega)
  refine sorted_calls (hv.grow hg) (by omega) fun v2 m2 q1 q2 q3 => ?_
  simp (disch := omega) [hv1]
  have hrl := hT.lt
  refine exec_loopU (σ := Nat × Ty × Mem) (fun (i, _, _) => [(34, .int .i64 i)]) (fun (_, _, M) => M) (fun (i, w, M) => i ≤ N ∧ TL (l.take i) w ∧ Tal M r w ∧ Ows M 1 v2 (rowI .i64 (srt l)) ∧ m0.Grew M) (fun (i, _, _) => N - i) (0, Ty.new, m2) rfl
    ⟨by omega, TL.new, hT.grow q2, q1, hg.trans q2⟩ (by simp) ?_
  have hap : r ∉ v2.fp := fun e => by have := q3 r e; omega
  clear q1 q2 q3 hT hg
  intro (i, w, M) ⟨a1, a2, a3, a4, a5⟩
  by_cases hi : i < N
  · obtain ⟨p, q, full, rw, z1, z2, z3, z4⟩ := at1 (hv.grow a5) (y := i) (by omega)
    have hb := a2.bnd (by simp; omega)
    simp (disch := omega) [-getElem?_pos, z1, z3, z4]
    refine add_calls a3 hb.1 hb.2 a2.rlo a2.rhi fun m3 s1 s2 => ?_
    simp (disch := omega)
    refine again_mk (i + 1, w.many (nth l i) 1, m3) ?_ (by dsimp only; omega) (by simp) rfl
    dsimp only
    exact ⟨by omega, by rw [takeS (nth_get (by omega))]; exact a2.snoc _, s1, a4.step s2 (fun p hp he => hap (by simp at hp; rw [← hp]; exact he)), s2.toGrew a5 (fun p hp => by simp at hp; omega)⟩
  · have : i = N := by omega
    subst this
    rw [show l.take i = l by rw [← hN, List.take_length]] at a2
    have hbnd := a2.bnd (by omega)
    simp (disch := omega)
    refine boxes_calls a3 fun v3 m3 q1 q2 => ?_
    have hR := a4.grow q2
    have hT := a3.grow q2
    have hRl := srt_length l
    have hR1 := hR.sl.lenSl
    rw [rowI_length, hRl, hN] at hR1
    have hbl1 := q1.sl.lenSl
    rw [rowI_length] at hbl1
    obtain ⟨B, hB⟩ : ∃ B, (boxesI w).length = B := ⟨_, rfl⟩
    rw [hB] at hbl1
    have hBr : B ≤ 63 ∧ below B l = i ∧ (w.n = 0 → B = 0) ∧ (w.n ≠ 0 → B = bx w.hi + 1) := by
      have hbx := bx_lt w.hi
      unfold boxesI at hB
      by_cases h0 : w.n = 0
      · rw [if_pos h0] at hB
        have hn := a2.n
        have hl0 : l = [] := List.eq_nil_of_length_eq_zero (by omega)
        simp at hB
        refine ⟨by omega, ?_, fun _ => by omega, fun h => absurd h0 h⟩
        rw [← hB, below_zero]; omega
      · rw [if_neg h0] at hB
        have hB2 : B = bx w.hi + 1 := by rw [← hB, List.length_take, a2.len]; omega
        exact ⟨by omega, by rw [hB2, below_hi a2, hN], fun h => absurd h h0, fun _ => hB2⟩
    have hget : ∀ k, k < B → nth (boxesI w) k = cnt k l := fun k hk => by
      have hk63 : k < 63 := by omega
      rw [← a2.b k hk63]
      unfold boxesI at hB ⊢
      by_cases h0 : w.n = 0
      · rw [if_pos h0] at hB; simp at hB; omega
      · rw [if_neg h0] at hB ⊢
        rw [List.length_take] at hB
        unfold nth; simp only [List.getD_eq_getElem?_getD, List.getElem?_take_of_lt (show k < bx w.hi + 1 by omega)]
    simp (disch := omega) [hbl1]
    refine exec_loopU (σ := Nat) (fun k => [(11, .int .i64 (below k l)), (46, .int .i64 k)]) (fun _ => m3) (fun k => k ≤ B) (fun k => B - k) 0 rfl (Nat.zero_le _) (by simp [below_zero]) ?_
    intro k hk
    by_cases hkB : k < B
    · obtain ⟨p, q, full, rw, z1, z2, z3, z4⟩ := at1 q1.sl (y := k) (by omega)
      rw [hget k hkB] at z4
      have hc1 := cnt_le k l
      have hc2 := cnt_srt k l
      have hbs := below_succ k l
      have hbe : below k l ≤ l.length := List.countP_le_length
      obtain ⟨C, hC⟩ : ∃ C, cnt k l = C := ⟨_, rfl⟩
      rw [hC] at z4 hc1 hc2 hbs
      simp (disch := omega) [-getElem?_pos, z1, z3, z4, hR1]
      refine exec_loopU (σ := Nat) (fun y => [(15, .int .i64 (cnt k ((srt l).take y))), (53, .int .i64 y)]) (fun _ => m3) (fun y => y ≤ i) (fun y => i - y) 0 rfl (Nat.zero_le _) (by simp [cnt]) ?_
      intro y hy
      by_cases hyi : y < i
      · obtain ⟨p', q', full', rw', y1, y2, y3, y4⟩ := at1 hR.sl (y := y) (by omega)
        have hsn := cnt_snoc k ((srt l).take y) (nth (srt l) y)
        rw [← takeS (nth_get (show y < (srt l).length by omega))] at hsn
        have hcl := cnt_le k ((srt l).take y)
        rw [List.length_take] at hcl
        simp (disch := omega) [-getElem?_pos, y1, y3, y4]
        refine boxR_calls ?_
        by_cases hb : bx (nth (srt l) y) = k
        · rw [if_pos hb] at hsn
          simp (disch := omega) [hb]
          exact again_mk (y + 1) (by omega) (by omega) (by simp [hsn]) rfl
        · rw [if_neg hb] at hsn
          simp (disch := omega) [hb]
          exact again_mk (y + 1) (by omega) (by omega) (by simp [hsn]) rfl
      · have : y = i := by omega
        subst this
        have htk : (srt l).take y = srt l := List.take_of_length_le (by omega)
        rw [htk]
        simp (disch := omega) [hc2]
        exact again_mk (k + 1) (by omega) (by omega) (by simp [hbs]) rfl
    · have : k = B := by omega
      subst this
      simp (disch := omega) [hBr.2.1]
      have hwn : w.n = (i : Int) := by rw [a2.n, hN]
      refine least_calls hT ?_
      simp (disch := omega)
      refine greatest_calls hT ?_
      by_cases h0 : i = 0
      case' pos =>
        have h00 : w.n = 0 := by omega
        rw [h00]
        simp (disch := omega) [hv1]
        refine count_calls hT ?_
        rw [h00]
        simp (disch := omega)
      case' neg =>
        have h00 : ¬ w.n = 0 := by omega
        have hln : l ≠ [] := fun e => by rw [e] at hN; simp at hN; omega
        rw [if_neg h00, if_neg h00, decide_eq_true h00]
        simp (disch := omega) [hv1]
        refine count_calls hT ?_
        rw [hwn]
        have hBx := hBr.2.2.2 h00
        have f1 := srt_first a2 hln
        have f2 := srt_last a2 hln
        rw [hN] at f2
        obtain ⟨p, q, full, rw, z1, z2, z3, z4⟩ := at1 hR.sl (y := 0) (by omega)
        obtain ⟨p', q', full', rw', y1, y2, y3, y4⟩ := at1 hR.sl (y := i - 1) (by omega)
        have ei : ((i - 1 : Nat) : Int) = (i : Int) - 1 := by omega
        rw [ei] at y1
        rw [f1] at z4
        rw [f2] at y4
        simp at z1
        simp (disch := omega) [-getElem?_pos, z1, z3, z4, y1, y3, y4, hbl1]
        refine boxR_calls ?_
        simp (disch := omega)
      all_goals
        refine exec_loopU (σ := Nat) (fun j => [(22, .int .i64 (lw j)), (23, .int .i64 ((j : Int) + 1))]) (fun _ => m3) (fun j => j ≤ 62 ∧ (j = 0 ∨ (j : Int) ≤ min b 62)) (fun j => 62 - j) 0 rfl ⟨by omega, .inl rfl⟩ (by simp [lw]) ?_
        intro j ⟨d1, d2⟩
        have d3 := lw_rng (j := j) d1
        have d4 := lw_succ j
        by_cases hj : (j : Int) + 1 ≤ min b 62
        · simp (disch := omega)
          exact again_mk (j + 1) ⟨by omega, .inr (by omega)⟩ (by omega) (by simp [d4]) rfl
        · have d5 := lw_low (j := j) (b := b) (by omega)
          simp (disch := omega)
          refine box_calls ?_
          simp (disch := omega)
          refine boxR_calls ?_
          simp (disch := omega)
          refine low_calls ?_
          simp (disch := omega) [d5]

end Go.Proofs.Ytledckcliiemoaa
