/-
  HISTOJOINS, of what the functions of this seat do.
-/
import Derived.Test.YtledckcliiemoaaIx
namespace Go.Proofs.Ytledckcliiemoaa
open Go Go.AM
set_option linter.unusedVariables false
set_option linter.unusedSimpArgs false
set_option maxRecDepth 8000
set_option maxHeartbeats 1000000

/-- Boxes, of which the first ones had others added. -/
def addB (b c : List Int) : Nat → List Int
  | 0 => b
  | j + 1 => (addB b c j).set j (nth (addB b c j) j + nth c j)
theorem addB_len (b c : List Int) : ∀ j, (addB b c j).length = b.length
  | 0 => rfl
  | j + 1 => by rw [addB, List.length_set, addB_len b c j]
theorem addB_nth (b c : List Int) : ∀ j k, j ≤ b.length → nth (addB b c j) k = if k < j then nth b k + nth c k else nth b k
  | 0, k, _ => by rw [addB, if_neg (by omega)]
  | j + 1, k, h => by
    rw [addB, nth_setj _ _ _ _ (by rw [addB_len]; omega)]
    by_cases e : j = k
    · subst e; rw [if_pos rfl, if_pos (by omega), addB_nth b c j j (by omega), if_neg (by omega)]
    · rw [if_neg e, addB_nth b c j k (by omega)]
      by_cases h2 : k < j
      · rw [if_pos h2, if_pos (by omega)]
      · rw [if_neg h2, if_neg (by omega)]
def Ty.join (w y : Ty) : Ty := if y.n = 0 then w else ⟨addB w.b y.b 63, w.n + y.n, if w.n = 0 then y.lo else min w.lo y.lo, if w.n = 0 then y.hi else max w.hi y.hi⟩

theorem join_calls {m : Mem} {r s : Nat} {w y : Ty} (hx : Tal m r w) (hy : Tal m s y) (hne : ¬ r = s) (hw : (0 ≤ w.n ∧ w.n ≤ 1000000) ∧ ∀ i, i < 63 → 0 ≤ nth w.b i ∧ nth w.b i ≤ 1000000) (hy2 : (0 ≤ y.n ∧ y.n ≤ 1000000) ∧ ∀ i, i < 63 → 0 ≤ nth y.b i ∧ nth y.b i ≤ 1000000) {K : KV}
    (h : ∀ m', Tal m' r (w.join y) → Stp m m' [r] [r] → K (.tup []) m') : ACalls Try.prog 19 [.ptr (some (r, 0, 0)), .ptr (some (s, 0, 0))] m K := by
  refine run_on (ctx_nil _) hm c19 (by simp) fun hf => ?_
  simp (disch := omega) [b19]
  refine count_calls hy ?_
  by_cases h0 : y.n = 0
  · have e : w.join y = w := by unfold Ty.join; rw [if_pos h0]
    rw [e] at h
    simp (disch := omega) [h0]
    exact h m hx (Stp.refl _ _)
  have e : w.join y = ⟨addB w.b y.b 63, w.n + y.n, if w.n = 0 then y.lo else min w.lo y.lo, if w.n = 0 then y.hi else max w.hi y.hi⟩ := by unfold Ty.join; rw [if_neg h0]
  rw [e] at h
  clear e
  obtain ⟨B, N, lo, hi⟩ := w
  obtain ⟨C, N2, lo2, hi2⟩ := y
  have hlen := hx.len
  have hlen2 := hy.len
  dsimp only at hlen hlen2 hw hy2 h h0
  have e63 := fun (B : List Int) N lo hi (h : B.length = 63) => Ty.at63 (w := ⟨B, N, lo, hi⟩) h
  have e64 := fun (B : List Int) N lo hi (h : B.length = 63) => Ty.at64 (w := ⟨B, N, lo, hi⟩) h
  have e65 := fun (B : List Int) N lo hi (h : B.length = 63) => Ty.at65 (w := ⟨B, N, lo, hi⟩) h
  have u63 := fun (B : List Int) N lo hi (h : B.length = 63) z => (spl (i := 63) (by rw [Ty.clen (w := ⟨B, N, lo, hi⟩) h]; omega) (.int .i64 z)).trans (Ty.set63 (w := ⟨B, N, lo, hi⟩) h z)
  have u64 := fun (B : List Int) N lo hi (h : B.length = 63) z => (spl (i := 64) (by rw [Ty.clen (w := ⟨B, N, lo, hi⟩) h]; omega) (.int .i64 z)).trans (Ty.set64 (w := ⟨B, N, lo, hi⟩) h z)
  have u65 := fun (B : List Int) N lo hi (h : B.length = 63) z => (spl (i := 65) (by rw [Ty.clen (w := ⟨B, N, lo, hi⟩) h]; omega) (.int .i64 z)).trans (Ty.set65 (w := ⟨B, N, lo, hi⟩) h z)
  have cl := fun (B : List Int) N lo hi (h : B.length = 63) => Ty.clen (w := ⟨B, N, lo, hi⟩) h
  dsimp only at e63 e64 e65 u63 u64 u65
  obtain ⟨LO, hLO⟩ : ∃ LO, (if N = 0 then lo2 else min lo lo2) = LO := ⟨_, rfl⟩
  obtain ⟨HI, hHI⟩ : ∃ HI, (if N = 0 then hi2 else max hi hi2) = HI := ⟨_, rfl⟩
  rw [hLO, hHI] at h
  obtain ⟨S, hS⟩ : ∃ S, N + N2 = S := ⟨_, rfl⟩
  rw [hS] at h
  have fin : ∀ j, j ≤ 63 → Tal (m.upd r (some (.row 66 [(Ty.mk (addB B C j) S LO HI).cs] true))) r ⟨addB B C j, S, LO, HI⟩ := fun j _ => hx.upd (by dsimp only; rw [addB_len, hlen])
  have hb : ∀ j, (addB B C j).length = 63 := fun j => by rw [addB_len, hlen]
  have tk : ∀ N lo hi, (Ty.mk C N lo hi).cs.take 63 = C.map (V.int .i64) := fun N lo hi => by
    unfold Ty.cs; rw [List.take_append_of_le_length (by simp [hlen2])]; exact List.take_of_length_le (by simp [hlen2])
  by_cases hN : N = 0
  case' pos =>
    rw [if_pos hN] at hLO hHI
    have hS' : N2 = S := by omega
    simp (disch := omega) [-getElem?_pos, hx.obj, hy.obj, e63, e64, e65, u63, u64, u65, cl, hlen, hlen2, hN, tk, hLO, hHI, hS']
  case' neg =>
    rw [if_neg hN] at hLO hHI
    simp (disch := omega) [-getElem?_pos, hx.obj, hy.obj, e63, e64, e65, u63, u64, u65, cl, hlen, hlen2, hN, tk, hLO, hHI, hS]
  all_goals
    clear hN hS
    refine exec_loopU (σ := Nat) (fun j => [(71, .int .i64 j)]) (fun j => m.upd r (some (.row 66 [(Ty.mk (addB B C j) S LO HI).cs] true))) (fun j => j ≤ 63) (fun j => 63 - j) 0 rfl (Nat.zero_le _) (by simp) ?_
    intro j hj
    by_cases hj2 : j < 63
    · have g1 := Ty.at0 (w := ⟨addB B C j, S, LO, HI⟩) (hb j) hj2
      have g2 := (spl (i := j) (by rw [Ty.clen (w := ⟨addB B C j, S, LO, HI⟩) (hb j)]; omega) (.int .i64 (nth (addB B C j) j + nth C j))).trans (Ty.set0 (w := ⟨addB B C j, S, LO, HI⟩) (hb j) hj2 _)
      have g3 : (C.map (V.int .i64))[j]? = some (.int .i64 (nth C j)) := by rw [List.getElem?_map, nth_get (by omega)]; rfl
      have g4 := Ty.clen (w := ⟨addB B C j, S, LO, HI⟩) (hb j)
      have g5 := hw.2 j hj2
      have g6 := hy2.2 j hj2
      have g7 : nth (addB B C j) j = nth B j := by rw [addB_nth _ _ _ _ (by omega), if_neg (by omega)]
      have g8 : addB B C (j + 1) = (addB B C j).set j (nth B j + nth C j) := by rw [addB, g7]
      dsimp only at g1 g2
      rw [g7] at g1 g2
      rw [← g8] at g2
      simp (disch := omega) [-getElem?_pos, g1, g2, g3, g4, hlen2]
      exact again_mk (j + 1) (by omega) (by omega) (by simp) rfl
    · have : j = 63 := by omega
      subst this
      simp (disch := omega)
      exact h _ (fin 63 (by omega)) (Stp.upd m (by simp) _)

theorem joinNil_calls {m : Mem} {r : Nat} {K : KV} (h : K (.tup []) m) : ACalls Try.prog 19 [.ptr (some (r, 0, 0)), .ptr none] m K := by
  refine run_on (ctx_nil _) hm c19 (by simp) fun hf => ?_
  simp (disch := omega) [b19]
  refine run_on (ctx_nil _) hm c14 (by simp) fun hf => ?_
  simp (disch := omega) [b14]
  exact h

theorem TL.many {l : List Int} {w : Ty} (h : TL l w) (t : Int) (n : Nat) : TL (l ++ List.replicate n t) (w.many t n) := by
  have hr := clI_rng t
  by_cases hn0 : n = 0
  · subst hn0
    have e : w.many t ((0 : Nat) : Int) = w := by unfold Ty.many; rw [if_pos (by simp)]
    rw [e]; simpa using h
  have e : w.many t n = ⟨w.b.set (bx t) (nth w.b (bx t) + n), w.n + n, if w.n = 0 then clI t else min w.lo (clI t), if w.n = 0 then clI t else max w.hi (clI t)⟩ := by unfold Ty.many; rw [if_neg (by omega)]
  have h1 := h.rlo
  have h2 := h.rhi
  have hn := h.n
  have hmem : ∀ x ∈ List.replicate n t, x = t := fun x hx => (List.mem_replicate.1 hx).2
  have htm : t ∈ List.replicate n t := List.mem_replicate.2 ⟨hn0, rfl⟩
  have hcr : ∀ k, cnt k (List.replicate n t) = if bx t = k then n else 0 := fun k => by
    unfold cnt; rw [List.countP_replicate]; simp
  have hcnt : ∀ k, k < 63 → nth (w.b.set (bx t) (nth w.b (bx t) + n)) k = cnt k (l ++ List.replicate n t) := fun k hk => by
    have ec : cnt k (l ++ List.replicate n t) = cnt k l + if bx t = k then n else 0 := by rw [← hcr]; unfold cnt; rw [List.countP_append]
    rw [nth_setj w.b (bx t) k _ (by rw [h.len]; exact bx_lt t), ec]
    by_cases e : bx t = k
    · rw [if_pos e, if_pos e, h.b _ (bx_lt t), e]; omega
    · rw [if_neg e, if_neg e, h.b k hk]; omega
  by_cases h0 : w.n = 0
  · have hl : l = [] := List.eq_nil_of_length_eq_zero (by omega)
    rw [if_pos h0, if_pos h0] at e
    rw [e]
    refine ⟨by simp [h.len], by simp; omega, fun k hk => hcnt k hk, hr, hr, fun s hs => ?_, fun _ => ⟨t, by simp [hn0], rfl⟩, fun _ => ⟨t, by simp [hn0], rfl⟩⟩
    rw [hl] at hs; have := hmem s (by simpa using hs); subst this; exact ⟨by dsimp only; omega, by dsimp only; omega⟩
  · have hl : l ≠ [] := fun e => by rw [e] at hn; simp at hn; omega
    rw [if_neg h0, if_neg h0] at e
    rw [e]
    obtain ⟨s1, hs1, hs2⟩ := h.lo hl
    obtain ⟨s3, hs3, hs4⟩ := h.hi hl
    refine ⟨by simp [h.len], by simp; omega, fun k hk => hcnt k hk, by dsimp only; omega, by dsimp only; omega, fun s hs => ?_, fun _ => ?_, fun _ => ?_⟩
    · dsimp only
      rcases List.mem_append.1 hs with hs | hs
      · have := h.all s hs; omega
      · have := hmem s hs; subst this; omega
    · dsimp only
      by_cases hc : w.lo ≤ clI t
      · exact ⟨s1, by simp [hs1], by omega⟩
      · exact ⟨t, List.mem_append_right _ htm, by omega⟩
    · dsimp only
      by_cases hc : clI t ≤ w.hi
      · exact ⟨s3, by simp [hs3], by omega⟩
      · exact ⟨t, List.mem_append_right _ htm, by omega⟩

theorem TL.join_n {a b : List Int} {w y : Ty} (h : TL a w) (g : TL b y) : w.n + y.n = ((a ++ b).length : Int) := by rw [h.n, g.n, List.length_append]; omega
attribute [irreducible] addB
theorem TL.join {a b : List Int} {w y : Ty} (h : TL a w) (g : TL b y) : TL (a ++ b) (w.join y) := by
  have hn := h.n
  have gn := g.n
  by_cases hy0 : y.n = 0
  · have hb : b = [] := List.eq_nil_of_length_eq_zero (by omega)
    have e : w.join y = w := by unfold Ty.join; rw [if_pos hy0]
    rw [e, hb, List.append_nil]; exact h
  have e : w.join y = ⟨addB w.b y.b 63, w.n + y.n, if w.n = 0 then y.lo else min w.lo y.lo, if w.n = 0 then y.hi else max w.hi y.hi⟩ := by unfold Ty.join; rw [if_neg hy0]
  have hbn : b ≠ [] := fun e => by rw [e] at gn; simp at gn; omega
  have hcnt : ∀ k, k < 63 → nth (addB w.b y.b 63) k = cnt k (a ++ b) := fun k hk => by
    have ec : cnt k (a ++ b) = cnt k a + cnt k b := by unfold cnt; rw [List.countP_append]
    rw [addB_nth _ _ _ _ (by rw [h.len]; omega), if_pos hk, h.b k hk, g.b k hk, ec]; omega
  have h1 := h.rlo
  have h2 := h.rhi
  have g1 := g.rlo
  have g2 := g.rhi
  obtain ⟨t1, ht1, ht2⟩ := g.lo hbn
  obtain ⟨t3, ht3, ht4⟩ := g.hi hbn
  by_cases h0 : w.n = 0
  · have hl : a = [] := List.eq_nil_of_length_eq_zero (by omega)
    rw [if_pos h0, if_pos h0] at e
    rw [e]
    refine ⟨by dsimp only; rw [addB_len, h.len], TL.join_n h g, fun k hk => hcnt k hk, g1, g2, fun s hs => ?_, fun _ => ⟨t1, by simp [ht1], ht2⟩, fun _ => ⟨t3, by simp [ht3], ht4⟩⟩
    rw [hl] at hs; exact g.all s (by simpa using hs)
  · have hl : a ≠ [] := fun e => by rw [e] at hn; simp at hn; omega
    rw [if_neg h0, if_neg h0] at e
    rw [e]
    obtain ⟨s1, hs1, hs2⟩ := h.lo hl
    obtain ⟨s3, hs3, hs4⟩ := h.hi hl
    refine ⟨by dsimp only; rw [addB_len, h.len], TL.join_n h g, fun k hk => hcnt k hk, by dsimp only; omega, by dsimp only; omega, fun s hs => ?_, fun _ => ?_, fun _ => ?_⟩
    · dsimp only
      rcases List.mem_append.1 hs with hs | hs
      · have := h.all s hs; omega
      · have := g.all s hs; omega
    · dsimp only
      by_cases hc : w.lo ≤ y.lo
      · exact ⟨s1, by simp [hs1], by omega⟩
      · exact ⟨t1, by simp [ht1], by omega⟩
    · dsimp only
      by_cases hc : y.hi ≤ w.hi
      · exact ⟨s3, by simp [hs3], by omega⟩
      · exact ⟨t3, by simp [ht3], by omega⟩

theorem TL.same {l : List Int} {w v : Ty} (h : TL l w) (g : TL l v) : w.n = v.n ∧ (w.n = 0 ∨ w = v) := by
  refine ⟨by rw [h.n, g.n], ?_⟩
  by_cases hl : l = []
  · left; rw [h.n, hl]; rfl
  · right
    obtain ⟨s1, a1, a2⟩ := h.lo hl
    obtain ⟨s2, b1, b2⟩ := h.hi hl
    obtain ⟨s3, c1, c2⟩ := g.lo hl
    obtain ⟨s4, d1, d2⟩ := g.hi hl
    have e1 := h.all s3 c1
    have e2 := g.all s1 a1
    have e3 := h.all s4 d1
    have e4 := g.all s2 b1
    obtain ⟨B, N, lo, hi⟩ := w
    obtain ⟨C, N2, lo2, hi2⟩ := v
    dsimp only at a2 b2 c2 d2 e1 e2 e3 e4
    have hB : B = C := by
      apply List.ext_getElem?
      intro k
      have l1 := h.len
      have l2 := g.len
      dsimp only at l1 l2
      by_cases hk : k < 63
      · have e := (h.b k hk).trans (g.b k hk).symm
        dsimp only at e
        rw [nth_get (by omega), nth_get (by omega), e]
      · rw [List.getElem?_eq_none (by omega), List.getElem?_eq_none (by omega)]
    have hN := h.n.trans g.n.symm
    dsimp only at hN
    have f1 : lo = lo2 := by omega
    have f2 : hi = hi2 := by omega
    rw [hB, hN, f1, f2]

end Go.Proofs.Ytledckcliiemoaa
