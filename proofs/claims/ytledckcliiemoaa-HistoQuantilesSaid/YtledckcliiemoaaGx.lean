/-
  WHAT A TALLY DOES, in plain words.
-/
import Derived.Test.YtledckcliiemoaaFx
namespace Go.Proofs.Ytledckcliiemoaa
open Go Go.AM
set_option linter.unusedVariables false
set_option linter.unusedSimpArgs false
set_option maxRecDepth 8000
set_option maxHeartbeats 4000000

theorem clI_clI (t : Int) : clI (clI t) = clI t := clI_id (clI_rng t).1 (clI_rng t).2
theorem bx_clI (t : Int) : bx (clI t) = bx t := by unfold bx; rw [clI_clI]

/-- A duration is counted, so many times. -/
def Ty.many (w : Ty) (t : Int) (n : Int) : Ty := if n = 0 then w else ⟨w.b.set (bx t) (nth w.b (bx t) + n), w.n + n, if w.n = 0 then clI t else min w.lo (clI t), if w.n = 0 then clI t else max w.hi (clI t)⟩

theorem Tal.upd {m : Mem} {r : Nat} {w w' : Ty} (h : Tal m r w) (hl : w'.b.length = 63) : Tal (m.upd r (some (.row 66 [w'.cs] true))) r w' := ⟨by simpa using h.lt, by simp, hl⟩

theorem spl {cs : List V} {i : Nat} (h : i < cs.length) (x : V) : cs.take i ++ x :: cs.drop (i + 1) = cs.set i x := by rw [List.set_eq_take_append_cons_drop, if_pos h]
theorem Ty.clen {w : Ty} (h : w.b.length = 63) : w.cs.length = 66 := by simp [Ty.cs, h]

theorem many_calls {m : Mem} {r : Nat} {w : Ty} (hT : Tal m r w) {t n : Int} (hn : 0 ≤ n ∧ n ≤ 1000) (hw : 0 ≤ w.n ∧ w.n ≤ 1000000) (hb : ∀ i, i < 63 → 0 ≤ nth w.b i ∧ nth w.b i ≤ 1000000) (hlo : 0 ≤ w.lo ∧ w.lo ≤ 4611686018427387903) (hhi : 0 ≤ w.hi ∧ w.hi ≤ 4611686018427387903) {K : KV}
    (h : ∀ m', Tal m' r (w.many t n) → Stp m m' [r] [r] → K (.tup []) m') : ACalls Try.prog 18 [.ptr (some (r, 0, 0)), .int .i64 t, .int .i64 n] m K := by
  have hr := clI_rng t
  have hbx := bx_lt t
  refine run_on x0 hm c18 (by simp) fun hf => ?_
  have en : min (max n 0) 1099511627776 = n := by omega
  by_cases h0 : n = 0
  · subst h0
    have e : w.many t 0 = w := by unfold Ty.many; rw [if_pos rfl]
    rw [e] at h
    simp (disch := omega) [b18]
    exact h m hT (Stp.refl _ _)
  have hbn := hb _ hbx
  obtain ⟨c, hc⟩ : ∃ c, clI t = c := ⟨_, rfl⟩
  have hbc : bx c = bx t := by rw [← hc, bx_clI]
  obtain ⟨k, hk⟩ : ∃ k, bx t = k := ⟨_, rfl⟩
  rw [hk] at hbc hbx hbn
  rw [hc] at hr
  obtain ⟨B, N, lo, hi⟩ := w
  have hlen := hT.len
  dsimp only at hlen hw hbn hlo hhi hb
  clear hb
  have e0 := fun (B : List Int) N lo hi (h : B.length = 63) => Ty.at0 (w := ⟨B, N, lo, hi⟩) h hbx
  have e63 := fun (B : List Int) N lo hi (h : B.length = 63) => Ty.at63 (w := ⟨B, N, lo, hi⟩) h
  have e64 := fun (B : List Int) N lo hi (h : B.length = 63) => Ty.at64 (w := ⟨B, N, lo, hi⟩) h
  have e65 := fun (B : List Int) N lo hi (h : B.length = 63) => Ty.at65 (w := ⟨B, N, lo, hi⟩) h
  have u0 := fun (B : List Int) N lo hi (h : B.length = 63) z => (spl (by rw [Ty.clen (w := ⟨B, N, lo, hi⟩) h]; omega) (.int .i64 z)).trans (Ty.set0 (w := ⟨B, N, lo, hi⟩) h hbx z)
  have u63 := fun (B : List Int) N lo hi (h : B.length = 63) z => (spl (i := 63) (by rw [Ty.clen (w := ⟨B, N, lo, hi⟩) h]; omega) (.int .i64 z)).trans (Ty.set63 (w := ⟨B, N, lo, hi⟩) h z)
  have u64 := fun (B : List Int) N lo hi (h : B.length = 63) z => (spl (i := 64) (by rw [Ty.clen (w := ⟨B, N, lo, hi⟩) h]; omega) (.int .i64 z)).trans (Ty.set64 (w := ⟨B, N, lo, hi⟩) h z)
  have u65 := fun (B : List Int) N lo hi (h : B.length = 63) z => (spl (i := 65) (by rw [Ty.clen (w := ⟨B, N, lo, hi⟩) h]; omega) (.int .i64 z)).trans (Ty.set65 (w := ⟨B, N, lo, hi⟩) h z)
  have cl := fun (B : List Int) N lo hi (h : B.length = 63) => Ty.clen (w := ⟨B, N, lo, hi⟩) h
  dsimp only at e0 e63 e64 e65 u0 u63 u64 u65
  by_cases hN : N = 0
  · have e : (Ty.mk B N lo hi).many t n = ⟨B.set k (nth B k + n), n, c, c⟩ := by unfold Ty.many; rw [if_neg h0]; simp only [hk, hc, if_pos hN]; rw [hN, Int.zero_add]
    rw [e] at h
    simp (disch := omega) [-getElem?_pos, b18, en, F20, hc, hT.obj, e0, e63, e64, e65, u0, u63, u64, u65, cl, hlen, hN]
    have hls : (B.set k (nth B k + n)).length = 63 := by simp [hlen]
    refine box_calls ?_
    rw [hbc]
    simp (disch := omega) [-getElem?_pos, e0, e63, e64, e65, u0, u63, u64, u65, cl, hlen]
    exact h _ ⟨by simpa using hT.lt, by simp, by simp [hlen]⟩ (Stp.upd m (by simp) _)
  · have e : (Ty.mk B N lo hi).many t n = ⟨B.set k (nth B k + n), N + n, min lo c, max hi c⟩ := by unfold Ty.many; rw [if_neg h0]; simp only [hk, hc, if_neg hN]
    rw [e] at h
    simp (disch := omega) [-getElem?_pos, b18, en, F20, hc, hT.obj, e0, e63, e64, e65, u0, u63, u64, u65, cl, hlen, hN]
    have hls : (B.set k (nth B k + n)).length = 63 := by simp [hlen]
    refine box_calls ?_
    rw [hbc]
    simp (disch := omega) [-getElem?_pos, e0, e63, e64, e65, u0, u63, u64, u65, cl, hlen]
    exact h _ ⟨by simpa using hT.lt, by simp, by simp [hlen]⟩ (Stp.upd m (by simp) _)

theorem add_calls {m : Mem} {r : Nat} {w : Ty} (hT : Tal m r w) {t : Int} (hw : 0 ≤ w.n ∧ w.n ≤ 1000000) (hb : ∀ i, i < 63 → 0 ≤ nth w.b i ∧ nth w.b i ≤ 1000000) (hlo : 0 ≤ w.lo ∧ w.lo ≤ 4611686018427387903) (hhi : 0 ≤ w.hi ∧ w.hi ≤ 4611686018427387903) {K : KV}
    (h : ∀ m', Tal m' r (w.many t 1) → Stp m m' [r] [r] → K (.tup []) m') : ACalls Try.prog 9 [.ptr (some (r, 0, 0)), .int .i64 t] m K := by
  refine run_on (ctx_nil _) hm c9 (by simp) fun hf => ?_
  simp (disch := omega) [b9]
  refine many_calls hT (by omega) hw hb hlo hhi fun m' h1 h2 => ?_
  simp (disch := omega)
  exact h m' h1 h2
theorem least_calls {m : Mem} {r : Nat} {w : Ty} (hT : Tal m r w) {K : KV} (h : K (.tup [.int .i64 (if w.n = 0 then 0 else w.lo), .bool (decide (w.n ≠ 0))]) m) : ACalls Try.prog 12 [.ptr (some (r, 0, 0))] m K := by
  refine run_on (ctx_nil _) hm c12 (by simp) fun hf => ?_
  have e1 := Ty.at64 hT.len
  simp (disch := omega) [b12]
  refine count_calls hT ?_
  by_cases h0 : w.n = 0
  · rw [if_pos h0, decide_eq_false (by simpa using h0)] at h
    simp (disch := omega) [h0]
    exact h
  · rw [if_neg h0, decide_eq_true h0] at h
    simp (disch := omega) [-getElem?_pos, h0, hT.obj, e1]
    exact h
theorem greatest_calls {m : Mem} {r : Nat} {w : Ty} (hT : Tal m r w) {K : KV} (h : K (.tup [.int .i64 (if w.n = 0 then 0 else w.hi), .bool (decide (w.n ≠ 0))]) m) : ACalls Try.prog 13 [.ptr (some (r, 0, 0))] m K := by
  refine run_on (ctx_nil _) hm c13 (by simp) fun hf => ?_
  have e1 := Ty.at65 hT.len
  simp (disch := omega) [b13]
  refine count_calls hT ?_
  by_cases h0 : w.n = 0
  · rw [if_pos h0, decide_eq_false (by simpa using h0)] at h
    simp (disch := omega) [h0]
    exact h
  · rw [if_neg h0, decide_eq_true h0] at h
    simp (disch := omega) [-getElem?_pos, h0, hT.obj, e1]
    exact h

/-- Boxes. -/
def boxesI (w : Ty) : List Int := if w.n = 0 then [] else w.b.take (bx w.hi + 1)
theorem boxes_calls {m : Mem} {r : Nat} {w : Ty} (hT : Tal m r w) {K : KV} (h : ∀ v' m', Ows m' 1 v' (rowI .i64 (boxesI w)) → m.Grew m' → K v' m') : ACalls Try.prog 10 [.ptr (some (r, 0, 0))] m K := by
  refine run_on (ctx_nil _) hm c10 (by simp) fun hf => ?_
  have e1 := Ty.at65 hT.len
  have hl := hT.len
  simp (disch := omega) [b10]
  refine count_calls hT ?_
  by_cases h0 : w.n = 0
  · unfold boxesI at h
    rw [if_pos h0] at h
    simp (disch := omega) [h0]
    exact h _ _ (Ows.nil _ _) (Mem.Grew.refl m)
  · unfold boxesI at h
    rw [if_neg h0] at h
    simp (disch := omega) [-getElem?_pos, h0, hT.obj, e1]
    refine box_calls ?_
    have hbx := bx_lt w.hi
    obtain ⟨N, hN⟩ : ∃ N, bx w.hi = N := ⟨_, rfl⟩
    rw [hN] at hbx h ⊢
    simp (disch := omega)
    refine exec_loopU (σ := Nat × V × Mem) (fun (i, u, _) => [(3, u), (14, .int .i64 i)]) (fun (_, _, M) => M) (fun (i, u, M) => i ≤ N + 1 ∧ m.Grew M ∧ Ows M 1 u (rowI .i64 (w.b.take i)) ∧ ∀ p ∈ u.fp, m.next ≤ p) (fun (i, _, _) => N + 1 - i) (0, .sl none 0 (some 0), m) rfl
      ⟨by omega, Mem.Grew.refl m, Ows.nil _ _, by simp [V.fp]⟩ (by simp) ?_
    intro (i, u, M) ⟨a1, a2, a3, a4⟩
    by_cases hi : i < N + 1
    · have e2 := Ty.at0 hl (show i < 63 by omega)
      have ho := (hT.grow a2).obj
      have hlt := (hT.grow a2).lt
      have hl2 : (w.b.take i).length = i := by simp; omega
      simp (disch := omega) [-getElem?_pos, ho, e2, eltsOf, Mem.elts]
      refine (a3.grow (Mem.Grew.new M _)).app (by rw [rowI_length]; omega) (by rw [rowI_length]; omega) fun u' M' w1 w2 w3 => ?_
      simp (disch := omega)
      have s0 : Stp M M' u.fp u'.fp := (Stp.new M _ u.fp).trans w2
      refine again_mk (i + 1, u', M') ?_ (by dsimp only; omega) (by simp) rfl
      dsimp only
      exact ⟨by omega, s0.toGrew a2 a4, by rw [takeS (nth_get (by omega)), ← rowI_append]; exact w1, s0.ge a2.next a4⟩
    · have : i = N + 1 := by omega
      subst this
      simp (disch := omega)
      exact h _ _ a3 a2

end Go.Proofs.Ytledckcliiemoaa
