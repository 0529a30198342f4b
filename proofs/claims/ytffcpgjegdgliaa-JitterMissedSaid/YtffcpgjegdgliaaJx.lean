/-
  JITTERMISSED, of what the functions of this seat do.
-/
import Derived.Test.YtffcpgjegdgliaaIx
namespace Go.Proofs.Ytffcpgjegdgliaa
open Go Go.AM
set_option linter.unusedVariables false
set_option linter.unusedSimpArgs false
set_option maxRecDepth 8000
set_option maxHeartbeats 4000000

def F40 : AFn
  | [.int .i64 _], m => some (.bool false, m)
  | _, _ => none
theorem s40 : ASpec Try.prog 40 F40 := by
  intro args m r m' h
  unfold F40 at h; split at h <;> cases h
  refine run_on (ctx_nil _) hm c40 (by simp) fun hf => ?_
  simp [b40]
theorem s34 : ASpec Try.prog 34 F40 := by
  intro args m r m' h
  unfold F40 at h; split at h <;> cases h
  refine run_on (ctx_nil _) hm c34 (by simp) fun hf => ?_
  simp [b34]
abbrev L2 : List (FuncId × AFn) := [(40, F40)]
theorem x2 : CtxOk Try.prog (Ctx.of L2) := ctx_cons (ctx_nil _) s40
def F29 : AFn
  | [.int .i64 a, .int .i64 b], m => some (.bool (decide (a < b)), m)
  | _, _ => none
theorem s29 : ASpec Try.prog 29 F29 := by
  intro args m r m' h
  unfold F29 at h; split at h <;> cases h
  refine run_on x2 hm c29 (by simp) fun hf => ?_
  simp [b29, F40]
abbrev L3 : List (FuncId × AFn) := [(29, F29), (34, F40)]
theorem x3 : CtxOk Try.prog (Ctx.of L3) := ctx_cons (ctx_cons (ctx_nil _) s34) s29

theorem nth_mono {l : List Int} (h : l.Pairwise (· ≤ ·)) {i j : Nat} (hij : i ≤ j) (hj : j < l.length) : nth l i ≤ nth l j := by
  rcases Nat.lt_or_ge i j with h1 | h1
  · have := List.pairwise_iff_getElem.1 h i j (by omega) hj h1
    have e1 := nth_get (zs := l) (i := i) (by omega)
    have e2 := nth_get (zs := l) (i := j) hj
    rw [List.getElem?_eq_getElem (by omega)] at e1 e2
    injection e1 with e1; injection e2 with e2
    rw [← e1, ← e2]; exact this
  · have : i = j := by omega
    subst this; exact Int.le_refl _

theorem bsearch_calls {m : Mem} {v : V} {l : List Int} {t : Int} (hv : Sl m 1 v (rowI .i64 l)) (hs : l.Pairwise (· ≤ ·)) (hl : l.length ≤ 1000000) {K : KV}
    (h : ∀ (p : Nat) (b : Bool), p ≤ l.length → (∀ j, j < p → nth l j < t) → (p < l.length → t ≤ nth l p) → K (.tup [.int .i64 p, .bool b]) m) : ACalls Try.prog 22 [v, .int .i64 t] m K := by
  obtain ⟨N, hN, hv1⟩ := len1 hv
  refine run_on x3 hm c22 (by simp) fun hf => ?_
  simp (disch := omega) [b22, hv1]
  refine exec_loopU (σ := Nat × Nat) (fun (lo, hi) => [(7, .int .i64 lo), (8, .int .i64 hi)]) (fun _ => m) (fun (lo, hi) => lo ≤ hi ∧ hi ≤ N ∧ (∀ j, j < lo → nth l j < t) ∧ (hi < N → t ≤ nth l hi)) (fun (lo, hi) => hi - lo) (0, N) rfl
    ⟨by omega, by omega, fun j hj => by omega, fun h => by omega⟩ (by simp) ?_
  intro (lo, hi) ⟨a1, a2, a3, a4⟩
  by_cases hlt : lo < hi
  · obtain ⟨md, hmd⟩ : ∃ md, (lo + hi) / 2 = md := ⟨_, rfl⟩
    have e1 : Int.fdiv ((lo : Int) + hi) 2 = (md : Int) := by
      rw [Int.fdiv_eq_ediv_of_nonneg _ (by omega)]; omega
    obtain ⟨p, q, full, rw, z1, z2, z3, z4⟩ := at1 hv (y := md) (by omega)
    by_cases hc : nth l md < t
    · have hall : ∀ j, j < md + 1 → nth l j < t := fun j hj => by
        have := nth_mono hs (i := j) (j := md) (by omega) (by omega)
        omega
      clear a3
      simp (disch := omega) [-getElem?_pos, z1, z3, z4, F29, e1]
      exact again_mk (md + 1, hi) (by dsimp only; exact ⟨by omega, a2, hall, a4⟩) (by dsimp only; omega) (by simp) rfl
    · simp (disch := omega) [-getElem?_pos, z1, z3, z4, F29, e1]
      exact again_mk (lo, md) (by dsimp only; exact ⟨by omega, by omega, a3, fun _ => by omega⟩) (by dsimp only; omega) (by simp) rfl
  · have : hi = lo := by omega
    subst this
    replace h := fun b => h hi b (by omega) a3 (by rw [hN]; exact a4)
    clear a3
    by_cases hl2 : hi < N
    · have a5 := a4 hl2
      obtain ⟨p, q, full, rw, z1, z2, z3, z4⟩ := at1 hv (y := hi) (by omega)
      clear a4
      by_cases he : nth l hi = t
      · simp (disch := omega) [-getElem?_pos, z1, z3, z4, he]
        exact h true
      · simp (disch := omega) [-getElem?_pos, z1, z3, z4, he, F40]
        exact h false
    · clear a4
      simp (disch := omega)
      exact h false

/-- Has a row a time near another one? -/
def nearB (l : List Int) (t w : Int) : Bool := l.any fun x => decide (t - w ≤ x ∧ x ≤ t + w)
theorem nearB_iff (l : List Int) (t w : Int) : nearB l t w = true ↔ ∃ x ∈ l, t - w ≤ x ∧ x ≤ t + w := by simp [nearB]
theorem nearB_perm {l l' : List Int} (h : l.Perm l') (t w : Int) : nearB l t w = nearB l' t w := by
  rw [Bool.eq_iff_iff, nearB_iff, nearB_iff]
  exact ⟨fun ⟨x, h1, h2⟩ => ⟨x, h.mem_iff.1 h1, h2⟩, fun ⟨x, h1, h2⟩ => ⟨x, h.mem_iff.2 h1, h2⟩⟩
theorem mem_nth {l : List Int} {x : Int} (h : x ∈ l) : ∃ j, j < l.length ∧ nth l j = x := by
  obtain ⟨j, hj, e⟩ := List.mem_iff_getElem.1 h
  refine ⟨j, hj, ?_⟩
  have e1 := nth_get (zs := l) (i := j) hj
  rw [List.getElem?_eq_getElem hj] at e1
  injection e1 with e1; rw [← e1, e]

theorem near_calls {m : Mem} {v : V} {l : List Int} {t w : Int} (hv : Sl m 1 v (rowI .i64 l)) (hs : l.Pairwise (· ≤ ·)) (hl : l.length ≤ 1000) (ht : -1000000 ≤ t ∧ t ≤ 100000000) (hw : 0 ≤ w ∧ w ≤ 1000) {K : KV} (h : K (.bool (nearB l t w)) m) : ACalls Try.prog 19 [v, .int .i64 t, .int .i64 w] m K := by
  obtain ⟨N, hN, hv1⟩ := len1 hv
  refine run_on (ctx_nil _) hm c19 (by simp) fun hf => ?_
  simp (disch := omega) [-getElem?_pos, b19]
  refine bsearch_calls hv hs (by omega) fun p b g1 g2 g3 => ?_
  by_cases hp : p < N
  · have g4 := g3 (by omega)
    obtain ⟨p', q, full, rw, z1, z2, z3, z4⟩ := at1 hv (y := p) (by omega)
    by_cases hc : nth l p ≤ t + w
    · have : nearB l t w = true := (nearB_iff _ _ _).2 ⟨nth l p, nth_mem (by omega), by omega, hc⟩
      rw [this] at h
      clear g2 g3
      simp (disch := omega) [-getElem?_pos, hv1, z1, z3, z4]
      exact h
    · have : nearB l t w = false := by
        cases e : nearB l t w with
        | false => rfl
        | true =>
          obtain ⟨x, h1, h2, h3⟩ := (nearB_iff _ _ _).1 e
          obtain ⟨j, h4, rfl⟩ := mem_nth h1
          rcases Nat.lt_or_ge j p with h5 | h5
          · have := g2 j h5; omega
          · have := nth_mono hs (i := p) (j := j) h5 h4; omega
      rw [this] at h
      clear g2 g3
      simp (disch := omega) [-getElem?_pos, hv1, z1, z3, z4]
      exact h
  · have : nearB l t w = false := by
      cases e : nearB l t w with
      | false => rfl
      | true =>
        obtain ⟨x, h1, h2, h3⟩ := (nearB_iff _ _ _).1 e
        obtain ⟨j, h4, rfl⟩ := mem_nth h1
        have := g2 j (by omega); omega
    rw [this] at h
    clear g2 g3
    simp (disch := omega) [-getElem?_pos, hv1]
    exact h

/-- The times of a series; how many have none near them. -/
def tmI (f p : Int) (k : Nat) : Int := f + k * p
theorem tmI_zero (f p : Int) : tmI f p 0 = f := by simp [tmI]
theorem tmI_succ (f p : Int) (k : Nat) : tmI f p (k + 1) = tmI f p k + p := by simp only [tmI, Int.natCast_add, Int.natCast_one, Int.add_mul, Int.one_mul]; omega
def cnt (l : List Int) (f p w : Int) : Nat → Int
  | 0 => 0
  | k + 1 => cnt l f p w k + if nearB l (tmI f p k) w = true then 0 else 1
theorem cnt_rng (l : List Int) (f p w : Int) : ∀ k : Nat, 0 ≤ cnt l f p w k ∧ cnt l f p w k ≤ k
  | 0 => by simp [cnt]
  | k + 1 => by have := cnt_rng l f p w k; simp only [cnt]; split <;> omega
theorem cnt_perm {l l' : List Int} (h : l.Perm l') (f p w : Int) : ∀ k, cnt l f p w k = cnt l' f p w k
  | 0 => rfl
  | k + 1 => by simp only [cnt, cnt_perm h f p w k, nearB_perm h]

/-- The greatest of a row. -/
def lastI (l : List Int) : Int := l.foldl max (-1048576)
theorem lastI_snoc (l : List Int) (t : Int) : lastI (l ++ [t]) = max (lastI l) t := by simp [lastI]
theorem foldl_max : ∀ (l : List Int) (a : Int), a ≤ l.foldl max a ∧ (∀ x ∈ l, x ≤ l.foldl max a) ∧ (l.foldl max a = a ∨ l.foldl max a ∈ l)
  | [], a => by simp
  | y :: l, a => by
    have h := foldl_max l (max a y)
    simp only [List.foldl_cons, List.mem_cons]
    obtain ⟨h1, h2, h3⟩ := h
    refine ⟨by omega, fun x hx => ?_, ?_⟩
    · rcases hx with rfl | hx
      · omega
      · exact h2 x hx
    · rcases h3 with h3 | h3
      · rw [h3]
        rcases Int.le_total a y with h | h
        · right; left; omega
        · left; omega
      · right; right; exact h3
/-- The last one of a row in order is the greatest. -/
theorem last_srt {l : List Int} (h0 : l ≠ []) (hb : ∀ x ∈ l, -32768 ≤ x) : nth (srt l) (l.length - 1) = lastI l := by
  have hlen := List.length_pos_iff.2 h0
  have hp := srt_perm l
  have hs := srt_sorted l
  have hl := srt_length l
  obtain ⟨h1, h2, h3⟩ := foldl_max l (-1048576)
  have hm : nth (srt l) (l.length - 1) ∈ l := hp.mem_iff.1 (nth_mem (by omega))
  have a1 := h2 _ hm
  show _ = l.foldl max (-1048576)
  rcases h3 with h3 | h3
  · have := hb _ hm; omega
  · obtain ⟨j, hj, e⟩ := mem_nth (hp.mem_iff.2 h3)
    have := nth_mono hs (i := j) (j := l.length - 1) (by omega) (by omega)
    omega
end Go.Proofs.Ytffcpgjegdgliaa
