/-
  WHEN JOBS ARE DONE, and QUANTUMENDS.
-/
import Derived.Test.YtgmidpacmlkfgaaEx
namespace Go.Proofs.Ytgmidpacmlkfgaa
open Go Go.AM
set_option linter.unusedVariables false
set_option linter.unusedSimpArgs false
set_option maxRecDepth 8000
set_option maxHeartbeats 4000000

def F6 : AFn
  | [], m => some (.bool true, m)
  | _, _ => none
theorem s6 : ASpec Try.prog 6 F6 := by
  intro args m r m' h
  unfold F6 at h; split at h <;> cases h
  exact reckon hm codeOk 20 20 rfl rfl (by kernel_rfl) _

abbrev L6 : List (FuncId × AFn) := [(6, F6)]
theorem x6 : CtxOk Try.prog (Ctx.of L6) := ctx_cons (ctx_nil _) s6

theorem nth_set (zs : List Int) (i j : Nat) (z : Int) : nth (zs.set i z) j = if i = j ∧ i < zs.length then z else nth zs j := by
  unfold nth
  simp only [List.getD_eq_getElem?_getD, List.getElem?_set]
  by_cases h : i = j
  · subst h
    by_cases h2 : i < zs.length
    · simp [h2]
    · simp [h2]
  · simp [h]
theorem nth_set_ne (zs : List Int) {i j : Nat} (z : Int) (h : i ≠ j) : nth (zs.set i z) j = nth zs j := by rw [nth_set, if_neg (fun e => h e.1)]
theorem nth_set_eq (zs : List Int) {i : Nat} (z : Int) (h : i < zs.length) : nth (zs.set i z) i = z := by rw [nth_set, if_pos ⟨rfl, h⟩]

/-- The names of the jobs are apart, and in range. -/
structure Ids (l : List Jb) (N : Nat) : Prop where
  nd : (l.map (·.1)).Nodup
  rng : ∀ j ∈ l, 0 ≤ j.1 ∧ j.1 < N

theorem Ids.after {w : Rd} {j : Jb} {rest : List Jb} {N : Nat} (h : Ids w.l N) (hl : w.l = j :: rest) : Ids (w.after j rest).l N ∧ (∀ x ∈ rest, x.1 ≠ j.1) := by
  have h1 := h.nd
  have h2 := h.rng
  rw [hl] at h1 h2
  simp only [List.map_cons, List.nodup_cons] at h1
  have h3 : ∀ x ∈ rest, x.1 ≠ j.1 := fun x hx e => h1.1 (by rw [← e]; exact List.mem_map.2 ⟨x, hx, rfl⟩)
  refine ⟨?_, h3⟩
  simp only [Rd.after]
  split
  · exact ⟨h1.2, fun x hx => h2 x (by simp [hx])⟩
  · refine ⟨?_, fun x hx => ?_⟩
    · rw [List.map_append, List.nodup_append]
      refine ⟨h1.2, by simp, ?_⟩
      intro a ha b hb
      simp at hb; subst hb
      intro e; subst e; exact h1.1 ha
    · rcases List.mem_append.1 hx with hx | hx
      · exact h2 x (by simp [hx])
      · simp at hx; subst hx; exact h2 j (by simp)

theorem ends_spec : ∀ (k : Nat) (w : Rd) (out : List Int), Rok w → Ids w.l out.length → leftI w.l ≤ k →
    (∀ j ∈ w.l, w.now + j.2 ≤ nth (endsI w out) j.1.toNat ∧ nth (endsI w out) j.1.toNat ≤ w.now + leftI w.l) ∧
    (∀ i : Nat, (∀ j ∈ w.l, j.1 ≠ i) → nth (endsI w out) i = nth out i) ∧
    (w.l ≠ [] → ∃ j ∈ w.l, nth (endsI w out) j.1.toNat = w.now + leftI w.l)
  | 0, w, out, hr, hi, hk => by
    have := leftI_le w.l hr.ok
    have hl : w.l = [] := List.eq_nil_of_length_eq_zero (by omega)
    rw [endsI_nil hl]
    simp [hl]
  | k + 1, w, out, hr, hi, hk => by
    cases hl : w.l with
    | nil =>
      rw [endsI_nil hl]; simp
    | cons j rest =>
      have h3 := hr.tk hl
      have h4 := after_left hl
      have ⟨h5, h6⟩ := hi.after hl
      have hjr := hi.rng j (by rw [hl]; simp)
      have hlp : (putE w j out).length = out.length := putE_length w j out
      have ⟨i1, i2, i3⟩ := ends_spec k (w.after j rest) (putE w j out) (hr.after hl) (by rw [hlp]; exact h5) (by omega)
      rw [endsI_cons hr hl]
      have hnow : (w.after j rest).now = w.now + tk w.turn j := rfl
      rw [hnow] at i1 i3
      rw [h4] at i1 i3
      rw [hl] at i1 i3
      have hrest := leftI_le rest fun x hx => hr.ok x (by rw [hl]; simp [hx])
      have hjk := hr.ok j (by rw [hl]; simp)
      generalize endsI (w.after j rest) (putE w j out) = E at *
      by_cases hz : j.2 - tk w.turn j = 0
      · have e1 : (w.after j rest).l = rest := by simp only [Rd.after, hz, if_true]
        have e2 : putE w j out = out.set j.1.toNat (w.now + tk w.turn j) := by simp only [putE, hz, if_true]
        rw [e1] at i1 i2 i3
        rw [e2] at i2
        have ej : nth E j.1.toNat = w.now + tk w.turn j := by
          rw [i2 _ (fun x hx e => h6 x hx (by omega)), nth_set_eq _ _ (by omega)]
        refine ⟨fun x hx => ?_, fun i hn => ?_, fun _ => ?_⟩
        · rcases List.mem_cons.1 hx with rfl | hx
          · rw [ej]; simp only [leftI]; omega
          · have := i1 x hx; omega
        · rw [i2 i (fun x hx => hn x (by simp [hx])), nth_set_ne _ _ (fun e => hn j (by simp) (by omega))]
        · by_cases hre : rest = []
          · exact ⟨j, by simp, by rw [ej, hre]; simp only [leftI]; omega⟩
          · obtain ⟨x, hx, q⟩ := i3 hre
            exact ⟨x, by simp [hx], by omega⟩
      · have e1 : (w.after j rest).l = rest ++ [(j.1, j.2 - tk w.turn j)] := by simp only [Rd.after, hz, if_false]
        have e2 : putE w j out = out := by simp only [putE, hz, if_false]
        rw [e1] at i1 i2 i3
        rw [e2] at i2
        refine ⟨fun x hx => ?_, fun i hn => ?_, fun _ => ?_⟩
        · rcases List.mem_cons.1 hx with rfl | hx
          · have := i1 _ (List.mem_append_right _ (List.mem_singleton.2 rfl)); dsimp only at this; omega
          · have := i1 x (by simp [hx]); omega
        · refine i2 i fun x hx => ?_
          rcases List.mem_append.1 hx with hx | hx
          · exact hn x (by simp [hx])
          · simp at hx; subst hx; exact hn j (by simp)
        · obtain ⟨x, hx, q⟩ := i3 (by simp)
          rcases List.mem_append.1 hx with hx | hx
          · exact ⟨x, by simp [hx], by omega⟩
          · simp at hx; subst hx; exact ⟨j, by simp, by dsimp only at q; omega⟩

def sumI : List Int → Int
  | [] => 0
  | z :: l => z + sumI l
theorem sumI_append : ∀ (a b : List Int), sumI (a ++ b) = sumI a + sumI b
  | [], b => by simp [sumI]
  | j :: a, b => by simp only [List.cons_append, sumI, sumI_append a b]; omega
theorem leftI_sum (l : List Jb) : leftI l = sumI (l.map (·.2)) := by
  induction l with
  | nil => rfl
  | cons j l ih => simp only [leftI, List.map_cons, sumI, ih]
theorem jobs_nd (needs : List Int) (N : Nat) : Ids (jobs needs N) N := by
  refine ⟨?_, fun j hj => ?_⟩
  · have : (jobs needs N).map (·.1) = (List.range N).map (fun (k : Nat) => (k : Int)) := by simp only [jobs, List.map_map]; rfl
    rw [this]
    rw [List.Nodup, List.pairwise_map]
    exact List.nodup_range.imp fun h e => h (Int.ofNat.inj e)
  · obtain ⟨k, h1, rfl⟩ := jobs_mem hj
    exact ⟨by dsimp only; omega, by dsimp only; omega⟩
theorem jobs_has {needs : List Int} {N k : Nat} (h : k < N) : ((k : Int), nth needs k) ∈ jobs needs N := by
  simp only [jobs, List.mem_map, List.mem_range]
  exact ⟨k, h, rfl⟩
theorem take_sum {zs : List Int} {i : Nat} (h : i < zs.length) : sumI (zs.take (i + 1)) = sumI (zs.take i) + nth zs i := by
  rw [takeS (nth_get h), sumI_append]; simp [sumI]
theorem jobs_sum (needs : List Int) : ∀ N, N ≤ needs.length → leftI (jobs needs N) = sumI (needs.take N)
  | 0, _ => by simp [jobs, leftI, sumI]
  | N + 1, h => by
    rw [jobs_succ, leftI_snoc, jobs_sum needs N (by omega), take_sum (by omega)]

/-- The greatest, no less than nought. -/
def maxI (zs : List Int) : Int := zs.foldl max 0
theorem maxI_snoc (l : List Int) (z : Int) : maxI (l ++ [z]) = max (maxI l) z := by simp [maxI]
theorem foldl_max : ∀ (l : List Int) (z : Int), z ≤ l.foldl max z ∧ (∀ x ∈ l, x ≤ l.foldl max z) ∧ (l.foldl max z = z ∨ l.foldl max z ∈ l)
  | [], z => by simp
  | x :: l, z => by
    have ⟨h1, h2, h3⟩ := foldl_max l (max z x)
    simp only [List.foldl_cons]
    refine ⟨by omega, fun y hy => ?_, ?_⟩
    · rcases List.mem_cons.1 hy with rfl | hy
      · omega
      · exact h2 y hy
    · rcases h3 with h | h
      · by_cases hzx : z ≤ x
        · right; rw [h, Int.max_eq_right hzx]; simp
        · left; rw [h]; omega
      · right; simp [h]
theorem maxI_eq {l : List Int} {T : Int} (h0 : 0 ≤ T) (h1 : ∀ z ∈ l, z ≤ T) (h2 : T = 0 ∨ T ∈ l) : maxI l = T := by
  have ⟨p1, p2, p3⟩ := foldl_max l 0
  unfold maxI
  rcases h2 with h2 | h2
  · rcases p3 with p3 | p3
    · omega
    · have := h1 _ p3; omega
  · have := p2 _ h2
    rcases p3 with p3 | p3
    · omega
    · have := h1 _ p3; omega

/-- What is to be shown of the ends. -/
theorem ends_law {turn : Int} {needs : List Int} (hv : Valid turn needs) {E : List Int} (hE : endsI ⟨turn, 0, jobs needs needs.length⟩ (List.replicate needs.length 0) = E) :
    E.length = needs.length ∧ (∀ i, i < needs.length → nth needs i ≤ nth E i ∧ nth E i ≤ 640000) ∧ maxI E = sumI needs := by
  have hr : Rok ⟨turn, 0, jobs needs needs.length⟩ := ⟨⟨hv.1, hv.2.1⟩, fun j hj => by
    obtain ⟨k, h1, rfl⟩ := jobs_mem hj
    exact hv.2.2.2 _ (nth_mem h1)⟩
  have hi : Ids (jobs needs needs.length) (List.replicate needs.length (0 : Int)).length := by rw [List.length_replicate]; exact jobs_nd _ _
  have hle := leftI_le _ hr.ok
  dsimp only at hle
  rw [jobs_length] at hle
  have h64 := hv.2.2.1
  have ⟨a1, a2, a3⟩ := ends_spec _ ⟨turn, 0, jobs needs needs.length⟩ (List.replicate needs.length 0) hr hi (Int.self_le_toNat _)
  rw [hE] at a1 a2 a3
  dsimp only at a1 a2 a3
  have hlen : E.length = needs.length := by rw [← hE, endsI_length, List.length_replicate]
  have hs : leftI (jobs needs needs.length) = sumI needs := by rw [jobs_sum _ _ (Nat.le_refl _), List.take_length]
  rw [hs] at a1 a3 hle
  have hsb : sumI needs ≤ 640000 := by omega
  have hb : ∀ i, i < needs.length → nth needs i ≤ nth E i ∧ nth E i ≤ sumI needs := fun i h => by
    have := a1 _ (jobs_has (needs := needs) h)
    simp at this; exact this
  refine ⟨hlen, fun i h => ⟨(hb i h).1, by have := (hb i h).2; omega⟩, maxI_eq (T := sumI needs) (by omega) (fun z hz => ?_) ?_⟩
  · obtain ⟨k, hk, rfl⟩ := List.getElem_of_mem hz
    rw [nth_elem hk]; exact (hb k (by omega)).2
  · by_cases hN : needs = []
    · left; rw [hN]; rfl
    · have hp : 0 < needs.length := by cases needs with
        | nil => exact absurd rfl hN
        | cons z l => simp
      obtain ⟨j, hj, q⟩ := a3 (fun e => by have := congrArg List.length e; rw [jobs_length] at this; simp only [List.length_nil] at this; omega)
      obtain ⟨k, h1, rfl⟩ := jobs_mem hj
      simp at q
      right; rw [← q]; exact nth_mem (by omega)

theorem ends (m0 : Mem) (x0 x1' : V) (h0 : IsV m0 (.int .i64) x0) (h1 : IsV m0 (.slice 1 (.int .i64)) x1') : ACalls Try.prog 5 [x0, x1'] m0 (fun r _ => r = .bool true) := by
  obtain ⟨turn, rfl, hwt⟩ := h0.int
  refine run_on x6 hm c5 (by simp) fun hf => ?_
  obtain ⟨needs, hv, hml, hwf⟩ := h1.slI hf
  obtain ⟨N, hN, hv1⟩ := len1 hv
  by_cases hl : (100 : Int) < N
  · simp (disch := omega) [b5, F6, hv1]
  simp (disch := omega) [b5, F6, hv1]
  refine ends_calls hv (by omega) (fun hbad v' m' q1 q2 => ?_) (fun hval v' m' q1 q2 q3 => ?_)
  · obtain ⟨ok0, hok0⟩ : ∃ b, b = decide (1 ≤ turn ∧ turn ≤ 1000 ∧ N ≤ 64) := ⟨_, rfl⟩
    have hok1 : ok0 = true → 1 ≤ turn ∧ turn ≤ 1000 ∧ N ≤ 64 := fun h => by rw [hok0] at h; simpa using h
    by_cases t1 : 1 ≤ turn
    case' neg =>
      have e0 : ok0 = false := by rw [hok0]; simp; omega
      simp (disch := omega) [hv1]
    case' pos =>
      by_cases t2 : turn ≤ 1000
      case' neg =>
        have e0 : ok0 = false := by rw [hok0]; simp; omega
        simp (disch := omega) [hv1]
      case' pos =>
        by_cases t3 : N ≤ 64
        case' neg =>
          have e0 : ok0 = false := by rw [hok0]; simp; omega
          simp (disch := omega) [hv1]
        case' pos =>
          have e0 : ok0 = true := by rw [hok0]; simp; omega
          simp (disch := omega) [hv1]
    all_goals
      refine exec_loopU (σ := Nat × Int × Bool) (fun (i, tot, ok) => [(6, .int .i64 tot), (7, .bool ok), (34, .int .i64 i)]) (fun _ => m') (fun (i, tot, ok) => i ≤ N ∧ 0 ≤ tot ∧ tot ≤ i * 10000 ∧ (ok = true → 1 ≤ turn ∧ turn ≤ 1000 ∧ N ≤ 64 ∧ ∀ k, k < i → 1 ≤ nth needs k ∧ nth needs k ≤ 10000)) (fun (i, _, _) => N - i) (0, 0, ok0) rfl
        ⟨by omega, by omega, by omega, fun h => ⟨(hok1 h).1, (hok1 h).2.1, (hok1 h).2.2, fun k hk => by omega⟩⟩ (by rw [e0]; simp) ?_
      clear hok0 e0 hok1
      try clear t3
      try clear t2
      clear t1
      intro (i, tot, ok) ⟨a1, a2, a3, a4⟩
      by_cases hi : i < N
      · obtain ⟨p, q, full, rw, b1, b2, b3, b4⟩ := at1 (hv.grow q2) (y := i) (by omega)
        cases ok with
        | false =>
          simp (disch := omega) [-getElem?_pos, b1, b3, b4]
          exact again_mk (i + 1, tot, false) (by dsimp only; exact ⟨by omega, by omega, by omega, fun h => (by cases h)⟩) (by dsimp only; omega) (by simp) rfl
        | true =>
          obtain ⟨c1, c2, c3, c4⟩ := a4 rfl
          clear a4
          by_cases g1 : 1 ≤ nth needs i
          · by_cases g2 : nth needs i ≤ 10000
            · simp (disch := omega) [-getElem?_pos, b1, b3, b4]
              refine again_mk (i + 1, tot + nth needs i, true) ?_ (by dsimp only; omega) (by simp) rfl
              dsimp only
              refine ⟨by omega, by omega, by omega, fun _ => ⟨c1, c2, c3, fun k hk => ?_⟩⟩
              by_cases e : k = i
              · subst e; exact ⟨g1, g2⟩
              · exact c4 k (by omega)
            · simp (disch := omega) [-getElem?_pos, b1, b3, b4]
              exact again_mk (i + 1, tot, false) (by dsimp only; exact ⟨by omega, by omega, by omega, fun h => (by cases h)⟩) (by dsimp only; omega) (by simp) rfl
          · simp (disch := omega) [-getElem?_pos, b1, b3, b4]
            exact again_mk (i + 1, tot, false) (by dsimp only; exact ⟨by omega, by omega, by omega, fun h => (by cases h)⟩) (by dsimp only; omega) (by simp) rfl
      · have hok : ok = false := by
          cases ok with
          | false => rfl
          | true =>
            obtain ⟨c1, c2, c3, c4⟩ := a4 rfl
            exact absurd ⟨c1, c2, by omega, fun z hz => by
              obtain ⟨k, hk, rfl⟩ := List.getElem_of_mem hz
              rw [nth_elem hk]; exact c4 k (by omega)⟩ hbad
        clear a4
        simp (disch := omega) [hok, q1]
  · have ht := hval.1
    have ht2 := hval.2.1
    have hn := hval.2.2.1
    have hz : ∀ k, k < N → 1 ≤ nth needs k ∧ nth needs k ≤ 10000 := fun k hk => hval.2.2.2 _ (nth_mem (by omega))
    obtain ⟨E, hE⟩ : ∃ E, endsI ⟨turn, 0, jobs needs needs.length⟩ (List.replicate needs.length 0) = E := ⟨_, rfl⟩
    obtain ⟨e1, e2, e3⟩ := ends_law hval hE
    rw [hE] at q1
    clear hval
    have hv2 := q1.sl.lenSl
    rw [rowI_length, e1, hN] at hv2
    have hs : ∀ k, k ≤ N → 0 ≤ sumI (needs.take k) ∧ sumI (needs.take k) ≤ k * 10000 := by
      intro k
      induction k with
      | zero => intro _; simp [sumI]
      | succ k ih =>
        intro hk
        rw [take_sum (by omega)]
        have := ih (by omega)
        have := hz k (by omega)
        omega
    simp (disch := omega) [hv1]
    refine exec_loopU (σ := Nat) (fun i => [(6, .int .i64 (sumI (needs.take i))), (7, .bool true), (34, .int .i64 i)]) (fun _ => m') (fun i => i ≤ N) (fun i => N - i) 0 rfl (Nat.zero_le _) (by simp [sumI]) ?_
    intro i hi
    by_cases hi2 : i < N
    · obtain ⟨p, q, full, rw, b1, b2, b3, b4⟩ := at1 (hv.grow q2) (y := i) (by omega)
      have := hz i hi2
      have := hs i hi
      simp (disch := omega) [-getElem?_pos, b1, b3, b4]
      exact again_mk (i + 1) (by omega) (by omega) (by simp [take_sum (zs := needs) (i := i) (by omega)]) rfl
    · have : i = N := by omega
      subst this
      have htk : needs.take i = needs := by rw [← hN, List.take_length]
      have hsN := hs i (Nat.le_refl _)
      rw [htk] at hsN
      clear hs
      simp (disch := omega) [htk, hv2]
      refine exec_loopU (σ := Nat) (fun j => [(10, .int .i64 (maxI (E.take j))), (59, .int .i64 j)]) (fun _ => m') (fun j => j ≤ i) (fun j => i - j) 0 rfl (Nat.zero_le _) (by simp [maxI]) ?_
      intro j hj
      by_cases hj2 : j < i
      · obtain ⟨p, q, full, rw, b1, b2, b3, b4⟩ := at1 q1.sl (y := j) (by omega)
        obtain ⟨p', q', full', rw', b1', b2', b3', b4'⟩ := at1 (hv.grow q2) (y := j) (by omega)
        have h5 := e2 j (by omega)
        simp (disch := omega) [-getElem?_pos, b1, b3, b4, b1', b3', b4']
        exact again_mk (j + 1) (by omega) (by omega) (by rw [takeS (nth_get (by omega)), maxI_snoc]; simp) rfl
      · have : j = i := by omega
        subst this
        have htE : E.take j = E := by rw [List.take_of_length_le (by omega)]
        simp (disch := omega) [htE, hv1, hv2, e3]

end Go.Proofs.Ytgmidpacmlkfgaa
