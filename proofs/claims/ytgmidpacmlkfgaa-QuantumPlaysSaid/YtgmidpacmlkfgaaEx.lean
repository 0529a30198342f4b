/-
  WHEN JOBS ARE DONE, in plain words, and that this is what Ends tells.
-/
import Derived.Test.YtgmidpacmlkfgaaGx
namespace Go.Proofs.Ytgmidpacmlkfgaa
open Go Go.AM
set_option linter.unusedVariables false
set_option linter.unusedSimpArgs false
set_option maxRecDepth 8000
set_option maxHeartbeats 4000000

/-- What is written down behind a turn. -/
def putE (w : Rd) (j : Jb) (out : List Int) : List Int := if j.2 - tk w.turn j = 0 then out.set j.1.toNat (w.now + tk w.turn j) else out
def runE : Nat → Rd → List Int → List Int
  | 0, _, out => out
  | k + 1, w, out => match w.l with
    | [] => out
    | j :: rest => runE k (w.after j rest) (putE w j out)

structure Rok (w : Rd) : Prop where
  turn : 1 ≤ w.turn ∧ w.turn ≤ 1000
  ok : ∀ j ∈ w.l, 1 ≤ j.2 ∧ j.2 ≤ 10000

theorem Round.rok {m : Mem} {D : List Nat} {r : Nat} {w : Rd} (h : Round m D r w) : Rok w := ⟨h.turn, h.ok⟩

theorem after_left {w : Rd} {j : Jb} {rest : List Jb} (hl : w.l = j :: rest) : leftI (w.after j rest).l = leftI w.l - tk w.turn j := by
  rw [hl]
  simp only [Rd.after]
  split
  · simp only [leftI]; omega
  · rw [leftI_snoc]; simp only [leftI]; omega
theorem Rok.tk {w : Rd} (h : Rok w) {j : Jb} {rest : List Jb} (hl : w.l = j :: rest) : 1 ≤ tk w.turn j ∧ tk w.turn j ≤ 1000 ∧ tk w.turn j ≤ j.2 := by
  have h1 := h.turn
  have h2 := h.ok j (by rw [hl]; simp)
  unfold Go.Proofs.Ytgmidpacmlkfgaa.tk; omega
theorem Rok.after {w : Rd} (h : Rok w) {j : Jb} {rest : List Jb} (hl : w.l = j :: rest) : Rok (w.after j rest) := by
  have h3 := h.tk hl
  refine ⟨h.turn, fun x hx => ?_⟩
  simp only [Rd.after] at hx
  split at hx
  · exact h.ok x (by rw [hl]; simp [hx])
  · rcases List.mem_append.1 hx with hx | hx
    · exact h.ok x (by rw [hl]; simp [hx])
    · have := h.ok j (by rw [hl]; simp)
      simp at hx; subst hx; exact ⟨by dsimp only; omega, by dsimp only; omega⟩

theorem runE_more : ∀ (k : Nat) (w : Rd) (out : List Int), Rok w → leftI w.l ≤ k → runE (k + 1) w out = runE k w out
  | 0, w, out, h, hk => by
    have := leftI_le w.l h.ok
    have : w.l = [] := List.eq_nil_of_length_eq_zero (by omega)
    simp only [runE, this]
  | k + 1, w, out, h, hk => by
    rw [runE]
    conv => rhs; rw [runE]
    cases hl : w.l with
    | nil => rfl
    | cons j rest =>
      have h3 := h.tk hl
      exact runE_more k _ _ (h.after hl) (by rw [after_left hl]; omega)

/-- When jobs are done. -/
def endsI (w : Rd) (out : List Int) : List Int := runE (leftI w.l).toNat w out
theorem runE_ends : ∀ (d : Nat) (w : Rd) (out : List Int), Rok w → runE ((leftI w.l).toNat + d) w out = endsI w out
  | 0, w, out, h => rfl
  | d + 1, w, out, h => by
    have := leftI_le w.l h.ok
    rw [← Nat.add_assoc, runE_more _ _ _ h (by omega)]; exact runE_ends d w out h

theorem endsI_nil {w : Rd} (hl : w.l = []) (out : List Int) : endsI w out = out := by
  simp only [endsI, hl, leftI]; rfl
theorem endsI_cons {w : Rd} (h : Rok w) {j : Jb} {rest : List Jb} (hl : w.l = j :: rest) (out : List Int) : endsI w out = endsI (w.after j rest) (putE w j out) := by
  have h3 := h.tk hl
  have h4 := after_left hl
  have h5 := leftI_le _ (h.after hl).ok
  have h6 := leftI_le w.l h.ok
  obtain ⟨k, hk⟩ : ∃ k, (leftI w.l).toNat = k + 1 := ⟨(leftI w.l).toNat - 1, by rw [hl] at h6; simp at h6; omega⟩
  have e1 : endsI w out = runE k (w.after j rest) (putE w j out) := by
    unfold endsI; rw [hk, runE, hl]
  rw [e1]
  obtain ⟨d, hd⟩ : ∃ d, k = (leftI (w.after j rest).l).toNat + d := ⟨k - (leftI (w.after j rest).l).toNat, by omega⟩
  rw [hd]
  exact runE_ends d _ _ (h.after hl)

theorem putE_length (w : Rd) (j : Jb) (out : List Int) : (putE w j out).length = out.length := by unfold putE; split <;> simp
theorem runE_length : ∀ (k : Nat) (w : Rd) (out : List Int), (runE k w out).length = out.length
  | 0, _, _ => rfl
  | k + 1, w, out => by
    rw [runE]
    cases hl : w.l with
    | nil => rfl
    | cons j rest => rw [runE_length, putE_length]
theorem endsI_length (w : Rd) (out : List Int) : (endsI w out).length = out.length := runE_length _ _ _

/-- The jobs of these needs. -/
def jobs (needs : List Int) (i : Nat) : List Jb := (List.range i).map fun (j : Nat) => ((j : Int), nth needs j)
theorem jobs_succ (needs : List Int) (i : Nat) : jobs needs (i + 1) = jobs needs i ++ [((i : Int), nth needs i)] := by simp [jobs, List.range_succ]
theorem jobs_length (needs : List Int) (i : Nat) : (jobs needs i).length = i := by simp [jobs]
theorem jobs_mem {needs : List Int} {i : Nat} {j : Jb} (h : j ∈ jobs needs i) : ∃ k : Nat, k < i ∧ j = ((k : Int), nth needs k) := by
  simp only [jobs, List.mem_map, List.mem_range] at h
  obtain ⟨k, h1, rfl⟩ := h
  exact ⟨k, h1, rfl⟩
theorem jobs_idx (needs : List Int) (i : Nat) : idxI (isId i) (jobs needs i) = -1 := by
  apply idxI_none
  intro j hj
  obtain ⟨k, h1, rfl⟩ := jobs_mem hj
  simp [isId]; omega

theorem rowI_set (k : IntKind) (zs : List Int) (i : Nat) (z : Int) : (rowI k zs).set i [.int k z] = rowI k (zs.set i z) := by simp [rowI, List.map_set]
theorem rowI_replicate (k : IntKind) (n : Nat) (z : Int) : List.replicate n [V.int k z] = rowI k (List.replicate n z) := by simp [rowI]

/-- May these be? -/
def Valid (turn : Int) (needs : List Int) : Prop := 1 ≤ turn ∧ turn ≤ 1000 ∧ needs.length ≤ 64 ∧ ∀ n ∈ needs, 1 ≤ n ∧ n ≤ 10000

theorem ends_calls {m : Mem} {turn : Int} {v : V} {needs : List Int} (hv : Sl m 1 v (rowI .i64 needs)) (hl : needs.length ≤ 200) {K : KV}
    (h1 : ¬ Valid turn needs → ∀ v' m', lenSl v' = some (.int .i64 0) → m.Grew m' → K v' m')
    (h2 : Valid turn needs → ∀ v' m', Ows m' 1 v' (rowI .i64 (endsI ⟨turn, 0, jobs needs needs.length⟩ (List.replicate needs.length 0))) → m.Grew m' → (∀ p ∈ v'.fp, m.next ≤ p) → K v' m') : ACalls Try.prog 14 [.int .i64 turn, v] m K := by
  refine run_on x1 hm c14 (by simp) fun hf => ?_
  obtain ⟨N, hN, hv1⟩ := len1 hv
  simp (disch := omega) [b14]
  refine new_calls (fun hbad => ?_) (fun t1 t2 r m1 hR hr hg => ?_)
  · have hinv : ¬ Valid turn needs := fun h => hbad ⟨h.1, h.2.1⟩
    simp (disch := omega) [hv1]
    refine exec_loopU (σ := Unit) (fun _ => []) (fun _ => _) (fun _ => True) (fun _ => 0) () rfl trivial (by simp) ?_
    intro _ _
    by_cases hN0 : 0 < N
    · obtain ⟨p, q, full, rw, b1, b2, b3, b4⟩ := at1 hv (y := 0) (by omega)
      simp at b1
      simp (disch := omega) [-getElem?_pos, b1, b3, b4]
      refine add_nil ?_
      simp (disch := omega)
      exact h1 hinv _ _ rfl (Mem.Grew.new _ _)
    · simp (disch := omega)
      refine next_nil fun m2 hg2 => ?_
      have hNz : N = 0 := by omega
      subst hNz
      simp (disch := omega)
      refine exec_loopU (σ := Unit) (fun _ => []) (fun _ => _) (fun _ => True) (fun _ => 0) () rfl trivial (by simp) ?_
      intro _ _
      simp (disch := omega)
      exact h1 hinv _ _ rfl (((Mem.Grew.new _ _).trans hg2).trans (Mem.Grew.new _ _))
  · simp (disch := omega) [hv1]
    have hgo := Mem.Grew.new m1 (.row 1 (List.replicate N [.int .i64 0]) true)
    have hO : Ows (m1.new (.row 1 (List.replicate N [.int .i64 0]) true)) 1 (.sl (some (m1.next, 0, 1)) N (some N)) (rowI .i64 (List.replicate N 0)) :=
      ⟨.inr ⟨m1.next, 0, rowI .i64 (List.replicate N 0), some N, by rw [rowI_length]; simp, by simp, by simp [rowI_replicate], by simp [rowI_length], fun j _ => by rw [Nat.zero_add], fun k hk => by simp at hk; subst hk; rw [rowI_length]; simp⟩⟩
    have hR1 := hR.grow hgo
    have hg1 := hg.trans hgo
    have hrl := hR.lt r (by simp)
    have hg0 := hg.next
    have hn0 : m1.next < (m1.new (.row 1 (List.replicate N [.int .i64 0]) true)).next := by simp
    generalize m1.new (.row 1 (List.replicate N [.int .i64 0]) true) = m2 at *
    refine exec_loopU (σ := Nat × List Nat × Mem) (fun (i, _, _) => [(18, .int .i64 i)]) (fun (_, _, M) => M) (fun (i, D, M) => i ≤ N ∧ i ≤ 64 ∧ (∀ k, k < i → 1 ≤ nth needs k ∧ nth needs k ≤ 10000) ∧ Round M D r ⟨turn, 0, jobs needs i⟩ ∧ m.Grew M ∧ (∀ p ∈ D, m.next ≤ p ∧ p ≠ m1.next) ∧ Ows M 1 (.sl (some (m1.next, 0, 1)) N (some N)) (rowI .i64 (List.replicate N 0))) (fun (i, _, _) => N - i) (0, [r], m2) rfl
      ⟨by omega, by omega, fun k hk => by omega, hR1, hg1, by simp; omega, hO⟩ (by simp) ?_
    intro (i, D, M) ⟨a1, a2, a3, a4, a5, a6, a7⟩
    by_cases hi : i < N
    · obtain ⟨p, q, full, rw, b1, b2, b3, b4⟩ := at1 (hv.grow a5) (y := i) (by omega)
      simp (disch := omega) [-getElem?_pos, b1, b3, b4]
      refine add_calls a4 (fun he => ?_) (fun he M' D' s1 s2 => ?_)
      · have hinv : ¬ Valid turn needs := fun h => he (by
          have h3 := h.2.2.2 _ (nth_mem (show i < needs.length by omega))
          have h4 := h.2.2.1
          unfold addE
          rw [if_neg (by omega)]
          dsimp only
          rw [jobs_idx, jobs_length, if_neg (by omega), if_neg (by omega)])
        simp (disch := omega) [he]
        exact h1 hinv _ _ rfl a5
      · simp (disch := omega)
        have hz : 1 ≤ nth needs i ∧ nth needs i ≤ 10000 ∧ i < 64 := by
          unfold addE at he
          dsimp only at he
          rw [jobs_idx, jobs_length] at he
          by_cases h3 : nth needs i < 1 ∨ 10000 < nth needs i
          · rw [if_pos h3] at he; omega
          · rw [if_neg h3, if_neg (by omega)] at he
            by_cases h4 : 64 ≤ i
            · rw [if_pos h4] at he; omega
            · omega
        dsimp only at s1
        rw [← jobs_succ] at s1
        refine again_mk (i + 1, D', M') ?_ (by dsimp only; omega) (by simp) rfl
        dsimp only
        refine ⟨by omega, by omega, fun k hk => ?_, s1, s2.toGrew a5 (fun p hp => (a6 p hp).1), fun p hp => ?_, a7.step s2 (fun p hp he => by simp [V.fp] at he; exact (a6 p hp).2 he)⟩
        · by_cases e : k = i
          · subst e; exact ⟨hz.1, hz.2.1⟩
          · exact a3 k (by omega)
        · rcases s2.fp p hp with q | q
          · exact a6 p q
          · have h5 := a5.next
            have h6 := a7.lt m1.next (by simp [V.fp])
            omega
    · have hiN : i = N := by omega
      subst hiN
      have hval : Valid turn needs := ⟨t1, t2, by omega, fun n hn => by
        obtain ⟨k, hk, rfl⟩ := List.getElem_of_mem hn
        have := a3 k (by omega)
        rw [← nth_elem hk] at this; exact this⟩
      replace h2 := h2 hval
      rw [hN] at h2
      clear h1 hval hR hR1 hO hg1 hg hgo
      have hle := leftI_le (jobs needs i) a4.ok
      rw [jobs_length] at hle
      have hids : ∀ j ∈ jobs needs i, 0 ≤ j.1 ∧ j.1 < i := fun j hj => by
        obtain ⟨k, h1, rfl⟩ := jobs_mem hj
        exact ⟨by dsimp only; omega, by dsimp only; omega⟩
      obtain ⟨FF, hF⟩ : ∃ FF, endsI ⟨turn, 0, jobs needs i⟩ (List.replicate i 0) = FF := ⟨_, rfl⟩
      rw [hF] at h2
      obtain ⟨T, hT⟩ : ∃ T, leftI (jobs needs i) = T := ⟨_, rfl⟩
      simp (disch := omega)
      have entry : ∀ (w : Rd) (D : List Nat) (M : Mem) (out : List Int) (K : KV), Round M D r w → (∀ j ∈ w.l, 0 ≤ j.1 ∧ j.1 < i) → endsI w out = FF → w.now + leftI w.l = T →
          (∀ (m' : Mem) (D' : List Nat) (w' : Rd) (a b c : Int) (d ok : Bool), Round m' D' r w' → Stp M m' D D' → (∀ j ∈ w'.l, 0 ≤ j.1 ∧ j.1 < i) → w'.now + leftI w'.l = T → leftI w'.l + (if ok then 1 else 0) ≤ leftI w.l →
            (ok = false → out = FF) → (ok = true → (0 ≤ a ∧ a < i ∧ 0 ≤ b ∧ 0 ≤ c ∧ b + c ≤ T) ∧ endsI w' (if d then out.set a.toNat (b + c) else out) = FF) → K (.tup [.agg [.int .i64 a, .int .i64 b, .int .i64 c, .bool d], .bool ok]) m') →
          ACalls Try.prog 10 [.ptr (some (r, 0, 0))] M K := by
        intro w D M out K hR hids hE hTT k
        have hlw := leftI_le w.l hR.ok
        refine next_calls hR (by omega) (fun he m3 s1 s2 => ?_) (fun j rest he m3 D3 s1 s2 => ?_)
        · exact k m3 D w 0 0 0 false false s1 s2 hids hTT (by simp) (fun _ => by rw [endsI_nil he] at hE; exact hE) (fun h => by cases h)
        · have h3 := hR.rok.tk he
          have h4 := after_left he
          have h5 := leftI_le _ s1.ok
          have h6 := hids j (by rw [he]; simp)
          have h7 : (w.after j rest).now = w.now + tk w.turn j := rfl
          have h8 := hR.now
          refine k m3 D3 _ j.1 w.now (tk w.turn j) (decide (j.2 - tk w.turn j = 0)) true s1 s2 (fun x hx => ?_) (by omega) (by simp; omega) (fun h => by cases h) (fun _ => ⟨⟨h6.1, h6.2, h8.1, by omega, by omega⟩, ?_⟩)
          · simp only [Rd.after] at hx
            split at hx
            · exact hids x (by rw [he]; simp [hx])
            · rcases List.mem_append.1 hx with hx | hx
              · exact hids x (by rw [he]; simp [hx])
              · simp at hx; subst hx; exact h6
          · rw [endsI_cons hR.rok he] at hE
            rw [← hE]; unfold putE
            by_cases hz : j.2 - tk w.turn j = 0
            · simp [hz]
            · simp [hz]
      refine entry ⟨turn, 0, jobs needs i⟩ D M (List.replicate i 0) _ a4 hids hF (by dsimp only; omega) fun m3 D3 w3 xa xb xc xd ok q1 q2 q3 q4 q5 q6 q7 => ?_
      have hTb : T ≤ 640000 := by omega
      clear hF hids hT
      have hD : ∀ p ∈ D, p ≠ m1.next := fun p hp => (a6 p hp).2
      have hD3 : ∀ p ∈ D3, m.next ≤ p ∧ p ≠ m1.next := fun p hp => by
        rcases q2.fp p hp with q | q
        · exact a6 p q
        · have h5 := a5.next
          have h6 := a7.lt m1.next (by simp [V.fp])
          omega
      have b7 := a7.step q2 (fun p hp he => by simp [V.fp] at he; exact (a6 p hp).2 he)
      have b5 := q2.toGrew a5 (fun p hp => (a6 p hp).1)
      have hout : (List.replicate i (0 : Int)).length = i := by simp
      clear a2 a3 a4 a6 hi hle
      generalize List.replicate i (0 : Int) = out at *
      simp (disch := omega)
      refine exec_loopU (σ := Rd × List Int × (Int × Int × Int × Bool) × Bool × Nat × List Nat × Mem) (fun (_, _, _, ok, p, _, _) => [(9, .ptr (some (p, 0, 0))), (10, .bool ok)]) (fun (_, _, _, _, _, _, M) => M)
        (fun (w, out, (xa, xb, xc, xd), ok, p, D, M) => Round M D r w ∧ Ows M 1 (.sl (some (m1.next, 0, 1)) i (some i)) (rowI .i64 out) ∧ out.length = i ∧ m.Grew M ∧ (∀ p ∈ D, m.next ≤ p ∧ p ≠ m1.next) ∧ (p ∉ D ∧ p ≠ m1.next ∧ p < M.next ∧ m.next ≤ p ∧ M.obj p = some (.row 4 [[.int .i64 xa, .int .i64 xb, .int .i64 xc, .bool xd]] true)) ∧
          (∀ j ∈ w.l, 0 ≤ j.1 ∧ j.1 < i) ∧ w.now + leftI w.l = T ∧ (ok = false → out = FF) ∧ (ok = true → (0 ≤ xa ∧ xa < i ∧ 0 ≤ xb ∧ 0 ≤ xc ∧ xb + xc ≤ T) ∧ endsI w (if xd then out.set xa.toNat (xb + xc) else out) = FF))
        (fun (w, _, _, ok, _, _, _) => (leftI w.l).toNat + (if ok then 1 else 0))
        (w3, out, (xa, xb, xc, xd), ok, m3.next, D3, m3.new (.row 4 [[.int .i64 xa, .int .i64 xb, .int .i64 xc, .bool xd]] true)) rfl
        (by
          dsimp only
          have hl3 := q1.lt
          have h6 := b7.lt m1.next (by simp [V.fp])
          have h7 := b5.next
          exact ⟨q1.grow (Mem.Grew.new _ _), b7.grow (Mem.Grew.new _ _), hout, b5.trans (Mem.Grew.new _ _), hD3, ⟨fun e => by have := hl3 _ e; omega, by omega, by simp, by omega, by simp⟩, q3, q4, q6, q7⟩) (by simp) ?_
      clear q1 q2 q3 q4 q5 q6 q7 b7 b5 hout hD3 a5 a7
      intro (w, out, (xa, xb, xc, xd), ok, p, D, M) ⟨c1, c2, c3, c4, c5, ⟨c6, c7, c8, c8', c9⟩, c10, c11, c12, c13⟩
      cases ok with
      | false =>
        have := c12 rfl
        subst this
        clear c12 c13
        simp (disch := omega)
        exact h2 _ M c2 c4 (by simp [V.fp]; omega)
      | true =>
        obtain ⟨⟨d1, d2, d3, d4, d5⟩, d6⟩ := c13 rfl
        clear c12 c13
        obtain ⟨a, rfl⟩ := Int.eq_ofNat_of_zero_le d1
        obtain ⟨pp, q, full, e1, e2, e3, e4, e5, e6⟩ := c2.at (i := a) (x := [.int .i64 (nth out a)]) (by rw [rowI_get, nth_get (by omega)]; rfl) .i64
        simp [V.fp] at e5
        subst e5
        cases xd with
        | true =>
          simp (disch := omega) [-getElem?_pos, c9, e1, e3, e4]
          have hlD := c1.lt
          refine entry w D _ (out.set a (xb + xc)) _ (c1.keep (by simp) fun p' hp' => ?_) c10 (by simpa using d6) c11 fun m5 D5 w5 ya yb yc yd ok5 r1 r2 r3 r4 r5 r6 r7 => ?_
          · have h5 := hlD p' hp'
            have h6 := (c5 p' hp').2
            simp (disch := omega)
          have o1 := r2.obj M.next (by simp) (fun e => by have := hlD _ e; omega)
          have o2 := r2.obj m1.next (by simp <;> omega) (fun e => (c5 _ e).2 rfl)
          have o3 := r2.next
          simp (disch := omega) at o1 o2 o3
          simp (disch := omega) [o1]
          have hap : M.next ∉ D5 := fun e => by
            rcases r2.fp _ e with q' | q'
            · have := hlD _ q'; omega
            · simp at q'; omega
          have h4 : ∀ p' ∈ D5, m.next ≤ p' ∧ p' ≠ m1.next := fun p' hp' => by
            rcases r2.fp _ hp' with q' | q'
            · exact c5 p' q'
            · simp at q'; have := c4.next; omega
          refine again_mk (w5, out.set a (xb + xc), (ya, yb, yc, yd), ok5, M.next, D5, m5.upd M.next (some (.row 4 [[.int .i64 ya, .int .i64 yb, .int .i64 yc, .bool yd]] true))) ?_ ?_ (by simp) rfl
          · dsimp only
            have h9 := c4.next
            refine ⟨r1.keep (by simp) fun p' hp' => updO _ (fun e => hap (by rw [← e]; exact hp')), ?_, by simp [c3], ⟨by simp; omega, fun p' hp' => ?_⟩, h4, ⟨hap, by omega, by simp; omega, by omega, by simp⟩, r3, r4, r6, r7⟩
            · rw [← rowI_set]; exact e6 [.int .i64 (xb + xc)] _ (by simp (disch := omega) [o2]) (by simp; omega)
            · have h8 := r2.obj p' (by simp <;> omega) (fun e => by have := c5 _ e; omega)
              simp (disch := omega) at h8
              simp (disch := omega) [h8]
              exact c4.obj p' hp'
          · dsimp only
            have h5 := leftI_le _ r1.ok
            have h6 := leftI_le _ c1.ok
            cases ok5 <;> simp at r5 ⊢ <;> omega
        | false =>
          simp (disch := omega) [-getElem?_pos, c9, e1, e3, e4]
          have hlD := c1.lt
          refine entry w D _ out _ (c1.keep (by simp) fun p' hp' => ?_) c10 (by simpa using d6) c11 fun m5 D5 w5 ya yb yc yd ok5 r1 r2 r3 r4 r5 r6 r7 => ?_
          · have h5 := hlD p' hp'
            have h6 := (c5 p' hp').2
            simp (disch := omega)
          have o1 := r2.obj M.next (by simp) (fun e => by have := hlD _ e; omega)
          have o2 := r2.obj m1.next (by simp <;> omega) (fun e => (c5 _ e).2 rfl)
          have o3 := r2.next
          simp (disch := omega) at o1 o2 o3
          simp (disch := omega) [o1]
          have hap : M.next ∉ D5 := fun e => by
            rcases r2.fp _ e with q' | q'
            · have := hlD _ q'; omega
            · simp at q'; omega
          have h4 : ∀ p' ∈ D5, m.next ≤ p' ∧ p' ≠ m1.next := fun p' hp' => by
            rcases r2.fp _ hp' with q' | q'
            · exact c5 p' q'
            · simp at q'; have := c4.next; omega
          refine again_mk (w5, out, (ya, yb, yc, yd), ok5, M.next, D5, m5.upd M.next (some (.row 4 [[.int .i64 ya, .int .i64 yb, .int .i64 yc, .bool yd]] true))) ?_ ?_ (by simp) rfl
          · dsimp only
            have h9 := c4.next
            refine ⟨r1.keep (by simp) fun p' hp' => updO _ (fun e => hap (by rw [← e]; exact hp')), ?_, c3, ⟨by simp; omega, fun p' hp' => ?_⟩, h4, ⟨hap, by omega, by simp; omega, by omega, by simp⟩, r3, r4, r6, r7⟩
            · exact c2.keep (by simp; omega) fun p' hp' => by simp [V.fp] at hp'; subst hp'; simp (disch := omega) [o2]
            · have h8 := r2.obj p' (by simp <;> omega) (fun e => by have := c5 _ e; omega)
              simp (disch := omega) at h8
              simp (disch := omega) [h8]
              exact c4.obj p' hp'
          · dsimp only
            have h5 := leftI_le _ r1.ok
            have h6 := leftI_le _ c1.ok
            cases ok5 <;> simp at r5 ⊢ <;> omega

end Go.Proofs.Ytgmidpacmlkfgaa
