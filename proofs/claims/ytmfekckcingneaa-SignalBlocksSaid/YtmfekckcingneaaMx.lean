/-
  SIGNALBLOCKS, of what the functions of this seat do.
-/
import Derived.Test.YtmfekckcingneaaGx
namespace Go.Proofs.Ytmfekckcingneaa
open Go Go.AM
set_option linter.unusedVariables false
set_option linter.unusedSimpArgs false
set_option maxRecDepth 8000
set_option maxHeartbeats 4000000

/-- The signals that are sent, one by one. -/
def Sl16 (zs : List Int) (i : Nat) : List Sg := (List.range i).map fun (j : Nat) => (1 + nth zs j % 63, (j : Int), 0)
theorem Sl16_succ (zs : List Int) (i : Nat) : Sl16 zs (i + 1) = Sl16 zs i ++ [(1 + nth zs i % 63, (i : Int), 0)] := by simp [Sl16, List.range_succ]
theorem Sl16_length (zs : List Int) (i : Nat) : (Sl16 zs i).length = i := by simp [Sl16]
theorem sendL_Sl16 {zs : List Int} {i : Nat} (hi : i < 32) (n : Int) : sendL (Sl16 zs i) n i 0 = (Sl16 zs i ++ [(n, (i : Int), 0)], 0) := by
  have h : (Sl16 zs i).findIdx? (isAt n i) = none := by
    rw [List.findIdx?_eq_none_iff]
    intro s hs
    simp only [Sl16, List.mem_map, List.mem_range] at hs
    obtain ⟨j, hj, rfl⟩ := hs
    simp [isAt]; omega
  simp only [sendL, h, Sl16_length]
  rw [if_neg (by omega)]
theorem Sl16_sorted (zs : List Int) : ∀ i, (Sl16 zs i).Pairwise fun a b => a.2.1 < b.2.1
  | 0 => List.Pairwise.nil
  | i + 1 => by
    rw [Sl16_succ, List.pairwise_append]
    refine ⟨Sl16_sorted zs i, by simp, fun a ha b hb => ?_⟩
    simp only [Sl16, List.mem_map, List.mem_range] at ha
    obtain ⟨j, hj, rfl⟩ := ha
    simp at hb; subst hb
    simp; omega

theorem cut_sub {α : Type} (l : List α) (i : Nat) : (l.take i ++ l.drop (i + 1)).Sublist l := by
  rw [← List.eraseIdx_eq_take_drop_succ]; exact List.eraseIdx_sublist _ _

/-- What was taken, where it lies: some signal, or none. -/
def pop (M : Mem) (p : Nat) (s : Sg) : Prop := M.obj p = some (.row 3 [sg s] true) ∧ p < M.next

theorem openAt_none {l : List Sg} {blk : Nat → Bool} (h : openAt l blk = -1) : ∀ s ∈ l, blk s.1.toNat = true := by
  intro s hs
  rcases idxI_cases (isOpen blk) l with ⟨_, h2⟩ | ⟨i, x, h1, _⟩
  · have := h2 s hs
    simpa [isOpen] using this
  · have : openAt l blk = i := h1
    omega
theorem openAt_some {l : List Sg} {blk : Nat → Bool} {i : Nat} (h : openAt l blk = i) : ∃ s, l[i]? = some s ∧ blk s.1.toNat = false := by
  rcases idxI_cases (isOpen blk) l with ⟨h1, _⟩ | ⟨j, x, h1, h2, h3, _⟩
  · have : openAt l blk = -1 := h1
    omega
  · have : openAt l blk = j := h1
    have : i = j := by omega
    subst this
    exact ⟨x, h2, by simpa [isOpen] using h3⟩
theorem openAt_all {l : List Sg} {i : Nat} (h : openAt l (fun _ => false) = i) : i = 0 := by
  rcases idxI_cases (isOpen fun _ => false) l with ⟨h1, _⟩ | ⟨j, x, h1, h2, h3, h4⟩
  · have : openAt l (fun _ => false) = -1 := h1
    omega
  · have : openAt l (fun _ => false) = j := h1
    have : i = j := by omega
    subst this
    rcases Nat.eq_zero_or_pos i with h | h
    · exact h
    · exfalso
      have hi := (List.getElem?_eq_some_iff.1 h2).1
      have := h4 l[0] (List.mem_iff_getElem?.2 ⟨0, by rw [List.getElem?_take_of_lt h, List.getElem?_eq_getElem]⟩)
      simp [isOpen] at this

theorem blocks (m0 : Mem) (x0 x1' : V) (h0 : IsV m0 (.slice 1 (.int .u8)) x0) (h1 : IsV m0 (.int .u8) x1') : ACalls Try.prog 4 [x0, x1'] m0 (fun r _ => r = .bool true) := by
  obtain ⟨a, zs, c, rfl, _, hi, hz, ha⟩ := h0.ints
  obtain ⟨bb, rfl, w1⟩ := h1.int
  replace w1 := wf_u8 w1
  refine run_on x2 hm c4 (by simp) fun hf => ?_
  by_cases hl : (30 : Int) < zs.length
  · simp (disch := omega) [b4, F6]
  have e1 : bb.tmod 63 = bb % 63 := Int.tmod_eq_emod_of_nonneg (by omega)
  simp (disch := omega) [b4, F6]
  refine new_calls fun r m1 hQ hr hg => ?_
  simp (disch := omega) [e1]
  obtain ⟨b, hb⟩ : ∃ b : Nat, 1 + bb % 63 = b := ⟨(1 + bb % 63).toNat, by omega⟩
  rw [hb]
  refine block_calls hQ (fun h => by omega) fun _ _ m2 hQ2 hS2 => ?_
  simp only [Int.toNat_natCast] at hQ2
  obtain ⟨blk, hblk⟩ : ∃ blk : Nat → Bool, blk = fun k => if k = b then true else false := ⟨_, rfl⟩
  rw [← hblk] at hQ2
  have hg2 : m0.Grew m2 := hS2.toGrew hg (by simp; omega)
  simp (disch := omega)
  refine exec_loopU (σ := Nat × List Nat × Mem) (fun (i, _, _) => [(31, .int .i64 i)]) (fun (_, _, M) => M) (fun (i, D, M) => i ≤ zs.length ∧ Queue M D r (Sl16 zs i) blk ∧ m0.Grew M ∧ ∀ p ∈ D, m0.next ≤ p) (fun (i, _, _) => zs.length - i) (0, [r], m2) rfl ⟨by omega, hQ2, hg2, by simp; omega⟩ (by simp) ?_
  intro (i, D, M) ⟨a1, a2, a3, a4⟩
  by_cases hi2 : i < zs.length
  · have him : M.ints .u8 (.sl a zs.length c) = some zs := Mem.ints_keep hi (fun p o hp => by rw [a3.obj p (hf p o hp)]; exact hp)
    obtain ⟨_, hgt⟩ := Mem.ints_some him
    obtain ⟨rr, j, es, rw, rfl, ho, hle, he, hgt⟩ := hgt (by omega)
    have hgi := hgt i (by omega)
    have hzi := wf_u8 (hz _ (nth_mem hi2))
    have e2 : (nth zs i).tmod 63 = nth zs i % 63 := Int.tmod_eq_emod_of_nonneg (by omega)
    simp (disch := omega) [-getElem?_pos, ho, hgi, e2]
    refine send_calls a2 (fun h => by omega) fun _ _ _ _ m' D' q1 q2 => ?_
    rw [show min (0 : Int) 2147483647 = 0 by omega, sendL_Sl16 (by omega)] at q1 ⊢
    simp (disch := omega)
    rw [← Sl16_succ] at q1
    exact again_mk (i + 1, D', m') ⟨by omega, q1, q2.toGrew a3 a4, q2.ge a3.next a4⟩ (by dsimp only; omega) (by simp) rfl
  · have hin : i = zs.length := by omega
    subst hin
    have hsort := Sl16_sorted zs zs.length
    have hlen := Sl16_length zs zs.length
    have htm : ∀ s ∈ Sl16 zs zs.length, 0 ≤ s.2.1 := by
      intro s hs
      simp only [Sl16, List.mem_map, List.mem_range] at hs
      obtain ⟨j, hj, rfl⟩ := hs
      simp
    generalize Sl16 zs zs.length = Q0 at *
    generalize zs.length = N at *
    have hN : N ≤ 30 := by omega
    clear hi hz ha h0 hl
    simp (disch := omega)
    -- the first taking
    have entry : ∀ (blk' : Nat → Bool) (D : List Nat) (M : Mem) (Q : List Sg) (K : KV), Queue M D r Q blk' →
        (∀ (m' : Mem) (D' : List Nat) (s : Sg) (Q' : List Sg) (ok : Bool), Queue m' D' r Q' blk' → Stp M m' D D' → (ok = true → ∃ i, openAt Q blk' = (i : Nat) ∧ Q[i]? = some s ∧ Q' = Q.take i ++ Q.drop (i + 1)) → (ok = false → openAt Q blk' = -1 ∧ Q' = Q) → K (.tup [.agg (sg s), .bool ok]) m') →
        ACalls Try.prog 9 [.ptr (some (r, 0, 0))] M K := by
      intro blk' D M Q K hq k
      exact take_calls hq (fun h m' q1 q2 => k m' D (0, 0, 0) Q false q1 q2 (fun h => by cases h) (fun _ => ⟨h, rfl⟩)) (fun i s h1 h2 m' D' q1 q2 => k m' D' s _ true q1 q2 (fun _ => ⟨i, h1, h2, rfl⟩) (fun h => by cases h))
    refine entry blk D M Q0 _ a2 fun m3 D3 s Q ok q1 q2 q3 q4 => ?_
    have hl3 := q1.lt
    simp (disch := omega) [sg]
    refine exec_loopU (σ := Nat × Sg × List Sg × Bool × Nat × List Nat × Mem) (fun (oth, s, Q, ok, p, _, _) => [(9, .int .i64 oth), (10, .ptr (some (p, 0, 0))), (11, .bool ok)]) (fun (_, _, _, _, _, _, M) => M)
      (fun (oth, s, Q, ok, p, D, M) => Queue M D r Q blk ∧ p ∉ D ∧ pop M p s ∧ Q.Sublist Q0 ∧ (ok = true → blk s.1.toNat = false ∧ 1 ≤ s.1 ∧ s.1 ≤ 63 ∧ oth + 1 + Q.length = N) ∧ (ok = false → oth + Q.length = N ∧ openAt Q blk = -1)) (fun (oth, s, Q, ok, p, D, M) => 2 * Q.length + (if ok then 1 else 0))
      (0, s, Q, ok, m3.next, D3, m3.new (.row 3 [sg s] true)) rfl ⟨q1.grow (Mem.Grew.new _ _), fun e => by have := hl3 _ e; omega, ⟨by simp, by simp⟩, ?_, fun h => ?_, fun h => ?_⟩ (by simp) ?_
    · cases ok with
      | true => obtain ⟨i, _, _, rfl⟩ := q3 rfl; exact cut_sub _ _
      | false => obtain ⟨_, rfl⟩ := q4 rfl; exact List.Sublist.refl _
    · obtain ⟨i, g1, g2, rfl⟩ := q3 h
      obtain ⟨s', g3, g4⟩ := openAt_some g1
      have hil := (List.getElem?_eq_some_iff.1 g2).1
      rw [g2] at g3; injection g3 with g3; subst g3
      have := a2.ok s (mem_of_idx g2)
      exact ⟨g4, this.1, this.2.1, by simp; omega⟩
    · obtain ⟨g1, rfl⟩ := q4 h
      exact ⟨by omega, g1⟩
    intro (oth, s, Q, ok, p, D, M) ⟨k1, k2, ⟨k3, k3'⟩, k4, k5, k6⟩
    have hQl := k4.length_le
    cases ok with
    | true =>
      obtain ⟨k7, k8, k9, k10⟩ := k5 rfl
      clear k5 k6
      have hne : ¬ s.1 = b := by
        intro e
        rw [hblk, e] at k7
        simp at k7
      have hlD := k1.lt
      simp (disch := omega) [k3, sg, hne]
      refine entry blk D _ Q _ (k1.grow (Mem.Grew.new M (.row 3 [sg s] true))) fun m4 D4 s4 Q4 ok4 r1 r2 r3 r4 => ?_
      have o1 := r2.obj M.next (by simp) (fun e => by have := hlD _ e; omega)
      have o2 := r2.next
      simp at o1 o2
      simp (disch := omega) [sg, o1]
      have hap : M.next ∉ D4 := fun e => by
        rcases r2.fp _ e with q | q
        · have := hlD _ q; omega
        · simp at q; omega
      have hQ4 : Queue (m4.upd M.next (some (.row 3 [sg s4] true))) D4 r Q4 blk := r1.keep (by simp) fun p hp => by rw [updO _ (fun e => hap (by rw [← e]; exact hp))]
      refine again_mk (oth + 1, s4, Q4, ok4, M.next, D4, m4.upd M.next (some (.row 3 [sg s4] true))) ⟨hQ4, hap, ⟨by simp, by simp; omega⟩, ?_, fun h => ?_, fun h => ?_⟩ ?_ (by simp) rfl
      · cases ok4 with
        | true => obtain ⟨i, _, _, rfl⟩ := r3 rfl; exact (cut_sub _ _).trans k4
        | false => obtain ⟨_, rfl⟩ := r4 rfl; exact k4
      · obtain ⟨i, g1, g2, rfl⟩ := r3 h
        obtain ⟨s', g3, g4⟩ := openAt_some g1
        have hil := (List.getElem?_eq_some_iff.1 g2).1
        rw [g2] at g3; injection g3 with g3; subst g3
        have := k1.ok s4 (mem_of_idx g2)
        exact ⟨g4, this.1, this.2.1, by simp; omega⟩
      · obtain ⟨g1, rfl⟩ := r4 h
        exact ⟨by omega, g1⟩
      · cases ok4 with
        | true => obtain ⟨i, _, g2, rfl⟩ := r3 rfl
                  have := (List.getElem?_eq_some_iff.1 g2).1
                  simp; omega
        | false => obtain ⟨_, rfl⟩ := r4 rfl; simp
    | false =>
      obtain ⟨k7, k8⟩ := k6 rfl
      clear k5 k6
      have hall := openAt_none k8
      simp (disch := omega)
      refine ready_calls k1 ?_
      rw [k8]
      simp (disch := omega)
      refine block_calls k1 (fun h => by omega) fun _ _ m5 s1 s2 => ?_
      have hbb : blk b = true := by rw [hblk]; simp
      have hbf : (fun k => if k = (b : Int).toNat then false else blk k) = fun _ => false := by
        funext k; rw [hblk]; simp
      rw [hbf] at s1
      rw [Int.toNat_natCast, hbb]
      simp (disch := omega)
      have hQb : ∀ x ∈ Q, x.1 = b := fun x hx => by
        have h1 := hall x hx
        have h2 := k1.ok x hx
        rw [hblk] at h1
        simp at h1; omega
      have hQp := hsort.sublist k4
      have hQt : ∀ x ∈ Q, 0 ≤ x.2.1 := fun x hx => htm x (k4.subset hx)
      clear k1 k2 k3 k3' k8 hall hQ2 hQ hS2 q1 q2 q3 q4 a2 hbf
      refine entry (fun _ => false) D m5 Q _ s1 fun m6 D6 s6 Q6 ok6 r1 r2 r3 r4 => ?_
      have hl6 := r1.lt
      simp (disch := omega) [sg]
      refine exec_loopU (σ := Int × Nat × Sg × List Sg × Bool × Nat × List Nat × Mem) (fun (last, n, s, Q, ok, p, _, _) => [(12, .int .i64 last), (13, .int .i64 n), (14, .ptr (some (p, 0, 0))), (15, .bool ok)]) (fun (_, _, _, _, _, _, _, M) => M)
        (fun (last, n, s, Q1, ok, p, D, M) => Queue M D r Q1 (fun _ => false) ∧ p ∉ D ∧ pop M p s ∧ Q1.Sublist Q ∧ (ok = true → s.1 = b ∧ last < s.2.1 ∧ (∀ x ∈ Q1, s.2.1 < x.2.1) ∧ n + 1 + Q1.length = Q.length) ∧ (ok = false → n + Q1.length = Q.length ∧ Q1 = [])) (fun (last, n, s, Q1, ok, p, D, M) => 2 * Q1.length + (if ok then 1 else 0))
        (-1, 0, s6, Q6, ok6, m6.next, D6, m6.new (.row 3 [sg s6] true)) rfl ⟨r1.grow (Mem.Grew.new _ _), fun e => by have := hl6 _ e; omega, ⟨by simp, by simp⟩, ?_, fun h => ?_, fun h => ?_⟩ (by simp) ?_
      · cases ok6 with
        | true => obtain ⟨i, _, _, rfl⟩ := r3 rfl; exact cut_sub _ _
        | false => obtain ⟨_, rfl⟩ := r4 rfl; exact List.Sublist.refl _
      · obtain ⟨i, g1, g2, rfl⟩ := r3 h
        have := openAt_all g1
        subst this
        obtain ⟨q, Qt, rfl⟩ : ∃ q Qt, Q = q :: Qt := by
          cases Q with
          | nil => simp at g2
          | cons q Qt => exact ⟨q, Qt, rfl⟩
        simp at g2; subst g2
        have h1 := hQt q (by simp)
        rw [List.pairwise_cons] at hQp
        exact ⟨hQb q (by simp), by omega, by simpa using hQp.1, by simp; omega⟩
      · obtain ⟨g1, rfl⟩ := r4 h
        have := openAt_none g1
        refine ⟨by simp, ?_⟩
        cases Q6 with
        | nil => rfl
        | cons q Qt => have := this q (by simp); cases this
      intro (last, n, s, Q1, ok, p, D, M) ⟨k1, k2, ⟨k3, k3'⟩, k4', k5, k6⟩
      have hQ1l := k4'.length_le
      have hQ1p := hQp.sublist k4'
      cases ok with
      | true =>
        obtain ⟨j1, j2, j3, j4⟩ := k5 rfl
        clear k5 k6
        have hlD := k1.lt
        simp (disch := omega) [k3, sg, j1]
        refine entry (fun _ => false) D _ Q1 _ (k1.grow (Mem.Grew.new M _)) fun m4 D4 s4 Q4 ok4 r1 r2 r3 r4 => ?_
        have o1 := r2.obj M.next (by simp) (fun e => by have := hlD _ e; omega)
        have o2 := r2.next
        simp at o1 o2
        simp (disch := omega) [sg, o1]
        have hap : M.next ∉ D4 := fun e => by
          rcases r2.fp _ e with q | q
          · have := hlD _ q; omega
          · simp at q; omega
        have hQ4 : Queue (m4.upd M.next (some (.row 3 [sg s4] true))) D4 r Q4 (fun _ => false) := r1.keep (by simp) fun p hp => by rw [updO _ (fun e => hap (by rw [← e]; exact hp))]
        refine again_mk (s.2.1, n + 1, s4, Q4, ok4, M.next, D4, m4.upd M.next (some (.row 3 [sg s4] true))) ⟨hQ4, hap, ⟨by simp, by simp; omega⟩, ?_, fun h => ?_, fun h => ?_⟩ ?_ (by simp) rfl
        · cases ok4 with
          | true => obtain ⟨i, _, _, rfl⟩ := r3 rfl; exact (cut_sub _ _).trans k4'
          | false => obtain ⟨_, rfl⟩ := r4 rfl; exact k4'
        · obtain ⟨i, g1, g2, rfl⟩ := r3 h
          have := openAt_all g1
          subst this
          obtain ⟨q, Qt, rfl⟩ : ∃ q Qt, Q1 = q :: Qt := by
            cases Q1 with
            | nil => simp at g2
            | cons q Qt => exact ⟨q, Qt, rfl⟩
          simp at g2; subst g2
          rw [List.pairwise_cons] at hQ1p
          simp at j4
          exact ⟨hQb q (k4'.subset (by simp)), j3 q (by simp), by simpa using hQ1p.1, by simp; omega⟩
        · obtain ⟨g1, rfl⟩ := r4 h
          have := openAt_none g1
          refine ⟨by dsimp only; omega, ?_⟩
          cases Q4 with
          | nil => rfl
          | cons q Qt => have := this q (by simp); cases this
        · cases ok4 with
          | true => obtain ⟨i, _, g2, rfl⟩ := r3 rfl
                    have := (List.getElem?_eq_some_iff.1 g2).1
                    simp; omega
          | false => obtain ⟨_, rfl⟩ := r4 rfl; simp
      | false =>
        obtain ⟨j1, j2⟩ := k6 rfl
        subst j2
        simp at j1
        simp (disch := omega)

end Go.Proofs.Ytmfekckcingneaa
