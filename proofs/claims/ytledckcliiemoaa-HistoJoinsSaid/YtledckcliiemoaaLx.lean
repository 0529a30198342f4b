/-
  HISTOJOINS, walked.
-/
import Derived.Test.YtledckcliiemoaaKx
namespace Go.Proofs.Ytledckcliiemoaa
open Go Go.AM
set_option linter.unusedVariables false
set_option linter.unusedSimpArgs false
set_option maxRecDepth 8000
set_option maxHeartbeats 2000000

theorem Tal.keep {m m' : Mem} {r s : Nat} {w : Ty} (h : Tal m r w) (hs : Stp m m' [s] [s]) (hne : ¬ r = s) : Tal m' r w :=
  ⟨by have := hs.next; have := h.lt; omega, by rw [hs.obj r h.lt (by simpa using hne)]; exact h.obj, h.len⟩

theorem joins (m0 : Mem) (x0' x1' x2' x3' : V) (h0 : IsV m0 (.slice 1 (.int .i64)) x0') (h1 : IsV m0 (.slice 1 (.int .i64)) x1') (h2 : IsV m0 (.int .i64) x2') (h3 : IsV m0 (.int .u8) x3') : ACalls Try.prog 5 [x0', x1', x2', x3'] m0 (fun r _ => r = .bool true) := by
  obtain ⟨t, rfl, _⟩ := h2.int
  obtain ⟨n, rfl, hwn⟩ := h3.int
  replace hwn := wf_u8 hwn
  obtain ⟨c, rfl⟩ := Int.eq_ofNat_of_zero_le hwn.1
  refine run_on x6 hm c5 (by simp) fun hf => ?_
  obtain ⟨a, hv, hml, hwf⟩ := h0.slI hf
  obtain ⟨N, hN, hv1⟩ := len1 hv
  obtain ⟨b, hu, hml2, hwf2⟩ := h1.slI hf
  obtain ⟨N2, hN2, hu1⟩ := len1 hu
  clear hwf hwf2
  by_cases hl : (100 : Int) < N
  · simp (disch := omega) [b5, F6, hv1]
  by_cases hl2 : (100 : Int) < N2
  · simp (disch := omega) [b5, F6, hv1, hu1]
  simp (disch := omega) [b5, F6, hv1, hu1]
  refine new_calls fun x m1 hx hxr hg1 => ?_
  simp (disch := omega)
  refine new_calls fun y m2 hy hyr hg2 => ?_
  simp (disch := omega)
  refine new_calls fun z m3 hz hzr hg3 => ?_
  have hxl := hx.lt
  have hyl := hy.lt
  have hn1 := hg1.next
  have hn2 := hg2.next
  have hxy : ¬ x = y := by omega
  have hxz : ¬ x = z := by omega
  have hyz : ¬ y = z := by omega
  have hx3 := (hx.grow hg2).grow hg3
  have hy3 := hy.grow hg3
  have hg := (hg1.trans hg2).trans hg3
  have hge : m0.next ≤ x ∧ m0.next ≤ y ∧ m0.next ≤ z := by omega
  clear hx hy hg1 hg2 hg3 hxl hyl hn1 hn2 hxr hyr hzr
  simp (disch := omega) [hv1]
  refine exec_loopU (σ := Nat × Ty × Ty × Mem) (fun (i, _, _, _) => [(42, .int .i64 i)]) (fun (_, _, _, M) => M) (fun (i, w, v, M) => i ≤ N ∧ TL (a.take i) w ∧ TL (a.take i) v ∧ Tal M x w ∧ Tal M y Ty.new ∧ Tal M z v ∧ m0.Grew M) (fun (i, _, _, _) => N - i) (0, Ty.new, Ty.new, m3) rfl
    ⟨by omega, TL.new, TL.new, hx3, hy3, hz, hg⟩ (by simp) ?_
  clear hx3 hy3 hz hg
  intro (i, w, v, M) ⟨a1, a2, a3, a4, a5, a6, a7⟩
  by_cases hi : i < N
  · obtain ⟨p, q, full, rw, z1, z2, z3, z4⟩ := at1 (hv.grow a7) (y := i) (by omega)
    have hb := a2.bnd (by simp; omega)
    have hb2 := a3.bnd (by simp; omega)
    simp (disch := omega) [-getElem?_pos, z1, z3, z4]
    refine add_calls a4 hb.1 hb.2 a2.rlo a2.rhi fun m4 s1 s2 => ?_
    simp (disch := omega)
    refine add_calls (a6.keep s2 (fun e => hxz e.symm)) hb2.1 hb2.2 a3.rlo a3.rhi fun m5 s3 s4 => ?_
    simp (disch := omega)
    refine again_mk (i + 1, w.many (nth a i) 1, v.many (nth a i) 1, m5) ?_ (by dsimp only; omega) (by simp) rfl
    dsimp only
    rw [takeS (nth_get (by omega))]
    exact ⟨by omega, a2.snoc _, a3.snoc _, s1.keep s4 hxz, (a5.keep s2 (fun e => hxy e.symm)).keep s4 hyz, s3, s4.toGrew (s2.toGrew a7 (by simp; omega)) (by simp; omega)⟩
  have : i = N := by omega
  subst this
  rw [show a.take i = a by rw [← hN, List.take_length]] at a2 a3
  simp (disch := omega) [hu1]
  refine exec_loopU (σ := Nat × Ty × Ty × Mem) (fun (j, _, _, _) => [(55, .int .i64 j)]) (fun (_, _, _, M) => M) (fun (j, u, v, M) => j ≤ N2 ∧ TL (b.take j) u ∧ TL (a ++ b.take j) v ∧ Tal M x w ∧ Tal M y u ∧ Tal M z v ∧ m0.Grew M) (fun (j, _, _, _) => N2 - j) (0, Ty.new, v, M) rfl
    ⟨by omega, TL.new, by simpa using a3, a4, a5, a6, a7⟩ (by simp) ?_
  clear a3 a4 a5 a6 a7
  intro (j, u, v, M) ⟨b1, b3, b2, b4, b5, b6, b7⟩
  by_cases hj : j < N2
  · obtain ⟨p, q, full, rw, z1, z2, z3, z4⟩ := at1 (hu.grow b7) (y := j) (by omega)
    have hb := b3.bnd (by simp; omega)
    have hb2 := b2.bnd (by simp; omega)
    simp (disch := omega) [-getElem?_pos, z1, z3, z4]
    refine add_calls b5 hb.1 hb.2 b3.rlo b3.rhi fun m4 s1 s2 => ?_
    simp (disch := omega)
    refine add_calls (b6.keep s2 (fun e => hyz e.symm)) hb2.1 hb2.2 b2.rlo b2.rhi fun m5 s3 s4 => ?_
    simp (disch := omega)
    refine again_mk (j + 1, u.many (nth b j) 1, v.many (nth b j) 1, m5) ?_ (by dsimp only; omega) (by simp) rfl
    dsimp only
    rw [takeS (nth_get (by omega)), ← List.append_assoc]
    exact ⟨by omega, b3.snoc _, b2.snoc _, (b4.keep s2 hxy).keep s4 hxz, s1.keep s4 hyz, s3, s4.toGrew (s2.toGrew b7 (by simp; omega)) (by simp; omega)⟩
  have : j = N2 := by omega
  subst this
  rw [show b.take j = b by rw [← hN2, List.take_length]] at b2 b3
  have hb := b3.bnd (by omega)
  simp (disch := omega)
  refine many_calls b5 (by omega) hb.1 hb.2 b3.rlo b3.rhi fun m4 s1 s2 => ?_
  have b3' := b3.many t c
  have b4' := b4.keep s2 hxy
  have b6' := b6.keep s2 (fun e => hyz e.symm)
  have b7' := s2.toGrew b7 (by simp; omega)
  simp (disch := omega)
  refine exec_loopU (σ := Nat × Ty × Mem) (fun (k, _, _) => [(73, .int .i64 k)]) (fun (_, _, M) => M) (fun (k, v, M) => k ≤ c ∧ TL (a ++ b ++ List.replicate k t) v ∧ Tal M x w ∧ Tal M y (u.many t c) ∧ Tal M z v ∧ m0.Grew M) (fun (k, _, _) => c - k) (0, v, m4) rfl
    ⟨by omega, by simpa using b2, b4', s1, b6', b7'⟩ (by simp) ?_
  clear b2 b3 b4 b5 b6 b7 s1 s2 b4' b6' b7' hb
  intro (k, v, M) ⟨c1, c2, c4, c5, c6, c7⟩
  by_cases hk : k < c
  · have hb2 := c2.bnd (by simp; omega)
    simp (disch := omega)
    refine add_calls c6 hb2.1 hb2.2 c2.rlo c2.rhi fun m5 s3 s4 => ?_
    simp (disch := omega)
    refine again_mk (k + 1, v.many t 1, m5) ?_ (by dsimp only; omega) (by simp) rfl
    dsimp only
    rw [List.replicate_succ', ← List.append_assoc]
    exact ⟨by omega, c2.snoc _, c4.keep s4 hxz, c5.keep s4 hyz, s3, s4.toGrew c7 (by simp; omega)⟩
  have : k = c := by omega
  subst this
  generalize u.many t k = u' at *
  have hb1 := a2.bnd (by omega)
  have hb2 := b3'.bnd (by simp; omega)
  simp (disch := omega)
  refine join_calls c4 c5 hxy hb1 hb2 fun m5 s1 s2 => ?_
  have d2 := a2.join b3'
  rw [← List.append_assoc] at d2
  have d6 := c6.keep s2 (fun e => hxz e.symm)
  generalize w.join u' = w' at *
  obtain ⟨e1, e2⟩ := d2.same c2
  have hbx : boxesI v = boxesI w' := by
    unfold boxesI
    rcases e2 with e2 | e2
    · rw [if_pos e2, if_pos (by omega)]
    · rw [e2]
  have hlo : (if v.n = 0 then 0 else v.lo) = if w'.n = 0 then 0 else w'.lo := by
    rcases e2 with e2 | e2
    · rw [if_pos e2, if_pos (by omega)]
    · rw [e2]
  have hhi : (if v.n = 0 then 0 else v.hi) = if w'.n = 0 then 0 else w'.hi := by
    rcases e2 with e2 | e2
    · rw [if_pos e2, if_pos (by omega)]
    · rw [e2]
  have hbl : (boxesI w').length ≤ 63 := by
    unfold boxesI; have := bx_lt w'.hi
    split
    · simp
    · simp; omega
  clear a2 b3' c2 c4 c5 c6 hb1 hb2 e2
  simp (disch := omega)
  refine joinNil_calls ?_
  simp (disch := omega)
  refine boxes_calls s1 fun va m6 p1 p2 => ?_
  simp (disch := omega)
  refine boxes_calls (d6.grow p2) fun vb m7 p3 p4 => ?_
  rw [hbx] at p3
  have t1 := (s1.grow p2).grow p4
  have t2 := (d6.grow p2).grow p4
  have p5 := p1.grow p4
  simp (disch := omega)
  refine least_calls t1 ?_
  simp (disch := omega)
  refine least_calls t2 ?_
  rw [hlo, ← e1]
  simp (disch := omega)
  refine greatest_calls t1 ?_
  simp (disch := omega)
  refine greatest_calls t2 ?_
  rw [hhi, ← e1]
  obtain ⟨LO, hLO⟩ : ∃ LO, (if w'.n = 0 then 0 else w'.lo) = LO := ⟨_, rfl⟩
  obtain ⟨HI, hHI⟩ : ∃ HI, (if w'.n = 0 then 0 else w'.hi) = HI := ⟨_, rfl⟩
  have l1 := p5.sl.lenSl
  have l2 := p3.sl.lenSl
  rw [rowI_length] at l1 l2
  simp (disch := omega) [hLO, hHI, l1, l2]
  refine count_calls t1 ?_
  simp (disch := omega)
  refine count_calls t2 ?_
  rw [e1]
  simp (disch := omega) [l1, l2]
  refine exec_loopU (σ := Nat) (fun q => [(137, .int .i64 q)]) (fun _ => m7) (fun q => q ≤ (boxesI w').length) (fun q => (boxesI w').length - q) 0 rfl (Nat.zero_le _) (by simp) ?_
  intro q hq
  by_cases hq2 : q < (boxesI w').length
  · obtain ⟨p', q', full', rw', y1, y2, y3, y4⟩ := at1 p5.sl (y := q) hq2
    obtain ⟨p'', q'', full'', rw'', z1, z2, z3, z4⟩ := at1 p3.sl (y := q) hq2
    simp (disch := omega) [-getElem?_pos, y1, y3, y4, z1, z3, z4]
    exact again_mk (q + 1) (by omega) (by omega) (by simp) rfl
  · simp (disch := omega)

end Go.Proofs.Ytledckcliiemoaa
