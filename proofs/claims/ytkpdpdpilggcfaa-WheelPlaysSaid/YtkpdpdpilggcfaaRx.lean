/-
  WHEELPLAYS, of what the functions of this seat do.
-/
import Derived.Test.YtkpdpdpilggcfaaNx
namespace Go.Proofs.Ytkpdpdpilggcfaa
open Go Go.AM
set_option linter.unusedVariables false
set_option linter.unusedSimpArgs false
set_option maxRecDepth 60000
set_option maxHeartbeats 8000000

theorem Whl.more {c : Nat} {m : Mem} {D : List Nat} {r n : Nat} {R : List It} (h : Whl c m D r n R) : Whl (c + 1) m D r n R := by
  obtain ⟨q, sq, v, S, l, g, h1, hL, hF, hsq, hsq2, h2⟩ := h.ex
  exact ⟨h.up, h.due, h.ids, h.len, h.bn, q, sq, v, S, l, g, h1, hL, hF, hsq, by omega, h2⟩
theorem filt_one {R : List It} (h : (R.map (·.1)).Nodup) {j : Nat} {x : It} (hx : R[j]? = some x) : (R.filter fun y => !decide (y.1 = x.1)) = R.take j ++ R.drop (j + 1) := by
  have hl := (List.getElem?_eq_some_iff.1 hx).1
  have e : R = R.take j ++ x :: R.drop (j + 1) := by
    have h1 := List.take_append_drop j R
    rw [List.drop_eq_getElem_cons hl, (List.getElem?_eq_some_iff.1 hx).2] at h1
    exact h1.symm
  have hj : ∀ y ∈ R.take j ++ R.drop (j + 1), y.1 ≠ x.1 := by
    rw [e, List.map_append, List.map_cons] at h
    rw [List.nodup_append, List.nodup_cons] at h
    obtain ⟨h1, ⟨h2, h3⟩, h4⟩ := h
    intro y hy
    rcases List.mem_append.1 hy with hy | hy
    · exact h4 _ (List.mem_map.2 ⟨y, hy, rfl⟩) _ (by simp)
    · exact fun e => h2 (List.mem_map.2 ⟨y, hy, e⟩)
  conv => lhs; rw [e]
  rw [List.filter_append, List.filter_cons, List.filter_eq_self.2 (fun y hy => by simpa using hj y (List.mem_append.2 (.inl hy))), List.filter_eq_self.2 (fun y hy => by simpa using hj y (List.mem_append.2 (.inr hy)))]
  simp

theorem plays_law (m0 : Mem) (x0 : V) (h0 : IsV m0 shL x0) : ACalls Try.prog 5 [x0] m0 (fun r _ => r = .bool true) := by
  refine run_on (ctx_nil _) hm c5t (by simp) fun hf => ?_
  simp (disch := omega) [-getElem?_pos, b5t]
  refine fixed_calls fun m00 g00 => ?_
  obtain ⟨es, hv, hml, hes⟩ := h0.slR hf
  replace hv := hv.grow g00
  replace hes : ∀ e ∈ es, Is m00 _ e := fun e he => Is.mono (fun q o ho => by rw [g00.obj q (hf q o ho)]; exact ho) _ _ (hes e he)
  have hv1 := hv.lenSl
  obtain ⟨N, hN⟩ : ∃ N, es.length = N := ⟨_, rfl⟩
  rw [hN] at hv1
  by_cases hl : (60 : Int) < N
  · simp (disch := omega) [-getElem?_pos, hv1]
  simp (disch := omega) [-getElem?_pos, hv1]
  refine new_calls fun m1 D1 r hW1 g1 hD1 => ?_
  simp (disch := omega) [-getElem?_pos, hv1]
  refine exec_loopU (σ := Nat × Nat × List Nat × List It × V × Mem) (fun (i, n, _, _, u, _) => [(4, u), (5, .int .i64 n), (6, .int .i64 n), (30, .int .i64 i)]) (fun (_, _, _, _, _, M) => M)
    (fun (i, n, D, R, u, M) => i ≤ N ∧ n ≤ 300000 ∧ R.length ≤ i ∧ Mir m00.next i M r n R D u ∧ m00.Grew M) (fun (i, _, _, _, _, _) => N - i) (0, 0, D1, [], .sl none 0 (some 0), m1) rfl
    (by dsimp only; exact ⟨by omega, by omega, by simp, ⟨hW1, Ows.nil _ _, by simp [V.fp], hD1, by simp [V.fp]⟩, g1⟩) (by simp) ?_
  clear hW1 g1 hD1
  intro (i, n, D, R, u, M) ⟨a1, an, aL, hR, gM⟩
  by_cases hi : i < N
  case neg => simp (disch := omega) [-getElem?_pos]
  obtain ⟨e, he⟩ : ∃ e, es[i]? = some e := ⟨_, List.getElem?_eq_getElem (by omega)⟩
  obtain ⟨kk, id, z, rfl, hk0, hk1⟩ := act_of (hes e (mem_of_idx he))
  obtain ⟨p, x, full, rw, z1, z2, z3, z4, _⟩ := (hv.grow gM).at he .i64
  have gN := Mem.Grew.new M (.row 3 [[.int .u8 kk, .int .i64 id, .int .i64 z]] true)
  have oA : (M.new (.row 3 [[.int .u8 kk, .int .i64 id, .int .i64 z]] true)).obj M.next = some (.row 3 [[.int .u8 kk, .int .i64 id, .int .i64 z]] true) := by simp
  have bA : M.next < (M.new (.row 3 [[.int .u8 kk, .int .i64 id, .int .i64 z]] true)).next := by simp
  have hR' := hR.grow gN
  have hAD : M.next ∉ D ∧ M.next ∉ u.fp := ⟨fun e => by have := hR.W.lt _ e; omega, fun e => by have := hR.U.lt _ e; omega⟩
  simp (disch := omega) [-getElem?_pos, z1, z3, z4]
  replace gM := gM.trans gN
  generalize M.new (.row 3 [[.int .u8 kk, .int .i64 id, .int .i64 z]] true) = M1 at *
  generalize M.next = A at *
  clear hR gN z1 z2 z3 z4 he
  have hue : ∀ {M' : Mem}, M1.Grew M' → M'.obj A = some (.row 3 [[.int .u8 kk, .int .i64 id, .int .i64 z]] true) := fun g => (g.obj A bA).trans oA
  have hul := hR'.U.sl.lenSl
  rw [List.length_map] at hul
  have hids := hR'.W.ids
  unfold body10
  have hrem : kk.tmod 3 = 0 ∨ kk.tmod 3 = 1 ∨ kk.tmod 3 = 2 := by
    rw [Int.tmod_eq_emod_of_nonneg hk0]; omega
  rcases hrem with hq | hq | hq
  · -- it comes
    have hwrong : ∀ {M2 : Mem} {KK : KV} {w : Int}, M1.Grew M2 → (∀ M3 D3 R3, PutR R n id z R3 w → Mir m00.next (i + 1) M3 r n R D3 u → m00.Grew M3 → R3 = R → KK (.int .i64 w) M3) → (∀ R3 e, PutR R n id z R3 e → e = w ∧ R3 = R) → ACalls Try.prog 8 [.ptr (some (r, 0, 0)), .int .i64 id, .int .i64 z] M2 KK := by
      intro M2 KK w g hK hw
      have hR2 := hR'.grow g
      refine put_calls hR2.W (by omega) fun M3 D3 R3 e3 p3 W3 S3 => ?_
      obtain ⟨rfl, rfl⟩ := hw R3 e3 p3
      have hdj := S3.apart (E := u.fp) hR2.U.lt (fun p hp hq => hR2.dj p hq hp)
      exact hK M3 D3 _ p3 ⟨W3, hR2.U.step S3 (fun p hp hq => hR2.dj p hq hp), fun p hp hq => hdj p hq hp, S3.ge (gM.trans g).next hR2.geD, hR2.geU⟩ (S3.toGrew (gM.trans g) hR2.geD) rfl
    by_cases hz : z < 1 ∨ 65535 < z
    · have hw : ∀ R3 e, PutR R n id z R3 e → e = 6 ∧ R3 = R := fun R3 e p => by
        cases p with
        | range _ => exact ⟨rfl, rfl⟩
        | busy w _ => omega
        | full w _ _ => omega
        | ok w _ _ _ _ _ => omega
      rcases hz with hz | hz
      all_goals
        simp (disch := omega) [-getElem?_pos, oA, hq]
        refine hwrong (Mem.Grew.refl _) (fun M3 D3 R3 p3 hM3 g3 _ => ?_) hw
        simp (disch := omega) [-getElem?_pos]
        refine tail_ok (v := x0) (N := N) (i := i) (sm := n) (u := u) (by simp) (by simp) (by simp) (by simp) (by simp) (by simp) (by simp) hM3 an fun e' M4 f3 f4 f5 f6 f28 f29 f30 g4 => ?_
        simp (disch := omega) [-getElem?_pos, f30]
        exact again_mk (i + 1, n, D3, R, u, M4) (by dsimp only; exact ⟨by omega, an, by omega, hM3.grow g4, g3.trans g4⟩) (by dsimp only; omega) (by simp [f3, f4, f5, f6, f28, f29]) rfl
    simp (disch := omega) [-getElem?_pos, oA, hq]
    refine place_calls hR'.U.sl (by omega) fun f M2 pf g2 => ?_
    have oA2 := hue g2
    cases pf with
    | «at» j x hx hxe =>
      have hw : ∀ R3 e, PutR R n id z R3 e → e = 9 ∧ R3 = R := fun R3 e p => by
        cases p with
        | range w => exact absurd w hz
        | busy _ _ => exact ⟨rfl, rfl⟩
        | full _ w _ => exact absurd ⟨x, mem_of_idx hx, hxe⟩ w
        | ok _ w _ _ _ _ => exact absurd ⟨x, mem_of_idx hx, hxe⟩ w
      simp (disch := omega) [-getElem?_pos, oA2]
      refine hwrong g2 (fun M3 D3 R3 p3 hM3 g3 _ => ?_) hw
      simp (disch := omega) [-getElem?_pos]
      refine tail_ok (v := x0) (N := N) (i := i) (sm := n) (u := u) (by simp) (by simp) (by simp) (by simp) (by simp) (by simp) (by simp) hM3 an fun e' M4 f3 f4 f5 f6 f28 f29 f30 g4 => ?_
      simp (disch := omega) [-getElem?_pos, f30]
      exact again_mk (i + 1, n, D3, R, u, M4) (by dsimp only; exact ⟨by omega, an, by omega, hM3.grow g4, g3.trans g4⟩) (by dsimp only; omega) (by simp [f3, f4, f5, f6, f28, f29]) rfl
    | no hno =>
      obtain ⟨d, hd⟩ : ∃ d : Nat, (n : Int) + z = d := ⟨((n : Int) + z).toNat, by omega⟩
      simp (disch := omega) [-getElem?_pos, oA2, hd, eltsOf, Mem.elts]
      have g3 := g2.trans (Mem.Grew.new M2 (.row 2 [[.int .i64 id, .int .i64 d]] true))
      have hR3 := hR'.grow g3
      have oA3 := hue g3
      have bA3 : A < (M2.new (.row 2 [[.int .i64 id, .int .i64 d]] true)).next := by have := g3.next; omega
      generalize M2.new (.row 2 [[.int .i64 id, .int .i64 d]] true) = M3 at *
      refine hR3.U.app (by rw [List.length_map]; omega) (by rw [List.length_map]; omega) fun u' M4 e1 e2 e3 => ?_
      have W4 := hR3.W.step e2 hR3.dj
      have hu'D : ∀ p ∈ u'.fp, p ∉ D := fun p hp hq => by
        rcases e2.fp p hp with w | w
        · exact hR3.dj p w hq
        · have := hR3.W.lt p hq; omega
      have gu' : ∀ p ∈ u'.fp, m00.next ≤ p := e2.ge (gM.trans g3).next hR3.geU
      have oA4 := (e2.obj A bA3 hAD.2).trans oA3
      have G4 := e2.toGrew (gM.trans g3) hR3.geU
      simp (disch := omega) [-getElem?_pos, oA4]
      refine put_calls W4 (by omega) fun M5 D5 R5 e5 p5 W5 S5 => ?_
      have hh : ∃ s, e5 = 0 ∧ R5 = R ++ [(id, d, s)] := by
        cases p5 with
        | range w => exact absurd w hz
        | busy _ w => exact absurd w hno
        | full _ _ w => omega
        | ok _ _ _ d' s hd' =>
          have : d' = d := by omega
          subst this; exact ⟨s, rfl, rfl⟩
      obtain ⟨s, rfl, rfl⟩ := hh
      have hdj := S5.apart (E := u'.fp) e1.lt (fun p hp hq => hu'D p hq hp)
      have hee : R.map ip ++ [[.int .i64 id, .int .i64 d]] = (R ++ [(id, d, s)]).map ip := by simp [ip]
      rw [hee] at e1
      have hM5 : Mir m00.next (i + 1) M5 r n (R ++ [(id, d, s)]) D5 u' := ⟨W5, e1.step S5 (fun p hp hq => hu'D p hq hp), fun p hp hq => hdj p hq hp, S5.ge G4.next hR3.geD, gu'⟩
      have G5 := S5.toGrew G4 hR3.geD
      simp (disch := omega) [-getElem?_pos]
      refine tail_ok (v := x0) (N := N) (i := i) (sm := n) (u := u') (by simp) (by simp) (by simp) (by simp) (by simp) (by simp) (by simp) hM5 an fun e' M6 f3 f4 f5 f6 f28 f29 f30 g6 => ?_
      simp (disch := omega) [-getElem?_pos, f30]
      exact again_mk (i + 1, n, D5, R ++ [(id, d, s)], u', M6) (by dsimp only; exact ⟨by omega, an, by simp; omega, hM5.grow g6, G5.trans g6⟩) (by dsimp only; omega) (by simp [f3, f4, f5, f6, f28, f29]) rfl
  · -- it goes
    simp (disch := omega) [-getElem?_pos, oA, hq]
    refine place_calls hR'.U.sl (by omega) fun f M2 pf g2 => ?_
    have oA2 := hue g2
    have hR2 := hR'.grow g2
    simp (disch := omega) [-getElem?_pos, oA2]
    refine drop_calls hR2.W fun M3 D3 R3 b p3 W3 S3 => ?_
    have hU3 := hR2.U.step S3 (fun p hp hq => hR2.dj p hq hp)
    have G3 := S3.toGrew (gM.trans g2) hR2.geD
    have hdj := S3.apart (E := u.fp) hR2.U.lt (fun p hp hq => hR2.dj p hq hp)
    have hge := S3.ge (gM.trans g2).next hR2.geD
    cases pf with
    | no hno =>
      cases p3 with
      | one x hx hxe => exact absurd ⟨x, hx, hxe⟩ hno
      | no _ =>
        have hM3 : Mir m00.next (i + 1) M3 r n R D3 u := ⟨W3.more, hU3, fun p hp hq => hdj p hq hp, hge, hR2.geU⟩
        simp (disch := omega) [-getElem?_pos]
        refine tail_ok (v := x0) (N := N) (i := i) (sm := n) (u := u) (by simp) (by simp) (by simp) (by simp) (by simp) (by simp) (by simp) hM3 an fun e' M4 f3 f4 f5 f6 f28 f29 f30 g4 => ?_
        simp (disch := omega) [-getElem?_pos, f30]
        exact again_mk (i + 1, n, D3, R, u, M4) (by dsimp only; exact ⟨by omega, an, by omega, hM3.grow g4, G3.trans g4⟩) (by dsimp only; omega) (by simp [f3, f4, f5, f6, f28, f29]) rfl
    | «at» j x hx hxe =>
      have hjl := (List.getElem?_eq_some_iff.1 hx).1
      cases p3 with
      | no w => exact absurd ⟨x, mem_of_idx hx, hxe⟩ w
      | one y hy hye =>
        subst hxe
        rw [filt_one hids hx] at W3
        obtain ⟨vL, hL1, hL2, hL3⟩ := hU3.cutR .i64 j (by rw [List.length_map]; omega)
        obtain ⟨vR, hR1, hR2', hR3⟩ := hU3.cutL .i64 (j + 1) (by rw [List.length_map]; omega)
        simp at hR1
        have hlen1 : ((R.map ip).take j).length = j := by simp; omega
        have hlen2 : ((R.map ip).drop (j + 1)).length = R.length - (j + 1) := by simp
        have hg := Mem.Grew.new M3 (.row 2 [] true)
        have eL := (hL2.grow hg).sl.elts
        simp (disch := omega) [-getElem?_pos, hL1, hR1, eL]
        refine (Exa.lit (m := M3) (sz := 2) (es := []) (n := 0) rfl).app (by rw [hlen1]; simp; omega) (by rw [hlen1]; simp; omega) fun f1 M4 u1 u2 u3 => ?_
        rw [List.nil_append] at u1
        have s1 : Stp M3 M4 [] f1.fp := (⟨hg.next, fun p hp _ => hg.obj p hp, fun p hp => by simp [V.fp] at hp; exact .inr (by omega)⟩ : Stp M3 _ [] (V.sl (some (M3.next, 0, 2)) 0 (some 0)).fp).trans u2
        have eR := (hR2'.keep s1.next fun p hp => s1.obj p (hR2'.lt p hp) (by simp)).sl.elts
        simp (disch := omega) [-getElem?_pos, eR]
        refine u1.app (by rw [hlen1, hlen2]; omega) (by rw [hlen1, hlen2]; omega) fun f2 M5 u4 u5 u6 => ?_
        have s2 : Stp M3 M5 [] f2.fp := s1.trans u5
        rw [← List.map_take, ← List.map_drop, ← List.map_append] at u4
        have gF : M3.Grew M5 := ⟨s2.next, fun p hp => s2.obj p hp (by simp)⟩
        have hf2 : ∀ p ∈ f2.fp, M3.next ≤ p := s2.ge (Nat.le_refl _) (by simp)
        have hM5 : Mir m00.next (i + 1) M5 r n (R.take j ++ R.drop (j + 1)) D3 f2 := ⟨(W3.grow gF).more, u4.ows, fun p hp hq => by have := hf2 p hp; have := W3.lt p hq; omega, hge, fun p hp => by have := hf2 p hp; have := G3.next; omega⟩
        simp (disch := omega) [-getElem?_pos]
        refine tail_ok (v := x0) (N := N) (i := i) (sm := n) (u := f2) (by simp) (by simp) (by simp) (by simp) (by simp) (by simp) (by simp) hM5 an fun e' M6 f3 f4 f5 f6 f28 f29 f30 g6 => ?_
        simp (disch := omega) [-getElem?_pos, f30]
        exact again_mk (i + 1, n, D3, R.take j ++ R.drop (j + 1), f2, M6) (by dsimp only; exact ⟨by omega, an, by simp; omega, hM5.grow g6, (G3.trans gF).trans g6⟩) (by dsimp only; omega) (by simp [f3, f4, f5, f6, f28, f29]) rfl
  · -- ticks go by
    obtain ⟨k, hk⟩ : ∃ k : Nat, min (max z 0) 65535 = k := ⟨(min (max z 0) 65535).toNat, by omega⟩
    obtain ⟨n', hn'⟩ : ∃ n', n + k = n' := ⟨_, rfl⟩
    have hni : (n : Int) + k = n' := by omega
    have hk65 : k ≤ 65535 := by omega
    have hdue : ∀ x ∈ R, n < x.2.1 := fun x hx => (hR'.W.due x hx).1
    by_cases hbig : 300000 < n'
    · simp (disch := omega) [-getElem?_pos, oA, hq, hk, hni]
    simp (disch := omega) [-getElem?_pos, oA, hq, hk, hni]
    refine fire_calls hR'.U.sl (by omega) hn'.symm hdue fun o u' M2 o1 o2 o3 o4 g2 => ?_
    have hR2 := hR'.grow g2
    have oA2 := hue g2
    have hoD : ∀ p ∈ o.fp, p ∉ D := fun p hp hq => by have := o3 p hp; have := hR'.W.lt p hq; omega
    have huD : ∀ p ∈ u'.fp, p ∉ D := fun p hp hq => by have := o4 p hp; have := hR'.W.lt p hq; omega
    simp (disch := omega) [-getElem?_pos, oA2]
    refine advance_calls hR2.W hk (by omega) fun M3 D3 w W3 S3 w1 w2 => ?_
    rw [hn'] at W3
    have o1' := o1.step S3 (fun p hp hq => hoD p hq hp)
    have o2' := o2.step S3 (fun p hp hq => huD p hq hp)
    have hdj := S3.apart (E := u'.fp) o2.lt (fun p hp hq => huD p hq hp)
    have G3 := S3.toGrew (gM.trans g2) hR2.geD
    have hM3 : Mir m00.next (i + 1) M3 r n' (rest R n') D3 u' := ⟨W3.more, o2', fun p hp hq => hdj p hq hp, S3.ge (gM.trans g2).next hR2.geD, fun p hp => by have := o4 p hp; have := gM.next; omega⟩
    have hol := outR_len hdue k
    rw [hn'] at hol
    have l1 := o1'.sl.lenSl
    have l2 := w1.ows.sl.lenSl
    rw [rowI_length] at l1 l2
    generalize outR R n k = oo at *
    simp (disch := omega) [-getElem?_pos, l1, l2]
    refine exec_loopU (σ := Nat) (fun j => [(128, .int .i64 j)]) (fun _ => M3) (fun j => j ≤ oo.length) (fun j => oo.length - j) 0 rfl (by omega) (by simp) ?_
    intro j hj
    by_cases hjn : j < oo.length
    · obtain ⟨y, hy⟩ : ∃ y, oo[j]? = some y := ⟨_, List.getElem?_eq_getElem (by omega)⟩
      have hy' : (rowI .i64 oo)[j]? = some [.int .i64 y] := by unfold rowI; simp [hy]
      obtain ⟨p, c, full, rw, z1, z2, z3, z4, _⟩ := o1'.sl.at hy' .i64
      obtain ⟨p', c', full', rw', y1, y2, y3, y4, _⟩ := w1.ows.sl.at hy' .i64
      simp (disch := omega) [-getElem?_pos, z1, z3, z4, y1, y3, y4]
      exact again_mk (j + 1) (by omega) (by omega) (by simp) rfl
    have hje : j = oo.length := by omega
    subst hje
    simp (disch := omega) [-getElem?_pos]
    refine tail_ok (v := x0) (N := N) (i := i) (sm := n') (u := u') (by simp) (by simp) (by simp) (by simp) (by simp) (by simp) (by simp) hM3 (by omega) fun e' M6 f3 f4 f5 f6 f28 f29 f30 g6 => ?_
    simp (disch := omega) [-getElem?_pos, f30]
    exact again_mk (i + 1, n', D3, rest R n', u', M6) (by dsimp only; exact ⟨by omega, by omega, by omega, hM3.grow g6, G3.trans g6⟩) (by dsimp only; omega) (by simp [f3, f4, f5, f6, f28, f29]) rfl
end Go.Proofs.Ytkpdpdpilggcfaa
