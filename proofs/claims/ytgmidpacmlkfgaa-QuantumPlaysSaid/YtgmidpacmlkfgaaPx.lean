/-
  QUANTUMPLAYS, of what the functions of this seat do.
-/
import Derived.Test.YtgmidpacmlkfgaaMx
namespace Go.Proofs.Ytgmidpacmlkfgaa
open Go Go.AM
set_option linter.unusedVariables false
set_option linter.unusedSimpArgs false
set_option maxRecDepth 8000
set_option maxHeartbeats 8000000

/-- Names apart: a name is found where it stands, be it looked for from the front or to the last. -/
theorem idxI_next {l : List Jb} (hn : (l.map (·.1)).Nodup) {x : Nat} {j : Jb} (hx : l[x]? = some j) (id : Int) : idxI (isId id) (l.take (x + 1)) = if j.1 = id then (x : Int) else idxI (isId id) (l.take x) := by
  have hxl := (List.getElem?_eq_some_iff.1 hx).1
  rw [takeS hx]
  by_cases e : j.1 = id
  · rw [if_pos e]
    refine idxI_some (x := j) (fun y hy => ?_) (by rw [List.getElem?_append_right (by simp; omega)]; have : x - (l.take x).length = 0 := by simp; omega
                                                   rw [this]; rfl) (by simp [isId, e])
    have e2 : (l.take x ++ [j]).take x = l.take x := by rw [List.take_append_of_le_length (by simp; omega), List.take_take, Nat.min_self]
    rw [e2] at hy
    simp only [isId, decide_eq_false_iff_not]
    intro e3
    have e4 : l = l.take x ++ j :: l.drop (x + 1) := by
      conv => lhs; rw [← List.take_append_drop x l]
      rw [List.drop_eq_getElem_cons hxl]
      rw [(List.getElem?_eq_some_iff.1 hx).2]
    rw [e4, List.map_append, List.nodup_append] at hn
    exact hn.2.2 y.1 (List.mem_map.2 ⟨y, hy, rfl⟩) j.1 (by simp) (by rw [e3, e])
  · rw [if_neg e]
    have hj : isId id j = false := by simp [isId, e]
    rcases idxI_cases (isId id) (l.take x) with ⟨e1, e2⟩ | ⟨i, y, e1, e2, e3, e4⟩
    · rw [e1]
      refine idxI_none fun y hy => ?_
      rcases List.mem_append.1 hy with hy | hy
      · exact e2 y hy
      · simp at hy; subst hy; exact hj
    · rw [e1]
      have hi := (List.getElem?_eq_some_iff.1 e2).1
      refine idxI_some (x := y) (fun z hz => ?_) (by rw [List.getElem?_append_left hi]; exact e2) e3
      rw [List.take_append_of_le_length (by omega)] at hz
      exact e4 z hz

theorem plays (m0 : Mem) (x0 x1' : V) (h0 : IsV m0 (.int .i64) x0) (h1 : IsV m0 (.slice 3 (.struct [(.int .u8), (.int .i64), (.int .i64)])) x1') : ACalls Try.prog 3 [x0, x1'] m0 (fun r _ => r = .bool true) := by
  obtain ⟨turn, rfl, hwt⟩ := h0.int
  refine run_on x6 hm c3 (by simp) fun hf => ?_
  obtain ⟨es, hv, hml, hes⟩ := h1.slR hf
  have hes2 : ∀ e ∈ es, ∃ a b c, e = [.int .u8 a, .int .i64 b, .int .i64 c] ∧ 0 ≤ a ∧ a ≤ 255 := by
    intro e he
    have := hes e he
    simp only [Is, Iss] at this
    obtain ⟨_, _, rfl, ⟨a, rfl, w1⟩, _, _, rfl, ⟨b, rfl, _⟩, _, _, rfl, ⟨c, rfl, _⟩, rfl⟩ := this
    have := wf_u8 w1
    exact ⟨a, b, c, rfl, by omega, by omega⟩
  have hv1 := hv.lenSl
  by_cases hl : (150 : Int) < es.length
  · simp (disch := omega) [b3, F6, hv1]
  simp (disch := omega) [b3, F6, hv1]
  refine new_calls (fun hbad => ?_) (fun t1 t2 r m1 hR hr hg => ?_)
  · by_cases c1 : turn < 1
    case' pos => simp (disch := omega)
    case' neg => simp (disch := omega)
    all_goals
      refine drop_nil ?_
      simp (disch := omega)
  simp (disch := omega) [hv1]
  refine exec_loopU (σ := Nat × V × Rd × List Nat × Mem) (fun (i, mv, w, _, _) => [(8, mv), (9, .int .i64 w.now), (52, .int .i64 i)]) (fun (_, _, _, _, M) => M)
    (fun (i, mv, w, D, M) => i ≤ es.length ∧ Round M D r w ∧ m0.Grew M ∧ (∀ p ∈ D, m0.next ≤ p) ∧ Ows M 2 mv (w.l.map jb) ∧ (∀ p ∈ mv.fp, m0.next ≤ p ∧ p ∉ D) ∧ w.now ≤ i * 1000 ∧ w.turn = turn ∧ (w.l.map (·.1)).Nodup) (fun (i, _) => es.length - i)
    (0, .sl none 0 (some 0), ⟨turn, 0, []⟩, [r], m1) rfl
    ⟨by omega, hR, hg, by simp; omega, Ows.nil _ _, by simp [V.fp], by simp, rfl, by simp⟩ (by simp) ?_
  intro (i, mv, w, D, M) ⟨a1, a2, a3, a4, a5, a6, a7, a8, a9⟩
  by_cases hi : i < es.length
  case neg => simp (disch := omega)
  obtain ⟨e, he⟩ : ∃ e, es[i]? = some e := ⟨_, List.getElem?_eq_getElem hi⟩
  obtain ⟨p, q, full, rw, z1, z2, z3, z4, z5⟩ := (hv.grow a3).at he .i64
  obtain ⟨kd, id, need, rfl, k1, k2⟩ := hes2 e (mem_of_idx he)
  have hl64 := a2.len
  have hmv1 := a5.sl.lenSl
  simp only [List.length_map] at hmv1
  simp (disch := omega) [-getElem?_pos, z1, z3, z4, hmv1]
  have b1 := a2.grow (Mem.Grew.new M (.row 3 [[.int .u8 kd, .int .i64 id, .int .i64 need]] true))
  have b2 := a3.trans (Mem.Grew.new M (.row 3 [[.int .u8 kd, .int .i64 id, .int .i64 need]] true))
  have b3 := a5.grow (Mem.Grew.new M (.row 3 [[.int .u8 kd, .int .i64 id, .int .i64 need]] true))
  have o1 : (M.new (.row 3 [[.int .u8 kd, .int .i64 id, .int .i64 need]] true)).obj M.next = some (.row 3 [[.int .u8 kd, .int .i64 id, .int .i64 need]] true) := by simp
  have o2 : M.next < (M.new (.row 3 [[.int .u8 kd, .int .i64 id, .int .i64 need]] true)).next := by simp
  have o3 : M.next ∉ D := fun e => by have := a2.lt _ e; omega
  have o4 := a5.lt
  generalize M.new (.row 3 [[.int .u8 kd, .int .i64 id, .int .i64 need]] true) = M1 at *
  refine exec_loopU (σ := Nat × Mem) (fun (x, _) => [(12, .int .i64 (idxI (isId id) (w.l.take x))), (58, .int .i64 x)]) (fun (_, M) => M) (fun (x, M) => x ≤ w.l.length ∧ M1.Grew M) (fun (x, _) => w.l.length - x) (0, M1) rfl ⟨by omega, Mem.Grew.refl _⟩ (by simp [idxI]) ?_
  intro (x, M2) ⟨d1, d2⟩
  by_cases hx : x < w.l.length
  · obtain ⟨j, hj⟩ : ∃ j, w.l[x]? = some j := ⟨_, List.getElem?_eq_getElem hx⟩
    obtain ⟨p', q', full', g1, g2, g3, g4, g5, g6⟩ := (b3.grow d2).at (jb_map_get hj) .i64
    have o1' := d2.obj M.next o2
    rw [o1] at o1'
    have hnx := d2.next
    simp only [jb] at g4
    have en := idxI_next a9 hj id
    have hg' : M1.Grew (M2.new (.row 2 [[.int .i64 j.1, .int .i64 j.2]] true)) := d2.trans (Mem.Grew.new _ _)
    by_cases ej : j.1 = id
    · rw [if_pos ej] at en
      simp (disch := omega) [-getElem?_pos, g1, g3, g4, o1']
      exact again_mk (x + 1, M2.new (.row 2 [[.int .i64 j.1, .int .i64 j.2]] true)) (by dsimp only; exact ⟨by omega, hg'⟩) (by dsimp only; omega) (by simp [en]) rfl
    · rw [if_neg ej] at en
      simp (disch := omega) [-getElem?_pos, g1, g3, g4, o1']
      exact again_mk (x + 1, M2.new (.row 2 [[.int .i64 j.1, .int .i64 j.2]] true)) (by dsimp only; exact ⟨by omega, hg'⟩) (by dsimp only; omega) (by simp [en]) rfl
  · have : x = w.l.length := by omega
    subst this
    have o1' := d2.obj M.next o2
    rw [o1] at o1'
    have hnx := d2.next
    have c1 := b1.grow d2
    have c2 := b2.trans d2
    have c3 := b3.grow d2
    have c4 := c3.lt
    have c5 := c1.lt
    have c6 := c2.next
    have hw0 := a2.now
    have c7 := c3.sl.lenSl
    simp only [List.length_map] at c7
    have o2' : M.next < M2.next := by omega
    clear hx d1 d2 b1 b2 b3 o1 o2 a1 a2 a3 a5 z1 z2 z3 z4 z5 he hnx hes hes2 hv hmv1
    obtain ⟨F, hF⟩ : ∃ F, idxI (isId id) w.l = F := ⟨_, rfl⟩
    have hFr : -1 ≤ F ∧ F < 64 := by
      rcases idxI_cases (isId id) w.l with ⟨e1, e2⟩ | ⟨i, y, e1, e2, e3, e4⟩
      · omega
      · have := (List.getElem?_eq_some_iff.1 e2).1; omega
    have ek : kd.tmod 3 = kd % 3 := Int.tmod_eq_emod_of_nonneg (by omega)
    obtain ⟨k, hk⟩ : ∃ k, kd % 3 = k := ⟨_, rfl⟩
    have hk2 : k = 0 ∨ k = 1 ∨ k = 2 := by omega
    rcases hk2 with rfl | rfl | rfl
    case' inl =>
      by_cases n1 : need < 1
      case' pos =>
        simp (disch := omega) [-getElem?_pos, o1', ek, hk, hF]
        have e1 : addE w.l id need = 2 := by unfold addE; rw [hF]; rw [if_pos (.inl n1)]
        refine add_calls c1 (fun _ => ?_) (fun h => absurd h (by rw [e1]; omega))
        rw [e1]
        have p1 := c1
        have p2 := c2
        have p3 := a4
        have p4 := c3
        have p5 := a6
        have p6 : w.now ≤ ((i + 1 : Nat) : Int) * 1000 := by omega
        have p7 := a8
        have p8 := a9
        obtain ⟨NW, p9⟩ : ∃ x, w.now = x := ⟨_, rfl⟩
      case' neg =>
        by_cases n2 : 10000 < need
        case' pos =>
          simp (disch := omega) [-getElem?_pos, o1', ek, hk, hF]
          have e1 : addE w.l id need = 2 := by unfold addE; rw [hF]; rw [if_pos (.inr n2)]
          refine add_calls c1 (fun _ => ?_) (fun h => absurd h (by rw [e1]; omega))
          rw [e1]
          have p1 := c1
          have p2 := c2
          have p3 := a4
          have p4 := c3
          have p5 := a6
          have p6 : w.now ≤ ((i + 1 : Nat) : Int) * 1000 := by omega
          have p7 := a8
          have p8 := a9
          obtain ⟨NW, p9⟩ : ∃ x, w.now = x := ⟨_, rfl⟩
        case' neg =>
          by_cases n3 : 0 ≤ F
          case' pos =>
            simp (disch := omega) [-getElem?_pos, o1', ek, hk, hF]
            have e1 : addE w.l id need = 9 := by unfold addE; rw [hF]; rw [if_neg (by omega), if_pos n3]
            refine add_calls c1 (fun _ => ?_) (fun h => absurd h (by rw [e1]; omega))
            rw [e1]
            have p1 := c1
            have p2 := c2
            have p3 := a4
            have p4 := c3
            have p5 := a6
            have p6 : w.now ≤ ((i + 1 : Nat) : Int) * 1000 := by omega
            have p7 := a8
            have p8 := a9
            obtain ⟨NW, p9⟩ : ∃ x, w.now = x := ⟨_, rfl⟩
          case' neg =>
            by_cases n4 : 64 ≤ w.l.length
            case' pos =>
              simp (disch := omega) [-getElem?_pos, o1', ek, hk, hF, c7]
              have e1 : addE w.l id need = 3 := by unfold addE; rw [hF]; rw [if_neg (by omega), if_neg n3, if_pos n4]
              refine add_calls c1 (fun _ => ?_) (fun h => absurd h (by rw [e1]; omega))
              rw [e1]
              have p1 := c1
              have p2 := c2
              have p3 := a4
              have p4 := c3
              have p5 := a6
              have p6 : w.now ≤ ((i + 1 : Nat) : Int) * 1000 := by omega
              have p7 := a8
              have p8 := a9
              obtain ⟨NW, p9⟩ : ∃ x, w.now = x := ⟨_, rfl⟩
            case' neg =>
              simp (disch := omega) [-getElem?_pos, o1', ek, hk, hF, c7, eltsOf, Mem.elts]
              have e1 : addE w.l id need = 0 := by unfold addE; rw [hF, if_neg (by omega), if_neg n3, if_neg n4]
              refine (c3.grow (Mem.Grew.new M2 _)).app (by simp; omega) (by simp; omega) fun mv' M3 w1 w2 w3 => ?_
              have s0 : Stp M2 M3 mv.fp mv'.fp := (Stp.new M2 _ mv.fp).trans w2
              have u1 := c1.keep s0.next (s0.keep c5 (fun p hp he => (a6 p hp).2 he))
              have u2 := s0.obj M.next o2' (fun e => by have := o4 _ e; omega)
              rw [o1'] at u2
              have u3 := s0.toGrew c2 (fun p hp => (a6 p hp).1)
              have u4 := s0.apart c5 (fun p hp he => (a6 p hp).2 he)
              have u5 := s0.ge c6 (fun p hp => (a6 p hp).1)
              have u6 := s0.next
              simp (disch := omega) [u2]
              refine add_calls u1 (fun h => absurd e1 h) (fun _ M4 D4 v1 v2 => ?_)
              have p1 := v1
              have p2 := v2.toGrew u3 a4
              have p3 := v2.ge u3.next a4
              have p4 : Ows M4 2 mv' ((w.l ++ [(id, need)]).map jb) := by
                rw [List.map_append]; exact w1.step v2 (fun p hp he => u4 p he hp)
              have p5 : ∀ p ∈ mv'.fp, m0.next ≤ p ∧ p ∉ D4 := fun p hp => ⟨u5 p hp, fun e => v2.apart w1.lt (fun p hp he => u4 p he hp) p e hp⟩
              have p6 : w.now ≤ ((i + 1 : Nat) : Int) * 1000 := by omega
              have p7 := a8
              have p8 : ((w.l ++ [(id, need)]).map (·.1)).Nodup := by
                rw [List.map_append, List.nodup_append]
                refine ⟨a9, by simp, fun a ha b hb e => ?_⟩
                simp at hb; subst hb; subst e
                obtain ⟨y, hy, e2⟩ := List.mem_map.1 ha
                rcases idxI_cases (isId a) w.l with ⟨q1, q2⟩ | ⟨i, y, q1, q2, q3, q4⟩
                · have := q2 y hy; simp [isId] at this; exact this e2
                · omega
              obtain ⟨NW, p9⟩ : ∃ x, w.now = x := ⟨_, rfl⟩
              clear u1 u2 u3 u4 u5 u6 s0 w1 w2 w3 v1 v2
    case' inr.inl =>
      simp (disch := omega) [-getElem?_pos, o1', ek, hk, hF]
      refine drop_calls c1 (fun h => ?_) (fun x j h1 h2 M3 D3 v1 v2 => ?_)
      case' refine_1 =>
        have hFn : F = -1 := by omega
        simp (disch := omega) [hFn]
        have p1 := c1
        have p2 := c2
        have p3 := a4
        have p4 := c3
        have p5 := a6
        have p6 : w.now ≤ ((i + 1 : Nat) : Int) * 1000 := by omega
        have p7 := a8
        have p8 := a9
        obtain ⟨NW, p9⟩ : ∃ x, w.now = x := ⟨_, rfl⟩
      case' refine_2 =>
        have hFn : F = x := by omega
        subst hFn
        have hxl := (List.getElem?_eq_some_iff.1 h2).1
        have u1 := c3.step v2 (fun p hp he => (a6 p he).2 hp)
        have u2 := v2.toGrew c2 a4
        have u3 := v2.ge c6 a4
        have u4 := v2.apart c4 (fun p hp he => (a6 p he).2 hp)
        obtain ⟨p', q', full', g1, g2, g3, g4, g5, g6⟩ := u1.at (jb_map_get h2) .i64
        simp only [jb] at g4
        obtain ⟨vL, hL1, hL2, _⟩ := u1.sl.cutR .i64 x (by simp; omega)
        obtain ⟨vR, hR1, hR2, _⟩ := u1.sl.cutL .i64 (x + 1) (by simp; omega)
        have hgn := Mem.Grew.new M3 (.row 2 [] true)
        have hL3 := (hL2.grow hgn).elts
        simp at hR1
        simp (disch := omega) [-getElem?_pos, g1, g3, g4, hL1, hR1, hL3]
        refine (Fr.lit (m := M3) (sz := 2)).app (by simp; omega) (by simp; omega) fun f1 M5 e1 e2 e3 => ?_
        have y1 : Stp M3 (M3.new (.row 2 [] true)) [] [M3.next] := ⟨by simp, fun p hp _ => by rw [new_obj, if_neg (by omega)], fun p hp => by simp at hp; exact .inr (by omega)⟩
        have y2 : Stp M3 M5 [] f1.fp := y1.trans e2
        have hR3 := (hR2.keep y2.next fun p hp _ => y2.obj p hp (by simp)).elts
        simp (disch := omega) [hR3]
        refine e1.app (by simp; omega) (by simp; omega) fun mv' M6 e4 e5 e6 => ?_
        have y3 : Stp M3 M6 [] mv'.fp := y2.trans e5
        have y4 := v1.lt
        have p1 := v1.keep y3.next (fun p hp => y3.obj p (y4 p hp) (by simp))
        have p2 := y3.toGrew u2 (by simp)
        have p3 := u3
        have p4 : Ows M6 2 mv' ((w.l.take x ++ w.l.drop (x + 1)).map jb) := by
          have := e4.ows
          rw [List.nil_append, ← List.map_take, ← List.map_drop, ← List.map_append] at this
          exact this
        have p5 : ∀ p ∈ mv'.fp, m0.next ≤ p ∧ p ∉ D3 := fun p hp => by
          rcases y3.fp p hp with q | q
          · simp at q
          · have := u2.next; exact ⟨by omega, fun e => by have := y4 p e; omega⟩
        have p6 : w.now ≤ ((i + 1 : Nat) : Int) * 1000 := by omega
        have p7 := a8
        have p8 : ((w.l.take x ++ w.l.drop (x + 1)).map (·.1)).Nodup := by
          refine List.Nodup.sublist (List.Sublist.map _ ?_) a9
          have e : w.l = w.l.take x ++ (j :: w.l.drop (x + 1)) := by
            conv => lhs; rw [← List.take_append_drop x w.l]
            rw [List.drop_eq_getElem_cons hxl, (List.getElem?_eq_some_iff.1 h2).2]
          conv => rhs; rw [e]
          exact (List.Sublist.refl _).append (List.sublist_cons_self _ _)
        obtain ⟨NW, p9⟩ : ∃ x, w.now = x := ⟨_, rfl⟩
        clear y1 y2 y3 y4 e1 e2 e3 e4 e5 e6 hR1 hR2 hR3 hL1 hL2 hL3 g1 g2 g3 g4 g5 g6 u1 u2 u3 u4 v1 v2 hgn
    case' inr.inr =>
      simp (disch := omega) [-getElem?_pos, o1', ek, hk, hF]
      refine next_calls c1 (by omega) (fun h M3 v1 v2 => ?_) (fun j rest h M3 D3 v1 v2 => ?_)
      case' refine_1 =>
        rw [h] at c7
        simp at c7
        simp (disch := omega) [c7]
        have p1 := v1.grow (Mem.Grew.new M3 (.row 4 [[.int .i64 0, .int .i64 0, .int .i64 0, .bool false]] true))
        have p2 := (v2.toGrew c2 a4).trans (Mem.Grew.new M3 (.row 4 [[.int .i64 0, .int .i64 0, .int .i64 0, .bool false]] true))
        have p3 := a4
        have p4 := (c3.step v2 (fun p hp he => (a6 p he).2 hp)).grow (Mem.Grew.new M3 (.row 4 [[.int .i64 0, .int .i64 0, .int .i64 0, .bool false]] true))
        have p5 := a6
        have p6 : w.now ≤ ((i + 1 : Nat) : Int) * 1000 := by omega
        have p7 := a8
        have p8 := a9
        obtain ⟨NW, p9⟩ : ∃ x, w.now = x := ⟨_, rfl⟩
      case' refine_2 =>
        have u1 := c3.step v2 (fun p hp he => (a6 p he).2 hp)
        have u2 := v2.toGrew c2 a4
        have u3 := v2.ge c6 a4
        have u4 := v2.apart c4 (fun p hp he => (a6 p he).2 hp)
        rw [h] at c7
        simp at c7
        obtain ⟨n, hn⟩ : ∃ n, tk w.turn j = n := ⟨_, rfl⟩
        have h3 := c1.rok.tk h
        have hjk := c1.ok j (by rw [h]; simp)
        rw [hn] at h3
        have hmin : min j.2 turn = n := by rw [← hn, tk, a8]
        have hdd : decide (j.2 - n = 0) = decide (n = j.2) := by
          by_cases e : n = j.2
          · simp [e]
          · simp [e]; omega
        have hll : rest.length + 1 ≤ 64 := by rw [h] at hl64; simpa using hl64
        simp only [turnC, hn, hdd]
        have hT := ((Mem.Grew.new M3 (.row 4 [[.int .i64 j.1, .int .i64 w.now, .int .i64 n, .bool (decide (n = j.2))]] true)).trans (Mem.Grew.new _ (.row 2 [[.int .i64 j.1, .int .i64 j.2]] true))).trans (Mem.Grew.new _ (.row 2 [] true))
        obtain ⟨p', q', full', g1, g2, g3, g4, g5, g6⟩ := u1.at (i := 0) (x := jb j) (by rw [h]; rfl) .i64
        simp only [jb] at g4
        obtain ⟨vR, hR1, hR2, _⟩ := u1.sl.cutL .i64 1 (by rw [h]; simp)
        have er : (w.l.map jb).drop 1 = rest.map jb := by rw [h]; rfl
        rw [er] at hR2
        have hR3 := (hR2.grow hT).elts
        simp at hR1 g1
        simp (disch := omega) [-getElem?_pos, c7, g1, g3, g4, hR1, hR3]
        refine (Fr.lit (m := (M3.new (.row 4 [[.int .i64 j.1, .int .i64 w.now, .int .i64 n, .bool (decide (n = j.2))]] true)).new (.row 2 [[.int .i64 j.1, .int .i64 j.2]] true)) (sz := 2)).app (by simp; omega) (by simp; omega) fun f1 M5 e1 e2 e3 => ?_
        rw [List.nil_append] at e1
        have y1 : Stp M3 (((M3.new (.row 4 [[.int .i64 j.1, .int .i64 w.now, .int .i64 n, .bool (decide (n = j.2))]] true)).new (.row 2 [[.int .i64 j.1, .int .i64 j.2]] true)).new (.row 2 [] true)) [] [M3.next + 1 + 1] := ⟨by simp; omega, fun p hp _ => by simp (disch := omega), fun p hp => by simp at hp; exact .inr (by omega)⟩
        have y2 : Stp M3 M5 [] f1.fp := y1.trans e2
        have k1 := e2.obj M3.next (by simp; omega) (by simp [V.fp]; omega)
        have k2 := e2.obj (M3.next + 1) (by simp <;> omega) (by simp [V.fp] <;> omega)
        have k3 := e2.next
        have y4 := v1.lt
        simp (disch := omega) at k1 k2 k3
        have v1' := v1.keep y2.next (fun p hp => y2.obj p (y4 p hp) (by simp))
        have u2' := y2.toGrew u2 (by simp)
        have e7 : ∀ p ∈ f1.fp, m0.next ≤ p ∧ p ∉ D3 := fun p hp => by
          rcases y2.fp p hp with q | q
          · simp at q
          · have := u2.next; exact ⟨by omega, fun e => by have := y4 p e; omega⟩
        have hnd : (w.l.map (·.1)).Nodup := a9
        rw [h] at hnd
        simp only [List.map_cons, List.nodup_cons] at hnd
        by_cases hlt : n < j.2
        case' neg =>
          have hej : n = j.2 := by omega
          simp (disch := omega) [-getElem?_pos, k1, k2, hmin]
          have ew : w.after j rest = ⟨w.turn, w.now + n, rest⟩ := by simp only [Rd.after, hn]; rw [if_pos (by omega)]
          rw [ew] at v1'
          have p1 := v1'
          have p2 := u2'
          have p3 := u3
          have p4 : Ows M5 2 f1 (rest.map jb) := e1.ows
          have p5 := e7
          have p6 : w.now + n ≤ ((i + 1 : Nat) : Int) * 1000 := by omega
          have p7 := a8
          have p8 := hnd.2
          obtain ⟨NW, p9⟩ : ∃ x, w.now + n = x := ⟨_, rfl⟩
        case' pos =>
          simp (disch := omega) [-getElem?_pos, k1, k2, hmin, eltsOf, Mem.elts]
          refine (e1.ows.grow (Mem.Grew.new M5 _)).app (by simp; omega) (by simp; omega) fun mv' M6 e4 e5 e6 => ?_
          have e5' : Stp M5 M6 f1.fp mv'.fp := (Stp.new M5 _ f1.fp).trans e5
          have y5 : Stp M3 M6 [] mv'.fp := y2.trans e5'
          have ew : w.after j rest = ⟨w.turn, w.now + n, rest ++ [(j.1, j.2 - n)]⟩ := by simp only [Rd.after, hn]; rw [if_neg (by omega)]
          rw [ew] at v1'
          have p1 := v1'.keep e5'.next (e5'.keep v1'.lt (fun p hp he => (e7 p hp).2 he))
          have p2 := e5'.toGrew u2' (fun p hp => (e7 p hp).1)
          have p3 := u3
          have p4 : Ows M6 2 mv' ((rest ++ [(j.1, j.2 - n)]).map jb) := by rw [List.map_append]; exact e4
          have p5 : ∀ p ∈ mv'.fp, m0.next ≤ p ∧ p ∉ D3 := fun p hp => by
            rcases y5.fp p hp with q | q
            · simp at q
            · have := u2.next; exact ⟨by omega, fun e => by have := y4 p e; omega⟩
          have p6 : w.now + n ≤ ((i + 1 : Nat) : Int) * 1000 := by omega
          have p7 := a8
          have p8 : ((rest ++ [(j.1, j.2 - n)]).map (·.1)).Nodup := by
            rw [List.map_append, List.nodup_append]
            refine ⟨hnd.2, by simp, fun a ha b hb e => ?_⟩
            simp at hb; subst hb; subst e
            exact hnd.1 ha
          obtain ⟨NW, p9⟩ : ∃ x, w.now + n = x := ⟨_, rfl⟩
    all_goals
      try simp (disch := omega)
      have ⟨w2, pp⟩ := (⟨_, p1, p4, p6, p7, p8, p9⟩ : ∃ w2 : Rd, Round _ _ _ w2 ∧ Ows _ 2 _ (w2.l.map jb) ∧ w2.now ≤ _ ∧ w2.turn = _ ∧ (w2.l.map (·.1)).Nodup ∧ w2.now = NW)
      clear p1 p4 p6 p7 p8
      obtain ⟨p1, p4, p6, p7, p8, p10⟩ := pp
      refine row_calls p1 fun rv m6 r1 r2 => ?_
      have l1 := r1.sl.lenSl
      rw [rowI_length, List.length_map] at l1
      have l2 := p4.sl.lenSl
      simp only [List.length_map] at l2
      have q1 := p1.len
      simp (disch := omega) [l1, l2]
      refine now_calls (p1.grow r2) ?_
      simp (disch := omega) [l2, p9, p10]
      refine exec_loopU (σ := Nat × Mem) (fun (x, _) => [(23, .int .i64 (leftI (w2.l.take x))), (211, .int .i64 x)]) (fun (_, M) => M) (fun (x, M) => x ≤ w2.l.length ∧ m6.Grew M) (fun (x, _) => w2.l.length - x) (0, m6) rfl ⟨by omega, Mem.Grew.refl _⟩ (by simp [leftI]) ?_
      intro (x, M7) ⟨d1, d2⟩
      have q2 := d2.next
      by_cases hx : x < w2.l.length
      · obtain ⟨j, hj⟩ : ∃ j, w2.l[x]? = some j := ⟨_, List.getElem?_eq_getElem hx⟩
        obtain ⟨pp', qq', full', g1, g2, g3, g4, g5, g6⟩ := ((p4.grow r2).grow d2).at (jb_map_get hj) .i64
        simp only [jb] at g4
        obtain ⟨p5', q5', full5, rw5, z1, z2, z3, z4⟩ := at1 (r1.grow d2).sl (y := x) (by simp; omega)
        have hnth : nth (w2.l.map (·.1)) x = j.1 := by
          unfold nth; simp [hj]
        rw [hnth] at z4
        have hb := leftI_le (w2.l.take x) (fun y hy => p1.ok y (List.mem_of_mem_take hy))
        have hjk := p1.ok j (mem_of_idx hj)
        have hl2 : (w2.l.take x).length = x := by simp; omega
        have e1 : leftI (w2.l.take (x + 1)) = leftI (w2.l.take x) + j.2 := by rw [takeS hj, leftI_snoc]
        simp (disch := omega) [-getElem?_pos, g1, g3, g4, z1, z3, z4]
        exact again_mk (x + 1, _) (by dsimp only; exact ⟨by omega, d2.trans (Mem.Grew.new M7 (.row 2 [[.int .i64 j.1, .int .i64 j.2]] true))⟩) (by dsimp only; omega) (by simp [e1]) rfl
      · have hxe : x = w2.l.length := by omega
        subst hxe
        simp (disch := omega)
        refine left_calls ((p1.grow r2).grow d2) fun m8 f8 => ?_
        simp (disch := omega)
        have g9 := (r2.trans d2).trans f8
        exact again_mk (i + 1, _, w2, _, m8) (by dsimp only; exact ⟨by omega, p1.grow g9, p2.trans g9, p3, p4.grow g9, p5, p6, p7, p8⟩) (by dsimp only; omega) (by simp [p9, p10]) rfl

end Go.Proofs.Ytgmidpacmlkfgaa
