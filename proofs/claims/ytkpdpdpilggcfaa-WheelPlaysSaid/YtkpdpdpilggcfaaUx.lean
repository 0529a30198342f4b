/-
  ONE TICK, as the code goes.
-/
import Derived.Test.YtkpdpdpilggcfaaTx
namespace Go.Proofs.Ytkpdpdpilggcfaa
open Go Go.AM
set_option linter.unusedVariables false
set_option linter.unusedSimpArgs false
set_option maxRecDepth 60000
set_option maxHeartbeats 4000000

theorem tick_calls {c : Nat} {m : Mem} {D : List Nat} {r n : Nat} {R : List It} (hW : Whl c m D r n R) (hn : n < 1152921504606846976) {K : KV}
    (h : ∀ m' D' v, Whl c m' D' r (n + 1) (leftAt R (n + 1)) → Stp m m' D D' → Ows m' 1 v (rowI .i64 ((fireAt R (n + 1)).map (·.1))) → (∀ p ∈ v.fp, m.next ≤ p ∧ p ∉ D') → K v m') : ACalls Try.prog 18 [.ptr (some (r, 0, 0))] m K := by
  have hRl := hW.len
  have hdue := hW.due
  have hups := hW.up
  have hids := hW.ids
  obtain ⟨q, sq, v, S, l, g, rfl, hL, hF, hsq, hsq2, hDu, hG⟩ := hW.ex
  refine run_on (ctx_nil _) hm c18 (by simp) fun hf => ?_
  obtain ⟨cs, o1, o2⟩ := hL.row
  have e0 := o2.c0
  have el := o2.len
  obtain ⟨N, hN⟩ : ∃ N, N = n + 1 := ⟨_, rfl⟩
  have hNi : (n : Int) + 1 = (N : Int) := by omega
  have hcn := o2.now N
  have hcs : cs.set 0 (.int .i64 N) = .int .i64 N :: cs.tail := by cases cs with | nil => simp at el | cons a t => simp
  rw [hcs] at hcn
  simp (disch := omega) [-getElem?_pos, b18, o1, e0, el, spl, hNi]
  have hL1 := hL.setRow hcn
  have s1 : Stp m (m.upd r (some (.row 67 [(.int .i64 N :: cs.tail)] true))) (fpW r q v) (fpW r q v) := Stp.upd _ (mem_fpW.2 (.inl rfl)) _
  rw [← hN] at h
  generalize m.upd r (some (.row 67 [(.int .i64 N :: cs.tail)] true)) = m1 at *
  refine deal_calls hN hL1 (by omega) hF (fun x hx => by have := hdue x hx; omega) (by omega) fun m2 v2 S2 hL2 hF2 s2 => ?_
  replace s1 := s1.trans s2
  have hm2 := s1.next
  clear hL1 s2 o1 o2 e0 el hcn hF hL
  obtain ⟨cs, o1, o2⟩ := hL2.row
  have e0 := o2.c0
  have el := o2.len
  have y1 := and15 N (by omega)
  obtain ⟨t, ht⟩ : ∃ t, N % 16 = t := ⟨_, rfl⟩
  rw [ht] at y1
  have hs : t < 64 := by omega
  have ev : cs[2 + t]? = some (v2 t) := o2.cv t hs
  have hO := hL2.sl t hs
  have hLm := hF2.mem t hs
  have hLn := hF2.nd t hs
  have hll := hF2.len (fun x s h => h.1) hs
  have hv := hO.sl.lenSl
  rw [List.length_map] at hv
  obtain ⟨nn, hnn⟩ : ∃ nn, (S2 t).length = nn := ⟨_, rfl⟩
  rw [hnn] at hv hll
  have hdN : ∀ x ∈ S2 t, x ∈ R ∧ x.2.1 = N := fun x hx => by
    have := (hLm x).1 hx
    exact ⟨this.1, slot0.1 (this.2.trans ht.symm)⟩
  simp (disch := omega) [-getElem?_pos, o1, e0, el, y1, ev, hv]
  refine exec_loopU (σ := Nat × V × Mem) (fun (k, u, _) => [(4, u), (5, .sl none 0 (some 0)), (34, .int .i64 k)]) (fun (_, _, M) => M) (fun (k, u, M) => k ≤ nn ∧ Ows M 3 u (((S2 t).take k).map it) ∧ m2.Grew M ∧ ∀ p ∈ u.fp, m2.next ≤ p) (fun (k, _, _) => nn - k) (0, .sl none 0 (some 0), m2) rfl
    (by dsimp only; exact ⟨by omega, Ows.nil _ _, Mem.Grew.refl _, by simp [V.fp]⟩) (by simp) ?_
  intro (k, u, M) ⟨a1, a2, a3, a4⟩
  have oM : M.obj r = some (.row 67 [cs] true) := by rw [a3.obj r hL2.lt]; exact o1
  have hrM : r < M.next := by have := a3.next; have := hL2.lt; omega
  by_cases hk : k < nn
  · obtain ⟨x, hx⟩ : ∃ x, (S2 t)[k]? = some x := ⟨_, List.getElem?_eq_getElem (by omega)⟩
    have hxN := (hdN x (mem_of_idx hx)).2
    obtain ⟨p, c, full, rw, z1, z2, z3, z4, _⟩ := (hO.grow a3).sl.at (it_get hx) .i64
    simp only [it] at z4
    rw [hxN] at z4
    have gS := (Mem.Grew.new M (.row 3 [[.int .i64 x.1, .int .i64 N, .int .i64 x.2.2]] true)).trans (Mem.Grew.new _ (.row 3 [[.int .i64 x.1, .int .i64 N, .int .i64 x.2.2]] true))
    simp (disch := omega) [-getElem?_pos, z1, z3, z4, oM, e0, el, eltsOf, Mem.elts]
    have hlt : (((S2 t).take k).map it).length ≤ 1024 := by rw [List.length_map, List.length_take]; omega
    refine (a2.grow gS).app (by omega) (by omega) fun u' M' e1 e2 e3 => ?_
    have e : ((S2 t).take k).map it ++ [[.int .i64 x.1, .int .i64 N, .int .i64 x.2.2]] = ((S2 t).take (k + 1)).map it := by rw [takeS hx, List.map_append]; simp [it, hxN]
    rw [e] at e1
    have s7 := (Stp.grow gS u.fp).trans e2
    simp (disch := omega) [-getElem?_pos]
    exact again_mk (k + 1, u', M') (by dsimp only; exact ⟨by omega, e1, s7.toGrew a3 a4, s7.ge a3.next a4⟩) (by dsimp only; omega) (by simp) rfl
  have : k = nn := by omega
  subst this
  have hL3 := hL2.grow a3
  have hnf : ∀ p ∈ u.fp, p ∉ fpW r q v2 := fun p hp hq => by have := a4 p hp; have := hL2.ltp p hq; omega
  replace s1 := s1.trans (Stp.grow a3 _)
  rw [← hnn, List.take_length] at a2
  have hcc := o2.slot hs (.sl none 0 (some 0))
  have hst := hL3.setSlot (m' := M) hs (L := []) (Ows.nil _ _) ⟨Nat.le_refl _, fun p hp _ => rfl, fun p hp => by simp [V.fp] at hp⟩ hcc
  have a2' : Ows (M.upd r (some (.row 67 [cs.set (2 + t) (.sl none 0 (some 0))] true))) 3 u ((S2 t).map it) := a2.step hst.2 (fun p hp hq => hnf p hq hp)
  simp (disch := omega) [-getElem?_pos, oM, el, spl]
  have hnf2 : ∀ p ∈ u.fp, p ∉ fpW r q (setv v2 t (.sl none 0 (some 0))) := fun p hp hq => by
    rcases mem_fpW.1 hq with rfl | rfl | ⟨b, hb, hq⟩
    · exact hnf _ hp (mem_fpW.2 (.inl rfl))
    · exact hnf _ hp (mem_fpW.2 (.inr (.inl rfl)))
    · by_cases e : b = t
      · subst e; rw [setv_self] at hq; simp [V.fp] at hq
      · rw [setv_ne _ _ e] at hq; exact hnf _ hp (mem_fpW.2 (.inr (.inr ⟨b, hb, hq⟩)))
  obtain ⟨hL4, hS4⟩ := hst
  replace s1 := s1.trans hS4
  have hF4 : Fit (setv S2 t []) (fun x s => x ∈ leftAt R N ∧ ix N x.2.1 = s) := (hF2.clear hs).imp fun x s hs => by
    rw [left_mem]
    constructor
    · rintro ⟨a, b, c⟩; exact ⟨⟨a, fun e => b (by rw [← ht]; exact slot0.2 e)⟩, c⟩
    · rintro ⟨⟨a, b⟩, c⟩; exact ⟨a, fun e => b (slot0.1 (e.trans ht.symm)), c⟩
  have hge : ∀ p ∈ u.fp, m2.next ≤ p := a4
  have hnx1 := hL2.ltq
  generalize hv3 : setv v2 t (.sl none 0 (some 0)) = v3 at *
  generalize M.upd r (some (.row 67 [cs.set (2 + t) (.sl none 0 (some 0))] true)) = M4 at *
  refine sortT_calls a2' (by omega) fun F M5 p1 p2 p3 p4 => ?_
  have hFe : F = fireAt R N := fired_eq hups (fun x => by rw [ht]; exact hLm x) hLn p1 p2
  subst hFe
  have hlenF := p1.length_eq
  have hL5 : Lay M5 r q N sq v3 (setv S2 t []) l g := hL4.keep p4.next fun p hp => p4.obj p (hL4.ltp p hp) fun e => hnf2 p e hp
  have s5 : Stp m M5 (fpW r q v) (fpW r q v3) := by
    refine ⟨by have := s1.next; have := p4.next; omega, fun p hp hne => ?_, fun p hp => s1.fp p hp⟩
    rw [p4.obj p (by have := s1.next; omega) (fun e => by have := a4 p e; omega), s1.obj p hp hne]
  have nru : r ∉ u.fp ∧ q ∉ u.fp := ⟨fun e => hnf2 _ e (mem_fpW.2 (.inl rfl)), fun e => hnf2 _ e (mem_fpW.2 (.inr (.inl rfl)))⟩
  have hvF := p3.sl.lenSl
  rw [List.length_map, hlenF, hnn] at hvF
  rw [hnn] at hlenF
  generalize setv S2 t [] = S3 at *
  clear hL4 hS4 hL3 a2' a2 a3 hF2 hLm hLn hO hv ev hcc oM p1 p2 p4 hdN hL2 s1
  simp (disch := omega) [-getElem?_pos, hvF]
  have hFm : ∀ x ∈ fireAt R N, x ∈ R := fun x hx => (fire_mem.1 hx).1
  have hFn : (fireAt R N).Nodup := (hups.sublist List.filter_sublist).imp (fun h e => by rw [e] at h; omega)
  have hfl := fire_left R N
  refine exec_loopU (σ := Nat × V × List (Int × V) × (List Nat × Nat) × Mem) (fun (i, w, _, _, _) => [(8, w), (61, .int .i64 i)]) (fun (_, _, _, _, M) => M)
    (fun (i, w, l', g', M) => i ≤ k ∧ Lay M r q N sq v3 S3 l' g' ∧ Due l' (fun x => x ∈ R ∧ x ∉ (fireAt R N).take i) (R.length - i) ∧ GOk (mapI l') g' ∧ Ows M 1 w (rowI .i64 (((fireAt R N).take i).map (·.1))) ∧ Stp m M (fpW r q v) (fpW r q v3) ∧ Ows M 3 u ((fireAt R N).map it) ∧ (∀ p ∈ w.fp, M5.next ≤ p) ∧ M5.next ≤ M.next) (fun (i, _, _, _, _) => k - i) (0, .sl none 0 (some 0), l, g, M5) rfl
    (by dsimp only; exact ⟨by omega, hL5, hDu.imp fun x => by simp, hG, Ows.nil _ _, s5, p3, by simp [V.fp], Nat.le_refl _⟩) (by simp) ?_
  intro (i, w, l', g', M) ⟨b1, b2, b3, b4, b5, b6, b7, b8, b9⟩
  by_cases hi : i < k
  case neg =>
    have : i = k := by omega
    subst this
    rw [← hlenF, List.take_length] at b3 b5
    simp (disch := omega) [-getElem?_pos]
    refine h _ (fpW r q v3) w ⟨hups.sublist List.filter_sublist, fun x hx => ?_, hids.sublist (List.filter_sublist.map _), by unfold leftAt; have := List.length_filter_le (fun x : It => !decide (x.2.1 = N)) R; omega, by omega, q, sq, v3, S3, l', g', rfl, b2, hF4, fun x hx => hsq x (left_mem.1 hx).1, hsq2, ?_, b4⟩ b6 b5 fun p hp => ?_
    · obtain ⟨h1, h2⟩ := left_mem.1 hx
      have := hdue x h1
      omega
    · have hl : R.length - (fireAt R N).length = (leftAt R N).length := by omega
      rw [hl] at b3
      refine b3.imp fun x => ?_
      rw [left_mem, fire_mem]
      exact ⟨fun ⟨a, b⟩ => ⟨a, fun e => b ⟨a, e⟩⟩, fun ⟨a, b⟩ => ⟨a, fun e => b e.2⟩⟩
    · have := b8 p hp
      have := s5.next
      exact ⟨by omega, fun e => by have := hL5.ltp p e; omega⟩
  obtain ⟨x, hx⟩ : ∃ x, (fireAt R N)[i]? = some x := ⟨_, List.getElem?_eq_getElem (by omega)⟩
  have hxR := hFm x (mem_of_idx hx)
  obtain ⟨p, c, full, rw, z1, z2, z3, z4, _⟩ := b7.sl.at (it_get hx) .i64
  simp only [it] at z4
  obtain ⟨cs', o1, o2⟩ := b2.row
  have el' := o2.len
  have em := o2.cm
  have hmp := b2.mp
  have hrM' := b2.lt
  have hqM' := b2.ltq
  have hrq := b2.rq
  have gS := Mem.Grew.new M (.row 3 [[.int .i64 x.1, .int .i64 x.2.1, .int .i64 x.2.2]] true)
  have oS : (M.new (.row 3 [[.int .i64 x.1, .int .i64 x.2.1, .int .i64 x.2.2]] true)).obj M.next = some (.row 3 [[.int .i64 x.1, .int .i64 x.2.1, .int .i64 x.2.2]] true) := by simp
  simp (disch := omega) [-getElem?_pos, z1, z3, z4, o1, el', em, hmp, delM_mapI, eltsOf, Mem.elts]
  obtain ⟨hL6, hS6⟩ := (b2.grow gS).setMap (delI l' x.1) (stD (mapI l') (.int .i64 x.1) g')
  have hqu : q ∉ u.fp := nru.2
  have b7' : Ows ((M.new (.row 3 [[.int .i64 x.1, .int .i64 x.2.1, .int .i64 x.2.2]] true)).upd q (some (.map (mapI (delI l' x.1)) (stD (mapI l') (.int .i64 x.1) g')))) 3 u ((fireAt R N).map it) := (b7.grow gS).keep (by simp) fun p hp => by rw [updO _ (fun e => hqu (by rw [← e]; exact hp))]
  have b5' : Ows ((M.new (.row 3 [[.int .i64 x.1, .int .i64 x.2.1, .int .i64 x.2.2]] true)).upd q (some (.map (mapI (delI l' x.1)) (stD (mapI l') (.int .i64 x.1) g')))) 1 w (rowI .i64 (((fireAt R N).take i).map (·.1))) := (b5.grow gS).keep (by simp) fun p hp => by
    rw [updO _ (fun e => by have := b8 p hp; have := hL5.ltq; omega)]
  have s6 : Stp m ((M.new (.row 3 [[.int .i64 x.1, .int .i64 x.2.1, .int .i64 x.2.2]] true)).upd q (some (.map (mapI (delI l' x.1)) (stD (mapI l') (.int .i64 x.1) g')))) (fpW r q v) (fpW r q v3) := (b6.trans (Stp.grow gS _)).trans hS6
  have n6 : M.next ≤ ((M.new (.row 3 [[.int .i64 x.1, .int .i64 x.2.1, .int .i64 x.2.2]] true)).upd q (some (.map (mapI (delI l' x.1)) (stD (mapI l') (.int .i64 x.1) g')))).next := by rw [upd_next]; exact gS.next
  generalize (M.new (.row 3 [[.int .i64 x.1, .int .i64 x.2.1, .int .i64 x.2.2]] true)).upd q (some (.map (mapI (delI l' x.1)) (stD (mapI l') (.int .i64 x.1) g'))) = M6 at *
  have g7 := Mem.Grew.new M6 (.row 1 [[.int .i64 x.1]] true)
  have hlw : (rowI .i64 (((fireAt R N).take i).map (·.1))).length ≤ 1024 := by rw [rowI_length, List.length_map, List.length_take]; omega
  refine (b5'.grow g7).app (by omega) (by omega) fun w' M8 e1 e2 e3 => ?_
  have hnw : ∀ p ∈ w.fp, p ∉ fpW r q v3 ∧ p ∉ u.fp → True := fun _ _ _ => trivial
  have e : rowI .i64 (((fireAt R N).take i).map (·.1)) ++ [[.int .i64 x.1]] = rowI .i64 (((fireAt R N).take (i + 1)).map (·.1)) := by rw [takeS hx, List.map_append, ← rowI_append]; rfl
  rw [e] at e1
  have hdisj : ∀ p ∈ w.fp, p ∉ fpW r q v3 := fun p hp hq => by have := b8 p hp; have := hL5.ltp p hq; omega
  have hdu : ∀ p ∈ w.fp, p ∉ u.fp := fun p hp hq => by have := b8 p hp; have := p3.lt p hq; omega
  have s8 := (Stp.grow g7 w.fp).trans e2
  have hL8 : Lay M8 r q N sq v3 S3 (delI l' x.1) (stD (mapI l') (.int .i64 x.1) g') := hL6.keep s8.next fun p hp => s8.obj p (hL6.ltp p hp) fun e => hdisj p e hp
  simp (disch := omega) [-getElem?_pos]
  exact again_mk (i + 1, w', _, _, M8) (by
    dsimp only
    refine ⟨by omega, hL8, ?_, b4.del x.1, e1, ?_, b7'.step s8 hdu, s8.ge (by omega) b8, by have := s8.next; omega⟩
    · have hxt : x ∉ (fireAt R N).take i := fun hm => by
        obtain ⟨j, hj⟩ := List.mem_iff_getElem?.1 hm
        rw [List.getElem?_take] at hj
        split at hj
        · rename_i hlt
          have h1 := List.getElem?_eq_some_iff.1 hj
          have h2 := List.getElem?_eq_some_iff.1 hx
          rw [List.nodup_iff_pairwise_ne, List.pairwise_iff_getElem] at hFn
          exact hFn j i h1.1 h2.1 hlt (h1.2.trans h2.2.symm)
        · cases hj
      have := b3.del (x := x) ⟨hxR, hxt⟩ (fun y hy e => id_inj hids hy.1 hxR e)
      rw [show R.length - i - 1 = R.length - (i + 1) by omega] at this
      refine this.imp fun y => ?_
      rw [takeS hx, List.mem_append, List.mem_singleton]
      exact ⟨fun ⟨⟨a, b⟩, c⟩ => ⟨a, fun e => e.elim b c⟩, fun ⟨a, b⟩ => ⟨⟨a, fun e => b (.inl e)⟩, fun e => b (.inr e)⟩⟩
    · refine ⟨by have := s6.next; have := s8.next; omega, fun p hp hne => ?_, fun p hp => s6.fp p hp⟩
      rw [s8.obj p (by have := s6.next; omega) (fun e => by have := b8 p e; have := s5.next; omega), s6.obj p hp hne]) (by dsimp only; omega) (by simp) rfl
end Go.Proofs.Ytkpdpdpilggcfaa
