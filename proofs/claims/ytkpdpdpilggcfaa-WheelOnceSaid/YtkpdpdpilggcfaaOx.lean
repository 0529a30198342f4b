/-
  WHEELONCE, of what the functions of this seat do.
-/
import Derived.Test.YtkpdpdpilggcfaaYx
namespace Go.Proofs.Ytkpdpdpilggcfaa
open Go Go.AM
set_option linter.unusedVariables false
set_option linter.unusedSimpArgs false
set_option maxRecDepth 60000
set_option maxHeartbeats 8000000

abbrev shT : Sh := .slice 1 (.int .u16)
abbrev shD : Sh := .slice 1 .bool
theorem is_u16 {m : Mem} {e : List V} (h : Is m (.int .u16) e) : ∃ k, e = [.int .u16 k] ∧ 0 ≤ k ∧ k ≤ 65535 := by
  simp only [Is] at h
  obtain ⟨k, rfl, w⟩ := h
  exact ⟨k, rfl, wf_u16 w⟩
theorem is_bool {m : Mem} {e : List V} (h : Is m .bool e) : ∃ b, e = [.bool b] := by
  simp only [Is] at h
  exact h

/-- The wheel, and the map of those that are to come. -/
structure Wm (n0 c : Nat) (M : Mem) (D : List Nat) (r q n : Nat) (R : List It) (l : List (Int × V)) (g : List Nat × Nat) : Prop where
  W : Whl c M D r n R
  o : M.obj q = some (.map (mapI l) g)
  lt : q < M.next
  ge : n0 ≤ q
  nd : q ∉ D
  D0 : ∀ p ∈ D, n0 ≤ p
  du : ∀ x ∈ R, x.2.1 ≤ 5000

theorem once_law (m0 : Mem) (x0 x1 : V) (h0 : IsV m0 shT x0) (h1 : IsV m0 shD x1) : ACalls Try.prog 4 [x0, x1] m0 (fun r _ => r = .bool true) := by
  refine run_on (ctx_nil _) hm c4 (by simp) fun hf => ?_
  simp (disch := omega) [-getElem?_pos, b4]
  refine fixed_calls fun m00 g00 => ?_
  obtain ⟨es, hv, hml, hes⟩ := h0.slR hf
  obtain ⟨ds, hd, hmd, hds⟩ := h1.slR hf
  replace hv := hv.grow g00
  replace hes : ∀ e ∈ es, Is m00 _ e := fun e he => Is.mono (fun q o ho => by rw [g00.obj q (hf q o ho)]; exact ho) _ _ (hes e he)
  replace hd := hd.grow g00
  replace hds : ∀ e ∈ ds, Is m00 _ e := fun e he => Is.mono (fun q o ho => by rw [g00.obj q (hf q o ho)]; exact ho) _ _ (hds e he)
  have hv1 := hv.lenSl
  have hd1 := hd.lenSl
  by_cases hl : (100 : Int) < es.length
  · simp (disch := omega) [-getElem?_pos, hv1]
  simp (disch := omega) [-getElem?_pos, hv1]
  obtain ⟨N, hN⟩ : ∃ N, es.length = N := ⟨_, rfl⟩
  obtain ⟨dn, hdn⟩ : ∃ dn, ds.length = dn := ⟨_, rfl⟩
  rw [hN] at hl hv1
  rw [hdn] at hd1
  refine new_calls fun m1 D1 r hW1 g1 hD1 => ?_
  have gM := Mem.Grew.new m1 (.map [] ([], 0))
  have oM : (m1.new (.map [] ([], 0))).obj m1.next = some (.map (mapI []) ([], 0)) := by simp [mapI]
  have bM : m1.next < (m1.new (.map [] ([], 0))).next := by simp
  have hW2 := hW1.grow gM
  have hqD : m1.next ∉ D1 := fun e => by have := hW1.lt _ e; omega
  have hq0 := g1.next
  have G0 := g1.trans gM
  simp (disch := omega) [-getElem?_pos, hv1]
  generalize m1.new (.map [] ([], 0)) = m2 at *
  generalize m1.next = q at *
  refine exec_loopU (σ := Nat × List Nat × List It × List (Int × V) × (List Nat × Nat) × Mem) (fun (i, _, _, _, _, _) => [(22, .int .i64 i)]) (fun (_, _, _, _, _, M) => M) (fun (i, D, R, l, g, M) => i ≤ N ∧ Wm m00.next i M D r q 0 R l g ∧ Due l (· ∈ R) R.length ∧ m00.Grew M ∧ (∀ x ∈ R, x.1 < i) ∧ R.length ≤ i) (fun (i, _, _, _, _, _) => N - i) (0, D1, [], [], ([], 0), m2) rfl
    (by dsimp only; exact ⟨by omega, ⟨hW2, oM, bM, hq0, hqD, hD1, by simp⟩, Due.nil.imp fun x => by simp, G0, by simp, by simp⟩) (by simp) ?_
  clear hW1 hW2 oM bM hq0 hqD hD1 G0 gM g1
  intro (i, D, R, l, g, M) ⟨a1, a2, a3, a4, a5, a6⟩
  by_cases hi : i < N
  · obtain ⟨e, he⟩ : ∃ e, es[i]? = some e := ⟨_, List.getElem?_eq_getElem (by omega)⟩
    obtain ⟨t, rfl, ht0, ht1⟩ := is_u16 (hes e (mem_of_idx he))
    obtain ⟨p, c, full, rw, z1, z2, z3, z4, _⟩ := (hv.grow a4).at he .i64
    obtain ⟨w, hw⟩ : ∃ w : Nat, t.tmod 5000 = w := ⟨(t.tmod 5000).toNat, by rw [Int.tmod_eq_emod_of_nonneg (by omega)]; omega⟩
    have hw2 : w < 5000 := by rw [Int.tmod_eq_emod_of_nonneg (by omega)] at hw; omega
    simp (disch := omega) [-getElem?_pos, z1, z3, z4, hw]
    refine put_calls a2.W (by omega) fun M1 D' R' e' hR hW1 hS1 => ?_
    have hh : ∃ s, e' = 0 ∧ R' = R ++ [((i : Int), w + 1, s)] := by
      cases hR with
      | range h => omega
      | busy _ h => obtain ⟨x, hx, e⟩ := h; have := a5 x hx; omega
      | full _ _ h => omega
      | ok _ _ _ d s h =>
        have : d = w + 1 := by omega
        subst this; exact ⟨s, rfl, rfl⟩
    obtain ⟨s, rfl, rfl⟩ := hh
    have o1 : M1.obj q = _ := (hS1.obj q a2.lt a2.nd).trans a2.o
    have q1 : q < M1.next := by have := hS1.next; have := a2.lt; omega
    have nd1 : q ∉ D' := fun e => by
      rcases hS1.fp q e with w | w
      · exact a2.nd w
      · have := a2.lt; omega
    have G1 := hS1.toGrew a4 a2.D0
    have ge1 := hS1.ge a4.next a2.D0
    have hdr : ∀ {K : KV}, (∀ M2 D2, Whl (i + 1) M2 D2 r 0 R → M2.obj q = some (.map (mapI l) g) → q < M2.next → q ∉ D2 → m00.Grew M2 → (∀ p ∈ D2, m00.next ≤ p) → K (.bool true) M2) → ACalls Try.prog 11 [.ptr (some (r, 0, 0)), .int .i64 i] M1 K := by
      intro K hK
      refine drop_calls hW1 fun M2 D2 R2 b hR2 hW2 hS2 => ?_
      have hh : b = true ∧ R2 = R := by
        cases hR2 with
        | no h => exact absurd ⟨((i : Int), w + 1, s), by simp, rfl⟩ h
        | one x hx e =>
          refine ⟨rfl, ?_⟩
          rw [List.filter_append, List.filter_eq_self.2 (fun y hy => by have := a5 y hy; simp; omega)]
          simp
      obtain ⟨rfl, rfl⟩ := hh
      refine hK M2 D2 hW2 ((hS2.obj q q1 nd1).trans o1) (by have := hS2.next; omega) (fun e => ?_) (hS2.toGrew G1 ge1) (hS2.ge G1.next ge1)
      rcases hS2.fp q e with w | w
      · exact nd1 w
      · omega
    have hdr2 : ∀ {M1 : Mem} {D' : List Nat} {K : KV}, Whl (i + 1) M1 D' r 0 R → M1.obj q = some (.map (mapI l) g) → q < M1.next → q ∉ D' → m00.Grew M1 → (∀ p ∈ D', m00.next ≤ p) → (∀ M2 D2, Wm m00.next (i + 1) M2 D2 r q 0 R l g → m00.Grew M2 → K (.bool false) M2) → ACalls Try.prog 11 [.ptr (some (r, 0, 0)), .int .i64 i] M1 K := by
      intro M1 D' K hW1 o1 q1 nd1 G1 ge1 hK
      refine drop_calls hW1 fun M2 D2 R2 b hR2 hW2 hS2 => ?_
      cases hR2 with
      | one x hx e => have := a5 x hx; omega
      | no h =>
        refine hK M2 D2 ⟨hW2, (hS2.obj q q1 nd1).trans o1, by have := hS2.next; omega, a2.ge, fun e => ?_, hS2.ge G1.next ge1, a2.du⟩ (hS2.toGrew G1 ge1)
        rcases hS2.fp q e with w | w
        · exact nd1 w
        · omega
    have hput : Wm m00.next (i + 1) (M1.upd q (some (.map (mapI (putI l i (.int .i64 ((w : Int) + 1)))) (stU (mapI l) (.int .i64 i) g)))) D' r q 0 (R ++ [((i : Int), w + 1, s)]) (putI l i (.int .i64 ((w : Int) + 1))) (stU (mapI l) (.int .i64 i) g) :=
      ⟨hW1.keep (by simp) fun p hp => by rw [updO _ (fun e => nd1 (by rw [← e]; exact hp))], by simp, q1, a2.ge, nd1, ge1, fun x hx => by
        rcases List.mem_append.1 hx with hx | hx
        · exact a2.du x hx
        · simp only [List.mem_singleton] at hx; subst hx; dsimp only; omega⟩
    have hput2 : Due (putI l i (.int .i64 ((w : Int) + 1))) (· ∈ R ++ [((i : Int), w + 1, s)]) (R ++ [((i : Int), w + 1, s)]).length := by
      have := a3.put (x := ((i : Int), w + 1, s)) fun y hy e => by have := a5 y hy; dsimp only at e; omega
      rw [List.length_append]
      exact this.imp fun y => by simp
    have hput3 : (∀ x ∈ R ++ [((i : Int), w + 1, s)], x.1 < ((i + 1 : Nat) : Int)) ∧ (R ++ [((i : Int), w + 1, s)]).length ≤ i + 1 := ⟨fun x hx => by
      rcases List.mem_append.1 hx with hx | hx
      · have := a5 x hx; omega
      · simp only [List.mem_singleton] at hx; subst hx; dsimp only; omega, by simp; omega⟩
    have hwi : (1 : Int) + w = (w : Int) + 1 := by omega
    by_cases hdl : i < dn
    case neg =>
      simp (disch := omega) [-getElem?_pos, hd1, o1, setM_mapI, hwi]
      exact again_mk (i + 1, D', _, _, _, _) (by dsimp only; exact ⟨by omega, hput, hput2, G1.upd a2.ge _, hput3.1, hput3.2⟩) (by dsimp only; omega) (by simp) rfl
    obtain ⟨e, hde⟩ : ∃ e, ds[i]? = some e := ⟨_, List.getElem?_eq_getElem (by omega)⟩
    obtain ⟨b, rfl⟩ := is_bool (hds e (mem_of_idx hde))
    obtain ⟨p', c', full', rw', y1, y2, y3, y4, _⟩ := (hd.grow G1).at hde .i64
    cases b with
    | false =>
      simp (disch := omega) [-getElem?_pos, hd1, y1, y3, y4, o1, setM_mapI, hwi]
      exact again_mk (i + 1, D', _, _, _, _) (by dsimp only; exact ⟨by omega, hput, hput2, G1.upd a2.ge _, hput3.1, hput3.2⟩) (by dsimp only; omega) (by simp) rfl
    | true =>
      simp (disch := omega) [-getElem?_pos, hd1, y1, y3, y4]
      refine hdr fun M2 D2 k1 k2 k3 k4 k5 k6 => ?_
      simp (disch := omega) [-getElem?_pos]
      refine hdr2 k1 k2 k3 k4 k5 k6 fun M3 D3 j1 j2 => ?_
      simp (disch := omega) [-getElem?_pos]
      exact again_mk (i + 1, D3, R, l, g, M3) (by dsimp only; exact ⟨by omega, j1, a3, j2, fun x hx => by have := a5 x hx; omega, by omega⟩) (by dsimp only; omega) (by simp) rfl
  have hiN : i = N := by omega
  subst hiN
  simp (disch := omega) [-getElem?_pos]
  clear hes hds hv hd
  refine exec_loopU (σ := Nat × List Nat × List It × List (Int × V) × (List Nat × Nat) × Mem) (fun (k, _, _, _, _, _) => [(10, .int .i64 ((k : Int) + 1))]) (fun (_, _, _, _, _, M) => M) (fun (k, D, R, l, g, M) => k ≤ 5000 ∧ Wm m00.next i M D r q k R l g ∧ Due l (· ∈ R) R.length) (fun (k, _, _, _, _, _) => 5000 - k) (0, D, R, l, g, M) rfl
    (by dsimp only; exact ⟨by omega, a2, a3⟩) (by simp) ?_
  clear a2 a3 a4 a5 a6
  intro (k, D, R, l, g, M) ⟨b1, b2, b3⟩
  have hdue : ∀ x ∈ R, k < x.2.1 := fun x hx => (b2.W.due x hx).1
  rcases Nat.lt_or_ge k 5000 with hk | hk
  case inr =>
    have hR0 : R = [] := by
      cases R with
      | nil => rfl
      | cons a R => have h1 := hdue a (by simp); have h2 := b2.du a (by simp); omega
    subst hR0
    have hl0 := b3.len
    have ho := b2.o
    simp only [List.length_nil] at hl0
    simp (disch := omega) [-getElem?_pos, ho, mapI_length, hl0]
    refine len_calls b2.W ?_
    simp (disch := omega) [-getElem?_pos]
  simp (disch := omega) [-getElem?_pos]
  refine advance_calls b2.W (k := 1) (by decide) (by omega) fun M1 D1' v W1 S1 u1 f1 => ?_
  have eo : outR R k 1 = (fireAt R (k + 1)).map (·.1) := by simp [outR]
  have er : rest R (k + 1) = leftAt R (k + 1) := by rw [← rest_next, rest_all hdue]
  rw [eo] at u1
  rw [er] at W1
  have hfl := fire_left R (k + 1)
  have hids := b2.W.ids
  have hups := b2.W.up
  have hfn : (fireAt R (k + 1)).Nodup := (hups.sublist List.filter_sublist).imp (fun h e => by rw [e] at h; omega)
  obtain ⟨F, hF⟩ : ∃ F, fireAt R (k + 1) = F := ⟨_, rfl⟩
  have hFm : ∀ x, x ∈ F ↔ x ∈ R ∧ x.2.1 = k + 1 := fun x => by rw [← hF]; exact fire_mem
  rw [hF] at u1 hfl hfn
  have hlv := u1.ows.sl.lenSl
  rw [rowI_length, List.length_map] at hlv
  have hRl := b2.W.len
  obtain ⟨fn, hfn2⟩ : ∃ fn, F.length = fn := ⟨_, rfl⟩
  rw [hfn2] at hlv hfl
  have o1 : M1.obj q = _ := (S1.obj q b2.lt b2.nd).trans b2.o
  have q1 : q < M1.next := by have := S1.next; have := b2.lt; omega
  have nd1 : q ∉ D1' := fun e => by
    rcases S1.fp q e with w | w
    · exact b2.nd w
    · have := b2.lt; omega
  have ge1 : ∀ p ∈ D1', m00.next ≤ p := S1.ge (by have := b2.ge; have := b2.lt; omega) b2.D0
  have hqv : q ∉ v.fp := fun e => by have := (f1 q e).1; have := b2.lt; omega
  simp (disch := omega) [-getElem?_pos, hlv]
  refine exec_loopU (σ := Nat × List (Int × V) × (List Nat × Nat) × Mem) (fun (j, _, _, _) => [(66, .int .i64 j)]) (fun (_, _, _, M) => M) (fun (j, l', g', M') => j ≤ fn ∧ Whl i M' D1' r (k + 1) (leftAt R (k + 1)) ∧ M'.obj q = some (.map (mapI l') g') ∧ q < M'.next ∧ Ows M' 1 v (rowI .i64 (F.map (·.1))) ∧ Due l' (fun x => x ∈ R ∧ x ∉ F.take j) (R.length - j)) (fun (j, _, _, _) => fn - j) (0, l, g, M1) rfl
    (by dsimp only; exact ⟨by omega, W1, o1, q1, u1.ows, b3.imp fun x => by simp⟩) (by simp) ?_
  intro (j, l', g', M') ⟨c1, c2, c3, c4, c5, c6⟩
  by_cases hj : j < fn
  · obtain ⟨x, hx⟩ : ∃ x, F[j]? = some x := ⟨_, List.getElem?_eq_getElem (by omega)⟩
    obtain ⟨hxR, hxd⟩ := (hFm x).1 (mem_of_idx hx)
    have hx' : (rowI .i64 (F.map (·.1)))[j]? = some [.int .i64 x.1] := by unfold rowI; simp [hx]
    obtain ⟨p, c, full, rw, z1, z2, z3, z4, _⟩ := c5.sl.at hx' .i64
    have hxt : x ∉ F.take j := fun hm => by
      obtain ⟨j', hj'⟩ := List.mem_iff_getElem?.1 hm
      rw [List.getElem?_take] at hj'
      split at hj'
      · rename_i hlt
        have h1 := List.getElem?_eq_some_iff.1 hj'
        have h2 := List.getElem?_eq_some_iff.1 hx
        rw [List.nodup_iff_pairwise_ne, List.pairwise_iff_getElem] at hfn
        exact hfn j' j h1.1 h2.1 hlt (h1.2.trans h2.2.symm)
      · cases hj'
    have hgx := c6.get x ⟨hxR, hxt⟩
    rw [hxd] at hgx
    have hki : ((k + 1 : Nat) : Int) = (k : Int) + 1 := by omega
    rw [hki] at hgx
    simp (disch := omega) [-getElem?_pos, z1, z3, z4, c3, findM_mapI, hgx, delM_mapI]
    exact again_mk (j + 1, delI l' x.1, stD (mapI l') (.int .i64 x.1) g', M'.upd q (some (.map (mapI (delI l' x.1)) (stD (mapI l') (.int .i64 x.1) g')))) (by
      dsimp only
      refine ⟨by omega, c2.keep (by simp) fun p hp => by rw [updO _ (fun e => nd1 (by rw [← e]; exact hp))], by simp, c4, c5.keep (by simp) fun p hp => by rw [updO _ (fun e => hqv (by rw [← e]; exact hp))], ?_⟩
      have := c6.del (x := x) ⟨hxR, hxt⟩ (fun y hy e => id_inj hids hy.1 hxR e)
      rw [show R.length - j - 1 = R.length - (j + 1) by omega] at this
      refine this.imp fun y => ?_
      rw [takeS hx, List.mem_append, List.mem_singleton]
      exact ⟨fun ⟨⟨a, b⟩, c⟩ => ⟨a, fun e => e.elim b c⟩, fun ⟨a, b⟩ => ⟨⟨a, fun e => b (.inl e)⟩, fun e => b (.inr e)⟩⟩) (by dsimp only; omega) (by simp) rfl
  have : j = fn := by omega
  subst this
  simp (disch := omega) [-getElem?_pos]
  exact again_mk (k + 1, D1', leftAt R (k + 1), l', g', M') (by
    dsimp only
    refine ⟨by omega, ⟨c2, c3, c4, b2.ge, nd1, ge1, fun x hx => b2.du x (left_mem.1 hx).1⟩, ?_⟩
    rw [← hfn2, List.take_length, hfn2] at c6
    rw [show R.length - j = (leftAt R (k + 1)).length by omega] at c6
    refine c6.imp fun x => ?_
    rw [left_mem, hFm]
    exact ⟨fun ⟨a, b⟩ => ⟨a, fun e => b ⟨a, e⟩⟩, fun ⟨a, b⟩ => ⟨a, fun e => b e.2⟩⟩) (by dsimp only; omega) (by simp) rfl
end Go.Proofs.Ytkpdpdpilggcfaa
