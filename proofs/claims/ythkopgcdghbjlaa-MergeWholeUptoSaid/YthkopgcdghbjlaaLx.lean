/-
  WHAT THE LAW's own functions do: ahead, put, out; rows in order.
-/
import Derived.Test.YthkopgcdghbjlaaKx
import Derived.Test.YthkopgcdghbjlaaJx
namespace Go.Proofs.Ythkopgcdghbjlaa
open Go Go.AM
set_option linter.unusedVariables false
set_option linter.unusedSimpArgs false
set_option maxRecDepth 60000
set_option maxHeartbeats 8000000

theorem ahead14 {a b : Ot} {m : Mem} {K : KV} (h : ∀ m', m.Grew m' → K (.bool (decide (ltO a b))) m') : ACalls Try.prog 14 [.agg (ot a), .agg (ot b)] m K := by
  refine run_on (ctx_nil _) hm c14 (by simp) fun hf => ?_
  have g := (Mem.Grew.new m (.row 3 [ot a] true)).trans (Mem.Grew.new _ (.row 3 [ot b] true))
  simp only [ot] at g ⊢
  by_cases h1 : a.1 < b.1
  · rw [decide_eq_true (show ltO a b from .inl h1)] at h
    simp (disch := omega) [-getElem?_pos, b14, h1]
    exact h _ g
  · by_cases h2 : a.1 = b.1
    · by_cases h3 : a.2.2 < b.2.2
      · rw [decide_eq_true (show ltO a b from .inr ⟨h2, h3⟩)] at h
        simp (disch := omega) [-getElem?_pos, b14, h1, h2, h3]
        exact h _ (by rw [← h2]; rw [← h2] at g; exact g)
      · rw [decide_eq_false (show ¬ ltO a b by unfold ltO; omega)] at h
        simp (disch := omega) [-getElem?_pos, b14, h1, h2, h3]
        exact h _ (by rw [← h2]; rw [← h2] at g; exact g)
    · rw [decide_eq_false (show ¬ ltO a b by unfold ltO; omega)] at h
      simp (disch := omega) [-getElem?_pos, b14, h1, h2]
      exact h _ g
theorem out7 {t x i : Int} {m : Mem} {K : KV} (h : ∀ m', m.Grew m' → K (.agg (ot (t, x, i))) m') : ACalls Try.prog 7 [.int .i64 t, .int .i64 x, .int .i64 i] m K := by
  refine run_on (ctx_nil _) hm c7 (by simp) fun hf => ?_
  have g := Mem.Grew.new m (.row 3 [ot (t, x, i)] true)
  simp only [ot] at g h ⊢
  simp (disch := omega) [-getElem?_pos, b7]
  exact h _ g

theorem put_calls {m : Mem} {v : V} {L : List Ot} (h : Ows m 3 v (L.map ot)) (hl : L.length ≤ 4000000) {x : Ot} {K : KV} (hk : ∀ m' u j, j ≤ L.length → (∀ y ∈ L.take j, ¬ ltO x y) → (∀ y, L[j]? = some y → ltO x y) → Exa m' 3 u ((L.take j ++ x :: L.drop j).map ot) → m.Grew m' → (∀ p ∈ u.fp, m.next ≤ p) → K u m') : ACalls Try.prog 6 [v, .agg (ot x)] m K := by
  refine run_on (ctx_nil _) hm c6 (by simp) fun hf => ?_
  have gB := Mem.Grew.new m (.row 3 [ot x] true)
  have oB0 : (m.new (.row 3 [ot x] true)).obj m.next = some (.row 3 [ot x] true) := by simp
  have bB0 : m.next < (m.new (.row 3 [ot x] true)).next := by simp
  have h1 := h.grow gB
  have hw := h.sl.lenSl
  rw [List.length_map] at hw
  simp only [ot] at gB oB0 bB0 h1 ⊢
  simp (disch := omega) [-getElem?_pos, b6]
  generalize m.new (.row 3 [[.int .i64 x.1, .int .i64 x.2.1, .int .i64 x.2.2]] true) = m1 at *
  generalize m.next = B at *
  obtain ⟨w, hwl⟩ : ∃ w, L.length = w := ⟨_, rfl⟩
  rw [hwl] at hw hl
  refine exec_loopU (σ := Nat × Mem) (fun (j, _) => [(5, .int .i64 j)]) (fun (_, M) => M) (fun (j, M) => j ≤ w ∧ (∀ y ∈ L.take j, ¬ ltO x y) ∧ m1.Grew M) (fun (j, _) => w - j) (0, m1) rfl (by dsimp only; exact ⟨by omega, by simp, Mem.Grew.refl _⟩) (by simp) ?_
  intro (j, m') ⟨c1, c2, c3⟩
  have hO := h1.grow c3
  have oB : m'.obj B = some (.row 3 [[.int .i64 x.1, .int .i64 x.2.1, .int .i64 x.2.2]] true) := by rw [c3.obj B bB0]; exact oB0
  have bB : B < m'.next := by have := c3.next; omega
  have last : ∀ {M6 : Mem} {f3 : V}, Stp m' M6 [] f3.fp → m.Grew M6 ∧ ∀ p ∈ f3.fp, B ≤ p := by
    intro M6 f3 s3
    exact ⟨(gB.trans c3).trans ⟨s3.next, fun p hp => s3.obj p hp (by simp)⟩, s3.ge (by omega) (by simp)⟩
  by_cases hgo : j < w ∧ ∀ y, L[j]? = some y → ¬ ltO x y
  · obtain ⟨y, hy⟩ : ∃ y, L[j]? = some y := ⟨_, List.getElem?_eq_getElem (by omega)⟩
    obtain ⟨p, q, full, rw, z1, z2, z3, z4, _⟩ := hO.sl.at (ot_get hy) .i64
    simp only [ot] at z4
    have hjw := hgo.1
    simp (disch := omega) [-getElem?_pos, z1, z3, z4, oB, hw]
    refine ahead14 (a := x) (b := y) fun m2 g2 => ?_
    rw [decide_eq_false (hgo.2 y hy)]
    simp (disch := omega) [-getElem?_pos]
    exact again_mk (j + 1, m2) (by
      dsimp only
      refine ⟨by omega, fun z hz => ?_, c3.trans g2⟩
      rw [takeS hy] at hz
      rcases List.mem_append.1 hz with hz | hz
      · exact c2 z hz
      · simp only [List.mem_singleton] at hz; subst hz; exact hgo.2 z hy) (by dsimp only; omega) (by simp) rfl
  have hno : ∀ y, L[j]? = some y → ltO x y := fun y hy => Decidable.byContradiction fun e => hgo ⟨by have := (List.getElem?_eq_some_iff.1 hy).1; omega, fun z hz => by rw [hy] at hz; injection hz with hz; subst hz; exact e⟩
  have hlen1 : ((L.map ot).take j).length = j := by simp; omega
  have hlen2 : ((L.map ot).drop j).length = w - j := by simp; omega
  have hres : (L.take j ++ x :: L.drop j).map ot = (L.map ot).take j ++ [[.int .i64 x.1, .int .i64 x.2.1, .int .i64 x.2.2]] ++ (L.map ot).drop j := by simp [ot]
  by_cases hjw : j < w
  focus
    obtain ⟨y, hy⟩ : ∃ y, L[j]? = some y := ⟨_, List.getElem?_eq_getElem (by omega)⟩
    obtain ⟨p, q, full, rw, z1, z2, z3, z4, _⟩ := hO.sl.at (ot_get hy) .i64
    simp only [ot] at z4
    simp (disch := omega) [-getElem?_pos, z1, z3, z4, oB, hw]
    refine ahead14 (a := x) (b := y) fun m2 g2 => ?_
    rw [decide_eq_true (hno y hy)]
    have hO2 := hO.grow g2
    have oB2 : m2.obj B = some (.row 3 [[.int .i64 x.1, .int .i64 x.2.1, .int .i64 x.2.2]] true) := by rw [g2.obj B bB]; exact oB
    have bB2 : B < m2.next := by have := g2.next; omega
    obtain ⟨vL, hL1, hL2, hL3⟩ := hO2.cutR .i64 j (by rw [List.length_map]; omega)
    obtain ⟨vR, hR1, hR2, hR3⟩ := hO2.cutL .i64 j (by rw [List.length_map]; omega)
    simp (disch := omega) [-getElem?_pos, hL1, hR1, oB2]
    clear z1 z2 z3 z4 hy
  rotate_left
  focus
    obtain ⟨m2, hm2⟩ : ∃ m2, m2 = m' := ⟨_, rfl⟩
    have g2 : m'.Grew m2 := by rw [hm2]; exact Mem.Grew.refl _
    have hO2 := hO.grow g2
    have oB2 : m2.obj B = some (.row 3 [[.int .i64 x.1, .int .i64 x.2.1, .int .i64 x.2.2]] true) := by rw [g2.obj B bB]; exact oB
    have bB2 : B < m2.next := by have := g2.next; omega
    obtain ⟨vL, hL1, hL2, hL3⟩ := hO2.cutR .i64 j (by rw [List.length_map]; omega)
    obtain ⟨vR, hR1, hR2, hR3⟩ := hO2.cutL .i64 j (by rw [List.length_map]; omega)
    simp (disch := omega) [-getElem?_pos, hw, hL1, hR1, oB]
    rw [← hm2]
  all_goals
    have keepL : ∀ m'', (∀ p, p < m2.next → m''.obj p = m2.obj p) → m2.next ≤ m''.next → eltsOf 3 m'' vL = some ((L.map ot).take j) := fun m'' ho hn => (hL2.keep hn fun p hp => ho p (hL2.lt p hp)).sl.elts
    have keepR : ∀ m'', (∀ p, p < m2.next → m''.obj p = m2.obj p) → m2.next ≤ m''.next → eltsOf 3 m'' vR = some ((L.map ot).drop j) := fun m'' ho hn => (hR2.keep hn fun p hp => ho p (hR2.lt p hp)).sl.elts
    have last : ∀ {M6 : Mem} {f3 : V}, Stp m2 M6 [] f3.fp → m.Grew M6 ∧ ∀ p ∈ f3.fp, B ≤ p := by
      intro M6 f3 s3
      have gg := (gB.trans c3).trans g2
      exact ⟨gg.trans ⟨s3.next, fun p hp => s3.obj p hp (by simp)⟩, s3.ge (by have := gg.next; omega) (by simp)⟩
    clear hL1 hR1 hL2 hR2 hL3 hR3 hgo hO2
    refine ⟨⟨?_, ?_, ?_⟩, ⟨?_, ?_⟩, ?_⟩
    · have hg := Mem.Grew.new m2 (.row 3 [] true)
      rw [keepL _ hg.obj hg.next]
      simp (disch := omega)
      refine (Exa.lit (m := m2) (sz := 3) (es := []) (n := 0) rfl).app (by rw [hlen1]; simp; omega) (by rw [hlen1]; simp; omega) fun f1 M4 u1 u2 u3 => ?_
      rw [List.nil_append] at u1
      have s1 : Stp m2 M4 [] f1.fp := (⟨hg.next, fun p hp _ => hg.obj p hp, fun p hp => by simp [V.fp] at hp; exact .inr (by omega)⟩ : Stp m2 _ [] (V.sl (some (m2.next, 0, 3)) 0 (some 0)).fp).trans u2
      have k0 : M4.obj B = some (.row 3 [[.int .i64 x.1, .int .i64 x.2.1, .int .i64 x.2.2]] true) := by rw [s1.obj B bB2 (by simp)]; exact oB2
      simp (disch := omega) [eltsOf, Mem.elts, k0]
      refine (u1.grow (Mem.Grew.new M4 (.row 3 [[.int .i64 x.1, .int .i64 x.2.1, .int .i64 x.2.2]] true))).app (by rw [hlen1]; simp; omega) (by rw [hlen1]; simp; omega) fun f2 M5 u4 u5 u6 => ?_
      have s2 : Stp m2 M5 [] f2.fp := s1.trans ((Stp.new M4 _ f1.fp).trans u5)
      simp (disch := omega)
      rw [keepR _ (fun p hp => s2.obj p hp (by simp)) s2.next]
      simp (disch := omega)
      refine u4.app (by rw [List.length_append, hlen1, hlen2]; simp; omega) (by rw [List.length_append, hlen1, hlen2]; simp; omega) fun f3 M6 u7 u8 u9 => ?_
      rw [← hres] at u7
      have s3 := s2.trans u8
      simp (disch := omega) [-getElem?_pos]
      exact hk M6 f3 j (by omega) c2 hno u7 (last s3).1 (last s3).2
    · have hg := Mem.Grew.new m2 (.row 3 [] true)
      rw [keepL _ hg.obj hg.next]
      simp (disch := omega)
      refine (Exa.lit (m := m2) (sz := 3) (es := []) (n := 0) rfl).app (by rw [hlen1]; simp; omega) (by rw [hlen1]; simp; omega) fun f1 M4 u1 u2 u3 => ?_
      rw [List.nil_append] at u1
      have s1 : Stp m2 M4 [] f1.fp := (⟨hg.next, fun p hp _ => hg.obj p hp, fun p hp => by simp [V.fp] at hp; exact .inr (by omega)⟩ : Stp m2 _ [] (V.sl (some (m2.next, 0, 3)) 0 (some 0)).fp).trans u2
      have k0 : M4.obj B = some (.row 3 [[.int .i64 x.1, .int .i64 x.2.1, .int .i64 x.2.2]] true) := by rw [s1.obj B bB2 (by simp)]; exact oB2
      simp (disch := omega) [eltsOf, Mem.elts, k0]
      refine (u1.grow (Mem.Grew.new M4 (.row 3 [[.int .i64 x.1, .int .i64 x.2.1, .int .i64 x.2.2]] true))).app (by rw [hlen1]; simp; omega) (by rw [hlen1]; simp; omega) fun f2 M5 u4 u5 u6 => ?_
      have s2 : Stp m2 M5 [] f2.fp := s1.trans ((Stp.new M4 _ f1.fp).trans u5)
      simp (disch := omega)
      rw [keepR _ (fun p hp => s2.obj p hp (by simp)) s2.next]
      simp (disch := omega)
      refine u4.app (by rw [List.length_append, hlen1, hlen2]; simp; omega) (by rw [List.length_append, hlen1, hlen2]; simp; omega) fun f3 M6 u7 u8 u9 => ?_
      rw [← hres] at u7
      have s3 := s2.trans u8
      simp (disch := omega) [-getElem?_pos]
      exact hk M6 f3 j (by omega) c2 hno u7 (last s3).1 (last s3).2
    · have hg := (Mem.Grew.new m2 (.row 3 [] true)).trans (Mem.Grew.new _ (.row 3 [[.int .i64 x.1, .int .i64 x.2.1, .int .i64 x.2.2]] true))
      rw [keepL _ hg.obj hg.next]
      simp (disch := omega)
      refine (Exa.of (m := (m2.new (.row 3 [] true)).new (.row 3 [[.int .i64 x.1, .int .i64 x.2.1, .int .i64 x.2.2]] true)) (sz := 3) (q := m2.next) (es := []) (n := 0) rfl (by simp <;> omega) (by simp (disch := omega))).app (by rw [hlen1]; simp; omega) (by rw [hlen1]; simp; omega) fun f1 M4 u1 u2 u3 => ?_
      rw [List.nil_append] at u1
      have s1 : Stp m2 M4 [] f1.fp := (⟨hg.next, fun p hp _ => hg.obj p hp, fun p hp => by simp [V.fp] at hp; exact .inr (by omega)⟩ : Stp m2 _ [] (V.sl (some (m2.next, 0, 3)) 0 (some 0)).fp).trans u2
      have k1 := u2.obj (m2.next + 1) (by simp <;> omega) (by simp [V.fp] <;> omega)
      simp (disch := omega) at k1
      simp (disch := omega) [eltsOf, Mem.elts, k1]
      refine u1.app (by rw [hlen1]; simp; omega) (by rw [hlen1]; simp; omega) fun f2 M5 u4 u5 u6 => ?_
      have s2 : Stp m2 M5 [] f2.fp := s1.trans u5
      simp (disch := omega)
      rw [keepR _ (fun p hp => s2.obj p hp (by simp)) s2.next]
      simp (disch := omega)
      refine u4.app (by rw [List.length_append, hlen1, hlen2]; simp; omega) (by rw [List.length_append, hlen1, hlen2]; simp; omega) fun f3 M6 u7 u8 u9 => ?_
      rw [← hres] at u7
      have s3 := s2.trans u8
      simp (disch := omega) [-getElem?_pos]
      exact hk M6 f3 j (by omega) c2 hno u7 (last s3).1 (last s3).2
    · have hg := Mem.Grew.new m2 (.row 3 [] true)
      rw [keepL _ hg.obj hg.next]
      simp (disch := omega)
      refine (Exa.lit (m := m2) (sz := 3) (es := []) (n := 0) rfl).app (by rw [hlen1]; simp; omega) (by rw [hlen1]; simp; omega) fun f1 M4 u1 u2 u3 => ?_
      rw [List.nil_append] at u1
      have s1 : Stp m2 M4 [] f1.fp := (⟨hg.next, fun p hp _ => hg.obj p hp, fun p hp => by simp [V.fp] at hp; exact .inr (by omega)⟩ : Stp m2 _ [] (V.sl (some (m2.next, 0, 3)) 0 (some 0)).fp).trans u2
      have k0 : M4.obj B = some (.row 3 [[.int .i64 x.1, .int .i64 x.2.1, .int .i64 x.2.2]] true) := by rw [s1.obj B bB2 (by simp)]; exact oB2
      simp (disch := omega) [eltsOf, Mem.elts, k0]
      refine (u1.grow (Mem.Grew.new M4 (.row 3 [[.int .i64 x.1, .int .i64 x.2.1, .int .i64 x.2.2]] true))).app (by rw [hlen1]; simp; omega) (by rw [hlen1]; simp; omega) fun f2 M5 u4 u5 u6 => ?_
      have s2 : Stp m2 M5 [] f2.fp := s1.trans ((Stp.new M4 _ f1.fp).trans u5)
      simp (disch := omega)
      rw [keepR _ (fun p hp => s2.obj p hp (by simp)) s2.next]
      simp (disch := omega)
      refine u4.app (by rw [List.length_append, hlen1, hlen2]; simp; omega) (by rw [List.length_append, hlen1, hlen2]; simp; omega) fun f3 M6 u7 u8 u9 => ?_
      rw [← hres] at u7
      have s3 := s2.trans u8
      simp (disch := omega) [-getElem?_pos]
      exact hk M6 f3 j (by omega) c2 hno u7 (last s3).1 (last s3).2
    · have hg := (Mem.Grew.new m2 (.row 3 [] true)).trans (Mem.Grew.new _ (.row 3 [[.int .i64 x.1, .int .i64 x.2.1, .int .i64 x.2.2]] true))
      rw [keepL _ hg.obj hg.next]
      simp (disch := omega)
      refine (Exa.of (m := (m2.new (.row 3 [] true)).new (.row 3 [[.int .i64 x.1, .int .i64 x.2.1, .int .i64 x.2.2]] true)) (sz := 3) (q := m2.next) (es := []) (n := 0) rfl (by simp <;> omega) (by simp (disch := omega))).app (by rw [hlen1]; simp; omega) (by rw [hlen1]; simp; omega) fun f1 M4 u1 u2 u3 => ?_
      rw [List.nil_append] at u1
      have s1 : Stp m2 M4 [] f1.fp := (⟨hg.next, fun p hp _ => hg.obj p hp, fun p hp => by simp [V.fp] at hp; exact .inr (by omega)⟩ : Stp m2 _ [] (V.sl (some (m2.next, 0, 3)) 0 (some 0)).fp).trans u2
      have k1 := u2.obj (m2.next + 1) (by simp <;> omega) (by simp [V.fp] <;> omega)
      simp (disch := omega) at k1
      simp (disch := omega) [eltsOf, Mem.elts, k1]
      refine u1.app (by rw [hlen1]; simp; omega) (by rw [hlen1]; simp; omega) fun f2 M5 u4 u5 u6 => ?_
      have s2 : Stp m2 M5 [] f2.fp := s1.trans u5
      simp (disch := omega)
      rw [keepR _ (fun p hp => s2.obj p hp (by simp)) s2.next]
      simp (disch := omega)
      refine u4.app (by rw [List.length_append, hlen1, hlen2]; simp; omega) (by rw [List.length_append, hlen1, hlen2]; simp; omega) fun f3 M6 u7 u8 u9 => ?_
      rw [← hres] at u7
      have s3 := s2.trans u8
      simp (disch := omega) [-getElem?_pos]
      exact hk M6 f3 j (by omega) c2 hno u7 (last s3).1 (last s3).2
    · have hg := (Mem.Grew.new m2 (.row 3 [[.int .i64 x.1, .int .i64 x.2.1, .int .i64 x.2.2]] true)).trans (Mem.Grew.new _ (.row 3 [] true))
      rw [keepL _ hg.obj hg.next]
      simp (disch := omega)
      refine (Exa.of (m := (m2.new (.row 3 [[.int .i64 x.1, .int .i64 x.2.1, .int .i64 x.2.2]] true)).new (.row 3 [] true)) (sz := 3) (q := m2.next + 1) (es := []) (n := 0) rfl (by simp <;> omega) (by simp (disch := omega))).app (by rw [hlen1]; simp; omega) (by rw [hlen1]; simp; omega) fun f1 M4 u1 u2 u3 => ?_
      rw [List.nil_append] at u1
      have s1 : Stp m2 M4 [] f1.fp := (⟨hg.next, fun p hp _ => hg.obj p hp, fun p hp => by simp [V.fp] at hp; exact .inr (by omega)⟩ : Stp m2 _ [] (V.sl (some (m2.next + 1, 0, 3)) 0 (some 0)).fp).trans u2
      have k1 := u2.obj (m2.next) (by simp <;> omega) (by simp [V.fp] <;> omega)
      simp (disch := omega) at k1
      simp (disch := omega) [eltsOf, Mem.elts, k1]
      refine u1.app (by rw [hlen1]; simp; omega) (by rw [hlen1]; simp; omega) fun f2 M5 u4 u5 u6 => ?_
      have s2 : Stp m2 M5 [] f2.fp := s1.trans u5
      simp (disch := omega)
      rw [keepR _ (fun p hp => s2.obj p hp (by simp)) s2.next]
      simp (disch := omega)
      refine u4.app (by rw [List.length_append, hlen1, hlen2]; simp; omega) (by rw [List.length_append, hlen1, hlen2]; simp; omega) fun f3 M6 u7 u8 u9 => ?_
      rw [← hres] at u7
      have s3 := s2.trans u8
      simp (disch := omega) [-getElem?_pos]
      exact hk M6 f3 j (by omega) c2 hno u7 (last s3).1 (last s3).2
end Go.Proofs.Ythkopgcdghbjlaa
