/-
  THE LAW OF THE WHOLE: what is taken, all in all, is what the rows are merged to.
-/
import Derived.Test.YthkopgcdghbjlaaEx
namespace Go.Proofs.Ythkopgcdghbjlaa
open Go Go.AM
set_option linter.unusedVariables false
set_option linter.unusedSimpArgs false
set_option maxRecDepth 60000
set_option maxHeartbeats 16000000

theorem turns_ofK {m : Mem} (hf : m.Fresh) {v : V} {b : Nat} (h : IsVK m (.slice 1 (.int .u8)) v b) : ∃ zs : List Int, Sl m 1 v (rowI .u8 zs) ∧ zs.length ≤ b ∧ ∀ z ∈ zs, 0 ≤ z ∧ z ≤ 255 := by
  obtain ⟨es, ks, h1, h2, h3, h4⟩ := h.slR hf
  have key : ∀ (es : List (List V)) (ks : List Nat), ks.length = es.length → (∀ (i : Nat) (e : List V) (k : Nat), es[i]? = some e → ks[i]? = some k → IsK m (.int .u8) e k) → ∃ zs : List Int, es = rowI .u8 zs ∧ zs.length ≤ ks.sum ∧ ∀ z ∈ zs, 0 ≤ z ∧ z ≤ 255 := by
    intro es
    induction es with
    | nil => exact fun ks hk _ => ⟨[], rfl, by simp, by simp⟩
    | cons e es ih =>
      intro ks hk h
      cases ks with
      | nil => simp at hk
      | cons k ks =>
      obtain ⟨zs, rfl, a2, a3⟩ := ih ks (by simpa using hk) fun i x y hx hy => h (i + 1) x y (by simpa using hx) (by simpa using hy)
      have he := h 0 e k (by simp) (by simp)
      simp only [IsK] at he
      obtain ⟨n, rfl, w, hb⟩ := he
      refine ⟨n :: zs, rfl, by simp; omega, fun z hz => ?_⟩
      rcases List.mem_cons.1 hz with rfl | hz
      · simpa [Lit.wf, IntKind.min, IntKind.max, IntKind.signed, IntKind.bits] using w
      · exact a3 z hz
  obtain ⟨zs, rfl, a2, a3⟩ := key es ks h2 h3
  exact ⟨zs, h1, by omega, a3⟩

/-- Behind each taking of the end. -/
def I3 (m0 : Mem) (q r α : Nat) (w : V) (Ls : List (List It)) (S : List Tg) : Ms × Mem × Nat × Bool × Tg → Prop := fun (s, M, c, ok, x) =>
  Sx m0 M q r α w Ls S s ∧ (∀ j, j < Ls.length → s.cl j = true) ∧ M.obj c = some (.row 3 [ot x.1] true) ∧ c < M.next ∧ c ∉ s.u.fp ∧ (ok = true → (s.H.length : Int) + s.nn ≤ 1048900 ∧ s.G = s.H ++ [x]) ∧ (ok = false → s.G = s.H ∧ ¬ (s.bb = 0 ∧ 0 < s.nn)) ∧ s.H.length ≤ 1048901

theorem whole_law (m0 : Mem) (x0 x1 : V) (h0 : m0.Fresh → ∃ Ls, Rws m0 x0 Ls ∧ Ls.length + (flatO Ls 0).length ≤ 1048576) (h1 : m0.Fresh → ∃ zs : List Int, Sl m0 1 x1 (rowI .u8 zs) ∧ zs.length ≤ 1048576 ∧ ∀ z ∈ zs, 0 ≤ z ∧ z ≤ 255) : ACalls Try.prog 4 [x0, x1] m0 (fun r _ => r = .bool true) := by
  refine run_on x8 hm c4 (by simp) fun hf => ?_
  obtain ⟨Ls, hR, hb⟩ := h0 hf
  obtain ⟨zs, hz, hzl, hzw⟩ := h1 hf
  obtain ⟨es, hv, hvl, hve⟩ := hR.ex
  have hv1 := hv.lenSl
  have hz1 := hz.lenSl
  rw [rowI_length] at hz1
  obtain ⟨N, hN⟩ : ∃ N, Ls.length = N := ⟨_, rfl⟩
  obtain ⟨Z, hZ⟩ : ∃ Z, zs.length = Z := ⟨_, rfl⟩
  rw [hvl, hN] at hv1
  rw [hZ] at hz1 hzl
  simp (disch := omega) [-getElem?_pos, b4, F5, hv1]
  refine rows_calls hR (by omega) (fun l hl => by have := flatO_mem Ls 0 l hl; omega) (fun m' hng g => ?_) fun w m1 S hg p1 p2 p3 gg hge => ?_
  · simp (disch := omega) [-getElem?_pos]
  have hS := p1.length_eq
  rw [List.length_zipIdx] at hS
  have hw1 := p3.sl.lenSl
  rw [List.length_map, List.length_map] at hw1
  obtain ⟨T, hT⟩ : ∃ T, S.length = T := ⟨_, rfl⟩
  rw [hT] at hw1 hS
  by_cases hN0 : N = 0
  · subst hN0
    have e0 : ((0 : Nat) : Int) = 0 := rfl
    simp (disch := omega) [-getElem?_pos, hv1]
  by_cases hT2 : 200 < T
  · simp (disch := omega) [-getElem?_pos, hv1, hw1]
  have hN64 : N ≤ 64 := by have := hg.1; omega
  have hAdj : ∀ i, i < Ls.length → Adj (rwL Ls i) := fun i hi => hg.2 _ (mem_of_idx (rwL_get hi))
  simp (disch := omega) [-getElem?_pos, hv1, hw1]
  refine new9 ⟨by omega, hN64⟩ fun m2 q r g1 g2 g3 g4 => ?_
  simp (disch := omega) [-getElem?_pos, hv1, hz1]
  have g1' : Mg m2 q r Ls.length (.sl none 0 (some 0)) [] 0 Ls.length (fun _ => ⟨.sl none 0 (some 0), [], 0, false, false, false⟩) := by rw [hN]; exact g1
  have gA := Mem.Grew.new m2 (.row 1 (List.replicate N [.int .i64 0]) true)
  have gB := gg.trans g2
  have sx0 : Sx m0 (m2.new (.row 1 (List.replicate N [.int .i64 0]) true)) q r m2.next w Ls S ⟨.sl none 0 (some 0), [], 0, Ls.length, fun _ => ⟨.sl none 0 (some 0), [], 0, false, false, false⟩, fun _ => 0, fun _ => 0, fun _ => 0, fun _ => false, [], [], .sl none 0 (some 0)⟩ := by
    have hlt := g1'.lt
    have hgn := gg.next
    have hw := p3.lt
    have hg2n := g2.next
    have hfp : ∀ p ∈ fpM q r Ls.length (.sl none 0 (some 0)) (fun _ => ⟨.sl none 0 (some 0), [], 0, false, false, false⟩), p = q ∨ p = r := fun p hp => by
      rcases mem_fpM.1 hp with e | e | e | ⟨_, _, e⟩
      · exact .inl e
      · exact .inr e
      · simp [V.fp] at e
      · simp [V.fp] at e
    refine ⟨g1'.grow gA, Pn.start Ls _ rfl, gB.trans gA, ⟨List.replicate N [.int .i64 0], by simp, by simp [hN], fun i hi => ?_⟩, by simp, (p3.grow g2).grow gA, by simpa using Ows.nil _ 3, ⟨fun e => ?_, fun e => ?_, by simp [V.fp]⟩, fun p hp e => ?_, by simp [V.fp], fun p hp => ?_, by omega, hge, by simp [V.fp]⟩
    · rw [List.getElem?_replicate, if_pos (by omega)]; rfl
    · have := hlt _ e; omega
    · have := hw _ e; omega
    · have := hw p hp
      rcases hfp p e with e | e <;> omega
    · rcases hfp p hp with e | e <;> omega
  generalize hM0 : m2.new (.row 1 (List.replicate N [.int .i64 0]) true) = M0 at *
  obtain ⟨α, hα⟩ : ∃ α, m2.next = α := ⟨_, rfl⟩
  rw [hα] at sx0
  rw [hα]
  clear hM0 gA gB g1 g1' g2 g3 g4 p3 hα hge gg
  refine exec_loopU (σ := Nat × Ms × Mem) (fun (i, s, _) => [(9, s.u), (46, .int .i64 i)]) (fun (_, _, M) => M) (fun (i, s, M) => i ≤ Z ∧ Sx m0 M q r α w Ls S s ∧ s.b = s.a ∧ s.H = s.G ∧ (∀ i, s.cl i = false) ∧ s.H.length ≤ i) (fun (i, _, _) => Z - i) (0, _, M0) rfl
    (by dsimp only; exact ⟨by omega, sx0, rfl, rfl, fun _ => rfl, by simp⟩) (by simp) ?_
  clear sx0
  intro (i, s, M) ⟨a1, sx, a2, a3, a4, a5⟩
  by_cases hi : i < Z
  case neg =>
    simp (disch := omega) [-getElem?_pos, hv1]
    have hu0 : s.u = s.u := rfl
    generalize hue : s.u = u0 at hu0 ⊢
    clear hu0
    refine exec_loopU (σ := Nat × Ms × Mem) (fun (i, s, _) => [(98, .int .i64 i)]) (fun (_, _, M) => M) (fun (i, s, M) => i ≤ N ∧ Sx m0 M q r α w Ls S s ∧ s.b = s.a ∧ s.H = s.G ∧ (∀ j, i ≤ j → s.cl j = false) ∧ (∀ j, j < i → s.cl j = true) ∧ s.H.length ≤ 1048576 ∧ s.u = u0) (fun (i, _, _) => N - i) (0, s, M) rfl
      (by dsimp only; exact ⟨by omega, sx, a2, a3, fun j _ => a4 j, fun j hj => by omega, by omega, hue⟩) (by simp) ?_
    clear sx a2 a3 a4 a5 hi a1 hue s M i
    intro (i, s, M) ⟨a1, sx, a2, a3, a4, a5, a6, a7⟩
    by_cases hi : i < N
    case pos =>
      have hiL : i < Ls.length := by omega
      obtain ⟨wk, hwk1, hwk2⟩ := hve i _ (rwL_get hiL)
      have hwkl := hwk2.lenSl
      rw [rowP_length] at hwkl
      obtain ⟨lk, hlk⟩ : ∃ lk, (rwL Ls i).length = lk := ⟨_, rfl⟩
      rw [hlk] at hwkl
      have hlkb := flatO_mem Ls 0 (rwL Ls i) (mem_of_idx (rwL_get hiL))
      simp (disch := omega) [-getElem?_pos]
      refine exec_loopU (σ := Ms × Mem) (fun _ => []) (fun (_, M) => M) (fun (s', M') => Sx m0 M' q r α w Ls S s' ∧ s'.b = s'.a ∧ s'.H = s'.G ∧ s'.cl = s.cl ∧ s'.H.length ≤ 1048576 ∧ s'.u = u0) (fun (s', _) => lk - s'.a i) (s, M) rfl
        (by dsimp only; exact ⟨sx, a2, a3, rfl, a6, a7⟩) (by simp) ?_
      intro (s', M') ⟨b1, b2, b3, b4, b5, b6⟩
      obtain ⟨ea, ea1, ea2, ea3⟩ := b1.oa
      have eak := ea3 i hiL
      rw [b2] at eak
      obtain ⟨pl, ql, fulll, rwl, y1, y2, y3, y4, _⟩ := (hv.grow b1.gr).at hwk1 .i64
      have hakl := b1.pn.al i hiL
      have hakN : s'.a i ≤ 1048576 := by omega
      by_cases hak : s'.a i < lk
      case pos =>
        obtain ⟨pk, qk, fullk, rwk, x1', x2', x3', x4', _⟩ := (hwk2.grow b1.gr).at (rowP_get (l := rwL Ls i) (i := s'.a i) (by omega)) .i64
        simp (disch := omega) [-getElem?_pos, ea1, eak, y1, y3, y4, hwkl, x1', x3', x4']
        refine b1.put (by omega) (by omega) hAdj hiL (by omega) (by rw [b4]; exact a4 i (Nat.le_refl _)) fun M2 s2 sx2 r1 r2 r3 r4 r5 r6 r7 => ?_
        obtain ⟨eb, eb1, eb2, eb3⟩ := sx2.oa
        have ebk := eb3 i hiL
        rw [r2, b2] at ebk
        have hup := sx2.setA eb1 hiL (s'.a i + 1)
        have hupi : ((s'.a i + 1 : Nat) : Int) = (s'.a i : Int) + 1 := by omega
        rw [hupi] at hup
        simp (disch := omega) [-getElem?_pos, eb1, ebk, splice]
        exact again_mk ({ s2 with b := setv s2.b i (s'.a i + 1) }, _) (by dsimp only; exact ⟨hup, by rw [r1, r2, b2], by rw [r6, r5, b3], by rw [r4, b4], by rw [r6]; exact b5, by rw [r7, b6]⟩) (by dsimp only; rw [r1, setv_self]; omega) (by simp) rfl
      case neg =>
        simp (disch := omega) [-getElem?_pos, ea1, eak, y1, y3, y4, hwkl]
        refine b1.close (by omega) hiL (by omega) (by rw [b4]; exact a4 i (Nat.le_refl _)) fun M2 s2 sx2 r1 r2 r3 r4 r5 r6 r7 => ?_
        simp (disch := omega) [-getElem?_pos]
        exact again_mk (i + 1, s2, M2) (by
          dsimp only
          refine ⟨by omega, sx2, by rw [r2, r1, b2], by rw [r6, r5, b3], fun j hj => ?_, fun j hj => ?_, by rw [r6]; exact b5, by rw [r7, b6]⟩
          · rw [r4, setv_ne _ _ (by omega), b4]; exact a4 j (by omega)
          · rw [r4, b4]
            by_cases e : j = i
            · subst e; rw [setv_self]
            · rw [setv_ne _ _ e]; exact a5 j (by omega)) (by dsimp only; omega) (by simp) rfl
    have hclA : ∀ j, j < Ls.length → s.cl j = true := fun j hj => a5 j (by omega)
    simp (disch := omega) [-getElem?_pos]
    have hnnT := sx.pn.nnT
    refine sx.take (by omega) (by omega) hAdj (fun hno M5 sx5 gw5 => ?_) (fun M5 s5 x sx5 q1 q2 q3 q4 q5 q6 q7 q8 gn gf => ?_)
    · simp only [ot]
      simp (disch := omega) [-getElem?_pos, splice]
      have hI : I3 m0 q r α w Ls S (s, M5.new (.row 3 [[.int .i64 0, .int .i64 0, .int .i64 0]] true), M5.next, false, ((0, 0, 0), 0)) :=
        ⟨sx5.grow (Mem.Grew.new _ _), hclA, by simp [ot], by simp, fun e => by have := sx5.uo.lt _ e; omega, fun h => (by cases h), fun _ => ⟨a3.symm, hno⟩, by omega⟩
      generalize M5.new (.row 3 [[.int .i64 0, .int .i64 0, .int .i64 0]] true) = M6 at *
      generalize M5.next = c at *
      refine exec_loopU (σ := Ms × Mem × Nat × Bool × Tg) (fun (s, _, c, ok, _) => [(9, s.u), (16, .ptr (some (c, 0, 0))), (17, .bool ok)]) (fun (_, M, _, _, _) => M) (I3 m0 q r α w Ls S) (fun (s, _, _, ok, _) => if ok then s.nn.toNat + 1 else 0) (s, M6, c, false, ((0, 0, 0), 0)) rfl hI (by simp [a7]) ?_
      intro (s, M, c, ok, x) ⟨c1, c2, c3, c4, c5, c6, c7, c8⟩
      cases ok with
      | false =>
        obtain ⟨d1, d2⟩ := c7 rfl
        obtain ⟨e1, e2⟩ := c1.pn.all c2 d2 p1 p2
        have uo := c1.uo
        rw [← d1, e1] at uo
        have lu := uo.sl.lenSl
        rw [List.length_map, List.length_map, hT] at lu
        simp (disch := omega) [-getElem?_pos, lu, hw1]
        refine len13 c1.mg ?_
        rw [e2]
        simp (disch := omega) [-getElem?_pos, lu, hw1]
        refine exec_loopU (σ := Nat) (fun k => [(163, .int .i64 k)]) (fun _ => M) (fun k => k ≤ T) (fun k => T - k) 0 rfl (by omega) (by simp) ?_
        intro k hk
        by_cases hkn : k < T
        · obtain ⟨y, hy⟩ : ∃ y, S[k]? = some y := ⟨_, List.getElem?_eq_getElem (by omega)⟩
          have hy' : (fst S)[k]? = some y.1 := by rw [List.getElem?_map, hy]; rfl
          obtain ⟨p, c, full, rw, z1, z2, z3, z4, _⟩ := uo.sl.at (ot_get hy') .i64
          obtain ⟨p', c', full', rw', y1, y2, y3, y4, _⟩ := c1.wo.sl.at (ot_get hy') .i64
          simp only [ot] at z4 y4
          simp (disch := omega) [-getElem?_pos, z1, z3, z4, y1, y3, y4]
          exact again_mk (k + 1) (by omega) (by omega) (by simp) rfl
        · have : k = T := by omega
          subst this
          simp (disch := omega) [-getElem?_pos]
      | true =>
        obtain ⟨d0, d1⟩ := c6 rfl
        have hnn0 := c1.pn.nn0
        simp only [ot] at c3
        simp (disch := omega) [-getElem?_pos, c3, List.range_succ, eltsOf, Mem.elts]
        have g6 := Mem.Grew.new M (.row 3 [[.int .i64 x.1.1, .int .i64 x.1.2.1, .int .i64 x.1.2.2]] true)
        refine ((c1.grow g6).uo).app (by rw [List.length_map, List.length_map]; omega) (by rw [List.length_map, List.length_map]; omega) fun u' M7 w1 w2 _ => ?_
        have e1 : (fst s.H).map ot ++ [[.int .i64 x.1.1, .int .i64 x.1.2.1, .int .i64 x.1.2.2]] = (fst (s.H ++ [x])).map ot := by simp [ot]
        rw [e1] at w1
        have sx7 := (c1.grow g6).app w1 w2
        have k7 : M7.obj c = some (.row 3 [[.int .i64 x.1.1, .int .i64 x.1.2.1, .int .i64 x.1.2.2]] true) := by
          have := g6.next
          rw [w2.obj c (by omega) c5, g6.obj c c4]; exact c3
        simp (disch := omega) [-getElem?_pos, k7, splice]
        have g8 := Mem.Grew.new M7 (.row 3 [[.int .i64 x.1.1, .int .i64 x.1.2.1, .int .i64 x.1.2.2]] true)
        have sx8 := sx7.grow g8
        have o8 : (M7.new (.row 3 [[.int .i64 x.1.1, .int .i64 x.1.2.1, .int .i64 x.1.2.2]] true)).obj M7.next = some (.row 3 [[.int .i64 x.1.1, .int .i64 x.1.2.1, .int .i64 x.1.2.2]] true) := by simp
        have n8 : M7.next < (M7.new (.row 3 [[.int .i64 x.1.1, .int .i64 x.1.2.1, .int .i64 x.1.2.2]] true)).next := by simp
        have f1 : ∀ p ∈ fpM q r Ls.length s.fv s.R, p < M7.next := sx7.mg.lt
        have f2 : ∀ p ∈ w.fp, p < M7.next := sx7.wo.lt
        have f3 : ∀ p ∈ u'.fp, p < M7.next := sx7.uo.lt
        have f4 := sx7.la
        have f5 := sx7.gr.next
        generalize M7.new (.row 3 [[.int .i64 x.1.1, .int .i64 x.1.2.1, .int .i64 x.1.2.2]] true) = M8 at *
        obtain ⟨c', hc'⟩ : ∃ c', M7.next = c' := ⟨_, rfl⟩
        rw [hc'] at o8 n8 f1 f2 f3 f4 f5
        rw [hc']
        have hG : s.G = s.H ++ [x] := d1
        have hnnT2 := c1.pn.nnT
        refine sx8.take (by omega) (by omega) hAdj (fun hno M9 sx9 gw9 => ?_) (fun M9 s9 x' sx9 q1 q2 q3 q4 q5 q6 q7 q8 gn gf => ?_)
        · have o9 := (gw9.obj c' n8).trans o8
          have n9 := gw9.next
          simp only [ot]
          simp (disch := omega) [-getElem?_pos, o9, splice]
          exact again_mk ({ s with u := u', H := s.H ++ [x] }, M9.upd c' (some (.row 3 [[.int .i64 0, .int .i64 0, .int .i64 0]] true)), c', false, ((0, 0, 0), 0)) (by
            refine ⟨sx9.cell (by omega) (fun e => by have := f1 _ e; omega) (fun e => by have := f2 _ e; omega) (fun e => by have := f3 _ e; omega) (by omega) _, c2, by simp [ot], by simp; omega, fun e => by have := f3 _ e; omega, fun h => (by cases h), fun _ => ⟨hG, hno⟩, by rw [List.length_append]; simp; omega⟩) (by simp) (by simp) rfl
        · obtain ⟨gf1, gf2⟩ := gf c' n8 (fun e => by have := f1 _ e; omega)
          have o9 := gf2.trans o8
          simp only [ot]
          simp (disch := omega) [-getElem?_pos, o9, splice]
          exact again_mk (s9, M9.upd c' (some (.row 3 [[.int .i64 x'.1.1, .int .i64 x'.1.2.1, .int .i64 x'.1.2.2]] true)), c', true, x') (by
            have hul : c' ∉ s9.u.fp := fun e => by rw [q8] at e; have := f3 _ e; omega
            refine ⟨sx9.cell (by omega) gf1 (fun e => by have := f2 _ e; omega) hul (by omega) _, by rw [q5]; exact c2, by simp [ot], by simp; omega, hul, fun _ => ⟨?_, by rw [q6, q7]; dsimp only; rw [hG]⟩, fun h => (by cases h), by rw [q7]; dsimp only; rw [List.length_append]; simp; omega⟩
            rw [q7, q3]; dsimp only; rw [List.length_append]; simp; omega) (by dsimp only at q3 q4; simp only [if_true]; rw [q3]; omega) (by simp [q8]) rfl
    · simp only [ot]
      simp (disch := omega) [-getElem?_pos, splice]
      have hI : I3 m0 q r α w Ls S (s5, M5.new (.row 3 [[.int .i64 x.1.1, .int .i64 x.1.2.1, .int .i64 x.1.2.2]] true), M5.next, true, x) :=
        ⟨sx5.grow (Mem.Grew.new _ _), by rw [q5]; exact hclA, by simp [ot], by simp, fun e => by have := sx5.uo.lt _ e; omega, fun _ => ⟨by rw [q7, q3]; omega, by rw [q6, q7, a3]⟩, fun h => (by cases h), by rw [q7]; omega⟩
      generalize M5.new (.row 3 [[.int .i64 x.1.1, .int .i64 x.1.2.1, .int .i64 x.1.2.2]] true) = M6 at *
      generalize M5.next = c at *
      refine exec_loopU (σ := Ms × Mem × Nat × Bool × Tg) (fun (s, _, c, ok, _) => [(9, s.u), (16, .ptr (some (c, 0, 0))), (17, .bool ok)]) (fun (_, M, _, _, _) => M) (I3 m0 q r α w Ls S) (fun (s, _, _, ok, _) => if ok then s.nn.toNat + 1 else 0) (s5, M6, c, true, x) rfl hI (by simp [q8, a7]) ?_
      intro (s, M, c, ok, x) ⟨c1, c2, c3, c4, c5, c6, c7, c8⟩
      cases ok with
      | false =>
        obtain ⟨d1, d2⟩ := c7 rfl
        obtain ⟨e1, e2⟩ := c1.pn.all c2 d2 p1 p2
        have uo := c1.uo
        rw [← d1, e1] at uo
        have lu := uo.sl.lenSl
        rw [List.length_map, List.length_map, hT] at lu
        simp (disch := omega) [-getElem?_pos, lu, hw1]
        refine len13 c1.mg ?_
        rw [e2]
        simp (disch := omega) [-getElem?_pos, lu, hw1]
        refine exec_loopU (σ := Nat) (fun k => [(163, .int .i64 k)]) (fun _ => M) (fun k => k ≤ T) (fun k => T - k) 0 rfl (by omega) (by simp) ?_
        intro k hk
        by_cases hkn : k < T
        · obtain ⟨y, hy⟩ : ∃ y, S[k]? = some y := ⟨_, List.getElem?_eq_getElem (by omega)⟩
          have hy' : (fst S)[k]? = some y.1 := by rw [List.getElem?_map, hy]; rfl
          obtain ⟨p, c, full, rw, z1, z2, z3, z4, _⟩ := uo.sl.at (ot_get hy') .i64
          obtain ⟨p', c', full', rw', y1, y2, y3, y4, _⟩ := c1.wo.sl.at (ot_get hy') .i64
          simp only [ot] at z4 y4
          simp (disch := omega) [-getElem?_pos, z1, z3, z4, y1, y3, y4]
          exact again_mk (k + 1) (by omega) (by omega) (by simp) rfl
        · have : k = T := by omega
          subst this
          simp (disch := omega) [-getElem?_pos]
      | true =>
        obtain ⟨d0, d1⟩ := c6 rfl
        have hnn0 := c1.pn.nn0
        simp only [ot] at c3
        simp (disch := omega) [-getElem?_pos, c3, List.range_succ, eltsOf, Mem.elts]
        have g6 := Mem.Grew.new M (.row 3 [[.int .i64 x.1.1, .int .i64 x.1.2.1, .int .i64 x.1.2.2]] true)
        refine ((c1.grow g6).uo).app (by rw [List.length_map, List.length_map]; omega) (by rw [List.length_map, List.length_map]; omega) fun u' M7 w1 w2 _ => ?_
        have e1 : (fst s.H).map ot ++ [[.int .i64 x.1.1, .int .i64 x.1.2.1, .int .i64 x.1.2.2]] = (fst (s.H ++ [x])).map ot := by simp [ot]
        rw [e1] at w1
        have sx7 := (c1.grow g6).app w1 w2
        have k7 : M7.obj c = some (.row 3 [[.int .i64 x.1.1, .int .i64 x.1.2.1, .int .i64 x.1.2.2]] true) := by
          have := g6.next
          rw [w2.obj c (by omega) c5, g6.obj c c4]; exact c3
        simp (disch := omega) [-getElem?_pos, k7, splice]
        have g8 := Mem.Grew.new M7 (.row 3 [[.int .i64 x.1.1, .int .i64 x.1.2.1, .int .i64 x.1.2.2]] true)
        have sx8 := sx7.grow g8
        have o8 : (M7.new (.row 3 [[.int .i64 x.1.1, .int .i64 x.1.2.1, .int .i64 x.1.2.2]] true)).obj M7.next = some (.row 3 [[.int .i64 x.1.1, .int .i64 x.1.2.1, .int .i64 x.1.2.2]] true) := by simp
        have n8 : M7.next < (M7.new (.row 3 [[.int .i64 x.1.1, .int .i64 x.1.2.1, .int .i64 x.1.2.2]] true)).next := by simp
        have f1 : ∀ p ∈ fpM q r Ls.length s.fv s.R, p < M7.next := sx7.mg.lt
        have f2 : ∀ p ∈ w.fp, p < M7.next := sx7.wo.lt
        have f3 : ∀ p ∈ u'.fp, p < M7.next := sx7.uo.lt
        have f4 := sx7.la
        have f5 := sx7.gr.next
        generalize M7.new (.row 3 [[.int .i64 x.1.1, .int .i64 x.1.2.1, .int .i64 x.1.2.2]] true) = M8 at *
        obtain ⟨c', hc'⟩ : ∃ c', M7.next = c' := ⟨_, rfl⟩
        rw [hc'] at o8 n8 f1 f2 f3 f4 f5
        rw [hc']
        have hG : s.G = s.H ++ [x] := d1
        have hnnT2 := c1.pn.nnT
        refine sx8.take (by omega) (by omega) hAdj (fun hno M9 sx9 gw9 => ?_) (fun M9 s9 x' sx9 q1 q2 q3 q4 q5 q6 q7 q8 gn gf => ?_)
        · have o9 := (gw9.obj c' n8).trans o8
          have n9 := gw9.next
          simp only [ot]
          simp (disch := omega) [-getElem?_pos, o9, splice]
          exact again_mk ({ s with u := u', H := s.H ++ [x] }, M9.upd c' (some (.row 3 [[.int .i64 0, .int .i64 0, .int .i64 0]] true)), c', false, ((0, 0, 0), 0)) (by
            refine ⟨sx9.cell (by omega) (fun e => by have := f1 _ e; omega) (fun e => by have := f2 _ e; omega) (fun e => by have := f3 _ e; omega) (by omega) _, c2, by simp [ot], by simp; omega, fun e => by have := f3 _ e; omega, fun h => (by cases h), fun _ => ⟨hG, hno⟩, by rw [List.length_append]; simp; omega⟩) (by simp) (by simp) rfl
        · obtain ⟨gf1, gf2⟩ := gf c' n8 (fun e => by have := f1 _ e; omega)
          have o9 := gf2.trans o8
          simp only [ot]
          simp (disch := omega) [-getElem?_pos, o9, splice]
          exact again_mk (s9, M9.upd c' (some (.row 3 [[.int .i64 x'.1.1, .int .i64 x'.1.2.1, .int .i64 x'.1.2.2]] true)), c', true, x') (by
            have hul : c' ∉ s9.u.fp := fun e => by rw [q8] at e; have := f3 _ e; omega
            refine ⟨sx9.cell (by omega) gf1 (fun e => by have := f2 _ e; omega) hul (by omega) _, by rw [q5]; exact c2, by simp [ot], by simp; omega, hul, fun _ => ⟨?_, by rw [q6, q7]; dsimp only; rw [hG]⟩, fun h => (by cases h), by rw [q7]; dsimp only; rw [List.length_append]; simp; omega⟩
            rw [q7, q3]; dsimp only; rw [List.length_append]; simp; omega) (by dsimp only at q3 q4; simp only [if_true]; rw [q3]; omega) (by simp [q8]) rfl
  obtain ⟨p, c, full, rw', z1, z2, z3, z4⟩ := at1 (hz.grow sx.gr) (y := i) (by omega)
  obtain ⟨hw0, hw255⟩ := hzw _ (List.mem_of_getElem? (nth_get (zs := zs) (i := i) (by omega)))
  obtain ⟨zi, hzi⟩ : ∃ zi, (nth zs i) = zi := ⟨_, rfl⟩
  rw [hzi] at z4 hw0 hw255
  obtain ⟨k, hk⟩ : ∃ k, (zi.toNat % N) = k := ⟨_, rfl⟩
  have hkN : k < N := by rw [← hk]; exact Nat.mod_lt _ (by omega)
  have hmod : Int.tmod zi N = (k : Int) := by
    rw [← hk]
    have : zi = (zi.toNat : Int) := by omega
    conv => lhs; rw [this]
    exact (Int.ofNat_tmod zi.toNat N).symm
  have hkL : k < Ls.length := by omega
  obtain ⟨ea, ea1, ea2, ea3⟩ := sx.oa
  have eak := ea3 k hkL
  rw [a2] at eak
  obtain ⟨wk, hwk1, hwk2⟩ := hve k _ (rwL_get hkL)
  have hwkl := hwk2.lenSl
  rw [rowP_length] at hwkl
  obtain ⟨lk, hlk⟩ : ∃ lk, (rwL Ls k).length = lk := ⟨_, rfl⟩
  rw [hlk] at hwkl
  have hlkb := flatO_mem Ls 0 (rwL Ls k) (mem_of_idx (rwL_get hkL))
  obtain ⟨pl, ql, fulll, rwl, y1, y2, y3, y4, _⟩ := (hv.grow sx.gr).at hwk1 .i64
  have hakl := sx.pn.al k hkL
  by_cases hak : s.a k < lk
  case neg =>
    simp (disch := omega) [-getElem?_pos, z1, z3, z4, hmod, hv1, ea1, eak, y1, y3, y4, hwkl]
    refine sx.take (by omega) (by omega) hAdj (fun hno M5 sx5 gw5 => ?_) (fun M5 s5 x sx5 q1 q2 q3 q4 q5 q6 q7 q8 _ _ => ?_)
    · simp only [ot]
      simp (disch := omega) [-getElem?_pos, splice]
      exact again_mk (i + 1, s, _) (by dsimp only; exact ⟨by omega, sx5.grow (Mem.Grew.new _ _), a2, a3, a4, by omega⟩) (by dsimp only; omega) (by simp) rfl
    · simp only [ot]
      simp (disch := omega) [-getElem?_pos, splice, List.range_succ, eltsOf, Mem.elts]
      have g6 := (Mem.Grew.new M5 (.row 3 [[.int .i64 x.1.1, .int .i64 x.1.2.1, .int .i64 x.1.2.2]] true)).trans (Mem.Grew.new _ (.row 3 [[.int .i64 x.1.1, .int .i64 x.1.2.1, .int .i64 x.1.2.2]] true))
      have sx6 := sx5.grow g6
      have hHl : s5.H.length ≤ i := by rw [q7]; exact a5
      have uo := sx6.uo
      rw [q8] at uo
      refine uo.app (by rw [List.length_map, List.length_map]; omega) (by rw [List.length_map, List.length_map]; omega) fun u' M7 w1 w2 _ => ?_
      simp (disch := omega) [-getElem?_pos]
      have e1 : (fst s5.H).map ot ++ [[.int .i64 x.1.1, .int .i64 x.1.2.1, .int .i64 x.1.2.2]] = (fst (s5.H ++ [x])).map ot := by simp [ot]
      rw [e1] at w1
      have sx7 := sx6.app w1 (by rw [q8]; exact w2)
      exact again_mk (i + 1, _, M7) (by dsimp only; exact ⟨by omega, sx7, by rw [q2, q1]; exact a2, by rw [q6, q7, a3], fun j => by rw [q5]; exact a4 j, by rw [List.length_append]; simp; omega⟩) (by dsimp only; omega) (by simp) rfl
  obtain ⟨pk, qk, fullk, rwk, x1', x2', x3', x4', _⟩ := (hwk2.grow sx.gr).at (rowP_get (l := rwL Ls k) (i := s.a k) (by omega)) .i64
  have hakN : s.a k ≤ 1048576 := by omega
  simp (disch := omega) [-getElem?_pos, z1, z3, z4, hmod, hv1, ea1, eak, y1, y3, y4, hwkl, x1', x3', x4']
  refine sx.put (by omega) (by omega) hAdj hkL (by omega) (a4 k) fun M2 s2 sx2 r1 r2 r3 r4 r5 r6 r7 => ?_
  obtain ⟨eb, eb1, eb2, eb3⟩ := sx2.oa
  have ebk := eb3 k hkL
  rw [r2, a2] at ebk
  have hup := sx2.setA eb1 hkL (s.a k + 1)
  have hupi : ((s.a k + 1 : Nat) : Int) = (s.a k : Int) + 1 := by omega
  rw [hupi] at hup
  simp (disch := omega) [-getElem?_pos, eb1, ebk, splice]
  refine hup.take (by omega) (by omega) hAdj (fun hno M5 sx5 gw5 => ?_) (fun M5 s5 x sx5 q1 q2 q3 q4 q5 q6 q7 q8 _ _ => ?_)
  · simp only [ot]
    simp (disch := omega) [-getElem?_pos, splice]
    exact again_mk (i + 1, { s2 with b := setv s2.b k (s.a k + 1) }, _) (by dsimp only; exact ⟨by omega, sx5.grow (Mem.Grew.new _ _), by rw [r1, r2, a2], by rw [r6, r5, a3], fun j => by rw [r4]; exact a4 j, by rw [r6]; omega⟩) (by dsimp only; omega) (by simp [r7]) rfl
  · simp only [ot]
    simp (disch := omega) [-getElem?_pos, splice, List.range_succ, eltsOf, Mem.elts]
    have g6 := (Mem.Grew.new M5 (.row 3 [[.int .i64 x.1.1, .int .i64 x.1.2.1, .int .i64 x.1.2.2]] true)).trans (Mem.Grew.new _ (.row 3 [[.int .i64 x.1.1, .int .i64 x.1.2.1, .int .i64 x.1.2.2]] true))
    have sx6 := sx5.grow g6
    have hHl : s5.H.length ≤ i := by rw [q7, r6]; exact a5
    have uo := sx6.uo
    rw [q8, r7] at uo
    refine uo.app (by rw [List.length_map, List.length_map]; omega) (by rw [List.length_map, List.length_map]; omega) fun u' M7 w1 w2 _ => ?_
    simp (disch := omega) [-getElem?_pos]
    have e1 : (fst s5.H).map ot ++ [[.int .i64 x.1.1, .int .i64 x.1.2.1, .int .i64 x.1.2.2]] = (fst (s5.H ++ [x])).map ot := by simp [ot]
    rw [e1] at w1
    have sx7 := sx6.app w1 (by rw [q8, r7]; exact w2)
    exact again_mk (i + 1, _, M7) (by dsimp only; exact ⟨by omega, sx7, by dsimp only; rw [q2, q1]; dsimp only; rw [r1, r2, a2], by dsimp only; rw [q6, q7]; dsimp only; rw [r6, r5, a3], fun j => by dsimp only; rw [q5]; dsimp only; rw [r4]; exact a4 j, by dsimp only; rw [List.length_append]; simp; omega⟩) (by dsimp only; omega) (by simp) rfl

/-- The law, of arguments of a bulk. -/
theorem whole_lawK (m0 : Mem) (x0 x1 : V) (b0 b1 : Nat) (h0 : IsVK m0 shR x0 b0) (h1 : IsVK m0 (.slice 1 (.int .u8)) x1 b1) (hb : b0 + b1 ≤ 1048576) : ACalls Try.prog 4 [x0, x1] m0 (fun r _ => r = .bool true) :=
  whole_law m0 x0 x1 (fun hf => by
    obtain ⟨Ls, h1, h2⟩ := rws_ofK hf h0
    exact ⟨Ls, h1, by omega⟩) (fun hf => by
    obtain ⟨zs, h2, h3, h4⟩ := turns_ofK hf h1
    exact ⟨zs, h2, by omega, h4⟩)
end Go.Proofs.Ythkopgcdghbjlaa
