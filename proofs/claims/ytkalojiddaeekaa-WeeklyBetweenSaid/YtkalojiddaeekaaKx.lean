/-
  MADE: whatever alarms come, go and are switched: each answer is what a plain row tells.
-/
import Derived.Test.YtkalojiddaeekaaJx
namespace Go.Proofs.Ytkalojiddaeekaa
open Go Go.AM
set_option linter.unusedVariables false
set_option linter.unusedSimpArgs false
set_option maxRecDepth 60000
set_option maxHeartbeats 8000000

/-- Where an ID was seen last. -/
def Fnd (L : List Al) (q : Int) (k : Nat) (f : Int) : Prop := (f = -1 ∧ ∀ j a, j < k → L[j]? = some a → a.1 ≠ q) ∨ ∃ j a, f = (j : Nat) ∧ j < k ∧ L[j]? = some a ∧ a.1 = q
theorem Fnd.zero (L : List Al) (q : Int) : Fnd L q 0 (-1) := .inl ⟨rfl, fun j a h => by omega⟩
theorem Fnd.yes {L : List Al} {q : Int} {k : Nat} {a : Al} (h : L[k]? = some a) (e : a.1 = q) : Fnd L q (k + 1) k := .inr ⟨k, a, rfl, by omega, h, e⟩
theorem Fnd.no {L : List Al} {q : Int} {k : Nat} {f : Int} (hF : Fnd L q k f) {a : Al} (h : L[k]? = some a) (e : a.1 ≠ q) : Fnd L q (k + 1) f := by
  rcases hF with ⟨rfl, h1⟩ | ⟨j, b, rfl, h1, h2, h3⟩
  · refine .inl ⟨rfl, fun j b hj hb => ?_⟩
    by_cases e2 : j = k
    · subst e2; rw [h] at hb; injection hb with hb; subst hb; exact e
    · exact h1 j b (by omega) hb
  · exact .inr ⟨j, b, rfl, by omega, h2, h3⟩
theorem Fnd.all {L : List Al} {q : Int} {f : Int} (hF : Fnd L q L.length f) : (f = -1 ∧ ¬ ∃ a ∈ L, a.1 = q) ∨ ∃ j a, f = (j : Nat) ∧ L[j]? = some a ∧ a.1 = q := by
  rcases hF with ⟨rfl, h1⟩ | ⟨j, b, rfl, h1, h2, h3⟩
  · refine .inl ⟨rfl, ?_⟩
    rintro ⟨a, ha, e⟩
    obtain ⟨j, hj⟩ := List.mem_iff_getElem?.1 ha
    exact h1 j a (List.getElem?_eq_some_iff.1 hj).1 hj e
  · exact .inr ⟨j, b, rfl, h2, h3⟩
/-- One place alone. -/
theorem Wk.at {m : Mem} {D : List Nat} {s : Nat} {L : List Al} (h : Wk m D s L) {i j : Nat} {a b : Al} (h1 : L[i]? = some a) (h2 : L[j]? = some b) (e : a.1 = b.1) : i = j := by
  have hi := List.getElem?_eq_some_iff.1 h1
  have hj := List.getElem?_eq_some_iff.1 h2
  rcases Nat.lt_trichotomy i j with w | w | w
  · have := List.pairwise_iff_getElem.1 h.up i j hi.1 hj.1 w
    rw [hi.2, hj.2] at this; omega
  · exact w
  · have := List.pairwise_iff_getElem.1 h.up j i hj.1 hi.1 w
    rw [hi.2, hj.2] at this; omega

/-- What goes on: a set, and a plain row of the same alarms. -/
structure Mir (n0 : Nat) (m : Mem) (s : Nat) (L : List Al) (D : List Nat) (u : V) : Prop where
  W : Wk m D s L
  U : Ows m 4 u (L.map al)
  dj : ∀ p ∈ u.fp, p ∉ D
  geD : ∀ p ∈ D, n0 ≤ p
  geU : ∀ p ∈ u.fp, n0 ≤ p
theorem Mir.grow {n0 : Nat} {m m' : Mem} {s : Nat} {L : List Al} {D : List Nat} {u : V} (h : Mir n0 m s L D u) (g : m.Grew m') : Mir n0 m' s L D u := ⟨h.W.grow g, h.U.grow g, h.dj, h.geD, h.geU⟩

theorem act_of {m : Mem} {e : List V} (h : Is m (.struct [.int .u8, .struct [.int .i64, .int .i64, .int .i64, .bool]]) e) : ∃ k id mi d y, e = [.int .u8 k, .int .i64 id, .int .i64 mi, .int .i64 d, .bool y] ∧ 0 ≤ k ∧ k ≤ 255 := by
  simp only [Is, Iss] at h
  obtain ⟨_, _, rfl, ⟨k, rfl, w⟩, _, _, rfl, ⟨_, _, rfl, ⟨a, rfl, _⟩, _, _, rfl, ⟨b, rfl, _⟩, _, _, rfl, ⟨c, rfl, _⟩, _, _, rfl, ⟨y, rfl⟩, rfl⟩, rfl⟩ := h
  have := wf_u8 w
  exact ⟨k, a, b, c, y, by simp, by omega, by omega⟩

theorem made_calls {m0 : Mem} {v : V} {es : List (List V)} (hv : Sl m0 5 v es) (hes : ∀ e ∈ es, Is m0 (.struct [.int .u8, .struct [.int .i64, .int .i64, .int .i64, .bool]]) e) (hl : es.length ≤ 100) {K : KV}
    (h : ∀ s L D u m', Mir m0.next m' s L D u → m0.Grew m' → K (.tup [.ptr (some (s, 0, 0)), u, .bool true]) m') : ACalls Try.prog 7 [v] m0 K := by
  have hv1 := hv.lenSl
  obtain ⟨N, hN⟩ : ∃ N, es.length = N := ⟨_, rfl⟩
  rw [hN] at hv1 hl
  refine run_on (ctx_nil _) hm c7 (by simp) fun hf => ?_
  simp (disch := omega) [-getElem?_pos, b7]
  refine new_calls fun s m1 hW1 hs1 g1 => ?_
  simp (disch := omega) [-getElem?_pos, hv1]
  refine exec_loopU (σ := Nat × List Al × List Nat × V × Mem) (fun (i, _, _, u, _) => [(6, u), (17, .int .i64 i)]) (fun (_, _, _, _, M) => M)
    (fun (i, L, D, u, M) => i ≤ N ∧ Mir m0.next M s L D u ∧ m0.Grew M) (fun (i, _, _, _, _) => N - i) (0, [], [s], .sl none 0 (some 0), m1) rfl
    (by dsimp only; exact ⟨by omega, ⟨hW1, Ows.nil _ _, by simp [V.fp], by simpa using hs1, by simp [V.fp]⟩, g1⟩) (by simp) ?_
  clear hW1 hs1 g1
  intro (i, L, D, u, M) ⟨a1, hP, gM⟩
  by_cases hi : i < N
  case neg =>
    simp (disch := omega) [-getElem?_pos]
    exact h _ _ _ _ _ hP gM
  obtain ⟨e, he⟩ : ∃ e, es[i]? = some e := ⟨_, List.getElem?_eq_getElem (by omega)⟩
  obtain ⟨kk, id, mi, d, y, rfl, hk0, hk1⟩ := act_of (hes e (mem_of_idx he))
  obtain ⟨p, q, full, rw, z1, z2, z3, z4, _⟩ := (hv.grow gM).at he .i64
  have hU1 := hP.U.sl.lenSl
  rw [List.length_map] at hU1
  obtain ⟨n, hn⟩ : ∃ n, L.length = n := ⟨_, rfl⟩
  have hlen := hP.W.len
  rw [hn] at hU1 hlen
  have gN := Mem.Grew.new M (.row 5 [[.int .u8 kk, .int .i64 id, .int .i64 mi, .int .i64 d, .bool y]] true)
  have oA : (M.new (.row 5 [[.int .u8 kk, .int .i64 id, .int .i64 mi, .int .i64 d, .bool y]] true)).obj M.next = some (.row 5 [[.int .u8 kk, .int .i64 id, .int .i64 mi, .int .i64 d, .bool y]] true) := by simp
  have bA : M.next < (M.new (.row 5 [[.int .u8 kk, .int .i64 id, .int .i64 mi, .int .i64 d, .bool y]] true)).next := by simp
  have hP' := hP.grow gN
  simp (disch := omega) [-getElem?_pos, z1, z3, z4, hU1]
  generalize M.new (.row 5 [[.int .u8 kk, .int .i64 id, .int .i64 mi, .int .i64 d, .bool y]] true) = M1 at *
  generalize hA : M.next = A at *
  replace gM := gM.trans gN
  have hAD : A ∉ D ∧ A ∉ u.fp := ⟨fun h => by have := hP.W.lt A h; omega, fun h => by have := hP.U.lt A h; omega⟩
  clear hP z1 z2 z3 z4 gN he
  replace hP := hP'
  clear hP'
  refine exec_loopU (σ := Nat × Int × Mem) (fun (k, f, _) => [(9, .int .i64 f), (23, .int .i64 k)]) (fun (_, _, M) => M) (fun (k, f, M) => k ≤ n ∧ Fnd L id k f ∧ M1.Grew M) (fun (k, _, _) => n - k) (0, -1, M1) rfl
    (by dsimp only; exact ⟨by omega, Fnd.zero _ _, Mem.Grew.refl _⟩) (by simp) ?_
  intro (k, f, M2) ⟨b1, b2, b3⟩
  have oA2 : M2.obj A = some (.row 5 [[.int .u8 kk, .int .i64 id, .int .i64 mi, .int .i64 d, .bool y]] true) := by rw [b3.obj A bA]; exact oA
  have bA2 : A < M2.next := by have := b3.next; omega
  by_cases hk : k < n
  · obtain ⟨a, ha⟩ : ∃ a, L[k]? = some a := ⟨_, List.getElem?_eq_getElem (by omega)⟩
    obtain ⟨p, q, full, rw, z1, z2, z3, z4, _⟩ := (hP.U.grow b3).sl.at (al_get ha) .i64
    simp only [al] at z4
    have gS := Mem.Grew.new M2 (.row 4 [[.int .i64 a.1, .int .i64 a.2.1, .int .i64 a.2.2.1, .bool a.2.2.2]] true)
    by_cases e : a.1 = id
    · subst e
      simp (disch := omega) [-getElem?_pos, z1, z3, z4, oA2]
      exact again_mk (k + 1, k, _) (by dsimp only; exact ⟨by omega, Fnd.yes ha rfl, b3.trans gS⟩) (by dsimp only; omega) (by simp) rfl
    · simp (disch := omega) [-getElem?_pos, z1, z3, z4, oA2, e]
      exact again_mk (k + 1, f, _) (by dsimp only; exact ⟨by omega, b2.no ha e, b3.trans gS⟩) (by dsimp only; omega) (by simp) rfl
  have hkn : k = n := by omega
  subst hkn
  have hP2 := hP.grow b3
  replace gM := gM.trans b3
  have b2' := Fnd.all (by rw [hn]; exact b2)
  clear hP b2 b3 oA bA hk hA
  have hrem : kk.tmod 3 = 0 ∨ kk.tmod 3 = 1 ∨ kk.tmod 3 = 2 := by
    rw [Int.tmod_eq_emod_of_nonneg hk0]; omega
  rcases hrem with hq | hq | hq
  · -- it comes
    have hadd : ∀ {M : Mem} {u : V} {K : KV}, Mir m0.next M s L D u → (∀ m' D' L' r, AddR L (id, mi, d, y) L' r → Wk m' D' s L' → Stp M m' D D' → K (.int .i64 r) m') → ACalls Try.prog 15 [.ptr (some (s, 0, 0)), .agg [.int .i64 id, .int .i64 mi, .int .i64 d, .bool y]] M K := fun h1 h2 => add_calls (a := (id, mi, d, y)) h1.W h2
    have fin : ∀ {M' m' : Mem} {D' : List Nat} {L' : List Al} {u' : V}, M2.Grew M' → Ows M' 4 u' (L'.map al) → (∀ p ∈ u'.fp, p ∉ D ∧ p < M'.next ∧ m0.next ≤ p) → Wk m' D' s L' → Stp M' m' D D' → i + 1 ≤ N ∧ Mir m0.next m' s L' D' u' ∧ m0.Grew m' := fun {M' m' D' L' u'} h1 h2 h3 h4 h5 =>
      ⟨by omega, ⟨h4, h2.step h5 (fun p hp hq => (h3 p hq).1 hp), fun p hp hq => h5.apart (E := u'.fp) (fun p hp => (h3 p hp).2.1) (fun p hp hq => (h3 p hq).1 hp) p hq hp, h5.ge (gM.trans h1).next hP2.geD, fun p hp => (h3 p hp).2.2⟩, h5.toGrew (gM.trans h1) hP2.geD⟩
    have hfu : ∀ p ∈ u.fp, p ∉ D ∧ p < M2.next ∧ m0.next ≤ p := fun p hp => ⟨hP2.dj p hp, hP2.U.lt p hp, hP2.geU p hp⟩
    by_cases hr : rtA (id, mi, d, y)
    case neg =>
      have h4 : mi < 0 ∨ (0 ≤ mi ∧ 1439 < mi) ∨ (0 ≤ mi ∧ mi ≤ 1439 ∧ d < 1) ∨ (0 ≤ mi ∧ mi ≤ 1439 ∧ 1 ≤ d ∧ 127 < d) := by unfold rtA at hr; dsimp only at hr; omega
      rcases h4 with h4 | h4 | h4 | h4
      all_goals
        simp (disch := omega) [-getElem?_pos, oA2, hq]
        refine hadd hP2 fun m' D' L' r hR hW' hS => ?_
        cases hR with
        | there w _ => exact absurd w hr
        | full w _ _ => exact absurd w hr
        | ok w _ _ _ _ => exact absurd w hr
        | wrong w =>
          simp (disch := omega) [-getElem?_pos]
          exact again_mk (i + 1, L, D', u, m') (by dsimp only; exact fin (Mem.Grew.refl _) hP2.U hfu hW' hS) (by dsimp only; omega) (by simp) rfl
    have hr' := hr
    unfold rtA at hr'
    dsimp only at hr'
    rcases b2' with ⟨rfl, e2⟩ | ⟨j, a, rfl, e2, e3⟩
    case inr =>
      have hj := (List.getElem?_eq_some_iff.1 e2).1
      simp (disch := omega) [-getElem?_pos, oA2, hq]
      refine hadd hP2 fun m' D' L' r hR hW' hS => ?_
      cases hR with
      | wrong w => exact absurd hr w
      | full _ w _ => exact absurd ⟨a, mem_of_idx e2, e3⟩ w
      | ok _ w _ _ _ => exact absurd ⟨a, mem_of_idx e2, e3⟩ w
      | there _ w =>
        simp (disch := omega) [-getElem?_pos]
        exact again_mk (i + 1, L, D', u, m') (by dsimp only; exact fin (Mem.Grew.refl _) hP2.U hfu hW' hS) (by dsimp only; omega) (by simp) rfl
    by_cases h64 : 64 ≤ k
    · simp (disch := omega) [-getElem?_pos, oA2, hq, hU1]
      refine hadd hP2 fun m' D' L' r hR hW' hS => ?_
      cases hR with
      | wrong w => exact absurd hr w
      | there _ w => exact absurd w e2
      | ok _ _ w _ _ => omega
      | full _ _ _ =>
        simp (disch := omega) [-getElem?_pos]
        exact again_mk (i + 1, L, D', u, m') (by dsimp only; exact fin (Mem.Grew.refl _) hP2.U hfu hW' hS) (by dsimp only; omega) (by simp) rfl
    simp (disch := omega) [-getElem?_pos, oA2, hq, hU1]
    refine exec_loopU (σ := Nat) (fun j => [(13, .int .i64 j)]) (fun _ => M2) (fun j => j ≤ k ∧ ∀ a ∈ L.take j, a.1 < id) (fun j => k - j) 0 rfl ⟨by omega, by simp⟩ (by simp) ?_
    intro j ⟨c1, c2⟩
    by_cases hgo : j < k ∧ ∀ a, L[j]? = some a → a.1 < id
    · obtain ⟨a, ha⟩ : ∃ a, L[j]? = some a := ⟨_, List.getElem?_eq_getElem (by omega)⟩
      obtain ⟨p, q, full, rw, z1, z2, z3, z4, _⟩ := hP2.U.sl.at (al_get ha) .i64
      simp only [al] at z4
      have hlt := hgo.2 a ha
      have hjk := hgo.1
      simp (disch := omega) [-getElem?_pos, z1, z3, z4, oA2, hU1]
      exact again_mk (j + 1) ⟨by omega, fun b hb => by rw [takeS ha] at hb; rcases List.mem_append.1 hb with hb | hb; exact c2 b hb; simp at hb; subst hb; exact hlt⟩ (by omega) (by simp) rfl
    have hhi : ∀ a ∈ L.drop j, id ≤ a.1 := by
      intro a ha
      obtain ⟨x, hx⟩ := List.mem_iff_getElem?.1 ha
      rw [List.getElem?_drop] at hx
      have hxl := List.getElem?_eq_some_iff.1 hx
      have hxl1 := hxl.1
      obtain ⟨b, hb⟩ : ∃ b, L[j]? = some b := ⟨_, List.getElem?_eq_getElem (by omega)⟩
      have hbl := List.getElem?_eq_some_iff.1 hb
      have h1 : id ≤ b.1 := by
        by_cases e : b.1 < id
        · exact absurd ⟨by omega, fun c hc => by rw [hb] at hc; injection hc with hc; subst hc; exact e⟩ hgo
        · omega
      by_cases e0 : x = 0
      · subst e0; rw [Nat.add_zero, hb] at hx; injection hx with hx; subst hx; exact h1
      · have := List.pairwise_iff_getElem.1 hP2.W.up j (j + x) hbl.1 hxl.1 (by omega)
        rw [hbl.2, hxl.2] at this; omega
    obtain ⟨vL, hL1, hL2, hL3⟩ := hP2.U.cutR .i64 j (by rw [List.length_map]; omega)
    obtain ⟨vR, hR1, hR2, hR3⟩ := hP2.U.cutL .i64 j (by rw [List.length_map]; omega)
    have hlen1 : ((L.map al).take j).length = j := by simp; omega
    have hlen2 : ((L.map al).drop j).length = k - j := by simp; omega
    have hres : (insA L j (id, mi, d, y)).map al = (L.map al).take j ++ [[.int .i64 id, .int .i64 mi, .int .i64 d, .bool y]] ++ (L.map al).drop j := by unfold insA; simp [al]
    have keepL : ∀ m', (∀ p, p < M2.next → m'.obj p = M2.obj p) → M2.next ≤ m'.next → eltsOf 4 m' vL = some ((L.map al).take j) := fun m' ho hn => (hL2.keep hn fun p hp => ho p (hL2.lt p hp)).sl.elts
    have keepR : ∀ m', (∀ p, p < M2.next → m'.obj p = M2.obj p) → M2.next ≤ m'.next → eltsOf 4 m' vR = some ((L.map al).drop j) := fun m' ho hn => (hR2.keep hn fun p hp => ho p (hR2.lt p hp)).sl.elts
    have last : ∀ {M3 : Mem} {f3 : V}, Stp M2 M3 [] f3.fp → Exa M3 4 f3 ((insA L j (id, mi, d, y)).map al) → ∀ m' D' L' r, AddR L (id, mi, d, y) L' r → Wk m' D' s L' → Stp M3 m' D D' → r = 0 ∧ i + 1 ≤ N ∧ Mir m0.next m' s L' D' f3 ∧ m0.Grew m' := by
      intro M3 f3 s3 u3 m' D' L' r hR hW' hS
      have g3 : M2.Grew M3 := ⟨s3.next, fun p hp => s3.obj p hp (by simp)⟩
      have hf3 : ∀ p ∈ f3.fp, M2.next ≤ p := s3.ge (Nat.le_refl _) (by simp)
      cases hR with
      | wrong w => exact absurd hr w
      | there _ w => exact absurd w e2
      | full _ _ w => omega
      | ok _ _ _ k' hk' =>
        obtain rfl := hk'.uni (j := j) (by omega) c2 hhi
        exact ⟨rfl, fin g3 u3.ows (fun p hp => by have := hf3 p hp; exact ⟨fun hq => by have := hP2.W.lt p hq; omega, u3.ows.lt p hp, by have := gM.next; omega⟩) hW' hS⟩
    have fin3 : ∀ {M3 : Mem} {f3 : V} {K : KV}, Stp M2 M3 [] f3.fp → Exa M3 4 f3 ((insA L j (id, mi, d, y)).map al) → (∀ m' D' L', i + 1 ≤ N ∧ Mir m0.next m' s L' D' f3 ∧ m0.Grew m' → K (.int .i64 0) m') → ACalls Try.prog 15 [.ptr (some (s, 0, 0)), .agg [.int .i64 id, .int .i64 mi, .int .i64 d, .bool y]] M3 K := by
      intro M3 f3 K s3 u3 hK
      have g3 : M2.Grew M3 := ⟨s3.next, fun p hp => s3.obj p hp (by simp)⟩
      refine hadd (hP2.grow g3) fun m' D' L' r hR hW' hS => ?_
      obtain ⟨rfl, h2⟩ := last s3 u3 m' D' L' r hR hW' hS
      exact hK m' D' L' h2
    by_cases hjk : j < k
    case' pos =>
      obtain ⟨b, hb⟩ : ∃ b, L[j]? = some b := ⟨_, List.getElem?_eq_getElem (by omega)⟩
      obtain ⟨p, q, full, rw, z1, z2, z3, z4, _⟩ := hP2.U.sl.at (al_get hb) .i64
      simp only [al] at z4
      have hnl : ¬ b.1 < id := fun h => hgo ⟨hjk, fun c hc => by rw [hb] at hc; injection hc with hc; subst hc; exact h⟩
      simp (disch := omega) [-getElem?_pos, z1, z3, z4, oA2, hU1, hL1, hR1]
      clear z1 z2 z3 z4 hnl hb
    case' neg =>
      simp (disch := omega) [-getElem?_pos, hU1, hL1, hR1, oA2]
    all_goals
      clear hL1 hR1 hL2 hR2 hL3 hR3 hgo hhi
      refine ⟨⟨?_, ?_, ?_⟩, ⟨?_, ?_⟩, ?_⟩
      · have hg := Mem.Grew.new M2 (.row 4 [] true)
        rw [keepL _ hg.obj hg.next]
        simp (disch := omega)
        refine (Exa.lit (m := M2) (sz := 4) (es := []) (n := 0) rfl).app (by rw [hlen1]; simp; omega) (by rw [hlen1]; simp; omega) fun f1 M4 u1 u2 u3 => ?_
        rw [List.nil_append] at u1
        have s1 : Stp M2 M4 [] f1.fp := (⟨hg.next, fun p hp _ => hg.obj p hp, fun p hp => by simp [V.fp] at hp; exact .inr (by omega)⟩ : Stp M2 _ [] (V.sl (some (M2.next, 0, 4)) 0 (some 0)).fp).trans u2
        have k0 : M4.obj A = some (.row 5 [[.int .u8 kk, .int .i64 id, .int .i64 mi, .int .i64 d, .bool y]] true) := by rw [s1.obj A bA2 (by simp)]; exact oA2
        simp (disch := omega) [eltsOf, Mem.elts, k0]
        refine (u1.grow (Mem.Grew.new M4 (.row 4 [[.int .i64 id, .int .i64 mi, .int .i64 d, .bool y]] true))).app (by rw [hlen1]; simp; omega) (by rw [hlen1]; simp; omega) fun f2 M5 u4 u5 u6 => ?_
        have s2 : Stp M2 M5 [] f2.fp := s1.trans ((Stp.new M4 _ f1.fp).trans u5)
        simp (disch := omega)
        rw [keepR _ (fun p hp => s2.obj p hp (by simp)) s2.next]
        simp (disch := omega)
        refine u4.app (by rw [List.length_append, hlen1, hlen2]; simp; omega) (by rw [List.length_append, hlen1, hlen2]; simp; omega) fun f3 M6 u7 u8 u9 => ?_
        rw [← hres] at u7
        have s3 := s2.trans u8
        have k3 : M6.obj A = some (.row 5 [[.int .u8 kk, .int .i64 id, .int .i64 mi, .int .i64 d, .bool y]] true) := by rw [s3.obj A bA2 (by simp)]; exact oA2
        simp (disch := omega) [-getElem?_pos, k3]
        refine fin3 s3 u7 fun m' D' L' hh => ?_
        simp (disch := omega) [-getElem?_pos]
        exact again_mk (i + 1, L', D', f3, m') (by dsimp only; exact hh) (by dsimp only; omega) (by simp) rfl
      · have hg := Mem.Grew.new M2 (.row 4 [] true)
        rw [keepL _ hg.obj hg.next]
        simp (disch := omega)
        refine (Exa.lit (m := M2) (sz := 4) (es := []) (n := 0) rfl).app (by rw [hlen1]; simp; omega) (by rw [hlen1]; simp; omega) fun f1 M4 u1 u2 u3 => ?_
        rw [List.nil_append] at u1
        have s1 : Stp M2 M4 [] f1.fp := (⟨hg.next, fun p hp _ => hg.obj p hp, fun p hp => by simp [V.fp] at hp; exact .inr (by omega)⟩ : Stp M2 _ [] (V.sl (some (M2.next, 0, 4)) 0 (some 0)).fp).trans u2
        have k0 : M4.obj A = some (.row 5 [[.int .u8 kk, .int .i64 id, .int .i64 mi, .int .i64 d, .bool y]] true) := by rw [s1.obj A bA2 (by simp)]; exact oA2
        simp (disch := omega) [eltsOf, Mem.elts, k0]
        refine (u1.grow (Mem.Grew.new M4 (.row 4 [[.int .i64 id, .int .i64 mi, .int .i64 d, .bool y]] true))).app (by rw [hlen1]; simp; omega) (by rw [hlen1]; simp; omega) fun f2 M5 u4 u5 u6 => ?_
        have s2 : Stp M2 M5 [] f2.fp := s1.trans ((Stp.new M4 _ f1.fp).trans u5)
        simp (disch := omega)
        rw [keepR _ (fun p hp => s2.obj p hp (by simp)) s2.next]
        simp (disch := omega)
        refine u4.app (by rw [List.length_append, hlen1, hlen2]; simp; omega) (by rw [List.length_append, hlen1, hlen2]; simp; omega) fun f3 M6 u7 u8 u9 => ?_
        rw [← hres] at u7
        have s3 := s2.trans u8
        have k3 : M6.obj A = some (.row 5 [[.int .u8 kk, .int .i64 id, .int .i64 mi, .int .i64 d, .bool y]] true) := by rw [s3.obj A bA2 (by simp)]; exact oA2
        simp (disch := omega) [-getElem?_pos, k3]
        refine fin3 s3 u7 fun m' D' L' hh => ?_
        simp (disch := omega) [-getElem?_pos]
        exact again_mk (i + 1, L', D', f3, m') (by dsimp only; exact hh) (by dsimp only; omega) (by simp) rfl
      · have hg := (Mem.Grew.new M2 (.row 4 [] true)).trans (Mem.Grew.new _ (.row 4 [[.int .i64 id, .int .i64 mi, .int .i64 d, .bool y]] true))
        rw [keepL _ hg.obj hg.next]
        simp (disch := omega)
        refine (Exa.of (m := (M2.new (.row 4 [] true)).new (.row 4 [[.int .i64 id, .int .i64 mi, .int .i64 d, .bool y]] true)) (sz := 4) (q := M2.next) (es := []) (n := 0) rfl (by simp <;> omega) (by simp (disch := omega))).app (by rw [hlen1]; simp; omega) (by rw [hlen1]; simp; omega) fun f1 M4 u1 u2 u3 => ?_
        rw [List.nil_append] at u1
        have s1 : Stp M2 M4 [] f1.fp := (⟨hg.next, fun p hp _ => hg.obj p hp, fun p hp => by simp [V.fp] at hp; exact .inr (by omega)⟩ : Stp M2 _ [] (V.sl (some (M2.next, 0, 4)) 0 (some 0)).fp).trans u2
        have k1 := u2.obj (M2.next + 1) (by simp <;> omega) (by simp [V.fp] <;> omega)
        simp (disch := omega) at k1
        simp (disch := omega) [eltsOf, Mem.elts, k1]
        refine u1.app (by rw [hlen1]; simp; omega) (by rw [hlen1]; simp; omega) fun f2 M5 u4 u5 u6 => ?_
        have s2 : Stp M2 M5 [] f2.fp := s1.trans u5
        simp (disch := omega)
        rw [keepR _ (fun p hp => s2.obj p hp (by simp)) s2.next]
        simp (disch := omega)
        refine u4.app (by rw [List.length_append, hlen1, hlen2]; simp; omega) (by rw [List.length_append, hlen1, hlen2]; simp; omega) fun f3 M6 u7 u8 u9 => ?_
        rw [← hres] at u7
        have s3 := s2.trans u8
        have k3 : M6.obj A = some (.row 5 [[.int .u8 kk, .int .i64 id, .int .i64 mi, .int .i64 d, .bool y]] true) := by rw [s3.obj A bA2 (by simp)]; exact oA2
        simp (disch := omega) [-getElem?_pos, k3]
        refine fin3 s3 u7 fun m' D' L' hh => ?_
        simp (disch := omega) [-getElem?_pos]
        exact again_mk (i + 1, L', D', f3, m') (by dsimp only; exact hh) (by dsimp only; omega) (by simp) rfl
      · have hg := Mem.Grew.new M2 (.row 4 [] true)
        rw [keepL _ hg.obj hg.next]
        simp (disch := omega)
        refine (Exa.lit (m := M2) (sz := 4) (es := []) (n := 0) rfl).app (by rw [hlen1]; simp; omega) (by rw [hlen1]; simp; omega) fun f1 M4 u1 u2 u3 => ?_
        rw [List.nil_append] at u1
        have s1 : Stp M2 M4 [] f1.fp := (⟨hg.next, fun p hp _ => hg.obj p hp, fun p hp => by simp [V.fp] at hp; exact .inr (by omega)⟩ : Stp M2 _ [] (V.sl (some (M2.next, 0, 4)) 0 (some 0)).fp).trans u2
        have k0 : M4.obj A = some (.row 5 [[.int .u8 kk, .int .i64 id, .int .i64 mi, .int .i64 d, .bool y]] true) := by rw [s1.obj A bA2 (by simp)]; exact oA2
        simp (disch := omega) [eltsOf, Mem.elts, k0]
        refine (u1.grow (Mem.Grew.new M4 (.row 4 [[.int .i64 id, .int .i64 mi, .int .i64 d, .bool y]] true))).app (by rw [hlen1]; simp; omega) (by rw [hlen1]; simp; omega) fun f2 M5 u4 u5 u6 => ?_
        have s2 : Stp M2 M5 [] f2.fp := s1.trans ((Stp.new M4 _ f1.fp).trans u5)
        simp (disch := omega)
        rw [keepR _ (fun p hp => s2.obj p hp (by simp)) s2.next]
        simp (disch := omega)
        refine u4.app (by rw [List.length_append, hlen1, hlen2]; simp; omega) (by rw [List.length_append, hlen1, hlen2]; simp; omega) fun f3 M6 u7 u8 u9 => ?_
        rw [← hres] at u7
        have s3 := s2.trans u8
        have k3 : M6.obj A = some (.row 5 [[.int .u8 kk, .int .i64 id, .int .i64 mi, .int .i64 d, .bool y]] true) := by rw [s3.obj A bA2 (by simp)]; exact oA2
        simp (disch := omega) [-getElem?_pos, k3]
        refine fin3 s3 u7 fun m' D' L' hh => ?_
        simp (disch := omega) [-getElem?_pos]
        exact again_mk (i + 1, L', D', f3, m') (by dsimp only; exact hh) (by dsimp only; omega) (by simp) rfl
      · have hg := (Mem.Grew.new M2 (.row 4 [] true)).trans (Mem.Grew.new _ (.row 4 [[.int .i64 id, .int .i64 mi, .int .i64 d, .bool y]] true))
        rw [keepL _ hg.obj hg.next]
        simp (disch := omega)
        refine (Exa.of (m := (M2.new (.row 4 [] true)).new (.row 4 [[.int .i64 id, .int .i64 mi, .int .i64 d, .bool y]] true)) (sz := 4) (q := M2.next) (es := []) (n := 0) rfl (by simp <;> omega) (by simp (disch := omega))).app (by rw [hlen1]; simp; omega) (by rw [hlen1]; simp; omega) fun f1 M4 u1 u2 u3 => ?_
        rw [List.nil_append] at u1
        have s1 : Stp M2 M4 [] f1.fp := (⟨hg.next, fun p hp _ => hg.obj p hp, fun p hp => by simp [V.fp] at hp; exact .inr (by omega)⟩ : Stp M2 _ [] (V.sl (some (M2.next, 0, 4)) 0 (some 0)).fp).trans u2
        have k1 := u2.obj (M2.next + 1) (by simp <;> omega) (by simp [V.fp] <;> omega)
        simp (disch := omega) at k1
        simp (disch := omega) [eltsOf, Mem.elts, k1]
        refine u1.app (by rw [hlen1]; simp; omega) (by rw [hlen1]; simp; omega) fun f2 M5 u4 u5 u6 => ?_
        have s2 : Stp M2 M5 [] f2.fp := s1.trans u5
        simp (disch := omega)
        rw [keepR _ (fun p hp => s2.obj p hp (by simp)) s2.next]
        simp (disch := omega)
        refine u4.app (by rw [List.length_append, hlen1, hlen2]; simp; omega) (by rw [List.length_append, hlen1, hlen2]; simp; omega) fun f3 M6 u7 u8 u9 => ?_
        rw [← hres] at u7
        have s3 := s2.trans u8
        have k3 : M6.obj A = some (.row 5 [[.int .u8 kk, .int .i64 id, .int .i64 mi, .int .i64 d, .bool y]] true) := by rw [s3.obj A bA2 (by simp)]; exact oA2
        simp (disch := omega) [-getElem?_pos, k3]
        refine fin3 s3 u7 fun m' D' L' hh => ?_
        simp (disch := omega) [-getElem?_pos]
        exact again_mk (i + 1, L', D', f3, m') (by dsimp only; exact hh) (by dsimp only; omega) (by simp) rfl
      · have hg := (Mem.Grew.new M2 (.row 4 [[.int .i64 id, .int .i64 mi, .int .i64 d, .bool y]] true)).trans (Mem.Grew.new _ (.row 4 [] true))
        rw [keepL _ hg.obj hg.next]
        simp (disch := omega)
        refine (Exa.of (m := (M2.new (.row 4 [[.int .i64 id, .int .i64 mi, .int .i64 d, .bool y]] true)).new (.row 4 [] true)) (sz := 4) (q := M2.next + 1) (es := []) (n := 0) rfl (by simp <;> omega) (by simp (disch := omega))).app (by rw [hlen1]; simp; omega) (by rw [hlen1]; simp; omega) fun f1 M4 u1 u2 u3 => ?_
        rw [List.nil_append] at u1
        have s1 : Stp M2 M4 [] f1.fp := (⟨hg.next, fun p hp _ => hg.obj p hp, fun p hp => by simp [V.fp] at hp; exact .inr (by omega)⟩ : Stp M2 _ [] (V.sl (some (M2.next + 1, 0, 4)) 0 (some 0)).fp).trans u2
        have k1 := u2.obj (M2.next) (by simp <;> omega) (by simp [V.fp] <;> omega)
        simp (disch := omega) at k1
        simp (disch := omega) [eltsOf, Mem.elts, k1]
        refine u1.app (by rw [hlen1]; simp; omega) (by rw [hlen1]; simp; omega) fun f2 M5 u4 u5 u6 => ?_
        have s2 : Stp M2 M5 [] f2.fp := s1.trans u5
        simp (disch := omega)
        rw [keepR _ (fun p hp => s2.obj p hp (by simp)) s2.next]
        simp (disch := omega)
        refine u4.app (by rw [List.length_append, hlen1, hlen2]; simp; omega) (by rw [List.length_append, hlen1, hlen2]; simp; omega) fun f3 M6 u7 u8 u9 => ?_
        rw [← hres] at u7
        have s3 := s2.trans u8
        have k3 : M6.obj A = some (.row 5 [[.int .u8 kk, .int .i64 id, .int .i64 mi, .int .i64 d, .bool y]] true) := by rw [s3.obj A bA2 (by simp)]; exact oA2
        simp (disch := omega) [-getElem?_pos, k3]
        refine fin3 s3 u7 fun m' D' L' hh => ?_
        simp (disch := omega) [-getElem?_pos]
        exact again_mk (i + 1, L', D', f3, m') (by dsimp only; exact hh) (by dsimp only; omega) (by simp) rfl
  · -- it goes
    simp (disch := omega) [-getElem?_pos, oA2, hq]
    refine drop_calls hP2.W fun m' D' L' b hR hW' hS => ?_
    have hU' := hP2.U.step hS (fun p hp hq => hP2.dj p hq hp)
    have gM' := hS.toGrew gM hP2.geD
    have hdj := hS.apart (E := u.fp) hP2.U.lt (fun p hp hq => hP2.dj p hq hp)
    have hge := hS.ge gM.next hP2.geD
    have oA3 : m'.obj A = some (.row 5 [[.int .u8 kk, .int .i64 id, .int .i64 mi, .int .i64 d, .bool y]] true) := by rw [hS.obj A bA2 hAD.1]; exact oA2
    rcases b2' with ⟨rfl, e2⟩ | ⟨j, a, rfl, e2, e3⟩
    · cases hR with
      | one k2 b w1 w2 => exact absurd ⟨b, mem_of_idx w1, w2⟩ e2
      | no w =>
        simp (disch := omega) [-getElem?_pos]
        exact again_mk (i + 1, L, D', u, m') (by dsimp only; exact ⟨by omega, ⟨hW', hU', fun p hp hq => hdj p hq hp, hge, hP2.geU⟩, gM'⟩) (by dsimp only; omega) (by simp) rfl
    · have hj := (List.getElem?_eq_some_iff.1 e2).1
      cases hR with
      | no w => exact absurd ⟨a, mem_of_idx e2, e3⟩ w
      | one k2 b w1 w2 =>
        obtain rfl := hP2.W.at e2 w1 (by omega)
        obtain ⟨vL, hL1, hL2, hL3⟩ := hU'.cutR .i64 j (by rw [List.length_map]; omega)
        obtain ⟨vR, hR1, hR2, hR3⟩ := hU'.cutL .i64 (j + 1) (by rw [List.length_map]; omega)
        simp at hR1
        have hlen1 : ((L.map al).take j).length = j := by simp; omega
        have hlen2 : ((L.map al).drop (j + 1)).length = k - (j + 1) := by simp; omega
        have hg := Mem.Grew.new m' (.row 4 [] true)
        have eL := (hL2.grow hg).sl.elts
        simp (disch := omega) [-getElem?_pos, hL1, hR1, eL]
        refine (Exa.lit (m := m') (sz := 4) (es := []) (n := 0) rfl).app (by rw [hlen1]; simp; omega) (by rw [hlen1]; simp; omega) fun f1 M1 u1 u2 u3 => ?_
        rw [List.nil_append] at u1
        have s1 : Stp m' M1 [] f1.fp := (⟨hg.next, fun p hp _ => hg.obj p hp, fun p hp => by simp [V.fp] at hp; exact .inr (by omega)⟩ : Stp m' _ [] (V.sl (some (m'.next, 0, 4)) 0 (some 0)).fp).trans u2
        have eR := (hR2.keep s1.next fun p hp => s1.obj p (hR2.lt p hp) (by simp)).sl.elts
        simp (disch := omega) [-getElem?_pos, eR]
        refine u1.app (by rw [hlen1, hlen2]; omega) (by rw [hlen1, hlen2]; omega) fun f2 M2' u4 u5 u6 => ?_
        have s2 : Stp m' M2' [] f2.fp := s1.trans u5
        rw [← List.map_take, ← List.map_drop, ← List.map_append] at u4
        have gF : m'.Grew M2' := ⟨s2.next, fun p hp => s2.obj p hp (by simp)⟩
        have hf2 : ∀ p ∈ f2.fp, m'.next ≤ p := s2.ge (Nat.le_refl _) (by simp)
        simp (disch := omega) [-getElem?_pos]
        exact again_mk (i + 1, L.take j ++ L.drop (j + 1), D', f2, M2') (by dsimp only; exact ⟨by omega, ⟨hW'.grow gF, u4.ows, fun p hp hq => by have := hf2 p hp; have := hW'.lt p hq; omega, hge, fun p hp => by have := hf2 p hp; have := gM'.next; omega⟩, gM'.trans gF⟩) (by dsimp only; omega) (by simp) rfl
  · -- it is switched
    simp (disch := omega) [-getElem?_pos, oA2, hq]
    refine switch_calls hP2.W fun m' L' b hR hW' hS => ?_
    have hU' := hP2.U.step hS (fun p hp hq => hP2.dj p hq hp)
    have gM' := hS.toGrew gM hP2.geD
    have oA3 : m'.obj A = some (.row 5 [[.int .u8 kk, .int .i64 id, .int .i64 mi, .int .i64 d, .bool y]] true) := by rw [hS.obj A bA2 hAD.1]; exact oA2
    rcases b2' with ⟨rfl, e2⟩ | ⟨j, a, rfl, e2, e3⟩
    · cases hR with
      | one k2 b w1 w2 => exact absurd ⟨b, mem_of_idx w1, w2⟩ e2
      | no w =>
        simp (disch := omega) [-getElem?_pos]
        exact again_mk (i + 1, L, D, u, m') (by dsimp only; exact ⟨by omega, ⟨hW', hU', hP2.dj, hP2.geD, hP2.geU⟩, gM'⟩) (by dsimp only; omega) (by simp) rfl
    · have hj := (List.getElem?_eq_some_iff.1 e2).1
      cases hR with
      | no w => exact absurd ⟨a, mem_of_idx e2, e3⟩ w
      | one k2 b w1 w2 =>
        obtain rfl := hP2.W.at e2 w1 (by omega)
        rw [e2] at w1; injection w1 with w1; subst w1
        obtain ⟨p, x, full, z1, z2, z3, z4, z5, z6⟩ := hU'.at (al_get e2) .i64
        simp only [al] at z4
        simp (disch := omega) [-getElem?_pos, oA3, z1, z3, z4, splice]
        have w3 := z6 [.int .i64 a.1, .int .i64 a.2.1, .int .i64 a.2.2.1, .bool y] (m'.upd p (some (.row 4 (full.set x [.int .i64 a.1, .int .i64 a.2.1, .int .i64 a.2.2.1, .bool y]) true))) (by simp) (by rw [upd_next]; exact z2)
        have hpu : p ∈ u.fp := by rw [z5]; simp
        refine again_mk (i + 1, L.set j (a.1, a.2.1, a.2.2.1, y), D, u, m'.upd p (some (.row 4 (full.set x [.int .i64 a.1, .int .i64 a.2.1, .int .i64 a.2.2.1, .bool y]) true))) (by dsimp only; exact ⟨by omega, ⟨hW'.keep (by simp) fun r hr => by rw [updO _ (fun e => hP2.dj p hpu (by rw [← e]; exact hr))], by rw [List.map_set]; exact w3, hP2.dj, hP2.geD, hP2.geU⟩, gM'.upd (hP2.geU p hpu) _⟩) (by dsimp only; omega) (by simp) rfl
end Go.Proofs.Ytkalojiddaeekaa
