/-
  RINGKEEPS, of what the functions of this seat compute.
-/
import Derived.Test.YthclgfhlfmbjfaaGx
import Derived.Test.YthclgfhlfmbjfaaLx
import Derived.Test.YthclgfhlfmbjfaaAm21
namespace Go.Proofs.Ythclgfhlfmbjfaa
open Go Go.AM
set_option linter.unusedVariables false
set_option maxRecDepth 8000
set_option maxHeartbeats 4000000
set_option linter.unusedSimpArgs false

/-- The plain row of what was put. -/
def histOf (l : List (Int × Int)) : List (Int × Int) := l.foldl (fun h x => h ++ [(timeOf h x.1, x.2)]) []

theorem histOf_snoc (l : List (Int × Int)) (x : Int × Int) : histOf (l ++ [x]) = histOf l ++ [(timeOf (histOf l) x.1, x.2)] := by simp [histOf]
theorem histOf_length : ∀ (n : Nat) (l : List (Int × Int)), l.length = n → (histOf l).length = n
  | 0, l, h => by rw [List.eq_nil_of_length_eq_zero h]; rfl
  | n + 1, l, h => by
    have hne : l ≠ [] := fun e => by subst e; simp at h
    rw [← List.dropLast_concat_getLast hne, histOf_snoc, List.length_append, histOf_length n _ (by simp [h])]; rfl
theorem histOf_rises : ∀ (n : Nat) (l : List (Int × Int)), l.length = n → Rises (histOf l)
  | 0, l, h => by rw [List.eq_nil_of_length_eq_zero h]; exact List.Pairwise.nil
  | n + 1, l, h => by
    have hne : l ≠ [] := fun e => by subst e; simp at h
    rw [← List.dropLast_concat_getLast hne, histOf_snoc]
    have ih := histOf_rises n l.dropLast (by simp [h])
    unfold Rises at ih ⊢
    rw [List.pairwise_append]
    refine ⟨ih, by simp, fun a ha b hb => ?_⟩
    simp at hb; subst hb
    simp only [timeOf]
    have hne2 : histOf l.dropLast ≠ [] := fun e => by rw [e] at ha; simp at ha
    rw [List.getLast?_eq_some_getLast hne2]
    simp only
    have : a.1 ≤ ((histOf l.dropLast).getLast hne2).1 := by
      generalize histOf l.dropLast = hh at *
      obtain ⟨j, hj, rfl⟩ := List.getElem_of_mem ha
      rw [List.getLast_eq_getElem]
      by_cases e : j = hh.length - 1
      · subst e; exact Int.le_refl _
      · exact List.pairwise_iff_getElem.1 ih j (hh.length - 1) hj (by omega) (by omega)
    omega

/-- The number, and the time, of an entry. -/
def noOf : List V → Int
  | [.int _ a, _, _] => a
  | _ => 0
def tmOf : List V → Int
  | [_, .int _ a, _] => a
  | _ => 0

theorem filter_cut {α : Type} (p : α → Bool) : ∀ (l : List α) (k : Nat), k ≤ l.length → (∀ i x, l[i]? = some x → p x = decide (k ≤ i)) → l.filter p = l.drop k
  | [], k, _, _ => by simp
  | x :: l, 0, _, h => by
    have h0 := h 0 x rfl
    have := filter_cut p l 0 (by simp) (fun i y hy => by have := h (i + 1) y (by simpa using hy); simpa using this)
    rw [List.filter_cons, this]; simp at h0; simp [h0]
  | x :: l, k + 1, hk, h => by
    have h0 := h 0 x rfl
    have := filter_cut p l k (by simpa using hk) (fun i y hy => by have := h (i + 1) y (by simpa using hy); simpa using this)
    simp at h0
    simp [h0, this]

theorem ents_drop : ∀ (a : Nat) (l : List (Int × Int)) (k : Nat), (ents a l).drop k = ents (a + k) (l.drop k)
  | _, [], k => by simp [ents]
  | a, e :: l, 0 => by simp
  | a, e :: l, k + 1 => by simp only [ents, List.drop_succ_cons, ents_drop (a + 1) l k]; rw [show a + 1 + k = a + (k + 1) by omega]

/-- What holds while what is kept is gone through. -/
structure P2 (m : Mem) (n1 r q S : Nat) (hh : List (Int × Int)) (v wk : V) (KL F1 F2 : List (List V)) (vs va : V) (M : Mem) : Prop where
  ring : Ring M r q S hh
  row : Own n1 M 3 v (ents 0 hh)
  kept : Sl M 3 wk KL
  s1 : Own m.next M 3 vs F1
  s2 : Own m.next M 3 va F2
  dj : Dj vs va
  grew : m.Grew M
  rlt : r < m.next
  qlt : q < m.next
  vlt : ∀ p, v.addr = some p → p < m.next
  klt : ∀ p, wk.addr = some p → p < m.next

theorem P2.grow {m : Mem} {n1 r q S : Nat} {hh : List (Int × Int)} {v wk : V} {KL F1 F2 : List (List V)} {vs va : V} {M M' : Mem} (h : P2 m n1 r q S hh v wk KL F1 F2 vs va M) (hg : M.Grew M') : P2 m n1 r q S hh v wk KL F1 F2 vs va M' :=
  have gn := h.grew.next
  ⟨h.ring.keep (hg.obj _ (Nat.lt_of_lt_of_le h.rlt gn)) (hg.obj _ (Nat.lt_of_lt_of_le h.qlt gn)), h.row.grow hg, h.kept.grow hg, h.s1.grow hg, h.s2.grow hg, h.dj, h.grew.trans hg, h.rlt, h.qlt, h.vlt, h.klt⟩

theorem Own.away {n0 n : Nat} {m : Mem} {sz : Nat} {v : V} {es : List (List V)} (h : Own n0 m sz v es) {p : Nat} (hp : p < n0) : v.addr ≠ some p := fun e => by have := (h.addr_lt e).1; omega

theorem P2.but {m : Mem} {n1 r q S : Nat} {hh : List (Int × Int)} {v wk : V} {KL F1 F2 : List (List V)} {vs va : V} {M M' : Mem} (h : P2 m n1 r q S hh v wk KL F1 F2 vs va M) (hn : M.next ≤ M'.next) (hg : ∀ p, p < m.next → M'.obj p = M.obj p) {F1' F2' : List (List V)} {vs' va' : V}
    (s1 : Own m.next M' 3 vs' F1') (s2 : Own m.next M' 3 va' F2') (dj : Dj vs' va') : P2 m n1 r q S hh v wk KL F1' F2' vs' va' M' :=
  have gn := h.grew.next
  ⟨h.ring.keep (hg _ h.rlt) (hg _ h.qlt), by
    rcases h.row with ⟨e1, e2⟩ | ⟨p, e1, e2, e3, e4, e5⟩
    · exact .inl ⟨e1, e2⟩
    · exact .inr ⟨p, e1, e2, by omega, by rw [hg p (h.vlt p (by rw [e1]; rfl))]; exact e4, e5⟩, h.kept.keep hn (fun p _ hp => hg p (h.klt p hp)), s1, s2, dj, ⟨by omega, fun p hp => (hg p hp).trans (h.grew.obj p hp)⟩, h.rlt, h.qlt, h.vlt, h.klt⟩

theorem P2.appL {m : Mem} {n1 r q S : Nat} {hh : List (Int × Int)} {v wk : V} {KL F1 F2 : List (List V)} {vs va : V} {M M' : Mem} (h : P2 m n1 r q S hh v wk KL F1 F2 vs va M) (hg : M.Grew M') {x : List V} (hl : F1.length ≤ 1000) {K : KV}
    (k : ∀ vs1 M1, P2 m n1 r q S hh v wk KL (F1 ++ [x]) F2 vs1 va M1 → (∀ p, M.next ≤ p → p < M'.next → M1.obj p = M'.obj p) → M'.next < M1.next → K vs1 M1) : appendX 3 24 M' vs [x] K := by
  have gn := h.grew.next
  have gn' := hg.next
  refine appendX_own3 h.s1 hg gn (by simp) (by simp; omega) (by simp; omega) fun v' m' w1 w2 w3 w4 => k v' m' ?_ (fun p h1 h2 => w2 p h2 (.inr (.inl h1))) (by omega)
  refine h.but (by omega) (fun p hp => by rw [w2 p (by omega) (.inl hp), hg.obj p (by omega)]) w1 ?_ ?_
  · rcases h.s2 with ⟨e1, e2⟩ | ⟨p, e1, e2, e3, e4, e5⟩
    · exact .inl ⟨e1, e2⟩
    · refine .inr ⟨p, e1, e2, by omega, ?_, e5⟩
      rw [w2 p (by omega) (.inr (.inr fun e => ?_)), hg.obj p e3]; exact e4
      rcases h.dj with d | d
      · rw [d] at e; cases e
      · exact d (by rw [e, e1]; rfl)
  · exact ((h.s2.grow hg).dj_new w4 (Nat.le_refl _)).symm

theorem P2.appR {m : Mem} {n1 r q S : Nat} {hh : List (Int × Int)} {v wk : V} {KL F1 F2 : List (List V)} {vs va : V} {M M' : Mem} (h : P2 m n1 r q S hh v wk KL F1 F2 vs va M) (hg : M.Grew M') {x : List V} (hl : F2.length ≤ 1000) {K : KV}
    (k : ∀ va1 M1, P2 m n1 r q S hh v wk KL F1 (F2 ++ [x]) vs va1 M1 → (∀ p, M.next ≤ p → p < M'.next → M1.obj p = M'.obj p) → M'.next < M1.next → K va1 M1) : appendX 3 24 M' va [x] K := by
  have gn := h.grew.next
  have gn' := hg.next
  refine appendX_own3 h.s2 hg gn (by simp) (by simp; omega) (by simp; omega) fun v' m' w1 w2 w3 w4 => k v' m' ?_ (fun p h1 h2 => w2 p h2 (.inr (.inl h1))) (by omega)
  refine h.but (by omega) (fun p hp => by rw [w2 p (by omega) (.inl hp), hg.obj p (by omega)]) ?_ w1 ?_
  · rcases h.s1 with ⟨e1, e2⟩ | ⟨p, e1, e2, e3, e4, e5⟩
    · exact .inl ⟨e1, e2⟩
    · refine .inr ⟨p, e1, e2, by omega, ?_, e5⟩
      rw [w2 p (by omega) (.inr (.inr fun e => ?_)), hg.obj p e3]; exact e4
      rcases h.dj.symm with d | d
      · rw [d] at e; cases e
      · exact d (by rw [e, e1]; rfl)
  · exact (h.s1.grow hg).dj_new w4 (Nat.le_refl _)

theorem own_two {m : Mem} {K : V → Mem → Prop} {a : Nat} {l : List (Int × Int)} (k : ∀ w m', Own m.next m' 3 w (ents a l) → m.Grew m' → K w m') :
    (l = [] → K (.sl none 0 (some 0)) m) ∧ (l ≠ [] → K (.sl (some (m.next, 0, 3)) l.length none) (m.new (.row 3 (ents a l) true))) := by
  refine ⟨fun h => k _ _ (by rw [h]; exact Own.nil _ _ _) (Mem.Grew.refl _), fun h => k _ _ (.inr ⟨m.next, by rw [ents_length], Nat.le_refl _, by simp, by simp, fun e => h ?_⟩) (Mem.Grew.new _ _)⟩
  have := congrArg List.length e
  rw [ents_length] at this
  exact List.eq_nil_of_length_eq_zero this

theorem after_own {m : Mem} {r q size : Nat} {hist : List (Int × Int)} (hR : Ring m r q size hist) {no : Int} {a lost : Nat} (ha : min (max no 0) (hist.length : Int) = a) (hl : lostOf size hist = lost) {K : KV}
    (k : ∀ w m', Own m.next m' 3 w (ents (max a lost) (hist.drop (max a lost))) → m.Grew m' → K (.tup [w, .int .i64 (lost - a : Nat)]) m') : ACalls Try.prog 13 [.ptr (some (r, 0, 0)), .int .i64 no] m K :=
  have h := own_two (K := fun w m' => K (.tup [w, .int .i64 (lost - a : Nat)]) m') k
  after_calls hR ha hl h.1 h.2
theorem last_own {m : Mem} {r q size : Nat} {hist : List (Int × Int)} (hR : Ring m r q size hist) {n : Int} {k : Nat} (hk : (hist.length : Int) - min (max n 0) (min (hist.length : Int) size) = k) {K : KV}
    (h : ∀ w m', Own m.next m' 3 w (ents k (hist.drop k)) → m.Grew m' → K w m') : ACalls Try.prog 8 [.ptr (some (r, 0, 0)), .int .i64 n] m K :=
  have h := own_two h
  last_calls hR hk h.1 h.2
theorem since_own {m : Mem} {r q size : Nat} {hist : List (Int × Int)} (hR : Ring m r q size hist) (hm0 : Rises hist) {t : Int} {k : Nat}
    (hk : Cut (fun i => decide (t ≤ timeAt hist (lostOf size hist + i))) (hist.length - lostOf size hist) k) {K : KV}
    (h : ∀ w m', Own m.next m' 3 w (ents (lostOf size hist + k) (hist.drop (lostOf size hist + k))) → m.Grew m' → K w m') : ACalls Try.prog 9 [.ptr (some (r, 0, 0)), .int .i64 t] m K :=
  have h := own_two h
  since_calls hR hm0 hk h.1 h.2
theorem ents_le {a : Nat} {l : List (Int × Int)} (h : l.length ≤ 1000000) : (ents a l).length ≤ 1000000 := by rw [ents_length]; exact h

theorem keeps (m0 : Mem) (x0 x1 x2 x3 x4 : V) (h0 : IsV m0 (.int .i64) x0) (h1 : IsV m0 (.slice 2 (.struct [.int .i64, .int .i64])) x1) (h2 : IsV m0 (.int .i64) x2) (h3 : IsV m0 (.int .i64) x3) (h4 : IsV m0 (.int .i64) x4) :
    ACalls Try.prog 3 [x0, x1, x2, x3, x4] m0 (fun r _ => r = .bool true) := by
  obtain ⟨size, rfl, _⟩ := h0.int
  obtain ⟨a, c, l, rfl, hsl, _⟩ := h1.pairs
  obtain ⟨no, rfl, _⟩ := h2.int
  obtain ⟨n, rfl, _⟩ := h3.int
  obtain ⟨tm, rfl, _⟩ := h4.int
  refine run_on x3 hm c3 (by simp) fun hf => ?_
  by_cases hl : (200 : Int) < l.length
  · simp [b3, F5, hl]
  simp [b3, F5, hl]
  refine new_calls m0 (fun h => ?_) (fun r q m1 g1 g2 hR hgr n1 n2 n3 n4 => ?_)
  · by_cases hs : size < 1
    · simp [hs]
      refine get_nil ?_
      simp
      refine last_nil ?_
      simp
      refine since_nil ?_
      simp [w64]
    · simp [show 4096 < size by omega, hs]
      refine get_nil ?_
      simp
      refine last_nil ?_
      simp
      refine since_nil ?_
      simp [w64]
  · simp [show ¬ size < 1 by omega, show ¬ 4096 < size by omega]
    refine exec_loopU (σ := Nat × V × Mem) (fun (i, v, _) => [(14, v), (72, .int .i64 i)]) (fun (_, _, m) => m)
      (fun (i, v, m) => i ≤ l.length ∧ Ring m r q size.toNat (histOf (l.take i)) ∧ Own m1.next m 3 v (ents 0 (histOf (l.take i))) ∧ m0.Grew m ∧ m1.next ≤ m.next) (fun (i, _, _) => l.length - i) (0, .sl none 0 (some 0), m1) rfl ⟨by omega, hR, Own.nil _ _ _, hgr, Nat.le_refl _⟩ (by simp) ?_
    intro (i, v, m) ⟨k1, k2, k3, k4, k5⟩
    by_cases hi : i < l.length
    · obtain ⟨c', r', i', full, rw, e1, e2, e3, e4⟩ := Slc.of_ne (hsl.keep (m' := m) (fun p o hp => by rw [k4.obj p (hf p o hp)]; exact hp)) (fun e => by simp at e; subst e; simp at hi)
      injection e1 with e11 e12 e13
      subst e11
      have e5 := e4 i (by simpa using hi)
      obtain ⟨t, w, hx⟩ : ∃ t w, l[i]? = some (t, w) := ⟨_, _, List.getElem?_eq_getElem hi⟩
      simp [hx] at e5
      have hr' := k4.next
      clear h0 h1 h2 h3 h4 hsl e4 hf
      have hlen : (histOf (l.take i)).length = i := histOf_length _ _ (by simp; omega)
      have hsn : histOf (l.take (i + 1)) = histOf (l.take i) ++ [(timeOf (histOf (l.take i)) t, w)] := by
        rw [List.take_add_one, hx]; exact histOf_snoc _ _
      have hzero : i = 0 → timeOf (histOf (l.take i)) t = t := by
        intro h0; subst h0; rfl
      have hlast : 0 < i → ∃ e : Int × Int, (histOf (l.take i))[i - 1]? = some e ∧ timeOf (histOf (l.take i)) t = max t e.1 := by
        intro h0
        obtain ⟨e, he⟩ : ∃ e, (histOf (l.take i))[i - 1]? = some e := ⟨_, List.getElem?_eq_getElem (by omega)⟩
        exact ⟨e, he, by simp [timeOf, List.getLast?_eq_getElem?, hlen, he]⟩
      generalize histOf (l.take i) = hh at *
      have e8 : ents 0 (hh ++ [(timeOf hh t, w)]) = ents 0 hh ++ [ent (i + 1) (timeOf hh t) w] := by
        rw [ents_append, hlen]; simp [ents]
      obtain ⟨T, hT⟩ : ∃ T, timeOf hh t = T := ⟨_, rfl⟩
      rw [hT] at hsn e8 hzero hlast
      have hel : (ents 0 hh).length = i := by rw [ents_length, hlen]
      by_cases hi0 : i = 0
      case' pos =>
        obtain rfl := hzero hi0
        clear hlast hzero
        simp (disch := omega) [-getElem?_pos, e2, e5, eltsOf, Mem.elts]
      case' neg =>
        obtain ⟨e, he1, rfl⟩ := hlast (by omega)
        clear hlast hzero
        obtain ⟨q', rfl, q1, q2, q3⟩ := k3.of_ne (fun e => by have := congrArg List.length e; rw [ents_length, hlen] at this; simp at this; omega)
        have e6 : (ents 0 hh)[i - 1]? = some (ent i e.1 e.2) := by rw [ents_get, he1]; simp; omega
        have e7 : ((i : Int) - 1).toNat = i - 1 := by omega
        simp (disch := omega) [-getElem?_pos, e2, e5, eltsOf, Mem.elts, q3, e7, e6]
      all_goals
        refine appendX_own3 (n0 := m1.next) k3 ((Mem.Grew.new _ _).trans (Mem.Grew.new _ _)) (by omega) (by simp) (by rw [ents_length, hlen]; simp; omega) (by rw [ents_length, hlen]; simp; omega) fun v' m' w1 w2 w3 w4 => ?_
        simp at w2 w3
        have w6 := w2 m.next (by omega) (.inr (.inl (by omega)))
        have hR' : Ring m' r q size.toNat hh := k2.keep (by rw [w2 _ (by omega) (.inl (by omega))]; simp (disch := omega)) (by rw [w2 _ (by omega) (.inl (by omega))]; simp (disch := omega))
        simp (disch := omega) at w6
        simp (disch := omega) [-getElem?_pos, w6]
        refine put_calls hR' (by omega) (fun m'' u1 u2 u3 => ?_)
        simp (disch := omega) [-getElem?_pos, hlen]
        rw [hT] at u1
        refine again_mk (i + 1, v', m'') ?_ (by dsimp only; omega) (by simp) rfl
        dsimp only
        rw [hsn, e8]
        refine ⟨by omega, u1, w1.keep (by omega) (fun p h1 h2 => u3 p (by omega) (by omega)), ⟨by omega, fun p hp => ?_⟩, by omega⟩
        rw [u3 p (by omega) (by omega), w2 p (by omega) (.inl (by omega))]
        simp (disch := omega) [k4.obj p hp]
    · have hi2 : i = l.length := by omega
      subst hi2
      clear hi k1
      rw [List.take_length] at k2 k3
      have hlen : (histOf l).length = l.length := histOf_length _ _ rfl
      have hri : Rises (histOf l) := histOf_rises _ _ rfl
      have hL : l.length ≤ 200 := by omega
      generalize l.length = N at *
      generalize histOf l = hh at *
      obtain ⟨S, hS⟩ : ∃ S : Nat, size = S := ⟨size.toNat, by omega⟩
      subst hS
      simp at k2
      obtain ⟨lo, hlo⟩ : ∃ lo, lostOf S hh = lo := ⟨_, rfl⟩
      have hlo2 : max ((N : Int) - S) 0 = lo := by unfold lostOf at hlo; omega
      have hlo3 : lo ≤ N ∧ N - lo ≤ S := by unfold lostOf at hlo; omega
      have hel : (ents 0 hh).length = N := by rw [ents_length]; assumption
      have hv1 := k3.sl.lenSl
      rw [hel] at hv1
      obtain ⟨wk, hk1, hk2, hk3⟩ := k3.sl.cutL .i64 lo (by omega)
      have hk4 := hk2.lenSl
      rw [List.length_drop, hel] at hk4
      rw [ents_drop, Nat.zero_add] at hk2
      have hk5 : (ents lo (hh.drop lo)).length = N - lo := by rw [ents_length, List.length_drop]; omega
      have hk6 : ∀ j, j < N - lo → ∃ e : Int × Int, hh[lo + j]? = some e ∧ (ents lo (hh.drop lo))[j]? = some (ent ((lo : Int) + j + 1) e.1 e.2) := fun j hj => by
        obtain ⟨e, he⟩ : ∃ e, hh[lo + j]? = some e := ⟨_, List.getElem?_eq_getElem (by omega)⟩
        exact ⟨e, he, by rw [ents_get, List.getElem?_drop, he]; simp⟩
      have hkl : ∀ p, wk.addr = some p → p < m.next := fun p hp => by
        rcases hk3 with e | e
        · rw [e] at hp; cases hp
        · exact (k3.addr_lt (e ▸ hp)).2
      have hlen2 : hh.length = N := by rw [← ents_length 0]; exact hel
      clear hsl h0 h1 h2 h3 h4 hR hf
      simp (disch := omega) [hv1, hlo2, hk1, hk4]
      generalize hKL : ents lo (hh.drop lo) = KL at *
      refine exec_loopU (σ := Nat × V × V × Mem) (fun (j, vs, va, _) => [(20, vs), (21, va), (118, .int .i64 j)]) (fun (_, _, _, m) => m)
        (fun (j, vs, va, M) => j ≤ N - lo ∧ P2 m m1.next r q S hh v wk KL ((KL.take j).filter fun x => decide (tm ≤ tmOf x)) ((KL.take j).filter fun x => decide (no < noOf x)) vs va M)
        (fun (j, _, _, _) => N - lo - j) (0, .sl none 0 (some 0), .sl none 0 (some 0), m) rfl ⟨by omega, k2, k3, hk2, Own.nil _ _ _, Own.nil _ _ _, Dj.nilL _ _ _, Mem.Grew.refl _, by omega, by omega, fun p hp => (k3.addr_lt hp).2, hkl⟩ (by simp) ?_
      intro (j, vs, va, M) ⟨a1, a2⟩
      by_cases hj : j < N - lo
      · obtain ⟨e, he1, he2⟩ := hk6 j hj
        obtain ⟨p, x, full, rw, b1, b2, b3, b4, b5⟩ := a2.kept.at he2 .i64
        have htk : KL.take (j + 1) = KL.take j ++ [ent ((lo : Int) + j + 1) e.1 e.2] := by rw [List.take_add_one, he2]; rfl
        have hl1 : ((KL.take j).filter fun x => decide (tm ≤ tmOf x)).length ≤ 1000 := Nat.le_trans (List.length_filter_le _ _) (by simp; omega)
        have hl2 : ((KL.take j).filter fun x => decide (no < noOf x)).length ≤ 1000 := Nat.le_trans (List.length_filter_le _ _) (by simp; omega)
        have hf1 : (KL.take (j + 1)).filter (fun x => decide (tm ≤ tmOf x)) = (KL.take j).filter (fun x => decide (tm ≤ tmOf x)) ++ if tm ≤ e.1 then [ent ((lo : Int) + j + 1) e.1 e.2] else [] := by
          rw [htk, List.filter_append]; congr 1; by_cases h : tm ≤ e.1 <;> simp [tmOf, h]
        have hf2 : (KL.take (j + 1)).filter (fun x => decide (no < noOf x)) = (KL.take j).filter (fun x => decide (no < noOf x)) ++ if no < (lo : Int) + j + 1 then [ent ((lo : Int) + j + 1) e.1 e.2] else [] := by
          rw [htk, List.filter_append]; congr 1; by_cases h : no < (lo : Int) + j + 1 <;> simp [noOf, h]
        generalize (KL.take j).filter (fun x => decide (tm ≤ tmOf x)) = G1 at *
        generalize (KL.take j).filter (fun x => decide (no < noOf x)) = G2 at *
        clear he2
        generalize hx : (lo : Int) + j + 1 = nx at *
        simp (disch := omega) [-getElem?_pos, b1, b3, b4, hx]
        by_cases ht : tm ≤ e.1
        case' pos =>
          rw [if_pos ht] at hf1
          simp (disch := omega) [-getElem?_pos, eltsOf, Mem.elts]
          refine a2.appL ((Mem.Grew.new _ _).trans (Mem.Grew.new _ _)) hl1 fun vs1 M3 a4 hq hn => ?_
          have hX3 := hq M.next (Nat.le_refl _) (by simp; omega)
          simp (disch := omega) at hX3 hn
          simp (disch := omega) [-getElem?_pos, hX3]
          have hN3 : M.next < M3.next := by omega
          clear hn hq
        case' neg =>
          rw [if_neg ht, List.append_nil] at hf1
          have hX3 : (M.new (.row 3 [ent nx e.1 e.2] true)).obj M.next = some (.row 3 [ent nx e.1 e.2] true) := by simp
          have hN3 : M.next < (M.new (.row 3 [ent nx e.1 e.2] true)).next := by simp
          have a4 := a2.grow (Mem.Grew.new M (.row 3 [ent nx e.1 e.2] true))
          generalize hM3 : M.new (.row 3 [ent nx e.1 e.2] true) = M3 at *
          simp (disch := omega) [-getElem?_pos, hX3]
        all_goals
          have hX3' := hX3
          by_cases hno : no < nx
          case' pos =>
            rw [if_pos hno] at hf2
            simp (disch := omega) [-getElem?_pos, eltsOf, Mem.elts, hX3]
            refine a4.appR (Mem.Grew.new _ _) hl2 fun va1 M4 a5 hq hn => ?_
            simp (disch := omega) [-getElem?_pos]
          case' neg =>
            rw [if_neg hno, List.append_nil] at hf2
            simp (disch := omega) [-getElem?_pos]
            have a5 := a4
          all_goals
            exact again_mk (j + 1, _, _, _) (by dsimp only; rw [hf1, hf2]; exact ⟨by omega, a5⟩) (by dsimp only; omega) (by simp) rfl
      · have hj2 : j = N - lo := by omega
        subst hj2
        rw [← hk5, List.take_length] at a2
        obtain ⟨wg, hg1, hg2, hg3⟩ := a2.row.sl.cutR .i64 lo (by omega)
        have hg4 := hg2.lenSl
        have hg5 : ((ents 0 hh).take lo).length = lo := by rw [List.length_take]; omega
        rw [hg5] at hg4
        have hwg : ∀ p, wg.addr = some p → p < m.next := fun p hp => by
          rcases hg3 with e | e
          · rw [e] at hp; cases hp
          · exact a2.vlt p (e ▸ hp)
        have hg6 : ∀ j, j < lo → ∃ e : Int × Int, ((ents 0 hh).take lo)[j]? = some (ent ((j : Int) + 1) e.1 e.2) := fun j hj => by
          obtain ⟨e, he⟩ : ∃ e, hh[j]? = some e := ⟨_, List.getElem?_eq_getElem (by omega)⟩
          exact ⟨e, by rw [List.getElem?_take_of_lt hj, ents_get, he]; simp⟩
        have hT : Turns (fun i => decide (tm ≤ timeAt hh (lo + i))) (N - lo) := by
          intro x y hxy hy hx
          simp only [decide_eq_true_eq] at hx ⊢
          by_cases e : x = y
          · subst e; exact hx
          · have := List.pairwise_iff_getElem.1 hri (lo + x) (lo + y) (by omega) (by omega) (by omega)
            simp only [timeAt, List.getElem?_eq_getElem (show lo + x < hh.length by omega), List.getElem?_eq_getElem (show lo + y < hh.length by omega)] at hx ⊢
            omega
        have hC := cutN_ok hT
        have hS1 : KL.filter (fun x => decide (tm ≤ tmOf x)) = ents (lo + cutN (fun i => decide (tm ≤ timeAt hh (lo + i))) (N - lo)) (hh.drop (lo + cutN (fun i => decide (tm ≤ timeAt hh (lo + i))) (N - lo))) := by
          have hkc := hC.1
          rw [filter_cut _ KL (cutN (fun i => decide (tm ≤ timeAt hh (lo + i))) (N - lo)) (by omega), ← hKL, ents_drop, List.drop_drop]
          intro x y hy
          have hxl := (List.getElem?_eq_some_iff.1 hy).1
          obtain ⟨e, q1, q2⟩ := hk6 x (by omega)
          rw [q2] at hy
          injection hy with hy
          subst hy
          have hta : timeAt hh (lo + x) = e.1 := by simp only [timeAt, q1]
          show decide (tm ≤ e.1) = _
          rcases Nat.lt_or_ge x (cutN (fun i => decide (tm ≤ timeAt hh (lo + i))) (N - lo)) with h | h
          · have := hC.2.1 x h
            simp only [hta] at this
            rw [this]; simp; omega
          · have := hC.2.2 x h (by omega)
            simp only [hta] at this
            rw [this]; simp; omega
        have hS2 : KL.filter (fun x => decide (no < noOf x)) = ents (max (min (max no 0) (N : Int)).toNat lo) (hh.drop (max (min (max no 0) (N : Int)).toNat lo)) := by
          have hle : (max (min (max no 0) (N : Int)).toNat lo) ≤ N := by omega
          generalize hA : (max (min (max no 0) (N : Int)).toNat lo) = A at *
          rw [filter_cut _ KL (A - lo) (by omega), ← hKL, ents_drop, List.drop_drop, show lo + (A - lo) = A by omega]
          intro x y hy
          have hxl := (List.getElem?_eq_some_iff.1 hy).1
          obtain ⟨e, q1, q2⟩ := hk6 x (by omega)
          rw [q2] at hy
          injection hy with hy
          subst hy
          show decide (no < (lo : Int) + x + 1) = decide (A - lo ≤ x)
          rw [decide_eq_decide]
          omega
        rw [hS1, hS2] at a2
        clear hS1 hS2 hk6 hT
        generalize cutN (fun i => decide (tm ≤ timeAt hh (lo + i))) (N - lo) = kc at *
        simp (disch := omega) [-getElem?_pos, hg1, hg4]
        generalize (ents 0 hh).take lo = GL at *
        have hmn : min (max no 0) (0 : Int) = 0 := by omega
        refine exec_loopU (σ := Nat × Mem) (fun (j, _) => [(24, .int .i64 (j - min (max no 0) (j : Int))), (143, .int .i64 j)]) (fun (_, m) => m)
          (fun (j, M') => j ≤ lo ∧ Sl M' 3 wg GL ∧ M.Grew M') (fun (j, _) => lo - j) (0, M) rfl ⟨by omega, hg2, Mem.Grew.refl _⟩ (by simp [hmn]) ?_
        intro (j, M') ⟨c1, c2, c3⟩
        by_cases hj : j < lo
        · obtain ⟨e, he⟩ := hg6 j hj
          obtain ⟨p, x, full, rw, b1, b2, b3, b4, b5⟩ := c2.at he .i64
          by_cases hno : no < (j : Int) + 1
          · simp (disch := omega) [-getElem?_pos, b1, b3, b4]
            refine again_mk (j + 1, _) (by dsimp only; exact ⟨by omega, c2.grow (Mem.Grew.new _ _), c3.trans (Mem.Grew.new _ _)⟩) (by dsimp only; omega) ?_ rfl
            have ev1 : (j : Int) - min (max no 0) j + 1 = j + 1 - min (max no 0) ((j : Int) + 1) := by omega
            simp [ev1]
          · simp (disch := omega) [-getElem?_pos, b1, b3, b4]
            refine again_mk (j + 1, _) (by dsimp only; exact ⟨by omega, c2.grow (Mem.Grew.new _ _), c3.trans (Mem.Grew.new _ _)⟩) (by dsimp only; omega) ?_ rfl
            have ev1 : (j : Int) - min (max no 0) j = j + 1 - min (max no 0) ((j : Int) + 1) := by omega
            simp [ev1]
        · have hj2 : j = lo := by omega
          subst hj2
          have a3 := a2.grow c3
          obtain ⟨A, hA⟩ : ∃ A : Nat, min (max no 0) (N : Int) = A := ⟨(min (max no 0) (N : Int)).toNat, by omega⟩
          rw [hA, Int.toNat_natCast] at a3
          clear a2
          obtain ⟨c5, es, o1, o2, o3, o4, o5⟩ := a3.ring.ex
          rw [hlen2] at o1
          have gn := a3.grew.next
          have hlost : (N : Int) - min (N : Int) S = j := by omega
          simp (disch := omega) [-getElem?_pos]
          refine get_calls a3.ring (fun k e hk1 hk2 hk3 => ?_) (fun hno => ?_)
          case' refine_1 =>
            have hkN : k < N := by rw [← hlen2]; exact (List.getElem?_eq_some_iff.1 hk3).1
            rw [hlo] at hk2
            subst hk1
            obtain ⟨p, x, full, rw, b1, b2, b3, b4, b5⟩ := a3.row.sl.at (i := k) (x := ent (k + 1) e.1 e.2) (by rw [ents_get, hk3]; simp) .i64
            simp (disch := omega) [-getElem?_pos, hel, hv1, b1, b3, b4, F11, F12, o1, hlost, hk4]
          case' refine_2 =>
            rw [hlo, hlen2] at hno
            have hno' : (decide (j < no) && decide (no ≤ N)) = false := by simp; omega
            simp (disch := omega) [-getElem?_pos, hel, hv1]
            by_cases hno2 : (j : Int) < no
            case' pos => simp (disch := omega) [-getElem?_pos, hel, hv1, F11, F12, o1, hlost, hk4]
            case' neg => simp (disch := omega) [-getElem?_pos, hel, hv1, F11, F12, o1, hlost, hk4]
          case' refine_1 =>
            generalize (k : Int) + 1 = no at *
          all_goals
            have a4 := fun X => a3.grow (Mem.Grew.new M' X)
            refine after_own (a4 _).ring (a := A) (lost := j) (by rw [hlen2]; exact hA) hlo fun w1 M1 c1 c2 => ?_
            have a5 := (a4 _).grow c2
            simp (disch := omega) [-getElem?_pos]
            obtain ⟨l2, hl2⟩ : ∃ l2 : Nat, ((N - j : Nat) : Int) - min (max n 0) ((N - j : Nat) : Int) = l2 := ⟨(((N - j : Nat) : Int) - min (max n 0) ((N - j : Nat) : Int)).toNat, by omega⟩
            refine last_own a5.ring (k := j + l2) (by rw [hlen2]; omega) fun w2 M2 c3 c4 => ?_
            have a6 := a5.grow c4
            simp (disch := omega) [-getElem?_pos]
            refine since_own a6.ring hri (k := kc) (by rw [hlo, hlen2]; exact hC) fun w3 M3 c5 c6 => ?_
            have a7 := a6.grow c6
            rw [hlo] at c5
            simp (disch := omega) [-getElem?_pos]
            refine same_calls c5.slc a7.s1.slc (ents_Ents _ _) (ents_le (by simp; omega)) ?_
            simp (disch := omega) [-getElem?_pos]
            refine same_calls (c1.grow (c4.trans c6)).slc a7.s2.slc (ents_Ents _ _) (ents_le (by simp; omega)) ?_
            obtain ⟨wc, d1, d2, d3⟩ := a7.kept.cutL .i64 l2 (by rw [hk5]; omega)
            have d4 : KL.drop l2 = ents (j + l2) (hh.drop (j + l2)) := by rw [← hKL, ents_drop, List.drop_drop]
            rw [d4] at d2
            simp (disch := omega) [-getElem?_pos, hk4, hl2, d1]
            refine same_calls (c3.grow c6).slc d2.slc (ents_Ents _ _) (ents_le (by simp; omega)) ?_
            simp (disch := omega)

end Go.Proofs.Ythclgfhlfmbjfaa
