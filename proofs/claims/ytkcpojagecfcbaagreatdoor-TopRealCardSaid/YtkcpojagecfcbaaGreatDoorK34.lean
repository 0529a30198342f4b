/-
  A QUEUE: all its timers.
  A PROCESSOR'S QUEUES: all are gone through.
  A PROCESSOR'S QUEUES: what they hold; is a timer there.
  A PROCESSOR'S QUEUES: a timer comes; one is taken out.
  A PROCESSOR'S QUEUES: a timer is taken out; new ones.
  A PROCESSOR'S QUEUES: when the first comes; whether some is due.
  A PROCESSOR'S QUEUES: Next, Due.
  A PROCESSOR'S QUEUES: all that are due are taken out.
  A PROCESSOR'S QUEUES: Expire, All, New.
  A PROCESSOR'S QUEUES: new ones.
  A DEVICE: an alarm.
-/
import Derived.Test.YtkcpojagecfcbaaGreatDoorK33
namespace Go.Proofs.YtkcpojagecfcbaaGreatDoor
open Go Go.AM
set_option linter.unusedVariables false
set_option linter.unusedSimpArgs false
set_option maxRecDepth 60000
set_option maxHeartbeats 8000000
theorem Own.none (n0 : Nat) (m : Mem) (sz : Nat) : Own n0 m sz (.sl .none 0 (some 0)) [] := .inl ⟨rfl, rfl⟩
/-- The handle of the first of some. -/
def handL (T : Tr) : List (Tmr × Nat) → List V
  | [] => [.int .i64 0, .int .i64 0]
  | p :: _ => [.int .i64 p.2, .int .i64 (T.f p.2).tn]
theorem own_upd {n0 : Nat} {m : Mem} {sz : Nat} {v : V} {es : List (List V)} (h : Own n0 m sz v es) {r : Nat} (hr : v.addr ≠ some r) (o : Option AM.Obj) : Own n0 (m.upd r o) sz v es := by
  rcases h with ⟨rfl, rfl⟩ | ⟨q, rfl, h1, h2, h3, h4⟩
  · exact .inl ⟨rfl, rfl⟩
  · exact .inr ⟨q, rfl, h1, by simp; exact h2, by rw [updO _ (fun e => hr (by rw [← e]; rfl))]; exact h3, h4⟩
theorem handV_L {T : Tr} {B : List (Tmr × Nat)} (h : ∀ p ∈ B, p.2 ≠ 0) : handV T ((B.map (·.2)).headD 0) = .agg (handL T B) ∧ decide ((B.map (·.2)).headD 0 ≠ 0) = !B.isEmpty := by
  cases B with
  | nil => exact ⟨rfl, rfl⟩
  | cons p B =>
    have hp := h p (by simp)
    constructor
    · show V.agg (if p.2 = 0 then _ else _) = _
      rw [if_neg hp]; rfl
    · exact decide_eq_true hp
section
variable {m m' : Mem} {a : QA} {T : Tr} {P : List (Tmr × Nat)} {F : List Nat} {bm : List (Int × V)} {bg ig : List Nat × Nat} {im : List ((Int × Int) × V)} {l : List Tmr}
theorem all69 (h : Que m a l) (hl : l.length ≤ 64) {K : KV} (hk : ∀ v m', m.Grew m' → Own m.next m' 5 v (l.map Tmr.cs) → K v m') : ACalls Tryz.prog 69 [.ptr (some (a.o, 0, 0))] m K := by
  refine run_on xK hm c69 (by simp) fun hf => ?_
  obtain ⟨T, P, F, bm, bg, im, ig, q, e⟩ := h
  subst e
  obtain ⟨b1, b2, b3, b4, b5⟩ := q.lts
  have oq := q.q
  obtain ⟨n, hM⟩ := first_ex q.tok.ord
  simp (disch := omega) [-getElem?_pos, b69, oq]
  refine first94 q.tm hM fun m1 g1 => ?_
  have hpos : ∀ p ∈ P, p.2 ≠ 0 := fun p hp => q.tok.ord.pos p.2 (List.mem_map.2 ⟨p, hp, rfl⟩)
  have eH : (if (P.map (·.2)).headD 0 = 0 then [V.int .i64 0, .int .i64 0] else [.int .i64 ((P.map (·.2)).headD 0 : Nat), .int .i64 (T.f ((P.map (·.2)).headD 0)).tn]) = handL T P := by
    cases P with
    | nil => rfl
    | cons p P => have := hpos p (by simp); simp [handL, this]
  have eB : decide ((P.map (·.2)).headD 0 ≠ 0) = !P.isEmpty := by
    cases P with
    | nil => rfl
    | cons p P => have := hpos p (by simp); simpa using this
  rw [eH, eB]
  have hn1 := g1.next
  have hne : (handL T P).length = 2 ∧ (handL T P).all V.okc = true := by cases P <;> exact ⟨rfl, rfl⟩
  obtain ⟨hA, hB, eHL⟩ : ∃ u v, handL T P = [u, v] ∧ u.okc = true ∧ v.okc = true := by
    cases P <;> exact ⟨_, _, rfl, rfl, rfl⟩
  rw [eHL.1]
  simp (disch := omega) [-getElem?_pos, splice, eHL.2.1, eHL.2.2]
  rw [← eHL.1]
  clear eHL hne eH eB
  refine exec_loopU (σ := List (Tmr × Nat) × List (Tmr × Nat) × V × Nat × Mem) (fun (A, B, v, c, M) => [(5, .bool (!B.isEmpty)), (4, .ptr (some (c, 0, 0))), (3, v), (0, .ptr (some (a.o, 0, 0)))]) (fun (_, _, _, _, M) => M)
    (fun (A, B, v, c, M) => P = A ++ B ∧ m.Grew M ∧ Own m.next M 5 v (A.map fun p => p.1.cs) ∧ m.next ≤ c ∧ c < M.next ∧ v.addr ≠ some c ∧ M.obj c = some (.row 2 [handL T B] true)) (fun (_, B, _, _, _) => B.length) ([], P, .sl .none 0 (some 0), m1.next, _) rfl
    (by dsimp only; exact ⟨rfl, g1.trans (Mem.Grew.new _ _), Own.none _ _ _, hn1, by simp, by simp [V.addr], by simp⟩) (by simp) ?_
  intro (A, B, v, c, M) ⟨a1, a2, a3, a4, a5, a6, a7⟩
  have hA64 : A.length + B.length ≤ 64 := by
    have := congrArg List.length a1; simp at this hl; omega
  have qM := q.grow a2
  have oqM := qM.q
  have obM := qM.ob
  have oiM := qM.oi
  have hnM := a2.next
  cases B with
  | nil =>
    rw [List.append_nil] at a1
    simp (disch := omega) [-getElem?_pos]
    subst a1
    exact hk _ _ a2 (by rw [List.map_map]; exact a3)
  | cons p B =>
    have hb := q.hb p (by rw [a1]; simp)
    have hi := q.hi p (by rw [a1]; simp)
    have hp0 := hpos p (by rw [a1]; simp)
    unfold entV at hb
    unfold handL at a7
    simp (disch := omega) [-getElem?_pos, splice, oqM, obM, oiM, a7, hb, hi, eltsOf, Mem.elts]
    have gN := Mem.Grew.new M (.row 5 [[.int .i64 p.1.id, .int .i64 p.1.ck, .int .i64 p.1.soft, .int .i64 p.1.hard, .bool p.1.lazy]] true)
    refine appendX_own3 a3 gN hnM (by simp) (by simp; simp at hA64; omega) (by simp; simp at hA64; omega) fun v' M2 w1 w2 w3 w4 => ?_
    simp only [new_next] at w2 w3 w4
    have oc2 := (w2 c (by omega) (.inr (.inr a6))).trans ((gN.obj c a5).trans a7)
    have g2 : m.Grew M2 := ⟨by omega, fun r hr => (w2 r (by omega) (.inl hr)).trans ((gN.obj r (by omega)).trans (a2.obj r hr))⟩
    have q2 := q.grow g2
    have oq2 := q2.q
    obtain ⟨d1, d2, d3, d4, d5⟩ := q2.lts
    simp (disch := omega) [-getElem?_pos, splice, oc2, oq2]
    have gC := Mem.Grew.new M2 (.row 2 [[.int .i64 p.2, .int .i64 (T.f p.2).tn]] true)
    have oC : (M2.new (.row 2 [[.int .i64 p.2, .int .i64 (T.f p.2).tn]] true)).obj M2.next = some (.row 2 [[.int .i64 p.2, .int .i64 (T.f p.2).tn]] true) := by simp
    have hC : M2.next < (M2.new (.row 2 [[.int .i64 p.2, .int .i64 (T.f p.2).tn]] true)).next := by simp
    have q3 := q2.grow gC
    have oq3 := q3.q
    have w1' := w1.grow gC
    have g3 := g2.trans gC
    generalize M2.new (.row 2 [[.int .i64 p.2, .int .i64 (T.f p.2).tn]] true) = M3 at *
    have tok := q.tok
    rw [a1, List.map_append, List.map_cons] at tok
    refine next95 q3.tm (tok_held q.tok (List.mem_map.2 ⟨p, by rw [a1]; simp, rfl⟩)) (next_ex tok.ord) fun M4 g4 => ?_
    have hBp : ∀ r ∈ B, r.2 ≠ 0 := fun r hr => hpos r (by rw [a1]; simp [hr])
    rw [(handV_L (T := T) hBp).1, (handV_L (T := T) hBp).2]
    have oC4 := (g4.obj M2.next hC).trans oC
    obtain ⟨u1, u2, eL, f1, f2⟩ : ∃ u v, handL T B = [u, v] ∧ u.okc = true ∧ v.okc = true := by
      cases B <;> exact ⟨_, _, rfl, rfl, rfl⟩
    rw [eL]
    simp (disch := omega) [-getElem?_pos, splice, oC4, f1, f2]
    have hn3 := gC.next
    have hn4 := g4.next
    have g5 : m.Grew (M4.upd M2.next (some (.row 2 [[u1, u2]] true))) := (g3.trans g4).upd (by omega) _
    refine again_mk (A ++ [p], B, v', M2.next, _) ?_ (by dsimp only; simp) (by simp) rfl
    dsimp only
    refine ⟨by rw [a1]; simp, g5, ?_, by omega, by show M2.next < M4.next; omega, by rw [w4]; simp; omega, by rw [eL]; simp⟩
    rw [List.map_append]
    exact own_upd (w1'.grow g4) (by rw [w4]; simp; omega) _
end
set_option maxHeartbeats 8000000
abbrev bcs (pq : Nat → Nat) : List V := [.ptr (some (pq 0, 0, 0)), .ptr (some (pq 1, 0, 0)), .ptr (some (pq 2, 0, 0)), .ptr (some (pq 3, 0, 0)), .ptr (some (pq 4, 0, 0)), .ptr (some (pq 5, 0, 0))]
theorem each67 {m : Mem} {r : Nat} {pq : Nat → Nat} {g : FuncId} {caps : List V} (I : Nat → Mem → Prop) (E : Mem → Prop) (hI : I 0 m) (ho : ∀ j M, I j M → M.obj r = some (.row 6 [bcs pq] true))
    (hs : ∀ j M, j < 6 → I j M → ∀ {K : KV}, (∀ M', I (j + 1) M' → K (.bool true) M') → (∀ M', E M' → K (.bool false) M') → ACalls Tryz.prog g ([.int .i64 (j / 2 : Nat), .int .i64 (j % 2 : Nat), .ptr (some (pq j, 0, 0))] ++ caps) M K)
    {K : KV} (hk0 : ∀ M, I 6 M ∨ E M → K (.tup []) M) : ACalls Tryz.prog 67 [.ptr (some (r, 0, 0)), .fn g [] caps] m K := by
  refine run_on (ctx_nil _) hm c67 (by simp) fun hf => ?_
  simp (disch := omega) [-getElem?_pos, b67]
  refine exec_loopU (σ := Nat × Mem) (fun (i, _) => [(9, .int .i64 i), (1, .fn g [] caps), (0, .ptr (some (r, 0, 0)))]) (fun (_, M) => M) (fun (i, M) => i ≤ 3 ∧ I (2 * i) M) (fun (i, _) => 3 - i) (0, m) rfl ⟨by omega, hI⟩ (by simp) ?_
  intro (i, M) ⟨a1, a2⟩
  have oM := ho _ _ a2
  have hi : i = 0 ∨ i = 1 ∨ i = 2 ∨ i = 3 := by omega
  rcases hi with rfl | rfl | rfl | rfl
  · simp (disch := omega) [-getElem?_pos, oM]
    refine exec_loopU (σ := Nat × Mem) (fun (k, _) => [(18, .int .i64 k), (17, .agg [.ptr (some (pq 0, 0, 0)), .ptr (some (pq 1, 0, 0))]), (9, .int .i64 0), (4, .int .i64 0), (1, .fn g [] caps), (0, .ptr (some (r, 0, 0)))]) (fun (_, M) => M) (fun (k, M) => k ≤ 2 ∧ I (0 + k) M) (fun (k, _) => 2 - k) (0, M) rfl ⟨by omega, a2⟩ (by simp) ?_
    intro (k, M2) ⟨c1, c2⟩
    have hk : k = 0 ∨ k = 1 ∨ k = 2 := by omega
    rcases hk with rfl | rfl | rfl
    · simp (disch := omega) [-getElem?_pos]
      refine hs 0 M2 (by omega) c2 (fun M3 h3 => ?_) fun M3 h3 => ?_
      · simp (disch := omega) [-getElem?_pos]
        exact again_mk (1, M3) ⟨by omega, h3⟩ (by dsimp only; omega) (by simp) rfl
      · simp (disch := omega) [-getElem?_pos]
        exact hk0 _ (.inr h3)
    · simp (disch := omega) [-getElem?_pos]
      refine hs 1 M2 (by omega) c2 (fun M3 h3 => ?_) fun M3 h3 => ?_
      · simp (disch := omega) [-getElem?_pos]
        exact again_mk (2, M3) ⟨by omega, h3⟩ (by dsimp only; omega) (by simp) rfl
      · simp (disch := omega) [-getElem?_pos]
        exact hk0 _ (.inr h3)
    · simp (disch := omega) [-getElem?_pos]
      exact again_mk (1, M2) ⟨by omega, c2⟩ (by dsimp only; omega) (by simp) rfl
  · simp (disch := omega) [-getElem?_pos, oM]
    refine exec_loopU (σ := Nat × Mem) (fun (k, _) => [(18, .int .i64 k), (17, .agg [.ptr (some (pq 2, 0, 0)), .ptr (some (pq 3, 0, 0))]), (9, .int .i64 1), (4, .int .i64 1), (1, .fn g [] caps), (0, .ptr (some (r, 0, 0)))]) (fun (_, M) => M) (fun (k, M) => k ≤ 2 ∧ I (2 + k) M) (fun (k, _) => 2 - k) (0, M) rfl ⟨by omega, a2⟩ (by simp) ?_
    intro (k, M2) ⟨c1, c2⟩
    have hk : k = 0 ∨ k = 1 ∨ k = 2 := by omega
    rcases hk with rfl | rfl | rfl
    · simp (disch := omega) [-getElem?_pos]
      refine hs 2 M2 (by omega) c2 (fun M3 h3 => ?_) fun M3 h3 => ?_
      · simp (disch := omega) [-getElem?_pos]
        exact again_mk (1, M3) ⟨by omega, h3⟩ (by dsimp only; omega) (by simp) rfl
      · simp (disch := omega) [-getElem?_pos]
        exact hk0 _ (.inr h3)
    · simp (disch := omega) [-getElem?_pos]
      refine hs 3 M2 (by omega) c2 (fun M3 h3 => ?_) fun M3 h3 => ?_
      · simp (disch := omega) [-getElem?_pos]
        exact again_mk (2, M3) ⟨by omega, h3⟩ (by dsimp only; omega) (by simp) rfl
      · simp (disch := omega) [-getElem?_pos]
        exact hk0 _ (.inr h3)
    · simp (disch := omega) [-getElem?_pos]
      exact again_mk (2, M2) ⟨by omega, c2⟩ (by dsimp only; omega) (by simp) rfl
  · simp (disch := omega) [-getElem?_pos, oM]
    refine exec_loopU (σ := Nat × Mem) (fun (k, _) => [(18, .int .i64 k), (17, .agg [.ptr (some (pq 4, 0, 0)), .ptr (some (pq 5, 0, 0))]), (9, .int .i64 2), (4, .int .i64 2), (1, .fn g [] caps), (0, .ptr (some (r, 0, 0)))]) (fun (_, M) => M) (fun (k, M) => k ≤ 2 ∧ I (4 + k) M) (fun (k, _) => 2 - k) (0, M) rfl ⟨by omega, a2⟩ (by simp) ?_
    intro (k, M2) ⟨c1, c2⟩
    have hk : k = 0 ∨ k = 1 ∨ k = 2 := by omega
    rcases hk with rfl | rfl | rfl
    · simp (disch := omega) [-getElem?_pos]
      refine hs 4 M2 (by omega) c2 (fun M3 h3 => ?_) fun M3 h3 => ?_
      · simp (disch := omega) [-getElem?_pos]
        exact again_mk (1, M3) ⟨by omega, h3⟩ (by dsimp only; omega) (by simp) rfl
      · simp (disch := omega) [-getElem?_pos]
        exact hk0 _ (.inr h3)
    · simp (disch := omega) [-getElem?_pos]
      refine hs 5 M2 (by omega) c2 (fun M3 h3 => ?_) fun M3 h3 => ?_
      · simp (disch := omega) [-getElem?_pos]
        exact again_mk (2, M3) ⟨by omega, h3⟩ (by dsimp only; omega) (by simp) rfl
      · simp (disch := omega) [-getElem?_pos]
        exact hk0 _ (.inr h3)
    · simp (disch := omega) [-getElem?_pos]
      exact again_mk (3, M2) ⟨by omega, c2⟩ (by dsimp only; omega) (by simp) rfl
  · simp (disch := omega) [-getElem?_pos]
    exact hk0 _ (.inl a2)
set_option maxHeartbeats 8000000
structure BA where
  o : Nat
  q : Nat → QA
def BA.qs (a : BA) : List Nat := (List.range 6).flatMap fun j => (a.q j).all
def BA.all (a : BA) : List Nat := a.o :: a.qs
theorem BA.mem {a : BA} {p : Nat} : p ∈ a.all ↔ p = a.o ∨ ∃ j, j < 6 ∧ p ∈ (a.q j).all := by
  unfold BA.all BA.qs
  simp only [List.mem_cons, List.mem_flatMap, List.mem_range]
/-- Queues lie here: of the clock j / 2, lazy if j is odd. -/
structure Bas (m : Mem) (a : BA) (Q : Nat → List Tmr) : Prop where
  ob : m.obj a.o = some (.row 6 [bcs fun j => (a.q j).o] true)
  q : ∀ j, j < 6 → Que m (a.q j) (Q j)
  no : ∀ j, j < 6 → a.o ∉ (a.q j).all
  dj : ∀ j k, j < 6 → k < 6 → j ≠ k → ∀ p ∈ (a.q j).all, p ∉ (a.q k).all
  lt : a.o < m.next
def upQ (Q : Nat → List Tmr) (j : Nat) (l : List Tmr) : Nat → List Tmr := fun k => if k = j then l else Q k
def hasB (Q : Nat → List Tmr) (i : Int) : Bool := (List.range 6).any fun j => hasT (Q j) i
section
variable {m m' : Mem} {a : BA} {Q : Nat → List Tmr}
theorem Bas.keep (h : Bas m a Q) (hn : m.next ≤ m'.next) (ho : ∀ p ∈ a.all, m'.obj p = m.obj p) : Bas m' a Q :=
  ⟨by rw [ho a.o (BA.mem.2 (.inl rfl))]; exact h.ob, fun j hj => (h.q j hj).keep hn fun p hp => ho p (BA.mem.2 (.inr ⟨j, hj, hp⟩)), h.no, h.dj, by have := h.lt; omega⟩
theorem Bas.lts (h : Bas m a Q) : ∀ p ∈ a.all, p < m.next := fun p hp => by
  rcases BA.mem.1 hp with rfl | ⟨j, hj, hp⟩
  · exact h.lt
  · exact (h.q j hj).lt p hp
theorem Bas.grow (h : Bas m a Q) (hg : m.Grew m') : Bas m' a Q := h.keep hg.next fun p hp => hg.obj p (h.lts p hp)
theorem Bas.step (h : Bas m a Q) {D D' : List Nat} (hs : Stp m m' D D') (hd : ∀ p ∈ a.all, p ∉ D) : Bas m' a Q := h.keep hs.next fun p hp => hs.obj p (h.lts p hp) (hd p hp)
theorem Bas.set (h : Bas m a Q) {j : Nat} (hj : j < 6) {l : List Tmr} (hq : Que m' (a.q j) l) (hs : Stp m m' (a.q j).all (a.q j).all) : Bas m' a (upQ Q j l) ∧ Stp m m' a.all a.all := by
  refine ⟨⟨by rw [hs.obj a.o h.lt (h.no j hj)]; exact h.ob, fun k hk => ?_, h.no, h.dj, by have := h.lt; have := hs.next; omega⟩, hs.mono (fun p hp => BA.mem.2 (.inr ⟨j, hj, hp⟩)) fun p hp => .inl hp⟩
  unfold upQ
  split
  · rename_i e; rw [e]; exact hq
  · rename_i e
    exact (h.q k hk).keep hs.next fun p hp => hs.obj p ((h.q k hk).lt p hp) (h.dj k j hk hj e p hp)
theorem Bas.ext (h : Bas m a Q) {Q' : Nat → List Tmr} (e : ∀ j, j < 6 → Q' j = Q j) : Bas m a Q' :=
  ⟨h.ob, fun j hj => by rw [e j hj]; exact h.q j hj, h.no, h.dj, h.lt⟩
theorem hasB_false (Q : Nat → List Tmr) (i : Int) : hasB Q i = false ↔ ∀ j, j < 6 → hasT (Q j) i = false := by
  unfold hasB
  rw [List.any_eq_false]
  constructor
  · intro h j hj; simpa using h j (List.mem_range.2 hj)
  · intro h j hj; simpa using h j (List.mem_range.1 hj)
theorem hasB_true {Q : Nat → List Tmr} {i : Int} {j : Nat} (hj : j < 6) (h : hasT (Q j) i = true) : hasB Q i = true := by
  unfold hasB
  rw [List.any_eq_true]
  exact ⟨j, List.mem_range.2 hj, h⟩
theorem has105 {qa : QA} {l : List Tmr} (h : Que m qa l) {ic fc : Nat} {i ck sd : Int} {v : Bool} (o1 : m.obj ic = some (.row 1 [[.int .i64 i]] true)) (o2 : m.obj fc = some (.row 1 [[.bool v]] true)) (l1 : ic < m.next) (l2 : fc < m.next) {K : KV}
    (hk : ∀ M, m.Grew M → K (.bool (!hasT l i)) (M.upd fc (some (.row 1 [[.bool (hasT l i)]] true)))) : ACalls Tryz.prog 105 ([.int .i64 ck, .int .i64 sd, .ptr (some (qa.o, 0, 0))] ++ [.ptr (some (ic, 0, 0)), .ptr (some (fc, 0, 0))]) m K := by
  refine run_on xK hm c105 (by simp) fun hf => ?_
  simp (disch := omega) [-getElem?_pos, b105, o1]
  refine has106 h fun M g => ?_
  have o2' := (g.obj fc l2).trans o2
  simp (disch := omega) [-getElem?_pos, o2']
  exact hk M g
theorem bhas81 (h : Bas m a Q) {i : Int} {K : KV} (hk : ∀ m', m.Grew m' → K (.bool (hasB Q i)) m') : ACalls Tryz.prog 81 [.ptr (some (a.o, 0, 0)), .int .i64 i] m K := by
  refine run_on xK hm c81 (by simp) fun hf => ?_
  simp (disch := omega) [-getElem?_pos, b81, splice]
  obtain ⟨M1, hM1⟩ : ∃ M1, (m.new (.row 1 [[.int .i64 i]] true)).new (.row 1 [[.bool false]] true) = M1 := ⟨_, rfl⟩
  have g1 : m.Grew M1 := hM1 ▸ (Mem.Grew.new _ _).trans (Mem.Grew.new _ _)
  have o1 : M1.obj m.next = some (.row 1 [[.int .i64 i]] true) := by rw [← hM1]; simp
  have o2 : M1.obj (m.next + 1) = some (.row 1 [[.bool false]] true) := by rw [← hM1]; simp
  have hn1 : M1.next = m.next + 1 + 1 := by rw [← hM1]; simp
  rw [hM1]
  have hl := h.lts
  refine each67 (pq := fun j => (a.q j).o) (fun j M => m.Grew M ∧ M1.next ≤ M.next ∧ M.obj m.next = some (.row 1 [[.int .i64 i]] true) ∧ M.obj (m.next + 1) = some (.row 1 [[.bool false]] true) ∧ ∀ k, k < j → hasT (Q k) i = false)
    (fun M => m.Grew M ∧ M.obj (m.next + 1) = some (.row 1 [[.bool true]] true) ∧ hasB Q i = true)
    ⟨g1, Nat.le_refl _, o1, o2, fun k hk => by omega⟩ (fun j M hI => (h.grow hI.1).ob) (fun j M hj ⟨i1, i2, i3, i4, i5⟩ K k1 k2 => ?_) fun M hM => ?_
  · refine has105 ((h.q j hj).grow i1) i3 i4 (by omega) (by omega) fun M2 g2 => ?_
    have hn2 := g2.next
    have g3 : m.Grew (M2.upd (m.next + 1) (some (.row 1 [[.bool (hasT (Q j) i)]] true))) := (i1.trans g2).upd (by omega) _
    cases hh : hasT (Q j) i with
    | false =>
      refine k1 _ ⟨hh ▸ g3, by simp; omega, by rw [updO _ (by omega)]; exact (g2.obj _ (by omega)).trans i3, by simp, fun k hk => ?_⟩
      by_cases e : k = j
      · rw [e]; exact hh
      · exact i5 k (by omega)
    | true => exact k2 _ ⟨hh ▸ g3, by simp, hasB_true hj hh⟩
  · rcases hM with ⟨i1, i2, i3, i4, i5⟩ | ⟨i1, i2, i3⟩
    · rw [(hasB_false Q i).2 i5] at hk
      simp (disch := omega) [-getElem?_pos, i4]
      exact hk _ i1
    · rw [i3] at hk
      simp (disch := omega) [-getElem?_pos, i2]
      exact hk _ i1
end
set_option maxHeartbeats 16000000
def F82 : AFn
  | [.bool b], m => some (.int .i64 (if b then 1 else 0), m)
  | _, _ => none
theorem s82 : ASpec Tryz.prog 82 F82 := by
  intro args m r m' h
  unfold F82 at h; split at h <;> cases h
  rename_i b
  refine run_on (ctx_nil _) hm c82 (by simp) fun hf => ?_
  cases b <;> simp [b82]
abbrev LB : List (FuncId × AFn) := [(75, F75), (74, F74), (72, F72), (115, F115), (133, F133), (82, F82)]
theorem xB : CtxOk Tryz.prog (Ctx.of LB) := ctx_cons (ctx_cons (ctx_cons (ctx_cons (ctx_cons (ctx_cons (ctx_nil _) s82) s133) s115) s72) s74) s75
def sideN (b : Bool) : Nat := if b then 1 else 0
/-- The error of a timer that comes to a processor; and what is there then. -/
def startE (Q : Nat → List Tmr) (t : Tmr) : Int := if t.ck < 0 ∨ 3 ≤ t.ck then 2 else if hasB Q t.id then 9 else if t.hard < t.soft then 2 else 0
def startQ (Q : Nat → List Tmr) (t : Tmr) : Nat → List Tmr := if startE Q t = 0 then upQ Q (2 * t.ck.toNat + sideN t.lazy) (insT (Q (2 * t.ck.toNat + sideN t.lazy)) t) else Q
section
variable {m m' : Mem} {a : BA} {Q : Nat → List Tmr}
theorem bstart52 (h : Bas m a Q) {t : Tmr} (hl : ∀ j, j < 6 → (Q j).length < 64) {K : KV} (hk : ∀ m', Bas m' a (startQ Q t) → Stp m m' a.all a.all → K (.int .i64 (startE Q t)) m') : ACalls Tryz.prog 52 [.ptr (some (a.o, 0, 0)), .agg t.cs] m K := by
  refine run_on xB hm c52 (by simp) fun hf => ?_
  obtain ⟨M1, hM1⟩ : ∃ M1, m.new (.row 5 [t.cs] true) = M1 := ⟨_, rfl⟩
  have g1 : m.Grew M1 := hM1 ▸ Mem.Grew.new _ _
  have oT : M1.obj m.next = some (.row 5 [t.cs] true) := by rw [← hM1]; simp
  have hT : m.next < M1.next := by rw [← hM1]; simp
  have h1 := h.grow g1
  have hlo := h.lt
  unfold Tmr.cs at hM1 oT ⊢
  by_cases c1 : t.ck < 0
  · have eE : startE Q t = 2 := by unfold startE; rw [if_pos (.inl c1)]
    have eQ : startQ Q t = Q := by unfold startQ; rw [eE]; rfl
    rw [eE, eQ] at hk
    simp (disch := omega) [-getElem?_pos, b52, hM1, oT, c1]
    exact hk _ h1 (Stp.grow g1 _)
  by_cases c2 : 3 ≤ t.ck
  · have eE : startE Q t = 2 := by unfold startE; rw [if_pos (.inr c2)]
    have eQ : startQ Q t = Q := by unfold startQ; rw [eE]; rfl
    rw [eE, eQ] at hk
    simp (disch := omega) [-getElem?_pos, b52, hM1, oT, c1, c2]
    exact hk _ h1 (Stp.grow g1 _)
  simp (disch := omega) [-getElem?_pos, b52, hM1, oT, c1, c2]
  refine bhas81 h1 fun M2 g2 => ?_
  have hn2 := g2.next
  have oT2 := (g2.obj _ hT).trans oT
  have gg := g1.trans g2
  cases hh : hasB Q t.id with
  | true =>
    have eE : startE Q t = 9 := by unfold startE; rw [if_neg (by omega), hh]; rfl
    have eQ : startQ Q t = Q := by unfold startQ; rw [eE]; rfl
    rw [eE, eQ] at hk
    simp (disch := omega) [-getElem?_pos]
    exact hk _ (h1.grow g2) (Stp.grow gg _)
  | false =>
    have eE : startE Q t = if t.hard < t.soft then 2 else 0 := by unfold startE; rw [if_neg (by omega), hh]; rfl
    unfold startQ at hk
    rw [eE] at hk
    have h2 := h1.grow g2
    have oB := h2.ob
    have add : ∀ {j : Nat} (hj : j < 6) (ej : j = 2 * t.ck.toNat + sideN t.lazy) {K1 : KV} (hk1 : ∀ m', Bas m' a (if (if t.hard < t.soft then (2 : Int) else 0) = 0 then upQ Q (2 * t.ck.toNat + sideN t.lazy) (insT (Q (2 * t.ck.toNat + sideN t.lazy)) t) else Q) → Stp m m' a.all a.all → K1 (.int .i64 (if t.hard < t.soft then 2 else 0)) m'),
        ACalls Tryz.prog 83 [.ptr (some ((a.q j).o, 0, 0)), .agg [.int .i64 t.id, .int .i64 t.ck, .int .i64 t.soft, .int .i64 t.hard, .bool t.lazy]] M2 K1 := by
      intro j hj ej K1 hk1
      refine add83 (h2.q j hj) (t := t) (hl j hj) fun M3 q3 s3 => ?_
      obtain ⟨b1, b2⟩ := h2.set hj q3 s3
      have hhj := (hasB_false Q t.id).1 hh j hj
      have eA : addE (Q j) t = if t.hard < t.soft then 2 else 0 := by unfold addE; rw [hhj]; simp
      rw [eA]
      refine hk1 _ ?_ ((Stp.grow gg _).trans b2)
      rw [eA] at b1
      rw [← ej]
      by_cases c3 : t.hard < t.soft
      · rw [if_pos c3] at b1 ⊢
        rw [if_neg (by omega)] at b1 ⊢
        refine b1.ext fun k hk => ?_
        unfold upQ; split
        · rename_i e; rw [e]
        · rfl
      · rw [if_neg c3] at b1 ⊢
        rw [if_pos rfl] at b1 ⊢
        exact b1
    have hck : t.ck = 0 ∨ t.ck = 1 ∨ t.ck = 2 := by omega
    rcases hck with e | e | e
    · cases hz : t.lazy with
      | false =>
        simp only [e, hz] at oT2 add hk
        simp (disch := omega) [-getElem?_pos, splice, oB, oT2, F82, e, hz]
        refine drawT_J (fun e' m' => K (e' 4) m') ?_ fun e' m' hJ => by simp; exact hJ
        simp (disch := omega) [-getElem?_pos, splice, oB, oT2, F82, e, hz]
        refine ⟨⟨⟨?_, ?_⟩, ?_⟩, ?_, ?_⟩ <;> (refine add (j := 0) (by omega) (by simp [sideN]) fun m' k1 k2 => ?_; simp (disch := omega) [-getElem?_pos]; exact hk _ k1 k2)
      | true =>
        simp only [e, hz] at oT2 add hk
        simp (disch := omega) [-getElem?_pos, splice, oB, oT2, F82, e, hz]
        refine drawT_J (fun e' m' => K (e' 4) m') ?_ fun e' m' hJ => by simp; exact hJ
        simp (disch := omega) [-getElem?_pos, splice, oB, oT2, F82, e, hz]
        refine ⟨⟨⟨?_, ?_⟩, ?_⟩, ?_, ?_⟩ <;> (refine add (j := 1) (by omega) (by simp [sideN]) fun m' k1 k2 => ?_; simp (disch := omega) [-getElem?_pos]; exact hk _ k1 k2)
    · cases hz : t.lazy with
      | false =>
        simp only [e, hz] at oT2 add hk
        simp (disch := omega) [-getElem?_pos, splice, oB, oT2, F82, e, hz]
        refine drawT_J (fun e' m' => K (e' 4) m') ?_ fun e' m' hJ => by simp; exact hJ
        simp (disch := omega) [-getElem?_pos, splice, oB, oT2, F82, e, hz]
        refine ⟨⟨⟨?_, ?_⟩, ?_⟩, ?_, ?_⟩ <;> (refine add (j := 2) (by omega) (by simp [sideN]) fun m' k1 k2 => ?_; simp (disch := omega) [-getElem?_pos]; exact hk _ k1 k2)
      | true =>
        simp only [e, hz] at oT2 add hk
        simp (disch := omega) [-getElem?_pos, splice, oB, oT2, F82, e, hz]
        refine drawT_J (fun e' m' => K (e' 4) m') ?_ fun e' m' hJ => by simp; exact hJ
        simp (disch := omega) [-getElem?_pos, splice, oB, oT2, F82, e, hz]
        refine ⟨⟨⟨?_, ?_⟩, ?_⟩, ?_, ?_⟩ <;> (refine add (j := 3) (by omega) (by simp [sideN]) fun m' k1 k2 => ?_; simp (disch := omega) [-getElem?_pos]; exact hk _ k1 k2)
    · cases hz : t.lazy with
      | false =>
        simp only [e, hz] at oT2 add hk
        simp (disch := omega) [-getElem?_pos, splice, oB, oT2, F82, e, hz]
        refine drawT_J (fun e' m' => K (e' 4) m') ?_ fun e' m' hJ => by simp; exact hJ
        simp (disch := omega) [-getElem?_pos, splice, oB, oT2, F82, e, hz]
        refine ⟨⟨⟨?_, ?_⟩, ?_⟩, ?_, ?_⟩ <;> (refine add (j := 4) (by omega) (by simp [sideN]) fun m' k1 k2 => ?_; simp (disch := omega) [-getElem?_pos]; exact hk _ k1 k2)
      | true =>
        simp only [e, hz] at oT2 add hk
        simp (disch := omega) [-getElem?_pos, splice, oB, oT2, F82, e, hz]
        refine drawT_J (fun e' m' => K (e' 4) m') ?_ fun e' m' hJ => by simp; exact hJ
        simp (disch := omega) [-getElem?_pos, splice, oB, oT2, F82, e, hz]
        refine ⟨⟨⟨?_, ?_⟩, ?_⟩, ?_, ?_⟩ <;> (refine add (j := 5) (by omega) (by simp [sideN]) fun m' k1 k2 => ?_; simp (disch := omega) [-getElem?_pos]; exact hk _ k1 k2)
end
set_option maxHeartbeats 16000000
/-- No timer is in two queues. -/
def Uni (Q : Nat → List Tmr) : Prop := ∀ i j k, j < 6 → k < 6 → hasT (Q j) i = true → hasT (Q k) i = true → j = k
section
variable {m m' : Mem} {a : BA} {Q : Nat → List Tmr}
theorem drop87 {qa : QA} {l : List Tmr} (h : Que m qa l) {ic tc oc : Nat} {i ck sd : Int} {t : Tmr} {v : Bool} (o1 : m.obj ic = some (.row 1 [[.int .i64 i]] true)) (o2 : m.obj tc = some (.row 5 [t.cs] true)) (o3 : m.obj oc = some (.row 1 [[.bool v]] true))
    (l1 : ic < m.next) (l2 : tc < m.next) (l3 : oc < m.next) (n1 : ic ∉ qa.all) (n2 : tc ∉ qa.all) (n3 : oc ∉ qa.all) (n4 : tc ≠ oc) {K : KV}
    (hk : ∀ M, Que M qa (dropT l i) → Stp m M qa.all qa.all → M.obj ic = some (.row 1 [[.int .i64 i]] true) → K (.bool (!hasT l i)) ((M.upd tc (some (.row 5 [(getT l i).cs] true))).upd oc (some (.row 1 [[.bool (hasT l i)]] true)))) :
    ACalls Tryz.prog 87 ([.int .i64 ck, .int .i64 sd, .ptr (some (qa.o, 0, 0))] ++ [.ptr (some (ic, 0, 0)), .ptr (some (tc, 0, 0)), .ptr (some (oc, 0, 0))]) m K := by
  refine run_on xB hm c87 (by simp) fun hf => ?_
  simp (disch := omega) [-getElem?_pos, b87, o1]
  refine drop88 h fun M q s => ?_
  have o1' := (s.obj ic l1 n1).trans o1
  have o2' := (s.obj tc l2 n2).trans o2
  have o3' := (s.obj oc l3 n3).trans o3
  unfold Tmr.cs at o2'
  simp (disch := omega) [-getElem?_pos, o1', o2', o3', splice, Tmr.cs, n4.symm]
  exact hk M q s o1'
theorem bcancel54 (h : Bas m a Q) {i : Int} (hu : Uni Q) {K : KV} (hk : ∀ v m', Bas m' a (fun j => dropT (Q j) i) → Stp m m' a.all a.all → K v m') : ACalls Tryz.prog 54 [.ptr (some (a.o, 0, 0)), .int .i64 i] m K := by
  refine run_on xB hm c54 (by simp) fun hf => ?_
  simp (disch := omega) [-getElem?_pos, b54, splice]
  obtain ⟨M1, hM1⟩ : ∃ M1, (((m.new (.row 1 [[.int .i64 i]] true)).new (.row 5 [[.int .i64 0, .int .i64 0, .int .i64 0, .int .i64 0, .bool false]] true)).new (.row 5 [[.int .i64 0, .int .i64 0, .int .i64 0, .int .i64 0, .bool false]] true)).new (.row 1 [[.bool false]] true) = M1 := ⟨_, rfl⟩
  have g1 : m.Grew M1 := hM1 ▸ (((Mem.Grew.new _ _).trans (Mem.Grew.new _ _)).trans (Mem.Grew.new _ _)).trans (Mem.Grew.new _ _)
  have o1 : M1.obj m.next = some (.row 1 [[.int .i64 i]] true) := by
    rw [← hM1]; simp
    rw [if_neg (by omega), if_neg (by omega)]
  have o0 : M1.obj (m.next + 1) = some (.row 5 [Tmr.zero.cs] true) := by rw [← hM1]; simp [Tmr.zero, Tmr.cs]
  have o2 : M1.obj (m.next + 1 + 1) = some (.row 5 [Tmr.zero.cs] true) := by rw [← hM1]; simp [Tmr.zero, Tmr.cs]
  have o3 : M1.obj (m.next + 1 + 1 + 1) = some (.row 1 [[.bool false]] true) := by rw [← hM1]; simp
  have hn1 : M1.next = m.next + 1 + 1 + 1 + 1 := by rw [← hM1]; simp
  rw [hM1]
  have hl := h.lts
  have nin : ∀ j, j < 6 → ∀ r, m.next ≤ r → r ∉ (a.q j).all := fun j hj r hr q => by have := hl r (BA.mem.2 (.inr ⟨j, hj, q⟩)); omega
  refine each67 (pq := fun j => (a.q j).o) (fun j M => Bas M a Q ∧ Stp m M a.all a.all ∧ M1.next ≤ M.next ∧ M.obj m.next = some (.row 1 [[.int .i64 i]] true) ∧ M.obj (m.next + 1) = some (.row 5 [Tmr.zero.cs] true) ∧ (∃ t : Tmr, M.obj (m.next + 1 + 1) = some (.row 5 [t.cs] true)) ∧ (∃ v, M.obj (m.next + 1 + 1 + 1) = some (.row 1 [[.bool v]] true)) ∧ ∀ k, k < j → hasT (Q k) i = false)
    (fun M => Bas M a (fun j => dropT (Q j) i) ∧ Stp m M a.all a.all ∧ M1.next ≤ M.next ∧ M.obj (m.next + 1) = some (.row 5 [Tmr.zero.cs] true) ∧ (∃ t : Tmr, M.obj (m.next + 1 + 1) = some (.row 5 [t.cs] true)) ∧ (∃ v, M.obj (m.next + 1 + 1 + 1) = some (.row 1 [[.bool v]] true)))
    ⟨h.grow g1, Stp.grow g1 _, Nat.le_refl _, o1, o0, ⟨_, o2⟩, ⟨_, o3⟩, fun k hk => by omega⟩ (fun j M hI => hI.1.ob) (fun j M hj ⟨i1, i2, i3, i4, i40, ⟨t, i5⟩, ⟨v, i6⟩, i7⟩ K k1 k2 => ?_) fun M hM => ?_
  · refine drop87 (i1.q j hj) i4 i5 i6 (by omega) (by omega) (by omega) (nin j hj _ (by omega)) (nin j hj _ (by omega)) (nin j hj _ (by omega)) (by omega) fun M2 q2 s2 o4 => ?_
    have hn2 := s2.next
    obtain ⟨b1, b2⟩ := i1.set hj q2 s2
    have b3 : ∀ o o', Bas ((M2.upd (m.next + 1 + 1) o).upd (m.next + 1 + 1 + 1) o') a (upQ Q j (dropT (Q j) i)) := fun o o' => b1.keep (by simp) fun p hp => by have := hl p hp; rw [updO _ (by omega), updO _ (by omega)]
    have b4 : ∀ o o', Stp m ((M2.upd (m.next + 1 + 1) o).upd (m.next + 1 + 1 + 1) o') a.all a.all := fun o o' => Stp.updNew (Stp.updNew (i2.trans b2) (by omega) _) (by omega) _
    have o5 := (s2.obj (m.next + 1) (by omega) (nin j hj _ (by omega))).trans i40
    cases hh : hasT (Q j) i with
    | false =>
      have e1 : dropT (Q j) i = Q j := dropT_not (hasT_false hh)
      rw [e1] at b3
      refine k1 _ ⟨(b3 _ _).ext fun k hk => by unfold upQ; split; next e => rw [e]
                                               rfl, b4 _ _, by simp; omega, ?_, ?_, ⟨getT (Q j) i, ?_⟩, ⟨false, ?_⟩, fun k hk => ?_⟩
      · rw [updO _ (by omega), updO _ (by omega)]; exact o4
      · rw [updO _ (by omega), updO _ (by omega)]; exact o5
      · rw [updO _ (by omega)]; simp
      · simp
      · by_cases e : k = j
        · rw [e]; exact hh
        · exact i7 k (by omega)
    | true =>
      refine k2 _ ⟨(b3 _ _).ext fun k hk => ?_, b4 _ _, by simp; omega, ?_, ⟨getT (Q j) i, ?_⟩, ⟨true, ?_⟩⟩
      · unfold upQ
        split
        · next e => rw [e]
        · next e =>
          refine dropT_not (hasT_false ?_)
          cases hkk : hasT (Q k) i with
          | false => rfl
          | true => exact absurd (hu i k j hk hj hkk hh) e
      · rw [updO _ (by omega), updO _ (by omega)]; exact o5
      · rw [updO _ (by omega)]; simp
      · simp
  · have fin : Bas M a (fun j => dropT (Q j) i) ∧ Stp m M a.all a.all ∧ M1.next ≤ M.next ∧ M.obj (m.next + 1) = some (.row 5 [Tmr.zero.cs] true) ∧ (∃ t : Tmr, M.obj (m.next + 1 + 1) = some (.row 5 [t.cs] true)) ∧ (∃ v, M.obj (m.next + 1 + 1 + 1) = some (.row 1 [[.bool v]] true)) := by
      rcases hM with ⟨i1, i2, i3, i4, i40, i5, i6, i7⟩ | h
      · exact ⟨i1.ext fun k hk => dropT_not (hasT_false (i7 k hk)), i2, i3, i40, i5, i6⟩
      · exact h
    obtain ⟨f1, f2, f3, f4, ⟨t, f5⟩, ⟨v, f6⟩⟩ := fin
    unfold Tmr.cs at f5 f4
    simp (disch := omega) [-getElem?_pos, f4, f5, f6, splice, Tmr.zero]
    have hb : ∀ o, Bas (M.upd (m.next + 1) o) a (fun j => dropT (Q j) i) := fun o => f1.keep (by simp) fun p hp => by have := hl p hp; rw [updO _ (by omega)]
    have hs : ∀ o, Stp m (M.upd (m.next + 1) o) a.all a.all := fun o => Stp.updNew f2 (by omega) _
    refine drawT_one ⟨_, _, by simp (disch := omega) [-getElem?_pos, f4, f5, f6, splice, Tmr.zero]; exact ⟨rfl, rfl⟩, ?_⟩
    simp (disch := omega) [-getElem?_pos, splice]
    exact hk _ _ (hb _) (hs _)
end
set_option maxHeartbeats 16000000
abbrev t3 (f : Nat → Int) : List V := [.int .i64 (f 0), .int .i64 (f 1), .int .i64 (f 2)]
/-- Whether a queue counts: all do, or those that aren't lazy. -/
def nextStep (off : Nat → Int) (lazy : Bool) (f : Int) (j : Nat) (l : List Tmr) : Int :=
  match l with
  | [] => f
  | t :: _ => if lazy = true ∨ j % 2 = 0 then leastT f (subT t.soft (off (j / 2))) else f
def nextB (Q : Nat → List Tmr) (off : Nat → Int) (lazy : Bool) : Nat → Int
  | 0 => 4611686018427387903
  | j + 1 => nextStep off lazy (nextB Q off lazy j) j (Q j)
/-- Grown, and one object is another. -/
structure Only (m : Mem) (fc : Nat) (o : AM.Obj) (M : Mem) : Prop where
  next : m.next ≤ M.next
  obj : ∀ p, p < m.next → p ≠ fc → M.obj p = m.obj p
  at' : M.obj fc = some o
theorem Only.grew {m M : Mem} {fc : Nat} {o : AM.Obj} (h : Only m fc o M) {m0 : Mem} (hg : m0.Grew m) (hf : m0.next ≤ fc) : m0.Grew M :=
  ⟨Nat.le_trans hg.next h.next, fun p hp => (h.obj p (by have := hg.next; omega) (by omega)).trans (hg.obj p hp)⟩
section
variable {m m' : Mem} {a : BA} {Q : Nat → List Tmr}
theorem next112 {qa : QA} {l : List Tmr} (h : Que m qa l) {lc fc oc ck sd : Nat} {off : Nat → Int} {lazy : Bool} {f : Int} (hck : ck < 3) (hsd : sd < 2) (o1 : m.obj lc = some (.row 1 [[.bool lazy]] true)) (o2 : m.obj fc = some (.row 1 [[.int .i64 f]] true)) (o3 : m.obj oc = some (.row 3 [t3 off] true))
    (l1 : lc < m.next) (l2 : fc < m.next) (l3 : oc < m.next) {K : KV}
    (hk : ∀ M, Only m fc (.row 1 [[.int .i64 (nextStep off lazy f (2 * ck + sd) l)]] true) M → K (.bool true) M) :
    ACalls Tryz.prog 112 ([.int .i64 ck, .int .i64 sd, .ptr (some (qa.o, 0, 0))] ++ [.ptr (some (lc, 0, 0)), .ptr (some (fc, 0, 0)), .ptr (some (oc, 0, 0))]) m K := by
  refine run_on xB hm c112 (by simp) fun hf => ?_
  simp (disch := omega) [-getElem?_pos, b112]
  refine first113 h fun M g => ?_
  have hn := g.next
  have o1' := (g.obj lc l1).trans o1
  have o2' := (g.obj fc l2).trans o2
  have o3' := (g.obj oc l3).trans o3
  have e1 : (2 * ck + sd) % 2 = sd := by omega
  have e2 : (2 * ck + sd) / 2 = ck := by omega
  cases l with
  | nil =>
    simp (disch := omega) [-getElem?_pos, splice, Tmr.zero, Tmr.cs]
    exact hk _ ⟨by simp; omega, fun p h1 h2 => ((Mem.Grew.new M _).obj p (by omega)).trans (g.obj p h1), ((Mem.Grew.new M _).obj fc (by omega)).trans o2'⟩
  | cons t l =>
    have gN := Mem.Grew.new M (.row 5 [t.cs] true)
    unfold nextStep at hk
    rw [e1, e2] at hk
    dsimp only at hk
    by_cases c : lazy = true ∨ sd = 0
    · rw [if_pos c] at hk
      have hz : lazy = true ∨ lazy = false ∧ sd = 0 := by
        cases lazy with
        | true => exact .inl rfl
        | false => exact .inr ⟨rfl, c.resolve_left (by simp)⟩
      have hc3 : ck = 0 ∨ ck = 1 ∨ ck = 2 := by omega
      have fin : ∀ (x y : AM.Obj), Only m fc (.row 1 [[.int .i64 (leastT f (subT t.soft (off ck)))]] true) (((M.new x).new y).upd fc (some (.row 1 [[.int .i64 (leastT f (subT t.soft (off ck)))]] true))) :=
        fun x y => ⟨by simp; omega, fun p h1 h2 => (updO _ h2).trans (((Mem.Grew.new _ y).obj p (by simp; omega)).trans (((Mem.Grew.new M x).obj p (by omega)).trans (g.obj p h1))), by simp⟩
      rcases hz with rfl | ⟨rfl, rfl⟩ <;> rcases hc3 with rfl | rfl | rfl <;>
      · simp (disch := omega) [-getElem?_pos, splice, Tmr.cs, o1', o2', F82]
        refine drawT_J (fun _ M' => Only m fc (.row 1 [[.int .i64 (leastT f (subT t.soft (off _)))]] true) M') ?_ fun e' M' hJ => by simp (disch := omega) [-getElem?_pos]; exact hk _ hJ
        simp (disch := omega) [-getElem?_pos, splice, Tmr.cs, o1', o2', o3', F82, F115]
        refine ⟨?_, ?_⟩ <;>
        · refine first114 (a := f) (b := subT t.soft (off _)) (rw := true) (by simp; rfl) ?_
          simp (disch := omega) [-getElem?_pos, splice, o2']
          exact fin _ _
    · rw [if_neg c] at hk
      have hz : lazy = false := by simpa using fun q => c (.inl q)
      have hs : sd = 1 := by omega
      subst hz; subst hs
      simp (disch := omega) [-getElem?_pos, splice, Tmr.cs, o1', F82]
      exact hk _ ⟨by simp; omega, fun p h1 h2 => ((Mem.Grew.new M _).obj p (by omega)).trans (g.obj p h1), ((Mem.Grew.new M _).obj fc (by omega)).trans o2'⟩
end
set_option maxHeartbeats 16000000
def dueStep (tm : Nat → Int) (lazy : Bool) (j : Nat) (l : List Tmr) : Bool :=
  match l with
  | [] => false
  | t :: _ => decide (j % 2 = sideN lazy) && isDue t (tm (j / 2))
def dueB (Q : Nat → List Tmr) (tm : Nat → Int) (lazy : Bool) : Bool := (List.range 6).any fun j => dueStep tm lazy j (Q j)
section
variable {m m' : Mem} {a : BA} {Q : Nat → List Tmr}
theorem bnext86 (h : Bas m a Q) {off : Nat → Int} {lazy : Bool} {K : KV} (hk : ∀ m', m.Grew m' → K (.int .i64 (nextB Q off lazy 6)) m') : ACalls Tryz.prog 86 [.ptr (some (a.o, 0, 0)), .agg (t3 off), .bool lazy] m K := by
  refine run_on xB hm c86 (by simp) fun hf => ?_
  simp (disch := omega) [-getElem?_pos, b86, splice]
  obtain ⟨M1, hM1⟩ : ∃ M1, ((m.new (.row 3 [t3 off] true)).new (.row 1 [[.bool lazy]] true)).new (.row 1 [[.int .i64 4611686018427387903]] true) = M1 := ⟨_, rfl⟩
  have g1 : m.Grew M1 := hM1 ▸ ((Mem.Grew.new _ _).trans (Mem.Grew.new _ _)).trans (Mem.Grew.new _ _)
  have o1 : M1.obj m.next = some (.row 3 [t3 off] true) := by
    rw [← hM1]; simp
    omega
  have o2 : M1.obj (m.next + 1) = some (.row 1 [[.bool lazy]] true) := by rw [← hM1]; simp
  have o3 : M1.obj (m.next + 1 + 1) = some (.row 1 [[.int .i64 4611686018427387903]] true) := by rw [← hM1]; simp
  have hn1 : M1.next = m.next + 1 + 1 + 1 := by rw [← hM1]; simp
  rw [hM1]
  refine each67 (pq := fun j => (a.q j).o) (fun j M => m.Grew M ∧ M1.next ≤ M.next ∧ M.obj m.next = some (.row 3 [t3 off] true) ∧ M.obj (m.next + 1) = some (.row 1 [[.bool lazy]] true) ∧ M.obj (m.next + 1 + 1) = some (.row 1 [[.int .i64 (nextB Q off lazy j)]] true))
    (fun M => False) ⟨g1, Nat.le_refl _, o1, o2, o3⟩ (fun j M hI => (h.grow hI.1).ob) (fun j M hj ⟨i1, i2, i3, i4, i5⟩ K k1 k2 => ?_) fun M hM => ?_
  · have hj2 : j / 2 < 3 := by omega
    refine next112 (ck := j / 2) (sd := j % 2) ((h.grow i1).q j hj) hj2 (by omega) i4 i5 i3 (by omega) (by omega) (by omega) fun M2 hO => ?_
    have e : 2 * (j / 2) + j % 2 = j := by omega
    have hat := hO.at'
    rw [e] at hat
    have hn2 := hO.next
    exact k1 _ ⟨hO.grew i1 (by omega), by omega, (hO.obj _ (by omega) (by omega)).trans i3, (hO.obj _ (by omega) (by omega)).trans i4, hat⟩
  · rcases hM with ⟨i1, i2, i3, i4, i5⟩ | h
    · simp (disch := omega) [-getElem?_pos, i5]
      exact hk _ i1
    · exact h.elim
theorem due119 {t : Tmr} {now : Int} {K : KV} (hk : ∀ M, m.Grew M → K (.bool (isDue t now)) M) : ACalls Tryz.prog 119 [.agg t.cs, .int .i64 now] m K := by
  refine run_on xB hm c119 (by simp) fun hf => ?_
  have g := Mem.Grew.new m (.row 5 [t.cs] true)
  unfold Tmr.cs at g ⊢
  unfold isDue at hk
  by_cases c : 4611686018427387903 ≤ t.soft
  · have e : decide (t.soft < 4611686018427387903) = false := decide_eq_false (by omega)
    rw [e, Bool.false_and] at hk
    simp (disch := omega) [-getElem?_pos, b119, F74, F75, c]
    exact hk _ g
  · have e : decide (t.soft < 4611686018427387903) = true := decide_eq_true (by omega)
    rw [e, Bool.true_and] at hk
    simp (disch := omega) [-getElem?_pos, b119, F74, F75, c]
    exact hk _ g
theorem due118 {qa : QA} {l : List Tmr} (h : Que m qa l) {lc fc oc ck sd : Nat} {tm : Nat → Int} {lazy v : Bool} (hck : ck < 3) (hsd : sd < 2) (o1 : m.obj lc = some (.row 1 [[.bool lazy]] true)) (o2 : m.obj fc = some (.row 1 [[.bool v]] true)) (o3 : m.obj oc = some (.row 3 [t3 tm] true))
    (l1 : lc < m.next) (l2 : fc < m.next) (l3 : oc < m.next) {K : KV}
    (hk : ∀ M, Only m fc (.row 1 [[.bool (dueStep tm lazy (2 * ck + sd) l)]] true) M → K (.bool (!dueStep tm lazy (2 * ck + sd) l)) M) :
    ACalls Tryz.prog 118 ([.int .i64 ck, .int .i64 sd, .ptr (some (qa.o, 0, 0))] ++ [.ptr (some (lc, 0, 0)), .ptr (some (oc, 0, 0)), .ptr (some (fc, 0, 0))]) m K := by
  refine run_on xB hm c118 (by simp) fun hf => ?_
  simp (disch := omega) [-getElem?_pos, b118]
  refine first113 h fun M g => ?_
  have hn := g.next
  have o1' := (g.obj lc l1).trans o1
  have o2' := (g.obj fc l2).trans o2
  have o3' := (g.obj oc l3).trans o3
  have e1 : (2 * ck + sd) % 2 = sd := by omega
  have e2 : (2 * ck + sd) / 2 = ck := by omega
  have fin : ∀ (x : AM.Obj) (v : Bool), Only m fc (.row 1 [[.bool v]] true) ((M.new x).upd fc (some (.row 1 [[.bool v]] true))) := fun x v => ⟨by simp; omega, fun p h1 h2 => (updO _ h2).trans (((Mem.Grew.new M x).obj p (by omega)).trans (g.obj p h1)), by simp⟩
  cases l with
  | nil =>
    simp (disch := omega) [-getElem?_pos, splice, Tmr.zero, Tmr.cs, o1', o2', o3']
    exact hk _ (fin _ _)
  | cons t l =>
    unfold dueStep at hk
    rw [e1, e2] at hk
    dsimp only at hk
    have hc3 : ck = 0 ∨ ck = 1 ∨ ck = 2 := by omega
    by_cases c : sd = sideN lazy
    · have hci : ((sd : Int) = if lazy = true then 1 else 0) := by rw [c]; cases lazy <;> rfl
      rw [decide_eq_true c, Bool.true_and] at hk
      rcases hc3 with rfl | rfl | rfl <;>
      · simp (disch := omega) [-getElem?_pos, splice, Tmr.cs, o1', o2', o3', F82, hci]
        refine due119 (t := t) fun M2 g2 => ?_
        have hn2 := g2.next
        simp only [new_next] at hn2
        have o2'' := (g2.obj fc (by simp; omega)).trans (((Mem.Grew.new M _).obj fc (by omega)).trans o2')
        simp (disch := omega) [-getElem?_pos, o2'', splice]
        exact hk _ ⟨by simp; omega, fun p h1 h2 => (updO _ h2).trans ((g2.obj p (by simp; omega)).trans (((Mem.Grew.new M _).obj p (by omega)).trans (g.obj p h1))), by simp⟩
    · have hci : ¬ ((sd : Int) = if lazy = true then 1 else 0) := by
        intro q; apply c; cases lazy <;> simp [sideN] at q ⊢ <;> omega
      rw [decide_eq_false c, Bool.false_and] at hk
      simp (disch := omega) [-getElem?_pos, splice, Tmr.cs, o1', o2', o3', F82, hci]
      exact hk _ (fin _ _)
theorem bdue91 (h : Bas m a Q) {tm : Nat → Int} {lazy : Bool} {K : KV} (hk : ∀ m', m.Grew m' → K (.bool (dueB Q tm lazy)) m') : ACalls Tryz.prog 91 [.ptr (some (a.o, 0, 0)), .agg (t3 tm), .bool lazy] m K := by
  refine run_on xB hm c91 (by simp) fun hf => ?_
  simp (disch := omega) [-getElem?_pos, b91, splice]
  obtain ⟨M1, hM1⟩ : ∃ M1, ((m.new (.row 3 [t3 tm] true)).new (.row 1 [[.bool lazy]] true)).new (.row 1 [[.bool false]] true) = M1 := ⟨_, rfl⟩
  have g1 : m.Grew M1 := hM1 ▸ ((Mem.Grew.new _ _).trans (Mem.Grew.new _ _)).trans (Mem.Grew.new _ _)
  have o1 : M1.obj m.next = some (.row 3 [t3 tm] true) := by
    rw [← hM1]; simp
    omega
  have o2 : M1.obj (m.next + 1) = some (.row 1 [[.bool lazy]] true) := by rw [← hM1]; simp
  have o3 : M1.obj (m.next + 1 + 1) = some (.row 1 [[.bool false]] true) := by rw [← hM1]; simp
  have hn1 : M1.next = m.next + 1 + 1 + 1 := by rw [← hM1]; simp
  rw [hM1]
  refine each67 (pq := fun j => (a.q j).o) (fun j M => m.Grew M ∧ M1.next ≤ M.next ∧ M.obj m.next = some (.row 3 [t3 tm] true) ∧ M.obj (m.next + 1) = some (.row 1 [[.bool lazy]] true) ∧ M.obj (m.next + 1 + 1) = some (.row 1 [[.bool false]] true) ∧ ∀ k, k < j → dueStep tm lazy k (Q k) = false)
    (fun M => m.Grew M ∧ M.obj (m.next + 1 + 1) = some (.row 1 [[.bool true]] true) ∧ dueB Q tm lazy = true) ⟨g1, Nat.le_refl _, o1, o2, o3, fun k hk => by omega⟩ (fun j M hI => (h.grow hI.1).ob) (fun j M hj ⟨i1, i2, i3, i4, i5, i6⟩ K k1 k2 => ?_) fun M hM => ?_
  · have hj2 : j / 2 < 3 := by omega
    refine due118 (ck := j / 2) (sd := j % 2) ((h.grow i1).q j hj) hj2 (by omega) i4 i5 i3 (by omega) (by omega) (by omega) fun M2 hO => ?_
    have e : 2 * (j / 2) + j % 2 = j := by omega
    have hat := hO.at'
    rw [e] at hat ⊢
    have hn2 := hO.next
    cases hh : dueStep tm lazy j (Q j) with
    | false =>
      rw [hh] at hat
      refine k1 _ ⟨hO.grew i1 (by omega), by omega, (hO.obj _ (by omega) (by omega)).trans i3, (hO.obj _ (by omega) (by omega)).trans i4, hat, fun k hk => ?_⟩
      by_cases e : k = j
      · rw [e]; exact hh
      · exact i6 k (by omega)
    | true =>
      rw [hh] at hat
      exact k2 _ ⟨hO.grew i1 (by omega), hat, by unfold dueB; rw [List.any_eq_true]; exact ⟨j, List.mem_range.2 hj, hh⟩⟩
  · rcases hM with ⟨i1, i2, i3, i4, i5, i6⟩ | ⟨i1, i2, i3⟩
    · have : dueB Q tm lazy = false := by
        unfold dueB
        rw [List.any_eq_false]
        intro j hj; simpa using i6 j (List.mem_range.1 hj)
      rw [this] at hk
      simp (disch := omega) [-getElem?_pos, i5]
      exact hk _ i1
    · rw [i3] at hk
      simp (disch := omega) [-getElem?_pos, i2]
      exact hk _ i1
end
set_option maxHeartbeats 16000000
/-- What is due, ahead; and the rest. -/
def expL (l : List Tmr) (now : Int) : List Tmr := l.takeWhile fun t => isDue t now
def restL (l : List Tmr) (now : Int) : List Tmr := l.dropWhile fun t => isDue t now
def expS (tm : Nat → Int) (lazy : Bool) (j : Nat) (l : List Tmr) : List Tmr := if j % 2 = sideN lazy then expL l (tm (j / 2)) else []
def restS (tm : Nat → Int) (lazy : Bool) (j : Nat) (l : List Tmr) : List Tmr := if j % 2 = sideN lazy then restL l (tm (j / 2)) else l
theorem due_exp (l : List Tmr) (now : Int) : match dueL l now with
    | none => expL l now = [] ∧ restL l now = l
    | some (t, r) => expL l now = t :: expL r now ∧ restL l now = restL r now ∧ l = t :: r := by
  cases l with
  | nil => exact ⟨rfl, rfl⟩
  | cons t r =>
    unfold dueL
    cases h : isDue t now with
    | false => simp [expL, restL, h]
    | true => simp [expL, restL, h]
theorem due_none {l : List Tmr} {now : Int} (h : dueL l now = none) : expL l now = [] ∧ restL l now = l := by
  have := due_exp l now; rw [h] at this; exact this
theorem due_some {l : List Tmr} {now : Int} {t : Tmr} {r : List Tmr} (h : dueL l now = some (t, r)) : expL l now = t :: expL r now ∧ restL l now = restL r now ∧ l = t :: r := by
  have := due_exp l now; rw [h] at this; exact this
theorem iaddrA3 {m : Mem} {oc : Nat} {tm : Nat → Int} (o : m.obj oc = some (.row 3 [t3 tm] true)) {c : Nat} (hc : c < 3) : (t3 tm)[c]? = some (.int .i64 (tm c)) := by
  have : c = 0 ∨ c = 1 ∨ c = 2 := by omega
  rcases this with rfl | rfl | rfl <;> rfl
/-- What a queue's expiring leaves as it is. -/
def Sfe (n0 : Nat) (qa : QA) (lc tc p : Nat) : Prop := p < n0 ∧ p ∉ qa.all ∨ p = lc ∨ p = tc
section
variable {m m' : Mem} {a : BA} {Q : Nat → List Tmr}
theorem exp136 {qa : QA} {l out : List Tmr} (h : Que m qa l) {n0 lc oc tc ck sd : Nat} {tm : Nat → Int} {lazy : Bool} {v : V} (hck : ck < 3) (hsd : sd < 2) (o1 : m.obj lc = some (.row 1 [[.bool lazy]] true)) (o2 : m.obj oc = some (.row 1 [[v]] true)) (o3 : m.obj tc = some (.row 3 [t3 tm] true))
    (l1 : lc < m.next) (l2 : oc < m.next) (l3 : tc < m.next) (g1 : n0 ≤ lc) (g2 : n0 ≤ oc) (g3 : n0 ≤ tc) (ne1 : lc ≠ oc) (ne2 : tc ≠ oc) (hq : ∀ p ∈ qa.all, p < n0) (hv : Own n0 m 5 v (out.map Tmr.cs)) (a1 : v.addr ≠ some lc) (a2 : v.addr ≠ some oc) (a3 : v.addr ≠ some tc) (hlen : l.length + out.length ≤ 1000) {K : KV}
    (hk : ∀ M v', Que M qa (restS tm lazy (2 * ck + sd) l) → m.next ≤ M.next → (∀ p, Sfe n0 qa lc tc p → M.obj p = m.obj p) → M.obj oc = some (.row 1 [[v']] true) → Own n0 M 5 v' ((out ++ expS tm lazy (2 * ck + sd) l).map Tmr.cs) →
      v'.addr ≠ some lc → v'.addr ≠ some oc → v'.addr ≠ some tc → K (.bool true) M) :
    ACalls Tryz.prog 136 ([.int .i64 ck, .int .i64 sd, .ptr (some (qa.o, 0, 0))] ++ [.ptr (some (lc, 0, 0)), .ptr (some (tc, 0, 0)), .ptr (some (oc, 0, 0))]) m K := by
  refine run_on xB hm c136 (by simp) fun hf => ?_
  simp (disch := omega) [-getElem?_pos, b136]
  have e1 : (2 * ck + sd) % 2 = sd := by omega
  have e2 : (2 * ck + sd) / 2 = ck := by omega
  unfold restS expS at hk
  rw [e1, e2] at hk
  have slc : Sfe n0 qa lc tc lc := .inr (.inl rfl)
  have stc : Sfe n0 qa lc tc tc := .inr (.inr rfl)
  have soc : ∀ p, Sfe n0 qa lc tc p → p ≠ oc := fun p hp => by rcases hp with hp | hp | hp <;> omega
  have slt : ∀ p, Sfe n0 qa lc tc p → p < m.next := fun p hp => by rcases hp with hp | hp | hp <;> omega
  have sqa : ∀ p, Sfe n0 qa lc tc p → p ∉ qa.all := fun p hp q => by
    have := hq p q
    rcases hp with hp | hp | hp
    · exact hp.2 q
    · omega
    · omega
  have hoc : oc ∉ qa.all := fun q => by have := hq oc q; omega
  refine exec_loopU (σ := List Tmr × List Tmr × V × Mem) (fun _ => [(0, .int .i64 ck), (1, .int .i64 sd), (2, .ptr (some (qa.o, 0, 0))), (3, .ptr (some (lc, 0, 0))), (4, .ptr (some (tc, 0, 0))), (5, .ptr (some (oc, 0, 0)))]) (fun (_, _, _, M) => M)
    (fun (r, o, w, M) => Que M qa r ∧ m.next ≤ M.next ∧ (∀ p, Sfe n0 qa lc tc p → M.obj p = m.obj p) ∧ M.obj oc = some (.row 1 [[w]] true) ∧ Own n0 M 5 w ((out ++ o).map Tmr.cs) ∧ (w.addr ≠ some lc ∧ w.addr ≠ some oc ∧ w.addr ≠ some tc) ∧
      r.length + o.length ≤ l.length ∧ (if sd = sideN lazy then expL l (tm ck) = o ++ expL r (tm ck) ∧ restL l (tm ck) = restL r (tm ck) else o = [] ∧ r = l)) (fun (r, _, _, _) => r.length) (l, [], v, m) rfl
    (by dsimp only; refine ⟨h, Nat.le_refl _, fun _ _ => rfl, o2, by simpa using hv, ⟨a1, a2, a3⟩, by simp, ?_⟩; split <;> simp) (by simp) ?_
  intro (r, o, w, M) ⟨i1, i2, i3, i4, i5, ⟨i6, i7, i8⟩, i9, i10⟩
  have o1' := (i3 lc slc).trans o1
  have o3' := (i3 tc stc).trans o3
  by_cases c : sd = sideN lazy
  · rw [if_pos c] at i10 hk
    rw [if_pos c] at hk
    have hc3 : ck = 0 ∨ ck = 1 ∨ ck = 2 := by omega
    have own : ∀ {M2 : Mem}, Stp M M2 qa.all qa.all → Own n0 M2 5 w ((out ++ o).map Tmr.cs) := fun s2 => i5.keep s2.next fun p hp h2 => s2.obj p h2 fun q => by have := hq p q; omega
    obtain rfl := c
    cases lazy <;> rcases hc3 with rfl | rfl | rfl <;>
    · simp (disch := omega) [-getElem?_pos, o1', o3', F82, sideN]
      refine due137 i1 (fun hd M2 q2 s2 => ?_) fun t r' hd M2 q2 s2 => ?_
      · have hde := due_none hd
        have hn2 := s2.next
        have gN := Mem.Grew.new M2 (.row 5 [[.int .i64 0, .int .i64 0, .int .i64 0, .int .i64 0, .bool false]] true)
        simp (disch := omega) [-getElem?_pos, splice, Tmr.cs, Tmr.zero]
        refine hk _ w ?_ (by simp; omega) (fun p hp => (gN.obj p (by have := slt p hp; omega)).trans ((s2.obj p (by have := slt p hp; omega) (sqa p hp)).trans (i3 p hp))) ((gN.obj oc (by omega)).trans ((s2.obj oc (by omega) hoc).trans i4)) ?_ i6 i7 i8
        · rw [i10.2, hde.2]; exact q2.grow gN
        · rw [i10.1, hde.1, List.append_nil]; exact (own s2).grow gN
      · obtain ⟨d1, d2, d3⟩ := due_some hd
        have hn2 := s2.next
        have gN := (Mem.Grew.new M2 (.row 5 [t.cs] true)).trans (Mem.Grew.new _ (.row 5 [t.cs] true))
        have oc2 := (s2.obj oc (by omega) hoc).trans i4
        have own2 := own s2
        have hLn : ((out ++ o).map Tmr.cs).length ≤ 999 := by
          rw [d3] at i9
          simp only [List.length_map, List.length_append, List.length_cons] at i9 ⊢
          omega
        simp (disch := omega) [-getElem?_pos, splice, Tmr.cs, oc2, eltsOf, Mem.elts]
        refine appendX_own3 own2 gN (by omega) (by simp) (by simp only [List.length_cons, List.length_nil]; omega) (by simp only [List.length_cons, List.length_nil]; omega) fun w' M3 u1 u2 u3 u4 => ?_
        have hn3 : M3.next = M2.next + 1 + 1 + 1 := by rw [u3]; simp
        have u2' : ∀ p, p < M2.next → (p < n0 ∨ w.addr ≠ some p) → M3.obj p = M2.obj p := fun p hp hc => (u2 p (by simp; omega) (by rcases hc with hc | hc; exact .inl hc; exact .inr (.inr hc))).trans (gN.obj p hp)
        have oc3 := (u2' oc (by omega) (.inr i7)).trans oc2
        have wcs : w'.cs = [w'] := u1.sl.cs
        have wok : w'.okc = true := u1.sl.okc
        simp (disch := omega) [-getElem?_pos, oc3, wcs, wok]
        refine again_mk (r', o ++ [t], w', _) ?_ (by show r'.length < r.length; rw [d3]; simp) (by simp [sideN]) rfl
        have u4' : ∀ p, p < M2.next → w'.addr ≠ some p := fun p hp e => by
          rw [u4] at e; simp at e; omega
        refine ⟨(q2.keep (m' := M3) (by omega) fun p hp => u2' p (q2.lt p hp) (.inl (hq p hp))).keep (by simp) fun p hp => updO _ (fun e => hoc (e ▸ hp)), by show m.next ≤ M3.next; omega, fun p hp => (updO _ (soc p hp)).trans ?_, by simp, ?_, ⟨u4' lc (by omega), u4' oc (by omega), u4' tc (by omega)⟩, ?_, ?_⟩
        · rw [u2' p (by have := slt p hp; omega) ?_, s2.obj p (by have := slt p hp; omega) (sqa p hp)]
          · exact i3 p hp
          · rcases hp with hp | rfl | rfl
            · exact .inl hp.1
            · exact .inr i6
            · exact .inr i8
        · refine own_upd ?_ (u4' oc (by omega)) _
          have eL : (out ++ (o ++ [t])).map Tmr.cs = (out ++ o).map Tmr.cs ++ [t.cs] := by simp
          rw [eL]; exact u1
        · rw [d3] at i9; simp at i9 ⊢; omega
        · exact ⟨by rw [i10.1, d1]; simp, by rw [i10.2, d2]⟩
  · rw [if_neg c] at i10 hk
    rw [if_neg c] at hk
    obtain ⟨rfl, rfl⟩ := i10
    have hci : ¬ ((sd : Int) = if lazy = true then 1 else 0) := by
      intro q; apply c; cases lazy <;> simp [sideN] at q ⊢ <;> omega
    simp (disch := omega) [-getElem?_pos, o1', o3', F82, hci]
    exact hk _ w i1 i2 i3 i4 i5 i6 i7 i8
end
set_option maxHeartbeats 16000000
def expB (Q : Nat → List Tmr) (tm : Nat → Int) (lazy : Bool) (n : Nat) : List Tmr := (List.range n).flatMap fun j => expS tm lazy j (Q j)
def restB (Q : Nat → List Tmr) (tm : Nat → Int) (lazy : Bool) (n : Nat) : Nat → List Tmr := fun j => if j < n then restS tm lazy j (Q j) else Q j
def allB (Q : Nat → List Tmr) (n : Nat) : List Tmr := (List.range n).flatMap Q
theorem expB_succ (Q : Nat → List Tmr) (tm : Nat → Int) (lazy : Bool) (n : Nat) : expB Q tm lazy (n + 1) = expB Q tm lazy n ++ expS tm lazy n (Q n) := by
  unfold expB; rw [List.range_succ, List.flatMap_append]; simp
theorem allB_succ (Q : Nat → List Tmr) (n : Nat) : allB Q (n + 1) = allB Q n ++ Q n := by
  unfold allB; rw [List.range_succ, List.flatMap_append]; simp
theorem restB_succ (Q : Nat → List Tmr) (tm : Nat → Int) (lazy : Bool) (n : Nat) : upQ (restB Q tm lazy n) n (restS tm lazy n (Q n)) = restB Q tm lazy (n + 1) := by
  funext k
  unfold upQ restB
  by_cases e : k = n
  · subst e; simp
  · rw [if_neg e]
    by_cases e2 : k < n
    · rw [if_pos e2, if_pos (by omega)]
    · rw [if_neg e2, if_neg (by omega)]
theorem expS_le (tm : Nat → Int) (lazy : Bool) (j : Nat) (l : List Tmr) : (expS tm lazy j l).length ≤ l.length := by
  unfold expS expL
  split
  · exact (List.takeWhile_sublist _).length_le
  · simp
theorem expB_le {Q : Nat → List Tmr} (tm : Nat → Int) (lazy : Bool) {n : Nat} (h : ∀ j, j < n → (Q j).length ≤ 64) : (expB Q tm lazy n).length ≤ 64 * n := by
  induction n with
  | zero => simp [expB]
  | succ n ih =>
    rw [expB_succ, List.length_append]
    have := ih fun j hj => h j (by omega)
    have h2 := expS_le tm lazy n (Q n)
    have h3 := h n (by omega)
    omega
theorem allB_le {Q : Nat → List Tmr} {n : Nat} (h : ∀ j, j < n → (Q j).length ≤ 64) : (allB Q n).length ≤ 64 * n := by
  induction n with
  | zero => simp [allB]
  | succ n ih =>
    rw [allB_succ, List.length_append]
    have := ih fun j hj => h j (by omega)
    have h3 := h n (by omega)
    omega
section
variable {m m' : Mem} {a : BA} {Q : Nat → List Tmr}
theorem bexp117 (h : Bas m a Q) {tm : Nat → Int} {lazy : Bool} (hl : ∀ j, j < 6 → (Q j).length ≤ 64) {K : KV} (hk : ∀ v M, Bas M a (restB Q tm lazy 6) → Stp m M a.all a.all → Own m.next M 5 v ((expB Q tm lazy 6).map Tmr.cs) → K v M) :
    ACalls Tryz.prog 117 [.ptr (some (a.o, 0, 0)), .agg (t3 tm), .bool lazy] m K := by
  refine run_on xB hm c117 (by simp) fun hf => ?_
  simp (disch := omega) [-getElem?_pos, b117, splice]
  obtain ⟨M1, hM1⟩ : ∃ M1, ((m.new (.row 3 [t3 tm] true)).new (.row 1 [[.bool lazy]] true)).new (.row 1 [[.sl none 0 (some 0)]] true) = M1 := ⟨_, rfl⟩
  have g1 : m.Grew M1 := hM1 ▸ ((Mem.Grew.new _ _).trans (Mem.Grew.new _ _)).trans (Mem.Grew.new _ _)
  have o1 : M1.obj m.next = some (.row 3 [t3 tm] true) := by
    rw [← hM1]; simp
    omega
  have o2 : M1.obj (m.next + 1) = some (.row 1 [[.bool lazy]] true) := by rw [← hM1]; simp
  have o3 : M1.obj (m.next + 1 + 1) = some (.row 1 [[.sl none 0 (some 0)]] true) := by rw [← hM1]; simp
  have hn1 : M1.next = m.next + 1 + 1 + 1 := by rw [← hM1]; simp
  rw [hM1]
  have hlt := h.lts
  have hb0 : restB Q tm lazy 0 = Q := by funext k; unfold restB; rw [if_neg (by omega)]
  refine each67 (pq := fun j => (a.q j).o) (fun j M => Bas M a (restB Q tm lazy j) ∧ Stp m M a.all a.all ∧ M1.next ≤ M.next ∧ M.obj m.next = some (.row 3 [t3 tm] true) ∧ M.obj (m.next + 1) = some (.row 1 [[.bool lazy]] true) ∧ ∃ v, M.obj (m.next + 1 + 1) = some (.row 1 [[v]] true) ∧ Own m.next M 5 v ((expB Q tm lazy j).map Tmr.cs) ∧ v.addr ≠ some (m.next + 1) ∧ v.addr ≠ some (m.next + 1 + 1) ∧ v.addr ≠ some m.next)
    (fun M => False) ⟨by rw [hb0]; exact h.grow g1, Stp.grow g1 _, Nat.le_refl _, o1, o2, _, o3, by simpa [expB] using Own.none _ _ _, by simp [V.addr], by simp [V.addr], by simp [V.addr]⟩ (fun j M hI => hI.1.ob) (fun j M hj ⟨i1, i2, i3, i4, i5, v, i6, i7, i8, i9, i10⟩ K k1 k2 => ?_) fun M hM => ?_
  · have hj2 : j / 2 < 3 := by omega
    have hQj : restB Q tm lazy j j = Q j := by unfold restB; rw [if_neg (by omega)]
    have hq := i1.q j hj
    rw [hQj] at hq
    have e : 2 * (j / 2) + j % 2 = j := by omega
    refine exp136 (ck := j / 2) (sd := j % 2) (n0 := m.next) (lc := m.next + 1) (oc := m.next + 1 + 1) (tc := m.next) hq hj2 (by omega) i5 i6 i4 (by omega) (by omega) (by omega) (by omega) (by omega) (by omega) (by omega) (by omega) (fun p hp => hlt p (BA.mem.2 (.inr ⟨j, hj, hp⟩))) i7 i8 i9 i10 ?_ fun M2 v' q2 n2 f2 oc2 own2 x1 x2 x3 => ?_
    · have := hl j hj
      have := expB_le tm lazy (Q := Q) (n := j) fun k hk => hl k (by omega)
      omega
    · rw [e] at q2 own2
      have fr : ∀ p, p < m.next → p ∉ (a.q j).all → M2.obj p = M.obj p := fun p hp hd => f2 p (.inl ⟨hp, hd⟩)
      have i2n := i2.next
      refine k1 _ ⟨?_, ⟨by omega, fun p hp hd => ?_, fun p hp => .inl hp⟩, by omega, (f2 _ (.inr (.inr rfl))).trans i4, (f2 _ (.inr (.inl rfl))).trans i5, v', oc2, by rw [expB_succ]; exact own2, x1, x2, x3⟩
      · rw [← restB_succ]
        refine ⟨by rw [fr a.o h.lt (h.no j hj)]; exact i1.ob, fun k hk => ?_, h.no, h.dj, by have := h.lt; omega⟩
        unfold upQ
        split
        · next e => rw [e]; exact q2
        · next e => exact (i1.q k hk).keep n2 fun p hp => fr p (hlt p (BA.mem.2 (.inr ⟨k, hk, hp⟩))) (h.dj k j hk hj e p hp)
      · exact (fr p hp fun q => hd (BA.mem.2 (.inr ⟨j, hj, q⟩))).trans (i2.obj p hp hd)
  · rcases hM with ⟨i1, i2, i3, i4, i5, v, i6, i7, _⟩ | h
    · have wcs : v.cs = [v] := i7.sl.cs
      have wok : v.okc = true := i7.sl.okc
      simp (disch := omega) [-getElem?_pos, i6, wcs, wok]
      exact hk _ _ i1 i2 i7
    · exact h.elim
/-- What is added to a slice of one's own. -/
structure Added (m : Mem) (n0 oc : Nat) (L : List Tmr) (M : Mem) (v : V) : Prop where
  next : m.next ≤ M.next
  obj : ∀ p, p < n0 → M.obj p = m.obj p
  at' : M.obj oc = some (.row 1 [[v]] true)
  own : Own n0 M 5 v (L.map Tmr.cs)
  ne : v.addr ≠ some oc
theorem elts_own {n0 : Nat} {m : Mem} {v : V} {es : List (List V)} (h : Own n0 m 5 v es) : eltsOf 5 m v = some es := by
  rcases h with ⟨rfl, rfl⟩ | ⟨q, rfl, h1, h2, h3, h4⟩
  · rfl
  · have : es.length ≠ 0 := fun e => h4 (List.length_eq_zero_iff.1 e)
    simp [eltsOf, Mem.elts, h3, this]
theorem all68 {qa : QA} {l out : List Tmr} (h : Que m qa l) (hl : l.length ≤ 64) {n0 oc : Nat} {ck sd : Int} {v : V} (o2 : m.obj oc = some (.row 1 [[v]] true)) (l2 : oc < m.next) (g2 : n0 ≤ oc) (hv : Own n0 m 5 v (out.map Tmr.cs)) (a2 : v.addr ≠ some oc) (hlen : out.length ≤ 900) {K : KV}
    (hk : ∀ M v', Added m n0 oc (out ++ l) M v' → K (.bool true) M) :
    ACalls Tryz.prog 68 ([.int .i64 ck, .int .i64 sd, .ptr (some (qa.o, 0, 0))] ++ [.ptr (some (oc, 0, 0))]) m K := by
  refine run_on xB hm c68 (by simp) fun hf => ?_
  have wcs : v.cs = [v] := hv.sl.cs
  have wok : v.okc = true := hv.sl.okc
  simp (disch := omega) [-getElem?_pos, b68, o2, wcs, wok]
  refine drawT_J (fun _ M' => ∃ v', Added m n0 oc (out ++ l) M' v') ?_ fun e' M' ⟨v', hJ⟩ => by simp (disch := omega) [-getElem?_pos]; exact hk _ v' hJ
  have app : ∀ (M : Mem) (w : V), m.Grew M → Own m.next M 5 w (l.map Tmr.cs) → ∀ {K1 : KV}, (∀ v' M2, M2.obj oc = some (.row 1 [[v]] true) → v'.cs = [v'] → v'.okc = true → Added m n0 oc (out ++ l) (M2.upd oc (some (.row 1 [[v']] true))) v' → K1 v' M2) → appendX 5 40 M v (l.map Tmr.cs) K1 := by
    intro M w g ow K1 hK
    have o2' := (g.obj oc l2).trans o2
    have hn := g.next
    by_cases e : l = []
    · subst e
      simp only [List.map_nil, appendX]
      have hg := hv.grow g
      have : ∀ {K2 : KV}, K2 v M → appendX 5 40 M v [] K2 := by
        intro K2 hK2
        rcases hv with ⟨rfl, _⟩ | ⟨q, rfl, _⟩
        · simp only [appendX, if_true]; exact hK2
        · simp only [appendX, if_true]; exact hK2
      refine this (hK v M o2' wcs wok ⟨by simp; omega, fun p hp => (updO _ (by omega)).trans (g.obj p (by omega)), by simp, own_upd (by simpa using hg) a2 _, a2⟩)
    · refine appendX_own3 hv g (by omega) (by simpa using e) (by simp; omega) (by simp; omega) fun v' M2 u1 u2 u3 u4 => ?_
      have u2' : ∀ p, p < m.next → (p < n0 ∨ v.addr ≠ some p) → M2.obj p = m.obj p := fun p hp hc => (u2 p (by omega) (by rcases hc with hc | hc; exact .inl hc; exact .inr (.inr hc))).trans (g.obj p hp)
      have ne : v'.addr ≠ some oc := by rw [u4]; simp; omega
      refine hK v' M2 ((u2' oc l2 (.inr a2)).trans o2) u1.sl.cs u1.sl.okc ⟨by simp; omega, fun p hp => (updO _ (by omega)).trans (u2' p (by omega) (.inl hp)), by simp, own_upd ?_ ne _, ne⟩
      rw [List.map_append]; exact u1
  simp (disch := omega) [-getElem?_pos, o2, wcs, wok]
  refine ⟨?_, ?_⟩
  · refine all69 h hl fun w M g ow => ?_
    have el := elts_own ow
    simp (disch := omega) [-getElem?_pos, el]
    refine app M w g ow fun v' M2 x1 x2 x3 x4 => ?_
    simp (disch := omega) [-getElem?_pos, x1, x2, x3]
    exact ⟨v', x4⟩
  · refine all69 h hl fun w M g ow => ?_
    have el := elts_own ow
    have o2' := (g.obj oc l2).trans o2
    simp (disch := omega) [-getElem?_pos, el, o2', wcs, wok]
    refine app M w g ow fun v' M2 x1 x2 x3 x4 => ?_
    simp (disch := omega) [-getElem?_pos, x1, x2, x3]
    exact ⟨v', x4⟩
theorem ball38 (h : Bas m a Q) (hl : ∀ j, j < 6 → (Q j).length ≤ 64) {K : KV} (hk : ∀ v M, m.Grew M → Own m.next M 5 v ((allB Q 6).map Tmr.cs) → K v M) : ACalls Tryz.prog 38 [.ptr (some (a.o, 0, 0))] m K := by
  refine run_on xB hm c38 (by simp) fun hf => ?_
  simp (disch := omega) [-getElem?_pos, b38, splice]
  obtain ⟨M1, hM1⟩ : ∃ M1, m.new (.row 1 [[.sl none 0 (some 0)]] true) = M1 := ⟨_, rfl⟩
  have g1 : m.Grew M1 := hM1 ▸ Mem.Grew.new _ _
  have o1 : M1.obj m.next = some (.row 1 [[.sl none 0 (some 0)]] true) := by rw [← hM1]; simp
  have hn1 : M1.next = m.next + 1 := by rw [← hM1]; simp
  rw [hM1]
  refine each67 (pq := fun j => (a.q j).o) (fun j M => m.Grew M ∧ M1.next ≤ M.next ∧ ∃ v, M.obj m.next = some (.row 1 [[v]] true) ∧ Own m.next M 5 v ((allB Q j).map Tmr.cs) ∧ v.addr ≠ some m.next)
    (fun M => False) ⟨g1, Nat.le_refl _, _, o1, by simpa [allB] using Own.none _ _ _, by simp [V.addr]⟩ (fun j M hI => (h.grow hI.1).ob) (fun j M hj ⟨i1, i2, v, i3, i4, i5⟩ K k1 k2 => ?_) fun M hM => ?_
  · refine all68 ((h.grow i1).q j hj) (hl j hj) (n0 := m.next) i3 (by omega) (Nat.le_refl _) i4 i5 ?_ fun M2 v' hA => ?_
    · have := allB_le (Q := Q) (n := j) fun k hk => hl k (by omega)
      omega
    · have hn2 := hA.next
      exact k1 _ ⟨⟨by omega, fun p hp => (hA.obj p hp).trans (i1.obj p hp)⟩, by omega, v', hA.at', by rw [allB_succ]; exact hA.own, hA.ne⟩
  · rcases hM with ⟨i1, i2, v, i3, i4, _⟩ | h
    · have wcs : v.cs = [v] := i4.sl.cs
      have wok : v.okc = true := i4.sl.okc
      simp (disch := omega) [-getElem?_pos, i3, wcs, wok]
      exact hk _ _ i1 i4
    · exact h.elim
end
set_option maxHeartbeats 16000000
def pcN (f : Nat → QA) (j k : Nat) : V := if k < j then .ptr (some ((f k).o, 0, 0)) else .ptr none
abbrev ncs (f : Nat → QA) (j : Nat) : List V := [pcN f j 0, pcN f j 1, pcN f j 2, pcN f j 3, pcN f j 4, pcN f j 5]
/-- So many queues are there. -/
structure Half (m : Mem) (r : Nat) (f : Nat → QA) (j : Nat) (M : Mem) : Prop where
  grew : m.Grew M
  lo : m.next ≤ r
  hi : r < M.next
  ob : M.obj r = some (.row 6 [ncs f j] true)
  q : ∀ k, k < j → Que M (f k) [] ∧ (∀ p ∈ (f k).all, m.next ≤ p ∧ p ≠ r) ∧ ∀ k', k' < k → ∀ p ∈ (f k).all, p ∉ (f k').all
def setF (f : Nat → QA) (j : Nat) (x : QA) : Nat → QA := fun k => if k = j then x else f k
theorem Half.more {m M M2 : Mem} {r : Nat} {f : Nat → QA} {j : Nat} (h : Half m r f j M) {x : QA} (g : M.Grew M2) (hx : ∀ p ∈ x.all, M.next ≤ p) (hq : Que M2 x []) {l : List V} (hl : l = ncs (setF f j x) (j + 1)) : Half m r (setF f j x) (j + 1) (M2.upd r (some (.row 6 [l] true))) := by
  have h1 := h.grew.next
  have h2 := g.next
  have h3 := h.hi
  refine ⟨(h.grew.trans g).upd h.lo _, h.lo, by simp; omega, by rw [hl]; simp, fun k hk => ?_⟩
  unfold setF
  by_cases e : k = j
  · rw [if_pos e]
    refine ⟨hq.keep (by simp) fun p hp => updO _ (by have := hx p hp; omega), fun p hp => by have := hx p hp; omega, fun k' hk' p hp => ?_⟩
    rw [if_neg (by omega)]
    intro q
    have := (h.q k' (by omega)).1.lt p q
    have := hx p hp
    omega
  · rw [if_neg e]
    obtain ⟨q1, q2, q3⟩ := h.q k (by omega)
    refine ⟨(q1.grow g).keep (by simp) fun p hp => updO _ (q2 p hp).2, q2, fun k' hk' p hp => ?_⟩
    rw [if_neg (by omega)]
    exact q3 k' hk' p hp
theorem half_bas {m M : Mem} {r : Nat} {f : Nat → QA} (h : Half m r f 6 M) : Bas M ⟨r, f⟩ (fun _ => []) ∧ ∀ p ∈ (BA.mk r f).all, m.next ≤ p := by
  refine ⟨⟨h.ob, fun j hj => (h.q j hj).1, fun j hj q => ((h.q j hj).2.1 r q).2 rfl, fun j k hj hk hne p hp q => ?_, h.hi⟩, fun p hp => ?_⟩
  · rcases Nat.lt_or_ge j k with e | e
    · exact (h.q k hk).2.2 j e p q hp
    · exact (h.q j hj).2.2 k (by omega) p hp q
  · rcases BA.mem.1 hp with rfl | ⟨j, hj, hp⟩
    · exact h.lo
    · exact ((h.q j hj).2.1 p hp).1
section
variable {m m' : Mem}
theorem bnew24 {K : KV} (hk : ∀ M a, m.Grew M → (∀ p ∈ a.all, m.next ≤ p) → Bas M a (fun _ => []) → K (.ptr (some (a.o, 0, 0))) M) : ACalls Tryz.prog 24 [] m K := by
  refine run_on xB hm c24 (by simp) fun hf => ?_
  simp (disch := omega) [-getElem?_pos, b24, splice]
  obtain ⟨M1, hM1⟩ : ∃ M1, m.new (.row 6 [[.ptr none, .ptr none, .ptr none, .ptr none, .ptr none, .ptr none]] true) = M1 := ⟨_, rfl⟩
  have g1 : m.Grew M1 := hM1 ▸ Mem.Grew.new _ _
  have o1 : M1.obj m.next = some (.row 6 [[.ptr none, .ptr none, .ptr none, .ptr none, .ptr none, .ptr none]] true) := by rw [← hM1]; simp
  have hn1 : M1.next = m.next + 1 := by rw [← hM1]; simp
  have H0 : Half m m.next (fun _ => ⟨0, 0, 0, 0, 0⟩) 0 M1 := ⟨g1, Nat.le_refl _, by omega, o1, fun k hk => absurd hk (by omega)⟩
  rw [hM1]
  refine exec_loopU (σ := Nat × (Nat → QA) × Mem) (fun (i, _, _) => [(6, .int .i64 i), (1, .ptr (some (m.next, 0, 0)))]) (fun (_, _, M) => M) (fun (i, f, M) => i ≤ 3 ∧ Half m m.next f (2 * i) M) (fun (i, _, _) => 3 - i) (0, _, M1) rfl ⟨by omega, H0⟩ (by simp) ?_
  intro (i, f, M) ⟨a1, a2⟩
  have hi : i = 0 ∨ i = 1 ∨ i = 2 ∨ i = 3 := by omega
  rcases hi with rfl | rfl | rfl | rfl
  · simp (disch := omega) [-getElem?_pos]
    refine exec_loopU (σ := Nat × (Nat → QA) × Mem) (fun (k, _, _) => [(9, .int .i64 k), (6, .int .i64 0), (2, .int .i64 0), (1, .ptr (some (m.next, 0, 0)))]) (fun (_, _, M) => M) (fun (k, f, M) => k ≤ 2 ∧ Half m m.next f (0 + k) M) (fun (k, _, _) => 2 - k) (0, f, M) rfl ⟨by omega, a2⟩ (by simp) ?_
    intro (k, f, M2) ⟨c1, c2⟩
    have hk2 : k = 0 ∨ k = 1 ∨ k = 2 := by omega
    rcases hk2 with rfl | rfl | rfl
    · simp (disch := omega) [-getElem?_pos]
      refine new50 fun M3 x g3 hx hq => ?_
      have ob3 := (g3.obj _ c2.hi).trans c2.ob
      simp (disch := omega) [-getElem?_pos, ob3, splice]
      refine again_mk (1, setF f 0 x, _) ⟨by omega, c2.more g3 hx hq ?_⟩ (by dsimp only; omega) (by simp) rfl
      simp [ncs, pcN, setF]
    · simp (disch := omega) [-getElem?_pos]
      refine new50 fun M3 x g3 hx hq => ?_
      have ob3 := (g3.obj _ c2.hi).trans c2.ob
      simp (disch := omega) [-getElem?_pos, ob3, splice]
      refine again_mk (2, setF f 1 x, _) ⟨by omega, c2.more g3 hx hq ?_⟩ (by dsimp only; omega) (by simp) rfl
      simp [ncs, pcN, setF]
    · simp (disch := omega) [-getElem?_pos]
      exact again_mk (1, f, M2) ⟨by omega, c2⟩ (by dsimp only; omega) (by simp) rfl
  · simp (disch := omega) [-getElem?_pos]
    refine exec_loopU (σ := Nat × (Nat → QA) × Mem) (fun (k, _, _) => [(9, .int .i64 k), (6, .int .i64 1), (2, .int .i64 1), (1, .ptr (some (m.next, 0, 0)))]) (fun (_, _, M) => M) (fun (k, f, M) => k ≤ 2 ∧ Half m m.next f (2 + k) M) (fun (k, _, _) => 2 - k) (0, f, M) rfl ⟨by omega, a2⟩ (by simp) ?_
    intro (k, f, M2) ⟨c1, c2⟩
    have hk2 : k = 0 ∨ k = 1 ∨ k = 2 := by omega
    rcases hk2 with rfl | rfl | rfl
    · simp (disch := omega) [-getElem?_pos]
      refine new50 fun M3 x g3 hx hq => ?_
      have ob3 := (g3.obj _ c2.hi).trans c2.ob
      simp (disch := omega) [-getElem?_pos, ob3, splice]
      refine again_mk (1, setF f 2 x, _) ⟨by omega, c2.more g3 hx hq ?_⟩ (by dsimp only; omega) (by simp) rfl
      simp [ncs, pcN, setF]
    · simp (disch := omega) [-getElem?_pos]
      refine new50 fun M3 x g3 hx hq => ?_
      have ob3 := (g3.obj _ c2.hi).trans c2.ob
      simp (disch := omega) [-getElem?_pos, ob3, splice]
      refine again_mk (2, setF f 3 x, _) ⟨by omega, c2.more g3 hx hq ?_⟩ (by dsimp only; omega) (by simp) rfl
      simp [ncs, pcN, setF]
    · simp (disch := omega) [-getElem?_pos]
      exact again_mk (2, f, M2) ⟨by omega, c2⟩ (by dsimp only; omega) (by simp) rfl
  · simp (disch := omega) [-getElem?_pos]
    refine exec_loopU (σ := Nat × (Nat → QA) × Mem) (fun (k, _, _) => [(9, .int .i64 k), (6, .int .i64 2), (2, .int .i64 2), (1, .ptr (some (m.next, 0, 0)))]) (fun (_, _, M) => M) (fun (k, f, M) => k ≤ 2 ∧ Half m m.next f (4 + k) M) (fun (k, _, _) => 2 - k) (0, f, M) rfl ⟨by omega, a2⟩ (by simp) ?_
    intro (k, f, M2) ⟨c1, c2⟩
    have hk2 : k = 0 ∨ k = 1 ∨ k = 2 := by omega
    rcases hk2 with rfl | rfl | rfl
    · simp (disch := omega) [-getElem?_pos]
      refine new50 fun M3 x g3 hx hq => ?_
      have ob3 := (g3.obj _ c2.hi).trans c2.ob
      simp (disch := omega) [-getElem?_pos, ob3, splice]
      refine again_mk (1, setF f 4 x, _) ⟨by omega, c2.more g3 hx hq ?_⟩ (by dsimp only; omega) (by simp) rfl
      simp [ncs, pcN, setF]
    · simp (disch := omega) [-getElem?_pos]
      refine new50 fun M3 x g3 hx hq => ?_
      have ob3 := (g3.obj _ c2.hi).trans c2.ob
      simp (disch := omega) [-getElem?_pos, ob3, splice]
      refine again_mk (2, setF f 5 x, _) ⟨by omega, c2.more g3 hx hq ?_⟩ (by dsimp only; omega) (by simp) rfl
      simp [ncs, pcN, setF]
    · simp (disch := omega) [-getElem?_pos]
      exact again_mk (3, f, M2) ⟨by omega, c2⟩ (by dsimp only; omega) (by simp) rfl
  · simp (disch := omega) [-getElem?_pos]
    obtain ⟨b1, b2⟩ := half_bas a2
    exact hk M _ a2.grew b2 b1
end
set_option maxHeartbeats 16000000
structure Dev where
  lo : Int
  hi : Int
  at' : Int
  armed : Bool
  latched : Bool
  off : Bool
def Dev.cs (D : Dev) : List V := [.int .i64 D.lo, .int .i64 D.hi, .int .i64 D.at', .bool D.armed, .bool D.latched, .bool D.off]
abbrev dvO (D : Dev) : AM.Obj := .row 6 [D.cs] true
def Dev.when (D : Dev) (now t : Int) : Int := btwT (addT now D.lo) t (addT now D.hi)
def Dev.pass (D : Dev) (now : Int) : Dev × Bool := if D.armed = true ∧ D.at' ≤ cl now then ({ D with armed := false, latched := true }, true) else (D, false)
def Dev.take (D : Dev) : Dev × Bool := if D.latched then ({ D with latched := false }, true) else (D, false)
/-- Armed, if that is sooner. -/
def Dev.sooner (D : Dev) (now t : Int) : Dev × Bool :=
  if D.off = true ∨ 4611686018427387903 ≤ t ∨ (D.armed = true ∧ D.at' ≤ D.when now t) then (D, false) else ({ D with at' := D.when now t, armed := true }, true)
section
variable {m : Mem} {r : Nat} {D : Dev}
def F109 : AFn
  | [.ptr (some (r, 0, 0))], m => match m.obj r with
    | some (.row 6 [[.int .i64 a, .int .i64 b, .int .i64 c, .bool d, .bool e, .bool f]] true) => some (.bool (!f), m)
    | _ => none
  | _, _ => none
theorem s109 : ASpec Tryz.prog 109 F109 := by
  intro args m r m' h
  unfold F109 at h; split at h
  case h_2 => cases h
  split at h
  case h_2 => cases h
  rename_i ho
  cases h
  refine run_on (ctx_nil _) hm c109 (by simp) fun hf => ?_
  simp [-getElem?_pos, b109, ho]
def F110 : AFn
  | [.ptr (some (r, 0, 0)), .int .i64 now, .int .i64 t], m => match m.obj r with
    | some (.row 6 [[.int .i64 a, .int .i64 b, .int .i64 c, .bool d, .bool e, .bool f]] true) => some (.int .i64 (btwT (addT now a) t (addT now b)), m)
    | _ => none
  | _, _ => none
theorem s110 : ASpec Tryz.prog 110 F110 := by
  intro args m r m' h
  unfold F110 at h; split at h
  case h_2 => cases h
  split at h
  case h_2 => cases h
  rename_i ho
  cases h
  refine run_on xB hm c110 (by simp) fun hf => ?_
  simp [-getElem?_pos, b110, ho, F72, F133]
  refine drawT_one ⟨_, _, by simp (disch := omega) [-getElem?_pos, ho, F72, F133]; exact ⟨rfl, rfl⟩, ?_⟩
  simp [-getElem?_pos]
abbrev LD : List (FuncId × AFn) := [(75, F75), (74, F74), (72, F72), (115, F115), (133, F133), (82, F82), (109, F109), (110, F110)]
theorem xD : CtxOk Tryz.prog (Ctx.of LD) := ctx_cons (ctx_cons (ctx_cons (ctx_cons (ctx_cons (ctx_cons (ctx_cons (ctx_cons (ctx_nil _) s110) s109) s82) s133) s115) s72) s74) s75
theorem dnew22 {lo hi : Int} (h1 : 0 ≤ lo) (h2 : lo ≤ hi) (h3 : 1 ≤ hi) (h4 : hi ≤ 1099511627776) {K : KV} (hk : K (.ptr (some (m.next, 0, 0))) (m.new (dvO ⟨lo, hi, 0, false, false, false⟩))) : ACalls Tryz.prog 22 [.int .i64 lo, .int .i64 hi] m K := by
  refine run_on xD hm c22 (by simp) fun hf => ?_
  simp (disch := omega) [-getElem?_pos, b22, splice]
  exact hk
theorem pass56 (o : m.obj r = some (dvO D)) {now : Int} {K : KV} (hk : K (.bool (D.pass now).2) (if (D.pass now).2 then m.upd r (some (dvO (D.pass now).1)) else m)) : ACalls Tryz.prog 56 [.ptr (some (r, 0, 0)), .int .i64 now] m K := by
  refine run_on xD hm c56 (by simp) fun hf => ?_
  unfold dvO Dev.cs at *
  unfold Dev.pass at hk
  cases ha : D.armed with
  | false =>
    rw [ha] at o
    rw [if_neg (by simp [ha])] at hk
    simp (disch := omega) [-getElem?_pos, b56, o]
    refine drawT_one ⟨_, _, by simp (disch := omega) [-getElem?_pos, o, F75]; exact ⟨rfl, rfl⟩, ?_⟩
    simp (disch := omega) [-getElem?_pos]
    exact hk
  | true =>
    rw [ha] at o
    by_cases c : D.at' ≤ cl now
    · rw [if_pos ⟨ha, c⟩] at hk
      simp (disch := omega) [-getElem?_pos, b56, o]
      refine drawT_one ⟨_, _, by simp (disch := omega) [-getElem?_pos, o, F75]; exact ⟨rfl, rfl⟩, ?_⟩
      simp (disch := omega) [-getElem?_pos, o, splice, c]
      exact hk
    · rw [if_neg fun q => c q.2] at hk
      simp (disch := omega) [-getElem?_pos, b56, o]
      refine drawT_one ⟨_, _, by simp (disch := omega) [-getElem?_pos, o, F75]; exact ⟨rfl, rfl⟩, ?_⟩
      simp (disch := omega) [-getElem?_pos, o, splice, c]
      exact hk
theorem take89 (o : m.obj r = some (dvO D)) {K : KV} (hk : K (.bool D.take.2) (if D.take.2 then m.upd r (some (dvO D.take.1)) else m)) : ACalls Tryz.prog 89 [.ptr (some (r, 0, 0))] m K := by
  refine run_on xD hm c89 (by simp) fun hf => ?_
  unfold dvO Dev.cs at *
  unfold Dev.take at hk
  cases ha : D.latched with
  | false =>
    rw [ha] at o
    rw [if_neg (by simp [ha])] at hk
    simp (disch := omega) [-getElem?_pos, b89, o]
    exact hk
  | true =>
    rw [ha] at o
    rw [if_pos ha] at hk
    simp (disch := omega) [-getElem?_pos, b89, o, splice]
    exact hk
theorem off93 (o : m.obj r = some (dvO D)) {K : KV} (hk : K (.tup []) (m.upd r (some (dvO { D with armed := false, latched := false, off := true })))) : ACalls Tryz.prog 93 [.ptr (some (r, 0, 0))] m K := by
  refine run_on xD hm c93 (by simp) fun hf => ?_
  unfold dvO Dev.cs at *
  simp (disch := omega) [-getElem?_pos, b93, o, splice]
  exact hk
theorem on65 (o : m.obj r = some (dvO D)) {K : KV} (hk : K (.tup []) (m.upd r (some (dvO { D with off := false })))) : ACalls Tryz.prog 65 [.ptr (some (r, 0, 0))] m K := by
  refine run_on xD hm c65 (by simp) fun hf => ?_
  unfold dvO Dev.cs at *
  simp (disch := omega) [-getElem?_pos, b65, o, splice]
  exact hk
theorem prog111 (o : m.obj r = some (dvO D)) {now t : Int} (hoff : D.off = false) (ht : ¬ 4611686018427387903 ≤ t) {K : KV} (hk : K (.tup [.int .i64 (D.when now t), .bool true]) (m.upd r (some (dvO { D with at' := D.when now t, armed := true })))) : ACalls Tryz.prog 111 [.ptr (some (r, 0, 0)), .int .i64 now, .int .i64 t] m K := by
  refine run_on xD hm c111 (by simp) fun hf => ?_
  unfold Dev.when at hk
  unfold dvO Dev.cs at *
  rw [hoff] at o hk
  simp (disch := omega) [-getElem?_pos, b111, o, splice, F109, F110, F74, ht]
  exact hk
theorem sooner85 (o : m.obj r = some (dvO D)) {now t : Int} {K : KV} (hk : K (.bool (D.sooner now t).2) (if (D.sooner now t).2 then m.upd r (some (dvO (D.sooner now t).1)) else m)) : ACalls Tryz.prog 85 [.ptr (some (r, 0, 0)), .int .i64 now, .int .i64 t] m K := by
  refine run_on xD hm c85 (by simp) fun hf => ?_
  have o' := o
  unfold dvO Dev.cs at o
  unfold Dev.sooner at hk
  have stop : ∀ {h : D.off = true ∨ 4611686018427387903 ≤ t ∨ (D.armed = true ∧ D.at' ≤ D.when now t)}, K (.bool false) m := fun {h} => by rw [if_pos h] at hk; exact hk
  cases hoff : D.off with
  | true =>
    have hK := @stop (.inl hoff)
    rw [hoff] at o
    simp (disch := omega) [-getElem?_pos, b85, o, F109]
    refine drawT_one ⟨_, _, by simp (disch := omega) [-getElem?_pos, o, F109]; exact ⟨rfl, rfl⟩, ?_⟩
    simp (disch := omega) [-getElem?_pos]
    exact hK
  | false =>
    rw [hoff] at o
    by_cases c1 : 4611686018427387903 ≤ t
    · have hK := @stop (.inr (.inl c1))
      simp (disch := omega) [-getElem?_pos, b85, o, F109]
      refine drawT_one ⟨_, _, by simp (disch := omega) [-getElem?_pos, o, F109, F74, c1]; exact ⟨rfl, rfl⟩, ?_⟩
      simp (disch := omega) [-getElem?_pos]
      exact hK
    · have go : ¬ (D.armed = true ∧ D.at' ≤ D.when now t) → K (.bool true) (m.upd r (some (dvO { D with at' := D.when now t, armed := true }))) := fun h => by
        rw [if_neg (by rw [hoff]; simp only [Bool.false_eq_true, false_or]; intro q; rcases q with q | q; exact c1 q; exact h q)] at hk
        exact hk
      cases ha : D.armed with
      | false =>
        rw [ha] at o
        simp (disch := omega) [-getElem?_pos, b85, o, F109]
        refine drawT_one ⟨_, _, by simp (disch := omega) [-getElem?_pos, o, F109, F74, c1]; exact ⟨rfl, rfl⟩, ?_⟩
        simp (disch := omega) [-getElem?_pos]
        refine prog111 o' hoff c1 ?_
        simp (disch := omega) [-getElem?_pos]
        exact go (by simp [ha])
      | true =>
        rw [ha] at o
        by_cases c2 : D.at' ≤ D.when now t
        · have hK := @stop (.inr (.inr ⟨ha, c2⟩))
          unfold Dev.when at c2
          simp (disch := omega) [-getElem?_pos, b85, o, F109]
          refine drawT_one ⟨_, _, by simp (disch := omega) [-getElem?_pos, o, F109, F110, F74, c1]; exact ⟨rfl, rfl⟩, ?_⟩
          simp (disch := omega) [-getElem?_pos, c2]
          exact hK
        · have c3 := c2
          unfold Dev.when at c3
          simp (disch := omega) [-getElem?_pos, b85, o, F109]
          refine drawT_one ⟨_, _, by simp (disch := omega) [-getElem?_pos, o, F109, F110, F74, c1]; exact ⟨rfl, rfl⟩, ?_⟩
          simp (disch := omega) [-getElem?_pos, c3]
          refine prog111 o' hoff c1 ?_
          simp (disch := omega) [-getElem?_pos]
          exact go fun q => c2 q.2
end
end Go.Proofs.YtkcpojagecfcbaaGreatDoor
