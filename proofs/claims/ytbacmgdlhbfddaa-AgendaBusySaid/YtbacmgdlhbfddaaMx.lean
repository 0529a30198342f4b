/-
  WHAT AN AGENDA's functions do: New, All, place, Drop, Clashes, Add.
-/
import Derived.Test.YtbacmgdlhbfddaaKx
namespace Go.Proofs.Ytbacmgdlhbfddaa
open Go Go.AM
set_option linter.unusedVariables false
set_option linter.unusedSimpArgs false
set_option maxRecDepth 60000
set_option maxHeartbeats 4000000

/-- slices.IndexFunc with a closure that bears something. -/
theorem index_callsC {P : Program} (hm : P.follows .mixedOrders = true) {f : FuncId} {n : Nat} {sz : Nat} {agg : Bool} (hc : Code1 P f n (bIndexFunc sz agg)) (hn : 2 ≤ n)
    {es : List (List V)} {v : V} {m : Mem} {g : FuncId} {a b : List V} {K : KV} (el : List V → V) (p : List V → Bool)
    (hs : Sl m sz v es) (hl : es.length ≤ 4611686018427387904) (hel : ∀ x ∈ es, partV agg x 0 sz = some (el x)) (hp : ∀ (M : Mem) (K : KV), m.Grew M → ∀ x ∈ es, (∀ M', M.Grew M' → K (.bool (p x)) M') → ACalls P g (a ++ el x :: b) M K)
    (hk : ∀ M, m.Grew M → K (.int .i64 (idxI p es)) M) : ACalls P f [v, .fn g a b] m K := by
  refine run_on (ctx_nil _) hm hc (by simpa using hn) fun hf => ?_
  have h1 := hs.lenSl
  simp (disch := omega) [bIndexFunc, h1]
  refine exec_loopU (σ := Nat × Mem) (fun (i, _) => [(8, .int .i64 i)]) (fun (_, M) => M) (fun (i, M) => i ≤ es.length ∧ (∀ y ∈ es.take i, p y = false) ∧ m.Grew M) (fun (i, _) => es.length - i) (0, m) rfl (by dsimp only; exact ⟨by omega, by simp, Mem.Grew.refl m⟩) (by simp) ?_
  intro (i, M) ⟨a1, a2, a3⟩
  by_cases hi : i < es.length
  · obtain ⟨x, hx⟩ : ∃ x, es[i]? = some x := ⟨_, List.getElem?_eq_getElem hi⟩
    obtain ⟨q, j, full, rw, z1, z2, z3, z4, z5⟩ := (hs.grow a3).at hx .i64
    have c1 := hel x (mem_of_idx hx)
    have c2 := hp M
    cases hpx : p x with
    | true =>
      simp (disch := omega) [-getElem?_pos, -partV, z1, z3, z4, c1]
      refine c2 _ a3 x (mem_of_idx hx) fun M' g' => ?_
      rw [hpx]
      simp (disch := omega) [-getElem?_pos]
      rw [idxI_some a2 hx hpx] at hk
      exact hk _ (a3.trans g')
    | false =>
      simp (disch := omega) [-getElem?_pos, -partV, z1, z3, z4, c1]
      refine c2 _ a3 x (mem_of_idx hx) fun M' g' => ?_
      rw [hpx]
      simp (disch := omega) [-getElem?_pos]
      refine again_mk (i + 1, M') (by
        dsimp only
        refine ⟨by omega, fun y hy => ?_, a3.trans g'⟩
        rw [List.take_add_one, hx] at hy
        simp at hy
        rcases hy with hy | rfl
        · exact a2 y hy
        · exact hpx) (by dsimp only; omega) (by simp) rfl
  · have : i = es.length := by omega
    subst this
    rw [List.take_length] at a2
    simp (disch := omega)
    rw [idxI_none a2] at hk; exact hk _ a3

def ltM (a b : Mt) : Prop := a.2.1 < b.2.1 ∨ (a.2.1 = b.2.1 ∧ a.1 < b.1)
theorem ltM_cmp {a b : Mt} : ltM a b ↔ cmpM a b < 0 := by
  unfold ltM cmpM cmpI
  split <;> split <;> (try split) <;> (try split) <;> omega
/-- An agenda lies here. -/
structure Ag (m : Mem) (D : List Nat) (r : Nat) (all : Int) (L : List Mt) : Prop where
  up : L.Pairwise ltM
  ok : ∀ a ∈ L, okA all a
  uq : (L.map (·.1)).Nodup
  len : L.length ≤ 256
  ex : ∃ v : V, D = r :: v.fp ∧ r < m.next ∧ m.obj r = some (.row 2 [[.int .u64 all, v]] true) ∧ Ows m 4 v (L.map mt) ∧ r ∉ v.fp
theorem Ag.lt {m : Mem} {D : List Nat} {r : Nat} {all : Int} {L : List Mt} (h : Ag m D r all L) : ∀ p ∈ D, p < m.next := by
  obtain ⟨v, rfl, h1, h2, h3, h4⟩ := h.ex
  intro p hp
  rcases List.mem_cons.1 hp with rfl | hp
  · exact h1
  · exact h3.lt p hp
theorem Ag.keep {m m' : Mem} {D : List Nat} {r : Nat} {all : Int} {L : List Mt} (h : Ag m D r all L) (hn : m.next ≤ m'.next) (ho : ∀ p ∈ D, m'.obj p = m.obj p) : Ag m' D r all L := by
  obtain ⟨v, rfl, h1, h2, h3, h4⟩ := h.ex
  exact ⟨h.up, h.ok, h.uq, h.len, v, rfl, by omega, by rw [ho r (by simp)]; exact h2, h3.keep hn (fun p hp => ho p (by simp [hp])), h4⟩
theorem Ag.grow {m m' : Mem} {D : List Nat} {r : Nat} {all : Int} {L : List Mt} (h : Ag m D r all L) (hg : m.Grew m') : Ag m' D r all L := h.keep hg.next fun p hp => hg.obj p (h.lt p hp)
theorem Ag.step {m m' : Mem} {D E E' : List Nat} {r : Nat} {all : Int} {L : List Mt} (h : Ag m D r all L) (hs : Stp m m' E E') (hd : ∀ p ∈ E, p ∉ D) : Ag m' D r all L := h.keep hs.next (hs.keep h.lt hd)

theorem castdiv (a k : Nat) : ((a / 2 ^ k : Nat) : Int) = (a : Int) / 2 ^ k := by rw [Int.natCast_ediv, Int.natCast_pow]; rfl
theorem new_calls {n : Nat} (hn : 1 ≤ n) (hn2 : n ≤ 64) {m : Mem} {K : KV} (h : ∀ r m', Ag m' [r] r (((18446744073709551615 / 2 ^ (64 - n) : Nat) : Int)) [] → m.next ≤ r → m.Grew m' → K (.ptr (some (r, 0, 0))) m') : ACalls Try.prog 11 [.int .i64 n] m K := by
  refine run_on (ctx_nil _) hm c11 (by simp) fun hf => ?_
  have e1 : min ((64 : Int) - n).toNat 64 = 64 - n := by omega
  have e2 : (18446744073709551615 : Int).fdiv (2 ^ (64 - n)) = ((18446744073709551615 / 2 ^ (64 - n) : Nat) : Int) := by
    rw [Int.fdiv_eq_ediv_of_nonneg _ (by exact Int.le_of_lt (Int.pow_pos (by omega)))]
    exact (castdiv 18446744073709551615 (64 - n)).symm
  simp (disch := omega) [-getElem?_pos, b11, IntKind.bits, e1, e2]
  exact h m.next _ ⟨List.Pairwise.nil, by simp, by simp, by simp, .sl none 0 (some 0), rfl, by simp, by simp, Ows.nil _ _, by simp [V.fp]⟩ (Nat.le_refl _) (Mem.Grew.new _ _)

theorem all_calls {m : Mem} {D : List Nat} {r : Nat} {all : Int} {L : List Mt} (hA : Ag m D r all L) {K : KV} (h : ∀ v m', Ows m' 4 v (L.map mt) → m.Grew m' → (∀ p ∈ v.fp, m.next ≤ p) → K v m') : ACalls Try.prog 15 [.ptr (some (r, 0, 0))] m K := by
  obtain ⟨v, rfl, h1, h2, h3, h4⟩ := hA.ex
  have hlen := hA.len
  refine run_on (ctx_nil _) hm c15 (by simp) fun hf => ?_
  simp (disch := omega) [-getElem?_pos, b15, h2]
  refine clone_calls (ctx_nil _) hm c29 (by omega) h3.sl (by rw [List.length_map]; omega) (by rw [List.length_map]; omega) fun v' m' w1 w2 w3 => ?_
  simp (disch := omega)
  exact h v' m' w1 w2 w3

/-- Is it this ID? -/
def isId (q : Int) (a : Mt) : Bool := decide (a.1 = q)
def isV (q : Int) : List V → Bool
  | .int .i64 a :: _ => decide (a = q)
  | _ => false
theorem idx_mt (L : List Mt) (q : Int) : idxI (isV q) (L.map mt) = idxI (isId q) L := by
  rcases idxI_cases (isId q) L with ⟨h1, h2⟩ | ⟨i, x, h1, h2, h3, h4⟩
  · rw [h1, idxI_none]
    intro y hy
    obtain ⟨x, hx, rfl⟩ := List.mem_map.1 hy
    exact h2 x hx
  · rw [h1]
    refine idxI_some (x := mt x) (fun y hy => ?_) (by simp [h2]) h3
    rw [← List.map_take] at hy
    obtain ⟨x, hx, rfl⟩ := List.mem_map.1 hy
    exact h4 x hx
theorem place_calls {m : Mem} {D : List Nat} {r : Nat} {all : Int} {L : List Mt} (hA : Ag m D r all L) {q : Int} {K : KV} (h : ∀ m', m.Grew m' → K (.int .i64 (idxI (isId q) L)) m') : ACalls Try.prog 22 [.ptr (some (r, 0, 0)), .int .i64 q] m K := by
  have hlen := hA.len
  refine run_on (ctx_nil _) hm c22 (by simp) fun hf => ?_
  have g1 := Mem.Grew.new m (.row 1 [[.int .i64 q]] true)
  have oB : (m.new (.row 1 [[.int .i64 q]] true)).obj m.next = some (.row 1 [[.int .i64 q]] true) := by simp
  have bB : m.next < (m.new (.row 1 [[.int .i64 q]] true)).next := by simp
  simp (disch := omega) [-getElem?_pos, b22]
  generalize m.new (.row 1 [[.int .i64 q]] true) = m1 at *
  generalize m.next = B at *
  refine all_calls (hA.grow g1) fun v m2 w1 w2 w3 => ?_
  have o2 : m2.obj B = some (.row 1 [[.int .i64 q]] true) := by rw [w2.obj B bB]; exact oB
  have b2 : B < m2.next := by have := w2.next; omega
  simp (disch := omega) [-getElem?_pos]
  refine index_callsC hm c38 (by omega) (a := []) (b := [.ptr (some (B, 0, 0))]) .agg (isV q) w1.sl (by rw [List.length_map]; omega) (fun x hx => ?_) (fun M K gM x hx hK => ?_) fun M gM => ?_
  · obtain ⟨a, _, rfl⟩ := List.mem_map.1 hx; rfl
  · obtain ⟨a, _, rfl⟩ := List.mem_map.1 hx
    have o3 : M.obj B = some (.row 1 [[.int .i64 q]] true) := by rw [gM.obj B b2]; exact o2
    have b3 : B < M.next := by have := gM.next; omega
    refine run_on (ctx_nil _) hm c39 (by simp) fun hf => ?_
    have g := Mem.Grew.new M (.row 4 [mt a] true)
    have hK' := hK _ g
    simp only [mt, isV] at hK' ⊢
    simp (disch := omega) [-getElem?_pos, -decN, -decY, b39, o3]
    exact hK'
  · rw [idx_mt]
    simp (disch := omega) [-getElem?_pos]
    exact h _ ((g1.trans w2).trans gM)

/-- What a going meeting comes to. -/
inductive DropR (L : List Mt) (q : Int) : List Mt → Bool → Prop
  | no (h : ¬ ∃ a ∈ L, a.1 = q) : DropR L q L false
  | one (k : Nat) (a : Mt) (h1 : L[k]? = some a) (h2 : a.1 = q) : DropR L q (L.take k ++ L.drop (k + 1)) true
theorem sub_drop {α : Type} (L : List α) (k : Nat) : (L.take k ++ L.drop (k + 1)).Sublist L := by
  conv => rhs; rw [← List.take_append_drop k L]
  exact (List.Sublist.refl _).append (List.drop_sublist_drop_left L (by omega))
theorem drop_calls {m : Mem} {D : List Nat} {r : Nat} {all : Int} {L : List Mt} (hA : Ag m D r all L) {q : Int} {K : KV} (h : ∀ m' D' L' b, DropR L q L' b → Ag m' D' r all L' → Stp m m' D D' → K (.bool b) m') : ACalls Try.prog 14 [.ptr (some (r, 0, 0)), .int .i64 q] m K := by
  have hlen := hA.len
  refine run_on (ctx_nil _) hm c14 (by simp) fun hf => ?_
  simp (disch := omega) [-getElem?_pos, b14]
  refine place_calls hA fun m2 g2 => ?_
  have hA2 := hA.grow g2
  rcases idxI_cases (isId q) L with ⟨e1, e2⟩ | ⟨k, a, e1, e2, e3, e4⟩
  · rw [e1]
    simp (disch := omega) [-getElem?_pos]
    exact h _ _ _ _ (.no fun ⟨a, ha, e⟩ => by have := e2 a ha; unfold isId at this; simp [e] at this) hA2 (Stp.grow g2 D)
  · rw [e1]
    have ha : a.1 = q := by unfold isId at e3; simpa using e3
    have hkl := (List.getElem?_eq_some_iff.1 e2).1
    obtain ⟨v, rfl, q1, q2, q3, q4⟩ := hA2.ex
    simp (disch := omega) [-getElem?_pos, q2]
    refine delete_calls (ctx_nil _) hm c28 (by omega) q3 (by rw [List.length_map]; exact hkl) rfl rfl (by rw [List.length_map]; omega) fun v' m' w1 w2 w3 w4 => ?_
    have w5 := w2.obj r q1 q4
    rw [q2] at w5
    have v1 := w1.sl.okc
    have v2 := w1.sl.cs
    simp (disch := omega) [-getElem?_pos, w5, v1, v2, splice]
    rw [← List.map_take, ← List.map_drop, ← List.map_append] at w1
    have hsv : r ∉ v'.fp := by rw [w4]; exact q4
    have hsub := sub_drop L k
    refine h _ (r :: v'.fp) _ _ (.one k a e2 ha) ⟨hA.up.sublist hsub, fun b hb => hA.ok b (hsub.subset hb), hA.uq.sublist (hsub.map _), by have := hsub.length_le; omega, v', rfl, by rw [upd_next]; omega, by simp, w1.keep (by simp) fun p hp => ?_, hsv⟩ ?_
    · rw [updO _ (fun e => hsv (by rw [← e]; exact hp))]
    · refine (Stp.grow g2 (r :: v.fp)).trans ((w2.mono (E := r :: v.fp) (E' := r :: v'.fp) (fun p hp => by simp [hp]) (fun p hp => ?_)).trans (Stp.upd _ (by simp) _))
      rcases List.mem_cons.1 hp with rfl | hp
      · exact .inl (by simp)
      · exact .inr (.inl hp)

/-! ### Clashes -/

/-- Of the first meetings those that clash with one, by their IDs. -/
def clI (L : List Mt) (x : Mt) (i : Nat) : List Int := ((L.take i).filter fun a => !isId x.1 a && clC a x).map (·.1)
theorem clI_len (L : List Mt) (x : Mt) (i : Nat) : (clI L x i).length ≤ i := by
  unfold clI; rw [List.length_map]
  have := List.length_filter_le (fun a => !isId x.1 a && clC a x) (L.take i)
  rw [List.length_take] at this; omega
theorem clI_yes {L : List Mt} {x a : Mt} {i : Nat} (h : L[i]? = some a) (hr : (!isId x.1 a && clC a x) = true) : clI L x (i + 1) = clI L x i ++ [a.1] := by
  unfold clI; rw [takeS h, List.filter_append, List.map_append]; simp only [List.filter_cons, hr, if_true, List.filter_nil, List.map_cons, List.map_nil]
theorem clI_no {L : List Mt} {x a : Mt} {i : Nat} (h : L[i]? = some a) (hr : (!isId x.1 a && clC a x) = false) : clI L x (i + 1) = clI L x i := by
  unfold clI; rw [takeS h, List.filter_append, List.map_append]; simp only [List.filter_cons, hr, List.filter_nil, List.map_nil, List.append_nil]; simp

theorem clashes_calls {m : Mem} {D : List Nat} {r : Nat} {all : Int} {L : List Mt} (hA : Ag m D r all L) {x : Mt} {K : KV} (h : ∀ v m' zs, zs.Perm (clI L x L.length) → Ows m' 1 v (rowI .i64 zs) → m.Grew m' → K v m') : ACalls Try.prog 13 [.ptr (some (r, 0, 0)), .agg (mt x)] m K := by
  have hlen := hA.len
  refine run_on (ctx_nil _) hm c13 (by simp) fun hf => ?_
  have g1 := Mem.Grew.new m (.row 4 [mt x] true)
  have oB : (m.new (.row 4 [mt x] true)).obj m.next = some (.row 4 [mt x] true) := by simp
  have bB : m.next < (m.new (.row 4 [mt x] true)).next := by simp
  simp only [mt] at g1 oB bB ⊢
  simp (disch := omega) [-getElem?_pos, b13]
  generalize hm1 : m.new (.row 4 [[.int .i64 x.1, .int .i64 x.2.1, .int .i64 x.2.2.1, .int .u64 x.2.2.2]] true) = m1 at *
  generalize hB : m.next = B at *
  refine all_calls (hA.grow g1) fun v m2 w1 w2 w3 => ?_
  have hv := w1.sl.lenSl
  rw [List.length_map] at hv
  obtain ⟨n, hn⟩ : ∃ n, L.length = n := ⟨_, rfl⟩
  rw [hn] at hv hlen h
  simp (disch := omega) [-getElem?_pos, hv]
  refine exec_loopU (σ := Nat × V × Mem) (fun (i, u, _) => [(5, u), (11, .int .i64 i)]) (fun (_, _, M) => M) (fun (i, u, M) => i ≤ n ∧ Ows M 1 u (rowI .i64 (clI L x i)) ∧ m2.Grew M ∧ (∀ p ∈ u.fp, m2.next ≤ p) ∧ (clI L x i = [] → u = .sl none 0 (some 0))) (fun (i, _, _) => n - i) (0, .sl none 0 (some 0), m2) rfl
    (by dsimp only; exact ⟨by omega, Ows.nil _ _, Mem.Grew.refl m2, by simp [V.fp], fun _ => rfl⟩) (by simp) ?_
  intro (i, u, M) ⟨a1, a2, a3, a4, a5⟩
  have hll := clI_len L x i
  by_cases hi : i < n
  case neg =>
    have : i = n := by omega
    subst this
    have gg : m.Grew M := (g1.trans w2).trans a3
    have geq : ∀ p ∈ u.fp, m.next ≤ p := fun p hp => by have := a4 p hp; have := (g1.trans w2).next; omega
    simp (disch := omega) [-getElem?_pos]
    by_cases h0 : clI L x i = []
    · have := a5 h0
      subst this
      refine (sort_nil M).imp fun r m' ⟨e1, e2⟩ => ?_
      subst e1; subst e2
      simp (disch := omega) [-getElem?_pos]
      exact h _ _ [] (by rw [h0]) (Ows.nil _ _) gg
    · refine a2.sortI body27 sorts h0 (by omega) fun m3 e1 e2 e3 => ?_
      simp (disch := omega) [-getElem?_pos]
      exact h _ _ _ (List.mergeSort_perm _ _) e1 (e2.toGrew gg geq)
  obtain ⟨a, ha⟩ : ∃ a, L[i]? = some a := ⟨_, List.getElem?_eq_getElem (by omega)⟩
  obtain ⟨p, q, full, rw, z1, z2, z3, z4, _⟩ := (w1.grow a3).sl.at (mt_get ha) .i64
  simp only [mt] at z4
  have oB3 : M.obj B = some (.row 4 [[.int .i64 x.1, .int .i64 x.2.1, .int .i64 x.2.2.1, .int .u64 x.2.2.2]] true) := by rw [a3.obj B (by have := w2.next; omega), w2.obj B bB]; exact oB
  have bB3 : B < M.next := by have := w2.next; have := a3.next; omega
  have g4 := Mem.Grew.new M (.row 4 [[.int .i64 a.1, .int .i64 a.2.1, .int .i64 a.2.2.1, .int .u64 a.2.2.2]] true)
  have fin0 : ∀ M', M.Grew M' → (!isId x.1 a && clC a x) = false → i + 1 ≤ n ∧ Ows M' 1 u (rowI .i64 (clI L x (i + 1))) ∧ m2.Grew M' ∧ (∀ p ∈ u.fp, m2.next ≤ p) ∧ (clI L x (i + 1) = [] → u = .sl none 0 (some 0)) := fun M' gM hr => by
    rw [clI_no ha hr]; exact ⟨by omega, a2.grow gM, a3.trans gM, a4, a5⟩
  by_cases hid : a.1 = x.1
  · simp (disch := omega) [-getElem?_pos, z1, z3, z4, oB3, hid]
    rw [hid] at g4
    exact again_mk (i + 1, u, _) (by dsimp only; exact fin0 _ g4 (by simp [isId, hid])) (by dsimp only; omega) (by simp) rfl
  · simp (disch := omega) [-getElem?_pos, z1, z3, z4, oB3, hid]
    refine clash26 (a := a) (b := x) fun M2 g5 => ?_
    have g6 := g4.trans g5
    cases hc : clC a x with
    | false =>
      simp (disch := omega) [-getElem?_pos]
      exact again_mk (i + 1, u, M2) (by dsimp only; exact fin0 _ g6 (by simp [hc])) (by dsimp only; omega) (by simp) rfl
    | true =>
      have o5 : M2.obj M.next = some (.row 4 [[.int .i64 a.1, .int .i64 a.2.1, .int .i64 a.2.2.1, .int .u64 a.2.2.2]] true) := by rw [g5.obj _ (by simp), new_obj, if_pos rfl]
      have n5 : M.next < M2.next := by have := g5.next; simp at this; omega
      have hr : (!isId x.1 a && clC a x) = true := by simp [isId, hid, hc]
      simp (disch := omega) [-getElem?_pos, o5, eltsOf, Mem.elts]
      have g7 := g6.trans (Mem.Grew.new M2 (.row 1 [[.int .i64 a.1]] true))
      refine (a2.grow g7).app (by rw [rowI_length]; omega) (by rw [rowI_length]; omega) fun u' M' e1 e2 e3 => ?_
      have s7 := (Stp.grow g7 u.fp).trans e2
      have e : rowI .i64 (clI L x i) ++ [[.int .i64 a.1]] = rowI .i64 (clI L x (i + 1)) := by rw [clI_yes ha hr, ← rowI_append]; rfl
      rw [e] at e1
      simp (disch := omega)
      exact again_mk (i + 1, u', M') (by dsimp only; exact ⟨by omega, e1, s7.toGrew a3 a4, s7.ge a3.next a4, fun h0 => by rw [clI_yes ha hr] at h0; simp at h0⟩) (by dsimp only; omega) (by simp) rfl
end Go.Proofs.Ytbacmgdlhbfddaa
