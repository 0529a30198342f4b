/-
  WHAT EACH FUNCTION of this seat computes, in plain words.
-/
import Derived.Test.YtgmidpacmlkfgaaCx
namespace Go.Proofs.Ytgmidpacmlkfgaa
open Go Go.AM
set_option linter.unusedVariables false
set_option linter.unusedSimpArgs false
set_option maxRecDepth 8000
set_option maxHeartbeats 4000000

/-- A job: its name, and what it needs yet. -/
abbrev Jb := Int × Int
def jb (j : Jb) : List V := [.int .i64 j.1, .int .i64 j.2]
theorem jb_map_get {l : List Jb} {i : Nat} {s : Jb} (h : l[i]? = some s) : (l.map jb)[i]? = some (jb s) := by simp [h]

/-- A round. -/
structure Rd where
  turn : Int
  now : Int
  l : List Jb

def F18 : AFn
  | [.agg [.int .i64 a, .int .i64 b], .ptr (some (c1, 0, 0))], m => (match m.obj c1 with
    | some (.row 1 [[.int .i64 id]] _) => some (.bool (decide (a = id)), m)
    | _ => none)
  | _, _ => none
theorem s18 : ASpec Try.prog 18 F18 := by
  intro args m r m' h
  unfold F18 at h; split at h
  · split at h <;> cases h
    rename_i h1
    refine ACalls.forget (run_callsW (ctx_nil _) hm c18 (by simp) fun hf => ?_)
    have f1 := hf _ _ h1
    simp (disch := omega) [b18, h1, V.flat]
    exact fun q hq hq2 => by omega
  · cases h

abbrev L1 : List (FuncId × AFn) := [(18, F18)]
theorem x1 : CtxOk Try.prog (Ctx.of L1) := ctx_cons (ctx_nil _) s18

structure Round (m : Mem) (D : List Nat) (r : Nat) (w : Rd) : Prop where
  turn : 1 ≤ w.turn ∧ w.turn ≤ 1000
  now : 0 ≤ w.now ∧ w.now ≤ 1000000000
  ok : ∀ j ∈ w.l, 1 ≤ j.2 ∧ j.2 ≤ 10000
  len : w.l.length ≤ 64
  ex : ∃ v, D = r :: v.fp ∧ r < m.next ∧ m.obj r = some (.row 3 [[.int .i64 w.turn, .int .i64 w.now, v]] true) ∧ Ows m 2 v (w.l.map jb) ∧ r ∉ v.fp

theorem Round.lt {m : Mem} {D : List Nat} {r : Nat} {w : Rd} (h : Round m D r w) : ∀ p ∈ D, p < m.next := by
  obtain ⟨v, rfl, h1, h2, h3, h4⟩ := h.ex
  intro p hp
  rcases List.mem_cons.1 hp with rfl | hp
  · exact h1
  · exact h3.lt p hp
theorem Round.keep {m m' : Mem} {D : List Nat} {r : Nat} {w : Rd} (h : Round m D r w) (hn : m.next ≤ m'.next) (ho : ∀ p ∈ D, m'.obj p = m.obj p) : Round m' D r w := by
  obtain ⟨v, rfl, h1, h2, h3, h4⟩ := h.ex
  exact ⟨h.turn, h.now, h.ok, h.len, v, rfl, by omega, by rw [ho r (by simp)]; exact h2, h3.keep hn (fun p hp => ho p (by simp [hp])), h4⟩
theorem Round.grow {m m' : Mem} {D : List Nat} {r : Nat} {w : Rd} (h : Round m D r w) (hg : m.Grew m') : Round m' D r w := h.keep hg.next fun p hp => hg.obj p (h.lt p hp)

theorem new_calls {m : Mem} {turn : Int} {K : KV} (h1 : ¬ (1 ≤ turn ∧ turn ≤ 1000) → K (.ptr none) m)
    (h2 : 1 ≤ turn → turn ≤ 1000 → ∀ r m', Round m' [r] r ⟨turn, 0, []⟩ → m.next ≤ r → m.Grew m' → K (.ptr (some (r, 0, 0))) m') : ACalls Try.prog 7 [.int .i64 turn] m K := by
  refine run_on x1 hm c7 (by simp) fun hf => ?_
  by_cases c1 : 1 ≤ turn
  case neg =>
    simp (disch := omega) [b7]
    exact h1 (by omega)
  by_cases c2 : turn ≤ 1000
  case neg =>
    simp (disch := omega) [b7]
    exact h1 (by omega)
  simp (disch := omega) [b7]
  exact h2 c1 c2 m.next _ ⟨⟨c1, c2⟩, by simp, by simp, by simp, .sl none 0 (some 0), rfl, by simp, by simp, Ows.nil _ _, by simp [V.fp]⟩ (Nat.le_refl _) (Mem.Grew.new _ _)

def idP (id : Int) : List V → Bool
  | [.int .i64 a, _] => decide (a = id)
  | _ => false
def isId (id : Int) (j : Jb) : Bool := decide (j.1 = id)

theorem idxI_map {α β : Type} (f : α → β) (p : β → Bool) (q : α → Bool) (l : List α) (h : ∀ x ∈ l, p (f x) = q x) : idxI p (l.map f) = idxI q l := by
  rcases idxI_cases q l with ⟨h1, h2⟩ | ⟨i, x, h1, h2, h3, h4⟩
  · rw [h1, idxI_none]
    intro y hy
    obtain ⟨x, hx, rfl⟩ := List.mem_map.1 hy
    rw [h x hx]; exact h2 x hx
  · rw [h1]
    refine idxI_some (x := f x) (fun y hy => ?_) (by simp [h2]) (by rw [h x (mem_of_idx h2)]; exact h3)
    rw [← List.map_take] at hy
    obtain ⟨x, hx, rfl⟩ := List.mem_map.1 hy
    rw [h x (List.mem_of_mem_take hx)]; exact h4 x hx

theorem place_nil {m : Mem} {id : Int} {K : KV} (h : K (.int .i64 (-1)) m) : ACalls Try.prog 15 [.ptr none, .int .i64 id] m K := by
  refine ACalls.forget (run_on x1 hm c15 (by simp) fun hf => ?_)
  simp (disch := omega) [b15, V.flat]
  exact ⟨fun q hq hq2 => by omega, h⟩
theorem place_calls {m : Mem} {D : List Nat} {r : Nat} {w : Rd} (hR : Round m D r w) {id : Int} {K : KV} (h : K (.int .i64 (idxI (isId id) w.l)) m) : ACalls Try.prog 15 [.ptr (some (r, 0, 0)), .int .i64 id] m K := by
  obtain ⟨v, rfl, h1, h2, h3, h4⟩ := hR.ex
  have hlen := hR.len
  refine ACalls.forget (run_on x1 hm c15 (by simp) fun hf => ?_)
  simp (disch := omega) [b15, h2]
  refine index_calls x1 hm c17 (by omega) .agg (idP id) (h3.grow (Mem.Grew.new _ _)).sl (by simp; omega) (fun x hx => ?_) (fun x hx => ?_) ?_
  · obtain ⟨s, hs, rfl⟩ := List.mem_map.1 hx
    rfl
  · obtain ⟨s, hs, rfl⟩ := List.mem_map.1 hx
    simp [F18, jb, idP]
  · have e : idxI (idP id) (w.l.map jb) = idxI (isId id) w.l := idxI_map _ _ _ _ fun s hs => rfl
    rw [e]
    simp (disch := omega) [V.flat]
    exact ⟨fun q hq hq2 => by omega, h⟩

theorem add_nil {m : Mem} {id need : Int} {K : KV} (h : K (.int .i64 1) m) : ACalls Try.prog 9 [.ptr none, .int .i64 id, .int .i64 need] m K := by
  refine run_on x1 hm c9 (by simp) fun hf => ?_
  simp (disch := omega) [b9]
  exact h

/-- Add: what is told. -/
def addE (l : List Jb) (id need : Int) : Int :=
  if need < 1 ∨ 10000 < need then 2 else if 0 ≤ idxI (isId id) l then 9 else if 64 ≤ l.length then 3 else 0

theorem add_calls {m : Mem} {D : List Nat} {r : Nat} {w : Rd} (hR : Round m D r w) {id need : Int} {K : KV}
    (h1 : addE w.l id need ≠ 0 → K (.int .i64 (addE w.l id need)) m)
    (h2 : addE w.l id need = 0 → ∀ m' D', Round m' D' r { w with l := w.l ++ [(id, need)] } → Stp m m' D D' → K (.int .i64 0) m') : ACalls Try.prog 9 [.ptr (some (r, 0, 0)), .int .i64 id, .int .i64 need] m K := by
  obtain ⟨v, rfl, g1, g2, g3, g4⟩ := hR.ex
  have hlen := hR.len
  have hv1 := g3.sl.lenSl
  simp only [List.length_map] at hv1
  refine run_on x1 hm c9 (by simp) fun hf => ?_
  by_cases c1 : need < 1
  · have e : addE w.l id need = 2 := by unfold addE; rw [if_pos (.inl c1)]
    simp (disch := omega) [b9]
    rw [e] at h1; exact h1 (by omega)
  by_cases c2 : 10000 < need
  · have e : addE w.l id need = 2 := by unfold addE; rw [if_pos (.inr c2)]
    simp (disch := omega) [b9]
    rw [e] at h1; exact h1 (by omega)
  simp (disch := omega) [b9]
  refine place_calls hR ?_
  by_cases c3 : 0 ≤ idxI (isId id) w.l
  · have e : addE w.l id need = 9 := by unfold addE; rw [if_neg (by omega), if_pos c3]
    simp (disch := omega)
    rw [e] at h1; exact h1 (by omega)
  by_cases c4 : 64 ≤ w.l.length
  · have e : addE w.l id need = 3 := by unfold addE; rw [if_neg (by omega), if_neg c3, if_pos c4]
    simp (disch := omega) [g2, hv1]
    rw [e] at h1; exact h1 (by omega)
  have e : addE w.l id need = 0 := by unfold addE; rw [if_neg (by omega), if_neg c3, if_neg c4]
  simp (disch := omega) [g2, hv1, eltsOf, Mem.elts]
  refine (g3.grow (Mem.Grew.new m (.row 2 [[.int .i64 id, .int .i64 need]] true))).app (by simp; omega) (by simp; omega) fun v' m' w1 w2 w3 => ?_
  have k1 := w2.obj r (by simp; omega) g4
  simp (disch := omega) [g2] at k1
  have hn := w2.next
  simp at hn
  have v1 := w1.sl.cs
  have v2 := w1.sl.okc
  have hrn : r ∉ v'.fp := fun e => by
    rcases w2.fp r e with q | q
    · exact g4 q
    · simp at q; omega
  simp (disch := omega) [k1, v1, v2]
  refine h2 e _ (r :: v'.fp) ⟨hR.turn, hR.now, fun j hj => ?_, by simp; omega, v', rfl, by simp; omega, by simp, ?_, hrn⟩ ⟨by simp; omega, fun p hp hd => ?_, fun p hp => ?_⟩
  · rcases List.mem_append.1 hj with hj | hj
    · exact hR.ok j hj
    · simp at hj; subst hj; simp; omega
  · have : (w.l ++ [(id, need)]).map jb = w.l.map jb ++ [[.int .i64 id, .int .i64 need]] := by simp [jb]
    rw [this]
    exact w1.keep (by simp) fun p hp => updO _ (fun e => hrn (by rw [← e]; exact hp))
  · simp only [List.mem_cons, not_or] at hd
    rw [updO _ hd.1, w2.obj p (by simp; omega) hd.2]
    simp (disch := omega)
  · rcases List.mem_cons.1 hp with rfl | hp
    · exact .inl (by simp)
    · rcases w2.fp p hp with q | q
      · exact .inl (by simp [q])
      · right; simp at q; omega

theorem drop_nil {m : Mem} {id : Int} {K : KV} (h : K (.tup [.int .i64 0, .bool false]) m) : ACalls Try.prog 8 [.ptr none, .int .i64 id] m K := by
  refine run_on x1 hm c8 (by simp) fun hf => ?_
  simp (disch := omega) [b8]
  refine place_nil ?_
  simp (disch := omega)
  exact h

theorem drop_calls {m : Mem} {D : List Nat} {r : Nat} {w : Rd} (hR : Round m D r w) {id : Int} {K : KV}
    (h1 : idxI (isId id) w.l = -1 → K (.tup [.int .i64 0, .bool false]) m)
    (h2 : ∀ (i : Nat) (j : Jb), idxI (isId id) w.l = i → w.l[i]? = some j → ∀ m' D', Round m' D' r { w with l := w.l.take i ++ w.l.drop (i + 1) } → Stp m m' D D' → K (.tup [.int .i64 j.2, .bool true]) m') : ACalls Try.prog 8 [.ptr (some (r, 0, 0)), .int .i64 id] m K := by
  obtain ⟨v, rfl, g1, g2, g3, g4⟩ := hR.ex
  have hlen := hR.len
  refine run_on x1 hm c8 (by simp) fun hf => ?_
  simp (disch := omega) [b8]
  refine place_calls hR ?_
  rcases idxI_cases (isId id) w.l with ⟨e1, e2⟩ | ⟨i, j, e1, e2, e3, e4⟩
  · rw [e1]
    simp (disch := omega)
    exact h1 e1
  · rw [e1]
    have hi := (List.getElem?_eq_some_iff.1 e2).1
    obtain ⟨p, q, full, b1, b2, b3, b4, b5, b6⟩ := g3.at (jb_map_get e2) .i64
    simp only [jb] at b4
    simp (disch := omega) [-getElem?_pos, g2, b1, b3, b4]
    refine delete_calls x1 hm c16 (by omega) g3 (by simpa using hi) rfl rfl (by simp; omega) fun v' m' w1 w2 w3 w4 => ?_
    have k1 := w2.obj r g1 g4
    rw [g2] at k1
    have v1 := w1.sl.cs
    have v2 := w1.sl.okc
    have hrn : r ∉ v'.fp := by rw [w4]; exact g4
    simp (disch := omega) [k1, v1, v2]
    refine h2 i j e1 e2 _ (r :: v'.fp) ⟨hR.turn, hR.now, fun t ht => hR.ok t ?_, ?_, v', rfl, by simp; omega, by simp, ?_, hrn⟩ ⟨by simp; omega, fun p hp hd => ?_, fun p hp => ?_⟩
    · rcases List.mem_append.1 ht with ht | ht
      · exact List.mem_of_mem_take ht
      · exact List.mem_of_mem_drop ht
    · simp; omega
    · rw [← List.map_take, ← List.map_drop, ← List.map_append] at w1
      exact w1.keep (by simp) fun p hp => updO _ (fun e => hrn (by rw [← e]; exact hp))
    · simp only [List.mem_cons, not_or] at hd
      rw [updO _ hd.1, w2.obj p hp hd.2]
    · rw [w4] at hp; exact .inl hp

end Go.Proofs.Ytgmidpacmlkfgaa
