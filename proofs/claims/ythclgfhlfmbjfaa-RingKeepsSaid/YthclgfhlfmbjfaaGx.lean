/-
  WHAT THE OTHER FUNCTIONS of this seat compute, in plain words.
-/
import Derived.Test.YthclgfhlfmbjfaaFx
namespace Go.Proofs.Ythclgfhlfmbjfaa
open Go Go.AM
set_option linter.unusedVariables false
set_option maxRecDepth 8000

/-- How many are lost. -/
def lostOf (size : Nat) (hist : List (Int × Int)) : Nat := hist.length - min hist.length size

theorem Ring.get {m : Mem} {r q size : Nat} {hist : List (Int × Int)} (h : Ring m r q size hist) {k : Nat} (h1 : lostOf size hist ≤ k) (h2 : k < hist.length) :
    ∃ c es e, m.obj r = some (.row 2 [[.sl (some (q, 0, 3)) size c, .int .i64 hist.length]] true) ∧ m.obj q = some (.row 3 es true) ∧ hist[k]? = some e ∧ es[k % size]? = some (ent (k + 1) e.1 e.2) := by
  obtain ⟨c, es, a1, a2, a3, a4, a5⟩ := h.ex
  have he : hist[k]? = some hist[k] := List.getElem?_eq_getElem h2
  exact ⟨c, es, _, a1, a2, he, a5 k _ he (by unfold lostOf at h1; omega)⟩

theorem get_nil {m : Mem} {no : Int} {K : KV} (h : K (.tup [.agg (ent 0 0 0), .bool false]) m) : ACalls Try.prog 7 [.ptr none, .int .i64 no] m K := by
  refine ACalls.forget (run_callsW x2 hm c7 (by simp) fun hf => ?_)
  simp [b7, V.flat, V.flats]
  exact ⟨fun q hq => by rw [if_neg (by omega), if_neg (by omega)], h⟩

/-- Get. -/
theorem get_calls {m : Mem} {r q size : Nat} {hist : List (Int × Int)} (hR : Ring m r q size hist) {no : Int} {K : KV}
    (h1 : ∀ (k : Nat) (e : Int × Int), no = k + 1 → lostOf size hist ≤ k → hist[k]? = some e → K (.tup [.agg (ent no e.1 e.2), .bool true]) m)
    (h2 : no ≤ lostOf size hist ∨ hist.length < no → K (.tup [.agg (ent 0 0 0), .bool false]) m) : ACalls Try.prog 7 [.ptr (some (r, 0, 0)), .int .i64 no] m K := by
  refine ACalls.forget (run_callsW x2 hm c7 (by simp) fun hf => ?_)
  obtain ⟨c, es, a1, a2, a3, a4, a5⟩ := hR.ex
  have f1 := hf r _ a1
  have f2 := hf q _ a2
  have hlen := hR.len
  have s1 := hR.s1
  have e1 : (hist.length : Int) - min (hist.length : Int) size = lostOf size hist := by unfold lostOf; omega
  have hle : lostOf size hist ≤ hist.length := by unfold lostOf; omega
  by_cases b1 : no ≤ lostOf size hist
  · have := h2 (.inl b1)
    simp [b7, V.flat, V.flats, F11, a1, show r ≠ m.next by omega, show (hist.length : Int) ≤ 4611686018427387904 by omega, e1, b1]
    exact ⟨fun q hq => by rw [if_neg (by omega), if_neg (by omega)], this⟩
  by_cases b2 : hist.length < no
  · have := h2 (.inr b2)
    simp [b7, V.flat, V.flats, F11, a1, show r ≠ m.next by omega, show (hist.length : Int) ≤ 4611686018427387904 by omega, e1, b1, b2]
    exact ⟨fun q hq => by rw [if_neg (by omega), if_neg (by omega)], this⟩
  obtain ⟨k, rfl⟩ : ∃ k : Nat, no = k + 1 := ⟨(no - 1).toNat, by omega⟩
  obtain ⟨c', es', e, g1, g2, g3, g4⟩ := hR.get (k := k) (by omega) (by omega)
  have := h1 k e rfl (by omega) g3
  simp [b7, V.flat, V.flats, F11, F15, g1, g2, g4, s1, show r ≠ m.next by omega, show q ≠ m.next by omega, show (hist.length : Int) ≤ 4611686018427387904 by omega, e1, b1, b2, show (1 : Int) ≤ (k : Int) + 1 by omega, show (k : Int) + 1 ≤ 4611686018427387904 by omega]
  exact ⟨fun q hq => by rw [if_neg (by omega), if_neg (by omega)], this⟩

theorem last_nil {m : Mem} {n : Int} {K : KV} (h : K (.sl none 0 (some 0)) m) : ACalls Try.prog 8 [.ptr none, .int .i64 n] m K := by
  refine run_calls x2 hm c8 (by simp) ?_
  simp [b8]; exact h

/-- Last. -/
theorem last_calls {m : Mem} {r q size : Nat} {hist : List (Int × Int)} (hR : Ring m r q size hist) {n : Int} {k : Nat} (hk : (hist.length : Int) - min (max n 0) (min (hist.length : Int) size) = k) {K : KV}
    (h1 : hist.drop k = [] → K (.sl none 0 (some 0)) m) (h2 : hist.drop k ≠ [] → K (.sl (some (m.next, 0, 3)) (hist.drop k).length none) (m.new (.row 3 (ents k (hist.drop k)) true))) : ACalls Try.prog 8 [.ptr (some (r, 0, 0)), .int .i64 n] m K := by
  obtain ⟨c, es, a1, a2, a3, a4, a5⟩ := hR.ex
  have hlen := hR.len
  refine run_on x2 hm c8 (by simp) fun hf => ?_
  have e1 := IntWalk.i64_in ((hist.length : Int) - min (max n 0) (min (hist.length : Int) size)) (by omega)
  have e2 := IntWalk.i64_in ((k : Int) + 1) (by omega)
  rw [hk] at e1
  simp only [b8, runF_def]
  by_cases h : hist.drop k = []
  · simp [a1, F12, hk, e1, e2]
    refine ⟨Env.none.put (some 4) (.sl none 0 (some 0)), m, from_calls hR k (by omega) (by omega) (fun _ => ⟨rfl, rfl⟩) (fun h' => absurd h h'), ?_⟩
    simpa using h1 h
  · have h2 := h2 h
    simp [a1, F12, hk, e1, e2]
    refine ⟨Env.none.put (some 4) (.sl (some (m.next, 0, 3)) (hist.drop k).length none), m.new (.row 3 (ents k (hist.drop k)) true), from_calls hR k (by omega) (by omega) (fun h' => absurd h' h) (fun _ => ⟨rfl, rfl⟩), ?_⟩
    rw [put_some, if_pos rfl]; exact h2

/-- Do these entries rise in time? -/
def Rises (hist : List (Int × Int)) : Prop := hist.Pairwise fun a b => a.1 ≤ b.1

def timeAt (hist : List (Int × Int)) (k : Nat) : Int := match hist[k]? with
  | some e => e.1
  | none => 0

def F18 : AFn
  | [.int .i64 i, .ptr (some (c1, 0, 0)), .ptr (some (c2, 0, 0)), .ptr (some (c3, 0, 0))], m => (match m.obj c1, m.obj c2, m.obj c3 with
    | some (.row 1 [[.ptr (some (r, 0, 0))]] _), some (.row 1 [[.int .i64 first]] _), some (.row 1 [[.int .i64 t]] _) => (match m.obj r with
      | some (.row 2 [[.sl (some (q, 0, 3)) size c, .int .i64 n]] _) => (match m.obj q with
        | some (.row 3 es _) => if 1 ≤ first + i ∧ first + i ≤ 4611686018427387904 ∧ 1 ≤ size then (match es[((first + i).toNat - 1) % size]? with
          | some [.int .i64 a, .int .i64 tm, .int .i64 b] => some (.bool (decide (t ≤ tm)), m)
          | _ => none) else none
        | _ => none)
      | _ => none)
    | _, _, _ => none)
  | _, _ => none
theorem s18 : ASpec Try.prog 18 F18 := by
  intro args m r m' h
  unfold F18 at h; split at h
  · split at h
    · rename_i o1 o2 o3
      split at h
      · rename_i o4
        split at h
        · rename_i o5
          split at h
          · rename_i hc
            split at h <;> cases h
            rename_i o6
            refine run_calls x2 hm c18 (by simp) ?_
            have e1 := IntWalk.i64_in _ ⟨Int.le_trans (by decide) hc.1, Int.le_trans hc.2.1 (by decide)⟩
            simp [b18, o1, o2, o3, o4, o5, o6, F15, e1, hc]
          · cases h
        · cases h
      · cases h
    · cases h
  · cases h

abbrev L4 : List (FuncId × AFn) := (18, F18) :: L2
theorem x4 : CtxOk Try.prog (Ctx.of L4) := ctx_cons x2 s18
theorem s17 : ASpec Try.prog 17 (searchF L4) := search_spec x4 hm c17 (by omega)
noncomputable abbrev L5 : List (FuncId × AFn) := (17, searchF L4) :: L4
theorem x5 : CtxOk Try.prog (Ctx.of L5) := ctx_cons x4 s17

theorem since_nil {m : Mem} {t : Int} {K : KV} (h : K (.sl none 0 (some 0)) m) : ACalls Try.prog 9 [.ptr none, .int .i64 t] m K := by
  refine ACalls.own (run_callsW x5 hm c9 (by simp) fun hf => ?_)
  simp [b9]
  exact ⟨0, [], Own.nil _ _ _, by omega, by simp, fun q hq => by rw [if_neg (by omega), if_neg (by omega)], fun _ => h, fun h => absurd rfl h⟩

/-- Since: k is the place, among all, of the first one that is kept and isn't below t. -/
theorem since_calls {m : Mem} {r q size : Nat} {hist : List (Int × Int)} (hR : Ring m r q size hist) (hm0 : Rises hist) {t : Int} {k : Nat}
    (hk : Cut (fun i => decide (t ≤ timeAt hist (lostOf size hist + i))) (hist.length - lostOf size hist) k) {K : KV}
    (h1 : hist.drop (lostOf size hist + k) = [] → K (.sl none 0 (some 0)) m)
    (h2 : hist.drop (lostOf size hist + k) ≠ [] → K (.sl (some (m.next, 0, 3)) (hist.drop (lostOf size hist + k)).length none) (m.new (.row 3 (ents (lostOf size hist + k) (hist.drop (lostOf size hist + k))) true))) :
    ACalls Try.prog 9 [.ptr (some (r, 0, 0)), .int .i64 t] m K := by
  obtain ⟨c, es, a1, a2, a3, a4, a5⟩ := hR.ex
  have hlen := hR.len
  have s1 := hR.s1
  refine ACalls.own (run_on x5 hm c9 (by simp) fun hf => ?_)
  have f1 := hf r _ a1
  have f2 := hf q _ a2
  have e1 : (hist.length : Int) - min (hist.length : Int) size = lostOf size hist := by unfold lostOf; omega
  have e0 : min (hist.length : Int) size = ((hist.length - lostOf size hist : Nat) : Int) := by unfold lostOf; omega
  generalize hlo : lostOf size hist = lo at *
  have hlo2 : lo ≤ hist.length ∧ hist.length - lo ≤ size := by unfold lostOf at hlo; omega
  have e2 := IntWalk.i64_in ((lo : Int) + 1) (by omega)
  obtain ⟨n, hn⟩ : ∃ n, hist.length - lo = n := ⟨_, rfl⟩
  rw [hn] at hk e0
  rw [e0] at e1
  generalize hA : (Obj.row 1 [[V.ptr (some (r, 0, 0))]] true) = A
  generalize hB : (Obj.row 1 [[V.int .i64 t]] true) = B
  generalize hC : (Obj.row 1 [[V.int .i64 ((lo : Int) + 1)]] true) = C
  have hu : (((m.new A).new B).new (.row 1 [[.int .i64 0]] true)).upd (m.next + 1 + 1) (some C) = ((m.new A).new B).new C := upd_new _ _ _ rfl
  have hT : Turns (fun i => decide (t ≤ timeAt hist (lo + i))) n := by
    intro i j hij hj hi
    simp only [decide_eq_true_eq] at hi ⊢
    by_cases e : i = j
    · subst e; exact hi
    · have := List.pairwise_iff_getElem.1 hm0 (lo + i) (lo + j) (by omega) (by omega) (by omega)
      simp only [timeAt, List.getElem?_eq_getElem (show lo + i < hist.length by omega), List.getElem?_eq_getElem (show lo + j < hist.length by omega)] at hi ⊢
      omega
  have hS := searchF_eq (l := L4) (n := n) (g := 18) (caps := [.ptr (some (m.next, 0, 0)), .ptr (some (m.next + 1 + 1, 0, 0)), .ptr (some (m.next + 1, 0, 0))]) (m := ((m.new A).new B).new C) (fun i => decide (t ≤ timeAt hist (lo + i))) (by omega)
    (fun i hi => by
      obtain ⟨e, he⟩ : ∃ e, hist[lo + i]? = some e := ⟨_, List.getElem?_eq_getElem (by omega)⟩
      have := a5 (lo + i) e he (by omega)
      subst hA; subst hB; subst hC
      have e7 : ((lo : Int) + 1 + i).toNat - 1 = lo + i := by omega
      simp [F18, a1, a2, show m.next ≠ m.next + 1 + 1 by omega, show r ≠ m.next + 1 + 1 by omega, show r ≠ m.next + 1 by omega, show r ≠ m.next by omega, show q ≠ m.next + 1 + 1 by omega, show q ≠ m.next + 1 by omega, show q ≠ m.next by omega, s1, e7, this, timeAt, he]
      omega) hT hk
  have hk1 := hk.1
  have e3 := IntWalk.i64_in ((lo : Int) + 1 + k) (by omega)
  have e4 : (lo : Int) + 1 + k = ((lo + k : Nat) : Int) + 1 := by omega
  subst hA; subst hB; subst hC
  simp [b9, F11, F12, a1, show r ≠ m.next + 1 + 1 by omega, show r ≠ m.next + 1 by omega, show r ≠ m.next by omega, show m.next ≠ m.next + 1 + 1 by omega, show (hist.length : Int) ≤ 4611686018427387904 by omega, e1, e2, e0, hu, hS, e3]
  have hR2 : Ring (((m.new (.row 1 [[.ptr (some (r, 0, 0))]] true)).new (.row 1 [[.int .i64 t]] true)).new (.row 1 [[.int .i64 ((lo : Int) + 1)]] true)) r q size hist := by
    refine hR.keep ?_ ?_ <;> simp <;> (rw [if_neg (by omega), if_neg (by omega), if_neg (by omega)])
  rw [e4]
  refine from_calls hR2 (lo + k) (by omega) (by omega) (fun h => ?_) (fun h => ?_)
  · exact ⟨0, [], Own.nil _ _ _, by simp; omega, by simp, fun p hp => by simp; rw [if_neg (by omega), if_neg (by omega), if_neg (by omega)], fun _ => h1 h, fun h => absurd rfl h⟩
  · have := h2 h
    refine ⟨3, ents (lo + k) (hist.drop (lo + k)), .inr ⟨_, by rw [ents_length], by simp; omega, by simp, by simp, ?_⟩, by simp; omega, List.all_eq_true.1 (ents_flat _ _), fun p hp => ?_, fun h' => ?_, fun _ => ?_⟩
    · intro h'; exact h (List.eq_nil_of_length_eq_zero (by rw [← ents_length (lo + k), h']; rfl))
    · simp; rw [if_neg (by omega), if_neg (by omega), if_neg (by omega), if_neg (by omega)]
    · exact absurd (List.eq_nil_of_length_eq_zero (by rw [← ents_length (lo + k), h']; rfl)) h
    · rw [ents_length]; exact this

theorem ent_eq {a b c a' b' c' : Int} : ent a b c = ent a' b' c' ↔ a = a' ∧ b = b' ∧ c = c' := by simp

/-- Is it a row of entries? -/
def Ents (es : List (List V)) : Prop := ∀ x ∈ es, ∃ a b c : Int, x = ent a b c

theorem ents_Ents : ∀ (a : Nat) (l : List (Int × Int)), Ents (ents a l)
  | _, [] => fun x hx => by simp [ents] at hx
  | a, e :: l => fun x hx => by
    simp only [ents, List.mem_cons] at hx
    rcases hx with rfl | hx
    · exact ⟨_, _, _, rfl⟩
    · exact ents_Ents (a + 1) l x hx

/-- Are they the same? Shown where they are. -/
theorem same_calls {m : Mem} {x y : V} {es : List (List V)} (hx : Slc m 3 x es) (hy : Slc m 3 y es) (hE : Ents es) (hl : es.length ≤ 1000000) {K : KV} (h : K (.bool true) m) : ACalls Try.prog 14 [x, y] m K := by
  obtain ⟨a, c, rfl, ha⟩ := hx
  obtain ⟨b, d, rfl, hb⟩ := hy
  refine run_calls x2 hm c14 (by simp) ?_
  simp [b14]
  refine exec_loop (σ := Nat) (fun i => en [(0, .sl a es.length c), (1, .sl b es.length d), (12, .int .i64 es.length), (13, .int .i64 i)]) (fun _ => m) (fun i => i ≤ es.length) (fun i => es.length - i) ?_ (s := 0) ?_ ?_
  · intro i hi
    by_cases hi2 : (i : Int) < es.length
    · have hne : es ≠ [] := fun e => by subst e; simp at hi2; omega
      obtain ⟨r, j, full, rw, rfl, h1, h2, h3⟩ := ha hne
      obtain ⟨r', j', full', rw', rfl, h1', h2', h3'⟩ := hb hne
      obtain ⟨x, hx⟩ : ∃ x, es[i]? = some x := ⟨_, List.getElem?_eq_getElem (by omega)⟩
      obtain ⟨p, q, s, rfl⟩ := hE x (List.mem_of_getElem? hx)
      have g1 := h3 i (by omega)
      have g2 := h3' i (by omega)
      rw [hx] at g1 g2
      have ei := IntWalk.i64_in ((i : Int) + 1) (by omega)
      simp [hi2, h1, h1', g1, g2, ei]
      exact ⟨i + 1, by omega, by omega, rfl⟩
    · have : i = es.length := by omega
      subst this
      simp; exact h
  · omega
  · simp

end Go.Proofs.Ythclgfhlfmbjfaa
