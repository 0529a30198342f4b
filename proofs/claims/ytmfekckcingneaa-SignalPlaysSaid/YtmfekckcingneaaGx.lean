/-
  WHAT A QUEUE of signals is, and what its functions do with it, in plain words.
-/
import Derived.Test.YtmfekckcingneaaFx
namespace Go.Proofs.Ytmfekckcingneaa
open Go Go.AM
set_option linter.unusedVariables false
set_option linter.unusedSimpArgs false
set_option maxRecDepth 8000
set_option maxHeartbeats 4000000

/-- A signal: its number, from which timer, how often more. -/
abbrev Sg := Int × Int × Int
def sg (s : Sg) : List V := [.int .i64 s.1, .int .i64 s.2.1, .int .i64 s.2.2]

theorem sg_map_get {l : List Sg} {i : Nat} {s : Sg} (h : l[i]? = some s) : (l.map sg)[i]? = some (sg s) := by simp [h]
theorem sg_part (s : Sg) : partV true (sg s) 0 3 = some (.agg (sg s)) := rfl

structure Queue (m : Mem) (D : List Nat) (r : Nat) (l : List Sg) (blk : Nat → Bool) : Prop where
  ok : ∀ s ∈ l, 1 ≤ s.1 ∧ s.1 ≤ 63 ∧ 0 ≤ s.2.2 ∧ s.2.2 ≤ 2147483647
  len : l.length ≤ 32
  ex : ∃ (v : V) (B : Nat), D = r :: v.fp ∧ r < m.next ∧ m.obj r = some (.row 2 [[v, .int .u64 B]] true) ∧ Ows m 3 v (l.map sg) ∧ r ∉ v.fp ∧ B < 18446744073709551616 ∧ ∀ k, k < 64 → B.testBit k = blk k

theorem Queue.lt {m : Mem} {D : List Nat} {r : Nat} {l : List Sg} {blk : Nat → Bool} (h : Queue m D r l blk) : ∀ p ∈ D, p < m.next := by
  obtain ⟨v, B, rfl, h1, h2, h3, h4, h5⟩ := h.ex
  intro p hp
  rcases List.mem_cons.1 hp with rfl | hp
  · exact h1
  · exact h3.lt p hp
theorem Queue.keep {m m' : Mem} {D : List Nat} {r : Nat} {l : List Sg} {blk : Nat → Bool} (h : Queue m D r l blk) (hn : m.next ≤ m'.next) (ho : ∀ p ∈ D, m'.obj p = m.obj p) : Queue m' D r l blk := by
  obtain ⟨v, B, rfl, h1, h2, h3, h4, h5⟩ := h.ex
  exact ⟨h.ok, h.len, v, B, rfl, by omega, by rw [ho r (by simp)]; exact h2, h3.keep hn (fun p hp => ho p (by simp [hp])), h4, h5⟩
theorem Queue.grow {m m' : Mem} {D : List Nat} {r : Nat} {l : List Sg} {blk : Nat → Bool} (h : Queue m D r l blk) (hg : m.Grew m') : Queue m' D r l blk := h.keep hg.next fun p hp => hg.obj p (h.lt p hp)

theorem new_calls {m : Mem} {K : KV} (h : ∀ r m', Queue m' [r] r [] (fun _ => false) → m.next ≤ r → m.Grew m' → K (.ptr (some (r, 0, 0))) m') : ACalls Try.prog 7 [] m K := by
  refine run_on x1 hm c7 (by simp) fun hf => ?_
  simp (disch := omega) [b7]
  exact h m.next _ ⟨by simp, by simp, .sl none 0 (some 0), 0, rfl, by simp, by simp, Ows.nil _ _, by simp [V.fp], by simp, by simp⟩ (Nat.le_refl _) (Mem.Grew.new _ _)

/-- The place of the first one that isn't blocked. -/
def isOpen (blk : Nat → Bool) (s : Sg) : Bool := !blk s.1.toNat
def openAt (l : List Sg) (blk : Nat → Bool) : Int := idxI (isOpen blk) l

theorem idxI_map {α β : Type} (f : α → β) (p : β → Bool) (q : α → Bool) (l : List α) (h : ∀ x ∈ l, p (f x) = q x) : idxI p (l.map f) = idxI q l := by
  rcases idxI_cases q l with ⟨h1, h2⟩ | ⟨i, x, h1, h2, h3, h4⟩
  · rw [h1, idxI_none]
    intro y hy
    obtain ⟨x, hx, rfl⟩ := List.mem_map.1 hy
    rw [h x hx]; exact h2 x hx
  · rw [h1]
    refine idxI_some (x := f x) (fun y hy => ?_) (by simp [h2]) (by rw [h x (mem_of_idx h2)]; exact h3)
    rw [← List.map_take] at hy
    obtain ⟨x, hx, rfl⟩ := List.mem_map.1 hy
    rw [h x (List.mem_of_mem_take hx)]; exact h4 x hx

theorem open_nil {m : Mem} {K : KV} (h : K (.int .i64 (-1)) m) : ACalls Try.prog 18 [.ptr none] m K := by
  refine ACalls.forget (run_on x1 hm c18 (by simp) fun hf => ?_)
  simp (disch := omega) [b18, V.flat]
  exact ⟨fun q hq hq2 => by omega, h⟩

/-- What tells of an element whether it is open. -/
def openP (B : Nat) : List V → Bool
  | [.int .i64 a, _, _] => !B.testBit a.toNat
  | _ => false

theorem open_calls {m : Mem} {D : List Nat} {r : Nat} {l : List Sg} {blk : Nat → Bool} (hQ : Queue m D r l blk) {K : KV} (h : K (.int .i64 (openAt l blk)) m) : ACalls Try.prog 18 [.ptr (some (r, 0, 0))] m K := by
  obtain ⟨v, B, rfl, h1, h2, h3, h4, h5, h6⟩ := hQ.ex
  have hlen := hQ.len
  refine ACalls.forget (run_on x1 hm c18 (by simp) fun hf => ?_)
  simp (disch := omega) [b18, h2]
  refine index_calls x1 hm c16 (by omega) .agg (openP B) (h3.grow (Mem.Grew.new _ _)).sl (by simp; omega) (fun x hx => ?_) (fun x hx => ?_) ?_
  · obtain ⟨s, hs, rfl⟩ := List.mem_map.1 hx
    exact sg_part s
  · obtain ⟨s, hs, rfl⟩ := List.mem_map.1 hx
    have := hQ.ok s hs
    simp (disch := omega) [F23, sg, h2, openP]
  · have e : idxI (openP B) (l.map sg) = openAt l blk := idxI_map _ _ _ _ fun s hs => by
      have := hQ.ok s hs
      simp only [sg, openP, isOpen, h6 s.1.toNat (by omega)]
    rw [e]
    simp (disch := omega) [V.flat]
    exact ⟨fun q hq hq2 => by omega, h⟩

theorem ready_nil {m : Mem} {K : KV} (h : K (.bool false) m) : ACalls Try.prog 11 [.ptr none] m K := by
  refine run_on x1 hm c11 (by simp) fun hf => ?_
  simp (disch := omega) [b11]
  refine open_nil ?_
  simp (disch := omega); exact h
theorem ready_calls {m : Mem} {D : List Nat} {r : Nat} {l : List Sg} {blk : Nat → Bool} (hQ : Queue m D r l blk) {K : KV} (h : K (.bool (decide (0 ≤ openAt l blk))) m) : ACalls Try.prog 11 [.ptr (some (r, 0, 0))] m K := by
  refine run_on x1 hm c11 (by simp) fun hf => ?_
  simp (disch := omega) [b11]
  refine open_calls hQ ?_
  simp [-decN, -decY]; exact h

/-- Take: what is told, and what is left. -/
theorem take_calls {m : Mem} {D : List Nat} {r : Nat} {l : List Sg} {blk : Nat → Bool} (hQ : Queue m D r l blk) {K : KV}
    (h1 : openAt l blk = -1 → ∀ m', Queue m' D r l blk → Stp m m' D D → K (.tup [.agg (sg (0, 0, 0)), .bool false]) m')
    (h2 : ∀ (i : Nat) (s : Sg), openAt l blk = i → l[i]? = some s → ∀ m' D', Queue m' D' r (l.take i ++ l.drop (i + 1)) blk → Stp m m' D D' → K (.tup [.agg (sg s), .bool true]) m') : ACalls Try.prog 9 [.ptr (some (r, 0, 0))] m K := by
  refine run_on x1 hm c9 (by simp) fun hf => ?_
  have hQ1 := hQ.grow (Mem.Grew.new m (.row 3 [[.int .i64 0, .int .i64 0, .int .i64 0]] true))
  obtain ⟨v, B, rfl, g1, g2, g3, g4, g5, g6⟩ := hQ.ex
  have hlen := hQ.len
  simp (disch := omega) [b9]
  refine open_calls hQ1 ?_
  rcases idxI_cases (isOpen blk) l with ⟨e1, e2⟩ | ⟨i, s, e1, e2, e3, e4⟩
  · have e1' : openAt l blk = -1 := e1
    rw [e1']
    simp (disch := omega)
    exact h1 e1' _ hQ1 (Stp.new _ _ _)
  · have e1' : openAt l blk = i := e1
    have hi := (List.getElem?_eq_some_iff.1 e2).1
    rw [e1']
    obtain ⟨p, q, full, rw, b1, b2, b3, b4, b5⟩ := g3.sl.at (sg_map_get e2) .i64
    simp only [sg] at b4
    simp (disch := omega) [-getElem?_pos, g2, b1, b3, b4]
    have g3' := (g3.grow (Mem.Grew.new m (.row 3 [[.int .i64 0, .int .i64 0, .int .i64 0]] true))).grow (Mem.Grew.new _ (.row 3 [[.int .i64 s.1, .int .i64 s.2.1, .int .i64 s.2.2]] true))
    refine delete_calls x1 hm c19 (by omega) g3' (by simpa using hi) rfl rfl (by simp; omega) fun v' m' w1 w2 w3 w4 => ?_
    have w5 : ∀ p, p < m.next + 2 → p ∉ v.fp → m'.obj p = _ := fun p hp hd => w2.obj p (by simp; omega) hd
    have hv := g3.lt
    have o1 := w5 r (by omega) g4
    have o2 := w5 m.next (by omega) (fun e => by have := hv _ e; omega)
    have o3 := w5 (m.next + 1) (by omega) (fun e => by have := hv _ e; omega)
    simp (disch := omega) [g2] at o1 o2 o3 w3
    have v1 := w1.sl.cs
    have v2 := w1.sl.okc
    simp (disch := omega) [-getElem?_pos, o1, o2, o3, v1, v2]
    refine h2 i s e1' e2 _ (r :: v'.fp) ?_ ?_
    · refine ⟨fun t ht => hQ.ok t ?_, ?_, v', B, rfl, ?_, ?_, ?_, by rw [w4]; exact g4, g5, g6⟩
      · rcases List.mem_append.1 ht with ht | ht
        · exact List.mem_of_mem_take ht
        · exact List.mem_of_mem_drop ht
      · simp; omega
      · simp; omega
      · simp (disch := omega)
      · rw [← List.map_take, ← List.map_drop, ← List.map_append] at w1
        refine w1.keep (by simp) fun p hp => ?_
        rw [w4] at hp
        have := hv p hp
        have hpr : p ≠ r := fun e => g4 (by rw [← e]; exact hp)
        simp (disch := omega)
    · refine ⟨by simp; omega, fun p hp hd => ?_, fun p hp => ?_⟩
      · simp only [List.mem_cons, not_or] at hd
        have := hd.1
        simp (disch := omega)
        rw [w5 p (by omega) hd.2]
        simp (disch := omega)
      · rw [w4] at hp; exact .inl hp

/-- The place of a timer's signal of a number. -/
def isAt (no tm : Int) (s : Sg) : Bool := decide (s.1 = no) && decide (s.2.1 = tm)

/-- What is left behind a sending that may be, and what is told. -/
def sendL (l : List Sg) (no tm o : Int) : List Sg × Int :=
  match l.findIdx? (isAt no tm) with
  | some i => if tm = -1 then (l, 0) else (l.modify i fun s => (s.1, s.2.1, min (s.2.2 + o + 1) 2147483647), 0)
  | none => if 32 ≤ l.length then (l, 3) else (l ++ [(no, tm, o)], 0)

def atP (no tm : Int) : List V → Bool
  | [.int .i64 a, .int .i64 b, _] => decide (a = no) && decide (b = tm)
  | _ => false

theorem send_nil {m : Mem} {no tm ov : Int} {K : KV} (h : ∀ m', m.Grew m' → K (.int .i64 1) m') : ACalls Try.prog 8 [.ptr none, .int .i64 no, .int .i64 tm, .int .i64 ov] m K := by
  refine run_on x1 hm c8 (by simp) fun hf => ?_
  simp (disch := omega) [b8]
  exact h _ ((Mem.Grew.new _ _).trans (Mem.Grew.new _ _))

theorem send_calls {m : Mem} {D : List Nat} {r : Nat} {l : List Sg} {blk : Nat → Bool} (hQ : Queue m D r l blk) {no tm ov : Int} {K : KV}
    (h1 : ¬ (1 ≤ no ∧ no ≤ 63 ∧ -1 ≤ tm ∧ 0 ≤ ov) → ∀ m', Queue m' D r l blk → Stp m m' D D → K (.int .i64 2) m')
    (h2 : 1 ≤ no → no ≤ 63 → -1 ≤ tm → 0 ≤ ov → ∀ m' D', Queue m' D' r (sendL l no tm (min ov 2147483647)).1 blk → Stp m m' D D' → K (.int .i64 (sendL l no tm (min ov 2147483647)).2) m') :
    ACalls Try.prog 8 [.ptr (some (r, 0, 0)), .int .i64 no, .int .i64 tm, .int .i64 ov] m K := by
  refine run_on x1 hm c8 (by simp) fun hf => ?_
  have hgr : m.Grew ((m.new (.row 1 [[.int .i64 no]] true)).new (.row 1 [[.int .i64 tm]] true)) := (Mem.Grew.new _ _).trans (Mem.Grew.new _ _)
  have hQ1 := hQ.grow hgr
  have hS1 := Stp.grow hgr D
  by_cases c1 : 1 ≤ no
  case neg =>
    simp (disch := omega) [b8, F14]
    exact h1 (by omega) _ hQ1 hS1
  by_cases c2 : no ≤ 63
  case neg =>
    simp (disch := omega) [b8, F14]
    exact h1 (by omega) _ hQ1 hS1
  by_cases c3 : -1 ≤ tm
  case neg =>
    simp (disch := omega) [b8, F14]
    exact h1 (by omega) _ hQ1 hS1
  by_cases c4 : 0 ≤ ov
  case neg =>
    simp (disch := omega) [b8, F14]
    exact h1 (by omega) _ hQ1 hS1
  replace h2 := h2 c1 c2 c3 c4
  clear h1
  obtain ⟨v, B, rfl, g1, g2, g3, g4, g5, g6⟩ := hQ.ex
  have hlen := hQ.len
  have hmx : max ov 0 = ov := by omega
  simp (disch := omega) [b8, F14, F15, g2, hmx]
  obtain ⟨o, ho⟩ : ∃ o, min ov 2147483647 = o := ⟨_, rfl⟩
  rw [ho] at h2
  have ho2 : 0 ≤ o ∧ o ≤ 2147483647 := by omega
  rw [ho]
  refine index_calls x1 hm c16 (by omega) .agg (atP no tm) (g3.grow hgr).sl (by simp; omega) (fun x hx => ?_) (fun x hx => ?_) ?_
  · obtain ⟨s, hs, rfl⟩ := List.mem_map.1 hx
    exact sg_part s
  · obtain ⟨s, hs, rfl⟩ := List.mem_map.1 hx
    simp [F17, sg, atP]
  have e : idxI (atP no tm) (l.map sg) = idxI (isAt no tm) l := idxI_map _ _ _ _ fun s hs => rfl
  rw [e]
  rcases idxI_cases (isAt no tm) l with ⟨e1, e2⟩ | ⟨i, s, e1, e2, e3, e4⟩
  · rw [e1]
    have e5 : sendL l no tm o = if 32 ≤ l.length then (l, 3) else (l ++ [(no, tm, o)], 0) := by
      have : l.findIdx? (isAt no tm) = none := by rw [List.findIdx?_eq_none_iff]; exact e2
      simp only [sendL, this]
    have hv1 := g3.sl.lenSl
    simp only [List.length_map] at hv1
    by_cases c5 : 32 ≤ l.length
    · rw [e5, if_pos c5] at h2
      simp (disch := omega) [g2, hv1]
      exact h2 _ _ hQ1 hS1
    · rw [e5, if_neg c5] at h2
      simp (disch := omega) [g2, hv1]
      have hY := (g3.grow hgr).grow (Mem.Grew.new _ (.row 3 [[.int .i64 no, .int .i64 tm, .int .i64 o]] true))
      simp (disch := omega) [-getElem?_pos, g2, eltsOf, Mem.elts]
      have fin : ∀ (v' : V) (m' : Mem), Ows m' 3 v' (l.map sg ++ [[.int .i64 no, .int .i64 tm, .int .i64 o]]) → Stp (((m.new (.row 1 [[.int .i64 no]] true)).new (.row 1 [[.int .i64 tm]] true)).new (.row 3 [[.int .i64 no, .int .i64 tm, .int .i64 o]] true)) m' v.fp v'.fp →
          m'.obj r = some (.row 2 [[v, .int .u64 B]] true) ∧ K (.int .i64 0) (m'.upd r (some (.row 2 [[v', .int .u64 B]] true))) := by
        intro v' m' w1 w2
        have w3 := w2.obj r (by simp; omega) g4
        simp (disch := omega) [g2] at w3
        have w4 := w2.next
        simp at w4
        refine ⟨w3, h2 _ (r :: v'.fp) ⟨fun t ht => ?_, by simp; omega, v', B, rfl, by simp; omega, by simp, ?_, ?_, g5, g6⟩ ⟨by simp; omega, fun p hp hd => ?_, fun p hp => ?_⟩⟩
        · rcases List.mem_append.1 ht with ht | ht
          · exact hQ.ok t ht
          · simp at ht; subst ht; exact ⟨c1, c2, ho2.1, ho2.2⟩
        · rw [List.map_append]
          refine w1.keep (by simp) fun p hp => ?_
          rw [updO _ (fun e => ?_)]
          subst e
          rcases w2.fp p hp with q | q
          · exact g4 q
          · simp at q; omega
        · intro hr
          rcases w2.fp r hr with q | q
          · exact g4 q
          · simp at q; omega
        · simp only [List.mem_cons, not_or] at hd
          rw [updO _ hd.1, w2.obj p (by simp; omega) hd.2]
          simp (disch := omega)
        · rcases List.mem_cons.1 hp with rfl | hp
          · exact .inl (by simp)
          · rcases w2.fp p hp with q | q
            · exact .inl (by simp [q])
            · right; simp at q; omega
      all_goals
        refine hY.app (by simp; omega) (by simp; omega) fun v' m' w1 w2 w3 => ?_
        obtain ⟨k1, k2⟩ := fin v' m' w1 w2
        have v1 := w1.sl.cs
        have v2 := w1.sl.okc
        simp (disch := omega) [-getElem?_pos, k1, v1, v2]
        exact k2
  · rw [e1]
    have hi := (List.getElem?_eq_some_iff.1 e2).1
    have e5 : sendL l no tm o = if tm = -1 then (l, 0) else (l.modify i fun s => (s.1, s.2.1, min (s.2.2 + o + 1) 2147483647), 0) := by
      have : l.findIdx? (isAt no tm) = some i := by
        cases hh : l.findIdx? (isAt no tm) with
        | none => simp only [idxI, hh] at e1; omega
        | some j => simp only [idxI, hh] at e1; congr 1; omega
      simp only [sendL, this]
    have hsok := hQ.ok s (mem_of_idx e2)
    by_cases c5 : tm = -1
    · rw [e5, if_pos c5] at h2
      simp (disch := omega) [c5]
      subst c5
      exact h2 _ _ hQ1 hS1
    · rw [e5, if_neg c5] at h2
      obtain ⟨p, q, full, b1, b2, b3, b4, b5, b6⟩ := g3.at (sg_map_get e2) .i64
      simp only [sg] at b4
      have hpr : p ≠ r := fun e => g4 (by rw [b5]; simp [e])
      have hmx2 : max (s.2.2 + o + 1) 0 = s.2.2 + o + 1 := by omega
      have hmm : (l.modify i fun s => (s.1, s.2.1, min (s.2.2 + o + 1) 2147483647)).map sg = (l.map sg).set i (sg (s.1, s.2.1, min (s.2.2 + o + 1) 2147483647)) := by
        apply List.ext_getElem?
        intro j
        simp only [List.getElem?_map, List.getElem?_modify, List.getElem?_set, List.length_map]
        by_cases e : i = j
        · subst e; simp [(List.getElem?_eq_some_iff.1 e2).2, hi]
        · simp [e]
      simp (disch := omega) [c5]
      refine drawT_one ?_
      simp (disch := omega) [-getElem?_pos, g2, b1, b3, b4, F15, hmx2, Env.none]
      refine h2 _ (r :: v.fp) ⟨fun t ht => ?_, by simp; exact hlen, v, B, rfl, by simp; omega, by simp (disch := omega) [g2], ?_, g4, g5, g6⟩ ⟨by simp; omega, fun x hx hd => ?_, fun x hx => .inl hx⟩
      · obtain ⟨j, hj⟩ := List.mem_iff_getElem?.1 ht
        rw [List.getElem?_modify] at hj
        by_cases e : i = j
        · subst e
          simp [e2] at hj
          subst hj
          exact ⟨hsok.1, hsok.2.1, by simp; omega, by simp; omega⟩
        · simp [e] at hj
          exact hQ.ok t (mem_of_idx hj)
      · rw [hmm]
        exact b6 _ _ (by simp [sg]) (by simp; omega)
      · simp only [List.mem_cons, not_or, b5] at hd
        have := hd.2.1
        simp (disch := omega)

/-- Block. -/
theorem block_calls {m : Mem} {D : List Nat} {r : Nat} {l : List Sg} {blk : Nat → Bool} (hQ : Queue m D r l blk) {no : Int} {yes : Bool} {K : KV}
    (h1 : ¬ (1 ≤ no ∧ no ≤ 63) → K (.bool false) m)
    (h2 : 1 ≤ no → no ≤ 63 → ∀ m', Queue m' D r l (fun k => if k = no.toNat then yes else blk k) → Stp m m' D D → K (.bool (blk no.toNat)) m') : ACalls Try.prog 10 [.ptr (some (r, 0, 0)), .int .i64 no, .bool yes] m K := by
  refine run_on x1 hm c10 (by simp) fun hf => ?_
  by_cases c1 : 1 ≤ no
  case neg =>
    simp (disch := omega) [b10, F14]
    exact h1 (by omega)
  by_cases c2 : no ≤ 63
  case neg =>
    simp (disch := omega) [b10, F14]
    exact h1 (by omega)
  replace h2 := h2 c1 c2
  obtain ⟨a, rfl⟩ : ∃ a : Nat, no = a := ⟨no.toNat, by omega⟩
  obtain ⟨v, B, rfl, g1, g2, g3, g4, g5, g6⟩ := hQ.ex
  have e1 : min a 64 = a := by omega
  have e2 : IntKind.u64.wrap ((2 : Int) ^ a) = ((2 ^ a : Nat) : Int) := by
    have hp : 2 ^ a < 18446744073709551616 := by
      have : 2 ^ a < 2 ^ 64 := Nat.pow_lt_pow_right (by omega) (by omega)
      simpa using this
    have h2 : ((2 : Int) ^ a) = ((2 ^ a : Nat) : Int) := by simp
    rw [h2]
    generalize 2 ^ a = y at hp ⊢
    exact wu64 (by omega) (by omega)
  have q1 := was_bit B a g5 (by omega)
  obtain ⟨B1, q2, q3, q4⟩ := clear_bit B a g5 (by omega)
  obtain ⟨B2, q5, q6, q7⟩ := set_bit B1 a q3 (by omega)
  have v1 := g3.sl.cs
  have v2 := g3.sl.okc
  have ew : (!decide (IntKind.u64.wrap (((BitVec.ofInt 64 (B : Int)) &&& BitVec.ofInt 64 ((2 ^ a : Nat) : Int)).toNat : Nat) = 0)) = blk a := by
    rw [← g6 a (by omega)]
    cases hb : B.testBit a with
    | false => rw [decide_eq_true (q1.2 hb)]; rfl
    | true => rw [decide_eq_false (fun e => by have := q1.1 e; rw [hb] at this; cases this)]; rfl
  simp only [Int.toNat_natCast] at h2
  have hk : ∀ (yes : Bool) (B' : Nat), B' < 18446744073709551616 → (∀ k, k < 64 → B'.testBit k = if k = a then yes else blk k) → Queue (m.upd r (some (.row 2 [[v, .int .u64 B']] true))) (r :: v.fp) r l (fun k => if k = a then yes else blk k) := by
    intro yes B' hB' hb
    refine ⟨hQ.ok, hQ.len, v, B', rfl, by simpa using g1, by simp, g3.keep (by simp) fun p hp => ?_, g4, hB', hb⟩
    rw [updO _ (fun e => g4 (by rw [← e]; exact hp))]
  have q1' : decide (bAnd .u64 B (2 ^ a) = 0) = !blk a := by
    have : bAnd .u64 B (2 ^ a) = IntKind.u64.wrap (((BitVec.ofInt 64 (B : Int)) &&& BitVec.ofInt 64 ((2 ^ a : Nat) : Int)).toNat : Nat) := by simp only [bAnd, bits_u64, Int.natCast_pow]; rfl
    rw [this, ← ew, Bool.not_not]
  have q2' : bAndNot .u64 B (2 ^ a) = B1 := by
    rw [← q2]; simp only [bAndNot, bits_u64, Int.natCast_pow]; rfl
  have q5' : bOr .u64 B1 (2 ^ a) = B2 := by
    rw [← q5]; simp only [bOr, bits_u64, Int.natCast_pow]; rfl
  have e2' : IntKind.u64.wrap ((2 : Int) ^ a) = (2 : Int) ^ a := by rw [e2]; simp
  have hr : ∀ o o' : Option AM.Obj, (m.upd r o).upd r o' = m.upd r o' := fun o o' => upd_upd _ _ _
  cases yes with
  | false =>
    simp (disch := omega) [b10, F14, g2, e1, e2', v1, v2, q1', q2']
    exact h2 _ (hk false B1 q3 (fun k hk => by rw [q4 k hk, g6 k hk]; by_cases e : k = a <;> simp [e])) (Stp.upd _ (by simp) _)
  | true =>
    simp (disch := omega) [b10, F14, g2, e1, e2', v1, v2, q1', q2', q5']
    exact h2 _ (hk true B2 q6 (fun k hk => by rw [q7 k hk, q4 k hk, g6 k hk]; by_cases e : k = a <;> simp [e])) (Stp.upd _ (by simp) _)

/-- Waiting: all that wait, in a slice of one's own. -/
theorem waiting_calls {m : Mem} {D : List Nat} {r : Nat} {l : List Sg} {blk : Nat → Bool} (hQ : Queue m D r l blk) {K : KV}
    (h : ∀ v' m', Ows m' 3 v' (l.map sg) → m.Grew m' → (∀ p ∈ v'.fp, m.next ≤ p) → K v' m') : ACalls Try.prog 13 [.ptr (some (r, 0, 0))] m K := by
  obtain ⟨v, B, rfl, g1, g2, g3, g4, g5, g6⟩ := hQ.ex
  have hlen := hQ.len
  refine run_on x1 hm c13 (by simp) fun hf => ?_
  simp (disch := omega) [b13, g2]
  refine clone_calls x1 hm c22 (by omega) g3.sl (by simp; omega) (by simp; omega) fun v' m' w1 w2 w3 => ?_
  simp (disch := omega)
  exact h v' m' w1 w2 w3

def tmP (tm : Int) : List V → Bool
  | [_, .int .i64 b, _] => decide (b = tm)
  | _ => false

/-- Drop. -/
theorem drop_calls {m : Mem} {D : List Nat} {r : Nat} {l : List Sg} {blk : Nat → Bool} (hQ : Queue m D r l blk) {tm : Int} {K : KV}
    (h : ∀ m' D', Queue m' D' r (l.filter fun s => !decide (s.2.1 = tm)) blk → Stp m m' D D' → K (.int .i64 (l.length - (l.filter fun s => !decide (s.2.1 = tm)).length)) m') : ACalls Try.prog 12 [.ptr (some (r, 0, 0)), .int .i64 tm] m K := by
  obtain ⟨v, B, rfl, g1, g2, g3, g4, g5, g6⟩ := hQ.ex
  have hlen := hQ.len
  have hv1 := g3.sl.lenSl
  simp only [List.length_map] at hv1
  refine run_on x1 hm c12 (by simp) fun hf => ?_
  simp (disch := omega) [b12, g2, hv1]
  refine deleteFunc_calls x1 hm c16 (by omega) (fun _ _ => rfl) c20 (by omega) (tmP tm) (g3.grow (Mem.Grew.new _ _)) (fun x hx => ?_) rfl rfl (by simp; omega) (fun M h1 h2 x hx => ?_) fun v' m' w1 w2 w3 => ?_
  · obtain ⟨s, hs, rfl⟩ := List.mem_map.1 hx
    exact ⟨rfl, rfl⟩
  · obtain ⟨s, hs, rfl⟩ := List.mem_map.1 hx
    have := h2 m.next (by simp) (fun e => by have := g3.lt _ e; omega)
    simp at this
    simp [F21, sg, this, tmP]
  have hfl : (l.map sg).filter (fun x => !tmP tm x) = (l.filter fun s => !decide (s.2.1 = tm)).map sg := by
    rw [List.filter_map]; rfl
  rw [hfl] at w1
  have k1 := w2.obj r (by simp; omega) g4
  simp (disch := omega) [g2] at k1
  have v1 := w1.sl.cs
  have v2 := w1.sl.okc
  have v3 := w1.sl.lenSl
  simp only [List.length_map] at v3
  have hn := w2.next
  simp at hn
  have hll : (l.filter fun s => !decide (s.2.1 = tm)).length ≤ l.length := List.length_filter_le _ _
  simp (disch := omega) [k1, v1, v2, v3]
  refine h _ (r :: v'.fp) ⟨fun s hs => hQ.ok s ((List.mem_filter.1 hs).1), by omega, v', B, rfl, by simp; omega, by simp, ?_, by rw [w3]; exact g4, g5, g6⟩ ⟨by simp; omega, fun p hp hd => ?_, fun p hp => ?_⟩
  · refine w1.keep (by simp) fun p hp => ?_
    rw [updO _ (fun e => g4 (by rw [← e, ← w3]; exact hp))]
  · simp only [List.mem_cons, not_or] at hd
    rw [updO _ hd.1, w2.obj p (by simp; omega) hd.2]
    simp (disch := omega)
  · rw [w3] at hp; exact .inl hp

/-! ### the facts -/

def F6 : AFn
  | [], m => some (.bool true, m)
  | _, _ => none
theorem s6 : ASpec Try.prog 6 F6 := by
  intro args m r m' h
  unfold F6 at h; split at h <;> cases h
  exact reckon hm codeOk 20 20 rfl rfl (by kernel_rfl) _

abbrev L2 : List (FuncId × AFn) := [(6, F6)]
theorem x2 : CtxOk Try.prog (Ctx.of L2) := ctx_cons (ctx_nil _) s6

end Go.Proofs.Ytmfekckcingneaa
