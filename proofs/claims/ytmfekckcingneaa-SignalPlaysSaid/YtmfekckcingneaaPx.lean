/-
  SIGNALPLAYS: what is sent, taken, blocked and dropped, beside a plain row.
-/
import Derived.Test.YtmfekckcingneaaGx
import Derived.Test.YtmfekckcingneaaAm29
namespace Go.Proofs.Ytmfekckcingneaa
open Go Go.AM
set_option linter.unusedVariables false
set_option linter.unusedSimpArgs false
set_option maxRecDepth 60000
set_option maxHeartbeats 8000000

theorem act_of {m : Mem} {e : List V} (h : Is m (.struct [.int .u8, .int .i64, .int .i64, .int .i64, .bool]) e) : ∃ k no tm ov y, e = [.int .u8 k, .int .i64 no, .int .i64 tm, .int .i64 ov, .bool y] ∧ 0 ≤ k ∧ k ≤ 255 ∧ (-9223372036854775808 ≤ ov ∧ ov ≤ 9223372036854775807) := by
  simp only [Is, Iss] at h
  obtain ⟨a, b, rfl, ⟨k, rfl, hk⟩, c, d, rfl, ⟨no, rfl, _⟩, e, f, rfl, ⟨tm, rfl, _⟩, g, h, rfl, ⟨ov, rfl, hov⟩, i, j, rfl, ⟨y, rfl⟩, rfl⟩ := h
  have := wf_u8 hk
  have ho : -9223372036854775808 ≤ ov ∧ ov ≤ 9223372036854775807 := by
    have := wf_int hov
    simpa [IntKind.min, IntKind.max, IntKind.signed, IntKind.bits] using this
  exact ⟨k, no, tm, ov, y, rfl, this.1, this.2, ho⟩

/-- No two of one number and one timer. -/
def Uni (L : List Sg) : Prop := L.Pairwise fun a b => ¬ (a.1 = b.1 ∧ a.2.1 = b.2.1)
structure Ply (n0 : Nat) (M : Mem) (r q2 : Nat) (L : List Sg) (D : List Nat) (u : V) (B : List (Int × V)) (blk : Nat → Bool) : Prop where
  Q : Queue M D r L blk
  U : Exa M 3 u (L.map sg)
  ob : M.obj q2 = some (.map (mapI B))
  lt : q2 < M.next
  hB : ∀ a : Int, 1 ≤ a → a ≤ 63 → getI B a = some (.bool (blk a.toNat)) ∨ (getI B a = none ∧ blk a.toNat = false)
  dUQ : ∀ p ∈ u.fp, p ∉ D
  d2 : q2 ∉ D ∧ q2 ∉ u.fp
  uni : Uni L
  lo : n0 ≤ M.next ∧ (∀ p ∈ D, n0 ≤ p) ∧ (∀ p ∈ u.fp, n0 ≤ p) ∧ n0 ≤ q2
theorem Ply.grow {n0 : Nat} {M M' : Mem} {r q2 : Nat} {L : List Sg} {D : List Nat} {u : V} {B : List (Int × V)} {blk : Nat → Bool} (h : Ply n0 M r q2 L D u B blk) (g : M.Grew M') : Ply n0 M' r q2 L D u B blk :=
  ⟨h.Q.grow g, h.U.grow g, by rw [g.obj q2 h.lt]; exact h.ob, by have := g.next; have := h.lt; omega, h.hB, h.dUQ, h.d2, h.uni, by have := g.next; have := h.lo.1; omega, h.lo.2⟩
theorem Ply.look {n0 : Nat} {M : Mem} {r q2 : Nat} {L : List Sg} {D : List Nat} {u : V} {B : List (Int × V)} {blk : Nat → Bool} (h : Ply n0 M r q2 L D u B blk) {a : Int} (h1 : 1 ≤ a) (h2 : a ≤ 63) : lookupV (.bool false) false M (.map (some q2)) (.int .i64 a) = some (.bool (blk a.toNat)) := by
  rw [lookupV_map, h.ob]
  simp only [findM_mapI]
  rcases h.hB a h1 h2 with e | ⟨e, e2⟩
  · rw [e]; rfl
  · rw [e, e2]; rfl
/-- The queue turned; the row did too, apart. -/
theorem Ply.stepQ {n0 : Nat} {M M' : Mem} {r q2 : Nat} {L L' : List Sg} {D D' : List Nat} {u : V} {B : List (Int × V)} {blk blk' : Nat → Bool} (h : Ply n0 M r q2 L D u B blk) (hQ : Queue M' D' r L' blk') (s : Stp M M' D D') (hL : L' = L) (hb : blk' = blk) : Ply n0 M' r q2 L D' u B blk := by
  subst hL; subst hb
  refine ⟨hQ, h.U.keep s.next fun p hp => s.obj p (h.U.ows.lt p hp) (h.dUQ p hp), by rw [s.obj q2 h.lt h.d2.1]; exact h.ob, by have := s.next; have := h.lt; omega, h.hB, fun p hp hd => ?_, ⟨fun hd => ?_, h.d2.2⟩, h.uni, by have := s.next; have := h.lo.1; omega, s.ge h.lo.1 h.lo.2.1, h.lo.2.2⟩
  · exact s.apart (fun p hp => h.U.ows.lt p hp) (fun p hp hd => h.dUQ p hd hp) p hd hp
  · rcases s.fp q2 hd with q | q
    · exact h.d2.1 q
    · have := h.lt; omega

/-- First the row turned, then the queue. -/
theorem Ply.both {n0 : Nat} {M M3 : Mem} {r q2 : Nat} {L L' : List Sg} {D : List Nat} {u u' : V} {B : List (Int × V)} {blk : Nat → Bool} (h : Ply n0 M r q2 L D u B blk) (s1 : Stp M M3 u.fp u'.fp) (hU : Exa M3 3 u' (L'.map sg)) : Queue M3 D r L blk ∧
    ∀ M4 D', Queue M4 D' r L' blk → Stp M3 M4 D D' → Uni L' → Ply n0 M4 r q2 L' D' u' B blk := by
  have hD : ∀ p ∈ D, p ∉ u.fp := fun p hp hu => h.dUQ p hu hp
  have a1 : ∀ p ∈ u'.fp, p ∉ D := s1.apart h.Q.lt h.dUQ
  have a2 : q2 ∉ u'.fp := fun hq => by
    rcases s1.fp q2 hq with e | e
    · exact h.d2.2 e
    · have := h.lt; omega
  refine ⟨h.Q.keep s1.next fun p hp => s1.obj p (h.Q.lt p hp) (hD p hp), fun M4 D' hQ s2 hu => ?_⟩
  have lt3 : q2 < M3.next := by have := h.lt; have := s1.next; omega
  refine ⟨hQ, hU.keep s2.next fun p hp => s2.obj p (hU.ows.lt p hp) (a1 p hp), ?_, by have := s2.next; omega, h.hB, fun p hp hd => ?_, ⟨fun hd => ?_, a2⟩, hu, by have := s1.next; have := s2.next; have := h.lo.1; omega, s2.ge (by have := s1.next; have := h.lo.1; omega) h.lo.2.1, s1.ge h.lo.1 h.lo.2.2.1, h.lo.2.2.2⟩
  · rw [s2.obj q2 lt3 h.d2.1, s1.obj q2 h.lt h.d2.2]; exact h.ob
  · exact s2.apart (fun p hp => hU.ows.lt p hp) (fun p hp hd => a1 p hd hp) p hd hp
  · rcases s2.fp q2 hd with e | e
    · exact h.d2.1 e
    · omega

/-- First the queue turned, then the row, of new. -/
theorem Ply.both' {n0 : Nat} {M M3 : Mem} {r q2 : Nat} {L L' : List Sg} {D D' : List Nat} {u : V} {B : List (Int × V)} {blk : Nat → Bool} (h : Ply n0 M r q2 L D u B blk) (hQ : Queue M3 D' r L' blk) (s1 : Stp M M3 D D') : Exa M3 3 u (L.map sg) ∧ n0 ≤ M3.next ∧
    ∀ M4 u', M3.Grew M4 → (∀ p ∈ u'.fp, M3.next ≤ p) → Exa M4 3 u' (L'.map sg) → Uni L' → Ply n0 M4 r q2 L' D' u' B blk := by
  have hn := s1.next
  have h0 := h.lo.1
  refine ⟨h.U.keep s1.next fun p hp => s1.obj p (h.U.ows.lt p hp) (h.dUQ p hp), by omega, fun M4 u' g hfp hU hu => ?_⟩
  have hlt := h.lt
  have gn := g.next
  refine ⟨hQ.grow g, hU, by rw [g.obj q2 (by omega), s1.obj q2 h.lt h.d2.1]; exact h.ob, by omega, h.hB, fun p hp hd => ?_, ⟨fun hd => ?_, fun hu' => ?_⟩, hu, by omega, s1.ge h.lo.1 h.lo.2.1, fun p hp => by have := hfp p hp; omega, h.lo.2.2.2⟩
  · have := hfp p hp
    have := hQ.lt p hd
    omega
  · rcases s1.fp q2 hd with e | e
    · exact h.d2.1 e
    · omega
  · have := hfp q2 hu'; omega
theorem cut_sub' {α : Type} (l : List α) (i : Nat) : (l.take i ++ l.drop (i + 1)).Sublist l := by
  conv => rhs; rw [← List.take_append_drop i l]
  exact List.Sublist.append (List.Sublist.refl _) (List.drop_sublist_drop_left _ (by omega))
theorem Uni.sub {L L' : List Sg} (h : Uni L) (hs : L'.Sublist L) : Uni L' := List.Pairwise.sublist hs h

/-- A number is blocked, or isn't any more. -/
theorem Ply.block {n0 : Nat} {M M3 : Mem} {r q2 : Nat} {L : List Sg} {D : List Nat} {u : V} {B : List (Int × V)} {blk : Nat → Bool} {no : Int} {y : Bool} (h : Ply n0 M r q2 L D u B blk) (h1 : 1 ≤ no) (h2 : no ≤ 63) (hQ : Queue M3 D r L (fun k => if k = no.toNat then y else blk k)) (s1 : Stp M M3 D D) :
    lookupV (.bool false) false M3 (.map (some q2)) (.int .i64 no) = some (.bool (blk no.toNat)) ∧ M3.obj q2 = some (.map (mapI B)) ∧
    Ply n0 (M3.upd q2 (some (.map (mapI (putI B no (.bool y)))))) r q2 L D u (putI B no (.bool y)) (fun k => if k = no.toNat then y else blk k) := by
  have hn := s1.next
  have h0 := h.lo.1
  have hlt := h.lt
  have ob : M3.obj q2 = some (.map (mapI B)) := by rw [s1.obj q2 h.lt h.d2.1]; exact h.ob
  have hU := h.U.keep s1.next fun p hp => s1.obj p (h.U.ows.lt p hp) (h.dUQ p hp)
  refine ⟨?_, ob, ?_⟩
  · rw [lookupV_map, ob]
    simp only [findM_mapI]
    rcases h.hB no h1 h2 with e | ⟨e, e2⟩
    · rw [e]; rfl
    · rw [e, e2]; rfl
  · refine ⟨hQ.keep (Nat.le_refl _) fun p hp => ?_, hU.keep (Nat.le_refl _) fun p hp => ?_, by rw [upd_obj, if_pos rfl], by show q2 < M3.next; omega, fun a b1 b2 => ?_, h.dUQ, h.d2, h.uni, by show n0 ≤ M3.next; omega, h.lo.2⟩
    · rw [upd_obj, if_neg fun e => h.d2.1 (by rw [← e]; exact hp)]
    · rw [upd_obj, if_neg fun e => h.d2.2 (by rw [← e]; exact hp)]
    · rw [getI_put]
      by_cases e : a = no
      · subst e; rw [if_pos rfl]; left; simp
      · rw [if_neg e]
        have : a.toNat ≠ no.toNat := by omega
        simp only [if_neg this]
        exact h.hB a b1 b2

/-- The first one that isn't blocked, of those from one on. -/
def Fst (L : List Sg) (blk : Nat → Bool) (k : Nat) (f : Int) : Prop :=
  (f = -1 ∧ ∀ j s, k ≤ j → L[j]? = some s → blk s.1.toNat = true) ∨ ∃ (n : Nat) (s : Sg), f = n ∧ k ≤ n ∧ L[n]? = some s ∧ blk s.1.toNat = false ∧ ∀ j t, k ≤ j → j < n → L[j]? = some t → blk t.1.toNat = true
theorem Fst.open {L : List Sg} {blk : Nat → Bool} {f : Int} (h : Fst L blk 0 f) : f = openAt L blk := by
  rcases h with ⟨rfl, h⟩ | ⟨n, s, rfl, _, h1, h2, h3⟩
  · exact (idxI_none fun x hx => by
      obtain ⟨j, hj⟩ := List.mem_iff_getElem?.1 hx
      simp [isOpen, h j x (by omega) hj]).symm
  · refine (idxI_some (x := s) (fun y hy => ?_) h1 (by simp [isOpen, h2])).symm
    obtain ⟨j, hj⟩ := List.mem_iff_getElem?.1 hy
    have hjn : j < n := by
      have := (List.getElem?_eq_some_iff.1 hj).1
      simp at this; omega
    rw [List.getElem?_take_of_lt hjn] at hj
    simp [isOpen, h3 j y (by omega) hjn hj]

theorem Uni.idx {L : List Sg} (h : Uni L) {i j : Nat} {a b : Sg} (hi : L[i]? = some a) (hj : L[j]? = some b) (e1 : a.1 = b.1) (e2 : a.2.1 = b.2.1) : i = j := by
  have hil := (List.getElem?_eq_some_iff.1 hi).1
  have hjl := (List.getElem?_eq_some_iff.1 hj).1
  have ha : L[i] = a := (List.getElem?_eq_some_iff.1 hi).2
  have hb : L[j] = b := (List.getElem?_eq_some_iff.1 hj).2
  rcases Nat.lt_trichotomy i j with q | q | q
  · exact absurd ⟨by rw [ha, hb]; exact e1, by rw [ha, hb]; exact e2⟩ ((List.pairwise_iff_getElem.1 h) i j hil hjl q)
  · exact q
  · exact absurd ⟨by rw [ha, hb]; exact e1.symm, by rw [ha, hb]; exact e2.symm⟩ ((List.pairwise_iff_getElem.1 h) j i hjl hil q)
/-- The place, going through all. -/
def Pla (L : List Sg) (no tm : Int) (i : Nat) (f : Int) : Prop :=
  (f = -1 ∧ ∀ x ∈ L.take i, isAt no tm x = false) ∨ ∃ (n : Nat) (s : Sg), f = n ∧ n < i ∧ L[n]? = some s ∧ isAt no tm s = true
theorem Pla.zero (L : List Sg) (no tm : Int) : Pla L no tm 0 (-1) := .inl ⟨rfl, by simp⟩
theorem isAt_iff {no tm : Int} {s : Sg} : isAt no tm s = true ↔ s.1 = no ∧ s.2.1 = tm := by simp [isAt]
theorem Pla.skip {L : List Sg} {no tm f : Int} {i : Nat} {s : Sg} (h : Pla L no tm i f) (hs : L[i]? = some s) (hn : ¬ (s.1 = no ∧ s.2.1 = tm)) : Pla L no tm (i + 1) f := by
  rcases h with ⟨rfl, h⟩ | ⟨n, t, rfl, h1, h2, h3⟩
  · refine .inl ⟨rfl, fun x hx => ?_⟩
    rw [takeS hs] at hx
    rcases List.mem_append.1 hx with q | q
    · exact h x q
    · rw [List.mem_singleton.1 q, ← Bool.not_eq_true, isAt_iff]; exact hn
  · exact .inr ⟨n, t, rfl, by omega, h2, h3⟩
theorem Pla.found {L : List Sg} {no tm : Int} {i : Nat} {s : Sg} (hs : L[i]? = some s) (h : s.1 = no ∧ s.2.1 = tm) : Pla L no tm (i + 1) i := .inr ⟨i, s, rfl, by omega, hs, isAt_iff.2 h⟩
theorem Pla.done {L : List Sg} {no tm f : Int} (hu : Uni L) (h : Pla L no tm L.length f) : (f = -1 ∧ L.findIdx? (isAt no tm) = none) ∨ ∃ (n : Nat) (s : Sg), f = n ∧ L[n]? = some s ∧ s.1 = no ∧ s.2.1 = tm ∧ L.findIdx? (isAt no tm) = some n := by
  rcases h with ⟨rfl, h⟩ | ⟨n, t, rfl, h1, h2, h3⟩
  · rw [List.take_length] at h
    exact .inl ⟨rfl, by rw [List.findIdx?_eq_none_iff]; exact h⟩
  · rw [isAt_iff] at h3
    refine .inr ⟨n, t, rfl, h2, h3.1, h3.2, ?_⟩
    rw [List.findIdx?_eq_some_iff_getElem]
    have hn := (List.getElem?_eq_some_iff.1 h2)
    refine ⟨hn.1, by rw [hn.2]; exact isAt_iff.2 h3, fun j hj hp => ?_⟩
    rw [isAt_iff] at hp
    have hjl : j < L.length := by omega
    have := hu.idx (List.getElem?_eq_getElem hjl) h2 (by rw [hp.1, h3.1]) (by rw [hp.2, h3.2])
    omega

theorem Uni.app {L : List Sg} (h : Uni L) {no tm o : Int} (hf : L.findIdx? (isAt no tm) = none) : Uni (L ++ [(no, tm, o)]) := by
  rw [List.findIdx?_eq_none_iff] at hf
  unfold Uni
  rw [List.pairwise_append]
  refine ⟨h, by simp, fun a ha b hb => ?_⟩
  rw [List.mem_singleton.1 hb]
  have := hf a ha
  rw [← Bool.not_eq_true, isAt_iff] at this
  exact this
/-- How often more, of one. -/
def more (L : List Sg) (x : Nat) (o : Int) : List Sg := L.modify x fun s => (s.1, s.2.1, min (s.2.2 + o + 1) 2147483647)
theorem more_length (L : List Sg) (x : Nat) (o : Int) : (more L x o).length = L.length := by simp [more]
theorem more_get {L : List Sg} {x : Nat} {o : Int} {i : Nat} {t : Sg} (h : (more L x o)[i]? = some t) : ∃ s, L[i]? = some s ∧ t.1 = s.1 ∧ t.2.1 = s.2.1 := by
  unfold more at h
  rw [List.getElem?_modify] at h
  cases hs : L[i]? with
  | none => rw [hs] at h; cases h
  | some s =>
    rw [hs] at h
    refine ⟨s, rfl, ?_⟩
    split at h
    · simp at h; subst h; exact ⟨rfl, rfl⟩
    · simp at h; subst h; exact ⟨rfl, rfl⟩
theorem Uni.more {L : List Sg} (h : Uni L) (x : Nat) (o : Int) : Uni (more L x o) := by
  refine List.pairwise_iff_getElem.2 fun i j hi hj hij hq => ?_
  obtain ⟨a, a1, a2, a3⟩ := more_get (List.getElem?_eq_getElem hi)
  obtain ⟨b, b1, b2, b3⟩ := more_get (List.getElem?_eq_getElem hj)
  have := h.idx a1 b1 (by rw [← a2, ← b2]; exact hq.1) (by rw [← a3, ← b3]; exact hq.2)
  omega
theorem more_sg {L : List Sg} {x : Nat} {s : Sg} (hs : L[x]? = some s) (o : Int) : (more L x o).map sg = (L.map sg).set x (sg (s.1, s.2.1, min (s.2.2 + o + 1) 2147483647)) := by
  apply List.ext_getElem?
  intro j
  simp only [more, List.getElem?_map, List.getElem?_modify, List.getElem?_set, List.length_map]
  have hi := (List.getElem?_eq_some_iff.1 hs).1
  by_cases e : x = j
  · subst e; simp [(List.getElem?_eq_some_iff.1 hs).2, hi]
  · simp [e]

theorem plays (m0 : Mem) (x0 : V) (h0 : IsV m0 (.slice 5 (.struct [.int .u8, .int .i64, .int .i64, .int .i64, .bool])) x0) : ACalls Try.prog 5 [x0] m0 (fun r _ => r = .bool true) := by
  refine run_on x2 hm c5 (by simp) fun hf => ?_
  obtain ⟨es, hv, hle, hes⟩ := h0.slR hf
  have hv1 := hv.lenSl
  have hml : maxLen ≤ 9223372036854775807 := by decide
  obtain ⟨N, hN⟩ : ∃ N, es.length = N := ⟨_, rfl⟩
  rw [hN] at hv1 hle
  by_cases h120 : (120 : Int) < N
  · simp (disch := omega) [-getElem?_pos, b5, F6, hv1]
  simp (disch := omega) [-getElem?_pos, b5, F6, hv1]
  refine new_calls fun r m1 hQ1 hr1 g1 => ?_
  have hr1' := hQ1.lt r (by simp)
  simp (disch := omega) [-getElem?_pos, hv1]
  have gM := Mem.Grew.new m1 (.map [])
  refine exec_loopU (σ := Nat × List Sg × List Nat × V × List (Int × V) × (Nat → Bool) × Mem) (fun (i, _, _, u, _, _, _) => [(4, u), (32, .int .i64 i)]) (fun (_, _, _, _, _, _, M) => M)
    (fun (i, L, D, u, B, blk, M) => i ≤ N ∧ Ply m0.next M r m1.next L D u B blk ∧ m0.Grew M) (fun (i, _, _, _, _, _, _) => N - i) (0, [], [r], .sl none 0 (some 0), [], fun _ => false, m1.new (.map [])) rfl
    (by dsimp only; exact ⟨by omega, ⟨hQ1.grow gM, Exa.nil _ _, by simp [mapI], by simp, fun a _ _ => .inr ⟨rfl, rfl⟩, by simp [V.fp], ⟨by simp; omega, by simp [V.fp]⟩, List.Pairwise.nil, by have := g1.next; simp; omega, by simpa using hr1, by simp [V.fp], by have := g1.next; omega⟩, g1.trans gM⟩) (by simp) ?_
  generalize m1.next = q2
  clear hQ1 hr1 g1 hr1' gM
  intro (i, L, D, u, B, blk, M) ⟨a1, hP, gM⟩
  by_cases hi : i < N
  case neg => simp (disch := omega) [-getElem?_pos]
  obtain ⟨e, he⟩ : ∃ e, es[i]? = some e := ⟨_, List.getElem?_eq_getElem (by omega)⟩
  obtain ⟨kk, no, tm, ov, y, rfl, hk0, hk1, hov⟩ := act_of (hes e (mem_of_idx he))
  obtain ⟨p, q, full, rw, z1, z2, z3, z4, _⟩ := (hv.grow gM).at he .i64
  have hU1 := hP.U.ows.sl.lenSl
  rw [List.length_map] at hU1
  obtain ⟨n, hn⟩ : ∃ n, L.length = n := ⟨_, rfl⟩
  have hQok := hP.Q.ok
  have hn32 : n ≤ 32 := by rw [← hn]; exact hP.Q.len
  rw [hn] at hU1
  have gN := Mem.Grew.new M (.row 5 [[.int .u8 kk, .int .i64 no, .int .i64 tm, .int .i64 ov, .bool y]] true)
  have oA : (M.new (.row 5 [[.int .u8 kk, .int .i64 no, .int .i64 tm, .int .i64 ov, .bool y]] true)).obj M.next = some (.row 5 [[.int .u8 kk, .int .i64 no, .int .i64 tm, .int .i64 ov, .bool y]] true) := by simp
  have bA : M.next < (M.new (.row 5 [[.int .u8 kk, .int .i64 no, .int .i64 tm, .int .i64 ov, .bool y]] true)).next := by simp
  have hP' := hP.grow gN
  simp (disch := omega) [-getElem?_pos, z1, z3, z4, hU1]
  generalize M.new (.row 5 [[.int .u8 kk, .int .i64 no, .int .i64 tm, .int .i64 ov, .bool y]] true) = M1 at *
  generalize hA : M.next = A at *
  replace gM := gM.trans gN
  -- none of the queue's, and none of the row's, is the act's
  have hAD : A ∉ D ∧ A ∉ u.fp ∧ A ≠ q2 := ⟨fun h => by have := hP.Q.lt A h; omega, fun h => by have := hP.U.ows.lt A h; omega, by have := hP.lt; omega⟩
  clear hP z1 z2 z3 z4 gN he
  replace hP := hP'
  clear hP'
  refine exec_loopU (σ := Nat × Int) (fun (k, f) => [(8, .int .i64 f), (9, .int .i64 ((k : Int) - 1))]) (fun _ => M1) (fun (k, f) => k ≤ n ∧ Fst L blk k f ∧ -1 ≤ f ∧ f < 32) (fun (k, _) => k) (n, -1) rfl
    (by dsimp only; exact ⟨by omega, .inl ⟨rfl, fun j s h1 h2 => by have := (List.getElem?_eq_some_iff.1 h2).1; omega⟩, by omega, by omega⟩) (by simp) ?_
  intro (k, f) ⟨b1, b2, b3, b4⟩
  by_cases hk : k = 0
  case neg =>
    obtain ⟨j, rfl⟩ : ∃ j, k = j + 1 := ⟨k - 1, by omega⟩
    obtain ⟨s, hs⟩ : ∃ s, L[j]? = some s := ⟨_, List.getElem?_eq_getElem (by omega)⟩
    obtain ⟨p, q, full, rw, z1, z2, z3, z4, _⟩ := hP.U.ows.sl.at (sg_map_get hs) .i64
    simp only [sg] at z4
    have sok := hQok s (mem_of_idx hs)
    have hlk := hP.look sok.1 sok.2.1
    cases hb : blk s.1.toNat with
    | true =>
      rw [hb] at hlk
      simp (disch := omega) [-getElem?_pos, -lookupV_map, z1, z3, z4, hlk]
      exact again_mk (j, f) (by
        dsimp only
        refine ⟨by omega, ?_, b3, b4⟩
        rcases b2 with ⟨rfl, h⟩ | ⟨m, t, rfl, h1, h2, h3, h4⟩
        · refine .inl ⟨rfl, fun x t hx ht => ?_⟩
          by_cases e : x = j
          · subst e; rw [hs] at ht; injection ht with ht; subst ht; exact hb
          · exact h x t (by omega) ht
        · refine .inr ⟨m, t, rfl, by omega, h2, h3, fun x t' hx hx2 ht => ?_⟩
          by_cases e : x = j
          · subst e; rw [hs] at ht; injection ht with ht; subst ht; exact hb
          · exact h4 x t' (by omega) hx2 ht) (by dsimp only; omega) (by simp) rfl
    | false =>
      rw [hb] at hlk
      simp (disch := omega) [-getElem?_pos, -lookupV_map, z1, z3, z4, hlk]
      exact again_mk (j, j) (by
        dsimp only
        exact ⟨by omega, .inr ⟨j, s, rfl, Nat.le_refl _, hs, hb, fun x t' hx hx2 ht => by omega⟩, by omega, by omega⟩) (by dsimp only; omega) (by simp) rfl
  subst hk
  have hf := b2.open
  subst hf
  clear b1 b2
  simp (disch := omega) [-getElem?_pos]
  refine ready_calls hP.Q ?_
  have hrem : kk.tmod 4 = 0 ∨ kk.tmod 4 = 1 ∨ kk.tmod 4 = 2 ∨ kk.tmod 4 = 3 := by
    rw [Int.tmod_eq_emod_of_nonneg hk0]; omega
  rcases hrem with hq | hq | hq | hq
  · -- sent
    simp (disch := omega) [-getElem?_pos, oA, hq, hU1]
    refine exec_loopU (σ := Nat × Int × Mem) (fun (k, f, _) => [(10, .int .i64 f), (64, .int .i64 k)]) (fun (_, _, M) => M) (fun (k, f, M) => k ≤ n ∧ Pla L no tm k f ∧ M1.Grew M) (fun (k, _, _) => n - k) (0, -1, M1) rfl
      (by dsimp only; exact ⟨by omega, Pla.zero L no tm, Mem.Grew.refl M1⟩) (by simp) ?_
    intro (k, f, M2) ⟨d1, d2, d3⟩
    have oA2 : M2.obj A = some (.row 5 [[.int .u8 kk, .int .i64 no, .int .i64 tm, .int .i64 ov, .bool y]] true) := by rw [d3.obj A bA]; exact oA
    by_cases hkn : k < n
    · obtain ⟨s, hs⟩ : ∃ s, L[k]? = some s := ⟨_, List.getElem?_eq_getElem (by omega)⟩
      obtain ⟨p, q, full, rw, z1, z2, z3, z4, _⟩ := (hP.grow d3).U.ows.sl.at (sg_map_get hs) .i64
      simp only [sg] at z4
      have gS := Mem.Grew.new M2 (.row 3 [[.int .i64 s.1, .int .i64 s.2.1, .int .i64 s.2.2]] true)
      have bA2 : A < M2.next := by have := d3.next; omega
      by_cases e1 : s.1 = no
      · by_cases e2 : s.2.1 = tm
        · simp (disch := omega) [-getElem?_pos, z1, z3, z4, oA2, e1, e2]
          exact again_mk (k + 1, k, _) (by dsimp only; exact ⟨by omega, Pla.found hs ⟨e1, e2⟩, d3.trans (by rw [← e1, ← e2]; exact gS)⟩) (by dsimp only; omega) (by simp) rfl
        · simp (disch := omega) [-getElem?_pos, z1, z3, z4, oA2, e1, e2]
          exact again_mk (k + 1, f, _) (by dsimp only; exact ⟨by omega, d2.skip hs (fun h => e2 h.2), d3.trans (by rw [← e1]; exact gS)⟩) (by dsimp only; omega) (by simp) rfl
      · simp (disch := omega) [-getElem?_pos, z1, z3, z4, oA2, e1]
        exact again_mk (k + 1, f, _) (by dsimp only; exact ⟨by omega, d2.skip hs (fun h => e1 h.1), d3.trans gS⟩) (by dsimp only; omega) (by simp) rfl
    have : k = n := by omega
    subst this
    rw [← hn] at d2
    have hdone := d2.done hP.uni
    have hP2 := hP.grow d3
    have gM2 := gM.trans d3
    have bA2 : A < M2.next := by have := d3.next; omega
    clear d2 d3 hP oA bA
    replace hn : L.length = k := hn
    by_cases hr : 1 ≤ no ∧ no ≤ 63 ∧ -1 ≤ tm ∧ 0 ≤ ov
    case neg =>
      have tail : ∀ {K : KV}, (∀ LT DT bT uT MT nT (hT : Ply m0.next MT r q2 LT DT uT B bT) (gT : m0.Grew MT) (hTl : LT.length = nT), LT = L → uT = u → bT = blk → K (.int .i64 2) MT) → ACalls Try.prog 8 [.ptr (some (r, 0, 0)), .int .i64 no, .int .i64 tm, .int .i64 ov] M2 K := fun hK =>
        send_calls hP2.Q (fun _ m' hQ' st => hK L D blk u m' k (hP2.stepQ hQ' st rfl rfl) (st.toGrew gM2 hP2.lo.2.1) hn rfl rfl rfl) (fun h1 h2 h3 h4 => absurd ⟨h1, h2, h3, h4⟩ hr)
      by_cases c1 : no < 1
      · simp (disch := omega) [-getElem?_pos, oA2]
        refine tail fun LT DT bT uT MT nT hT gT hTl e1 e2 e3 => ?_
        subst e1; subst e2; subst e3
        simp (disch := omega) [-getElem?_pos]
        refine waiting_calls hT.Q fun vw Mw how gw fpw => ?_
        have hTw := hT.grow gw
        have w1 := how.sl.lenSl
        have w2 := hTw.U.ows.sl.lenSl
        have w3 := hTw.Q.len
        rw [List.length_map] at w1 w2
        rw [hTl] at w1 w2 w3
        simp (disch := omega) [-getElem?_pos, w1, w2]
        refine exec_loopU (σ := Nat) (fun j => [(254, .int .i64 j)]) (fun _ => Mw) (fun j => j ≤ nT) (fun j => nT - j) 0 rfl (by exact Nat.zero_le _) (by simp) ?_
        intro j hj
        by_cases hjn : j < nT
        · obtain ⟨s, hs⟩ : ∃ s, LT[j]? = some s := ⟨_, List.getElem?_eq_getElem (by omega)⟩
          obtain ⟨p1, q1, full1, rw1, y1, y2, y3, y4, _⟩ := how.sl.at (sg_map_get hs) .i64
          obtain ⟨p3, q3, full3, rw3, x1, x2, x3, x4, _⟩ := hTw.U.ows.sl.at (sg_map_get hs) .i64
          simp only [sg] at y4 x4
          simp (disch := omega) [-getElem?_pos, y1, y3, y4, x1, x3, x4]
          exact again_mk (j + 1) (by exact hjn) (by omega) (by simp) rfl
        · have hj2 : j = nT := by omega
          simp (disch := omega) [-getElem?_pos]
          exact again_mk (i + 1, _, _, _, _, _, Mw) (by dsimp only; exact ⟨by omega, hTw, gT.trans gw⟩) (by dsimp only; omega) (by simp) rfl
      · by_cases c2 : 63 < no
        · simp (disch := omega) [-getElem?_pos, oA2]
          refine tail fun LT DT bT uT MT nT hT gT hTl e1 e2 e3 => ?_
          subst e1; subst e2; subst e3
          simp (disch := omega) [-getElem?_pos]
          refine waiting_calls hT.Q fun vw Mw how gw fpw => ?_
          have hTw := hT.grow gw
          have w1 := how.sl.lenSl
          have w2 := hTw.U.ows.sl.lenSl
          have w3 := hTw.Q.len
          rw [List.length_map] at w1 w2
          rw [hTl] at w1 w2 w3
          simp (disch := omega) [-getElem?_pos, w1, w2]
          refine exec_loopU (σ := Nat) (fun j => [(254, .int .i64 j)]) (fun _ => Mw) (fun j => j ≤ nT) (fun j => nT - j) 0 rfl (by exact Nat.zero_le _) (by simp) ?_
          intro j hj
          by_cases hjn : j < nT
          · obtain ⟨s, hs⟩ : ∃ s, LT[j]? = some s := ⟨_, List.getElem?_eq_getElem (by omega)⟩
            obtain ⟨p1, q1, full1, rw1, y1, y2, y3, y4, _⟩ := how.sl.at (sg_map_get hs) .i64
            obtain ⟨p3, q3, full3, rw3, x1, x2, x3, x4, _⟩ := hTw.U.ows.sl.at (sg_map_get hs) .i64
            simp only [sg] at y4 x4
            simp (disch := omega) [-getElem?_pos, y1, y3, y4, x1, x3, x4]
            exact again_mk (j + 1) (by exact hjn) (by omega) (by simp) rfl
          · have hj2 : j = nT := by omega
            simp (disch := omega) [-getElem?_pos]
            exact again_mk (i + 1, _, _, _, _, _, Mw) (by dsimp only; exact ⟨by omega, hTw, gT.trans gw⟩) (by dsimp only; omega) (by simp) rfl
        · by_cases c3 : tm < -1
          · simp (disch := omega) [-getElem?_pos, oA2]
            refine tail fun LT DT bT uT MT nT hT gT hTl e1 e2 e3 => ?_
            subst e1; subst e2; subst e3
            simp (disch := omega) [-getElem?_pos]
            refine waiting_calls hT.Q fun vw Mw how gw fpw => ?_
            have hTw := hT.grow gw
            have w1 := how.sl.lenSl
            have w2 := hTw.U.ows.sl.lenSl
            have w3 := hTw.Q.len
            rw [List.length_map] at w1 w2
            rw [hTl] at w1 w2 w3
            simp (disch := omega) [-getElem?_pos, w1, w2]
            refine exec_loopU (σ := Nat) (fun j => [(254, .int .i64 j)]) (fun _ => Mw) (fun j => j ≤ nT) (fun j => nT - j) 0 rfl (by exact Nat.zero_le _) (by simp) ?_
            intro j hj
            by_cases hjn : j < nT
            · obtain ⟨s, hs⟩ : ∃ s, LT[j]? = some s := ⟨_, List.getElem?_eq_getElem (by omega)⟩
              obtain ⟨p1, q1, full1, rw1, y1, y2, y3, y4, _⟩ := how.sl.at (sg_map_get hs) .i64
              obtain ⟨p3, q3, full3, rw3, x1, x2, x3, x4, _⟩ := hTw.U.ows.sl.at (sg_map_get hs) .i64
              simp only [sg] at y4 x4
              simp (disch := omega) [-getElem?_pos, y1, y3, y4, x1, x3, x4]
              exact again_mk (j + 1) (by exact hjn) (by omega) (by simp) rfl
            · have hj2 : j = nT := by omega
              simp (disch := omega) [-getElem?_pos]
              exact again_mk (i + 1, _, _, _, _, _, Mw) (by dsimp only; exact ⟨by omega, hTw, gT.trans gw⟩) (by dsimp only; omega) (by simp) rfl
          · simp (disch := omega) [-getElem?_pos, oA2]
            refine tail fun LT DT bT uT MT nT hT gT hTl e1 e2 e3 => ?_
            subst e1; subst e2; subst e3
            simp (disch := omega) [-getElem?_pos]
            refine waiting_calls hT.Q fun vw Mw how gw fpw => ?_
            have hTw := hT.grow gw
            have w1 := how.sl.lenSl
            have w2 := hTw.U.ows.sl.lenSl
            have w3 := hTw.Q.len
            rw [List.length_map] at w1 w2
            rw [hTl] at w1 w2 w3
            simp (disch := omega) [-getElem?_pos, w1, w2]
            refine exec_loopU (σ := Nat) (fun j => [(254, .int .i64 j)]) (fun _ => Mw) (fun j => j ≤ nT) (fun j => nT - j) 0 rfl (by exact Nat.zero_le _) (by simp) ?_
            intro j hj
            by_cases hjn : j < nT
            · obtain ⟨s, hs⟩ : ∃ s, LT[j]? = some s := ⟨_, List.getElem?_eq_getElem (by omega)⟩
              obtain ⟨p1, q1, full1, rw1, y1, y2, y3, y4, _⟩ := how.sl.at (sg_map_get hs) .i64
              obtain ⟨p3, q3, full3, rw3, x1, x2, x3, x4, _⟩ := hTw.U.ows.sl.at (sg_map_get hs) .i64
              simp only [sg] at y4 x4
              simp (disch := omega) [-getElem?_pos, y1, y3, y4, x1, x3, x4]
              exact again_mk (j + 1) (by exact hjn) (by omega) (by simp) rfl
            · have hj2 : j = nT := by omega
              simp (disch := omega) [-getElem?_pos]
              exact again_mk (i + 1, _, _, _, _, _, Mw) (by dsimp only; exact ⟨by omega, hTw, gT.trans gw⟩) (by dsimp only; omega) (by simp) rfl
    obtain ⟨r1, r2, r3, r4⟩ := hr
    have emx : max ov 0 = ov := by omega
    obtain ⟨o, ho⟩ : ∃ o, min ov 2147483647 = o := ⟨_, rfl⟩
    have ho2 : 0 ≤ o ∧ o ≤ 2147483647 := by omega
    have hA2 : A ∉ u.fp := hAD.2.1
    rcases hdone with ⟨rfl, hfi⟩ | ⟨x, s, rfl, hs, s1, s2, hfi⟩
    · have e5 : sendL L no tm o = if 32 ≤ L.length then (L, 3) else (L ++ [(no, tm, o)], 0) := by simp only [sendL, hfi]
      by_cases c5 : 32 ≤ k
      · rw [if_pos (by omega)] at e5
        simp (disch := omega) [-getElem?_pos, oA2, emx, ho, hU1]
        refine send_calls hP2.Q (fun h => absurd ⟨r1, r2, r3, r4⟩ h) fun _ _ _ _ m' D' hQ' st => ?_
        rw [ho, e5] at hQ' ⊢
        have hT := hP2.stepQ hQ' st rfl rfl
        have gT := st.toGrew gM2 hP2.lo.2.1
        obtain ⟨LT, hLT⟩ : ∃ LT, L = LT := ⟨_, rfl⟩
        obtain ⟨nT, hnT⟩ : ∃ nT, k = nT := ⟨_, rfl⟩
        have hTl : LT.length = nT := by rw [← hLT, ← hnT]; exact hn
        rw [hLT] at hT
        simp (disch := omega) [-getElem?_pos]
        refine waiting_calls hT.Q fun vw Mw how gw fpw => ?_
        have hTw := hT.grow gw
        have w1 := how.sl.lenSl
        have w2 := hTw.U.ows.sl.lenSl
        have w3 := hTw.Q.len
        rw [List.length_map] at w1 w2
        rw [hTl] at w1 w2 w3
        simp (disch := omega) [-getElem?_pos, w1, w2]
        refine exec_loopU (σ := Nat) (fun j => [(254, .int .i64 j)]) (fun _ => Mw) (fun j => j ≤ nT) (fun j => nT - j) 0 rfl (by exact Nat.zero_le _) (by simp) ?_
        intro j hj
        by_cases hjn : j < nT
        · obtain ⟨s, hs⟩ : ∃ s, LT[j]? = some s := ⟨_, List.getElem?_eq_getElem (by omega)⟩
          obtain ⟨p1, q1, full1, rw1, y1, y2, y3, y4, _⟩ := how.sl.at (sg_map_get hs) .i64
          obtain ⟨p3, q3, full3, rw3, x1, x2, x3, x4, _⟩ := hTw.U.ows.sl.at (sg_map_get hs) .i64
          simp only [sg] at y4 x4
          simp (disch := omega) [-getElem?_pos, y1, y3, y4, x1, x3, x4]
          exact again_mk (j + 1) (by exact hjn) (by omega) (by simp) rfl
        · have hj2 : j = nT := by omega
          simp (disch := omega) [-getElem?_pos]
          exact again_mk (i + 1, _, _, _, _, _, Mw) (by dsimp only; exact ⟨by omega, hTw, gT.trans gw⟩) (by dsimp only; omega) (by simp) rfl
      · rw [if_neg (by omega)] at e5
        simp (disch := omega) [-getElem?_pos, oA2, emx, ho, hU1, eltsOf, Mem.elts]
        have gS := Mem.Grew.new M2 (.row 3 [[.int .i64 no, .int .i64 tm, .int .i64 o]] true)
        have hP3 := hP2.grow gS
        have oA3 : (M2.new (.row 3 [[.int .i64 no, .int .i64 tm, .int .i64 o]] true)).obj A = some (.row 5 [[.int .u8 kk, .int .i64 no, .int .i64 tm, .int .i64 ov, .bool y]] true) := by rw [gS.obj A bA2]; exact oA2
        have bA3 : A < (M2.new (.row 3 [[.int .i64 no, .int .i64 tm, .int .i64 o]] true)).next := by simp; omega
        refine hP3.U.app (by rw [List.length_map]; simp; omega) (by rw [List.length_map]; simp; omega) fun u' M3 w1 w2 w3 => ?_
        have oA4 : M3.obj A = some (.row 5 [[.int .u8 kk, .int .i64 no, .int .i64 tm, .int .i64 ov, .bool y]] true) := by rw [w2.obj A bA3 hA2]; exact oA3
        have hb := hP3.both (L' := L ++ [(no, tm, o)]) w2 (by rw [List.map_append]; exact w1)
        have gM3 := w2.toGrew (gM2.trans gS) hP2.lo.2.2.1
        simp (disch := omega) [-getElem?_pos, oA4]
        refine send_calls hb.1 (fun h => absurd ⟨r1, r2, r3, r4⟩ h) fun _ _ _ _ m' D' hQ' st => ?_
        rw [ho, e5] at hQ' ⊢
        have hT := hb.2 m' D' hQ' st (hP2.uni.app hfi)
        have gT := st.toGrew gM3 hP2.lo.2.1
        obtain ⟨LT, hLT⟩ : ∃ LT, L ++ [(no, tm, o)] = LT := ⟨_, rfl⟩
        obtain ⟨nT, hnT⟩ : ∃ nT, k + 1 = nT := ⟨_, rfl⟩
        have hTl : LT.length = nT := by rw [← hLT, ← hnT, List.length_append, hn]; rfl
        rw [hLT] at hT
        simp (disch := omega) [-getElem?_pos]
        refine waiting_calls hT.Q fun vw Mw how gw fpw => ?_
        have hTw := hT.grow gw
        have w1 := how.sl.lenSl
        have w2 := hTw.U.ows.sl.lenSl
        have w3 := hTw.Q.len
        rw [List.length_map] at w1 w2
        rw [hTl] at w1 w2 w3
        simp (disch := omega) [-getElem?_pos, w1, w2]
        refine exec_loopU (σ := Nat) (fun j => [(254, .int .i64 j)]) (fun _ => Mw) (fun j => j ≤ nT) (fun j => nT - j) 0 rfl (by exact Nat.zero_le _) (by simp) ?_
        intro j hj
        by_cases hjn : j < nT
        · obtain ⟨s, hs⟩ : ∃ s, LT[j]? = some s := ⟨_, List.getElem?_eq_getElem (by omega)⟩
          obtain ⟨p1, q1, full1, rw1, y1, y2, y3, y4, _⟩ := how.sl.at (sg_map_get hs) .i64
          obtain ⟨p3, q3, full3, rw3, x1, x2, x3, x4, _⟩ := hTw.U.ows.sl.at (sg_map_get hs) .i64
          simp only [sg] at y4 x4
          simp (disch := omega) [-getElem?_pos, y1, y3, y4, x1, x3, x4]
          exact again_mk (j + 1) (by exact hjn) (by omega) (by simp) rfl
        · have hj2 : j = nT := by omega
          simp (disch := omega) [-getElem?_pos]
          exact again_mk (i + 1, _, _, _, _, _, Mw) (by dsimp only; exact ⟨by omega, hTw, gT.trans gw⟩) (by dsimp only; omega) (by simp) rfl
    · by_cases c6 : tm = -1
      · have e5 : sendL L no tm o = (L, 0) := by simp only [sendL, hfi]; rw [if_pos c6]
        simp (disch := omega) [-getElem?_pos, oA2, emx, ho, hU1]
        refine send_calls hP2.Q (fun h => absurd ⟨r1, r2, r3, r4⟩ h) fun _ _ _ _ m' D' hQ' st => ?_
        rw [ho, e5] at hQ' ⊢
        have hT := hP2.stepQ hQ' st rfl rfl
        have gT := st.toGrew gM2 hP2.lo.2.1
        obtain ⟨LT, hLT⟩ : ∃ LT, L = LT := ⟨_, rfl⟩
        obtain ⟨nT, hnT⟩ : ∃ nT, k = nT := ⟨_, rfl⟩
        have hTl : LT.length = nT := by rw [← hLT, ← hnT]; exact hn
        rw [hLT] at hT
        simp (disch := omega) [-getElem?_pos]
        refine waiting_calls hT.Q fun vw Mw how gw fpw => ?_
        have hTw := hT.grow gw
        have w1 := how.sl.lenSl
        have w2 := hTw.U.ows.sl.lenSl
        have w3 := hTw.Q.len
        rw [List.length_map] at w1 w2
        rw [hTl] at w1 w2 w3
        simp (disch := omega) [-getElem?_pos, w1, w2]
        refine exec_loopU (σ := Nat) (fun j => [(254, .int .i64 j)]) (fun _ => Mw) (fun j => j ≤ nT) (fun j => nT - j) 0 rfl (by exact Nat.zero_le _) (by simp) ?_
        intro j hj
        by_cases hjn : j < nT
        · obtain ⟨s, hs⟩ : ∃ s, LT[j]? = some s := ⟨_, List.getElem?_eq_getElem (by omega)⟩
          obtain ⟨p1, q1, full1, rw1, y1, y2, y3, y4, _⟩ := how.sl.at (sg_map_get hs) .i64
          obtain ⟨p3, q3, full3, rw3, x1, x2, x3, x4, _⟩ := hTw.U.ows.sl.at (sg_map_get hs) .i64
          simp only [sg] at y4 x4
          simp (disch := omega) [-getElem?_pos, y1, y3, y4, x1, x3, x4]
          exact again_mk (j + 1) (by exact hjn) (by omega) (by simp) rfl
        · have hj2 : j = nT := by omega
          simp (disch := omega) [-getElem?_pos]
          exact again_mk (i + 1, _, _, _, _, _, Mw) (by dsimp only; exact ⟨by omega, hTw, gT.trans gw⟩) (by dsimp only; omega) (by simp) rfl
      · have e5 : sendL L no tm o = (more L x o, 0) := by simp only [sendL, hfi]; rw [if_neg c6]; rfl
        have hx := (List.getElem?_eq_some_iff.1 hs).1
        have hsok := hQok s (mem_of_idx hs)
        obtain ⟨q', c, rfl, hq1, hq2, hq3⟩ : ∃ q' c, u = .sl (some (q', 0, 3)) k c ∧ q' < M2.next ∧ M2.obj q' = some (.row 3 (L.map sg) true) ∧ (c = none ∨ c = some k) := by
          rcases hP2.U.ex with ⟨_, e⟩ | ⟨q', c, rfl, h1, h2, h3⟩
          · have : L = [] := by simpa using e
            subst this; simp at hx
          · rw [List.length_map, hn] at h3; exact ⟨q', c, by rw [List.length_map, hn], h1, h2, h3⟩
        have gx := sg_map_get hs
        simp only [sg] at gx
        have es := more_sg hs o
        simp only [sg] at es
        have hAq : A ≠ q' := fun e => hA2 (by simp [V.fp, e])
        have lnm : (L.map sg).length = k := by rw [List.length_map]; exact hn
        simp (disch := omega) [-getElem?_pos, oA2, emx, ho, hU1, hq2, gx, lnm]
        have hb := hP2.both (L' := more L x o) (Stp.upd M2 (r := q') (D := (V.sl (some (q', 0, 3)) k c).fp) (by simp [V.fp]) (some (.row 3 ((more L x o).map sg) true))) ⟨.inr ⟨q', c, by rw [List.length_map, more_length, hn], by simpa using hq1, by simp, by rw [List.length_map, more_length, hn]; exact hq3⟩⟩
        have gM3 := gM2.upd (r := q') (hP2.lo.2.2.1 q' (by simp [V.fp])) (some (.row 3 ((more L x o).map sg) true))
        rw [← es]
        have oA4 : (M2.upd q' (some (.row 3 ((more L x o).map sg) true))).obj A = some (.row 5 [[.int .u8 kk, .int .i64 no, .int .i64 tm, .int .i64 ov, .bool y]] true) := by rw [upd_obj, if_neg hAq]; exact oA2
        generalize M2.upd q' (some (.row 3 ((more L x o).map sg) true)) = M3 at *
        refine send_calls hb.1 (fun h => absurd ⟨r1, r2, r3, r4⟩ h) fun _ _ _ _ m' D' hQ' st => ?_
        rw [ho, e5] at hQ' ⊢
        have hT := hb.2 m' D' hQ' st (hP2.uni.more x o)
        have gT := st.toGrew gM3 hP2.lo.2.1
        obtain ⟨LT, hLT⟩ : ∃ LT, more L x o = LT := ⟨_, rfl⟩
        obtain ⟨nT, hnT⟩ : ∃ nT, k = nT := ⟨_, rfl⟩
        have hTl : LT.length = nT := by rw [← hLT, ← hnT, more_length, hn]
        rw [hLT] at hT
        simp (disch := omega) [-getElem?_pos]
        refine waiting_calls hT.Q fun vw Mw how gw fpw => ?_
        have hTw := hT.grow gw
        have w1 := how.sl.lenSl
        have w2 := hTw.U.ows.sl.lenSl
        have w3 := hTw.Q.len
        rw [List.length_map] at w1 w2
        rw [hTl] at w1 w2 w3
        simp (disch := omega) [-getElem?_pos, w1, w2]
        refine exec_loopU (σ := Nat) (fun j => [(254, .int .i64 j)]) (fun _ => Mw) (fun j => j ≤ nT) (fun j => nT - j) 0 rfl (by exact Nat.zero_le _) (by simp) ?_
        intro j hj
        by_cases hjn : j < nT
        · obtain ⟨s, hs⟩ : ∃ s, LT[j]? = some s := ⟨_, List.getElem?_eq_getElem (by omega)⟩
          obtain ⟨p1, q1, full1, rw1, y1, y2, y3, y4, _⟩ := how.sl.at (sg_map_get hs) .i64
          obtain ⟨p3, q3, full3, rw3, x1, x2, x3, x4, _⟩ := hTw.U.ows.sl.at (sg_map_get hs) .i64
          simp only [sg] at y4 x4
          simp (disch := omega) [-getElem?_pos, y1, y3, y4, x1, x3, x4]
          exact again_mk (j + 1) (by exact hjn) (by omega) (by simp) rfl
        · have hj2 : j = nT := by omega
          simp (disch := omega) [-getElem?_pos]
          exact again_mk (i + 1, _, _, _, _, _, Mw) (by dsimp only; exact ⟨by omega, hTw, gT.trans gw⟩) (by dsimp only; omega) (by simp) rfl
  · -- taken
    simp (disch := omega) [-getElem?_pos, oA, hq, hU1]
    refine take_calls hP.Q (fun hop m' hQ' st => ?_) (fun x s hop hs m' D' hQ' st => ?_)
    · have hT := hP.stepQ hQ' st rfl rfl
      have gT := st.toGrew gM hP.lo.2.1
      have gS := Mem.Grew.new m' (.row 3 [[.int .i64 0, .int .i64 0, .int .i64 0]] true)
      replace hT := hT.grow gS
      replace gT := gT.trans gS
      obtain ⟨LT, hLT⟩ : ∃ LT, L = LT := ⟨_, rfl⟩
      obtain ⟨nT, hnT⟩ : ∃ nT, n = nT := ⟨_, rfl⟩
      have hTl : LT.length = nT := by rw [← hLT, ← hnT]; exact hn
      rw [hLT] at hT
      simp (disch := omega) [-getElem?_pos, hop, sg]
      refine waiting_calls hT.Q fun vw Mw how gw fpw => ?_
      have hTw := hT.grow gw
      have w1 := how.sl.lenSl
      have w2 := hTw.U.ows.sl.lenSl
      have w3 := hTw.Q.len
      rw [List.length_map] at w1 w2
      rw [hTl] at w1 w2 w3
      simp (disch := omega) [-getElem?_pos, w1, w2]
      refine exec_loopU (σ := Nat) (fun j => [(254, .int .i64 j)]) (fun _ => Mw) (fun j => j ≤ nT) (fun j => nT - j) 0 rfl (by exact Nat.zero_le _) (by simp) ?_
      intro j hj
      by_cases hjn : j < nT
      · obtain ⟨s, hs⟩ : ∃ s, LT[j]? = some s := ⟨_, List.getElem?_eq_getElem (by omega)⟩
        obtain ⟨p1, q1, full1, rw1, y1, y2, y3, y4, _⟩ := how.sl.at (sg_map_get hs) .i64
        obtain ⟨p3, q3, full3, rw3, x1, x2, x3, x4, _⟩ := hTw.U.ows.sl.at (sg_map_get hs) .i64
        simp only [sg] at y4 x4
        simp (disch := omega) [-getElem?_pos, y1, y3, y4, x1, x3, x4]
        exact again_mk (j + 1) (by exact hjn) (by omega) (by simp) rfl
      · have hj2 : j = nT := by omega
        simp (disch := omega) [-getElem?_pos]
        exact again_mk (i + 1, _, _, _, _, _, Mw) (by dsimp only; exact ⟨by omega, hTw, gT.trans gw⟩) (by dsimp only; omega) (by simp) rfl
    · have hx := (List.getElem?_eq_some_iff.1 hs).1
      obtain ⟨hU3, hn3, hb⟩ := hP.both' hQ' st
      have gM3 := st.toGrew gM hP.lo.2.1
      have gS := Mem.Grew.new m' (.row 3 [sg s] true)
      have gE := Mem.Grew.new (m'.new (.row 3 [sg s] true)) (.row 3 [] true)
      have hU4 := hU3.grow gS
      obtain ⟨p, q, full, rw, z1, z2, z3, z4, _⟩ := hU3.ows.sl.at (sg_map_get hs) .i64
      obtain ⟨w1, cr1, cr2, _⟩ := hU4.ows.sl.cutR .i64 x (by rw [List.length_map]; omega)
      obtain ⟨w2, cl1, cl2, _⟩ := hU4.ows.sl.cutL .i64 (x + 1) (by rw [List.length_map]; omega)
      rw [show ((x + 1 : Nat) : Int) = (x : Int) + 1 by omega] at cl1
      have el1 := (cr2.grow gE).elts
      simp only [sg] at z4 z3 el1 cr1 cl1 gS gE hU4
      simp (disch := omega) [-getElem?_pos, -sliceX_sl, hop, sg, z1, z3, z4, cr1, cl1, el1]
      have x0' : Exa ((m'.new (.row 3 [[.int .i64 s.1, .int .i64 s.2.1, .int .i64 s.2.2]] true)).new (.row 3 [] true)) 3 (.sl (some ((m'.new (.row 3 [[.int .i64 s.1, .int .i64 s.2.1, .int .i64 s.2.2]] true)).next, 0, 3)) 0 (some 0)) [] := Exa.lit rfl
      have ggE := gS.trans gE
      simp only [new_next] at x0'
      refine x0'.app (by simp; omega) (by simp; omega) fun v2 M5 e1 e2 e3 => ?_
      have g5 := e2.toGrew gE (fun p hp => by simp [V.fp] at hp ⊢; omega)
      have g5' := gS.trans g5
      have el2 := (cl2.grow g5).elts
      have f2 := e2.ge (n := m'.next) (by simp; omega) (fun p hp => by simp [V.fp] at hp; omega)
      have hlen2 : (L.map sg).length = n := by rw [List.length_map]; exact hn
      simp (disch := omega) [-getElem?_pos, el2]
      refine e1.app (by simp; omega) (by simp; omega) fun v3 M6 e4 e5 e6 => ?_
      have g6 := e5.toGrew g5' f2
      have f3 := e5.ge (n := m'.next) g5'.next f2
      have hT := hb M6 v3 g6 f3 (by rw [List.map_append, List.map_take, List.map_drop]; simpa using e4) (hP.uni.sub (cut_sub' L x))
      have gT := gM3.trans g6
      obtain ⟨LT, hLT⟩ : ∃ LT, L.take x ++ L.drop (x + 1) = LT := ⟨_, rfl⟩
      obtain ⟨nT, hnT⟩ : ∃ nT, n - 1 = nT := ⟨_, rfl⟩
      have hTl : LT.length = nT := by rw [← hLT, ← hnT, List.length_append, List.length_take, List.length_drop]; omega
      rw [hLT] at hT
      clear e1 e2 e4 e5 el1 el2 cr1 cr2 cl1 cl2 hb x0' f2 f3 g5 g6 g5'
      simp (disch := omega) [-getElem?_pos]
      refine waiting_calls hT.Q fun vw Mw how gw fpw => ?_
      have hTw := hT.grow gw
      have w1 := how.sl.lenSl
      have w2 := hTw.U.ows.sl.lenSl
      have w3 := hTw.Q.len
      rw [List.length_map] at w1 w2
      rw [hTl] at w1 w2 w3
      simp (disch := omega) [-getElem?_pos, w1, w2]
      refine exec_loopU (σ := Nat) (fun j => [(254, .int .i64 j)]) (fun _ => Mw) (fun j => j ≤ nT) (fun j => nT - j) 0 rfl (by exact Nat.zero_le _) (by simp) ?_
      intro j hj
      by_cases hjn : j < nT
      · obtain ⟨s, hs⟩ : ∃ s, LT[j]? = some s := ⟨_, List.getElem?_eq_getElem (by omega)⟩
        obtain ⟨p1, q1, full1, rw1, y1, y2, y3, y4, _⟩ := how.sl.at (sg_map_get hs) .i64
        obtain ⟨p3, q3, full3, rw3, x1, x2, x3, x4, _⟩ := hTw.U.ows.sl.at (sg_map_get hs) .i64
        simp only [sg] at y4 x4
        simp (disch := omega) [-getElem?_pos, y1, y3, y4, x1, x3, x4]
        exact again_mk (j + 1) (by exact hjn) (by omega) (by simp) rfl
      · have hj2 : j = nT := by omega
        simp (disch := omega) [-getElem?_pos]
        exact again_mk (i + 1, _, _, _, _, _, Mw) (by dsimp only; exact ⟨by omega, hTw, gT.trans gw⟩) (by dsimp only; omega) (by simp) rfl
  · -- blocked
    by_cases hin : 1 ≤ no ∧ no ≤ 63
    · obtain ⟨r1, r2⟩ := hin
      simp (disch := omega) [-getElem?_pos, oA, hq, hU1]
      refine block_calls hP.Q (fun h => absurd ⟨r1, r2⟩ h) fun _ _ m' hQ' st => ?_
      obtain ⟨hlk, ob, hT⟩ := hP.block r1 r2 hQ' st
      have gT := (st.toGrew gM hP.lo.2.1).upd (r := q2) hP.lo.2.2.2 (some (.map (mapI (putI B no (.bool y)))))
      have oA2 : m'.obj A = some (.row 5 [[.int .u8 kk, .int .i64 no, .int .i64 tm, .int .i64 ov, .bool y]] true) := by rw [st.obj A bA hAD.1]; exact oA
      obtain ⟨LT, hLT⟩ : ∃ LT, L = LT := ⟨_, rfl⟩
      obtain ⟨nT, hnT⟩ : ∃ nT, n = nT := ⟨_, rfl⟩
      have hTl : LT.length = nT := by rw [← hLT, ← hnT]; exact hn
      rw [hLT] at hT
      simp (disch := omega) [-getElem?_pos, -lookupV_map, oA2, hlk, ob]
      refine waiting_calls hT.Q fun vw Mw how gw fpw => ?_
      have hTw := hT.grow gw
      have w1 := how.sl.lenSl
      have w2 := hTw.U.ows.sl.lenSl
      have w3 := hTw.Q.len
      rw [List.length_map] at w1 w2
      rw [hTl] at w1 w2 w3
      simp (disch := omega) [-getElem?_pos, w1, w2]
      refine exec_loopU (σ := Nat) (fun j => [(254, .int .i64 j)]) (fun _ => Mw) (fun j => j ≤ nT) (fun j => nT - j) 0 rfl (by exact Nat.zero_le _) (by simp) ?_
      intro j hj
      by_cases hjn : j < nT
      · obtain ⟨s, hs⟩ : ∃ s, LT[j]? = some s := ⟨_, List.getElem?_eq_getElem (by omega)⟩
        obtain ⟨p1, q1, full1, rw1, y1, y2, y3, y4, _⟩ := how.sl.at (sg_map_get hs) .i64
        obtain ⟨p3, q3, full3, rw3, x1, x2, x3, x4, _⟩ := hTw.U.ows.sl.at (sg_map_get hs) .i64
        simp only [sg] at y4 x4
        simp (disch := omega) [-getElem?_pos, y1, y3, y4, x1, x3, x4]
        exact again_mk (j + 1) (by exact hjn) (by omega) (by simp) rfl
      · have hj2 : j = nT := by omega
        simp (disch := omega) [-getElem?_pos]
        exact again_mk (i + 1, _, _, _, _, _, Mw) (by dsimp only; exact ⟨by omega, hTw, gT.trans gw⟩) (by dsimp only; omega) (by simp) rfl
    · have gT := gM
      have hT := hP
      obtain ⟨LT, hLT⟩ : ∃ LT, L = LT := ⟨_, rfl⟩
      obtain ⟨nT, hnT⟩ : ∃ nT, n = nT := ⟨_, rfl⟩
      have hTl : LT.length = nT := by rw [← hLT, ← hnT]; exact hn
      rw [hLT] at hT
      by_cases c1 : 1 ≤ no
      · simp (disch := omega) [-getElem?_pos, oA, hq, hU1]
        refine block_calls hP.Q (fun _ => ?_) (fun r1 r2 => absurd ⟨r1, r2⟩ hin)
        simp (disch := omega) [-getElem?_pos]
        refine waiting_calls hT.Q fun vw Mw how gw fpw => ?_
        have hTw := hT.grow gw
        have w1 := how.sl.lenSl
        have w2 := hTw.U.ows.sl.lenSl
        have w3 := hTw.Q.len
        rw [List.length_map] at w1 w2
        rw [hTl] at w1 w2 w3
        simp (disch := omega) [-getElem?_pos, w1, w2]
        refine exec_loopU (σ := Nat) (fun j => [(254, .int .i64 j)]) (fun _ => Mw) (fun j => j ≤ nT) (fun j => nT - j) 0 rfl (by exact Nat.zero_le _) (by simp) ?_
        intro j hj
        by_cases hjn : j < nT
        · obtain ⟨s, hs⟩ : ∃ s, LT[j]? = some s := ⟨_, List.getElem?_eq_getElem (by omega)⟩
          obtain ⟨p1, q1, full1, rw1, y1, y2, y3, y4, _⟩ := how.sl.at (sg_map_get hs) .i64
          obtain ⟨p3, q3, full3, rw3, x1, x2, x3, x4, _⟩ := hTw.U.ows.sl.at (sg_map_get hs) .i64
          simp only [sg] at y4 x4
          simp (disch := omega) [-getElem?_pos, y1, y3, y4, x1, x3, x4]
          exact again_mk (j + 1) (by exact hjn) (by omega) (by simp) rfl
        · have hj2 : j = nT := by omega
          simp (disch := omega) [-getElem?_pos]
          exact again_mk (i + 1, _, _, _, _, _, Mw) (by dsimp only; exact ⟨by omega, hTw, gT.trans gw⟩) (by dsimp only; omega) (by simp) rfl
      · simp (disch := omega) [-getElem?_pos, oA, hq, hU1]
        refine block_calls hP.Q (fun _ => ?_) (fun r1 r2 => absurd ⟨r1, r2⟩ hin)
        simp (disch := omega) [-getElem?_pos]
        refine waiting_calls hT.Q fun vw Mw how gw fpw => ?_
        have hTw := hT.grow gw
        have w1 := how.sl.lenSl
        have w2 := hTw.U.ows.sl.lenSl
        have w3 := hTw.Q.len
        rw [List.length_map] at w1 w2
        rw [hTl] at w1 w2 w3
        simp (disch := omega) [-getElem?_pos, w1, w2]
        refine exec_loopU (σ := Nat) (fun j => [(254, .int .i64 j)]) (fun _ => Mw) (fun j => j ≤ nT) (fun j => nT - j) 0 rfl (by exact Nat.zero_le _) (by simp) ?_
        intro j hj
        by_cases hjn : j < nT
        · obtain ⟨s, hs⟩ : ∃ s, LT[j]? = some s := ⟨_, List.getElem?_eq_getElem (by omega)⟩
          obtain ⟨p1, q1, full1, rw1, y1, y2, y3, y4, _⟩ := how.sl.at (sg_map_get hs) .i64
          obtain ⟨p3, q3, full3, rw3, x1, x2, x3, x4, _⟩ := hTw.U.ows.sl.at (sg_map_get hs) .i64
          simp only [sg] at y4 x4
          simp (disch := omega) [-getElem?_pos, y1, y3, y4, x1, x3, x4]
          exact again_mk (j + 1) (by exact hjn) (by omega) (by simp) rfl
        · have hj2 : j = nT := by omega
          simp (disch := omega) [-getElem?_pos]
          exact again_mk (i + 1, _, _, _, _, _, Mw) (by dsimp only; exact ⟨by omega, hTw, gT.trans gw⟩) (by dsimp only; omega) (by simp) rfl
  · -- dropped
    simp (disch := omega) [-getElem?_pos, oA, hq, hU1]
    refine exec_loopU (σ := Nat × V × Mem) (fun (k, w, _) => [(18, w), (220, .int .i64 k)]) (fun (_, _, M) => M) (fun (k, w, M) => k ≤ n ∧ Exa M 3 w (((L.take k).filter fun s => !decide (s.2.1 = tm)).map sg) ∧ M1.Grew M ∧ ∀ p ∈ w.fp, M1.next ≤ p) (fun (k, _, _) => n - k) (0, .sl none 0 (some 0), M1) rfl
      (by dsimp only; exact ⟨by omega, Exa.nil _ _, Mem.Grew.refl M1, by simp [V.fp]⟩) (by simp) ?_
    intro (k, w, M2) ⟨d1, d2, d3, d4⟩
    have oA2 : M2.obj A = some (.row 5 [[.int .u8 kk, .int .i64 no, .int .i64 tm, .int .i64 ov, .bool y]] true) := by rw [d3.obj A bA]; exact oA
    have bA2 : A < M2.next := by have := d3.next; omega
    by_cases hkn : k < n
    · obtain ⟨s, hs⟩ : ∃ s, L[k]? = some s := ⟨_, List.getElem?_eq_getElem (by omega)⟩
      obtain ⟨p, q, full, rw, z1, z2, z3, z4, _⟩ := (hP.grow d3).U.ows.sl.at (sg_map_get hs) .i64
      simp only [sg] at z4
      have gS := Mem.Grew.new M2 (.row 3 [[.int .i64 s.1, .int .i64 s.2.1, .int .i64 s.2.2]] true)
      have ef : (L.take (k + 1)).filter (fun s => !decide (s.2.1 = tm)) = (L.take k).filter (fun s => !decide (s.2.1 = tm)) ++ if s.2.1 = tm then [] else [s] := by
        rw [takeS hs, List.filter_append]
        by_cases e : s.2.1 = tm <;> simp [e]
      by_cases e2 : s.2.1 = tm
      · rw [if_pos e2, List.append_nil] at ef
        simp (disch := omega) [-getElem?_pos, z1, z3, z4, oA2, e2]
        exact again_mk (k + 1, w, _) (by dsimp only; exact ⟨by omega, by rw [ef]; exact d2.grow (by rw [← e2]; exact gS), d3.trans (by rw [← e2]; exact gS), d4⟩) (by dsimp only; omega) (by simp) rfl
      · rw [if_neg e2] at ef
        have hlf : ((L.take k).filter fun s => !decide (s.2.1 = tm)).length ≤ k := Nat.le_trans (List.length_filter_le _ _) (by simp; omega)
        simp (disch := omega) [-getElem?_pos, z1, z3, z4, oA2, e2, eltsOf, Mem.elts]
        have gg := gS.trans (Mem.Grew.new _ (.row 3 [[.int .i64 s.1, .int .i64 s.2.1, .int .i64 s.2.2]] true))
        refine (d2.grow gg).app (by rw [List.length_map]; simp; omega) (by rw [List.length_map]; simp; omega) fun u' M' w1 w2 w3 => ?_
        simp (disch := omega) [-getElem?_pos]
        exact again_mk (k + 1, u', M') (by dsimp only; exact ⟨by omega, by rw [ef, List.map_append]; exact w1, w2.toGrew (d3.trans gg) d4, w2.ge (by have := (d3.trans gg).next; omega) d4⟩) (by dsimp only; omega) (by simp) rfl
    have : k = n := by omega
    subst this
    rw [← hn, List.take_length] at d2
    have hw1 := d2.ows.sl.lenSl
    rw [List.length_map] at hw1
    obtain ⟨LF, hLF⟩ : ∃ LF, L.filter (fun s => !decide (s.2.1 = tm)) = LF := ⟨_, rfl⟩
    have hlf : LF.length ≤ L.length := by rw [← hLF]; exact List.length_filter_le _ _
    have hsub : LF.Sublist L := by rw [← hLF]; exact List.filter_sublist
    rw [hLF] at d2 hw1
    have hb := hP.both (L' := LF) ⟨d3.next, fun p hp _ => d3.obj p hp, fun p hp => .inr (d4 p hp)⟩ d2
    simp (disch := omega) [-getElem?_pos, oA2]
    refine drop_calls hb.1 fun m' D' hQ' st => ?_
    rw [hLF] at hQ' ⊢
    have hT := hb.2 m' D' hQ' st (hP.uni.sub hsub)
    have gT := st.toGrew (gM.trans d3) hP.lo.2.1
    obtain ⟨nT, hnT⟩ : ∃ nT, LF.length = nT := ⟨_, rfl⟩
    obtain ⟨LT, hLT⟩ : ∃ LT, LF = LT := ⟨_, rfl⟩
    have hTl : LT.length = nT := by rw [← hLT]; exact hnT
    rw [hnT] at hw1 hlf ⊢
    rw [hLT] at hT
    simp (disch := omega) [-getElem?_pos, hw1, hn, hU1]
    refine waiting_calls hT.Q fun vw Mw how gw fpw => ?_
    have hTw := hT.grow gw
    have w1 := how.sl.lenSl
    have w2 := hTw.U.ows.sl.lenSl
    have w3 := hTw.Q.len
    rw [List.length_map] at w1 w2
    rw [hTl] at w1 w2 w3
    simp (disch := omega) [-getElem?_pos, w1, w2]
    refine exec_loopU (σ := Nat) (fun j => [(254, .int .i64 j)]) (fun _ => Mw) (fun j => j ≤ nT) (fun j => nT - j) 0 rfl (by exact Nat.zero_le _) (by simp) ?_
    intro j hj
    by_cases hjn : j < nT
    · obtain ⟨s, hs⟩ : ∃ s, LT[j]? = some s := ⟨_, List.getElem?_eq_getElem (by omega)⟩
      obtain ⟨p1, q1, full1, rw1, y1, y2, y3, y4, _⟩ := how.sl.at (sg_map_get hs) .i64
      obtain ⟨p3, q3, full3, rw3, x1, x2, x3, x4, _⟩ := hTw.U.ows.sl.at (sg_map_get hs) .i64
      simp only [sg] at y4 x4
      simp (disch := omega) [-getElem?_pos, y1, y3, y4, x1, x3, x4]
      exact again_mk (j + 1) (by exact hjn) (by omega) (by simp) rfl
    · have hj2 : j = nT := by omega
      simp (disch := omega) [-getElem?_pos]
      exact again_mk (i + 1, _, _, _, _, _, Mw) (by dsimp only; exact ⟨by omega, hTw, gT.trans gw⟩) (by dsimp only; omega) (by simp) rfl
end Go.Proofs.Ytmfekckcingneaa
