/-
  ADD, DROP, SWITCH, ALL, of what the functions of this seat do.
-/
import Derived.Test.YtkalojiddaeekaaFx
namespace Go.Proofs.Ytkalojiddaeekaa
open Go Go.AM
set_option linter.unusedVariables false
set_option linter.unusedSimpArgs false
set_option maxRecDepth 60000
set_option maxHeartbeats 4000000

theorem no28 : ¬ Body Try.prog 28 := by
  rintro ⟨fn, h1, h2, _⟩
  rw [Try.func28] at h1
  injection h1 with h1
  subst h1
  revert h2
  decide
theorem over28 {m : Mem} {p i la q j lb : Nat} {ca cb : Option Nat} {es es2 : List (List V)} {K : KV} (h1 : p ≠ q) (h2 : m.obj p = some (.row 4 es true)) (h3 : m.obj q = some (.row 4 es2 true)) (h4 : i + la ≤ es.length) (h5 : j + lb ≤ es2.length) (h6 : 0 < la) (h7 : 0 < lb) (h : K (.bool false) m) : ACalls Try.prog 28 [.sl (some (p, i, 4)) la ca, .sl (some (q, j, 4)) lb cb] m K :=
  overlaps_calls no28 Try.func28 (by kernel_rfl) (by kernel_rfl) (by kernel_rfl) (tS := 25) (tR := 4) (e := 30) (by kernel_rfl) (by kernel_rfl) Try.sizeOf30 h1 h2 h3 h4 h5 h6 h7 h

/-- Two say the same place. -/
theorem Plc.uni {L : List Al} {q : Int} {k j : Nat} {b : Bool} (h : Plc L q k b) (hj : j ≤ L.length) (h1 : ∀ a ∈ L.take j, a.1 < q) (h2 : ∀ a ∈ L.drop j, q ≤ a.1) : k = j := by
  rcases Nat.lt_trichotomy k j with w | w | w
  · have hk : k < L.length := by omega
    have a1 : L[k] ∈ L.take j := List.mem_iff_getElem?.2 ⟨k, by rw [List.getElem?_take_of_lt w, List.getElem?_eq_getElem hk]⟩
    have a2 : L[k] ∈ L.drop k := List.mem_iff_getElem?.2 ⟨0, by rw [List.getElem?_drop, Nat.add_zero, List.getElem?_eq_getElem hk]⟩
    have := h1 _ a1; have := h.hi _ a2; omega
  · exact w
  · have hk : j < L.length := by have := h.le; omega
    have a1 : L[j] ∈ L.take k := List.mem_iff_getElem?.2 ⟨j, by rw [List.getElem?_take_of_lt w, List.getElem?_eq_getElem hk]⟩
    have a2 : L[j] ∈ L.drop j := List.mem_iff_getElem?.2 ⟨0, by rw [List.getElem?_drop, Nat.add_zero, List.getElem?_eq_getElem hk]⟩
    have := h.lo _ a1; have := h2 _ a2; omega
theorem Plc.none {L : List Al} (hu : L.Pairwise fun a b => a.1 < b.1) {q : Int} {k : Nat} {b : Bool} (h : Plc L q k b) : b = true ↔ ∃ a ∈ L, a.1 = q := by
  rw [h.there]
  constructor
  · rintro ⟨a, h1, h2⟩; exact ⟨a, List.mem_of_getElem? h1, h2⟩
  · rintro ⟨a, h1, h2⟩
    rw [← List.take_append_drop k L] at h1
    rcases List.mem_append.1 h1 with w | w
    · have := h.lo a w; omega
    · obtain ⟨j, hj⟩ := List.mem_iff_getElem?.1 w
      rw [List.getElem?_drop] at hj
      by_cases e : j = 0
      · subst e; exact ⟨a, by simpa using hj, h2⟩
      · have hjl := (List.getElem?_eq_some_iff.1 hj)
        have hjl1 := hjl.1
        have hkl : k < L.length := by omega
        have h3 := (List.pairwise_iff_getElem.1 hu) k (k + j) hkl hjl.1 (by omega)
        have h4 := h.hi (L[k]) (List.mem_iff_getElem?.2 ⟨0, by rw [List.getElem?_drop, Nat.add_zero, List.getElem?_eq_getElem hkl]⟩)
        rw [hjl.2] at h3
        omega
/-- An alarm more. -/
def insA (L : List Al) (k : Nat) (a : Al) : List Al := L.take k ++ a :: L.drop k
theorem insA_up {L : List Al} (hu : L.Pairwise fun a b => a.1 < b.1) {a : Al} {k : Nat} (h : Plc L a.1 k false) : (insA L k a).Pairwise fun a b => a.1 < b.1 := by
  have hn : ∀ b ∈ L, b.1 ≠ a.1 := fun b hb e => by
    have := (h.none hu).2 ⟨b, hb, e⟩; cases this
  unfold insA
  rw [List.pairwise_append]
  refine ⟨hu.sublist (List.take_sublist _ _), List.pairwise_cons.2 ⟨fun b hb => ?_, hu.sublist (List.drop_sublist _ _)⟩, fun b hb c hc => ?_⟩
  · have := h.hi b hb; have := hn b (List.mem_of_mem_drop hb); omega
  · have h1 := h.lo b hb
    rcases List.mem_cons.1 hc with rfl | hc
    · exact h1
    · have := h.hi c hc; omega
theorem insA_len (L : List Al) {k : Nat} (hk : k ≤ L.length) (a : Al) : (insA L k a).length = L.length + 1 := by unfold insA; simp; omega
theorem insA_mem {L : List Al} {k : Nat} {a b : Al} (h : b ∈ insA L k a) : b = a ∨ b ∈ L := by
  unfold insA at h
  rcases List.mem_append.1 h with w | w
  · exact .inr (List.mem_of_mem_take w)
  · rcases List.mem_cons.1 w with w | w
    · exact .inl w
    · exact .inr (List.mem_of_mem_drop w)
theorem insA_al (L : List Al) (k : Nat) (a : Al) : (insA L k a).map al = (L.map al).take k ++ al a :: (L.map al).drop k := by unfold insA; simp

/-- What a coming alarm comes to. -/
inductive AddR (L : List Al) (a : Al) : List Al → Int → Prop
  | wrong (h : ¬ rtA a) : AddR L a L 2
  | there (h : rtA a) (h1 : ∃ b ∈ L, b.1 = a.1) : AddR L a L 9
  | full (h : rtA a) (h1 : ¬ ∃ b ∈ L, b.1 = a.1) (h2 : 64 ≤ L.length) : AddR L a L 3
  | ok (h : rtA a) (h1 : ¬ ∃ b ∈ L, b.1 = a.1) (h2 : L.length < 64) (k : Nat) (hk : Plc L a.1 k false) : AddR L a (insA L k a) 0

theorem add_calls {m : Mem} {D : List Nat} {s : Nat} {L : List Al} (hW : Wk m D s L) {a : Al} {K : KV} (h : ∀ m' D' L' r, AddR L a L' r → Wk m' D' s L' → Stp m m' D D' → K (.int .i64 r) m') : ACalls Try.prog 15 [.ptr (some (s, 0, 0)), .agg (al a)] m K := by
  have hlen := hW.len
  refine run_on (ctx_nil _) hm c15 (by simp) fun hf => ?_
  have gB := Mem.Grew.new m (.row 4 [al a] true)
  have oB : (m.new (.row 4 [al a] true)).obj m.next = some (.row 4 [al a] true) := by simp
  have bB : m.next < (m.new (.row 4 [al a] true)).next := by simp
  simp only [al] at gB oB bB ⊢
  simp (disch := omega) [-getElem?_pos, b15]
  generalize m.new (.row 4 [[.int .i64 a.1, .int .i64 a.2.1, .int .i64 a.2.2.1, .bool a.2.2.2]] true) = m1 at *
  generalize hB : m.next = B at *
  refine place_calls (hW.grow gB) fun k b m2 hp g2 => ?_
  have o2 : m2.obj B = some (.row 4 [[.int .i64 a.1, .int .i64 a.2.1, .int .i64 a.2.2.1, .bool a.2.2.2]] true) := by rw [g2.obj B bB]; exact oB
  have g12 := gB.trans g2
  simp (disch := omega) [-getElem?_pos, o2]
  refine right22 (a := a) fun m3 g3 => ?_
  have b3 : B < m2.next := by have := g2.next; omega
  have o3 : m3.obj B = some (.row 4 [[.int .i64 a.1, .int .i64 a.2.1, .int .i64 a.2.2.1, .bool a.2.2.2]] true) := by rw [g3.obj B b3]; exact o2
  have g := g12.trans g3
  have hW3 := hW.grow g
  by_cases hr : rtA a
  case neg =>
    rw [decide_eq_false hr]
    simp (disch := omega) [-getElem?_pos]
    exact h _ _ _ _ (.wrong hr) hW3 (Stp.grow g D)
  rw [decide_eq_true hr]
  cases b with
  | true =>
    simp (disch := omega) [-getElem?_pos]
    exact h _ _ _ _ (.there hr ((hp.none hW.up).1 rfl)) hW3 (Stp.grow g D)
  | false =>
    have hno : ¬ ∃ b ∈ L, b.1 = a.1 := fun hx => by have := (hp.none hW.up).2 hx; cases this
    obtain ⟨v, rfl, q1, q2, q3, q4⟩ := hW3.ex
    have hv1 := q3.sl.lenSl
    rw [List.length_map] at hv1
    by_cases h64 : 64 ≤ L.length
    · simp (disch := omega) [-getElem?_pos, q2, hv1]
      exact h _ _ _ _ (.full hr hno h64) hW3 (Stp.grow g _)
    · simp (disch := omega) [-getElem?_pos, q2, hv1, o3]
      have gC := Mem.Grew.new m3 (.row 4 [al a] true)
      have oC : (m3.new (.row 4 [al a] true)).obj m3.next = some (.row 4 [al a] true) := by simp
      have sC : (m3.new (.row 4 [al a] true)).obj s = some (.row 1 [[v]] true) := by rw [gC.obj s q1]; exact q2
      have bC : m3.next < (m3.new (.row 4 [al a] true)).next := by simp
      have nC : m3.next ∉ v.fp := fun e => by have := q3.lt _ e; omega
      have nC2 : m3.next ≠ s := by omega
      have hle := hp.le
      simp only [al] at gC oC sC bC ⊢
      generalize m3.new (.row 4 [[.int .i64 a.1, .int .i64 a.2.1, .int .i64 a.2.2.1, .bool a.2.2.2]] true) = m4 at *
      generalize m3.next = C at *
      refine insert_calls hm c23 (sz := 3) (by omega) (z := [.int .i64 0, .int .i64 0, .int .i64 0, .bool false]) rfl rfl over28 (q3.grow gC) (x := al a) rfl bC nC oC (by rw [List.length_map]; exact hle) (by rw [List.length_map]; omega) (by rw [List.length_map]; omega) fun v' m5 w1 w2 => ?_
      have w3 := w2.obj s (by have := gC.next; omega) q4
      rw [sC] at w3
      have v1 := w1.sl.okc
      have v2 := w1.sl.cs
      simp (disch := omega) [-getElem?_pos, w3, v1, v2]
      rw [← insA_al] at w1
      have hsv : s ∉ v'.fp := fun e => by
        rcases w2.fp s e with q | q
        · exact q4 q
        · have := gC.next; omega
      have w4 := w2.next
      have gC1 := gC.next
      refine h _ (s :: v'.fp) _ _ (.ok hr hno (by omega) k hp) ⟨insA_up hW.up hp, fun b hb => ?_, by rw [insA_len L hle]; omega, v', rfl, by simp; omega, by simp, w1.keep (by simp) fun p hp => ?_, hsv⟩ ?_
      · rcases insA_mem hb with rfl | hb
        · exact hr
        · exact hW.rt b hb
      · rw [updO _ (fun e => hsv (by rw [← e]; exact hp))]
      · refine (Stp.grow (g.trans gC) (s :: v.fp)).trans ((w2.mono (E := s :: v.fp) (E' := s :: v'.fp) (fun p hp => by simp [hp]) (fun p hp => ?_)).trans (Stp.upd _ (by simp) _))
        rcases List.mem_cons.1 hp with rfl | hp
        · exact .inl (by simp)
        · exact .inr (.inl hp)
end Go.Proofs.Ytkalojiddaeekaa
