/-
  A WHEEL, in plain words: where an item lies; its cells.
-/
import Derived.Test.YtkpdpdpilggcfaaCx
import Derived.Test.YtkpdpdpilggcfaaAm17
import Derived.Test.YtkpdpdpilggcfaaAm28
namespace Go.Proofs.Ytkpdpdpilggcfaa
open Go Go.AM
set_option linter.unusedVariables false
set_option linter.unusedSimpArgs false
set_option maxRecDepth 60000
set_option maxHeartbeats 4000000

/-- An item: its ID, when it is due, when it came. -/
abbrev It := Int × Nat × Nat
def it (x : It) : List V := [.int .i64 x.1, .int .i64 x.2.1, .int .i64 x.2.2]
/-- Where one that is due lies. -/
def ix (n d : Nat) : Nat := if d / 16 = n / 16 then d % 16 else if d / 256 = n / 256 then 16 + d / 16 % 16 else if d / 4096 = n / 4096 then 32 + d / 256 % 16 else 48 + d / 4096 % 16
theorem ix_lt (n d : Nat) : ix n d < 64 := by unfold ix; split; omega; split; omega; split <;> omega

theorem and_low (k j : Nat) (hk : k < 4611686018427387904) (hj : j ≤ 20) : bAnd .i64 (k : Int) ((2 ^ j - 1 : Nat) : Int) = ((k % 2 ^ j : Nat) : Int) := by
  have h2 : (2 ^ j : Nat) ≤ 2 ^ 20 := Nat.pow_le_pow_right (by omega) hj
  have h3 : (2 : Nat) ^ 20 = 1048576 := by decide
  have hp := Nat.two_pow_pos j
  have key : (BitVec.ofNat 64 k &&& BitVec.ofNat 64 (2 ^ j - 1)).toNat = k % 2 ^ j := by
    rw [BitVec.toNat_and, BitVec.toNat_ofNat, BitVec.toNat_ofNat, Nat.mod_eq_of_lt (a := k) (by omega), Nat.mod_eq_of_lt (a := 2 ^ j - 1) (by omega), Nat.and_two_pow_sub_one_eq_mod]
  have : k % 2 ^ j < 2 ^ j := Nat.mod_lt _ hp
  unfold bAnd
  simp only [IntKind.bits, BitVec.ofInt_natCast]
  show IntKind.i64.wrap (((BitVec.ofNat 64 k &&& BitVec.ofNat 64 (2 ^ j - 1)).toNat : Nat) : Int) = _
  rw [key]
  exact IntWalk.i64_in _ ⟨by omega, by omega⟩
theorem and15 (k : Nat) (hk : k < 4611686018427387904) : bAnd .i64 (k : Int) 15 = ((k % 16 : Nat) : Int) := and_low k 4 hk (by omega)
theorem and255 (k : Nat) (hk : k < 4611686018427387904) : bAnd .i64 (k : Int) 255 = ((k % 256 : Nat) : Int) := and_low k 8 hk (by omega)
theorem and4095 (k : Nat) (hk : k < 4611686018427387904) : bAnd .i64 (k : Int) 4095 = ((k % 4096 : Nat) : Int) := and_low k 12 hk (by omega)
theorem fdivN (k c : Nat) : Int.fdiv (k : Int) (c : Int) = ((k / c : Nat) : Int) := by
  rw [Int.fdiv_eq_ediv_of_nonneg _ (by omega)]; rfl

/-- A wheel's cells. -/
structure Wc (cs : List V) (n sq : Nat) (v : Nat → V) (q : Nat) : Prop where
  len : cs.length = 67
  c0 : cs[0]? = some (.int .i64 n)
  c1 : cs[1]? = some (.int .i64 sq)
  cv : ∀ s, s < 64 → cs[2 + s]? = some (v s)
  cm : cs[66]? = some (.map (some q))
theorem Wc.now {cs : List V} {n sq q : Nat} {v : Nat → V} (h : Wc cs n sq v q) (k : Nat) : Wc (cs.set 0 (.int .i64 k)) k sq v q := by
  refine ⟨by simp [h.len], ?_, ?_, fun i hi => ?_, ?_⟩
  · rw [List.getElem?_set_self (by rw [h.len]; omega)]
  · rw [List.getElem?_set_ne (by omega)]; exact h.c1
  · rw [List.getElem?_set_ne (by omega)]; exact h.cv i hi
  · rw [List.getElem?_set_ne (by omega)]; exact h.cm
theorem Wc.seq {cs : List V} {n sq q : Nat} {v : Nat → V} (h : Wc cs n sq v q) (k : Nat) : Wc (cs.set 1 (.int .i64 k)) n k v q := by
  refine ⟨by simp [h.len], ?_, ?_, fun i hi => ?_, ?_⟩
  · rw [List.getElem?_set_ne (by omega)]; exact h.c0
  · rw [List.getElem?_set_self (by rw [h.len]; omega)]
  · rw [List.getElem?_set_ne (by omega)]; exact h.cv i hi
  · rw [List.getElem?_set_ne (by omega)]; exact h.cm
def setv {α : Type} (v : Nat → α) (s : Nat) (x : α) : Nat → α := fun i => if i = s then x else v i
theorem setv_self {α : Type} (v : Nat → α) (s : Nat) (x : α) : setv v s x s = x := by simp [setv]
theorem setv_ne {α : Type} (v : Nat → α) {s i : Nat} (x : α) (h : i ≠ s) : setv v s x i = v i := by simp [setv, h]
theorem Wc.slot {cs : List V} {n sq q : Nat} {v : Nat → V} (h : Wc cs n sq v q) {s : Nat} (hs : s < 64) (x : V) : Wc (cs.set (2 + s) x) n sq (setv v s x) q := by
  refine ⟨by simp [h.len], ?_, ?_, fun i hi => ?_, ?_⟩
  · rw [List.getElem?_set_ne (by omega)]; exact h.c0
  · rw [List.getElem?_set_ne (by omega)]; exact h.c1
  · by_cases e : i = s
    · subst e; rw [List.getElem?_set_self (by rw [h.len]; omega), setv_self]
    · rw [List.getElem?_set_ne (by omega), setv_ne _ _ e]; exact h.cv i hi
  · rw [List.getElem?_set_ne (by omega)]; exact h.cm

/-- A wheel's row, slots and map lie here. -/
structure Lay (m : Mem) (r q n sq : Nat) (v : Nat → V) (S : Nat → List It) (l : List (Int × V)) (g : List Nat × Nat) : Prop where
  lt : r < m.next
  ltq : q < m.next
  rq : r ≠ q
  row : ∃ cs, m.obj r = some (.row 67 [cs] true) ∧ Wc cs n sq v q
  mp : m.obj q = some (.map (mapI l) g)
  sl : ∀ s, s < 64 → Ows m 3 (v s) ((S s).map it)
  dj : ∀ s t, s < 64 → t < 64 → s ≠ t → ∀ p ∈ (v s).fp, p ∉ (v t).fp
  nr : ∀ s, s < 64 → r ∉ (v s).fp ∧ q ∉ (v s).fp
/-- All that is its own. -/
def fpW (r q : Nat) (v : Nat → V) : List Nat := r :: q :: (List.range 64).flatMap fun s => (v s).fp
theorem mem_fpW {r q : Nat} {v : Nat → V} {p : Nat} : p ∈ fpW r q v ↔ p = r ∨ p = q ∨ ∃ s, s < 64 ∧ p ∈ (v s).fp := by
  unfold fpW; simp
theorem Lay.ltp {m : Mem} {r q n sq : Nat} {v : Nat → V} {S : Nat → List It} {l : List (Int × V)} {g : List Nat × Nat} (h : Lay m r q n sq v S l g) : ∀ p ∈ fpW r q v, p < m.next := fun p hp => by
  rcases mem_fpW.1 hp with rfl | rfl | ⟨s, hs, hp⟩
  · exact h.lt
  · exact h.ltq
  · exact (h.sl s hs).lt p hp
theorem Lay.keep {m m' : Mem} {r q n sq : Nat} {v : Nat → V} {S : Nat → List It} {l : List (Int × V)} {g : List Nat × Nat} (h : Lay m r q n sq v S l g) (hn : m.next ≤ m'.next) (ho : ∀ p ∈ fpW r q v, m'.obj p = m.obj p) : Lay m' r q n sq v S l g := by
  refine ⟨by have := h.lt; omega, by have := h.ltq; omega, h.rq, ?_, ?_, fun s hs => (h.sl s hs).keep hn fun p hp => ho p (mem_fpW.2 (.inr (.inr ⟨s, hs, hp⟩))), h.dj, h.nr⟩
  · rw [ho r (mem_fpW.2 (.inl rfl))]; exact h.row
  · rw [ho q (mem_fpW.2 (.inr (.inl rfl)))]; exact h.mp
theorem Lay.grow {m m' : Mem} {r q n sq : Nat} {v : Nat → V} {S : Nat → List It} {l : List (Int × V)} {g : List Nat × Nat} (h : Lay m r q n sq v S l g) (hg : m.Grew m') : Lay m' r q n sq v S l g := h.keep hg.next fun p hp => hg.obj p (h.ltp p hp)
theorem Lay.setRow {m : Mem} {r q n sq n' sq' : Nat} {v : Nat → V} {S : Nat → List It} {l : List (Int × V)} {g : List Nat × Nat} (h : Lay m r q n sq v S l g) {cs : List V} (hc : Wc cs n' sq' v q) : Lay (m.upd r (some (.row 67 [cs] true))) r q n' sq' v S l g := by
  refine ⟨by rw [upd_next]; exact h.lt, by rw [upd_next]; exact h.ltq, h.rq, ⟨cs, by simp, hc⟩, ?_, fun s hs => (h.sl s hs).keep (by simp) fun p hp => ?_, h.dj, h.nr⟩
  · rw [updO _ h.rq.symm]; exact h.mp
  · rw [updO _ (fun e => (h.nr s hs).1 (by rw [← e]; exact hp))]
/-- A slot's new row. -/
theorem Lay.setSlot {m m' : Mem} {r q n sq : Nat} {v : Nat → V} {S : Nat → List It} {l : List (Int × V)} {g : List Nat × Nat} (h : Lay m r q n sq v S l g) {s : Nat} (hs : s < 64) {u : V} {L : List It} (hu : Ows m' 3 u (L.map it)) (hst : Stp m m' (v s).fp u.fp) {cs : List V} (hc : Wc cs n sq (setv v s u) q) : Lay (m'.upd r (some (.row 67 [cs] true))) r q n sq (setv v s u) (setv S s L) l g ∧ Stp m (m'.upd r (some (.row 67 [cs] true))) (fpW r q v) (fpW r q (setv v s u)) := by
  have hlt := h.lt
  have hltq := h.ltq
  have hn := hst.next
  have nru : r ∉ u.fp ∧ q ∉ u.fp := ⟨fun e => by
    rcases hst.fp r e with w | w
    · exact (h.nr s hs).1 w
    · omega, fun e => by
    rcases hst.fp q e with w | w
    · exact (h.nr s hs).2 w
    · omega⟩
  have oth : ∀ t, t < 64 → t ≠ s → ∀ p ∈ (v t).fp, p ∉ u.fp := fun t ht hts p hp e => by
    rcases hst.fp p e with w | w
    · exact h.dj t s ht hs hts p hp w
    · have := (h.sl t ht).lt p hp; omega
  refine ⟨⟨by rw [upd_next]; omega, by rw [upd_next]; omega, h.rq, ⟨cs, by simp, hc⟩, ?_, fun t ht => ?_, fun a b ha hb hab p hp hq => ?_, fun t ht => ?_⟩, ⟨by rw [upd_next]; omega, fun p hp hne => ?_, fun p hp => ?_⟩⟩
  · rw [updO _ h.rq.symm, hst.obj q hltq (h.nr s hs).2]; exact h.mp
  · by_cases e : t = s
    · subst e
      rw [setv_self, setv_self]
      exact hu.keep (by simp) fun p hp => by rw [updO _ (fun e => nru.1 (by rw [← e]; exact hp))]
    · rw [setv_ne _ _ e, setv_ne _ _ e]
      refine (h.sl t ht).keep (by rw [upd_next]; omega) fun p hp => ?_
      rw [updO _ (fun e2 => (h.nr t ht).1 (by rw [← e2]; exact hp)), hst.obj p ((h.sl t ht).lt p hp) (h.dj t s ht hs e p hp)]
  · by_cases e1 : a = s
    · subst e1
      rw [setv_self] at hp
      rw [setv_ne _ _ (fun e => hab e.symm)] at hq
      exact oth b hb (fun e => hab e.symm) p hq hp
    · rw [setv_ne _ _ e1] at hp
      by_cases e2 : b = s
      · subst e2
        rw [setv_self] at hq
        exact oth a ha e1 p hp hq
      · rw [setv_ne _ _ e2] at hq
        exact h.dj a b ha hb hab p hp hq
  · by_cases e : t = s
    · subst e; rw [setv_self]; exact nru
    · rw [setv_ne _ _ e]; exact h.nr t ht
  · have hne2 : p ≠ r := fun e => hne (mem_fpW.2 (.inl e))
    rw [updO _ hne2]
    exact hst.obj p hp fun e => hne (mem_fpW.2 (.inr (.inr ⟨s, hs, e⟩)))
  · rcases mem_fpW.1 hp with rfl | rfl | ⟨t, ht, hp⟩
    · exact .inl (mem_fpW.2 (.inl rfl))
    · exact .inl (mem_fpW.2 (.inr (.inl rfl)))
    · by_cases e : t = s
      · subst e
        rw [setv_self] at hp
        rcases hst.fp p hp with w | w
        · exact .inl (mem_fpW.2 (.inr (.inr ⟨t, ht, w⟩)))
        · exact .inr w
      · rw [setv_ne _ _ e] at hp
        exact .inl (mem_fpW.2 (.inr (.inr ⟨t, ht, hp⟩)))
/-- Its map anew. -/
theorem Lay.setMap {m : Mem} {r q n sq : Nat} {v : Nat → V} {S : Nat → List It} {l : List (Int × V)} {g : List Nat × Nat} (h : Lay m r q n sq v S l g) (l' : List (Int × V)) (g' : List Nat × Nat) : Lay (m.upd q (some (.map (mapI l') g'))) r q n sq v S l' g' ∧ Stp m (m.upd q (some (.map (mapI l') g'))) (fpW r q v) (fpW r q v) := by
  refine ⟨⟨by rw [upd_next]; exact h.lt, by rw [upd_next]; exact h.ltq, h.rq, ?_, by simp, fun s hs => (h.sl s hs).keep (by simp) fun p hp => ?_, h.dj, h.nr⟩, Stp.upd _ (mem_fpW.2 (.inr (.inl rfl))) _⟩
  · rw [updO _ h.rq]; exact h.row
  · rw [updO _ (fun e => (h.nr s hs).2 (by rw [← e]; exact hp))]

/-! ### where it lies -/
theorem slot_calls {m : Mem} {r q n sq : Nat} {v : Nat → V} {S : Nat → List It} {l : List (Int × V)} {g : List Nat × Nat} (hL : Lay m r q n sq v S l g) (hn : n < 4611686018427387904) {id : Int} {d : Nat} {c : Int} (hd : d < 4611686018427387904) {K : KV} (h : ∀ m', m.Grew m' → K (.ptr (some (r, 0, 2 + ix n d))) m') : ACalls Try.prog 19 [.ptr (some (r, 0, 0)), .agg [.int .i64 id, .int .i64 d, .int .i64 c]] m K := by
  refine run_on (ctx_nil _) hm c19 (by simp) fun hf => ?_
  have g1 := Mem.Grew.new m (.row 3 [[.int .i64 id, .int .i64 d, .int .i64 c]] true)
  have oB : (m.new (.row 3 [[.int .i64 id, .int .i64 d, .int .i64 c]] true)).obj m.next = some (.row 3 [[.int .i64 id, .int .i64 d, .int .i64 c]] true) := by simp
  have hL1 := hL.grow g1
  simp (disch := omega) [-getElem?_pos, b19]
  generalize m.new (.row 3 [[.int .i64 id, .int .i64 d, .int .i64 c]] true) = m1 at *
  generalize m.next = B at *
  obtain ⟨cs, o1, o2⟩ := hL1.row
  have e0 := o2.c0
  have el := o2.len
  have hfin : ∀ j, j = 2 + ix n d → K (.ptr (some (r, 0, j))) m1 := fun j e => by rw [e]; exact h _ g1
  have f1 : (d : Int).fdiv 16 = ((d / 16 : Nat) : Int) := fdivN d 16
  have f2 : (d : Int).fdiv 256 = ((d / 256 : Nat) : Int) := fdivN d 256
  have f3 : (d : Int).fdiv 4096 = ((d / 4096 : Nat) : Int) := fdivN d 4096
  have n1 : (n : Int).fdiv 16 = ((n / 16 : Nat) : Int) := fdivN n 16
  have n2 : (n : Int).fdiv 256 = ((n / 256 : Nat) : Int) := fdivN n 256
  have n3 : (n : Int).fdiv 4096 = ((n / 4096 : Nat) : Int) := fdivN n 4096
  have w0 := and15 d hd
  have w1 : bAnd .i64 ((d : Int) / 16) 15 = (d : Int) / 16 % 16 := by
    have h := and15 (d / 16) (by omega)
    rw [Int.natCast_emod, Int.natCast_ediv] at h
    exact h
  have w2 : bAnd .i64 ((d : Int) / 256) 15 = (d : Int) / 256 % 16 := by
    have h := and15 (d / 256) (by omega)
    rw [Int.natCast_emod, Int.natCast_ediv] at h
    exact h
  have w3 : bAnd .i64 ((d : Int) / 4096) 15 = (d : Int) / 4096 % 16 := by
    have h := and15 (d / 4096) (by omega)
    rw [Int.natCast_emod, Int.natCast_ediv] at h
    exact h
  simp only [Int.natCast_ediv, Int.natCast_emod] at f1 f2 f3 n1 n2 n3 w0
  refine exec_loopU (σ := Nat) (fun i => [(5, .int .i64 i)]) (fun _ => m1) (fun i => i ≤ 3 ∧ (0 < i → d / 16 ≠ n / 16) ∧ (1 < i → d / 256 ≠ n / 256) ∧ (2 < i → d / 4096 ≠ n / 4096)) (fun i => 3 - i) 0 rfl ⟨by omega, by omega, by omega, by omega⟩ (by simp) ?_
  intro i ⟨a1, a2, a3, a4⟩
  have hi : i = 0 ∨ i = 1 ∨ i = 2 ∨ i = 3 := by omega
  rcases hi with rfl | rfl | rfl | rfl
  · by_cases e : d / 16 = n / 16
    · simp (disch := omega) [-getElem?_pos, oB, o1, e0, el, IntKind.bits, f1, f2, f3, n1, n2, n3, w0, w1, w2, w3]
      refine hfin _ ?_
      unfold ix; (repeat' split) <;> omega
    · simp (disch := omega) [-getElem?_pos, oB, o1, e0, el, IntKind.bits, f1, f2, f3, n1, n2, n3, w0, w1, w2, w3]
      exact again_mk 1 ⟨by omega, by omega, by omega, by omega⟩ (by omega) (by simp) rfl
  · obtain q1 := a2 (by omega)
    by_cases e : d / 256 = n / 256
    · simp (disch := omega) [-getElem?_pos, oB, o1, e0, el, IntKind.bits, f1, f2, f3, n1, n2, n3, w0, w1, w2, w3]
      refine hfin _ ?_
      unfold ix; (repeat' split) <;> omega
    · simp (disch := omega) [-getElem?_pos, oB, o1, e0, el, IntKind.bits, f1, f2, f3, n1, n2, n3, w0, w1, w2, w3]
      exact again_mk 2 ⟨by omega, by omega, by omega, by omega⟩ (by omega) (by simp) rfl
  · obtain q1 := a2 (by omega)
    obtain q2 := a3 (by omega)
    by_cases e : d / 4096 = n / 4096
    · simp (disch := omega) [-getElem?_pos, oB, o1, e0, el, IntKind.bits, f1, f2, f3, n1, n2, n3, w0, w1, w2, w3]
      refine hfin _ ?_
      unfold ix; (repeat' split) <;> omega
    · simp (disch := omega) [-getElem?_pos, oB, o1, e0, el, IntKind.bits, f1, f2, f3, n1, n2, n3, w0, w1, w2, w3]
      exact again_mk 3 ⟨by omega, by omega, by omega, by omega⟩ (by omega) (by simp) rfl
  · obtain q1 := a2 (by omega)
    obtain q2 := a3 (by omega)
    obtain q3 := a4 (by omega)
    simp (disch := omega) [-getElem?_pos, oB, o1, e0, el, IntKind.bits, f1, f2, f3, n1, n2, n3, w0, w1, w2, w3]
    refine hfin _ ?_
    unfold ix; (repeat' split) <;> omega
end Go.Proofs.Ytkpdpdpilggcfaa
