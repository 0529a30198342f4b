/-
  LAYING an item down.
-/
import Derived.Test.YtkpdpdpilggcfaaFx
namespace Go.Proofs.Ytkpdpdpilggcfaa
open Go Go.AM
set_option linter.unusedVariables false
set_option linter.unusedSimpArgs false
set_option maxRecDepth 60000
set_option maxHeartbeats 4000000

theorem spl {cs : List V} {i : Nat} (h : i < cs.length) (x : V) : cs.take i ++ x :: cs.drop (i + 1) = cs.set i x := by rw [List.set_eq_take_append_cons_drop, if_pos h]

theorem lay_calls {m : Mem} {r q n sq : Nat} {v : Nat → V} {S : Nat → List It} {l : List (Int × V)} {g : List Nat × Nat} (hL : Lay m r q n sq v S l g) (hn : n < 4611686018427387904) {x : It} (hd : x.2.1 < 4611686018427387904) (hlen : ∀ s, s < 64 → (S s).length ≤ 100000) {K : KV}
    (h : ∀ m' u, Lay m' r q n sq (setv v (ix n x.2.1) u) (setv S (ix n x.2.1) (S (ix n x.2.1) ++ [x])) l g → Stp m m' (fpW r q v) (fpW r q (setv v (ix n x.2.1) u)) → K (.tup []) m') : ACalls Try.prog 17 [.ptr (some (r, 0, 0)), .agg (it x)] m K := by
  refine run_on (ctx_nil _) hm c17 (by simp) fun hf => ?_
  have g1 := Mem.Grew.new m (.row 3 [it x] true)
  have oB : (m.new (.row 3 [it x] true)).obj m.next = some (.row 3 [it x] true) := by simp
  have bB : m.next < (m.new (.row 3 [it x] true)).next := by simp
  have hL1 := hL.grow g1
  simp only [it] at g1 oB bB hL1 ⊢
  simp (disch := omega) [-getElem?_pos, b17]
  generalize m.new (.row 3 [[.int .i64 x.1, .int .i64 x.2.1, .int .i64 x.2.2]] true) = m1 at *
  generalize m.next = B at *
  refine slot_calls hL1 hn hd fun m2 g2 => ?_
  have hs := ix_lt n x.2.1
  obtain ⟨s, hse⟩ : ∃ s, s = ix n x.2.1 := ⟨_, rfl⟩
  rw [← hse] at hs h ⊢
  have hL2 := hL1.grow g2
  have oB2 : m2.obj B = some (.row 3 [[.int .i64 x.1, .int .i64 x.2.1, .int .i64 x.2.2]] true) := by rw [g2.obj B bB]; exact oB
  obtain ⟨cs, o1, o2⟩ := hL2.row
  have el := o2.len
  have ev := o2.cv s hs
  have hl2 := hlen s hs
  have g12 := g1.trans g2
  simp (disch := omega) [-getElem?_pos, oB2, o1, el, ev, eltsOf, Mem.elts]
  have g3 := Mem.Grew.new m2 (.row 3 [[.int .i64 x.1, .int .i64 x.2.1, .int .i64 x.2.2]] true)
  have hL3 := hL2.grow g3
  generalize m2.new (.row 3 [[.int .i64 x.1, .int .i64 x.2.1, .int .i64 x.2.2]] true) = m3 at *
  refine (hL3.sl s hs).app (by rw [List.length_map]; omega) (by rw [List.length_map]; omega) fun u m4 e1 e2 e3 => ?_
  have o4 := e2.obj r hL3.lt (hL3.nr s hs).1
  rw [g3.obj r hL2.lt, o1] at o4
  have v1 := e1.sl.okc
  have v2 := e1.sl.cs
  simp (disch := omega) [-getElem?_pos, o4, el, v1, v2, spl]
  have ee : (S s).map it ++ [[.int .i64 x.1, .int .i64 x.2.1, .int .i64 x.2.2]] = (S s ++ [x]).map it := by simp [it]
  rw [ee] at e1
  have hh := hL3.setSlot hs e1 e2 (o2.slot hs u)
  exact h _ u hh.1 ((Stp.grow (g12.trans g3) _).trans hh.2)
end Go.Proofs.Ytkpdpdpilggcfaa
