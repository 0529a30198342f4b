/-
  THE FIXED FACTS of this seat.
-/
import Derived.Test.YtdblhiebjccbaaaHx
namespace Go.Proofs.Ytdblhiebjccbaaa
open Go Go.AM
set_option linter.unusedVariables false
set_option linter.unusedSimpArgs false
set_option maxRecDepth 8000
set_option maxHeartbeats 4000000

def D0 : Dk := Dk.new 3
def D1 : Dk := (D0.take 10 (7 : Nat) 1 5).1
def D2 : Dk := (D1.take 14 (7 : Nat) 2 5).1
def D3 : Dk := (D2.take 16 (7 : Nat) 2 5).1
def D4 : Dk := (D3.take 18 (7 : Nat) 2 5).1
def D5 : Dk := (D4.renew 20 (7 : Nat) 2 9).1
def D6 : Dk := D5.tick 21
def D7 : Dk := D6.tick 21
def D8 : Dk := D7.tick 21
def D9 : Dk := (D8.give 21 (7 : Nat) 2).1
theorem d1 : (D0.take 10 (7 : Nat) 1 5).2 = (⟨1, 1, 15⟩, 0) := by kernel_rfl
theorem d2 : (D1.take 14 (7 : Nat) 2 5).2 = (hd0, 9) := by kernel_rfl
theorem d3 : (D2.take 16 (7 : Nat) 2 5).2 = (hd0, 9) := by kernel_rfl
theorem d4 : (D3.take 18 (7 : Nat) 2 5).2 = (⟨2, 2, 23⟩, 0) := by kernel_rfl
theorem d5 : (D4.renew 20 (7 : Nat) 2 9).2 = (⟨2, 2, 29⟩, 0) := by kernel_rfl
theorem d6 : (D6.held 7 && decide ((D6.h 7).tok = 2)) = true := by kernel_rfl
theorem d7 : nextI D7 256 = 29 := by kernel_rfl
theorem d8 : (heldL D8 256).length = 1 := by kernel_rfl
theorem d9 : (D8.give 21 (7 : Nat) 2).2 = 0 := by kernel_rfl
theorem d10 : (D9.give 21 (7 : Nat) 2).2 = 7 := by kernel_rfl
theorem k0 : (D0.h 7).tok = 0 := rfl
theorem k1 : (D1.h 7).tok = 1 := by kernel_rfl
theorem k2 : (D2.h 7).tok = 1 := by kernel_rfl
theorem k3 : (D3.h 7).tok = 1 := by kernel_rfl

/-- What lies under a name. -/
structure At (m : Mem) (p : Nat) (o : AM.Obj) : Prop where
  lt : p < m.next
  obj : m.obj p = some o
theorem At.new (m : Mem) (o : AM.Obj) : At (m.new o) m.next o := ⟨by simp, by simp⟩
theorem At.grow {m m' : Mem} {p : Nat} {o : AM.Obj} (h : At m p o) (g : m.Grew m') : At m' p o := ⟨by have := g.next; have := h.lt; omega, by rw [g.obj p h.lt]; exact h.obj⟩
theorem At.step {m m' : Mem} {p r : Nat} {o : AM.Obj} (h : At m p o) (g : Stp m m' [r] [r]) (hr : p ≠ r) : At m' p o := ⟨by have := g.next; have := h.lt; omega, by rw [g.obj p h.lt (by simpa using hr)]; exact h.obj⟩

theorem fixed_calls {m : Mem} {K : KV} (h : ∀ m', m.Grew m' → K (.bool true) m') : ACalls Try.prog 5 [] m K := by
  refine run_on (ctx_nil _) hm c5 (by simp) fun hf => ?_
  simp (disch := omega) [-getElem?_pos, b5]
  refine new_calls (by omega) fun r M0 hM0 hr gM0 => ?_
  simp (disch := omega) [-getElem?_pos]
  refine take_calls (i := 7) (D := D0) hM0 (by omega) (by omega) (by omega) (by omega) (by rw [k0]; omega) fun M1 hM1 sM1 => ?_
  rw [d1]
  have g1 := sM1.toGrew gM0 (by simpa using hr)
  have n1 : Desk (M1.new (.row 3 [[.int .i64 1, .int .i64 1, .int .i64 15]] true)) r D1 := Desk.new1 hM1 _
  have q1 := g1.trans (Mem.Grew.new M1 (.row 3 [[.int .i64 1, .int .i64 1, .int .i64 15]] true))
  simp (disch := omega) [-getElem?_pos, Hd.v, Hd.cs]
  refine take_calls (i := 7) (D := D1) n1 (by omega) (by omega) (by omega) (by omega) (by rw [k1]; omega) fun M2 hM2 sM2 => ?_
  rw [d2]
  have g2 := sM2.toGrew q1 (by simpa using hr)
  have n2 : Desk (M2.new (.row 3 [[.int .i64 0, .int .i64 0, .int .i64 0]] true)) r D2 := Desk.new1 hM2 _
  have q2 := g2.trans (Mem.Grew.new M2 (.row 3 [[.int .i64 0, .int .i64 0, .int .i64 0]] true))
  simp (disch := omega) [-getElem?_pos, Hd.v, Hd.cs]
  refine take_calls (i := 7) (D := D2) n2 (by omega) (by omega) (by omega) (by omega) (by rw [k2]; omega) fun M3 hM3 sM3 => ?_
  rw [d3]
  have g3 := sM3.toGrew q2 (by simpa using hr)
  have n3 : Desk (M3.new (.row 3 [[.int .i64 0, .int .i64 0, .int .i64 0]] true)) r D3 := Desk.new1 hM3 _
  have q3 := g3.trans (Mem.Grew.new M3 (.row 3 [[.int .i64 0, .int .i64 0, .int .i64 0]] true))
  simp (disch := omega) [-getElem?_pos, Hd.v, Hd.cs]
  refine take_calls (i := 7) (D := D3) n3 (by omega) (by omega) (by omega) (by omega) (by rw [k3]; omega) fun M4 hM4 sM4 => ?_
  rw [d4]
  have g4 := sM4.toGrew q3 (by simpa using hr)
  have n4 : Desk (M4.new (.row 3 [[.int .i64 2, .int .i64 2, .int .i64 23]] true)) r D4 := Desk.new1 hM4 _
  have q4 := g4.trans (Mem.Grew.new M4 (.row 3 [[.int .i64 2, .int .i64 2, .int .i64 23]] true))
  simp (disch := omega) [-getElem?_pos, Hd.v, Hd.cs]
  refine renew_calls (i := 7) (D := D4) n4 (by omega) (by omega) (by omega) fun M5 hM5 sM5 => ?_
  rw [d5]
  have g5 := sM5.toGrew q4 (by simpa using hr)
  have n5 : Desk (M5.new (.row 3 [[.int .i64 2, .int .i64 2, .int .i64 29]] true)) r D5 := Desk.new1 hM5 _
  have q5 := g5.trans (Mem.Grew.new M5 (.row 3 [[.int .i64 2, .int .i64 2, .int .i64 29]] true))
  simp (disch := omega) [-getElem?_pos, Hd.v, Hd.cs]
  refine take_nil fun M6 g6 => ?_
  have n6 := n5.grow g6
  have q6 := q5.trans g6
  simp (disch := omega) [-getElem?_pos, Hd.v, Hd.cs]
  have l0 := hM0.lt
  have l1 := hM1.lt
  have l4 := hM4.lt
  have l5 := hM5.lt
  have w1 := ((((((((At.new M1 (.row 3 [[.int .i64 1, .int .i64 1, .int .i64 15]] true)).step sM2 (by omega)).grow (Mem.Grew.new _ _)).step sM3 (by omega)).grow (Mem.Grew.new _ _)).step sM4 (by omega)).grow (Mem.Grew.new _ _)).step sM5 (by omega)).grow (Mem.Grew.new _ _) |>.grow g6
  have w4 := (((At.new M4 (.row 3 [[.int .i64 2, .int .i64 2, .int .i64 23]] true)).step sM5 (by omega)).grow (Mem.Grew.new _ _)).grow g6
  have w5 := (At.new M5 (.row 3 [[.int .i64 2, .int .i64 2, .int .i64 29]] true)).grow g6
  have n7 : Desk (M6.new (.row 3 [[.int .i64 hd0.who, .int .i64 hd0.tok, .int .i64 hd0.en]] true)) r D5 := n6.new1 _
  have q7 := q6.trans (Mem.Grew.new M6 (.row 3 [[.int .i64 hd0.who, .int .i64 hd0.tok, .int .i64 hd0.en]] true))
  have z1 := w1.lt
  have z4 := w4.lt
  have z5 := w5.lt
  simp (disch := omega) [-getElem?_pos, w1.obj, w4.obj, w5.obj]
  refine right_calls (i := 7) n7 (by omega) fun M7 hM7 sM7 => ?_
  have d6' : (((D5.tick 21).held 7) && decide (((D5.tick 21).h 7).tok = 2)) = true := d6
  rw [d6']
  have q8 := sM7.toGrew q7 (by simpa using hr)
  simp (disch := omega) [-getElem?_pos]
  refine next_calls (D := D6) hM7 fun M8 hM8 sM8 => ?_
  have d7' : nextI (D6.tick 21) 256 = 29 := d7
  rw [d7']
  have q9 := sM8.toGrew q8 (by simpa using hr)
  simp (disch := omega) [-getElem?_pos]
  refine heldS_calls (D := D7) hM8 fun v M9 hM9 sM9 oM9 => ?_
  have q10 := sM9.toGrew q9 (by simpa using hr)
  obtain ⟨N, eN, lN⟩ := len1 oM9.sl
  have d8' : (heldL (D7.tick 21) 256).length = 1 := d8
  rw [d8'] at eN
  subst eN
  simp (disch := omega) [-getElem?_pos, lN]
  refine give_calls (i := 7) (D := D8) hM9 (by omega) fun M10 hM10 sM10 => ?_
  rw [d9]
  have q11 := sM10.toGrew q10 (by simpa using hr)
  simp (disch := omega) [-getElem?_pos]
  refine give_calls (i := 7) (D := D9) hM10 (by omega) fun M11 hM11 sM11 => ?_
  rw [d10]
  have q12 := sM11.toGrew q11 (by simpa using hr)
  simp (disch := omega) [-getElem?_pos]
  refine new_none (by omega) ?_
  simp (disch := omega) [-getElem?_pos]
  refine next_nil fun M12 g12 => ?_
  simp (disch := omega) [-getElem?_pos]
  exact h _ (q12.trans g12)
end Go.Proofs.Ytdblhiebjccbaaa
