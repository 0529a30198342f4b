/-
  WHAT IS DONE AT A DESK, in plain words.
-/
import Derived.Test.YtdblhiebjccbaaaFx
namespace Go.Proofs.Ytdblhiebjccbaaa
open Go Go.AM
set_option linter.unusedVariables false
set_option linter.unusedSimpArgs false
set_option maxRecDepth 8000
set_option maxHeartbeats 4000000

theorem Cs.part {cs : List V} {D : Dk} (h : Cs cs D) {i : Nat} (hi : i < 256) : (cs.drop (2 + i * 3)).take 3 = [.int .i64 (D.h i).who, .int .i64 (D.h i).tok, .int .i64 (D.h i).en] := by
  apply List.ext_getElem?
  intro j
  rcases Nat.lt_or_ge j 3 with hj | hj
  · rw [List.getElem?_take_of_lt hj, List.getElem?_drop]
    rcases j with _ | _ | _ | j
    · rw [Nat.add_zero, h.cw i hi]; rfl
    · rw [h.ct i hi]; rfl
    · rw [h.ce i hi]; rfl
    · omega
  · rw [List.getElem?_eq_none (by simp; omega), List.getElem?_eq_none (by simp; omega)]

def hd0 : Hd := ⟨0, 0, 0⟩
def Dk.see (D : Dk) (i : Nat) : Hd := if D.held i then D.h i else hd0

theorem Desk.new1 {m : Mem} {r : Nat} {D : Dk} (h : Desk m r D) (o : AM.Obj) : Desk (m.new o) r D := h.grow (Mem.Grew.new m o)

theorem of_calls {m : Mem} {r : Nat} {D : Dk} (hD : Desk m r D) {now : Int} {i : Nat} (hi : i < 256) {K : KV}
    (h : ∀ m', Desk m' r (D.tick now) → Stp m m' [r] [r] → K (.tup [((D.tick now).see i).v, .bool ((D.tick now).held i)]) m') : ACalls Try.prog 7 [.ptr (some (r, 0, 0)), .int .i64 now, .int .i64 i] m K := by
  refine run_on x1 hm c7 (by simp) fun hf => ?_
  have hlt := hD.lt
  simp (disch := omega) [-getElem?_pos, b7]
  refine at_calls (hD.new1 _) hi fun M hM sM => ?_
  have hn : (m.new (.row 3 [[.int .i64 0, .int .i64 0, .int .i64 0]] true)).next = m.next + 1 := by simp
  have oc : M.obj m.next = some (.row 3 [[.int .i64 0, .int .i64 0, .int .i64 0]] true) := by rw [sM.obj _ (by simp) (by simp; omega)]; simp
  have sn := sM.next
  rw [hn] at sn
  simp (disch := omega) [-getElem?_pos]
  refine held_calls hM hi ?_
  obtain ⟨cs, o1, o2⟩ := hM.obj
  have hl := o2.len
  have e4 := o2.part hi
  have fin : ∀ o, Desk (M.upd m.next (some o)) r (D.tick now) ∧ Stp m (M.upd m.next (some o)) [r] [r] := fun o =>
    ⟨hM.keep (by simp) (by simp; omega), ⟨by simp; omega, fun p hp h2 => by
      simp at h2
      rw [updO _ (by omega), sM.obj p (by simp; omega) (by simpa using h2), newO _ (by omega)], fun p hp => .inl hp⟩⟩
  unfold Dk.see at h
  cases hg : (D.tick now).held i with
  | true =>
    rw [hg] at h
    simp (disch := omega) [-getElem?_pos, oc, o1, hl, e4]
    exact h _ (fin _).1 (fin _).2
  | false =>
    rw [hg] at h
    simp (disch := omega) [-getElem?_pos, oc, o1, hl, e4]
    exact h _ (fin _).1 (fin _).2

theorem of_nil {m : Mem} {now th : Int} {K : KV} (h : ∀ m', m.Grew m' → K (.tup [hd0.v, .bool false]) m') : ACalls Try.prog 7 [.ptr none, .int .i64 now, .int .i64 th] m K := by
  refine run_on x1 hm c7 (by simp) fun hf => ?_
  simp (disch := omega) [-getElem?_pos, b7]
  refine at_nil ?_
  simp (disch := omega) [-getElem?_pos]
  exact h _ (Mem.Grew.new m _)

/-! ### Take -/

def Dk.take (D : Dk) (now : Int) (i : Nat) (who long : Int) : Dk × Hd × Int :=
  let D := D.tick now
  if D.held i = true ∨ (D.g i = false ∧ (D.h i).who ≠ who ∧ subT D.now (D.h i).en < D.grace) then (D, hd0, 9)
  else
    let x : Hd := ⟨who, (D.h i).tok + 1, addT D.now long⟩
    (⟨D.grace, D.now, fun j => if j = i then x else D.h j, fun j => if j = i then false else D.g j⟩, x, 0)

theorem take_calls {m : Mem} {r : Nat} {D : Dk} (hD : Desk m r D) {now who long : Int} {i : Nat} (hi : i < 256) (hw : 1 ≤ who) (hlo : 1 ≤ long) (hlo2 : long ≤ 1099511627776) (htok : -9223372036854775808 ≤ (D.h i).tok ∧ (D.h i).tok < 9223372036854775807) {K : KV}
    (h : ∀ m', Desk m' r (D.take now i who long).1 → Stp m m' [r] [r] → K (.tup [(D.take now i who long).2.1.v, .int .i64 (D.take now i who long).2.2]) m') : ACalls Try.prog 9 [.ptr (some (r, 0, 0)), .int .i64 now, .int .i64 i, .int .i64 who, .int .i64 long] m K := by
  refine run_on x1 hm c9 (by simp) fun hf => ?_
  have hlt := hD.lt
  simp (disch := omega) [-getElem?_pos, b9]
  refine at_calls (hD.new1 _) hi fun M hM sM => ?_
  have hn : (m.new (.row 3 [[.int .i64 0, .int .i64 0, .int .i64 0]] true)).next = m.next + 1 := by simp
  have oc : M.obj m.next = some (.row 3 [[.int .i64 0, .int .i64 0, .int .i64 0]] true) := by rw [sM.obj _ (by simp) (by simp; omega)]; simp
  have sn := sM.next
  rw [hn] at sn
  have htok2 : -9223372036854775808 ≤ ((D.tick now).h i).tok ∧ ((D.tick now).h i).tok < 9223372036854775807 := htok
  clear htok
  unfold Dk.take at h
  dsimp only at h
  obtain ⟨D', eD⟩ : ∃ D', D.tick now = D' := ⟨_, rfl⟩
  rw [eD] at h hM htok2
  obtain ⟨cs, o1, o2⟩ := hM.obj
  have hl := o2.len
  have e0 := o2.c0
  have e1 := o2.c1
  have ew := o2.cw i hi
  have et := o2.ct i hi
  have ee := o2.ce i hi
  have eg := o2.cg i hi
  have fin : ∀ o, Desk (M.upd m.next (some o)) r D' ∧ Stp m (M.upd m.next (some o)) [r] [r] := fun o =>
    ⟨hM.keep (by simp) (by simp; omega), ⟨by simp; omega, fun p hp h2 => by
      simp at h2
      rw [updO _ (by omega), sM.obj p (by simp; omega) (by simpa using h2), newO _ (by omega)], fun p hp => .inl hp⟩⟩
  simp (disch := omega) [-getElem?_pos]
  refine held_calls hM hi ?_
  cases hh : D'.held i with
  | true =>
    rw [if_pos (.inl hh)] at h
    simp (disch := omega) [-getElem?_pos, oc]
    exact h _ (fin _).1 (fin _).2
  | false =>
    simp only [hh, Bool.false_eq_true, false_or] at h
    by_cases hb : D'.g i = false ∧ (D'.h i).who ≠ who ∧ subT D'.now (D'.h i).en < D'.grace
    · obtain ⟨g1, g2, g3⟩ := hb
      rw [if_pos ⟨g1, g2, g3⟩] at h
      rw [g1] at eg
      simp (disch := omega) [-getElem?_pos]
      refine drawT_one ⟨_, _, by simp (disch := omega) [-getElem?_pos, o1, hl, e0, e1, ew, ee, eg, g2, g3, F17]; exact ⟨rfl, rfl⟩, ?_⟩
      simp (disch := omega) [-getElem?_pos, oc]
      exact h _ (fin _).1 (fin _).2
    · rw [if_neg hb] at h
      simp (disch := omega) [-getElem?_pos]
      by_cases g1 : D'.g i = true
      case' pos =>
        rw [g1] at eg
        refine drawT_one ⟨_, _, by simp (disch := omega) [-getElem?_pos, o1, hl, e0, e1, ew, ee, eg, F17]; exact ⟨rfl, rfl⟩, ?_⟩
      case' neg =>
        have g1' : D'.g i = false := by simpa using g1
        rw [g1'] at eg
        by_cases g2 : (D'.h i).who = who
        case' neg =>
          have g3 : ¬ subT D'.now (D'.h i).en < D'.grace := fun g3 => hb ⟨g1', g2, g3⟩
          refine drawT_one ⟨_, _, by simp (disch := omega) [-getElem?_pos, o1, hl, e0, e1, ew, ee, eg, g2, g3, F17]; exact ⟨rfl, rfl⟩, ?_⟩
        case' pos =>
          refine drawT_one ⟨_, _, by simp (disch := omega) [-getElem?_pos, o1, hl, e0, e1, ew, ee, eg, g2, F17]; exact ⟨rfl, rfl⟩, ?_⟩
      all_goals
        have hc := (o2.hold hi ⟨who, (D'.h i).tok + 1, addT D'.now long⟩)
        obtain ⟨cs2, ec2⟩ : ∃ c, cs.take (2 + i * 3) ++ V.int .i64 who :: V.int .i64 ((D'.h i).tok + 1) :: V.int .i64 (addT D'.now long) :: cs.drop (2 + i * 3 + 3) = c := ⟨_, rfl⟩
        have ec3 : cs.take (2 + i * 3) ++ (Hd.mk who ((D'.h i).tok + 1) (addT D'.now long)).cs ++ cs.drop (2 + i * 3 + 3) = cs2 := by rw [← ec2]; simp [Hd.cs]
        rw [ec3] at hc
        have hc2 := hc.give hi false
        have hl1 := hc.len
        have hl2 := hc2.len
        have e4 := hc2.part hi
        simp only [if_true] at e4
        simp (disch := omega) [-getElem?_pos]
        refine drawT_one ⟨_, _, by simp (disch := omega) [-getElem?_pos, o1, hl, e1, et, F18, ec2]; exact ⟨rfl, rfl⟩, ?_⟩
        simp (disch := omega) [-getElem?_pos, hl1, spl, e4, oc]
        refine h _ ⟨?_, ?_⟩ ?_
        · simp; omega
        · refine ⟨cs2.set (770 + i) (.bool false), ?_, hc2⟩
          simp
          omega
        · refine ⟨by simp; omega, fun p hp h2 => ?_, fun p hp => .inl hp⟩
          simp at h2
          rw [updO _ (by omega), updO _ (by omega), sM.obj p (by simp; omega) (by simpa using h2), newO _ (by omega)]
end Go.Proofs.Ytdblhiebjccbaaa
