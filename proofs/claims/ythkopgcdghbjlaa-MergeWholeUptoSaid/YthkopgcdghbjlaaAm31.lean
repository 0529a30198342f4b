/-
  slices.Insert of one element, and slices.BinarySearchFunc, of structs.
-/
import Derived.Test.YthkopgcdghbjlaaAm30
namespace Go.AM
open Go
set_option linter.unusedVariables false
set_option linter.unusedSimpArgs false
set_option maxRecDepth 20000
set_option maxHeartbeats 4000000

def bInsert (fo fr : FuncId) (sz bytes : Nat) (z : List V) : IFn := ⟨
 .seq
 (.region [⟨(some 6), .mov (.c (.sl none 0 (some 0))), none⟩]) <|
 .seq
 (.region [⟨(some 10), .mov (.t 0), none⟩,
    ⟨(some 11), .mov (.t 1), none⟩,
    ⟨(some 12), .slice sz (.t 10) (some (.t 11)) none none, none⟩]) <|
 .seq
 (.region [⟨(some 13), .mov (.t 2), none⟩,
    ⟨(some 14), .len .sl (.t 13), none⟩,
    ⟨(some 7), .mov (.t 14), none⟩]) <|
 .seq
 (.seq
  (.region [⟨(some 15), .mov (.t 7), none⟩,
     ⟨(some 16), .bin .eql (.t 15) (.c (.int .i64 0)), none⟩]) <|
  .cond (.t 16)
   (.seq
    (.region [⟨(some 17), .mov (.t 0), none⟩,
       ⟨(some 6), .mov (.t 17), none⟩]) <|
    .ret)
   (.skip)) <|
 .seq
 (.region [⟨(some 18), .mov (.t 0), none⟩,
    ⟨(some 19), .len .sl (.t 18), none⟩,
    ⟨(some 8), .mov (.t 19), none⟩]) <|
 .seq
 (.seq
  (.region [⟨(some 20), .mov (.t 1), none⟩,
     ⟨(some 21), .mov (.t 8), none⟩,
     ⟨(some 22), .bin .eql (.t 20) (.t 21), none⟩]) <|
  .cond (.t 22)
   (.seq
    (.region [⟨(some 23), .mov (.t 0), none⟩,
       ⟨(some 24), .mov (.t 2), none⟩,
       ⟨(some 25), .app sz bytes (.t 23) (.t 24), none⟩,
       ⟨(some 6), .mov (.t 25), none⟩]) <|
    .ret)
   (.skip)) <|
 .seq
 (.seq
  (.region [⟨(some 26), .mov (.t 8), none⟩,
     ⟨(some 27), .mov (.t 7), none⟩,
     ⟨(some 28), .bin .add (.t 26) (.t 27), none⟩,
     ⟨(some 29), .mov (.t 0), none⟩,
     ⟨(some 30), .cap (.t 29), none⟩,
     ⟨(some 31), .bin .gtr (.t 28) (.t 30), none⟩]) <|
  .cond (.t 31)
   (.seq
    (.region [⟨(some 32), .mov (.t 0), none⟩,
       ⟨(some 33), .mov (.t 1), none⟩,
       ⟨(some 34), .slice sz (.t 32) none (some (.t 33)) none, none⟩,
       ⟨(some 35), .mov (.t 8), none⟩,
       ⟨(some 36), .mov (.t 7), none⟩,
       ⟨(some 37), .bin .add (.t 35) (.t 36), none⟩,
       ⟨(some 38), .mov (.t 1), none⟩,
       ⟨(some 39), .bin .sub (.t 37) (.t 38), none⟩,
       ⟨(some 40), .appZ z bytes (.t 34) (.t 39), none⟩,
       ⟨(some 9), .mov (.t 40), none⟩]) <|
    .seq
    (.region [⟨(some 41), .mov (.t 9), none⟩,
       ⟨(some 42), .mov (.t 1), none⟩,
       ⟨(some 43), .slice sz (.t 41) (some (.t 42)) none none, none⟩,
       ⟨(some 44), .mov (.t 2), none⟩,
       ⟨(some 45), .copy sz (.t 43) (.t 44), none⟩]) <|
    .seq
    (.draw false [9] (
       .op ⟨(some 46), .mov (.t 9), none⟩ <|
       .op ⟨(some 47), .mov (.t 1), none⟩ <|
       .op ⟨(some 48), .mov (.t 7), none⟩ <|
       .op ⟨(some 49), .bin .add (.t 47) (.t 48), none⟩ <|
       .op ⟨(some 50), .slice sz (.t 46) (some (.t 49)) none none, none⟩ <|
       .op ⟨(some 51), .mov (.t 0), none⟩ <|
       .op ⟨(some 52), .mov (.t 1), none⟩ <|
       .op ⟨(some 53), .slice sz (.t 51) (some (.t 52)) none none, none⟩ <|
       .op ⟨(some 54), .copy sz (.t 50) (.t 53), none⟩ <|
       .done)) <|
    .seq
    (.region [⟨(some 55), .mov (.t 9), none⟩,
       ⟨(some 6), .mov (.t 55), none⟩]) <|
    .ret)
   (.skip)) <|
 .seq
 (.region [⟨(some 56), .mov (.t 0), none⟩,
    ⟨(some 57), .mov (.t 8), none⟩,
    ⟨(some 58), .mov (.t 7), none⟩,
    ⟨(some 59), .bin .add (.t 57) (.t 58), none⟩,
    ⟨(some 60), .slice sz (.t 56) none (some (.t 59)) none, none⟩,
    ⟨(some 0), .mov (.t 60), none⟩]) <|
 .seq
 (.seq
  (.region [⟨(some 61), .mov (.t 2), none⟩,
     ⟨(some 62), .mov (.t 0), none⟩,
     ⟨(some 63), .mov (.t 1), none⟩,
     ⟨(some 64), .mov (.t 7), none⟩,
     ⟨(some 65), .bin .add (.t 63) (.t 64), none⟩,
     ⟨(some 66), .slice sz (.t 62) (some (.t 65)) none none, none⟩,
     ⟨(some 67), .call (.f fo) [(.t 61), (.t 66)], none⟩,
     ⟨(some 68), .un .not (.t 67), none⟩]) <|
  .cond (.t 68)
   (.seq
    (.draw false [0, 1, 2] (
       .op ⟨(some 69), .mov (.t 0), none⟩ <|
       .op ⟨(some 70), .mov (.t 1), none⟩ <|
       .op ⟨(some 71), .mov (.t 7), none⟩ <|
       .op ⟨(some 72), .bin .add (.t 70) (.t 71), none⟩ <|
       .op ⟨(some 73), .slice sz (.t 69) (some (.t 72)) none none, none⟩ <|
       .op ⟨(some 74), .mov (.t 0), none⟩ <|
       .op ⟨(some 75), .mov (.t 1), none⟩ <|
       .op ⟨(some 76), .slice sz (.t 74) (some (.t 75)) none none, none⟩ <|
       .op ⟨(some 77), .copy sz (.t 73) (.t 76), none⟩ <|
       .done)) <|
    .seq
    (.region [⟨(some 78), .mov (.t 0), none⟩,
       ⟨(some 79), .mov (.t 1), none⟩,
       ⟨(some 80), .slice sz (.t 78) (some (.t 79)) none none, none⟩,
       ⟨(some 81), .mov (.t 2), none⟩,
       ⟨(some 82), .copy sz (.t 80) (.t 81), none⟩]) <|
    .seq
    (.region [⟨(some 83), .mov (.t 0), none⟩,
       ⟨(some 6), .mov (.t 83), none⟩]) <|
    .ret)
   (.skip)) <|
 .seq
 (.region [⟨(some 84), .mov (.t 0), none⟩,
    ⟨(some 85), .mov (.t 8), none⟩,
    ⟨(some 86), .slice sz (.t 84) (some (.t 85)) none none, none⟩,
    ⟨(some 87), .mov (.t 2), none⟩,
    ⟨(some 88), .copy sz (.t 86) (.t 87), none⟩]) <|
 .seq
 (.region [⟨(some 89), .mov (.t 0), none⟩,
    ⟨(some 90), .mov (.t 1), none⟩,
    ⟨(some 91), .slice sz (.t 89) (some (.t 90)) none none, none⟩,
    ⟨(some 92), .mov (.t 7), none⟩,
    ⟨(some 93), .call (.f fr) [(.t 91), (.t 92)], none⟩]) <|
 .seq
 (.region [⟨(some 94), .mov (.t 0), none⟩,
    ⟨(some 6), .mov (.t 94), none⟩]) <|
 .ret, [.slot 6]⟩

theorem sliceX_Rc (sz q i0 n r k : Nat) (kk : IntKind) (h : r ≤ k) : sliceX sz (.sl (some (q, i0, sz)) n (some k)) none (some (.int kk r)) none = some (.sl (some (q, i0, sz)) r (some k)) := by
  simp only [sliceX, sliceB, natOf]
  have h1 : (0 : Int) ≤ r := by omega
  have h2 : 0 ≤ r ∧ r ≤ Nat.max n ((some k).getD n) := ⟨Nat.zero_le _, Nat.le_trans h (Nat.le_max_right _ _)⟩
  simp only [h1, if_true, Int.toNat_natCast, h2, and_self]
  rw [sliceV_at _ _ _ _ _ _ (fun _ => rfl)]
  simp
/-- Elements of a row, where others were written over some. -/
theorem patch_win {α : Type} {full new : List α} {i0 n i : Nat} {x : α} {src : List α} (hf : i0 + n + 1 ≤ full.length) (hi : i < n) (hs : src.take (n - i) = ((full.drop i0).take n).drop i) :
    ((((full.take (i0 + (i + 1)) ++ src.take (n - i) ++ full.drop (i0 + (i + 1) + (n - i))).take (i0 + i) ++ [x] ++ (full.take (i0 + (i + 1)) ++ src.take (n - i) ++ full.drop (i0 + (i + 1) + (n - i))).drop (i0 + i + 1))).drop i0).take (n + 1) = ((full.drop i0).take n).take i ++ x :: ((full.drop i0).take n).drop i := by
  have l1 : (src.take (n - i)).length = n - i := by rw [hs]; simp; omega
  obtain ⟨F, hF⟩ : ∃ F, full.take (i0 + (i + 1)) ++ src.take (n - i) ++ full.drop (i0 + (i + 1) + (n - i)) = F := ⟨_, rfl⟩
  rw [hF]
  have f1 : F.take (i0 + i) = full.take (i0 + i) := by
    rw [← hF, List.append_assoc, List.take_append_of_le_length (by simp; omega), List.take_take, Nat.min_eq_left (by omega)]
  have f2 : F.drop (i0 + i + 1) = src.take (n - i) ++ full.drop (i0 + (i + 1) + (n - i)) := by
    rw [← hF, List.append_assoc, List.drop_append_of_le_length (by simp; omega), List.drop_of_length_le (by simp; omega)]; rfl
  rw [f1, f2, hs]
  have l2 : (full.take (i0 + i)).length = i0 + i := by simp; omega
  have l3 : (((full.drop i0).take n).drop i).length = n - i := by simp; omega
  rw [List.append_assoc, List.drop_append_of_le_length (by omega), List.drop_take, show i0 + i - i0 = i by omega]
  have l4 : ((full.drop i0).take i).length = i := by simp; omega
  rw [List.take_take, Nat.min_eq_left (by omega)]
  generalize (full.drop i0).take i = A at *
  generalize ((full.drop i0).take n).drop i = Bd at *
  generalize full.drop (i0 + (i + 1) + (n - i)) = C at *
  have e : A ++ ([x] ++ (Bd ++ C)) = (A ++ x :: Bd) ++ C := by simp
  rw [e]
  exact List.take_left' (by simp; omega)

theorem copyX_at {sz z r i n k : Nat} {m : Mem} {c : Option Nat} {full es : List (List V)} {K : KV} (ho : m.obj r = some (.row sz full true)) (hk : Nat.min es.length n = k) (h : i + k ≤ full.length)
    (hK : K (.int .i64 k) (m.upd r (some (.row sz (full.take i ++ es.take k ++ full.drop (i + k)) true)))) : copyX sz m (.sl (some (r, i, z)) n c) es K := by
  simp only [copyX, ho]
  rw [hk, if_pos ⟨trivial, h⟩]; exact hK

/-- The room is known. -/
theorem insert_known {P : Program} (hm : P.follows .mixedOrders = true) {f fo fr : FuncId} {nt sz bytes : Nat} {z : List V} (hc : Code1 P f nt (bInsert fo fr (sz + 1) bytes z)) (hnt : 3 ≤ nt) (hz : z.length = sz + 1) (hzc : z.all V.isCell = true)
    (hov : ∀ {m : Mem} {p i la q j lb : Nat} {ca cb : Option Nat} {es es2 : List (List V)} {K : KV}, p ≠ q → m.obj p = some (.row (sz + 1) es true) → m.obj q = some (.row (sz + 1) es2 true) → i + la ≤ es.length → j + lb ≤ es2.length → 0 < la → 0 < lb → K (.bool false) m → ACalls P fo [.sl (some (p, i, sz + 1)) la ca, .sl (some (q, j, sz + 1)) lb cb] m K)
    {m : Mem} {q i0 k n i p : Nat} {full : List (List V)} {x : List V} (hx : x.length = sz + 1) (hq : q < m.next) (hp : p < m.next) (hpq : p ≠ q) (ho : m.obj q = some (.row (sz + 1) full true)) (hop : m.obj p = some (.row (sz + 1) [x] true)) (hk : i0 + k ≤ full.length) (hnk : n ≤ k) (hi : i < n)
    (hb : (n + 1) * bytes ≤ 140737488355328) (hl : n < 4611686018427387904) {K : KV}
    (h : ∀ v' m', Ows m' (sz + 1) v' (((full.drop i0).take n).take i ++ x :: ((full.drop i0).take n).drop i) → Stp m m' [q] v'.fp → K v' m') : ACalls P f [.sl (some (q, i0, sz + 1)) n (some k), .int .i64 i, .sl (some (p, 0, sz + 1)) 1 (some 1)] m K := by
  refine run_on (ctx_nil _) hm hc (by simpa using hnt) fun hf => ?_
  have e1 := sliceX_L (sz + 1) q i0 n i (some k) .i64 (by omega)
  by_cases hroom : k < n + 1
  · have e2 := sliceX_R (sz + 1) q i0 n i (some k) .i64 (by omega)
    have e3 : appZV z bytes m (.sl (some (q, i0, sz + 1)) i (some k)) (.int .i64 ((n : Int) + 1 - i)) = some (.sl (some (m.next, 0, sz + 1)) (n + 1) none, m.new (.row (sz + 1) ((full.drop i0).take i ++ List.replicate (n + 1 - i) z) true)) := by
      have hb' : ((i : Int) + ((n : Int) + 1 - i)) * (bytes : Int) ≤ 140737488355328 := by
        rw [show (i : Int) + ((n : Int) + 1 - i) = ((n + 1 : Nat) : Int) by omega, ← Int.natCast_mul]; omega
      have hzo : z.all V.okc = true := by
        rw [okc_eq]; exact hzc
      rw [appZV_sl, if_pos ⟨by omega, by omega, hb', by omega, by omega, hzo⟩, ho]
      simp only
      rw [if_pos ⟨hz.symm, by omega⟩]
      congr 3
      · omega
      · congr 3
        omega
    obtain ⟨R0, hR0⟩ : ∃ R0, (full.drop i0).take i ++ List.replicate (n + 1 - i) z = R0 := ⟨_, rfl⟩
    have lR0 : R0.length = n + 1 := by rw [← hR0]; simp; omega
    rw [hR0] at e3
    have e4 := sliceX_L (sz + 1) m.next 0 (n + 1) i none .i64 (by omega)
    rw [Nat.zero_add] at e4
    have e5 : eltsOf (sz + 1) (m.new (.row (sz + 1) R0 true)) (.sl (some (p, 0, sz + 1)) 1 (some 1)) = some [x] := by
      rw [elts_at (full := [x]) (rw := true) (by rw [new_obj, if_neg (by omega)]; exact hop) (by simp)]; rfl
    simp (disch := omega) [-getElem?_pos, -sliceX_sl, -appZV_sl, bInsert, e1, e2, e3, e4, e5]
    refine copyX_at (k := 1) (full := R0) (by simp) (by simp only [List.length_singleton]; exact Nat.min_eq_left (by omega)) (by omega) ?_
    obtain ⟨R1, hR1⟩ : ∃ R1, R0.take i ++ [x].take 1 ++ R0.drop (i + 1) = R1 := ⟨_, rfl⟩
    have lR1 : R1.length = n + 1 := by rw [← hR1]; simp; omega
    rw [hR1]
    have e6 := sliceX_L (sz + 1) m.next 0 (n + 1) (i + 1) none .i64 (by omega)
    rw [Nat.zero_add, show ((i + 1 : Nat) : Int) = (i : Int) + 1 by omega] at e6
    have u1 : (m.new (.row (sz + 1) R0 true)).upd m.next (some (.row (sz + 1) R1 true)) = m.new (.row (sz + 1) R1 true) := upd_new' ..
    rw [u1]
    have e7 : eltsOf (sz + 1) (m.new (.row (sz + 1) R1 true)) (.sl (some (q, i0 + i, sz + 1)) (n - i) (some (k - i))) = some ((full.drop (i0 + i)).take (n - i)) := elts_at (full := full) (rw := true) (by rw [new_obj, if_neg (by omega)]; exact ho) (by omega)
    simp only [Option.map_some] at e1
    simp (disch := omega) [-getElem?_pos, -sliceX_sl, e1, e6, e7]
    have le7 : ((full.drop (i0 + i)).take (n - i)).length = n - i := by simp; omega
    refine copyX_at (k := n - i) (full := R1) (by simp) (by rw [le7]; exact Nat.min_self _) (by omega) ?_
    obtain ⟨R2, hR2⟩ : ∃ R2, R1.take (i + 1) ++ ((full.drop (i0 + i)).take (n - i)).take (n - i) ++ R1.drop (i + 1 + (n - i)) = R2 := ⟨_, rfl⟩
    rw [hR2]
    have u2 : (m.new (.row (sz + 1) R1 true)).upd m.next (some (.row (sz + 1) R2 true)) = m.new (.row (sz + 1) R2 true) := upd_new' ..
    rw [u2]
    have eR : R2 = ((full.drop i0).take n).take i ++ x :: ((full.drop i0).take n).drop i := by
      have l0 : ((full.drop i0).take i).length = i := by simp; omega
      have a1 : R0.take i = (full.drop i0).take i := by
        rw [← hR0, List.take_append_of_le_length (by omega), List.take_of_length_le (by omega)]
      have a2 : R1.take (i + 1) = (full.drop i0).take i ++ [x] := by
        rw [← hR1, a1]
        rw [List.take_append_of_le_length (by simp; omega), List.take_of_length_le (by simp; omega)]; rfl
      have a3 : R1.drop (i + 1 + (n - i)) = [] := List.drop_of_length_le (by omega)
      have a4 : ((full.drop (i0 + i)).take (n - i)).take (n - i) = ((full.drop i0).take n).drop i := by
        rw [List.take_take, Nat.min_self, List.drop_take, List.drop_drop]
      rw [← hR2, a2, a3, a4, List.append_nil, List.take_take, Nat.min_eq_left (by omega)]
      simp
    simp (disch := omega) [-getElem?_pos]
    refine h _ _ ?_ ?_
    · rw [← eR]
      have lR2 : R2.length = n + 1 := by rw [eR]; simp; omega
      exact ⟨.inr ⟨m.next, 0, R2, none, by rw [lR2], by simp, by simp, by omega, fun j _ => by rw [Nat.zero_add], fun k hk => by cases hk⟩⟩
    · exact ⟨by simp, fun p hp hd => by rw [new_obj, if_neg (by omega)], fun p hp => .inr (by simp [V.fp] at hp; omega)⟩
  · have e2 : sliceX (sz + 1) (.sl (some (q, i0, sz + 1)) n (some k)) none (some (.int .i64 ((n : Int) + 1))) none = some (.sl (some (q, i0, sz + 1)) (n + 1) (some k)) := by
      rw [show (n : Int) + 1 = ((n + 1 : Nat) : Int) by omega]; exact sliceX_Rc _ _ _ _ _ _ _ (by omega)
    have e3 := sliceX_L (sz + 1) q i0 (n + 1) (i + 1) (some k) .i64 (by omega)
    rw [show ((i + 1 : Nat) : Int) = (i : Int) + 1 by omega] at e3
    have e4 := sliceX_L (sz + 1) q i0 (n + 1) i (some k) .i64 (by omega)
    simp only [Option.map_some] at e1 e3 e4
    simp (disch := omega) [-getElem?_pos, -sliceX_sl, bInsert, e1, e2, e3]
    refine hov hpq hop ho (by simp) (by omega) (by omega) (by omega) ?_
    have e5 := elts_at (m := m) (sz := sz + 1) (q := q) (i := i0 + i) (n := n + 1 - i) (c := some (k - i)) ho (by omega)
    simp (disch := omega) [-getElem?_pos, -sliceX_sl, e1, e2, e3, e4, e5]
    have le5 : ((full.drop (i0 + i)).take (n + 1 - i)).length = n + 1 - i := by simp; omega
    refine copyX_at (k := n - i) (full := full) ho (by rw [le5]; exact Nat.min_eq_right (by omega)) (by omega) ?_
    obtain ⟨src, hsrc⟩ : ∃ src, (full.drop (i0 + i)).take (n + 1 - i) = src := ⟨_, rfl⟩
    rw [hsrc]
    have hs : src.take (n - i) = ((full.drop i0).take n).drop i := by
      rw [← hsrc, List.take_take, Nat.min_eq_left (by omega), List.drop_take, List.drop_drop]
    have win := patch_win (x := x) (new := full) (full := full) (i0 := i0) (n := n) (i := i) (src := src) (by omega) hi hs
    obtain ⟨F, hF⟩ : ∃ F, full.take (i0 + (i + 1)) ++ src.take (n - i) ++ full.drop (i0 + (i + 1) + (n - i)) = F := ⟨_, rfl⟩
    have lF : F.length = full.length := by
      have l1 : (src.take (n - i)).length = n - i := by rw [hs]; simp; omega
      rw [← hF]; simp only [List.length_append, l1, List.length_take, List.length_drop]; omega
    rw [hF] at win ⊢
    have e6 : eltsOf (sz + 1) (m.upd q (some (.row (sz + 1) F true))) (.sl (some (p, 0, sz + 1)) 1 (some 1)) = some [x] := by
      rw [elts_at (full := [x]) (rw := true) (by rw [upd_obj, if_neg hpq]; exact hop) (by simp)]; rfl
    simp (disch := omega) [-getElem?_pos, -sliceX_sl, e4, e6]
    refine copyX_at (k := 1) (full := F) (by simp) (by simp only [List.length_singleton]; exact Nat.min_eq_left (by omega)) (by omega) ?_
    obtain ⟨G, hG⟩ : ∃ G, F.take (i0 + i) ++ [x].take 1 ++ F.drop (i0 + i + 1) = G := ⟨_, rfl⟩
    have lG : G.length = full.length := by rw [← hG]; simp; omega
    have win2 : (G.drop i0).take (n + 1) = ((full.drop i0).take n).take i ++ x :: ((full.drop i0).take n).drop i := by rw [← hG]; exact win
    rw [hG]
    simp (disch := omega) [-getElem?_pos]
    have lw : (((full.drop i0).take n).take i ++ x :: ((full.drop i0).take n).drop i).length = n + 1 := by rw [← win2]; simp; omega
    refine h _ _ ⟨.inr ⟨q, i0, G, some k, by rw [lw], by simpa using hq, by simp, by rw [lw]; omega, fun j hj => ?_, fun k' hk' => ?_⟩⟩ ?_
    · rw [lw] at hj
      rw [← win2, List.getElem?_take_of_lt hj, List.getElem?_drop]
    · injection hk' with hk'; subst hk'
      rw [lw]; omega
    · refine ⟨by simp, fun p' hp' hd => ?_, fun p' hp' => .inl (by simpa [V.fp] using hp')⟩
      have : p' ≠ q := by simpa using hd
      simp [this]

/-- Insert of one element into a slice of one's own. -/
theorem insert_calls {P : Program} (hm : P.follows .mixedOrders = true) {f fo fr : FuncId} {nt sz bytes : Nat} {z : List V} (hc : Code1 P f nt (bInsert fo fr (sz + 1) bytes z)) (hnt : 3 ≤ nt) (hz : z.length = sz + 1) (hzc : z.all V.isCell = true)
    (hov : ∀ {m : Mem} {p i la q j lb : Nat} {ca cb : Option Nat} {es es2 : List (List V)} {K : KV}, p ≠ q → m.obj p = some (.row (sz + 1) es true) → m.obj q = some (.row (sz + 1) es2 true) → i + la ≤ es.length → j + lb ≤ es2.length → 0 < la → 0 < lb → K (.bool false) m → ACalls P fo [.sl (some (p, i, sz + 1)) la ca, .sl (some (q, j, sz + 1)) lb cb] m K)
    {m : Mem} {v : V} {es : List (List V)} {i p : Nat} {x : List V} (ho : Ows m (sz + 1) v es) (hx : x.length = sz + 1) (hp : p < m.next) (hpv : p ∉ v.fp) (hop : m.obj p = some (.row (sz + 1) [x] true)) (hi : i ≤ es.length)
    (hb : (es.length + 1) * bytes ≤ 140737488355328) (hl : es.length < 4611686018427387904) {K : KV}
    (h : ∀ v' m', Ows m' (sz + 1) v' (es.take i ++ x :: es.drop i) → Stp m m' v.fp v'.fp → K v' m') : ACalls P f [v, .int .i64 i, .sl (some (p, 0, sz + 1)) 1 (some 1)] m K := by
  by_cases hin : i < es.length
  case neg =>
    have hie : i = es.length := by omega
    subst hie
    rw [List.take_length, List.drop_length] at h
    refine run_on (ctx_nil _) hm hc (by simpa using hnt) fun hf => ?_
    obtain ⟨w, e1, _, _⟩ := ho.cutL .i64 es.length (Nat.le_refl _)
    have hv1 := ho.sl.lenSl
    have e5 : eltsOf (sz + 1) m (.sl (some (p, 0, sz + 1)) 1 (some 1)) = some [x] := by
      rw [elts_at (full := [x]) (rw := true) hop (by simp)]; rfl
    simp (disch := omega) [-getElem?_pos, -sliceX_sl, bInsert, e1, hv1, e5]
    refine ho.app hb (by omega) fun v' m' w1 w2 w3 => ?_
    simp (disch := omega) [-getElem?_pos]
    exact h v' m' w1 w2
  rcases ho.ex with ⟨_, rfl⟩ | ⟨q, i0, full, c, rfl, h1, h2, h3, h4, h5⟩
  · simp at hin
  have hpq : p ≠ q := fun e => hpv (by simp [V.fp, e])
  have hw : (full.drop i0).take es.length = es := drop_get h4 h3
  cases c with
  | some k =>
    obtain ⟨k1, k2⟩ := h5 k rfl
    refine insert_known hm hc hnt hz hzc hov hx h1 hp hpq h2 hop k2 k1 hin hb hl fun v' m' w1 w2 => ?_
    rw [hw] at w1
    exact h v' m' w1 (by simpa [V.fp] using w2)
  | none =>
    refine ACalls.reveal (a := []) h2 fun pad hpad hn => ?_
    have hw2 : ((full ++ pad).drop i0).take es.length = es := drop_get (fun j hj => by rw [List.getElem?_append_left (by omega)]; exact h4 j hj) (by simp; omega)
    simp only [List.nil_append]
    refine insert_known (full := full ++ pad) hm hc hnt hz hzc hov hx (by simpa using h1) (by simpa using hp) hpq (by simp) (by rw [upd_obj, if_neg hpq]; exact hop) (by rw [List.length_append]; omega) hn hin hb hl fun v' m' w1 w2 => ?_
    rw [hw2] at w1
    refine h v' m' w1 ?_
    have s1 : Stp m (m.upd q (some (.row (sz + 1) (full ++ pad) true))) [q] [q] := Stp.upd m (by simp) _
    have := s1.trans w2
    simpa [V.fp] using this

/-! ### slices.BinarySearchFunc -/
def bBinSearch (sz : Nat) : IFn := ⟨
 .seq
 (.region [⟨(some 6), .mov (.c (.int .i64 0)), none⟩,
    ⟨(some 7), .mov (.c (.bool false)), none⟩]) <|
 .seq
 (.region [⟨(some 12), .mov (.t 0), none⟩,
    ⟨(some 13), .len .sl (.t 12), none⟩,
    ⟨(some 8), .mov (.t 13), none⟩]) <|
 .seq
 (.region [⟨(some 14), .mov (.t 8), none⟩,
    ⟨(some 9), .mov (.c (.int .i64 0)), none⟩,
    ⟨(some 10), .mov (.t 14), none⟩]) <|
 .seq
 (.block 0 <|
  .loop [0, 1, 2, 8, 9, 10] <|
   .seq
   (.seq
    (.region [⟨(some 15), .mov (.t 9), none⟩,
       ⟨(some 16), .mov (.t 10), none⟩,
       ⟨(some 17), .bin .lss (.t 15) (.t 16), none⟩]) <|
    .cond (.t 17)
     (.skip)
     (.exit 0)) <|
   .block 1 <|
   .seq
   (.region [⟨(some 18), .mov (.t 9), none⟩,
      ⟨(some 19), .mov (.t 10), none⟩,
      ⟨(some 20), .bin .add (.t 18) (.t 19), none⟩,
      ⟨(some 21), .conv .u64 (.t 20), none⟩,
      ⟨(some 22), .bin .shr (.t 21) (.c (.int .u64 1)), none⟩,
      ⟨(some 23), .conv .i64 (.t 22), none⟩,
      ⟨(some 11), .mov (.t 23), none⟩]) <|
   .seq
   (.region [⟨(some 24), .mov (.t 2), none⟩,
      ⟨(some 25), .mov (.t 0), none⟩,
      ⟨(some 26), .mov (.t 11), none⟩,
      ⟨(some 27), .iaddr sz (.t 25) (.t 26), none⟩,
      ⟨(some 28), .load true sz (.t 27), none⟩,
      ⟨(some 29), .mov (.t 1), none⟩,
      ⟨(some 30), .call (.t 24) [(.t 28), (.t 29)], none⟩,
      ⟨(some 31), .bin .lss (.t 30) (.c (.int .i64 0)), none⟩]) <|
   .cond (.t 31)
    (.region [⟨(some 32), .mov (.t 11), none⟩,
       ⟨(some 33), .bin .add (.t 32) (.c (.int .i64 1)), none⟩,
       ⟨(some 9), .mov (.t 33), none⟩])
    (.region [⟨(some 34), .mov (.t 11), none⟩,
       ⟨(some 10), .mov (.t 34), none⟩])) <|
 .seq
 (.region [⟨(some 35), .mov (.t 9), none⟩,
    ⟨(some 36), .mov (.t 9), none⟩,
    ⟨(some 37), .mov (.t 8), none⟩,
    ⟨(some 38), .bin .lss (.t 36) (.t 37), none⟩,
    ⟨(some 39), .mov (.t 38), none⟩,
    ⟨(some 40), .mov (.t 2), (some (39, true))⟩,
    ⟨(some 41), .mov (.t 0), (some (39, true))⟩,
    ⟨(some 42), .mov (.t 9), (some (39, true))⟩,
    ⟨(some 43), .iaddr sz (.t 41) (.t 42), (some (39, true))⟩,
    ⟨(some 44), .load true sz (.t 43), (some (39, true))⟩,
    ⟨(some 45), .mov (.t 1), (some (39, true))⟩,
    ⟨(some 46), .call (.t 40) [(.t 44), (.t 45)], (some (39, true))⟩,
    ⟨(some 47), .bin .eql (.t 46) (.c (.int .i64 0)), (some (39, true))⟩,
    ⟨(some 48), .pick (.t 39) (.t 47) (.c (.bool false)), none⟩,
    ⟨(some 6), .mov (.t 35), none⟩,
    ⟨(some 7), .mov (.t 48), none⟩]) <|
 .ret, [.slot 6, .slot 7]⟩

/-- The place where one stands, or would: by what the closure answers of each element. -/
theorem binSearch_calls {P : Program} (hm : P.follows .mixedOrders = true) {f : FuncId} {nt sz : Nat} (hc : Code1 P f nt (bBinSearch sz)) (hnt : 3 ≤ nt) {m : Mem} {v t : V} {es : List (List V)} {g : FuncId} (cf : List V → Int) (hv : Sl m sz v es) (hl : es.length < 4611686018427387904) (hes : ∀ x ∈ es, x.length = sz)
    (hcf : ∀ x, -9223372036854775808 ≤ cf x ∧ cf x ≤ 9223372036854775807) (hg : ∀ (M : Mem) (K : KV), ∀ x ∈ es, (∀ M', M.Grew M' → K (.int .i64 (cf x)) M') → ACalls P g [.agg x, t] M K) {K : KV}
    (hs : es.Pairwise fun x y => cf y < 0 → cf x < 0)
    (h : ∀ (k : Nat) m', k ≤ es.length → (∀ x ∈ es.take k, cf x < 0) → (∀ x ∈ es.drop k, 0 ≤ cf x) → m.Grew m' → K (.tup [.int .i64 k, .bool (match es[k]? with | some x => decide (cf x = 0) | none => false)]) m') : ACalls P f [v, t, .fn g [] []] m K := by
  have hv1 := hv.lenSl
  refine run_on (ctx_nil _) hm hc (by simpa using hnt) fun hf => ?_
  obtain ⟨N, hN⟩ : ∃ N, es.length = N := ⟨_, rfl⟩
  rw [hN] at hv1 hl
  have hpa : ∀ x ∈ es, partV true x 0 sz = some (.agg x) := fun x hx => by
    have := hes x hx
    simp [partV, this, List.take_of_length_le]
  have hmono : ∀ i j x y, i < j → es[i]? = some x → es[j]? = some y → cf y < 0 → cf x < 0 := fun i j x y hij hx hy => by
    have hjl := (List.getElem?_eq_some_iff.1 hy).1
    have hil := (List.getElem?_eq_some_iff.1 hx).1
    have := (List.pairwise_iff_getElem.1 hs) i j hil hjl hij
    rw [(List.getElem?_eq_some_iff.1 hx).2, (List.getElem?_eq_some_iff.1 hy).2] at this
    exact this
  simp (disch := omega) [-getElem?_pos, bBinSearch, hv1]
  refine exec_loopU (σ := Nat × Nat × Mem) (fun (lo, hi, _) => [(9, .int .i64 lo), (10, .int .i64 hi)]) (fun (_, _, M) => M) (fun (lo, hi, M) => lo ≤ hi ∧ hi ≤ N ∧ m.Grew M ∧ (∀ j x, j < lo → es[j]? = some x → cf x < 0) ∧ (∀ j x, hi ≤ j → es[j]? = some x → 0 ≤ cf x)) (fun (lo, hi, _) => hi - lo) (0, N, m) rfl
    (by dsimp only; exact ⟨by omega, by omega, Mem.Grew.refl m, fun j x h1 => absurd h1 (by omega), fun j x h1 h2 => by have := (List.getElem?_eq_some_iff.1 h2).1; omega⟩) (by simp) ?_
  intro (lo, hi, M) ⟨a1, a2, a3, a4, a5⟩
  by_cases hlt : lo < hi
  · obtain ⟨md, hmd⟩ : ∃ md, (lo + hi) / 2 = md := ⟨_, rfl⟩
    have e1 : Int.fdiv ((lo : Int) + hi) 2 = (md : Int) := by
      rw [Int.fdiv_eq_ediv_of_nonneg _ (by omega)]; omega
    obtain ⟨x, hx⟩ : ∃ x, es[md]? = some x := ⟨_, List.getElem?_eq_getElem (by omega)⟩
    obtain ⟨p, q, full, rw, b1, b2, b3, b4, _⟩ := (hv.grow a3).at hx .i64
    have c1 := hpa x (mem_of_idx hx)
    have hr := hcf x
    simp (disch := omega) [-getElem?_pos, -partV, e1, b1, b3, b4, c1]
    refine hg M _ x (mem_of_idx hx) fun M2 g2 => ?_
    by_cases hneg : cf x < 0
    · simp (disch := omega) [-getElem?_pos]
      exact again_mk (md + 1, hi, M2) (by
        dsimp only
        refine ⟨by omega, a2, a3.trans g2, fun j y hj hy => ?_, a5⟩
        by_cases e : j = md
        · subst e; rw [hx] at hy; injection hy with hy; subst hy; exact hneg
        · exact hmono j md y x (by omega) hy hx hneg) (by dsimp only; omega) (by simp) rfl
    · simp (disch := omega) [-getElem?_pos]
      exact again_mk (lo, md, M2) (by
        dsimp only
        refine ⟨by omega, by omega, a3.trans g2, a4, fun j y hj hy => ?_⟩
        by_cases e : j = md
        · subst e; rw [hx] at hy; injection hy with hy; subst hy; omega
        · have := hmono md j x y (by omega) hx hy
          omega) (by dsimp only; omega) (by simp) rfl
  · have : lo = hi := by omega
    subst this
    have h1 : ∀ x ∈ es.take lo, cf x < 0 := fun x hx => by
      obtain ⟨j, hj⟩ := List.mem_iff_getElem?.1 hx
      have hjl := (List.getElem?_eq_some_iff.1 hj).1
      simp at hjl
      rw [List.getElem?_take_of_lt (by omega)] at hj
      exact a4 j x (by omega) hj
    have h2 : ∀ x ∈ es.drop lo, 0 ≤ cf x := fun x hx => by
      obtain ⟨j, hj⟩ := List.mem_iff_getElem?.1 hx
      rw [List.getElem?_drop] at hj
      exact a5 (lo + j) x (by omega) hj
    replace h := fun m' => h lo m' (by omega) h1 h2
    by_cases hlN : lo < N
    · obtain ⟨x, hx⟩ : ∃ x, es[lo]? = some x := ⟨_, List.getElem?_eq_getElem (by omega)⟩
      obtain ⟨p, q, full, rw, b1, b2, b3, b4, _⟩ := (hv.grow a3).at hx .i64
      have c1 := hpa x (mem_of_idx hx)
      have hr := hcf x
      rw [hx] at h
      simp (disch := omega) [-getElem?_pos, -partV, b1, b3, b4, c1]
      refine hg M _ x (mem_of_idx hx) fun M2 g2 => ?_
      simp (disch := omega) [-getElem?_pos]
      exact h _ (a3.trans g2)
    · rw [List.getElem?_eq_none (by omega)] at h
      simp (disch := omega) [-getElem?_pos]
      exact h _ a3
end Go.AM
