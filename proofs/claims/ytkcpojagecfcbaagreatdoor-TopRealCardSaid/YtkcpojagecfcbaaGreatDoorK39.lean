/-
  SLEEPS: how they lie; times of specs; one is asked for; one ends.
  SLEEPS: a task's; one begins; one ends; all.
  WHAT TASKS ASK FOR: how it lies; times; a timer is put.
  WHAT TASKS ASK FOR: a task sleeps.
  WHAT TASKS ASK FOR: a step; who sleeps.
  WHAT TASKS ASK FOR: who sleeps; a system is made.
  AN EXAMPLE: a timer fires when its clock is set forward; a sleep ends.
  AN EXAMPLE: its code.
  THE LAWS: steps as they come in; all that is gone through, by IDs.
  NO TIMER STAYS: devices are armed in time.
  NO TIMER STAYS: each step leaves devices armed in time; what is due fires as it settles.
-/
import Derived.Test.YtkcpojagecfcbaaGreatDoorK37
import Derived.Test.YtkcpojagecfcbaaGreatDoorK38
namespace Go.Proofs.YtkcpojagecfcbaaGreatDoor
open Go Go.AM
set_option linter.unusedVariables false
set_option linter.unusedSimpArgs false
set_option maxRecDepth 60000
set_option maxHeartbeats 16000000
abbrev codeM : CodeL := [(97, 34, b97), (75, 6, b75), (125, 10, b125), (124, 51, b124)]
theorem mul97 {m : Mem} {K : KV} (hk : K (.int .i64 0) m) : ACalls Tryz.prog 97 [.int .i64 1000000000, .int .i64 0] m K :=
  (reckon hm (c := codeM) ⟨c97, c75, c125, c124, trivial⟩ 100 10 (r0 := .int .i64 0) rfl rfl (by kernel_rfl) m).imp fun r m' h => by
    obtain ⟨rfl, rfl⟩ := h
    exact hk
structure Slp where
  task : Int
  ck : Int
  till : Int
  rel : Bool
def Slp.cs (x : Slp) : List V := [.int .i64 x.task, .int .i64 x.ck, .int .i64 x.till, .bool x.rel]
def slpV (S : Nat → Slp) (A : Nat → Bool) : List V := ((List.range' 0 32).flatMap fun i => (S i).cs) ++ (List.range' 0 32).map fun i => .bool (A i)
def slpO (S : Nat → Slp) (A : Nat → Bool) : AM.Obj := .row 160 [slpV S A] true
def upN' {α : Type} (f : Nat → α) (i : Nat) (x : α) : Nat → α := fun k => if k = i then x else f k
theorem range_mid {n i : Nat} (h : i < n) : List.range' 0 n = List.range' 0 i ++ i :: List.range' (i + 1) (n - i - 1) := by
  have h1 : n = i + (1 + (n - i - 1)) := by omega
  rw [h1, ← List.range'_append_1, Nat.zero_add, Nat.add_comm 1, List.range'_succ]
  congr 3
  omega
theorem flat_len (S : Nat → Slp) (a n : Nat) : ((List.range' a n).flatMap fun i => (S i).cs).length = 4 * n := by
  induction n generalizing a with
  | zero => rfl
  | succ n ih =>
    rw [List.range'_succ, List.flatMap_cons, List.length_append, ih]
    unfold Slp.cs
    simp only [List.length_cons, List.length_nil]
    omega
theorem slpV_len (S : Nat → Slp) (A : Nat → Bool) : (slpV S A).length = 160 := by
  unfold slpV
  rw [List.length_append, flat_len, List.length_map, List.length_range']
theorem slpV_row (S : Nat → Slp) (A : Nat → Bool) {i : Nat} (h : i < 32) : ∃ P Q, P.length = 4 * i ∧ ∀ x, slpV (upN' S i x) A = P ++ (x.cs ++ Q) := by
  refine ⟨(List.range' 0 i).flatMap fun i => (S i).cs, ((List.range' (i + 1) (32 - i - 1)).flatMap fun i => (S i).cs) ++ (List.range' 0 32).map fun i => .bool (A i), flat_len _ _ _, fun x => ?_⟩
  unfold slpV
  rw [range_mid h, List.flatMap_append, List.flatMap_cons]
  have e1 : (List.range' 0 i).flatMap (fun k => (upN' S i x k).cs) = (List.range' 0 i).flatMap fun k => (S k).cs := by
    refine congrArg List.flatten (List.map_congr_left fun k hk => ?_)
    have := (List.mem_range'_1.1 hk).2
    unfold upN'
    rw [if_neg (by omega)]
  have e2 : (List.range' (i + 1) (32 - i - 1)).flatMap (fun k => (upN' S i x k).cs) = (List.range' (i + 1) (32 - i - 1)).flatMap fun k => (S k).cs := by
    refine congrArg List.flatten (List.map_congr_left fun k hk => ?_)
    have := (List.mem_range'_1.1 hk).1
    unfold upN'
    rw [if_neg (by omega)]
  have e3 : upN' S i x i = x := if_pos rfl
  rw [e1, e2, e3]
  simp only [List.append_assoc]
theorem slpV_bit (S : Nat → Slp) (A : Nat → Bool) {i : Nat} (h : i < 32) : ∃ P Q, P.length = 128 + i ∧ ∀ b, slpV S (upN' A i b) = P ++ ([.bool b] ++ Q) := by
  refine ⟨((List.range' 0 32).flatMap fun i => (S i).cs) ++ (List.range' 0 i).map fun i => .bool (A i), (List.range' (i + 1) (32 - i - 1)).map fun i => .bool (A i), ?_, fun b => ?_⟩
  · rw [List.length_append, flat_len, List.length_map, List.length_range']
  · unfold slpV
    have e1 : (List.range' 0 32).map (fun k => V.bool (upN' A i b k)) = (List.range' 0 i).map (fun k => V.bool (A k)) ++ (.bool b :: (List.range' (i + 1) (32 - i - 1)).map fun k => V.bool (A k)) := by
      rw [range_mid h, List.map_append, List.map_cons]
      have e3 : upN' A i b i = b := if_pos rfl
      rw [e3]
      congr 1
      · refine List.map_congr_left fun k hk => ?_
        have := (List.mem_range'_1.1 hk).2
        unfold upN'
        rw [if_neg (by omega)]
      · congr 1
        refine List.map_congr_left fun k hk => ?_
        have := (List.mem_range'_1.1 hk).1
        unfold upN'
        rw [if_neg (by omega)]
    rw [e1]
    simp only [List.append_assoc, List.singleton_append]
theorem upN_same {α : Type} (f : Nat → α) (i : Nat) : upN' f i (f i) = f := by
  funext k; unfold upN'; split
  · next e => rw [e]
  · rfl
theorem mid_take {P X Q : List V} : (List.drop P.length (P ++ (X ++ Q))).take X.length = X := by
  rw [List.drop_left, List.take_left]
theorem mid_set {P X Y Q : List V} (h : X.length = Y.length) : List.take P.length (P ++ (X ++ Q)) ++ (Y ++ List.drop (P.length + Y.length) (P ++ (X ++ Q))) = P ++ (Y ++ Q) := by
  rw [List.take_left, ← List.drop_drop, List.drop_left, ← h, List.drop_left]
theorem slp_row (S : Nat → Slp) (A : Nat → Bool) {i : Nat} (h : i < 32) : List.take 4 (List.drop (i * 4) (slpV S A)) = (S i).cs := by
  obtain ⟨P, Q, h1, h2⟩ := slpV_row S A h
  have h3 := h2 (S i)
  rw [upN_same] at h3
  rw [h3, show i * 4 = P.length by omega]
  exact mid_take (X := (S i).cs)
theorem slp_put (S : Nat → Slp) (A : Nat → Bool) {i : Nat} (h : i < 32) (x : Slp) : List.take (i * 4) (slpV S A) ++ (x.cs ++ List.drop (i * 4 + 4) (slpV S A)) = slpV (upN' S i x) A := by
  obtain ⟨P, Q, h1, h2⟩ := slpV_row S A h
  have h3 := h2 (S i)
  rw [upN_same] at h3
  rw [h3, h2, show i * 4 = P.length by omega]
  exact mid_set (X := (S i).cs) (Y := x.cs) rfl
theorem slp_bit (S : Nat → Slp) (A : Nat → Bool) {i : Nat} (h : i < 32) : (slpV S A)[128 + i]? = some (.bool (A i)) := by
  obtain ⟨P, Q, h1, h2⟩ := slpV_bit S A h
  have h3 := h2 (A i)
  rw [upN_same] at h3
  rw [h3, ← h1, List.getElem?_append_right (Nat.le_refl _), Nat.sub_self]
  rfl
theorem slp_set (S : Nat → Slp) (A : Nat → Bool) {i : Nat} (h : i < 32) (b : Bool) : List.take (128 + i) (slpV S A) ++ (.bool b :: List.drop (128 + i + 1) (slpV S A)) = slpV S (upN' A i b) := by
  obtain ⟨P, Q, h1, h2⟩ := slpV_bit S A h
  have h3 := h2 (A i)
  rw [upN_same] at h3
  rw [h3, h2, ← h1]
  exact mid_set (X := [.bool (A i)]) (Y := [.bool b]) rfl
section
variable {m m' : Mem}
theorem right96 {n : Int} (h0 : 0 ≤ n) (h9 : n ≤ 999999999) {K : KV} (hk : ∀ M, m.Grew M → K (.bool true) M) : ACalls Tryz.prog 96 [.agg [.int .i64 0, .int .i64 n]] m K := by
  refine run_on (ctx_nil _) hm c96 (by simp) fun hf => ?_
  simp (disch := omega) [-getElem?_pos, b96]
  exact hk _ (Mem.Grew.new _ _)
theorem time71 {n : Int} (h0 : 0 ≤ n) (h9 : n ≤ 999999999) {K : KV} (hk : ∀ M, m.Grew M → K (.tup [.int .i64 n, .int .i64 0]) M) : ACalls Tryz.prog 71 [.agg [.int .i64 0, .int .i64 n]] m K := by
  refine run_on xE hm c71 (by simp) fun hf => ?_
  obtain ⟨M1, hM1⟩ : ∃ M1, m.new (.row 2 [[.int .i64 0, .int .i64 n]] true) = M1 := ⟨_, rfl⟩
  have g1 : m.Grew M1 := hM1 ▸ Mem.Grew.new _ _
  have o1 : M1.obj m.next = some (.row 2 [[.int .i64 0, .int .i64 n]] true) := by rw [← hM1]; simp
  have hn1 : M1.next = m.next + 1 := by rw [← hM1]; simp
  simp (disch := omega) [-getElem?_pos, b71, hM1, o1]
  refine right96 h0 h9 fun M2 g2 => ?_
  have o2 := (g2.obj m.next (by omega)).trans o1
  have e : addT 0 n = n := by unfold addT cl; rw [if_neg (by omega)]; omega
  simp (disch := omega) [-getElem?_pos]
  refine drawT_J (fun e' M' => e' = (Env.none.put (some 3) (V.int .i64 0)).put (some 2) (V.int .i64 n) ∧ Same M' M2) ?_ fun e' M' hJ => ?_
  · simp (disch := omega) [-getElem?_pos, o2]
    refine ⟨?_, ?_⟩ <;>
    · refine mul97 ?_
      simp (disch := omega) [-getElem?_pos, o2, F72, e]
      exact rfl
  · obtain ⟨rfl, hX⟩ := hJ
    rw [show M' = _ from hX]
    simp (disch := omega) [-getElem?_pos]
    exact hk _ (g1.trans g2)
end
set_option maxHeartbeats 16000000
def Slp.zero : Slp := ⟨0, 0, 0, false⟩
/-- Is a sleep over? -/
def overS (x : Slp) (tm : Nat → Int) : Bool := decide (x.till < 4611686018427387903) && decide (x.till ≤ cl (tm x.ck.toNat))
section
variable {m m' : Mem} {p : Nat} {S : Nat → Slp} {A : Nat → Bool}
theorem of73 (ho : m.obj p = some (slpO S A)) {i : Nat} (hi : i < 32) {K : KV} (hk : ∀ M, m.Grew M → K (.tup [.agg (if A i then (S i).cs else Slp.zero.cs), .bool (A i)]) M) : ACalls Tryz.prog 73 [.ptr (some (p, 0, 0)), .int .i64 i] m K := by
  refine run_on (ctx_nil _) hm c73 (by simp) fun hf => ?_
  have hp := hf p _ ho
  have hl := slpV_len S A
  have hb := slp_bit S A hi
  have hr := slp_row S A hi
  unfold slpO at ho
  unfold Slp.cs at hr
  cases ha : A i with
  | false =>
    rw [ha, if_neg (by simp)] at hk
    rw [ha] at hb
    simp (disch := omega) [-getElem?_pos, b73, ho, hb, hl, splice]
    exact hk _ (Mem.Grew.new _ _)
  | true =>
    rw [ha, if_pos rfl] at hk
    rw [ha] at hb
    simp (disch := omega) [-getElem?_pos, b73, ho, hb, hl, hr, splice]
    exact hk _ (Mem.Grew.new _ _)
theorem only_same {M : Mem} {o : AM.Obj} (ho : m.obj p = some o) (hp : p < m.next) (g : m.Grew M) : Only m p o M := ⟨g.next, fun q hq _ => g.obj q hq, (g.obj p hp).trans ho⟩
theorem wake45 (ho : m.obj p = some (slpO S A)) {i : Nat} (hi : i < 32) (hck : A i = true → 0 ≤ (S i).ck ∧ (S i).ck < 3) {tm : Nat → Int} {K : KV}
    (hk : ∀ M, Only m p (slpO S (if A i && overS (S i) tm then upN' A i false else A)) M → K (.int .i64 (if A i then if overS (S i) tm then 0 else 8 else 7)) M) : ACalls Tryz.prog 45 [.ptr (some (p, 0, 0)), .int .i64 i, .agg (t3 tm)] m K := by
  refine run_on xE hm c45 (by simp) fun hf => ?_
  have hp := hf p _ ho
  obtain ⟨M1, hM1⟩ : ∃ M1, m.new (.row 3 [t3 tm] true) = M1 := ⟨_, rfl⟩
  have g1 : m.Grew M1 := hM1 ▸ Mem.Grew.new _ _
  have o1 : M1.obj m.next = some (.row 3 [t3 tm] true) := by rw [← hM1]; simp
  have hn1 : M1.next = m.next + 1 := by rw [← hM1]; simp
  simp (disch := omega) [-getElem?_pos, b45, hM1]
  refine of73 ((g1.obj p hp).trans ho) hi fun M2 g2 => ?_
  have n2 := g2.next
  have hl := slpV_len S A
  have gN := Mem.Grew.new M2 (.row 4 [(if A i then (S i).cs else Slp.zero.cs)] true)
  have gg := (g1.trans g2).trans gN
  cases ha : A i with
  | false =>
    rw [ha, if_neg (by simp)] at gN gg
    rw [ha, Bool.false_and, if_neg (by simp), if_neg (by simp)] at hk
    unfold Slp.cs Slp.zero at gN gg
    simp (disch := omega) [-getElem?_pos, splice, Slp.cs, Slp.zero]
    exact hk _ (only_same ho hp gg)
  | true =>
    rw [ha, if_pos rfl] at gN gg
    rw [ha, Bool.true_and, if_pos rfl] at hk
    obtain ⟨c0, c3⟩ := hck ha
    unfold Slp.cs at gN gg
    simp (disch := omega) [-getElem?_pos, splice, Slp.cs]
    have oT : (M2.new (.row 4 [[.int .i64 (S i).task, .int .i64 (S i).ck, .int .i64 (S i).till, .bool (S i).rel]] true)).obj M2.next = some (.row 4 [[.int .i64 (S i).task, .int .i64 (S i).ck, .int .i64 (S i).till, .bool (S i).rel]] true) := by simp
    have oA := (gN.obj m.next (by omega)).trans ((g2.obj m.next (by omega)).trans o1)
    have oP := (gg.obj p hp).trans ho
    generalize M2.new (.row 4 [[.int .i64 (S i).task, .int .i64 (S i).ck, .int .i64 (S i).till, .bool (S i).rel]] true) = M3 at *
    have eA : (t3 tm)[(S i).ck.toNat]? = some (V.int .i64 (tm (S i).ck.toNat)) := iaddrA3 oA (by omega)
    refine drawT_J (fun e' M' => e' = ((Env.none.put (some 20) (V.bool (!overS (S i) tm))).put (some 1) (V.int .i64 i)).put (some 0) (V.ptr (some (p, 0, 0))) ∧ Same M' M3) ?_ fun e' M' hJ => ?_
    · unfold overS
      by_cases c : 4611686018427387903 ≤ (S i).till
      · simp (disch := omega) [-getElem?_pos, oT, F74, c]
        exact rfl
      · simp (disch := omega) [-getElem?_pos, oT, oA, eA, F74, F75, c]
        have e : decide (cl (tm (S i).ck.toNat) < (S i).till) = !decide ((S i).till ≤ cl (tm (S i).ck.toNat)) := by
          by_cases q : (S i).till ≤ cl (tm (S i).ck.toNat)
          · rw [decide_eq_true q, decide_eq_false (by omega)]; rfl
          · rw [decide_eq_false q, decide_eq_true (by omega)]; rfl
        rw [e]
        exact ⟨rfl, rfl⟩
    · obtain ⟨rfl, hX⟩ := hJ
      rw [show M' = _ from hX]
      have hs := slp_set S A hi false
      unfold slpO at oP
      cases hov : overS (S i) tm with
      | false =>
        rw [hov, if_neg (by simp), if_neg (by simp)] at hk
        simp (disch := omega) [-getElem?_pos]
        exact hk _ (only_same ho hp gg)
      | true =>
        rw [hov, if_pos rfl, if_pos rfl] at hk
        simp (disch := omega) [-getElem?_pos, oP, hl, splice, hs]
        exact hk _ (only_up gg _ _)
/-- A sleep of so many nanoseconds, from now on. -/
def newS (task : Nat) (clock : Nat) (n : Int) (tm : Nat → Int) : Slp := ⟨task, (if clock = 1 then 0 else clock : Nat), addT n (tm (if clock = 1 then 0 else clock)), true⟩
theorem start43 (ho : m.obj p = some (slpO S A)) {i : Nat} (hi : i < 32) (ha : A i = false) {k : Nat} (hk3 : k < 3) {n : Int} (h0 : 0 ≤ n) (h9 : n ≤ 999999999) {tm : Nat → Int} {K : KV}
    (hk : ∀ M, Only m p (slpO (upN' S i (newS i k n tm)) (upN' A i true)) M → K (.tup [.agg (newS i k n tm).cs, .int .i64 0]) M) : ACalls Tryz.prog 43 [.ptr (some (p, 0, 0)), .int .i64 i, .int .i64 k, .agg [.int .i64 0, .int .i64 n], .bool false, .agg (t3 tm)] m K := by
  refine run_on xE hm c43 (by simp) fun hf => ?_
  have hp := hf p _ ho
  have hl := slpV_len S A
  have hb := slp_bit S A hi
  rw [ha] at hb
  obtain ⟨M1, hM1⟩ : ∃ M1, ((m.new (.row 2 [[.int .i64 0, .int .i64 n]] true)).new (.row 3 [t3 tm] true)).new (.row 4 [[.int .i64 0, .int .i64 0, .int .i64 0, .bool false]] true) = M1 := ⟨_, rfl⟩
  have g1 : m.Grew M1 := hM1 ▸ ((Mem.Grew.new _ _).trans (Mem.Grew.new _ _)).trans (Mem.Grew.new _ _)
  have o0 : M1.obj m.next = some (.row 2 [[.int .i64 0, .int .i64 n]] true) := by
    rw [← hM1]; simp
    omega
  have o1 : M1.obj (m.next + 1) = some (.row 3 [t3 tm] true) := by rw [← hM1]; simp
  have o2 : M1.obj (m.next + 1 + 1) = some (.row 4 [[.int .i64 0, .int .i64 0, .int .i64 0, .bool false]] true) := by rw [← hM1]; simp
  have hn1 : M1.next = m.next + 1 + 1 + 1 := by rw [← hM1]; simp
  simp (disch := omega) [-getElem?_pos, b43, hM1, o0]
  refine time71 h0 h9 fun M2 g2 => ?_
  have n2 := g2.next
  have oP := (g2.obj p (by omega)).trans ((g1.obj p hp).trans ho)
  have oT := (g2.obj (m.next + 1) (by omega)).trans o1
  have oR := (g2.obj (m.next + 1 + 1) (by omega)).trans o2
  have hl2 := slpV_len (upN' S i (newS i k n tm)) A
  have hs1 := slp_put S A hi (newS i k n tm)
  have hs2 := slp_set (upN' S i (newS i k n tm)) A hi true
  have gg := g1.trans g2
  obtain ⟨X, hX⟩ : ∃ X, newS i k n tm = X := ⟨_, rfl⟩
  rw [hX] at hk hl2 hs1 hs2
  unfold slpO at oP
  have fin : ∀ (M : Mem) (o : AM.Obj), M2.Grew M → Only m p (slpO (upN' S i X) (upN' A i true)) ((M.upd p (some (.row 160 [slpV (upN' S i X) (upN' A i true)] true))).upd (m.next + 1 + 1) (some o)) := fun M o g =>
    ⟨by simp; have := g.next; omega, fun q hq hne => by rw [updO _ (by omega), updO _ hne, g.obj q (by omega)]; exact gg.obj q hq, by rw [updO _ (by omega)]; simp [slpO]⟩
  have hk3 : k = 0 ∨ k = 1 ∨ k = 2 := by omega
  rcases hk3 with rfl | rfl | rfl
  · obtain rfl : X = ⟨i, 0, addT n (tm 0), true⟩ := hX.symm
    simp only [Slp.cs, List.cons_append, List.nil_append] at hs1 hk
    simp (disch := omega) [-getElem?_pos, splice, oP, hl, hb, oT, F72, hs1, hs2, hl2, oR]
    exact hk _ (fin _ _ (Mem.Grew.new _ _))
  · obtain rfl : X = ⟨i, 0, addT n (tm 0), true⟩ := hX.symm
    simp only [Slp.cs, List.cons_append, List.nil_append] at hs1 hk
    simp (disch := omega) [-getElem?_pos, splice, oP, hl, hb, oT, F72, hs1, hs2, hl2, oR]
    exact hk _ (fin _ _ (Mem.Grew.new _ _))
  · obtain rfl : X = ⟨i, 2, addT n (tm 2), true⟩ := hX.symm
    simp only [Slp.cs, List.cons_append, List.nil_append] at hs1 hk
    simp (disch := omega) [-getElem?_pos, splice, oP, hl, hb, oT, F72, hs1, hs2, hl2, oR]
    exact hk _ (fin _ _ (Mem.Grew.new _ _))
/-- All that sleep. -/
def asleepL (A : Nat → Bool) (n : Nat) : List Nat := (List.range n).filter fun i => A i
theorem asleepL_succ (A : Nat → Bool) (n : Nat) : asleepL A (n + 1) = if A n then asleepL A n ++ [n] else asleepL A n := by
  unfold asleepL
  rw [List.range_succ, List.filter_append]
  cases h : A n <;> simp [h]
theorem asleepL_le (A : Nat → Bool) (n : Nat) : (asleepL A n).length ≤ n := by
  unfold asleepL
  exact Nat.le_trans (List.length_filter_le _ _) (by simp)
theorem all48 (ho : m.obj p = some (slpO S A)) {K : KV} (hk : ∀ v M, m.Grew M → Own m.next M 4 v ((asleepL A 32).map fun i => (S i).cs) → K v M) : ACalls Tryz.prog 48 [.ptr (some (p, 0, 0))] m K := by
  refine run_on xE hm c48 (by simp) fun hf => ?_
  have hp := hf p _ ho
  simp (disch := omega) [-getElem?_pos, b48]
  refine exec_loopU (σ := Nat × V × Mem) (fun (i, v, _) => [(7, .int .i64 i), (3, v), (0, .ptr (some (p, 0, 0)))]) (fun (_, _, M) => M) (fun (i, v, M) => i ≤ 32 ∧ m.Grew M ∧ Own m.next M 4 v ((asleepL A i).map fun i => (S i).cs)) (fun (i, _, _) => 32 - i) (0, .sl .none 0 (some 0), m) rfl
    ⟨by omega, Mem.Grew.refl _, Own.none _ _ _⟩ (by simp) ?_
  intro (i, v, M) ⟨a1, a2, a3⟩
  by_cases hi : i < 32
  · have hn := a2.next
    have hle := asleepL_le A i
    simp (disch := omega) [-getElem?_pos]
    refine of73 ((a2.obj p hp).trans ho) hi fun M2 g2 => ?_
    have hn2 := g2.next
    cases hb : A i with
    | false =>
      simp (disch := omega) [-getElem?_pos, splice, Slp.cs, Slp.zero]
      have gN := Mem.Grew.new M2 (.row 4 [[.int .i64 0, .int .i64 0, .int .i64 0, .bool false]] true)
      exact again_mk (i + 1, v, _) ⟨by omega, (a2.trans g2).trans gN, by rw [asleepL_succ, hb]; exact (a3.grow g2).grow gN⟩ (by dsimp only; omega) (by simp) rfl
    | true =>
      have gN := (Mem.Grew.new M2 (.row 4 [(S i).cs] true)).trans (Mem.Grew.new _ (.row 4 [(S i).cs] true))
      unfold Slp.cs at gN
      simp (disch := omega) [-getElem?_pos, splice, Slp.cs, Slp.zero, eltsOf, Mem.elts]
      refine appendX_own3 (a3.grow g2) gN (by omega) (by simp) (by simp; omega) (by simp; omega) fun v' M3 u1 u2 u3 u4 => ?_
      simp (disch := omega) [-getElem?_pos]
      simp only [new_next] at u3
      have gg := (a2.trans g2).trans gN
      have ggn := gg.next
      refine again_mk (i + 1, v', M3) ⟨by omega, ⟨by show m.next ≤ M3.next; omega, fun q hq => (u2 q (by simp; omega) (.inl hq)).trans (gg.obj q hq)⟩, by rw [asleepL_succ, hb, if_pos rfl, List.map_append]; exact u1⟩ (by dsimp only; omega) (by simp) rfl
  · obtain rfl : i = 32 := by omega
    simp (disch := omega) [-getElem?_pos]
    exact hk _ _ a2 a3
end
set_option maxHeartbeats 16000000
structure UA where
  u : Nat
  s : Nat
  a : EA
structure Usr where
  E : Eng
  n : Nat
  S : Nat → Slp
  A : Nat → Bool
/-- A system lies here. -/
structure UsrR (m : Mem) (b : UA) (U : Usr) : Prop where
  ou : ∃ rest, m.obj b.u = some (.row 37 [.ptr (some (b.a.e, 0, 0)) :: .int .i64 U.n :: .ptr (some (b.s, 0, 0)) :: rest] true)
  os : m.obj b.s = some (slpO U.S U.A)
  eng : EngR m b.a U.E
  n1 : b.u ∉ b.a.all U.E.n
  n2 : b.s ∉ b.a.all U.E.n
  n3 : b.u ≠ b.s
  lu : b.u < m.next
  ls : b.s < m.next
def UA.all (b : UA) (n : Nat) : List Nat := b.u :: b.s :: b.a.all n
section
variable {m m' : Mem} {b : UA} {U : Usr}
theorem resV_one (m : Mem) (e : Env) (r : RV) : resV m e [r] = resOf m e r := by
  simp only [resV, resAll]; cases resOf m e r <;> rfl
attribute [simp] resV_one
theorem UsrR.grow (h : UsrR m b U) (g : m.Grew m') : UsrR m' b U := by
  obtain ⟨rest, ho⟩ := h.ou
  have := g.next
  exact ⟨⟨rest, (g.obj _ h.lu).trans ho⟩, (g.obj _ h.ls).trans h.os, h.eng.grow g, h.n1, h.n2, h.n3, by have := h.lu; omega, by have := h.ls; omega⟩
theorem UsrR.setE (h : UsrR m b U) {E' : Eng} (he : EngR m' b.a E') (hn : E'.n = U.E.n) (hs : Stp m m' (b.a.all U.E.n) (b.a.all U.E.n)) : UsrR m' b { U with E := E' } ∧ Stp m m' (b.all U.E.n) (b.all U.E.n) := by
  obtain ⟨rest, ho⟩ := h.ou
  have := hs.next
  refine ⟨⟨⟨rest, (hs.obj _ h.lu h.n1).trans ho⟩, (hs.obj _ h.ls h.n2).trans h.os, he, by show b.u ∉ b.a.all E'.n; rw [hn]; exact h.n1, by show b.s ∉ b.a.all E'.n; rw [hn]; exact h.n2, h.n3, by have := h.lu; omega, by have := h.ls; omega⟩, hs.mono (fun p hp => ?_) fun p hp => .inl hp⟩
  unfold UA.all; simp [hp]
theorem UsrR.setS (h : UsrR m b U) {S : Nat → Slp} {A : Nat → Bool} (hO : Only m b.s (slpO S A) m') : UsrR m' b { U with S := S, A := A } ∧ Stp m m' (b.all U.E.n) (b.all U.E.n) := by
  obtain ⟨rest, ho⟩ := h.ou
  have hn := hO.next
  refine ⟨⟨⟨rest, (hO.obj _ h.lu h.n3).trans ho⟩, hO.at', h.eng.keep hn fun p hp => hO.obj p (h.eng.lts p hp) fun e => h.n2 (e ▸ hp), h.n1, h.n2, h.n3, by have := h.lu; omega, by have := h.ls; omega⟩, ⟨hn, fun p hp hd => hO.obj p hp fun e => hd ?_, fun p hp => .inl hp⟩⟩
  unfold UA.all; simp [e]
theorem UsrR.lts (h : UsrR m b U) : ∀ p ∈ b.all U.E.n, p < m.next := fun p hp => by
  unfold UA.all at hp
  rcases List.mem_cons.1 hp with rfl | hp
  · exact h.lu
  · rcases List.mem_cons.1 hp with rfl | hp
    · exact h.ls
    · exact h.eng.lts p hp
theorem times44 (h : UsrR m b U) (hC : CkOk U.E.C) {K : KV} (hk : ∀ M, m.Grew M → K (.agg (t3 U.E.C.tm)) M) : ACalls Tryz.prog 44 [.ptr (some (b.u, 0, 0))] m K := by
  refine run_on xE hm c44 (by simp) fun hf => ?_
  simp (disch := omega) [-getElem?_pos, b44]
  obtain ⟨M1, hM1⟩ : ∃ M1, m.new (.row 3 [[.int .i64 0, .int .i64 0, .int .i64 0]] true) = M1 := ⟨_, rfl⟩
  have g1 : m.Grew M1 := hM1 ▸ Mem.Grew.new _ _
  have o1 : M1.obj m.next = some (.row 3 [[.int .i64 0, .int .i64 0, .int .i64 0]] true) := by rw [← hM1]; simp
  have hn1 : M1.next = m.next + 1 := by rw [← hM1]; simp
  rw [hM1]
  refine exec_loopU (σ := Nat × Mem) (fun (i, _) => [(4, .int .i64 i), (2, .ptr (some (m.next, 0, 0))), (0, .ptr (some (b.u, 0, 0)))]) (fun (_, M) => M)
    (fun (i, M) => i ≤ 3 ∧ m.Grew M ∧ M.next = M1.next ∧ M.obj m.next = some (.row 3 [t3 (upto3 U.E.C.tm i)] true)) (fun (i, _) => 3 - i) (0, M1) rfl ⟨by omega, g1, rfl, o1⟩ (by simp) ?_
  intro (i, M) ⟨a1, a2, a3, a4⟩
  have hE := h.grow a2
  obtain ⟨rest, ou⟩ := hE.ou
  have lu := h.lu
  have hi : i = 0 ∨ i = 1 ∨ i = 2 ∨ i = 3 := by omega
  have fin : ∀ (i : Nat), i < 3 → ∀ l1, l1 = t3 (upto3 U.E.C.tm (i + 1)) → m.Grew (M.upd m.next (some (.row 3 [l1] true))) ∧ (M.upd m.next (some (.row 3 [l1] true))).next = M1.next ∧ (M.upd m.next (some (.row 3 [l1] true))).obj m.next = some (.row 3 [t3 (upto3 U.E.C.tm (i + 1))] true) :=
    fun i _ l1 e1 => ⟨a2.upd (Nat.le_refl _) _, a3, by rw [e1]; simp⟩
  rcases hi with rfl | rfl | rfl | rfl
  · simp (disch := omega) [-getElem?_pos, ou]
    refine enow15 (k := 0) hE.eng hC (by omega) ?_
    simp (disch := omega) [-getElem?_pos, a4, splice]
    exact again_mk (1, _) ⟨by omega, fin 0 (by omega) _ (by simp [upto3])⟩ (by dsimp only; omega) (by simp) rfl
  · simp (disch := omega) [-getElem?_pos, ou]
    refine enow15 (k := 1) hE.eng hC (by omega) ?_
    simp (disch := omega) [-getElem?_pos, a4, splice]
    exact again_mk (2, _) ⟨by omega, fin 1 (by omega) _ (by simp [upto3])⟩ (by dsimp only; omega) (by simp) rfl
  · simp (disch := omega) [-getElem?_pos, ou]
    refine enow15 (k := 2) hE.eng hC (by omega) ?_
    simp (disch := omega) [-getElem?_pos, a4, splice]
    exact again_mk (3, _) ⟨by omega, fin 2 (by omega) _ (by simp [upto3])⟩ (by dsimp only; omega) (by simp) rfl
  · have e1 : t3 (upto3 U.E.C.tm 3) = t3 U.E.C.tm := by simp [t3, upto3]
    rw [e1] at a4
    simp (disch := omega) [-getElem?_pos, a4, splice]
    exact hk _ (a2.upd (Nat.le_refl _) _)
theorem do_cancel {lo hi : Int} {E E' : Eng} {s : Stq} {F : List Frd} {x : Int} (hd : DoTo E s E' F x) (hk : s.kind = 2) : E' = (E.cancel s.n).1 ∧ F = [] := by
  cases hd <;> first | exact ⟨rfl, rfl⟩ | omega
theorem do_start {E E' : Eng} {s : Stq} {F : List Frd} {x : Int} (hd : DoTo E s E' F x) (hk : s.kind = 1) : E' = (E.start s).1 ∧ F = [] ∧ x = (E.start s).2 := by
  cases hd <;> first | exact ⟨rfl, rfl, rfl⟩ | omega
/-- A timer of an ID waits, in place of that which did. -/
def Eng.put (E : Eng) (id ck at' : Int) (cpu : Nat) (lazy : Bool) : Eng := ((E.cancel id).1.start ⟨1, cpu, 0, ⟨id, ck, at', at', lazy⟩⟩).1
theorem put46 {lo hi : Int} (h : UsrR m b U) (hI : Inv lo hi U.E) {id ck at' : Int} {cpu : Nat} {lazy : Bool} (hc : U.E.on.testBit cpu = true) (hat : at' < 4611686018427387903) {K : KV}
    (hk : ∀ v M, UsrR M b { U with E := U.E.put id ck at' cpu lazy } → Inv lo hi (U.E.put id ck at' cpu lazy) → (U.E.put id ck at' cpu lazy).n = U.E.n → Stp m M (b.all U.E.n) (b.all U.E.n) → K v M) :
    ACalls Tryz.prog 46 [.ptr (some (b.u, 0, 0)), .int .i64 id, .int .i64 ck, .int .i64 at', .int .i64 cpu, .bool lazy] m K := by
  refine run_on xE hm c46 (by simp) fun hf => ?_
  obtain ⟨rest, ou⟩ := h.ou
  have hdo := fun {K1 : KV} => do9 (K := K1) h.eng hI (s := ⟨2, 0, id, Tmr.zero⟩)
  unfold Stq.cs Tmr.zero at hdo
  simp (disch := omega) [-getElem?_pos, b46, ou, splice]
  refine hdo fun E1 F1 x1 hd1 v1 M1 e1 s1 _ => ?_
  obtain ⟨q1, _⟩ := do_cancel (lo := lo) (hi := hi) hd1 rfl
  obtain ⟨i1, f1⟩ := hd1.inv hI
  obtain ⟨u1, t1⟩ := h.setE e1 f1.n s1
  obtain ⟨rest1, ou1⟩ := u1.ou
  have hon1 : E1.on = U.E.on := by
    rw [q1]
    rcases cancel_spec hI id with ⟨_, e⟩ | ⟨_, _, _, _, _, e⟩ <;> (show (U.E.cancel id).1.on = _; rw [e]; try rfl)
  simp (disch := omega) [-getElem?_pos, F74, ou1]
  refine eonline21 e1 i1.on fun v2 M2 g2 ow => ?_
  have u2 := u1.grow g2
  obtain ⟨rest2, ou2⟩ := u2.ou
  simp (disch := omega) [-getElem?_pos]
  have hle := listM_le E1.on 16
  refine of25 ow.sl (by omega) ?_
  have eof : ofA 0 (listM E1.on 16) = E1.on := by
    apply Nat.eq_of_testBit_eq
    intro j
    rw [ofA_bit 0 _ fun k hk => (listM_mem.1 hk).1]
    by_cases q : E1.on.testBit j = true
    · rw [q, decide_eq_true (listM_mem.2 ⟨Nat.lt_of_lt_of_le (i1.on.n j q) i1.on.n16, q⟩)]; simp
    · have q : E1.on.testBit j = false := by simpa using q
      rw [q, decide_eq_false (fun z => by rw [(listM_mem.1 z).2] at q; cases q)]; simp
  rw [eof]
  have hlt := i1.on.lt
  have hh : hasM E1.on (cpu : Int) = true := by
    rw [hon1]; unfold hasM
    have := hI.on.n cpu hc
    have := hI.on.n16
    rw [decide_eq_true (by omega), decide_eq_true (by omega), Int.toNat_natCast, hc]; rfl
  have hdo2 := fun {K1 : KV} => do9 (K := K1) (e1.grow g2) i1 (s := ⟨1, cpu, 0, ⟨id, ck, at', at', lazy⟩⟩)
  unfold Stq.cs at hdo2
  simp (disch := omega) [-getElem?_pos, F64, hh, ou2, splice]
  refine hdo2 fun E3 F3 x3 hd3 v3 M3 e3 s3 _ => ?_
  obtain ⟨q3, _⟩ := do_start hd3 rfl
  obtain ⟨i3, f3⟩ := hd3.inv i1
  obtain ⟨u3, t3⟩ := u2.setE e3 f3.n s3
  have q4 : E3 = U.E.put id ck at' cpu lazy := by rw [q3, q1]; rfl
  subst q4
  simp (disch := omega) [-getElem?_pos]
  have t3 : Stp M2 M3 (b.all E1.n) (b.all E1.n) := t3
  rw [f1.n] at t3
  exact hk _ M3 u3 i3 (f3.n.trans f1.n) ((t1.trans (Stp.grow g2 _)).trans t3)
end
set_option maxHeartbeats 16000000
/-- Behind a sleep's beginning: the system, and the sleep that is told. -/
structure SlJ (m M : Mem) (b : UA) (U : Usr) (q : Nat) (X : Slp) : Prop where
  usr : UsrR M b U
  stp : Stp m M (b.all U.E.n) (b.all U.E.n)
  oq : M.obj q = some (.row 4 [X.cs] true)
  ge : m.next ≤ q
  lt : q < M.next
section
variable {m m' : Mem} {b : UA} {U : Usr}
theorem UsrR.upd (h : UsrR m b U) {q : Nat} (hq : q ∉ b.all U.E.n) (o : Option AM.Obj) : UsrR (m.upd q o) b U := by
  obtain ⟨rest, ho⟩ := h.ou
  unfold UA.all at hq
  simp only [List.mem_cons, not_or] at hq
  exact ⟨⟨rest, by rw [updO _ (Ne.symm hq.1)]; exact ho⟩, by rw [updO _ (Ne.symm hq.2.1)]; exact h.os, h.eng.keep (Nat.le_refl _) fun p hp => updO _ fun e => hq.2.2 (e ▸ hp), h.n1, h.n2, h.n3, h.lu, h.ls⟩
theorem new_keep {M M2 : Mem} {o : AM.Obj} (g : (M.new o).Grew M2) : M2.obj M.next = some o ∧ M.next < M2.next :=
  ⟨(g.obj M.next (by simp)).trans (by simp), Nat.lt_of_lt_of_le (by simp) g.next⟩
theorem new_keepC {M M2 : Mem} {o : AM.Obj} {P : Prop} (g : (M.new o).Grew M2) (h : M2.obj M.next = some o → M.next < M2.next → P) : P := h (new_keep g).1 (new_keep g).2
theorem only_keepC {M M2 : Mem} {s : Nat} {o O : AM.Obj} {P : Prop} (g : Only (M.new o) s O M2) (hs : M.next ≠ s) (h : M2.obj M.next = some o → M.next < M2.next → P) : P :=
  h ((g.obj M.next (by simp) hs).trans (by simp)) (Nat.lt_of_lt_of_le (by simp) g.next)
/-- What a sleep comes to. -/
def Usr.slept (U : Usr) (task k : Nat) (n : Int) : Usr :=
  if overS (newS task k n U.E.C.tm) U.E.C.tm then { U with S := upN' U.S task (newS task k n U.E.C.tm), A := upN' (upN' U.A task true) task false }
  else { U with E := U.E.put task (newS task k n U.E.C.tm).ck (newS task k n U.E.C.tm).till (task % U.n) false, S := upN' U.S task (newS task k n U.E.C.tm), A := upN' U.A task true }
theorem sleep18 {lo hi : Int} (h : UsrR m b U) (hI : Inv lo hi U.E) {task k : Nat} (ht : task < 32) (hA : U.A task = false) (hk3 : k < 3) {n : Int} (h0 : 0 ≤ n) (h9 : n ≤ 999999999) (hn : 0 < U.n) (hn2 : U.n < 100) (hon : U.E.on.testBit (task % U.n) = true)
    (htop : (newS task k n U.E.C.tm).till < 4611686018427387903) {K : KV}
    (hk : ∀ M, UsrR M b (U.slept task k n) → Inv lo hi (U.slept task k n).E → (U.slept task k n).E.n = U.E.n → Stp m M (b.all U.E.n) (b.all U.E.n) → K (.int .i64 0) M) :
    ACalls Tryz.prog 18 [.ptr (some (b.u, 0, 0)), .int .i64 task, .int .i64 k, .agg [.int .i64 0, .int .i64 n], .bool false] m K := by
  refine run_on xE hm c18 (by simp) fun hf => ?_
  obtain ⟨M1, hM1⟩ : ∃ M1, m.new (.row 2 [[.int .i64 0, .int .i64 n]] true) = M1 := ⟨_, rfl⟩
  have g1 : m.Grew M1 := hM1 ▸ Mem.Grew.new _ _
  have oS : M1.obj m.next = some (.row 2 [[.int .i64 0, .int .i64 n]] true) := by rw [← hM1]; simp
  have hn1 : M1.next = m.next + 1 := by rw [← hM1]; simp
  have h1 := h.grow g1
  have hlt := h.lts
  obtain ⟨X, hX⟩ : ∃ X, newS task k n U.E.C.tm = X := ⟨_, rfl⟩
  have hXc : 0 ≤ X.ck ∧ X.ck < 3 := by
    rw [← hX]; unfold newS; dsimp only
    split <;> omega
  rw [hX] at htop
  unfold Usr.slept at hk
  rw [hX] at hk
  obtain ⟨U1, hU1⟩ : ∃ U1 : Usr, { U with S := upN' U.S task X, A := upN' U.A task true } = U1 := ⟨_, rfl⟩
  have eE : U1.E = U.E := by rw [← hU1]
  have t44 : ∀ M, M1.Grew M → ∀ {K1 : KV}, (∀ M2, M.Grew M2 → K1 (.agg (t3 U.E.C.tm)) M2) → ACalls Tryz.prog 44 [.ptr (some (b.u, 0, 0))] M K1 := fun M g K1 hK => times44 (h1.grow g) hI.ck hK
  have s43 : ∀ M, M1.Grew M → ∀ {K1 : KV}, (∀ M2, Only M b.s (slpO (upN' U.S task X) (upN' U.A task true)) M2 → UsrR M2 b U1 → Stp m M2 (b.all U.E.n) (b.all U.E.n) → K1 (.tup [.agg X.cs, .int .i64 0]) M2) → ACalls Tryz.prog 43 [.ptr (some (b.s, 0, 0)), .int .i64 task, .int .i64 k, .agg [.int .i64 0, .int .i64 n], .bool false, .agg (t3 U.E.C.tm)] M K1 := by
    intro M g K1 hK
    have hM := h1.grow g
    refine start43 hM.os ht hA hk3 h0 h9 fun M2 hO => ?_
    rw [hX] at hO ⊢
    obtain ⟨x1, x2⟩ := hM.setS hO
    rw [← hU1] at hK
    exact hK M2 hO x1 ((Stp.grow (g1.trans g) _).trans x2)
  obtain ⟨rest, ou⟩ := h1.ou
  have lu := h1.lu
  have os1 := h1.os
  have ls1 := h1.ls
  have nus := h1.n3
  have nin : ∀ q, m.next ≤ q → q ∉ b.all U.E.n := fun q hq hd => by have := hlt q hd; omega
  have nin1 : ∀ q, m.next ≤ q → q ∉ b.all U1.E.n := by rw [eE]; exact nin
  have ub1 : b.u < m.next := hlt _ (by unfold UA.all; simp)
  have sb1 : b.s < m.next := hlt _ (by unfold UA.all; simp)
  have oE1 : ∀ {M : Mem}, UsrR M b U1 → ∃ rest, M.obj b.u = some (.row 37 [.ptr (some (b.a.e, 0, 0)) :: .int .i64 U.n :: .ptr (some (b.s, 0, 0)) :: rest] true) := fun hu => by
    have := hu.ou
    rw [← hU1] at this
    exact this
  simp (disch := omega) [-getElem?_pos, b18, hM1, ou, oS]
  repeat' first
    | with_reducible refine And.intro ?_ ?_
    | (refine t44 _ (by first | exact Mem.Grew.refl _ | exact Mem.Grew.new _ _) fun M2 g2 => ?_
       have gg : M1.Grew M2 := (by first | exact g2 | exact (Mem.Grew.new _ _).trans g2)
       have ou2 := (gg.obj b.u (by omega)).trans ou
       have oS2 := (gg.obj m.next (by omega)).trans oS
       have ng := gg.next
       try refine new_keepC g2 fun oq2 lq2 => ?_
       simp (disch := omega) [-getElem?_pos, ou2, oS2])
    | (refine s43 M2 gg fun M3 hO hu hs => ?_
       have nO := hO.next
       have oq3 := (hO.obj M1.next lq2 (by omega)).trans oq2
       simp (disch := omega) [-getElem?_pos, Slp.cs, splice, oq3]
       have hJ : SlJ m (M3.upd M1.next (some (.row 4 [X.cs] true))) b U1 M1.next X := ⟨hu.upd (nin1 _ (by omega)) _, by rw [eE]; exact Stp.updNew hs (by omega) _, by simp, by omega, by simp; omega⟩
       unfold Slp.cs at hJ
       generalize M3.upd M1.next (some (.row 4 [[.int .i64 X.task, .int .i64 X.ck, .int .i64 X.till, .bool X.rel]] true)) = M4 at *
       generalize hq : M1.next = q at *)
    | (refine s43 M2 gg fun M3 hO hu hs => ?_
       have nO := hO.next
       simp (disch := omega) [-getElem?_pos, Slp.cs, splice]
       have hJ : SlJ m (M3.new (.row 4 [X.cs] true)) b U1 M3.next X := ⟨hu.grow (Mem.Grew.new _ _), by rw [eE]; exact hs.trans (Stp.new _ _ _), by simp, by omega, by simp⟩
       unfold Slp.cs at hJ
       generalize M3.new (.row 4 [[.int .i64 X.task, .int .i64 X.ck, .int .i64 X.till, .bool X.rel]] true) = M4 at *
       generalize hq : M3.next = q at *)
    | (refine s43 (M2.new _) (gg.trans (Mem.Grew.new _ _)) fun M3 hO hu hs => ?_
       refine only_keepC hO (by omega) fun oq3 lq3 => ?_
       simp (disch := omega) [-getElem?_pos, Slp.cs, splice, oq3]
       have hJ : SlJ m (M3.upd M2.next (some (.row 4 [X.cs] true))) b U1 M2.next X := ⟨hu.upd (nin1 _ (by omega)) _, by rw [eE]; exact Stp.updNew hs (by omega) _, by simp, by omega, by simp; omega⟩
       unfold Slp.cs at hJ
       generalize M3.upd M2.next (some (.row 4 [[.int .i64 X.task, .int .i64 X.ck, .int .i64 X.till, .bool X.rel]] true)) = M4 at *
       generalize hq : M2.next = q at *)
  all_goals
    obtain ⟨ju, js, jq, jg, jl⟩ := hJ
    rw [eE] at js
    obtain ⟨rest3, ou3⟩ := oE1 ju
    have hC1 : CkOk U1.E.C := by rw [eE]; exact hI.ck
    have eS : U1.S task = X := by rw [← hU1]; exact if_pos rfl
    have eA : U1.A task = true := by rw [← hU1]; exact if_pos rfl
    have jlt := ju.lts
    rw [eE] at jlt
    refine drawT_J (fun e' M' => e' = (((Env.none.put (some 40) (V.bool (!overS X U.E.C.tm))).put (some 11) (V.ptr (some (q, 0, 0)))).put (some 1) (V.int .i64 task)).put (some 0) (V.ptr (some (b.u, 0, 0))) ∧ SlJ m M' b (if overS X U.E.C.tm then { U1 with A := upN' U1.A task false } else U1) q X) ?_ fun e' M' hJ => ?_
    · simp (disch := omega) [-getElem?_pos, ou3]
      repeat' first
        | with_reducible refine And.intro ?_ ?_
        | (refine times44 ju hC1 fun M5 g5 => ?_
           have j5 := ju.grow g5
           have ou5 := (g5.obj b.u ju.lu).trans ou3
           have jq5 := (g5.obj q jl).trans jq
           have n5 := g5.next
           simp (disch := omega) [-getElem?_pos, ou5]
           refine wake45 j5.os ht (fun _ => by rw [eS]; exact hXc) fun M6 hO6 => ?_
           rw [eS, eA, eE, Bool.true_and] at hO6
           rw [eS, eA, eE, if_pos rfl]
           obtain ⟨k1, k2⟩ := j5.setS hO6
           rw [show ({ U1 with S := U1.S, A := if overS X U.E.C.tm then upN' U1.A task false else U1.A } : Usr) = (if overS X U.E.C.tm then { U1 with A := upN' U1.A task false } else U1) from by split <;> rfl] at k1
           rw [eE] at k2
           have jq6 := (hO6.obj q (by omega) (fun e => nin q jg (by rw [e]; unfold UA.all; simp))).trans jq5
           have n6 := hO6.next
           have fin : SlJ m M6 b (if overS X U.E.C.tm then { U1 with A := upN' U1.A task false } else U1) q X :=
             ⟨k1, by rw [show (if overS X U.E.C.tm then { U1 with A := upN' U1.A task false } else U1).E = U.E from by split <;> exact eE]; exact (js.trans (Stp.grow g5 _)).trans k2, jq6, jg, by omega⟩
           cases hov : overS X U.E.C.tm with
           | true =>
             rw [hov, if_pos rfl, eE] at fin
             simp (disch := omega) [-getElem?_pos]
             exact fin
           | false =>
             rw [hov] at fin
             simp (disch := omega) [-getElem?_pos]
             exact fin)
    · obtain ⟨rfl, ku, ks, kq, kg, kl⟩ := hJ
      rw [show (if overS X U.E.C.tm then { U1 with A := upN' U1.A task false } else U1).E = U.E from by split <;> exact eE] at ks
      cases hov : overS X U.E.C.tm with
      | true =>
        rw [hov, if_pos rfl] at hk ku
        simp (disch := omega) [-getElem?_pos]
        rw [← hU1] at ku
        exact hk _ ku hI rfl ks
      | false =>
        rw [hov, if_neg (by simp)] at hk ku
        obtain ⟨rest4, ou4⟩ := oE1 ku
        unfold Slp.cs at kq
        have hrem : ((task : Int).tmod (U.n : Int)) = (task % U.n : Nat) := by
          rw [Int.tmod_eq_emod_of_nonneg (by omega)]; rfl
        have hI1 : Inv lo hi U1.E := by rw [eE]; exact hI
        have hon1 : U1.E.on.testBit (task % U.n) = true := by rw [eE]; exact hon
        have hlt5 : task % U.n < 100 := by have := Nat.mod_lt task hn; omega
        simp (disch := omega) [-getElem?_pos, ou4, kq, hrem]
        rw [show (task : Int) % (U.n : Int) = ((task % U.n : Nat) : Int) from by simp]
        refine put46 ku hI1 hon1 htop fun v M7 x1 x2 x3 x4 => ?_
        rw [← hU1] at x1 x2 x3 x4
        simp (disch := omega) [-getElem?_pos]
        exact hk _ x1 x2 x3 (ks.trans x4)
end
set_option maxHeartbeats 16000000
/-- Who wakes, as timers fire. -/
def wakeL (S : Nat → Slp) (tm : Nat → Int) : (Nat → Bool) → List Frd → List Frd × (Nat → Bool)
  | A, [] => ([], A)
  | A, f :: l => if A f.id.toNat && overS (S f.id.toNat) tm then (f :: (wakeL S tm (upN' A f.id.toNat false) l).1, (wakeL S tm (upN' A f.id.toNat false) l).2) else wakeL S tm A l
def Frd.ws (f : Frd) : List V := [.int .i64 f.id, .int .i64 f.mono]
theorem wakeL_nil (S : Nat → Slp) (tm : Nat → Int) (A : Nat → Bool) : wakeL S tm A [] = ([], A) := rfl
theorem wakeL_cons (S : Nat → Slp) (tm : Nat → Int) (A : Nat → Bool) (f : Frd) (l : List Frd) : wakeL S tm A (f :: l) = if A f.id.toNat && overS (S f.id.toNat) tm then (f :: (wakeL S tm (upN' A f.id.toNat false) l).1, (wakeL S tm (upN' A f.id.toNat false) l).2) else wakeL S tm A l := rfl
theorem wakeL_le (S : Nat → Slp) (tm : Nat → Int) (A : Nat → Bool) (l : List Frd) : (wakeL S tm A l).1.length ≤ l.length := by
  induction l generalizing A with
  | nil => simp [wakeL]
  | cons f l ih =>
    unfold wakeL
    split
    · simp only [List.length_cons]; have := ih (upN' A f.id.toNat false); omega
    · simp only [List.length_cons]; have := ih A; omega
/-- A round of waking. -/
structure WkJ (m M0 M : Mem) (b : UA) (U : Usr) (n : Nat) : Prop where
  usr : UsrR M b U
  stp : Stp m M (b.all n) (b.all n)
  nx : M0.next ≤ M.next
  obj : ∀ p, p < M0.next → p ∉ b.all n → M.obj p = M0.obj p
section
variable {m m' : Mem} {b : UA} {U : Usr}
theorem step19 {lo hi : Int} (h : UsrR m b U) (hI : Inv lo hi U.E) {s : Stq} (h1 : s.kind ≠ 1) (h2 : s.kind ≠ 2) (hck : ∀ i, U.A i = true → 0 ≤ (U.S i).ck ∧ (U.S i).ck < 3)
    (hid : ∀ E' F x, DoTo U.E s E' F x → ∀ f ∈ F, ∃ i : Nat, i < 32 ∧ f.id = i) {K : KV}
    (hk : ∀ E' F x, DoTo U.E s E' F x → ∀ v M, UsrR M b { U with E := E', A := (wakeL U.S E'.C.tm U.A F).2 } → Inv lo hi E' → E'.n = U.E.n → Stp m M (b.all U.E.n) (b.all U.E.n) → Own m.next M 2 v ((wakeL U.S E'.C.tm U.A F).1.map Frd.ws) → K (.tup [v, .int .i64 x]) M) :
    ACalls Tryz.prog 19 [.ptr (some (b.u, 0, 0)), .agg s.cs] m K := by
  refine run_on xE hm c19 (by simp) fun hf => ?_
  obtain ⟨rest, ou⟩ := h.ou
  obtain ⟨M1, hM1⟩ : ∃ M1, m.new (.row 8 [s.cs] true) = M1 := ⟨_, rfl⟩
  have g1 : m.Grew M1 := hM1 ▸ Mem.Grew.new _ _
  have oS : M1.obj m.next = some (.row 8 [s.cs] true) := by rw [← hM1]; simp
  have hn1 : M1.next = m.next + 1 := by rw [← hM1]; simp
  have ou1 := (g1.obj b.u h.lu).trans ou
  have hdo := fun {K1 : KV} => do9 (K := K1) (h.grow g1).eng hI (s := s)
  unfold Stq.cs at hM1 oS hdo
  simp (disch := omega) [-getElem?_pos, b19, hM1, ou1, Stq.cs, oS, h1, h2]
  refine hdo fun E' F x hd w M2 e2 s2 ow => ?_
  obtain ⟨i2, f2⟩ := hd.inv hI
  obtain ⟨u2, t2⟩ := (h.grow g1).setE e2 f2.n s2
  have hk := hk E' F x hd
  have hid := hid E' F x hd
  have hF := f2.len hI
  have hC := i2.ck
  have en := f2.n
  clear hdo
  obtain ⟨U2, hU2⟩ : ∃ U2 : Usr, { U with E := E' } = U2 := ⟨_, rfl⟩
  have eE : U2.E = E' := by rw [← hU2]
  have eS : U2.S = U.S := by rw [← hU2]
  have eA : U2.A = U.A := by rw [← hU2]
  have eU : ∀ A, ({ U with E := E', A := A } : Usr) = { U2 with A := A } := fun A => by rw [← hU2]
  rw [eU] at hk
  rw [hU2] at u2
  obtain ⟨tm, htm⟩ : ∃ tm, E'.C.tm = tm := ⟨_, rfl⟩
  rw [htm] at hk
  have hlt := h.lts
  have ht2 := (Stp.grow g1 (b.all U.E.n)).trans t2
  have mn2 := ht2.next
  have hlen := ow.sl.lenSl
  rw [List.length_map] at hlen
  have n12 := t2.next
  simp (disch := omega) [-getElem?_pos, hlen]
  refine exec_loopU (σ := Nat × (Nat → Bool) × List Frd × V × Mem) (fun (j, _, _, v, _) => [(34, .int .i64 j), (33, .int .i64 F.length), (32, w), (8, v), (7, .int .i64 x), (0, .ptr (some (b.u, 0, 0)))]) (fun (_, _, _, _, M) => M)
    (fun (j, A, D, v, M) => j ≤ F.length ∧ WkJ m M2 M b { U2 with A := A } U.E.n ∧ Own M2.next M 2 v (D.map Frd.ws) ∧ D.length ≤ j ∧ (∀ i, A i = true → U.A i = true) ∧ wakeL U.S tm U.A F = (D ++ (wakeL U.S tm A (F.drop j)).1, (wakeL U.S tm A (F.drop j)).2)) (fun (j, _, _, _, _) => F.length - j)
    (0, U.A, [], .sl .none 0 (some 0), M2) rfl ⟨by omega, ⟨by rw [← eA]; exact u2, ht2, Nat.le_refl _, fun _ _ _ => rfl⟩, Own.none _ _ _, by simp, fun _ q => q, by simp⟩ (by simp) ?_
  intro (j, A, D, v, M) ⟨a1, a2, a3, a4, a5, a6⟩
  obtain ⟨a2, aS, aN, aO⟩ := a2
  by_cases hj : j < F.length
  · have wlt : ∀ p, w.addr = some p → M1.next ≤ p ∧ p < M2.next := fun p hp => ow.addr_lt hp
    have hs3 : Sl M 5 w (F.map Frd.cs) := ow.sl.keep aN fun p hp ha => aO p hp fun q => by have := wlt p ha; have := hlt p q; omega
    obtain ⟨p, q, full, rw', d1, d2, d3, d4, _⟩ := hs3.at (i := j) (x := (F[j]).cs) (by simp [hj]) .i64
    obtain ⟨f, hf0⟩ : ∃ f, F[j] = f := ⟨_, rfl⟩
    rw [hf0] at d4
    obtain ⟨i, hi, hfi⟩ := hid f (hf0 ▸ List.getElem_mem hj)
    have eD : F.drop j = f :: F.drop (j + 1) := by rw [List.drop_eq_getElem_cons hj, hf0]
    have hfn : f.id.toNat = i := by omega
    rw [eD, wakeL_cons, hfn] at a6
    obtain ⟨MA, hMA⟩ : ∃ MA, M.new (.row 5 [f.cs] true) = MA := ⟨_, rfl⟩
    have gA : M.Grew MA := hMA ▸ Mem.Grew.new _ _
    have oA : MA.obj M.next = some (.row 5 [f.cs] true) := by rw [← hMA]; simp
    have nA : MA.next = M.next + 1 := by rw [← hMA]; simp
    have uA := a2.grow gA
    obtain ⟨restA, ouA⟩ := uA.ou
    have sA := aS.next
    unfold Frd.cs at d4 hMA oA
    rw [hfi] at d4 hMA oA
    simp (disch := omega) [-getElem?_pos, d1, d2, d3, d4, splice, hMA, oA]
    have hC2 : CkOk U2.E.C := by rw [eE]; exact hC
    have nus := h.n3
    have ub1 : b.u < m.next := hlt _ (by unfold UA.all; simp)
    have uAu := h.lu
    refine drawT_J (fun e' M' => e' = (((((((Env.none.put (some 52) (V.bool (A i && overS (U.S i) tm))).put (some 34) (V.int .i64 j)).put (some 33) (V.int .i64 F.length)).put (some 32) w).put (some 10) (V.ptr (some (M.next, 0, 0)))).put (some 8) v).put (some 7) (V.int .i64 x)).put (some 0) (V.ptr (some (b.u, 0, 0))) ∧
      WkJ m MA M' b { U2 with A := if A i && overS (U.S i) tm then upN' A i false else A } U.E.n) ?_ fun e' M' hJ => ?_
    · simp (disch := omega) [-getElem?_pos, ouA, oA]
      repeat' first
        | with_reducible refine And.intro ?_ ?_
        | (refine times44 uA hC2 fun M5 g5 => ?_
           have j5 := uA.grow g5
           have ou5 := (g5.obj b.u (by omega)).trans ouA
           have oA5 := (g5.obj M.next (by omega)).trans oA
           have n5 := g5.next
           simp (disch := omega) [-getElem?_pos, ou5, oA5]
           refine wake45 j5.os hi (fun q => by have := hck i (a5 i q); rw [← eS] at this; exact this) fun M6 hO6 => ?_
           rw [show ({ U2 with A := A } : Usr).E.C.tm = tm from by show U2.E.C.tm = tm; rw [eE]; exact htm, show ({ U2 with A := A } : Usr).S = U.S from eS] at hO6 ⊢
           obtain ⟨k1, k2⟩ := j5.setS (S := U.S) (A := if A i && overS (U.S i) tm then upN' A i false else A) hO6
           have k2 : Stp M5 M6 (b.all U2.E.n) (b.all U2.E.n) := k2
           rw [show U2.E.n = U.E.n from by rw [eE]; exact en] at k2
           have n6 := hO6.next
           have fin : WkJ m MA M6 b { U2 with S := U.S, A := if A i && overS (U.S i) tm then upN' A i false else A } U.E.n :=
             ⟨k1, ((aS.trans (Stp.grow gA _)).trans (Stp.grow g5 _)).trans k2, by omega, fun p hp hd => (hO6.obj p (by omega) (fun e => hd (by rw [e]; unfold UA.all; simp))).trans (g5.obj p hp)⟩
           cases hA : A i with
           | false =>
             rw [hA, Bool.false_and, if_neg (by simp)] at fin
             simp (disch := omega) [-getElem?_pos, hA]
             exact fin
           | true =>
             cases hov : overS (U.S i) tm with
             | true =>
               rw [hA, hov, Bool.true_and, if_pos rfl] at fin
               simp (disch := omega) [-getElem?_pos, hA, hov]
               exact fin
             | false =>
               rw [hA, hov, Bool.true_and, if_neg (by simp)] at fin
               simp (disch := omega) [-getElem?_pos, hA, hov]
               exact fin)
    · obtain ⟨rfl, ku, ks, kn, ko⟩ := hJ
      have oA6 := (ko M.next (by omega) (fun q => by have := hlt _ q; omega)).trans oA
      have a36 : Own M2.next M' 2 v (D.map Frd.ws) := a3.keep (by omega) fun p hp h2 => (ko p (by omega) (fun q => by have := hlt p q; omega)).trans (gA.obj p h2)
      have obj2 : ∀ p, p < M2.next → p ∉ b.all U.E.n → M'.obj p = M2.obj p := fun p hp hd => (ko p (by omega) hd).trans ((gA.obj p (by omega)).trans (aO p hp hd))
      cases hok : A i && overS (U.S i) tm with
      | false =>
        rw [hok, if_neg (by simp)] at ku a6
        simp (disch := omega) [-getElem?_pos]
        exact again_mk (j + 1, A, D, v, M') ⟨by omega, ⟨ku, ks, by show M2.next ≤ M'.next; omega, obj2⟩, a36, by show D.length ≤ j + 1; omega, a5, a6⟩ (by dsimp only; omega) (by simp) rfl
      | true =>
        rw [hok, if_pos rfl] at ku a6
        simp (disch := omega) [-getElem?_pos, oA6, splice, eltsOf, Mem.elts]
        refine appendX_own3 a36 (Mem.Grew.new M' _) (by omega) (by simp) (by simp; omega) (by simp; omega) fun v' M7 q1 q2 q3 q4 => ?_
        simp (disch := omega) [-getElem?_pos]
        simp only [new_next] at q3
        have q2' : ∀ p, p < M2.next → M7.obj p = M'.obj p := fun p hp => (q2 p (by simp; omega) (.inl hp)).trans ((Mem.Grew.new M' _).obj p (by omega))
        have mn := ks.next
        have ku7 : UsrR M7 b { U2 with A := upN' A i false } := by
          have key : ∀ p ∈ b.all U.E.n, M7.obj p = M'.obj p := fun p hp => q2' p (by have := hlt p hp; omega)
          obtain ⟨r7, o7⟩ := ku.ou
          have e7 : ({ U2 with A := upN' A i false } : Usr).E.n = U.E.n := by show U2.E.n = _; rw [eE]; exact en
          refine ⟨⟨r7, by rw [key _ (by unfold UA.all; simp)]; exact o7⟩, by rw [key _ (by unfold UA.all; simp)]; exact ku.os, ku.eng.keep (by omega) fun p hp => key p ?_, ku.n1, ku.n2, ku.n3, by have := ku.lu; omega, by have := ku.ls; omega⟩
          rw [e7] at hp
          unfold UA.all; simp [hp]
        refine again_mk (j + 1, upN' A i false, D ++ [f], v', M7) ⟨by omega, ⟨ku7, ⟨by show m.next ≤ M7.next; omega, fun p hp hd => (q2' p (by omega)).trans (ks.obj p hp hd), fun p hp => .inl hp⟩, by show M2.next ≤ M7.next; omega, fun p hp hd => (q2' p hp).trans (obj2 p hp hd)⟩, ?_, by rw [List.length_append, List.length_singleton]; omega, fun k hk => ?_, by rw [a6, List.append_assoc]; rfl⟩ (by dsimp only; omega) (by simp) rfl
        · rw [List.map_append]
          have : [f].map Frd.ws = [[.int .i64 i, .int .i64 f.mono]] := by unfold Frd.ws; simp [hfi]
          rw [this]
          exact q1
        · have hk : upN' A i false k = true := hk
          unfold upN' at hk
          split at hk
          · cases hk
          · exact a5 k hk
  · obtain rfl : j = F.length := by omega
    simp (disch := omega) [-getElem?_pos]
    rw [List.drop_length, wakeL_nil] at a6
    rw [List.append_nil] at a6
    rw [a6] at hk
    exact hk v M a2 i2 en aS (own_le a3 (by omega))
end
set_option maxHeartbeats 16000000
def Usr.new (n : Nat) : Usr := ⟨Eng.new n 1 1073741824, n, fun _ => Slp.zero, fun _ => false⟩
section
variable {m m' : Mem} {b : UA} {U : Usr}
theorem sleeping20 (h : UsrR m b U) {K : KV} (hk : ∀ v M, m.Grew M → Own m.next M 1 v ((asleepL U.A 32).map fun i => [V.int .i64 (U.S i).task]) → K v M) : ACalls Tryz.prog 20 [.ptr (some (b.u, 0, 0))] m K := by
  refine run_on xE hm c20 (by simp) fun hf => ?_
  obtain ⟨rest, ou⟩ := h.ou
  simp (disch := omega) [-getElem?_pos, b20, ou]
  refine all48 h.os fun w M1 g1 ow => ?_
  obtain ⟨L, hL⟩ : ∃ L, asleepL U.A 32 = L := ⟨_, rfl⟩
  have hL32 : L.length ≤ 32 := hL ▸ asleepL_le _ _
  rw [hL] at hk ow
  have hlen := ow.sl.lenSl
  rw [List.length_map] at hlen
  have n1 := g1.next
  simp (disch := omega) [-getElem?_pos, hlen]
  refine exec_loopU (σ := Nat × V × Mem) (fun (j, v, _) => [(14, .int .i64 j), (13, .int .i64 L.length), (12, w), (3, v)]) (fun (_, _, M) => M)
    (fun (j, v, M) => j ≤ L.length ∧ M1.Grew M ∧ Own M1.next M 1 v ((L.take j).map fun i => [V.int .i64 (U.S i).task])) (fun (j, _, _) => L.length - j)
    (0, .sl .none 0 (some 0), M1) rfl ⟨by omega, Mem.Grew.refl _, Own.none _ _ _⟩ (by simp) ?_
  intro (j, v, M) ⟨a1, a2, a3⟩
  by_cases hj : j < L.length
  · have hs3 := ow.sl.grow a2
    obtain ⟨p, q, full, rw', d1, d2, d3, d4, _⟩ := hs3.at (i := j) (x := (U.S L[j]).cs) (by simp [hj]) .i64
    obtain ⟨i, hi⟩ : ∃ i, L[j] = i := ⟨_, rfl⟩
    rw [hi] at d4
    have gN := (Mem.Grew.new M (.row 4 [(U.S i).cs] true)).trans (Mem.Grew.new _ (.row 1 [[.int .i64 (U.S i).task]] true))
    unfold Slp.cs at d4 gN
    have n2 := a2.next
    have hln : ((L.take j).map fun i => [V.int .i64 (U.S i).task]).length ≤ 32 := by simp; omega
    simp (disch := omega) [-getElem?_pos, d1, d2, d3, d4, splice, eltsOf, Mem.elts]
    refine appendX_own3 a3 gN (by omega) (by simp) (by simp only [List.length_cons, List.length_nil]; omega) (by simp only [List.length_cons, List.length_nil]; omega) fun v' M3 u1 u2 u3 u4 => ?_
    simp (disch := omega) [-getElem?_pos]
    simp only [new_next] at u3
    have eT : L.take (j + 1) = L.take j ++ [i] := by rw [List.take_add_one, List.getElem?_eq_getElem hj, hi]; rfl
    refine again_mk (j + 1, v', M3) ⟨by omega, ⟨by show M1.next ≤ M3.next; omega, fun q hq => (u2 q (by simp; omega) (.inl hq)).trans ((gN.obj q (by omega)).trans (a2.obj q hq))⟩, by rw [eT, List.map_append]; exact u1⟩ (by dsimp only; omega) (by simp) rfl
  · obtain rfl : j = L.length := by omega
    rw [List.take_length] at a3
    simp (disch := omega) [-getElem?_pos]
    exact hk v M (g1.trans a2) (own_le a3 n1)
theorem new40 {K : KV} (hk : K (.ptr (some (m.next, 0, 0))) (m.new (slpO (fun _ => Slp.zero) fun _ => false))) : ACalls Tryz.prog 40 [] m K := by
  refine run_on xE hm c40 (by simp) fun hf => ?_
  have e : slpV (fun _ => Slp.zero) (fun _ => false) = (List.replicate 32 [V.int .i64 0, .int .i64 0, .int .i64 0, .bool false]).flatten ++ List.replicate 32 (.bool false) := by kernel_rfl
  unfold slpO at hk
  rw [e] at hk
  simp (disch := omega) [-getElem?_pos, b40]
  exact hk
theorem new41 {K : KV} (hk : ∀ o, K (.ptr (some (m.next, 0, 0))) (m.new o)) : ACalls Tryz.prog 41 [] m K := by
  refine run_on xE hm c41 (by simp) fun hf => ?_
  simp (disch := omega) [-getElem?_pos, b41]
  exact hk _
theorem new42 {K : KV} (hk : ∀ o, K (.ptr (some (m.next, 0, 0))) (m.new o)) : ACalls Tryz.prog 42 [] m K := by
  refine run_on xE hm c42 (by simp) fun hf => ?_
  simp (disch := omega) [-getElem?_pos, b42]
  exact hk _
theorem unew17 {n : Nat} (h1 : 1 ≤ n) (h16 : n ≤ 16) {K : KV} (hk : ∀ b M, m.Grew M → UsrR M b (Usr.new n) → (∀ p ∈ b.all n, m.next ≤ p) → K (.ptr (some (b.u, 0, 0))) M) : ACalls Tryz.prog 17 [.int .i64 n] m K := by
  refine run_on xE hm c17 (by simp) fun hf => ?_
  simp (disch := omega) [-getElem?_pos, b17]
  refine new8 (n := n) (lo := 1) (hi := 1073741824) h1 h16 (by omega) (by omega) (by omega) (by omega) fun a M1 g1 e1 f1 => ?_
  simp (disch := omega) [-getElem?_pos]
  refine new40 ?_
  simp (disch := omega) [-getElem?_pos]
  refine new41 fun o => ?_
  simp (disch := omega) [-getElem?_pos, splice]
  obtain ⟨L0, hL0⟩ : ∃ L0, [V.ptr (some (a.e, 0, 0)), .int .i64 n, .ptr (some (M1.next, 0, 0)), .ptr (some (M1.next + 1, 0, 0)), .map (some (M1.next + 1 + 1)), .ptr none, .ptr none, .ptr none, .ptr none, .ptr none, .ptr none, .ptr none, .ptr none, .ptr none, .ptr none, .ptr none, .ptr none, .ptr none, .ptr none, .ptr none, .ptr none, .ptr none, .ptr none, .ptr none, .ptr none, .ptr none, .ptr none, .ptr none, .ptr none, .ptr none, .ptr none, .ptr none, .ptr none, .ptr none, .ptr none, .ptr none, .ptr none] = L0 := ⟨_, rfl⟩
  have l0 : L0.length = 37 := by rw [← hL0]; rfl
  have l3 : L0.take 3 = [V.ptr (some (a.e, 0, 0)), .int .i64 n, .ptr (some (M1.next, 0, 0))] := by rw [← hL0]; rfl
  rw [hL0]
  obtain ⟨M2, hM2⟩ : ∃ M2, (((M1.new (slpO (fun _ => Slp.zero) fun _ => false)).new o).new (.map [] ([], 0))).new (.row 37 [L0] true) = M2 := ⟨_, rfl⟩
  have g2 : M1.Grew M2 := hM2 ▸ (((Mem.Grew.new _ _).trans (Mem.Grew.new _ _)).trans (Mem.Grew.new _ _)).trans (Mem.Grew.new _ _)
  have oL : M2.obj (M1.next + 1 + 1 + 1) = some (.row 37 [L0] true) := by rw [← hM2]; simp
  have os : M2.obj M1.next = some (slpO (fun _ => Slp.zero) fun _ => false) := by
    rw [← hM2]; simp
    rw [if_neg (by omega), if_neg (by omega)]
  have hn2 : M2.next = M1.next + 1 + 1 + 1 + 1 := by rw [← hM2]; simp
  rw [hM2]
  have hn1 := g1.next
  refine exec_loopU (σ := Nat × List V × Mem) (fun (i, _, _) => [(17, .int .i64 i), (4, .ptr (some (M1.next + 1 + 1 + 1, 0, 0)))]) (fun (_, _, M) => M)
    (fun (i, L, M) => i ≤ 32 ∧ M1.Grew M ∧ M2.next ≤ M.next ∧ M.obj (M1.next + 1 + 1 + 1) = some (.row 37 [L] true) ∧ M.obj M1.next = some (slpO (fun _ => Slp.zero) fun _ => false) ∧ L.length = 37 ∧ L.take 3 = [V.ptr (some (a.e, 0, 0)), .int .i64 n, .ptr (some (M1.next, 0, 0))]) (fun (i, _, _) => 32 - i)
    (0, L0, M2) rfl ⟨by omega, g2, Nat.le_refl _, oL, os, l0, l3⟩ (by simp) ?_
  intro (i, L, M) ⟨a1, a2, a3, a4, a5, a6, a7⟩
  by_cases hi : i < 32
  · simp (disch := omega) [-getElem?_pos]
    refine new42 fun o2 => ?_
    have gN := Mem.Grew.new M o2
    have o4 := (gN.obj (M1.next + 1 + 1 + 1) (by omega)).trans a4
    have o5 := (gN.obj M1.next (by omega)).trans a5
    have nN : (M.new o2).next = M.next + 1 := by simp
    generalize M.new o2 = M3 at *
    simp (disch := omega) [-getElem?_pos, o4, a6, splice]
    refine again_mk (i + 1, _, _) ⟨by omega, (a2.trans gN).upd (by omega) _, by simp; omega, by simp; rfl, (updO _ (show M1.next ≠ M1.next + 1 + 1 + 1 by omega)).trans o5, ?_, ?_⟩ (by dsimp only; omega) (by simp) rfl
    · simp; omega
    · show (List.take (5 + i) L ++ V.ptr (some (M.next, 0, 0)) :: List.drop (5 + i + 1) L).take 3 = _
      rw [List.take_append_of_le_length (by simp; omega), List.take_take, Nat.min_eq_left (by omega)]
      exact a7
  · obtain rfl : i = 32 := by omega
    simp (disch := omega) [-getElem?_pos]
    have eL : L = V.ptr (some (a.e, 0, 0)) :: .int .i64 n :: .ptr (some (M1.next, 0, 0)) :: L.drop 3 := by
      have := List.take_append_drop 3 L
      rw [a7] at this
      exact this.symm
    rw [eL] at a4
    have al := e1.lts
    refine hk ⟨M1.next + 1 + 1 + 1, M1.next, a⟩ M (g1.trans a2) ⟨⟨_, a4⟩, a5, e1.grow a2, fun q => by have := al _ q; have : M1.next + 1 + 1 + 1 < M1.next := this; omega, fun q => by have := al _ q; have : M1.next < M1.next := this; omega, by show M1.next + 1 + 1 + 1 ≠ M1.next; omega, by show M1.next + 1 + 1 + 1 < M.next; omega, by show M1.next < M.next; omega⟩ fun p hp => ?_
    unfold UA.all at hp
    rcases List.mem_cons.1 hp with rfl | hp
    · show m.next ≤ M1.next + 1 + 1 + 1; omega
    · rcases List.mem_cons.1 hp with rfl | hp
      · exact hn1
      · exact f1 p hp
end
set_option maxHeartbeats 16000000
/-- Settling, reckoned out: did it end, and in what. -/
def setG : Nat → Eng → Bool × Eng × List Frd
  | 0, E => (false, E, [])
  | n + 1, E => match E.one with
    | none => (true, E, [])
    | some (E1, F) => ((setG n E1).1, (setG n E1).2.1, F ++ (setG n E1).2.2)
theorem setG_eq {n : Nat} {E : Eng} (h : (setG n E).1 = true) {k : Nat} {E' : Eng} {F : List Frd} (hs : SetTo k E E' F) : E' = (setG n E).2.1 ∧ F = (setG n E).2.2 := by
  induction n generalizing E k F with
  | zero => cases h
  | succ n ih =>
    unfold setG at h ⊢
    cases hs with
    | stop _ h1 => rw [h1]; exact ⟨rfl, rfl⟩
    | step _ _ E1 _ F1 F2 h1 h2 =>
      rw [h1] at h ⊢
      obtain ⟨e1, e2⟩ := ih h h2
      exact ⟨e1, by rw [e2]⟩
section
variable {lo hi : Int} {E E' : Eng} {s : Stq} {F : List Frd} {x : Int}
theorem do_adv (hd : DoTo E s E' F x) (hk : s.kind = 3) : E' = (E.advance s.n).1 ∧ F = [] ∧ x = (E.advance s.n).2 := by
  cases hd <;> first | exact ⟨rfl, rfl, rfl⟩ | omega
theorem do_set (hd : DoTo E s E' F x) (hk : s.kind = 7) : E' = E.stepC (E.C.set s.n).1 ∧ F = [] ∧ x = (E.C.set s.n).2 := by
  cases hd <;> first | exact ⟨rfl, rfl, rfl⟩ | omega
theorem do_settle (hd : DoTo E s E' F x) (hk : s.kind = 12) : x = 0 ∧ ∃ k, SetTo k E E' F := by
  cases hd <;> first | omega | skip
  rename_i k h1 h2
  exact ⟨rfl, _, h2⟩
theorem do_settleG (n : Nat) (h : (setG n E).1 = true) (hd : DoTo E s E' F x) (hk : s.kind = 12) : E' = (setG n E).2.1 ∧ F = (setG n E).2.2 := by
  obtain ⟨_, k, hs⟩ := do_settle hd hk
  exact setG_eq h hs
end
/-- The example's engine, step by step. -/
def exA : Eng := ((Eng.new 2 1 1000).start ⟨1, 0, 0, ⟨4, 1, 500, 510, false⟩⟩).1
def exB : Eng := (exA.advance 3).1
def exC : Eng := exB.stepC (exB.C.set 600).1
def exD : Bool × Eng × List Frd := setG 20 exC
def exE : Eng := (exD.2.1.advance 1).1
def exF : Bool × Eng × List Frd := setG 20 exE
theorem exD_ok : exD.1 = true := by kernel_rfl
theorem exF_ok : exF.1 = true := by kernel_rfl
theorem ex_fired : exD.2.2 ++ exF.2.2 = [⟨4, 1, 0, 4, 601⟩] := by kernel_rfl
def usA : Usr := (Usr.new 1).slept 9 2 2
def usB : Eng := (usA.E.advance 2).1
def usC : Bool × Eng × List Frd := setG 20 usB
theorem usC_ok : usC.1 = true := by kernel_rfl
theorem us_fired : usC.2.2 = [⟨9, 2, 0, 2, 2⟩] := by kernel_rfl
theorem us_wakes : overS (usA.S 9) usC.2.1.C.tm = true := by kernel_rfl
theorem run_settle {E E' : Eng} {F : List Frd} (h : RunTo E [⟨12, 0, 0, Tmr.zero⟩, ⟨3, 0, 1, Tmr.zero⟩, ⟨12, 0, 0, Tmr.zero⟩] E' F) (hE : E = exC) : F = [⟨4, 1, 0, 4, 601⟩] := by
  subst hE
  have snoc : ∀ {l : List Stq} {s : Stq} {E E' F}, RunTo E (l ++ [s]) E' F → ∃ E1 F1 F2 x, RunTo E l E1 F1 ∧ DoTo E1 s E' F2 x ∧ F = F1 ++ F2 := by
    intro l s E E' F h
    generalize hL : l ++ [s] = L at h
    cases h with
    | nil => simp at hL
    | snoc l' s' E1 _ F1 F2 x h1 h2 =>
      obtain ⟨rfl, e⟩ := List.append_inj' hL rfl
      cases e
      exact ⟨E1, F1, F2, x, h1, h2, rfl⟩
  obtain ⟨E1, F1, F2, x, h1, d1, e1⟩ := snoc (l := [⟨12, 0, 0, Tmr.zero⟩, ⟨3, 0, 1, Tmr.zero⟩]) h
  obtain ⟨E2, F3, F4, y, h2, d2, e2⟩ := snoc (l := [⟨12, 0, 0, Tmr.zero⟩]) h1
  obtain ⟨E3, F5, F6, z, h3, d3, e3⟩ := snoc (l := []) h2
  have nil : ∀ {E E' F}, RunTo E [] E' F → E' = E ∧ F = [] := by
    intro E E' F h
    generalize hL : ([] : List Stq) = L at h
    cases h with
    | nil => exact ⟨rfl, rfl⟩
    | snoc l' s' E1 _ F1 F2 x h1 h2 => simp at hL
  obtain ⟨q0, q0'⟩ := nil h3
  subst q0; subst q0'
  obtain ⟨q1, q2⟩ := do_settleG 20 exD_ok d3 rfl
  obtain ⟨q3, q4, _⟩ := do_adv d2 rfl
  have q3 : E1 = exE := by rw [q3, q1]; rfl
  subst q3
  obtain ⟨q5, q6⟩ := do_settleG 20 exF_ok d1 rfl
  rw [e1, e2, e3, q6, q4, q2, List.nil_append, List.append_nil]
  exact ex_fired
set_option maxHeartbeats 16000000
theorem us_ids : ∀ f ∈ usC.2.2, ∃ i : Nat, i < 32 ∧ f.id = i := by
  rw [us_fired]
  intro f hf
  rw [List.mem_singleton] at hf
  subst hf
  exact ⟨9, by omega, rfl⟩
theorem run7 {m : Mem} {K : KV} (hk : ∀ M, m.Grew M → K (.bool true) M) : ACalls Tryz.prog 7 [] m K := by
  refine run_on xE hm c7 (by simp) fun hf => ?_
  simp (disch := omega) [-getElem?_pos, b7]
  refine new8 (n := 2) (lo := 1) (hi := 1000) (by omega) (by omega) (by omega) (by omega) (by omega) (by omega) fun a M1 g1 e1 f1 => ?_
  have i1 : Inv 1 1000 (Eng.new 2 1 1000) := inv_new (by omega) (by omega)
  have d1 := fun {K1 : KV} => do9 (K := K1) e1 i1 (s := ⟨1, 0, 0, ⟨4, 1, 500, 510, false⟩⟩)
  unfold Stq.cs at d1
  simp (disch := omega) [-getElem?_pos, splice]
  refine d1 fun E2 F2 x2 hd2 v2 M2 e2 s2 _ => ?_
  clear d1
  obtain ⟨i2, f2⟩ := hd2.inv i1
  obtain ⟨q2, _, _⟩ := do_start hd2 rfl
  have q2 : E2 = exA := q2
  subst q2
  have d2 := fun {K1 : KV} => do9 (K := K1) e2 i2 (s := ⟨3, 0, 3, ⟨0, 0, 0, 0, false⟩⟩)
  unfold Stq.cs at d2
  simp (disch := omega) [-getElem?_pos, splice]
  refine d2 fun E3 F3 x3 hd3 v3 M3 e3 s3 _ => ?_
  clear d2
  obtain ⟨i3, f3⟩ := hd3.inv i2
  obtain ⟨q3, _, _⟩ := do_adv hd3 rfl
  have q3 : E3 = exB := q3
  subst q3
  have d3 := fun {K1 : KV} => do9 (K := K1) e3 i3 (s := ⟨7, 0, 600, ⟨0, 0, 0, 0, false⟩⟩)
  unfold Stq.cs at d3
  simp (disch := omega) [-getElem?_pos, splice]
  refine d3 fun E4 F4 x4 hd4 v4 M4 e4 s4 _ => ?_
  clear d3
  obtain ⟨i4, f4⟩ := hd4.inv i3
  obtain ⟨q4, _, _⟩ := do_set hd4 rfl
  have q4 : E4 = exC := q4
  subst q4
  simp (disch := omega) [-getElem?_pos, splice]
  generalize hR : List.map (fun i => List.take 8 (List.drop (i * 8) _)) (List.range 3) = R
  have eR : R = ([⟨12, 0, 0, Tmr.zero⟩, ⟨3, 0, 1, Tmr.zero⟩, ⟨12, 0, 0, Tmr.zero⟩] : List Stq).map Stq.cs := by rw [← hR]; rfl
  have gR := Mem.Grew.new M4 (.row 8 R true)
  have hs : Sl (M4.new (.row 8 R true)) 8 (.sl (some (M4.next, 0, 8)) 3 (some 3)) (([⟨12, 0, 0, Tmr.zero⟩, ⟨3, 0, 1, Tmr.zero⟩, ⟨12, 0, 0, Tmr.zero⟩] : List Stq).map Stq.cs) :=
    ⟨_, _, rfl, fun _ => ⟨M4.next, 0, R, true, rfl, by simp, by simp, by rw [eR]; simp, fun j _ => by rw [eR, Nat.zero_add]⟩⟩
  have al4 := e4.lts
  refine run13 (e4.grow gR) i4 hs (fun _ p hp q => ?_) (by decide) fun E5 F5 hr i5 n5 w M5 e5 s5 ow => ?_
  · simp only [V.addr, Option.some.injEq] at hp
    have := al4 p q
    omega
  have q5 := run_settle hr rfl
  subst q5
  obtain ⟨q, rfl, lq, lq5, oq⟩ := ow.of_ne (by simp)
  clear hr
  unfold Frd.cs at oq
  simp (disch := omega) [-getElem?_pos]
  refine unew17 (n := 1) (by omega) (by omega) fun b M6 g6 u6 f6 => ?_
  have i6 : Inv 1 1073741824 (Usr.new 1).E := inv_new (by omega) (by omega)
  simp (disch := omega) [-getElem?_pos, splice]
  have n6 := g6.next
  have oq6 := (g6.obj q lq5).trans oq
  refine sleep18 (task := 9) (k := 2) (n := 2) u6 i6 (by omega) rfl (by omega) (by omega) (by omega) (by show 0 < 1; omega) (by show 1 < 100; omega) (by kernel_rfl) (by show addT 2 0 < _; decide) fun M7 u7 i7 n7 s7 => ?_
  have u7 : UsrR M7 b usA := u7
  have oq7 := (s7.obj q (by omega) (fun e => by have := f6 q e; omega)).trans oq6
  have m7 := s7.next
  have st19 := fun {K1 : KV} => step19 (K := K1) u7 i7 (s := ⟨3, 0, 2, ⟨0, 0, 0, 0, false⟩⟩) (by decide) (by decide) (fun i hi => ?c1) (fun E' F x hd f hf => ?c2)
  case c1 =>
    have hi : upN' (fun _ => false) 9 true i = true := hi
    unfold upN' at hi
    split at hi
    · next e => subst e; exact ⟨by show (0 : Int) ≤ 2; decide, by show (2 : Int) < 3; decide⟩
    · cases hi
  case c2 =>
    rw [(do_adv hd rfl).2.1] at hf
    cases hf
  unfold Stq.cs at st19
  simp (disch := omega) [-getElem?_pos, splice]
  refine st19 fun E8 F8 x8 hd8 v8 M8 u8 i8 n8 s8 _ => ?_
  clear st19
  obtain ⟨q8, q8', _⟩ := do_adv hd8 rfl
  have q8 : E8 = usB := q8
  subst q8
  subst q8'
  rw [wakeL_nil] at u8
  have n7 : usA.E.n = 1 := n7
  have s7 : Stp M6 M7 (b.all 1) (b.all 1) := s7
  have f6 : ∀ p ∈ b.all 1, M5.next ≤ p := f6
  rw [n7] at s8
  have oq8 := (s8.obj q (by omega) (fun e => by have := f6 q e; omega)).trans oq7
  have m8 := s8.next
  have i8 : Inv 1 1073741824 ({ usA with E := usB, A := usA.A } : Usr).E := i8
  have n8 : usB.n = 1 := n8.trans n7
  have st19 := fun {K1 : KV} => step19 (K := K1) u8 i8 (s := ⟨12, 0, 0, ⟨0, 0, 0, 0, false⟩⟩) (by decide) (by decide) (fun i hi => ?c3) (fun E' F x hd f hf => ?c4)
  case c3 =>
    have hi : upN' (fun _ => false) 9 true i = true := hi
    unfold upN' at hi
    split at hi
    · next e => subst e; exact ⟨by show (0 : Int) ≤ 2; decide, by show (2 : Int) < 3; decide⟩
    · cases hi
  case c4 =>
    rw [(do_settleG 20 usC_ok hd rfl).2] at hf
    exact us_ids f hf
  unfold Stq.cs at st19
  simp (disch := omega) [-getElem?_pos, splice]
  refine st19 fun E9 F9 x9 hd9 v9 M9 u9 i9 n9 s9 ow9 => ?_
  clear st19
  obtain ⟨q9, q9'⟩ := do_settleG 20 usC_ok hd9 rfl
  have s9 : Stp M8 M9 (b.all usB.n) (b.all usB.n) := s9
  rw [n8] at s9
  have oq9 := (s9.obj q (by omega) (fun e => by have := f6 q e; omega)).trans oq8
  have m9 := s9.next
  have ew : (wakeL usA.S E9.C.tm usA.A F9).1 = [⟨9, 2, 0, 2, 2⟩] := by
    have q9 : E9 = usC.2.1 := q9
    have q9' : F9 = usC.2.2 := q9'
    rw [q9, q9', us_fired, wakeL_cons, wakeL_nil]
    have h9 : (usA.A (9 : Int).toNat && overS (usA.S (9 : Int).toNat) usC.2.1.C.tm) = true := by
      have : usA.A (9 : Int).toNat = true := by kernel_rfl
      rw [this, Bool.true_and]
      exact us_wakes
    rw [if_pos h9]
  have ow9 : Own M8.next M9 2 v9 ((wakeL usA.S E9.C.tm usA.A F9).1.map Frd.ws) := ow9
  rw [ew] at ow9
  obtain ⟨q', rfl, lq', lq9, oq'⟩ := ow9.of_ne (by simp)
  unfold Frd.ws at oq'
  simp (disch := omega) [-getElem?_pos, splice, oq9, oq']
  have G2 := s2.toGrew g1 f1
  have N2 : exA.n = 2 := f2.n
  rw [N2] at s3
  have G3 := s3.toGrew G2 f1
  have N3 : exB.n = 2 := f3.n.trans N2
  rw [N3] at s4
  have G4 := s4.toGrew G3 f1
  have N4 : exC.n = 2 := f4.n.trans N3
  rw [N4] at s5
  have G5 := s5.toGrew (G4.trans gR) f1
  have G6 := G5.trans g6
  have f6' : ∀ p ∈ b.all 1, m.next ≤ p := fun p hp => by have := f6 p hp; have := G5.next; omega
  exact hk _ (s9.toGrew (s8.toGrew (s7.toGrew G6 f6') f6') f6')
set_option maxHeartbeats 16000000
theorem wf_u8' {n : Int} (h : (Lit.int .u8 n).wf = true) : 0 ≤ n ∧ n ≤ 255 := by simpa [IntKind.min, IntKind.max, IntKind.signed, IntKind.bits] using wf_int h
def Eng.ids (E : Eng) (i : Nat) : List Int := (allB (E.c i).Q 6).map (·.id)
section
variable {lo hi : Int} {E E' : Eng} {s : Stq} {F : List Frd} {x : Int}
/-- Whether a processor is online or not, its timers are told. -/
theorem Inv.told (h : Inv lo hi E) {i : Nat} (hi0 : i < E.n) : (if hasM E.on (i : Int) then allB (E.c (i : Int).toNat).Q 6 else []) = allB (E.c i).Q 6 := by
  rw [Int.toNat_natCast]
  cases hh : hasM E.on (i : Int) with
  | true => rfl
  | false =>
    have h16 := h.on.n16
    unfold hasM at hh
    rw [decide_eq_true (by omega), decide_eq_true (by omega)] at hh
    have hb : E.on.testBit i = false := by simpa using hh
    cases hl : allB (E.c i).Q 6 with
    | nil => rfl
    | cons t l =>
      obtain ⟨j, hj, ht⟩ := allB_mem.1 (show t ∈ allB (E.c i).Q 6 by rw [hl]; simp)
      have := h.whOn (all_mem.2 ⟨hi0, j, hj, ht⟩)
      rw [this] at hb
      cases hb
end
set_option maxHeartbeats 4000000
/-- When a timer comes, by Mono. -/
def comes (C : Clk) (j : Nat) (t : Tmr) : Int := subT t.soft (C.off (j / 2))
theorem comes_rng (C : Clk) (j : Nat) (t : Tmr) : -4611686018427387903 ≤ comes C j t ∧ comes C j t ≤ 4611686018427387903 := by
  unfold comes subT
  split
  · omega
  · exact cl_rng _
theorem sub_mono {a b c : Int} (h : cl a ≤ cl b) : subT a c ≤ subT b c := by
  have h1 := cl_rng (cl a - cl c)
  unfold subT
  by_cases ha : 4611686018427387903 ≤ a
  · rw [if_pos ha]
    have : 4611686018427387903 ≤ b := by unfold cl at h; omega
    rw [if_pos this]; omega
  · rw [if_neg ha]
    split
    · omega
    · unfold cl at *; omega
theorem nextB_le {Q : Nat → List Tmr} (hs : ∀ j, j < 6 → Srt (Q j)) (C : Clk) {j : Nat} (hj : j < 6) {t : Tmr} (ht : t ∈ Q j) : nextB Q C.off true 6 ≤ comes C j t := by
  have step : ∀ k, nextB Q C.off true (k + 1) = nextStep C.off true (nextB Q C.off true k) k (Q k) := fun k => rfl
  have base : ∀ k, nextB Q C.off true k ≤ 4611686018427387903 ∧ -4611686018427387903 ≤ nextB Q C.off true k := by
    intro k
    induction k with
    | zero => show (4611686018427387903 : Int) ≤ 4611686018427387903 ∧ (-4611686018427387903 : Int) ≤ 4611686018427387903; omega
    | succ k ih =>
      rw [step]
      unfold nextStep
      split
      · exact ih
      · rename_i u l _
        rw [if_pos (.inl rfl)]
        have h1 := cl_rng (nextB Q C.off true k)
        have h2 := cl_rng (subT u.soft (C.off (k / 2)))
        unfold leastT; omega
  have mono : ∀ k, nextB Q C.off true (k + 1) ≤ nextB Q C.off true k := by
    intro k
    have b := base k
    rw [step]
    unfold nextStep
    split
    · omega
    · rename_i u l _
      rw [if_pos (.inl rfl)]
      unfold leastT
      rw [cl_id (t := nextB Q C.off true k) b.2 b.1]
      omega
  have here : nextB Q C.off true (j + 1) ≤ comes C j t := by
    rw [step]
    unfold nextStep
    split
    · next h => rw [h] at ht; cases ht
    · next u l h =>
      rw [if_pos (.inl rfl)]
      have hu : cl u.soft ≤ cl t.soft := by
        have h2 := hs j hj
        rw [h] at h2 ht
        rcases List.mem_cons.1 ht with rfl | ht
        · omega
        · exact (List.pairwise_cons.1 h2).1 t ht
      have h3 := sub_mono (c := C.off (j / 2)) hu
      have h4 := comes_rng C j u
      have h5 := comes_rng C j t
      unfold comes at *
      unfold leastT
      rw [cl_id (t := subT u.soft (C.off (j / 2))) h4.1 h4.2]
      omega
  have down : ∀ k, j + 1 ≤ k → k ≤ 6 → nextB Q C.off true k ≤ comes C j t := by
    intro k h1 h2
    induction k with
    | zero => omega
    | succ k ih =>
      by_cases e : j + 1 = k + 1
      · rw [← e]; exact here
      · have := ih (by omega) (by omega)
        have := mono k
        omega
  exact down 6 (by omega) (by omega)
section
variable {lo hi : Int} {E E' : Eng} {s : Stq} {F : List Frd} {x : Int}
end
set_option maxHeartbeats 4000000
section
variable {lo hi : Int} {E E' : Eng} {s : Stq} {F : List Frd} {x : Int}
/-! ### what is due fires -/
theorem due_gone {l : List Tmr} (hs : Srt l) {now : Int} {t : Tmr} (hd : isDue t now = true) : t ∉ l.dropWhile fun t => isDue t now := by
  induction l with
  | nil => intro h; cases h
  | cons u l ih =>
    unfold Srt at hs
    rw [List.pairwise_cons] at hs
    rw [List.dropWhile_cons]
    split
    · exact ih hs.2
    · next hu =>
      intro h
      apply hu
      rcases List.mem_cons.1 h with rfl | h
      · exact hd
      · have := hs.1 t h
        unfold isDue at *
        simp only [Bool.and_eq_true, decide_eq_true_eq] at *
        unfold cl at *
        omega
end
end Go.Proofs.YtkcpojagecfcbaaGreatDoor
