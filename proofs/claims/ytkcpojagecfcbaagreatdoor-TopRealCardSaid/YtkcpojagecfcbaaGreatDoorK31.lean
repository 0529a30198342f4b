/-
  A TREE, as it lies: its nodes in a row; what each step does with them.
  A TREE's ways: down to the left, to the next one; handles.
  A TREE is mended: no red node hangs on a red one.
  A TREE is filled: ways through a place are as black as they were.
  A TREE's keys: how two compare.
  A TREE: a key is put.
  A TREE: a node is cut out.
-/
import Derived.Test.YtkcpojagecfcbaaGreatDoorK30
namespace Go.Proofs.YtkcpojagecfcbaaGreatDoor
open Go Go.AM
set_option linter.unusedVariables false
set_option linter.unusedSimpArgs false
set_option maxRecDepth 60000
set_option maxHeartbeats 8000000
/-- A node: its key, who hangs where, and its marks. -/
structure Nd where
  tm : Int
  sq : Int
  lf : Nat
  rt : Nat
  up : Nat
  red : Bool
  tk : Bool
  tn : Int
def Nd.cs (x : Nd) : List V := [.int .i64 x.tm, .int .i64 x.sq, .int .i64 x.lf, .int .i64 x.rt, .int .i64 x.up, .bool x.red, .bool x.tk, .int .i64 x.tn]
def Nd.zero : Nd := ⟨0, 0, 0, 0, 0, false, false, 0⟩
def sL (v : Nat) (x : Nd) : Nd := { x with lf := v }
def sR (v : Nat) (x : Nd) : Nd := { x with rt := v }
def sU (v : Nat) (x : Nd) : Nd := { x with up := v }
def sC (v : Bool) (x : Nd) : Nd := { x with red := v }
/-- The child to a side. -/
def ch (x : Nd) (s : Bool) : Nat := if s then x.rt else x.lf
def sCh (s : Bool) (v : Nat) (x : Nd) : Nd := if s then sR v x else sL v x
def upN (f : Nat → Nd) (x : Nat) (g : Nd → Nd) : Nat → Nd := fun i => if i = x then g (f i) else f i
theorem upN_self (f : Nat → Nd) (x : Nat) (g : Nd → Nd) : upN f x g x = g (f x) := by simp [upN]
theorem upN_ne (f : Nat → Nd) {x i : Nat} (g : Nd → Nd) (h : i ≠ x) : upN f x g i = f i := by simp [upN, h]
/-- All nodes, as they lie. -/
def tab (f : Nat → Nd) : List (List V) := (List.range 65).map fun i => (f i).cs
theorem tab_len (f : Nat → Nd) : (tab f).length = 65 := by simp [tab]
theorem tab_get (f : Nat → Nd) {x : Nat} (h : x < 65) : (tab f)[x]? = some [.int .i64 (f x).tm, .int .i64 (f x).sq, .int .i64 (f x).lf, .int .i64 (f x).rt, .int .i64 (f x).up, .bool (f x).red, .bool (f x).tk, .int .i64 (f x).tn] := by
  unfold tab; rw [List.getElem?_map, List.getElem?_range h]; rfl
theorem tab_mod (f : Nat → Nd) {x : Nat} (h : x < 65) (g : Nd → Nd) : (tab f).set x (g (f x)).cs = tab (upN f x g) := by
  apply List.ext_getElem?
  intro i
  by_cases e : i = x
  · subst e
    rw [List.getElem?_set_self (by rw [tab_len]; exact h)]
    unfold tab; rw [List.getElem?_map, List.getElem?_range h, Option.map_some, upN_self]
  · rw [List.getElem?_set_ne (fun q => e q.symm)]
    unfold tab
    rw [List.getElem?_map, List.getElem?_map]
    by_cases hi : i < 65
    · rw [List.getElem?_range hi, Option.map_some, Option.map_some, upN_ne _ _ e]
    · rw [List.getElem?_eq_none (by simp; omega)]; rfl
theorem tab_lf (f : Nat → Nd) {x : Nat} {v : Int} (h : x < 65) (hv : 0 ≤ v) : (tab f).set x [.int .i64 (f x).tm, .int .i64 (f x).sq, .int .i64 v, .int .i64 (f x).rt, .int .i64 (f x).up, .bool (f x).red, .bool (f x).tk, .int .i64 (f x).tn] = tab (upN f x (sL v.toNat)) := by
  rw [← tab_mod f h]; unfold sL Nd.cs; rw [Int.toNat_of_nonneg hv]
theorem tab_rt (f : Nat → Nd) {x : Nat} {v : Int} (h : x < 65) (hv : 0 ≤ v) : (tab f).set x [.int .i64 (f x).tm, .int .i64 (f x).sq, .int .i64 (f x).lf, .int .i64 v, .int .i64 (f x).up, .bool (f x).red, .bool (f x).tk, .int .i64 (f x).tn] = tab (upN f x (sR v.toNat)) := by
  rw [← tab_mod f h]; unfold sR Nd.cs; rw [Int.toNat_of_nonneg hv]
theorem tab_up (f : Nat → Nd) {x : Nat} {v : Int} (h : x < 65) (hv : 0 ≤ v) : (tab f).set x [.int .i64 (f x).tm, .int .i64 (f x).sq, .int .i64 (f x).lf, .int .i64 (f x).rt, .int .i64 v, .bool (f x).red, .bool (f x).tk, .int .i64 (f x).tn] = tab (upN f x (sU v.toNat)) := by
  rw [← tab_mod f h]; unfold sU Nd.cs; rw [Int.toNat_of_nonneg hv]
theorem tab_red (f : Nat → Nd) {x : Nat} {v : Bool} (h : x < 65) : (tab f).set x [.int .i64 (f x).tm, .int .i64 (f x).sq, .int .i64 (f x).lf, .int .i64 (f x).rt, .int .i64 (f x).up, .bool v, .bool (f x).tk, .int .i64 (f x).tn] = tab (upN f x (sC v)) := by
  rw [← tab_mod f h]; rfl
structure Tr where
  f : Nat → Nd
  len : Nat
  root : Nat
  n : Int
  free : Nat
def Tr.mod (T : Tr) (x : Nat) (g : Nd → Nd) : Tr := { T with f := upN T.f x g }
def Tr.rt (T : Tr) (x : Nat) : Tr := { T with root := x }
/-- All places are in the row. -/
structure Bd (T : Tr) : Prop where
  lo : 1 ≤ T.len
  hi : T.len ≤ 65
  root : T.root < T.len
  free : T.free < T.len
  nd : ∀ i, i < T.len → (T.f i).lf < T.len ∧ (T.f i).rt < T.len ∧ (T.f i).up < T.len
theorem Bd.mod {T : Tr} (h : Bd T) (x : Nat) {g : Nd → Nd} (hg : ∀ n : Nd, n.lf < T.len ∧ n.rt < T.len ∧ n.up < T.len → (g n).lf < T.len ∧ (g n).rt < T.len ∧ (g n).up < T.len) : Bd (T.mod x g) := by
  refine ⟨h.lo, h.hi, h.root, h.free, fun i hi => ?_⟩
  show (upN T.f x g i).lf < T.len ∧ (upN T.f x g i).rt < T.len ∧ (upN T.f x g i).up < T.len
  unfold upN
  split
  · exact hg _ (h.nd i hi)
  · exact h.nd i hi
theorem Bd.mL {T : Tr} (h : Bd T) (x : Nat) {v : Nat} (hv : v < T.len) : Bd (T.mod x (sL v)) := h.mod x fun n hn => ⟨hv, hn.2⟩
theorem Bd.mR {T : Tr} (h : Bd T) (x : Nat) {v : Nat} (hv : v < T.len) : Bd (T.mod x (sR v)) := h.mod x fun n hn => ⟨hn.1, hv, hn.2.2⟩
theorem Bd.mU {T : Tr} (h : Bd T) (x : Nat) {v : Nat} (hv : v < T.len) : Bd (T.mod x (sU v)) := h.mod x fun n hn => ⟨hn.1, hn.2.1, hv⟩
theorem Bd.mC {T : Tr} (h : Bd T) (x : Nat) (v : Bool) : Bd (T.mod x (sC v)) := h.mod x fun n hn => hn
theorem Bd.mCh {T : Tr} (h : Bd T) (x : Nat) (s : Bool) {v : Nat} (hv : v < T.len) : Bd (T.mod x (sCh s v)) := by
  cases s
  · exact h.mL x hv
  · exact h.mR x hv
theorem Bd.mrt {T : Tr} (h : Bd T) {v : Nat} (hv : v < T.len) : Bd (T.rt v) := ⟨h.lo, h.hi, hv, h.free, h.nd⟩
theorem Bd.chd {T : Tr} (h : Bd T) {x : Nat} (hx : x < T.len) (s : Bool) : ch (T.f x) s < T.len := by
  cases s
  · exact (h.nd x hx).1
  · exact (h.nd x hx).2.1
abbrev tcs (ν : Nat) (T : Tr) : List V := [.sl (some (ν, 0, 8)) T.len (some 65), .int .i64 T.root, .int .i64 T.n, .int .i64 T.free, .int .i64 64]
/-- A tree lies here. -/
structure Tm (m : Mem) (τ ν : Nat) (T : Tr) : Prop where
  lt1 : τ < m.next
  lt2 : ν < m.next
  ne : τ ≠ ν
  ot : m.obj τ = some (.row 5 [tcs ν T] true)
  ol : m.obj ν = some (.row 8 (tab T.f) true)
  bd : Bd T
section
variable {m m' : Mem} {τ ν : Nat} {T : Tr}
theorem Tm.keep (h : Tm m τ ν T) (hn : m.next ≤ m'.next) (ho : ∀ p ∈ [τ, ν], m'.obj p = m.obj p) : Tm m' τ ν T := by
  have h1 := h.lt1
  have h2 := h.lt2
  exact ⟨by omega, by omega, h.ne, by rw [ho τ (by simp)]; exact h.ot, by rw [ho ν (by simp)]; exact h.ol, h.bd⟩
theorem Tm.lt (h : Tm m τ ν T) : ∀ p ∈ [τ, ν], p < m.next := fun p hp => by
  simp only [List.mem_cons, List.not_mem_nil, or_false] at hp
  rcases hp with rfl | rfl
  · exact h.lt1
  · exact h.lt2
theorem Tm.grow (h : Tm m τ ν T) (hg : m.Grew m') : Tm m' τ ν T := h.keep hg.next fun p hp => hg.obj p (h.lt p hp)
theorem Tm.nodes (h : Tm m τ ν T) {f : Nat → Nd} (hb : Bd { T with f := f }) : Tm (m.upd ν (some (.row 8 (tab f) true))) τ ν { T with f := f } ∧ Stp m (m.upd ν (some (.row 8 (tab f) true))) [τ, ν] [τ, ν] :=
  ⟨⟨by simp; exact h.lt1, by simp; exact h.lt2, h.ne, by rw [updO _ h.ne]; exact h.ot, by simp, hb⟩, Stp.upd _ (by simp) _⟩
theorem Tm.head (h : Tm m τ ν T) {T' : Tr} (hf : T'.f = T.f) (hb : Bd T') : Tm (m.upd τ (some (.row 5 [tcs ν T'] true))) τ ν T' ∧ Stp m (m.upd τ (some (.row 5 [tcs ν T'] true))) [τ, ν] [τ, ν] :=
  ⟨⟨by simp; exact h.lt1, by simp; exact h.lt2, h.ne, by simp, by rw [updO _ h.ne.symm, hf]; exact h.ol, hb⟩, Stp.upd _ (by simp) _⟩
/-- A place of a child. -/
theorem child130 (h : Tm m τ ν T) {x : Nat} (hx : x < T.len) (s : Bool) {K : KV} (hk : K (.ptr (some (ν, x, if s then 3 else 2))) m) : ACalls Tryz.prog 130 [.ptr (some (τ, 0, 0)), .int .i64 x, .bool s] m K := by
  refine run_on (ctx_nil _) hm c130 (by simp) fun hf => ?_
  have o := h.ot
  have hl := h.bd.hi
  cases s with
  | true => simp (disch := omega) [-getElem?_pos, b130, o]; exact hk
  | false => simp (disch := omega) [-getElem?_pos, b130, o]; exact hk
/-- A place hangs where another one did. -/
def Tr.hang (T : Tr) (old x : Nat) : Tr :=
  (if (T.f old).up = 0 then T.rt x else if (T.f (T.f old).up).lf = old then T.mod (T.f old).up (sL x) else T.mod (T.f old).up (sR x)).mod x (sU (T.f old).up)
theorem Bd.hang (h : Bd T) {old x : Nat} (ho : old < T.len) (hx : x < T.len) : Bd (T.hang old x) := by
  have hu := (h.nd old ho).2.2
  unfold Tr.hang
  split
  · exact (h.mrt hx).mU x hu
  · split
    · exact (h.mL _ hx).mU x hu
    · exact (h.mR _ hx).mU x hu
theorem hang144 (h : Tm m τ ν T) {old x : Nat} (ho : old < T.len) (hx : x < T.len) {K : KV} (hk : ∀ m', Tm m' τ ν (T.hang old x) → Stp m m' [τ, ν] [τ, ν] → K (.tup []) m') : ACalls Tryz.prog 144 [.ptr (some (τ, 0, 0)), .int .i64 old, .int .i64 x] m K := by
  refine run_on (ctx_nil _) hm c144 (by simp) fun hf => ?_
  have ot := h.ot
  have ol := h.ol
  have hl := h.bd.hi
  have hne := h.ne
  have hu := (h.bd.nd old ho).2.2
  have hbd := h.bd.hang ho hx
  unfold Tr.hang at hk hbd
  by_cases h1 : (T.f old).up = 0
  · rw [if_pos h1, h1] at hk hbd
    obtain ⟨d1, d2⟩ := h.head (T' := T.rt x) rfl (h.bd.mrt hx)
    obtain ⟨e1, e2⟩ := d1.nodes (f := upN T.f x (sU 0)) hbd
    simp (disch := omega) [-getElem?_pos, b144, ot, ol, tab_get, tab_up, h1, splice]
    exact hk _ e1 (d2.trans e2)
  · rw [if_neg h1] at hk hbd
    by_cases h2 : (T.f (T.f old).up).lf = old
    · rw [if_pos h2] at hk hbd
      obtain ⟨e1, e2⟩ := h.nodes (f := upN (upN T.f (T.f old).up (sL x)) x (sU (T.f old).up)) hbd
      simp (disch := omega) [-getElem?_pos, b144, ot, ol, tab_get, tab_up, tab_lf, h2, splice]
      exact hk _ e1 e2
    · rw [if_neg h2] at hk hbd
      have h3 : ¬ ((T.f (T.f old).up).lf : Int) = (old : Int) := by omega
      obtain ⟨e1, e2⟩ := h.nodes (f := upN (upN T.f (T.f old).up (sR x)) x (sU (T.f old).up)) hbd
      simp (disch := omega) [-getElem?_pos, b144, ot, ol, tab_get, tab_up, tab_rt, h3, splice]
      exact hk _ e1 e2
/-- A place goes down to a side: its other child comes up. -/
def Tr.turn (T : Tr) (x : Nat) (s : Bool) : Tr :=
  let y := ch (T.f x) (!s)
  let i := ch (T.f y) s
  let T1 := T.mod x (sCh (!s) i)
  let T2 := if i = 0 then T1 else T1.mod i (sU x)
  ((T2.hang x y).mod y (sCh s x)).mod x (sU y)
theorem Bd.len_hang (T : Tr) (old x : Nat) : (T.hang old x).len = T.len := by
  unfold Tr.hang; split
  · rfl
  · split <;> rfl
theorem Bd.turn (h : Bd T) {x : Nat} (hx : x < T.len) (s : Bool) : Bd (T.turn x s) := by
  have hy := h.chd hx (!s)
  have hi := h.chd hy s
  unfold Tr.turn
  dsimp only
  have h1 := h.mCh x (!s) hi
  have h2 : Bd (if ch (T.f (ch (T.f x) (!s))) s = 0 then T.mod x (sCh (!s) (ch (T.f (ch (T.f x) (!s))) s)) else (T.mod x (sCh (!s) (ch (T.f (ch (T.f x) (!s))) s))).mod (ch (T.f (ch (T.f x) (!s))) s) (sU x)) ∧ (if ch (T.f (ch (T.f x) (!s))) s = 0 then T.mod x (sCh (!s) (ch (T.f (ch (T.f x) (!s))) s)) else (T.mod x (sCh (!s) (ch (T.f (ch (T.f x) (!s))) s))).mod (ch (T.f (ch (T.f x) (!s))) s) (sU x)).len = T.len := by
    split
    · exact ⟨h1, rfl⟩
    · exact ⟨h1.mU _ hx, rfl⟩
  obtain ⟨h2, e2⟩ := h2
  have h3 := h2.hang (by rw [e2]; exact hx) (by rw [e2]; exact hy)
  have e3 := (Bd.len_hang (if ch (T.f (ch (T.f x) (!s))) s = 0 then T.mod x (sCh (!s) (ch (T.f (ch (T.f x) (!s))) s)) else (T.mod x (sCh (!s) (ch (T.f (ch (T.f x) (!s))) s))).mod (ch (T.f (ch (T.f x) (!s))) s) (sU x)) x (ch (T.f x) (!s))).trans e2
  exact (h3.mCh _ s (by rw [e3]; exact hx)).mU x (by show _ < (Tr.hang _ _ _).len; rw [e3]; exact hy)
theorem turn143 (h : Tm m τ ν T) {x : Nat} (hx : x < T.len) (s : Bool) {K : KV} (hk : ∀ m', Tm m' τ ν (T.turn x s) → Stp m m' [τ, ν] [τ, ν] → K (.tup []) m') : ACalls Tryz.prog 143 [.ptr (some (τ, 0, 0)), .int .i64 x, .bool s] m K := by
  refine run_on (ctx_nil _) hm c143 (by simp) fun hf => ?_
  have ot := h.ot
  have ol := h.ol
  have hl := h.bd.hi
  have hne := h.ne
  have hbd := h.bd.turn hx s
  have hy := h.bd.chd hx (!s)
  have hi := h.bd.chd hy s
  cases s with
  | true =>
    obtain ⟨y, hye⟩ : ∃ y, (T.f x).lf = y := ⟨_, rfl⟩
    obtain ⟨i, hie⟩ : ∃ i, (T.f y).rt = i := ⟨_, rfl⟩
    have hy : y < T.len := by rw [← hye]; exact hy
    have hi : i < T.len := by rw [← hie, ← hye]; exact hi
    have he : T.turn x true = (((if i = 0 then T.mod x (sL i) else (T.mod x (sL i)).mod i (sU x)).hang x y).mod y (sR x)).mod x (sU y) := by
      rw [← hie, ← hye]; rfl
    rw [he] at hk hbd
    clear he
    simp (disch := omega) [-getElem?_pos, b143]
    refine child130 h hx false ?_
    simp (disch := omega) [-getElem?_pos, ol, tab_get, hye]
    refine child130 h hy true ?_
    simp (disch := omega) [-getElem?_pos, ol, tab_get, hie]
    refine child130 h hx false ?_
    by_cases h0 : i = 0
    · rw [if_pos h0] at hk hbd
      obtain ⟨d1, d2⟩ := h.nodes (f := upN T.f x (sL i)) (h.bd.mL x hi)
      simp (disch := omega) [-getElem?_pos, ol, tab_get, tab_lf, splice, h0]
      rw [h0] at d1 d2 hk hbd
      refine hang144 d1 hx hy fun m2 e1 e2 => ?_
      have el : (Tr.hang { T with f := upN T.f x (sL 0) } x y).len = T.len := Bd.len_hang _ _ _
      have o2 := e1.ol
      have ot2 := e1.ot
      simp (disch := omega) [-getElem?_pos]
      refine child130 e1 (x := y) (by rw [el]; exact hy) true ?_
      obtain ⟨g1, g2⟩ := e1.nodes (f := upN (upN (Tr.hang { T with f := upN T.f x (sL 0) } x y).f y (sR x)) x (sU y)) hbd
      rw [tcs, el] at ot2
      simp (disch := omega) [-getElem?_pos, o2, ot2, tab_get, tab_rt, tab_up, splice]
      exact hk _ g1 ((d2.trans e2).trans g2)
    · rw [if_neg h0] at hk hbd
      obtain ⟨d1, d2⟩ := h.nodes (f := upN (upN T.f x (sL i)) i (sU x)) ((h.bd.mL x hi).mU i hx)
      simp (disch := omega) [-getElem?_pos, ol, ot, tab_get, tab_lf, tab_up, splice, h0]
      refine hang144 d1 hx hy fun m2 e1 e2 => ?_
      have el : (Tr.hang { T with f := upN (upN T.f x (sL i)) i (sU x) } x y).len = T.len := Bd.len_hang _ _ _
      have o2 := e1.ol
      have ot2 := e1.ot
      simp (disch := omega) [-getElem?_pos]
      refine child130 e1 (x := y) (by rw [el]; exact hy) true ?_
      obtain ⟨g1, g2⟩ := e1.nodes (f := upN (upN (Tr.hang { T with f := upN (upN T.f x (sL i)) i (sU x) } x y).f y (sR x)) x (sU y)) hbd
      rw [tcs, el] at ot2
      simp (disch := omega) [-getElem?_pos, o2, ot2, tab_get, tab_rt, tab_up, splice]
      exact hk _ g1 ((d2.trans e2).trans g2)
  | false =>
    obtain ⟨y, hye⟩ : ∃ y, (T.f x).rt = y := ⟨_, rfl⟩
    obtain ⟨i, hie⟩ : ∃ i, (T.f y).lf = i := ⟨_, rfl⟩
    have hy : y < T.len := by rw [← hye]; exact hy
    have hi : i < T.len := by rw [← hie, ← hye]; exact hi
    have he : T.turn x false = (((if i = 0 then T.mod x (sR i) else (T.mod x (sR i)).mod i (sU x)).hang x y).mod y (sL x)).mod x (sU y) := by
      rw [← hie, ← hye]; rfl
    rw [he] at hk hbd
    clear he
    simp (disch := omega) [-getElem?_pos, b143]
    refine child130 h hx true ?_
    simp (disch := omega) [-getElem?_pos, ol, tab_get, hye]
    refine child130 h hy false ?_
    simp (disch := omega) [-getElem?_pos, ol, tab_get, hie]
    refine child130 h hx true ?_
    by_cases h0 : i = 0
    · rw [if_pos h0] at hk hbd
      obtain ⟨d1, d2⟩ := h.nodes (f := upN T.f x (sR i)) (h.bd.mR x hi)
      simp (disch := omega) [-getElem?_pos, ol, tab_get, tab_rt, splice, h0]
      rw [h0] at d1 d2 hk hbd
      refine hang144 d1 hx hy fun m2 e1 e2 => ?_
      have el : (Tr.hang { T with f := upN T.f x (sR 0) } x y).len = T.len := Bd.len_hang _ _ _
      have o2 := e1.ol
      have ot2 := e1.ot
      simp (disch := omega) [-getElem?_pos]
      refine child130 e1 (x := y) (by rw [el]; exact hy) false ?_
      obtain ⟨g1, g2⟩ := e1.nodes (f := upN (upN (Tr.hang { T with f := upN T.f x (sR 0) } x y).f y (sL x)) x (sU y)) hbd
      rw [tcs, el] at ot2
      simp (disch := omega) [-getElem?_pos, o2, ot2, tab_get, tab_lf, tab_up, splice]
      exact hk _ g1 ((d2.trans e2).trans g2)
    · rw [if_neg h0] at hk hbd
      obtain ⟨d1, d2⟩ := h.nodes (f := upN (upN T.f x (sR i)) i (sU x)) ((h.bd.mR x hi).mU i hx)
      simp (disch := omega) [-getElem?_pos, ol, ot, tab_get, tab_rt, tab_up, splice, h0]
      refine hang144 d1 hx hy fun m2 e1 e2 => ?_
      have el : (Tr.hang { T with f := upN (upN T.f x (sR i)) i (sU x) } x y).len = T.len := Bd.len_hang _ _ _
      have o2 := e1.ol
      have ot2 := e1.ot
      simp (disch := omega) [-getElem?_pos]
      refine child130 e1 (x := y) (by rw [el]; exact hy) false ?_
      obtain ⟨g1, g2⟩ := e1.nodes (f := upN (upN (Tr.hang { T with f := upN (upN T.f x (sR i)) i (sU x) } x y).f y (sL x)) x (sU y)) hbd
      rw [tcs, el] at ot2
      simp (disch := omega) [-getElem?_pos, o2, ot2, tab_get, tab_lf, tab_up, splice]
      exact hk _ g1 ((d2.trans e2).trans g2)
end
set_option maxHeartbeats 8000000
/-- Down to the left, as far as it goes; in so many steps. -/
inductive MostTo (f : Nat → Nd) : Nat → Nat → Nat → Prop where
  | stop (x : Nat) : (x = 0 ∨ (f x).lf = 0) → MostTo f 0 x x
  | step (n x y : Nat) : x ≠ 0 → (f x).lf ≠ 0 → MostTo f n (f x).lf y → MostTo f (n + 1) x y
/-- Up, as long as one comes from the right. -/
inductive UpTo (f : Nat → Nd) : Nat → Nat → Nat → Prop where
  | stop (x : Nat) : ((f x).up = 0 ∨ x ≠ (f (f x).up).rt) → UpTo f 0 x (f x).up
  | step (n x y : Nat) : (f x).up ≠ 0 → x = (f (f x).up).rt → UpTo f n (f x).up y → UpTo f (n + 1) x y
/-- The next place. -/
def AfterTo (f : Nat → Nd) (x y : Nat) : Prop := ((f x).rt ≠ 0 ∧ ∃ n, MostTo f n (f x).rt y) ∨ ((f x).rt = 0 ∧ ∃ n, UpTo f n x y)
section
variable {m m' : Mem} {τ ν : Nat} {T : Tr}
theorem MostTo.lt {T : Tr} (h : Bd T) {n x y : Nat} (hM : MostTo T.f n x y) (hx : x < T.len) : y < T.len := by
  induction hM with
  | stop x _ => exact hx
  | step n x y h1 h2 _ ih => exact ih (h.nd x hx).1
theorem UpTo.lt {T : Tr} (h : Bd T) {n x y : Nat} (hM : UpTo T.f n x y) (hx : x < T.len) : y < T.len := by
  induction hM with
  | stop x _ => exact (h.nd x hx).2.2
  | step n x y h1 h2 _ ih => exact ih (h.nd x hx).2.2
theorem AfterTo.lt {T : Tr} (h : Bd T) {x y : Nat} (hM : AfterTo T.f x y) (hx : x < T.len) : y < T.len := by
  rcases hM with ⟨_, n, hM⟩ | ⟨_, n, hM⟩
  · exact hM.lt h (h.nd x hx).2.1
  · exact hM.lt h hx
theorem most121 (h : Tm m τ ν T) {n x y : Nat} (hx : x < T.len) (hM : MostTo T.f n x y) {K : KV} (hk : K (.int .i64 y) m) : ACalls Tryz.prog 121 [.ptr (some (τ, 0, 0)), .int .i64 x] m K := by
  refine run_on (ctx_nil _) hm c121 (by simp) fun hf => ?_
  have ot := h.ot
  have ol := h.ol
  have hl := h.bd.hi
  have hne := h.ne
  simp (disch := omega) [-getElem?_pos, b121]
  refine exec_jumpU0 (σ := Nat × Nat) (fun (_, x) => [(1, .int .i64 x)]) (fun _ => m) (fun (n, x) => x < T.len ∧ MostTo T.f n x y) (fun (n, _) => n) (n, x) rfl ⟨hx, hM⟩ (by simp) ?_
  intro (n, x) ⟨hx, hM⟩
  cases hM with
  | stop _ h0 =>
    by_cases h1 : y = 0
    · rw [h1] at hk
      simp (disch := omega) [-getElem?_pos, h1]
      exact hk
    · have h2 := h0.resolve_left h1
      simp (disch := omega) [-getElem?_pos, ot, ol, tab_get, h1, h2]
      exact hk
  | step n _ _ h1 h2 hM =>
    simp (disch := omega) [-getElem?_pos, ot, ol, tab_get, h1, h2]
    exact again_mk (n, (T.f x).lf) ⟨(h.bd.nd x hx).1, hM⟩ (by dsimp only; omega) (by simp) rfl
theorem after123 (h : Tm m τ ν T) {x y : Nat} (hx : x < T.len) (hA : AfterTo T.f x y) {K : KV} (hk : K (.int .i64 y) m) : ACalls Tryz.prog 123 [.ptr (some (τ, 0, 0)), .int .i64 x] m K := by
  refine run_on (ctx_nil _) hm c123 (by simp) fun hf => ?_
  have ot := h.ot
  have ol := h.ol
  have hl := h.bd.hi
  have hne := h.ne
  simp (disch := omega) [-getElem?_pos, b123]
  refine exec_jumpU (σ := Nat × Nat) (fun (_, x) => [(1, .int .i64 x)]) (fun _ => m) (fun (n, x) => x < T.len ∧ UpTo T.f n x y) (fun (n, _) => n) ?_ ?_
  · rcases hA with ⟨h1, n, hM⟩ | ⟨h1, n, hM⟩
    · simp (disch := omega) [-getElem?_pos, ot, ol, tab_get, h1]
      refine most121 h (h.bd.nd x hx).2.1 hM ?_
      simp (disch := omega) [-getElem?_pos]
      exact hk
    · simp (disch := omega) [-getElem?_pos, ot, ol, tab_get, h1]
      exact first_mk (n, x) ⟨hx, hM⟩ (by simp) rfl
  · intro (n, x) ⟨hx, hM⟩
    have hu := (h.bd.nd x hx).2.2
    cases hM with
    | stop _ h0 =>
      by_cases h1 : (T.f x).up = 0
      · simp (disch := omega) [-getElem?_pos, ot, ol, tab_get, h1]
        rw [h1] at hk
        exact hk
      · have h2 : ¬ ((x : Int) = ((T.f (T.f x).up).rt : Int)) := by have := h0.resolve_left h1; omega
        simp (disch := omega) [-getElem?_pos, ot, ol, tab_get, h1, h2]
        exact hk
    | step n _ _ h1 h2 hM =>
      have h3 : ((x : Int) = ((T.f (T.f x).up).rt : Int)) := by omega
      obtain ⟨u, hu0⟩ : ∃ u, (T.f x).up = u := ⟨_, rfl⟩
      rw [hu0] at hu h1 h2 h3 hM
      simp (disch := omega) [-getElem?_pos, ot, ol, tab_get, h1, hu0, ← h3]
      exact again_mk (n, u) ⟨hu, hM⟩ (by dsimp only; omega) (by simp) rfl
theorem handle120 (h : Tm m τ ν T) {x : Nat} (hx : x < T.len) {K : KV} (hk : ∀ m', m.Grew m' → K (.tup [.agg (if x = 0 then [.int .i64 0, .int .i64 0] else [.int .i64 x, .int .i64 (T.f x).tn]), .bool (decide (x ≠ 0))]) m') : ACalls Tryz.prog 120 [.ptr (some (τ, 0, 0)), .int .i64 x] m K := by
  refine run_on (ctx_nil _) hm c120 (by simp) fun hf => ?_
  have ot := h.ot
  have ol := h.ol
  have hl := h.bd.hi
  have hne := h.ne
  have hlt := h.lt1
  have hlt2 := h.lt2
  by_cases h0 : x = 0
  · rw [if_pos h0, decide_eq_false (by simpa using h0)] at hk
    subst h0
    simp (disch := omega) [-getElem?_pos, b120, splice]
    exact hk _ (Mem.Grew.new _ _)
  · rw [if_neg h0, decide_eq_true h0] at hk
    simp (disch := omega) [-getElem?_pos, b120, ot, ol, tab_get, h0, splice]
    exact hk _ (Mem.Grew.new _ _)
theorem first94 (h : Tm m τ ν T) {n x : Nat} (hM : MostTo T.f n T.root x) {K : KV} (hk : ∀ m', m.Grew m' → K (.tup [.agg (if x = 0 then [.int .i64 0, .int .i64 0] else [.int .i64 x, .int .i64 (T.f x).tn]), .bool (decide (x ≠ 0))]) m') : ACalls Tryz.prog 94 [.ptr (some (τ, 0, 0))] m K := by
  refine run_on (ctx_nil _) hm c94 (by simp) fun hf => ?_
  have hlt := h.lt1
  have hlt2 := h.lt2
  have hx := hM.lt h.bd h.bd.root
  have g1 := Mem.Grew.new m (.row 2 [[.int .i64 0, .int .i64 0]] true)
  have oA : (m.new (.row 2 [[.int .i64 0, .int .i64 0]] true)).obj m.next = some (.row 2 [[.int .i64 0, .int .i64 0]] true) := by simp
  have hA : m.next < (m.new (.row 2 [[.int .i64 0, .int .i64 0]] true)).next := by simp
  have h1 := h.grow g1
  have ot := h1.ot
  simp (disch := omega) [-getElem?_pos, b94, h.ot]
  generalize m.new (.row 2 [[.int .i64 0, .int .i64 0]] true) = m1 at *
  refine most121 h1 h.bd.root hM ?_
  simp (disch := omega) [-getElem?_pos]
  refine handle120 h1 hx fun m2 g2 => ?_
  have oA2 := (g2.obj _ hA).trans oA
  have hA2 := g2.next
  have fin : ∀ o, m.Grew (m2.upd m.next o) := fun o => (g1.trans g2).upd (Nat.le_refl _) o
  by_cases h0 : x = 0
  · rw [if_pos h0, decide_eq_false (by simpa using h0)] at hk ⊢
    simp (disch := omega) [-getElem?_pos, oA2, splice]
    exact hk _ (fin _)
  · rw [if_neg h0, decide_eq_true h0] at hk ⊢
    simp (disch := omega) [-getElem?_pos, oA2, splice]
    exact hk _ (fin _)
end
set_option maxHeartbeats 16000000
/-- To which side of the one above a place hangs. -/
def sideOf (T : Tr) (u x : Nat) : Bool := decide ((T.f u).rt = x)
def Tr.red3 (T : Tr) (u w o : Nat) : Tr := ((T.mod u (sC false)).mod w (sC false)).mod o (sC true)
def Tr.red2 (T : Tr) (u o : Nat) : Tr := (T.mod u (sC false)).mod o (sC true)
/-- What mending comes to, in so many rounds. -/
inductive MendTo : Nat → Tr → Nat → Tr → Prop where
  | stop (T : Tr) (x : Nat) : (T.f (T.f x).up).red = false → MendTo 0 T x (T.mod T.root (sC false))
  | uncle (n : Nat) (T T' : Tr) (x u o w : Nat) (s : Bool) : (T.f x).up = u → (T.f u).red = true → (T.f u).up = o → sideOf T o u = s → ch (T.f o) (!s) = w → (T.f w).red = true → MendTo n (T.red3 u w o) o T' → MendTo (n + 1) T x T'
  | outer (n : Nat) (T T' : Tr) (x u o w : Nat) (s : Bool) : (T.f x).up = u → (T.f u).red = true → (T.f u).up = o → sideOf T o u = s → ch (T.f o) (!s) = w → (T.f w).red = false → ch (T.f u) (!s) ≠ x → MendTo n ((T.red2 u o).turn o (!s)) x T' → MendTo (n + 1) T x T'
  | inner (n : Nat) (T T' : Tr) (x u o w : Nat) (s : Bool) : (T.f x).up = u → (T.f u).red = true → (T.f u).up = o → sideOf T o u = s → ch (T.f o) (!s) = w → (T.f w).red = false → ch (T.f u) (!s) = x → MendTo n (((T.turn u s).red2 x o).turn o (!s)) u T' → MendTo (n + 1) T x T'
theorem Bd.red3 {T : Tr} (h : Bd T) (u w o : Nat) : Bd (T.red3 u w o) := ((h.mC u _).mC w _).mC o _
theorem Bd.red2 {T : Tr} (h : Bd T) (u o : Nat) : Bd (T.red2 u o) := (h.mC u _).mC o _
theorem Bd.len_turn (T : Tr) (x : Nat) (s : Bool) : (T.turn x s).len = T.len := by
  unfold Tr.turn
  dsimp only
  show (Tr.hang _ _ _).len = _
  rw [Bd.len_hang]
  split <;> rfl
section
variable {m m' : Mem} {τ ν : Nat} {T : Tr}
theorem mend132 (h : Tm m τ ν T) {n x : Nat} {T' : Tr} (hx : x < T.len) (hM : MendTo n T x T') {K : KV} (hk : ∀ m', Tm m' τ ν T' → Stp m m' [τ, ν] [τ, ν] → K (.tup []) m') : ACalls Tryz.prog 132 [.ptr (some (τ, 0, 0)), .int .i64 x] m K := by
  refine run_on (ctx_nil _) hm c132 (by simp) fun hf => ?_
  simp (disch := omega) [-getElem?_pos, b132]
  refine exec_jumpU0 (σ := Nat × Tr × Nat × Mem) (fun (_, _, x, _) => [(1, .int .i64 x)]) (fun (_, _, _, M) => M) (fun (n, T, x, M) => Tm M τ ν T ∧ x < T.len ∧ MendTo n T x T' ∧ Stp m M [τ, ν] [τ, ν]) (fun (n, _, _, _) => n) (n, T, x, m) rfl (by dsimp only; exact ⟨h, hx, hM, Stp.refl _ _⟩) (by simp) ?_
  clear h hx hM
  intro (n, T, x, M) ⟨h, hx, hM, hst⟩
  have ot := h.ot
  have ol := h.ol
  have hl := h.bd.hi
  have hne := h.ne
  have hu := (h.bd.nd x hx).2.2
  have hrt := h.bd.root
  cases hM with
  | stop _ _ h0 =>
    obtain ⟨d1, d2⟩ := h.nodes (f := upN T.f T.root (sC false)) (h.bd.mC T.root false)
    simp (disch := omega) [-getElem?_pos, ot, ol, tab_get, tab_red, h0, splice]
    exact hk _ d1 (hst.trans d2)
  | uncle n _ _ _ u o w s hu0 hur ho0 hs hw0 hwr hM =>
    rw [hu0] at hu
    have ho : o < T.len := by rw [← ho0]; exact (h.bd.nd u hu).2.2
    have hw : w < T.len := by rw [← hw0]; exact h.bd.chd ho (!s)
    cases s with
    | true =>
      have hs2 : ((T.f o).rt : Int) = (u : Int) := by have := of_decide_eq_true hs; omega
      have hw1 : (T.f o).lf = w := hw0
      simp (disch := omega) [-getElem?_pos, ot, ol, tab_get, hu0, hur, ho0, hs2]
      refine child130 h ho false ?_
      obtain ⟨d1, d2⟩ := h.nodes (f := upN (upN (upN T.f u (sC false)) w (sC false)) o (sC true)) (h.bd.red3 u w o)
      simp (disch := omega) [-getElem?_pos, ot, ol, tab_get, tab_red, hw1, hwr, splice]
      exact again_mk (n, T.red3 u w o, o, _) (by dsimp only; exact ⟨d1, ho, hM, hst.trans d2⟩) (by dsimp only; omega) (by simp) rfl
    | false =>
      have hs2 : ¬ ((T.f o).rt : Int) = (u : Int) := by have := of_decide_eq_false hs; omega
      have hw1 : (T.f o).rt = w := hw0
      simp (disch := omega) [-getElem?_pos, ot, ol, tab_get, hu0, hur, ho0, hs2]
      refine child130 h ho true ?_
      obtain ⟨d1, d2⟩ := h.nodes (f := upN (upN (upN T.f u (sC false)) w (sC false)) o (sC true)) (h.bd.red3 u w o)
      simp (disch := omega) [-getElem?_pos, ot, ol, tab_get, tab_red, hw1, hwr, splice]
      exact again_mk (n, T.red3 u w o, o, _) (by dsimp only; exact ⟨d1, ho, hM, hst.trans d2⟩) (by dsimp only; omega) (by simp) rfl
  | outer n _ _ _ u o w s hu0 hur ho0 hs hw0 hwr hc hM =>
    rw [hu0] at hu
    have ho : o < T.len := by rw [← ho0]; exact (h.bd.nd u hu).2.2
    have hw : w < T.len := by rw [← hw0]; exact h.bd.chd ho (!s)
    cases s with
    | true =>
      have hs2 : ((T.f o).rt : Int) = (u : Int) := by have := of_decide_eq_true hs; omega
      have hw1 : (T.f o).lf = w := hw0
      simp (disch := omega) [-getElem?_pos, ot, ol, tab_get, hu0, hur, ho0, hs2]
      refine child130 h ho false ?_
      simp (disch := omega) [-getElem?_pos, ot, ol, tab_get, hw1, hwr]
      refine child130 h hu false ?_
      have hc1 : ¬ ((T.f u).lf : Int) = (x : Int) := by have : (T.f u).lf ≠ x := hc; omega
      simp (disch := omega) [-getElem?_pos, ot, ol, tab_get, hc1]
      obtain ⟨d1, d2⟩ := h.nodes (f := upN (upN T.f u (sC false)) o (sC true)) (h.bd.red2 u o)
      simp (disch := omega) [-getElem?_pos, ot, ol, tab_get, tab_red, splice]
      refine turn143 d1 (x := o) ho false fun m3 e1 e2 => ?_
      simp (disch := omega) [-getElem?_pos]
      exact again_mk (n, (T.red2 u o).turn o false, x, m3) (by dsimp only; exact ⟨e1, by rw [Bd.len_turn]; exact hx, hM, (hst.trans d2).trans e2⟩) (by dsimp only; omega) (by simp) rfl
    | false =>
      have hs2 : ¬ ((T.f o).rt : Int) = (u : Int) := by have := of_decide_eq_false hs; omega
      have hw1 : (T.f o).rt = w := hw0
      simp (disch := omega) [-getElem?_pos, ot, ol, tab_get, hu0, hur, ho0, hs2]
      refine child130 h ho true ?_
      simp (disch := omega) [-getElem?_pos, ot, ol, tab_get, hw1, hwr]
      refine child130 h hu true ?_
      have hc1 : ¬ ((T.f u).rt : Int) = (x : Int) := by have : (T.f u).rt ≠ x := hc; omega
      simp (disch := omega) [-getElem?_pos, ot, ol, tab_get, hc1]
      obtain ⟨d1, d2⟩ := h.nodes (f := upN (upN T.f u (sC false)) o (sC true)) (h.bd.red2 u o)
      simp (disch := omega) [-getElem?_pos, ot, ol, tab_get, tab_red, splice]
      refine turn143 d1 (x := o) ho true fun m3 e1 e2 => ?_
      simp (disch := omega) [-getElem?_pos]
      exact again_mk (n, (T.red2 u o).turn o true, x, m3) (by dsimp only; exact ⟨e1, by rw [Bd.len_turn]; exact hx, hM, (hst.trans d2).trans e2⟩) (by dsimp only; omega) (by simp) rfl
  | inner n _ _ _ u o w s hu0 hur ho0 hs hw0 hwr hc hM =>
    rw [hu0] at hu
    have ho : o < T.len := by rw [← ho0]; exact (h.bd.nd u hu).2.2
    have hw : w < T.len := by rw [← hw0]; exact h.bd.chd ho (!s)
    cases s with
    | true =>
      have hs2 : ((T.f o).rt : Int) = (u : Int) := by have := of_decide_eq_true hs; omega
      have hw1 : (T.f o).lf = w := hw0
      simp (disch := omega) [-getElem?_pos, ot, ol, tab_get, hu0, hur, ho0, hs2]
      refine child130 h ho false ?_
      simp (disch := omega) [-getElem?_pos, ot, ol, tab_get, hw1, hwr]
      refine child130 h hu false ?_
      have hc1 : ((T.f u).lf : Int) = (x : Int) := by have : (T.f u).lf = x := hc; omega
      simp (disch := omega) [-getElem?_pos, ot, ol, tab_get, hc1]
      refine turn143 h (x := u) hu true fun m2 p1 p2 => ?_
      have pl : (T.turn u true).len = T.len := Bd.len_turn _ _ _
      have ot2 := p1.ot
      have ol2 := p1.ol
      rw [tcs, pl] at ot2
      obtain ⟨d1, d2⟩ := p1.nodes (f := upN (upN (T.turn u true).f x (sC false)) o (sC true)) (p1.bd.red2 x o)
      simp (disch := omega) [-getElem?_pos, ot2, ol2, tab_get, tab_red, splice]
      refine turn143 d1 (x := o) (by show o < (T.turn u true).len; rw [pl]; exact ho) false fun m3 e1 e2 => ?_
      simp (disch := omega) [-getElem?_pos]
      exact again_mk (n, ((T.turn u true).red2 x o).turn o false, u, m3) (by dsimp only; exact ⟨e1, by rw [Bd.len_turn]; show u < (T.turn u true).len; rw [pl]; exact hu, hM, ((hst.trans p2).trans d2).trans e2⟩) (by dsimp only; omega) (by simp) rfl
    | false =>
      have hs2 : ¬ ((T.f o).rt : Int) = (u : Int) := by have := of_decide_eq_false hs; omega
      have hw1 : (T.f o).rt = w := hw0
      simp (disch := omega) [-getElem?_pos, ot, ol, tab_get, hu0, hur, ho0, hs2]
      refine child130 h ho true ?_
      simp (disch := omega) [-getElem?_pos, ot, ol, tab_get, hw1, hwr]
      refine child130 h hu true ?_
      have hc1 : ((T.f u).rt : Int) = (x : Int) := by have : (T.f u).rt = x := hc; omega
      simp (disch := omega) [-getElem?_pos, ot, ol, tab_get, hc1]
      refine turn143 h (x := u) hu false fun m2 p1 p2 => ?_
      have pl : (T.turn u false).len = T.len := Bd.len_turn _ _ _
      have ot2 := p1.ot
      have ol2 := p1.ol
      rw [tcs, pl] at ot2
      obtain ⟨d1, d2⟩ := p1.nodes (f := upN (upN (T.turn u false).f x (sC false)) o (sC true)) (p1.bd.red2 x o)
      simp (disch := omega) [-getElem?_pos, ot2, ol2, tab_get, tab_red, splice]
      refine turn143 d1 (x := o) (by show o < (T.turn u false).len; rw [pl]; exact ho) true fun m3 e1 e2 => ?_
      simp (disch := omega) [-getElem?_pos]
      exact again_mk (n, ((T.turn u false).red2 x o).turn o true, u, m3) (by dsimp only; exact ⟨e1, by rw [Bd.len_turn]; show u < (T.turn u false).len; rw [pl]; exact hu, hM, ((hst.trans p2).trans d2).trans e2⟩) (by dsimp only; omega) (by simp) rfl
end
set_option maxHeartbeats 16000000
/-- A place of a child, as a spec. -/
def F130 : AFn
  | [.ptr (some (τ, 0, 0)), .int .i64 x, .bool s], m => match m.obj τ with
    | some (.row 5 [[.sl (some (ν, 0, 8)) n c, _, _, _, _]] true) => if 0 ≤ x ∧ x < n then some (.ptr (some (ν, x.toNat, if s then 3 else 2)), m) else none
    | _ => none
  | _, _ => none
theorem s130 : ASpec Tryz.prog 130 F130 := by
  intro args m r m' h
  unfold F130 at h
  split at h
  case h_2 => cases h
  rename_i τ x s
  split at h
  case h_2 => cases h
  rename_i ν n c a1 a2 a3 a4 ho
  split at h
  case isFalse => cases h
  rename_i hx
  cases h
  refine run_on (ctx_nil _) hm c130 (by simp) fun hf => ?_
  obtain ⟨h1, h2⟩ := hx
  cases s with
  | true => simp (disch := omega) [-getElem?_pos, b130, ho]
  | false => simp (disch := omega) [-getElem?_pos, b130, ho]
abbrev LT : List (FuncId × AFn) := [(130, F130)]
theorem xT : CtxOk Tryz.prog (Ctx.of LT) := ctx_cons (ctx_nil _) s130
/-- The last turn. -/
def Tr.red3' (T : Tr) (u w r : Nat) : Tr := ((T.mod w (sC (T.f u).red)).mod u (sC false)).mod r (sC false)
theorem Bd.red3' {T : Tr} (h : Bd T) (u w r : Nat) : Bd (T.red3' u w r) := ((h.mC w _).mC u _).mC r _
/-- What filling comes to, in so many rounds. -/
inductive FillTo : Nat → Tr → Nat → Tr → Prop where
  | stop (T : Tr) (x : Nat) : (x = T.root ∨ (T.f x).red = true) → FillTo 0 T x (T.mod x (sC false))
  | redw (n : Nat) (T T' : Tr) (x u w : Nat) (s : Bool) : x ≠ T.root → (T.f x).red = false → (T.f x).up = u → sideOf T u x = s → ch (T.f u) (!s) = w → (T.f w).red = true → FillTo n ((T.red2 w u).turn u s) x T' → FillTo (n + 1) T x T'
  | both (n : Nat) (T T' : Tr) (x u w a b : Nat) (s : Bool) : x ≠ T.root → (T.f x).red = false → (T.f x).up = u → sideOf T u x = s → ch (T.f u) (!s) = w → (T.f w).red = false → ch (T.f w) s = a → ch (T.f w) (!s) = b → (T.f a).red = false → (T.f b).red = false → FillTo n (T.mod w (sC true)) u T' → FillTo (n + 1) T x T'
  | near (n : Nat) (T T' : Tr) (x u w a b w2 b2 : Nat) (s : Bool) : x ≠ T.root → (T.f x).red = false → (T.f x).up = u → sideOf T u x = s → ch (T.f u) (!s) = w → (T.f w).red = false → ch (T.f w) s = a → ch (T.f w) (!s) = b → (T.f a).red = true → (T.f b).red = false →
      ch (((T.red2 a w).turn w (!s)).f u) (!s) = w2 → ch (((T.red2 a w).turn w (!s)).f w2) (!s) = b2 → FillTo n ((((T.red2 a w).turn w (!s)).red3' u w2 b2).turn u s) ((((T.red2 a w).turn w (!s)).red3' u w2 b2).turn u s).root T' → FillTo (n + 1) T x T'
  | far (n : Nat) (T T' : Tr) (x u w a b : Nat) (s : Bool) : x ≠ T.root → (T.f x).red = false → (T.f x).up = u → sideOf T u x = s → ch (T.f u) (!s) = w → (T.f w).red = false → ch (T.f w) s = a → ch (T.f w) (!s) = b → (T.f b).red = true →
      FillTo n ((T.red3' u w b).turn u s) ((T.red3' u w b).turn u s).root T' → FillTo (n + 1) T x T'
section
variable {m m' : Mem} {τ ν : Nat} {T : Tr}
theorem fill146 (h : Tm m τ ν T) {n x : Nat} {T' : Tr} (hx : x < T.len) (hM : FillTo n T x T') {K : KV} (hk : ∀ m', Tm m' τ ν T' → Stp m m' [τ, ν] [τ, ν] → K (.tup []) m') : ACalls Tryz.prog 146 [.ptr (some (τ, 0, 0)), .int .i64 x] m K := by
  refine run_on xT hm c146 (by simp) fun hf => ?_
  simp (disch := omega) [-getElem?_pos, b146]
  refine exec_jumpU0 (σ := Nat × Tr × Nat × Mem) (fun (_, _, x, _) => [(1, .int .i64 x)]) (fun (_, _, _, M) => M) (fun (n, T, x, M) => Tm M τ ν T ∧ x < T.len ∧ FillTo n T x T' ∧ Stp m M [τ, ν] [τ, ν]) (fun (n, _, _, _) => n) (n, T, x, m) rfl (by dsimp only; exact ⟨h, hx, hM, Stp.refl _ _⟩) (by simp) ?_
  clear h hx hM
  intro (n, T, x, M) ⟨h, hx, hM, hst⟩
  have ot := h.ot
  have ol := h.ol
  have hl := h.bd.hi
  have hne := h.ne
  have hu := (h.bd.nd x hx).2.2
  have hrt := h.bd.root
  cases hM with
  | stop _ _ h0 =>
    obtain ⟨d1, d2⟩ := h.nodes (f := upN T.f x (sC false)) (h.bd.mC x false)
    by_cases h1 : x = T.root
    · have h2 : (x : Int) = (T.root : Int) := by omega
      simp (disch := omega) [-getElem?_pos, ot, ol, tab_get, tab_red, h2, ← h1, splice]
      exact hk _ d1 (hst.trans d2)
    · have h2 : ¬ (x : Int) = (T.root : Int) := by omega
      have h3 := h0.resolve_left h1
      simp (disch := omega) [-getElem?_pos, ot, ol, tab_get, tab_red, h2, h3, splice]
      exact hk _ d1 (hst.trans d2)
  | redw n _ _ _ u w s hr hxr hu0 hs hw0 hwr hM =>
    have hr2 : ¬ (x : Int) = (T.root : Int) := by omega
    rw [hu0] at hu
    have hw : w < T.len := by rw [← hw0]; exact h.bd.chd hu (!s)
    cases s with
    | true =>
      have hs2 : ((T.f u).rt : Int) = (x : Int) := by have := of_decide_eq_true hs; omega
      have hw1 : (T.f u).lf = w := hw0
      obtain ⟨d1, d2⟩ := h.nodes (f := upN (upN T.f w (sC false)) u (sC true)) (h.bd.red2 w u)
      simp (disch := omega) [-getElem?_pos, F130, ot, ol, tab_get, tab_red, hr2, hxr, hu0, hs2, hw1, hwr, splice]
      refine turn143 d1 (x := u) hu true fun m3 e1 e2 => ?_
      simp (disch := omega) [-getElem?_pos]
      exact again_mk (n, (T.red2 w u).turn u true, x, m3) (by dsimp only; exact ⟨e1, by rw [Bd.len_turn]; exact hx, hM, (hst.trans d2).trans e2⟩) (by dsimp only; omega) (by simp) rfl
    | false =>
      have hs2 : ¬ ((T.f u).rt : Int) = (x : Int) := by have := of_decide_eq_false hs; omega
      have hw1 : (T.f u).rt = w := hw0
      obtain ⟨d1, d2⟩ := h.nodes (f := upN (upN T.f w (sC false)) u (sC true)) (h.bd.red2 w u)
      simp (disch := omega) [-getElem?_pos, F130, ot, ol, tab_get, tab_red, hr2, hxr, hu0, hs2, hw1, hwr, splice]
      refine turn143 d1 (x := u) hu false fun m3 e1 e2 => ?_
      simp (disch := omega) [-getElem?_pos]
      exact again_mk (n, (T.red2 w u).turn u false, x, m3) (by dsimp only; exact ⟨e1, by rw [Bd.len_turn]; exact hx, hM, (hst.trans d2).trans e2⟩) (by dsimp only; omega) (by simp) rfl
  | both n _ _ _ u w a b s hr hxr hu0 hs hw0 hwr ha0 hb0 har hbr hM =>
    have hr2 : ¬ (x : Int) = (T.root : Int) := by omega
    rw [hu0] at hu
    have hw : w < T.len := by rw [← hw0]; exact h.bd.chd hu (!s)
    have ha : a < T.len := by rw [← ha0]; exact h.bd.chd hw s
    have hb : b < T.len := by rw [← hb0]; exact h.bd.chd hw (!s)
    cases s with
    | true =>
      have hs2 : ((T.f u).rt : Int) = (x : Int) := by have := of_decide_eq_true hs; omega
      have hw1 : (T.f u).lf = w := hw0
      have ha1 : (T.f w).rt = a := ha0
      have hb1 : (T.f w).lf = b := hb0
      simp (disch := omega) [-getElem?_pos, F130, ot, ol, tab_get, hr2, hxr, hu0, hs2, hw1, hwr]
      refine drawT_one ⟨_, _, by simp (disch := omega) [-getElem?_pos, F130, ot, ol, tab_get, ha1, hb1]; exact ⟨rfl, rfl⟩, ?_⟩
      obtain ⟨d1, d2⟩ := h.nodes (f := upN T.f w (sC true)) (h.bd.mC w true)
      simp (disch := omega) [-getElem?_pos, F130, ot, ol, tab_get, tab_red, har, hbr, splice]
      exact again_mk (n, T.mod w (sC true), u, _) (by dsimp only; exact ⟨d1, hu, hM, hst.trans d2⟩) (by dsimp only; omega) (by simp) rfl
    | false =>
      have hs2 : ¬ ((T.f u).rt : Int) = (x : Int) := by have := of_decide_eq_false hs; omega
      have hw1 : (T.f u).rt = w := hw0
      have ha1 : (T.f w).lf = a := ha0
      have hb1 : (T.f w).rt = b := hb0
      simp (disch := omega) [-getElem?_pos, F130, ot, ol, tab_get, hr2, hxr, hu0, hs2, hw1, hwr]
      refine drawT_one ⟨_, _, by simp (disch := omega) [-getElem?_pos, F130, ot, ol, tab_get, ha1, hb1]; exact ⟨rfl, rfl⟩, ?_⟩
      obtain ⟨d1, d2⟩ := h.nodes (f := upN T.f w (sC true)) (h.bd.mC w true)
      simp (disch := omega) [-getElem?_pos, F130, ot, ol, tab_get, tab_red, har, hbr, splice]
      exact again_mk (n, T.mod w (sC true), u, _) (by dsimp only; exact ⟨d1, hu, hM, hst.trans d2⟩) (by dsimp only; omega) (by simp) rfl
  | near n _ _ _ u w a b w2 b2 s hr hxr hu0 hs hw0 hwr ha0 hb0 har hbr hw2 hb2 hM =>
    have hr2 : ¬ (x : Int) = (T.root : Int) := by omega
    rw [hu0] at hu
    have hw : w < T.len := by rw [← hw0]; exact h.bd.chd hu (!s)
    have ha : a < T.len := by rw [← ha0]; exact h.bd.chd hw s
    have hb : b < T.len := by rw [← hb0]; exact h.bd.chd hw (!s)
    cases s with
    | true =>
      have hs2 : ((T.f u).rt : Int) = (x : Int) := by have := of_decide_eq_true hs; omega
      have hw1 : (T.f u).lf = w := hw0
      have ha1 : (T.f w).rt = a := ha0
      have hb1 : (T.f w).lf = b := hb0
      simp (disch := omega) [-getElem?_pos, F130, ot, ol, tab_get, hr2, hxr, hu0, hs2, hw1, hwr]
      refine drawT_one ⟨_, _, by simp (disch := omega) [-getElem?_pos, F130, ot, ol, tab_get, ha1, hb1]; exact ⟨rfl, rfl⟩, ?_⟩
      obtain ⟨d1, d2⟩ := h.nodes (f := upN (upN T.f a (sC false)) w (sC true)) (h.bd.red2 a w)
      simp (disch := omega) [-getElem?_pos, F130, ot, ol, tab_get, tab_red, har, hbr, splice]
      refine turn143 d1 (x := w) hw false fun m2 p1 p2 => ?_
      have pl : ((T.red2 a w).turn w false).len = T.len := Bd.len_turn _ _ _
      have ot2 := p1.ot
      have ol2 := p1.ol
      have hw2l : w2 < T.len := by rw [← pl, ← hw2]; exact p1.bd.chd (by show u < ((T.red2 a w).turn w false).len; rw [pl]; exact hu) _
      have hb2l : b2 < T.len := by rw [← pl, ← hb2]; exact p1.bd.chd (by show w2 < ((T.red2 a w).turn w false).len; rw [pl]; exact hw2l) _
      have hw3 : (((T.red2 a w).turn w false).f u).lf = w2 := hw2
      have hb3 : (((T.red2 a w).turn w false).f w2).lf = b2 := hb2
      obtain ⟨q1, q2⟩ := p1.nodes (f := upN (upN (upN ((T.red2 a w).turn w false).f w2 (sC (((T.red2 a w).turn w false).f u).red)) u (sC false)) b2 (sC false)) (p1.bd.red3' u w2 b2)
      rw [tcs] at ot2
      have ot2' : m2.obj τ = some (.row 5 [[.sl (some (ν, 0, 8)) T.len (some 65), .int .i64 ((T.red2 a w).turn w false).root, .int .i64 ((T.red2 a w).turn w false).n, .int .i64 ((T.red2 a w).turn w false).free, .int .i64 64]] true) := by rw [← pl]; exact ot2
      have ol2' : m2.obj ν = some (.row 8 (tab ((T.red2 a w).turn w false).f) true) := ol2
      have tr := tab_red ((T.red2 a w).turn w false).f (v := (((T.red2 a w).turn w false).f u).red) (show w2 < 65 by omega)
      rw [hb3] at tr
      simp (disch := omega) [-getElem?_pos, F130, ot2', ol2', tab_get, tab_red, hw3, hb3, tr, splice]
      refine turn143 q1 (x := u) (by show u < ((T.red2 a w).turn w false).len; rw [pl]; exact hu) true fun m3 e1 e2 => ?_
      have ot3 := e1.ot
      simp (disch := omega) [-getElem?_pos, ot3]
      exact again_mk (n, (((T.red2 a w).turn w false).red3' u w2 b2).turn u true, ((((T.red2 a w).turn w false).red3' u w2 b2).turn u true).root, m3) (by dsimp only; exact ⟨e1, e1.bd.root, hM, (((hst.trans d2).trans p2).trans q2).trans e2⟩) (by dsimp only; omega) (by simp; rfl) rfl
    | false =>
      have hs2 : ¬ ((T.f u).rt : Int) = (x : Int) := by have := of_decide_eq_false hs; omega
      have hw1 : (T.f u).rt = w := hw0
      have ha1 : (T.f w).lf = a := ha0
      have hb1 : (T.f w).rt = b := hb0
      simp (disch := omega) [-getElem?_pos, F130, ot, ol, tab_get, hr2, hxr, hu0, hs2, hw1, hwr]
      refine drawT_one ⟨_, _, by simp (disch := omega) [-getElem?_pos, F130, ot, ol, tab_get, ha1, hb1]; exact ⟨rfl, rfl⟩, ?_⟩
      obtain ⟨d1, d2⟩ := h.nodes (f := upN (upN T.f a (sC false)) w (sC true)) (h.bd.red2 a w)
      simp (disch := omega) [-getElem?_pos, F130, ot, ol, tab_get, tab_red, har, hbr, splice]
      refine turn143 d1 (x := w) hw true fun m2 p1 p2 => ?_
      have pl : ((T.red2 a w).turn w true).len = T.len := Bd.len_turn _ _ _
      have ot2 := p1.ot
      have ol2 := p1.ol
      have hw2l : w2 < T.len := by rw [← pl, ← hw2]; exact p1.bd.chd (by show u < ((T.red2 a w).turn w true).len; rw [pl]; exact hu) _
      have hb2l : b2 < T.len := by rw [← pl, ← hb2]; exact p1.bd.chd (by show w2 < ((T.red2 a w).turn w true).len; rw [pl]; exact hw2l) _
      have hw3 : (((T.red2 a w).turn w true).f u).rt = w2 := hw2
      have hb3 : (((T.red2 a w).turn w true).f w2).rt = b2 := hb2
      obtain ⟨q1, q2⟩ := p1.nodes (f := upN (upN (upN ((T.red2 a w).turn w true).f w2 (sC (((T.red2 a w).turn w true).f u).red)) u (sC false)) b2 (sC false)) (p1.bd.red3' u w2 b2)
      rw [tcs] at ot2
      have ot2' : m2.obj τ = some (.row 5 [[.sl (some (ν, 0, 8)) T.len (some 65), .int .i64 ((T.red2 a w).turn w true).root, .int .i64 ((T.red2 a w).turn w true).n, .int .i64 ((T.red2 a w).turn w true).free, .int .i64 64]] true) := by rw [← pl]; exact ot2
      have ol2' : m2.obj ν = some (.row 8 (tab ((T.red2 a w).turn w true).f) true) := ol2
      have tr := tab_red ((T.red2 a w).turn w true).f (v := (((T.red2 a w).turn w true).f u).red) (show w2 < 65 by omega)
      rw [hb3] at tr
      simp (disch := omega) [-getElem?_pos, F130, ot2', ol2', tab_get, tab_red, hw3, hb3, tr, splice]
      refine turn143 q1 (x := u) (by show u < ((T.red2 a w).turn w true).len; rw [pl]; exact hu) false fun m3 e1 e2 => ?_
      have ot3 := e1.ot
      simp (disch := omega) [-getElem?_pos, ot3]
      exact again_mk (n, (((T.red2 a w).turn w true).red3' u w2 b2).turn u false, ((((T.red2 a w).turn w true).red3' u w2 b2).turn u false).root, m3) (by dsimp only; exact ⟨e1, e1.bd.root, hM, (((hst.trans d2).trans p2).trans q2).trans e2⟩) (by dsimp only; omega) (by simp; rfl) rfl
  | far n _ _ _ u w a b s hr hxr hu0 hs hw0 hwr ha0 hb0 hbr hM =>
    have hr2 : ¬ (x : Int) = (T.root : Int) := by omega
    rw [hu0] at hu
    have hw : w < T.len := by rw [← hw0]; exact h.bd.chd hu (!s)
    have ha : a < T.len := by rw [← ha0]; exact h.bd.chd hw s
    have hb : b < T.len := by rw [← hb0]; exact h.bd.chd hw (!s)
    cases s with
    | true =>
      have hs2 : ((T.f u).rt : Int) = (x : Int) := by have := of_decide_eq_true hs; omega
      have hw1 : (T.f u).lf = w := hw0
      have ha1 : (T.f w).rt = a := ha0
      have hb1 : (T.f w).lf = b := hb0
      simp (disch := omega) [-getElem?_pos, F130, ot, ol, tab_get, hr2, hxr, hu0, hs2, hw1, hwr]
      refine drawT_one ⟨_, _, by simp (disch := omega) [-getElem?_pos, F130, ot, ol, tab_get, ha1, hb1]; exact ⟨rfl, rfl⟩, ?_⟩
      obtain ⟨d1, d2⟩ := h.nodes (f := upN (upN (upN T.f w (sC (T.f u).red)) u (sC false)) b (sC false)) (h.bd.red3' u w b)
      have pl : ((T.red3' u w b).turn u true).len = T.len := Bd.len_turn _ _ _
      cases har : (T.f a).red with
      | true =>
        simp (disch := omega) [-getElem?_pos, F130, ot, ol, tab_get, tab_red, har, hbr, splice]
        refine turn143 d1 (x := u) hu true fun m3 e1 e2 => ?_
        have ot3 := e1.ot
        simp (disch := omega) [-getElem?_pos, ot3]
        exact again_mk (n, (T.red3' u w b).turn u true, ((T.red3' u w b).turn u true).root, m3) (by dsimp only; exact ⟨e1, e1.bd.root, hM, (hst.trans d2).trans e2⟩) (by dsimp only; omega) (by simp; rfl) rfl
      | false =>
        simp (disch := omega) [-getElem?_pos, F130, ot, ol, tab_get, tab_red, har, hbr, splice]
        refine turn143 d1 (x := u) hu true fun m3 e1 e2 => ?_
        have ot3 := e1.ot
        simp (disch := omega) [-getElem?_pos, ot3]
        exact again_mk (n, (T.red3' u w b).turn u true, ((T.red3' u w b).turn u true).root, m3) (by dsimp only; exact ⟨e1, e1.bd.root, hM, (hst.trans d2).trans e2⟩) (by dsimp only; omega) (by simp; rfl) rfl
    | false =>
      have hs2 : ¬ ((T.f u).rt : Int) = (x : Int) := by have := of_decide_eq_false hs; omega
      have hw1 : (T.f u).rt = w := hw0
      have ha1 : (T.f w).lf = a := ha0
      have hb1 : (T.f w).rt = b := hb0
      simp (disch := omega) [-getElem?_pos, F130, ot, ol, tab_get, hr2, hxr, hu0, hs2, hw1, hwr]
      refine drawT_one ⟨_, _, by simp (disch := omega) [-getElem?_pos, F130, ot, ol, tab_get, ha1, hb1]; exact ⟨rfl, rfl⟩, ?_⟩
      obtain ⟨d1, d2⟩ := h.nodes (f := upN (upN (upN T.f w (sC (T.f u).red)) u (sC false)) b (sC false)) (h.bd.red3' u w b)
      have pl : ((T.red3' u w b).turn u false).len = T.len := Bd.len_turn _ _ _
      cases har : (T.f a).red with
      | true =>
        simp (disch := omega) [-getElem?_pos, F130, ot, ol, tab_get, tab_red, har, hbr, splice]
        refine turn143 d1 (x := u) hu false fun m3 e1 e2 => ?_
        have ot3 := e1.ot
        simp (disch := omega) [-getElem?_pos, ot3]
        exact again_mk (n, (T.red3' u w b).turn u false, ((T.red3' u w b).turn u false).root, m3) (by dsimp only; exact ⟨e1, e1.bd.root, hM, (hst.trans d2).trans e2⟩) (by dsimp only; omega) (by simp; rfl) rfl
      | false =>
        simp (disch := omega) [-getElem?_pos, F130, ot, ol, tab_get, tab_red, har, hbr, splice]
        refine turn143 d1 (x := u) hu false fun m3 e1 e2 => ?_
        have ot3 := e1.ot
        simp (disch := omega) [-getElem?_pos, ot3]
        exact again_mk (n, (T.red3' u w b).turn u false, ((T.red3' u w b).turn u false).root, m3) (by dsimp only; exact ⟨e1, e1.bd.root, hM, (hst.trans d2).trans e2⟩) (by dsimp only; omega) (by simp; rfl) rfl
end
set_option maxHeartbeats 16000000
def cmpI (a b : Int) : Int := if a < b then -1 else if b < a then 1 else 0
def F148 : AFn
  | [.int .i64 _], m => some (.bool false, m)
  | _, _ => none
theorem s148 : ASpec Tryz.prog 148 F148 := by
  intro args m r m' h
  unfold F148 at h; split at h <;> cases h
  refine run_on (ctx_nil _) hm c148 (by simp) fun hf => ?_
  simp [b148]
abbrev L2 : List (FuncId × AFn) := [(148, F148)]
theorem x2 : CtxOk Tryz.prog (Ctx.of L2) := ctx_cons (ctx_nil _) s148
def F142 : AFn
  | [.int .i64 a, .int .i64 b], m => some (.int .i64 (cmpI a b), m)
  | _, _ => none
theorem s142 : ASpec Tryz.prog 142 F142 := by
  intro args m r m' h
  unfold F142 at h; split at h <;> cases h
  rename_i a b
  refine run_on x2 hm c142 (by simp) fun hf => ?_
  unfold cmpI
  by_cases h1 : a < b
  · rw [if_pos h1]; simp (disch := omega) [b142, F148]
  · by_cases h2 : b < a
    · rw [if_neg h1, if_pos h2]; simp (disch := omega) [b142, F148]
    · rw [if_neg h1, if_neg h2]; simp (disch := omega) [b142, F148]
def F141 : AFn
  | [.sl (some (p, 0, 1)) 2 (some 2)], m => match m.obj p with
    | some (.row 1 [[.int .i64 a], [.int .i64 b]] _) => some (.int .i64 (if a = 0 then b else a), m)
    | _ => none
  | _, _ => none
theorem s141 : ASpec Tryz.prog 141 F141 := by
  intro args m r m' h
  unfold F141 at h; split at h
  case h_2 => cases h
  rename_i p
  split at h
  case h_2 => cases h
  rename_i a b rw ho
  cases h
  refine run_on (ctx_nil _) hm c141 (by simp) fun hf => ?_
  simp (disch := omega) [-getElem?_pos, b141]
  refine exec_loopU (σ := Nat) (fun i => [(8, .int .i64 i)]) (fun _ => m) (fun i => i ≤ 2 ∧ (0 < i → a = 0) ∧ (1 < i → b = 0)) (fun i => 2 - i) 0 rfl ⟨by omega, by omega, by omega⟩ (by simp) ?_
  intro i ⟨a1, a2, a3⟩
  have hi : i = 0 ∨ i = 1 ∨ i = 2 := by omega
  rcases hi with rfl | rfl | rfl
  · by_cases h0 : a = 0
    · subst h0
      simp (disch := omega) [-getElem?_pos, ho]
      exact again_mk 1 ⟨by omega, by omega, by omega⟩ (by omega) (by simp) rfl
    · simp (disch := omega) [-getElem?_pos, ho, h0]
  · obtain rfl := a2 (by omega)
    by_cases h0 : b = 0
    · subst h0
      simp (disch := omega) [-getElem?_pos, ho]
      exact again_mk 2 ⟨by omega, by omega, by omega⟩ (by omega) (by simp) rfl
    · simp (disch := omega) [-getElem?_pos, ho, h0]
  · obtain rfl := a2 (by omega)
    obtain rfl := a3 (by omega)
    simp (disch := omega) [-getElem?_pos, ho]
abbrev L7 : List (FuncId × AFn) := [(141, F141), (142, F142)]
theorem x7 : CtxOk Tryz.prog (Ctx.of L7) := ctx_cons (ctx_cons (ctx_nil _) s142) s141
/-- How two keys compare. -/
def cmpK (a b : Int × Int) : Int := if cmpI a.1 b.1 = 0 then cmpI a.2 b.2 else cmpI a.1 b.1
theorem order131 {a b : Int × Int} {m : Mem} {K : KV} (h : ∀ m', m.Grew m' → K (.int .i64 (cmpK a b)) m') : ACalls Tryz.prog 131 [.agg [.int .i64 a.1, .int .i64 a.2], .agg [.int .i64 b.1, .int .i64 b.2]] m K := by
  refine run_on x7 hm c131 (by simp) fun hf => ?_
  have g := ((Mem.Grew.new m (.row 2 [[.int .i64 a.1, .int .i64 a.2]] true)).trans (Mem.Grew.new _ (.row 2 [[.int .i64 b.1, .int .i64 b.2]] true))).trans (Mem.Grew.new _ (.row 1 [[.int .i64 (cmpI a.1 b.1)], [.int .i64 (cmpI a.2 b.2)]] true))
  unfold cmpK at h
  by_cases h1 : cmpI a.1 b.1 = 0
  · rw [if_pos h1] at h
    simp (disch := omega) [-getElem?_pos, b131]
    refine drawT_one ⟨_, _, by simp (disch := omega) [-getElem?_pos, F142, F141, List.range_succ, h1]; exact ⟨rfl, rfl⟩, ?_⟩
    simp (disch := omega) [-getElem?_pos]
    rw [h1] at g
    exact h _ g
  · rw [if_neg h1] at h
    simp (disch := omega) [-getElem?_pos, b131]
    refine drawT_one ⟨_, _, by simp (disch := omega) [-getElem?_pos, F142, F141, List.range_succ, h1]; exact ⟨rfl, rfl⟩, ?_⟩
    simp (disch := omega) [-getElem?_pos]
    exact h _ g
/-- Down to where a key is to hang. -/
inductive DescTo (f : Nat → Nd) (k : Int × Int) : Nat → Nat → Nat → Bool → Nat → Bool → Prop where
  | stop (u : Nat) (s : Bool) : DescTo f k 0 0 u s u s
  | step (n y u : Nat) (s : Bool) (u' : Nat) (s' : Bool) : y ≠ 0 → DescTo f k n (ch (f y) (decide (0 ≤ cmpK k ((f y).tm, (f y).sq)))) y (decide (0 ≤ cmpK k ((f y).tm, (f y).sq))) u' s' → DescTo f k (n + 1) y u s u' s'
/-- A free place is taken. -/
def Tr.place (T : Tr) : Nat × Tr :=
  if T.free ≠ 0 then (T.free, { T with free := (T.f T.free).lf })
  else if 64 < T.len then (0, T) else (T.len, { T with f := upN T.f T.len (fun _ => Nd.zero), len := T.len + 1 })
section
variable {m m' : Mem} {τ ν : Nat} {T : Tr}
theorem Tm.both (h : Tm m τ ν T) {T' : Tr} (hb : Bd T') : Tm ((m.upd ν (some (.row 8 (tab T'.f) true))).upd τ (some (.row 5 [tcs ν T'] true))) τ ν T' ∧ Stp m ((m.upd ν (some (.row 8 (tab T'.f) true))).upd τ (some (.row 5 [tcs ν T'] true))) [τ, ν] [τ, ν] :=
  ⟨⟨by simp; exact h.lt1, by simp; exact h.lt2, h.ne, by simp, by rw [updO _ h.ne.symm]; simp, hb⟩, (Stp.upd _ (by simp) _).trans (Stp.upd _ (by simp) _)⟩
theorem tab_at (f : Nat → Nd) {x : Nat} (h : x < 65) (n : Nd) : (tab f).take x ++ n.cs :: (tab f).drop (x + 1) = tab (upN f x (fun _ => n)) := by
  rw [← tab_mod f h, List.set_eq_take_append_cons_drop, if_pos (by rw [tab_len]; exact h)]
theorem place129 (h : Tm m τ ν T) {K : KV} (hk : ∀ m', Tm m' τ ν T.place.2 → Stp m m' [τ, ν] [τ, ν] → K (.int .i64 T.place.1) m') : ACalls Tryz.prog 129 [.ptr (some (τ, 0, 0))] m K := by
  refine run_on (ctx_nil _) hm c129 (by simp) fun hf => ?_
  have ot := h.ot
  have ol := h.ol
  have hl := h.bd.hi
  have hlo := h.bd.lo
  have hne := h.ne
  have hlt := h.lt1
  have hlt2 := h.lt2
  have hfr := h.bd.free
  unfold Tr.place at hk
  by_cases h1 : T.free = 0
  · rw [if_neg (by omega)] at hk
    by_cases h2 : 64 < T.len
    · rw [if_pos h2] at hk
      simp (disch := omega) [-getElem?_pos, b129, ot, ol, h1]
      exact hk _ h (Stp.refl _ _)
    · rw [if_neg h2] at hk
      have hb : Bd { T with f := upN T.f T.len (fun _ => Nd.zero), len := T.len + 1 } := by
        refine ⟨by show 1 ≤ T.len + 1; omega, by show T.len + 1 ≤ 65; omega, by show T.root < T.len + 1; have := h.bd.root; omega, by show T.free < T.len + 1; omega, fun i hi => ?_⟩
        show (upN T.f T.len (fun _ => Nd.zero) i).lf < T.len + 1 ∧ (upN T.f T.len (fun _ => Nd.zero) i).rt < T.len + 1 ∧ (upN T.f T.len (fun _ => Nd.zero) i).up < T.len + 1
        unfold upN
        split
        · exact ⟨by simp [Nd.zero], by simp [Nd.zero], by simp [Nd.zero]⟩
        · have hi2 : i < T.len + 1 := hi
          have := h.bd.nd i (by omega)
          omega
      simp (disch := omega) [-getElem?_pos, b129, ot, ol, h1, eltsOf, Mem.elts, List.range_succ, appendX, tab_len, splice]
      have e := tab_at T.f (x := T.len) (by omega) Nd.zero
      simp only [Nd.cs, Nd.zero, Int.natCast_zero] at e
      rw [e]
      obtain ⟨d1, d2⟩ := (h.grow (Mem.Grew.new m (.row 8 [[.int .i64 0, .int .i64 0, .int .i64 0, .int .i64 0, .int .i64 0, .bool false, .bool false, .int .i64 0]] true))).both hb
      have d3 := (Stp.grow (Mem.Grew.new m (.row 8 [[.int .i64 0, .int .i64 0, .int .i64 0, .int .i64 0, .int .i64 0, .bool false, .bool false, .int .i64 0]] true)) [τ, ν]).trans d2
      simp only [tcs, h1, Int.natCast_zero, Int.natCast_add] at d1 d3 hk
      exact hk _ d1 d3
  · rw [if_pos h1] at hk
    simp (disch := omega) [-getElem?_pos, b129, ot, ol, h1, tab_get, splice]
    obtain ⟨d1, d2⟩ := h.head (T' := { T with free := (T.f T.free).lf }) rfl ⟨h.bd.lo, h.bd.hi, h.bd.root, (h.bd.nd _ hfr).1, h.bd.nd⟩
    exact hk _ d1 d2
end
set_option maxHeartbeats 16000000
/-- A new node. -/
def ndNew (k : Int × Int) (n : Nd) : Nd := ⟨k.1, k.2, 0, 0, 0, true, true, IntKind.i64.wrap (n.tn + 1)⟩
def Tr.fresh (T : Tr) (x : Nat) (k : Int × Int) : Tr := { T with f := upN T.f x (ndNew k), n := IntKind.i64.wrap (T.n + 1) }
/-- It hangs where it is to. -/
def Tr.hook (T : Tr) (x u : Nat) (s : Bool) : Tr := if u = 0 then (T.mod x (sU u)).rt x else (T.mod x (sU u)).mod u (sCh s x)
theorem Bd.fresh {T : Tr} (h : Bd T) (x : Nat) (k : Int × Int) : Bd (T.fresh x k) := by
  have hlo := h.lo
  have := h.mod x (g := ndNew k) fun n _ => ⟨by show 0 < T.len; omega, by show 0 < T.len; omega, by show 0 < T.len; omega⟩
  exact ⟨this.lo, this.hi, this.root, this.free, this.nd⟩
theorem Bd.hook {T : Tr} (h : Bd T) {x u : Nat} (hx : x < T.len) (hu : u < T.len) (s : Bool) : Bd (T.hook x u s) := by
  unfold Tr.hook
  split
  · exact (h.mU x hu).mrt hx
  · exact (h.mU x hu).mCh u s hx
theorem DescTo.lt {T : Tr} (h : Bd T) {k : Int × Int} {n y u u' : Nat} {s s' : Bool} (hD : DescTo T.f k n y u s u' s') (hy : y < T.len) (hu : u < T.len) : u' < T.len := by
  induction hD with
  | stop u s => exact hu
  | step n y u s u' s' h1 _ ih => exact ih (h.chd hy _) hy
theorem place_lt {T : Tr} (h : Bd T) : T.place.1 < T.place.2.len := by
  unfold Tr.place
  split
  · exact h.free
  · split
    · exact h.lo
    · show T.len < T.len + 1; omega
theorem MendTo.len {n : Nat} {T T' : Tr} {x : Nat} (h : MendTo n T x T') : T'.len = T.len := by
  induction h with
  | stop => rfl
  | uncle n T T' x u o w s _ _ _ _ _ _ _ ih => exact ih
  | outer n T T' x u o w s _ _ _ _ _ _ _ _ ih => rw [ih, Bd.len_turn]; rfl
  | inner n T T' x u o w s _ _ _ _ _ _ _ _ ih => rw [ih, Bd.len_turn]; exact Bd.len_turn T u s
theorem FillTo.len {n : Nat} {T T' : Tr} {x : Nat} (h : FillTo n T x T') : T'.len = T.len := by
  induction h with
  | stop => rfl
  | redw n T T' x u w s _ _ _ _ _ _ _ ih => rw [ih, Bd.len_turn]; rfl
  | both n T T' x u w a b s _ _ _ _ _ _ _ _ _ _ _ ih => exact ih
  | near n T T' x u w a b w2 b2 s _ _ _ _ _ _ _ _ _ _ _ _ _ ih => rw [ih, Bd.len_turn]; exact Bd.len_turn _ w (!s)
  | far n T T' x u w a b s _ _ _ _ _ _ _ _ _ _ ih => rw [ih, Bd.len_turn]; rfl
section
variable {m m' : Mem} {τ ν : Nat} {T : Tr}
theorem put107 (h : Tm m τ ν T) {k : Int × Int} {x n1 n2 u : Nat} {s : Bool} {T' : Tr} (hx0 : T.place.1 = x) (h0 : x ≠ 0) (hD : DescTo (T.place.2.fresh x k).f k n1 T.place.2.root 0 false u s) (hM : MendTo n2 ((T.place.2.fresh x k).hook x u s) x T') {K : KV}
    (hk : ∀ m', Tm m' τ ν T' → Stp m m' [τ, ν] [τ, ν] → K (.tup [.agg [.int .i64 x, .int .i64 (T'.f x).tn], .int .i64 0]) m') : ACalls Tryz.prog 107 [.ptr (some (τ, 0, 0)), .agg [.int .i64 k.1, .int .i64 k.2]] m K := by
  refine run_on (ctx_nil _) hm c107 (by simp) fun hf => ?_
  have hlt := h.lt1
  have hlt2 := h.lt2
  have hne := h.ne
  have g1 := (Mem.Grew.new m (.row 2 [[.int .i64 k.1, .int .i64 k.2]] true)).trans (Mem.Grew.new _ (.row 2 [[.int .i64 0, .int .i64 0]] true))
  have oH : ((m.new (.row 2 [[.int .i64 k.1, .int .i64 k.2]] true)).new (.row 2 [[.int .i64 0, .int .i64 0]] true)).obj (m.next + 1) = some (.row 2 [[.int .i64 0, .int .i64 0]] true) := by simp
  have oB : ((m.new (.row 2 [[.int .i64 k.1, .int .i64 k.2]] true)).new (.row 2 [[.int .i64 0, .int .i64 0]] true)).obj m.next = some (.row 2 [[.int .i64 k.1, .int .i64 k.2]] true) := by simp
  have hH : m.next + 1 < ((m.new (.row 2 [[.int .i64 k.1, .int .i64 k.2]] true)).new (.row 2 [[.int .i64 0, .int .i64 0]] true)).next := by simp
  have h1 := h.grow g1
  simp (disch := omega) [-getElem?_pos, b107]
  generalize (m.new (.row 2 [[.int .i64 k.1, .int .i64 k.2]] true)).new (.row 2 [[.int .i64 0, .int .i64 0]] true) = m1 at *
  refine place129 h1 fun m2 p1 p2 => ?_
  have hx := place_lt h.bd
  rw [hx0] at hx ⊢
  have oH2 := (p2.obj _ hH (by simp; omega)).trans oH
  have oB2 := (p2.obj m.next (by omega) (by simp; omega)).trans oB
  have hn2 := p2.next
  generalize T.place.2 = T1 at *
  have ot := p1.ot
  have ol := p1.ol
  have hl := p1.bd.hi
  obtain ⟨M2, hM2⟩ : ∃ M2, (m2.upd ν (some (.row 8 (tab (T1.fresh x k).f) true))).upd τ (some (.row 5 [[.sl (some (ν, 0, 8)) T1.len (some 65), .int .i64 T1.root, .int .i64 (IntKind.i64.wrap (T1.n + 1)), .int .i64 T1.free, .int .i64 64]] true)) = M2 := ⟨_, rfl⟩
  have q1 : Tm M2 τ ν (T1.fresh x k) := by rw [← hM2]; exact (p1.both (T' := T1.fresh x k) (p1.bd.fresh x k)).1
  have q2 : Stp m2 M2 [τ, ν] [τ, ν] := by rw [← hM2]; exact (p1.both (T' := T1.fresh x k) (p1.bd.fresh x k)).2
  have q3 : (tab T1.f).set x [.int .i64 k.1, .int .i64 k.2, .int .i64 0, .int .i64 0, .int .i64 0, .bool true, .bool true, .int .i64 (IntKind.i64.wrap ((T1.f x).tn + 1))] = tab (T1.fresh x k).f := tab_mod T1.f (by omega) (ndNew k)
  simp (disch := omega) [-getElem?_pos, ot, ol, oB2, oH2, tab_get, h0, q3, hM2, splice]
  have oB3 := (q2.obj m.next (by omega) (by simp; omega)).trans oB2
  have oH3 := (q2.obj (m.next + 1) (by omega) (by simp; omega)).trans oH2
  have hn3 := q2.next
  have hlen : (T1.fresh x k).len = T1.len := rfl
  have hroot : (T1.fresh x k).root = T1.root := rfl
  have hst := ((Stp.grow g1 [τ, ν]).trans p2).trans q2
  rw [← hlen] at hx hl
  rw [← hroot] at hD
  have ot3 := q1.ot
  clear hM2 q3 ot ol p1 p2 q2 g1 oH oB h1 oB2 oH2
  generalize T1.fresh x k = T2 at *
  simp (disch := omega) [-getElem?_pos, ot3]
  have ut := hD.lt q1.bd q1.bd.root q1.bd.lo
  refine exec_loopU (σ := Nat × Nat × Nat × Bool × Mem) (fun (_, y, u0, s0, _) => [(7, .int .i64 u0), (8, .bool s0), (9, .int .i64 y)]) (fun (_, _, _, _, M) => M) (fun (n, y, u0, s0, M) => M2.Grew M ∧ y < T2.len ∧ u0 < T2.len ∧ DescTo T2.f k n y u0 s0 u s) (fun (n, _, _, _, _) => n) (n1, T2.root, 0, false, M2) rfl
    (by dsimp only; exact ⟨Mem.Grew.refl _, q1.bd.root, q1.bd.lo, hD⟩) (by simp) ?_
  intro (n, y, u0, s0, M) ⟨a1, a2, a3, a4⟩
  have hq := q1.grow a1
  have ot := hq.ot
  have ol := hq.ol
  have oB4 := (a1.obj m.next (by omega)).trans oB3
  have oH4 := (a1.obj (m.next + 1) (by omega)).trans oH3
  have hn4 := a1.next
  cases a4 with
  | stop _ _ =>
    have hst4 := hst.trans (Stp.grow a1 [τ, ν])
    have bh := q1.bd.hook hx ut s
    by_cases hu0 : u = 0
    · have e : T2.hook x u s = (T2.mod x (sU u)).rt x := if_pos hu0
      rw [e] at hM bh
      rw [hu0] at hM bh
      have d1 := (hq.both (T' := (T2.mod x (sU 0)).rt x) bh).1
      have d2 := (hq.both (T' := (T2.mod x (sU 0)).rt x) bh).2
      simp (disch := omega) [-getElem?_pos, ot, ol, tab_get, tab_up, hu0, splice]
      have hxl : x < ((T2.mod x (sU 0)).rt x).len := hx
      have hxl2 : x < T'.len := by rw [hM.len]; exact hxl
      refine mend132 d1 hxl hM fun m6 e1 e2 => ?_
      simp (disch := omega) [-getElem?_pos]
      refine handle120 e1 hxl2 fun m7 g7 => ?_
      have h5 := d2.next
      have h6 := e2.next
      have h7 := g7.next
      have oH7 := (g7.obj (m.next + 1) (by omega)).trans ((e2.obj (m.next + 1) (by omega) (by simp; omega)).trans ((d2.obj (m.next + 1) (by omega) (by simp; omega)).trans oH4))
      rw [if_neg h0]
      simp (disch := omega) [-getElem?_pos, oH7, splice]
      have g8 := g7.trans (Mem.Grew.new m7 (.row 2 [[.int .i64 x, .int .i64 (T'.f x).tn]] true))
      have st8 := ((hst4.trans d2).trans e2).trans (Stp.grow g8 [τ, ν])
      have h8 := g8.next
      exact hk _ ((e1.grow g8).keep (by simp) fun p hp => updO _ (by have := h.lt p hp; omega)) ⟨by have := st8.next; simp; omega, fun p hp hd => by rw [updO _ (by omega)]; exact st8.obj p hp hd, fun p hp => .inl hp⟩
    · have e : T2.hook x u s = (T2.mod x (sU u)).mod u (sCh s x) := if_neg hu0
      rw [e] at hM bh
      cases s with
      | true =>
        have d1 := (hq.nodes (f := upN (upN T2.f x (sU u)) u (sR x)) bh).1
        have d2 := (hq.nodes (f := upN (upN T2.f x (sU u)) u (sR x)) bh).2
        have r1 := hq.nodes (f := upN T2.f x (sU u)) (hq.bd.mU x ut)
        simp (disch := omega) [-getElem?_pos, ot, ol, tab_get, tab_up, hu0, splice]
        refine child130 r1.1 ut true ?_
        simp (disch := omega) [-getElem?_pos, tab_get, tab_rt, splice]
        have hxl : x < ((T2.mod x (sU u)).mod u (sCh true x)).len := hx
        have hxl2 : x < T'.len := by rw [hM.len]; exact hxl
        refine mend132 d1 hxl hM fun m6 e1 e2 => ?_
        simp (disch := omega) [-getElem?_pos]
        refine handle120 e1 hxl2 fun m7 g7 => ?_
        have h5 := d2.next
        have h6 := e2.next
        have h7 := g7.next
        have oH7 := (g7.obj (m.next + 1) (by omega)).trans ((e2.obj (m.next + 1) (by omega) (by simp; omega)).trans ((d2.obj (m.next + 1) (by omega) (by simp; omega)).trans oH4))
        rw [if_neg h0]
        simp (disch := omega) [-getElem?_pos, oH7, splice]
        have g8 := g7.trans (Mem.Grew.new m7 (.row 2 [[.int .i64 x, .int .i64 (T'.f x).tn]] true))
        have st8 := ((hst4.trans d2).trans e2).trans (Stp.grow g8 [τ, ν])
        have h8 := g8.next
        exact hk _ ((e1.grow g8).keep (by simp) fun p hp => updO _ (by have := h.lt p hp; omega)) ⟨by have := st8.next; simp; omega, fun p hp hd => by rw [updO _ (by omega)]; exact st8.obj p hp hd, fun p hp => .inl hp⟩
      | false =>
        have d1 := (hq.nodes (f := upN (upN T2.f x (sU u)) u (sL x)) bh).1
        have d2 := (hq.nodes (f := upN (upN T2.f x (sU u)) u (sL x)) bh).2
        have r1 := hq.nodes (f := upN T2.f x (sU u)) (hq.bd.mU x ut)
        simp (disch := omega) [-getElem?_pos, ot, ol, tab_get, tab_up, hu0, splice]
        refine child130 r1.1 ut false ?_
        simp (disch := omega) [-getElem?_pos, tab_get, tab_lf, splice]
        have hxl : x < ((T2.mod x (sU u)).mod u (sCh false x)).len := hx
        have hxl2 : x < T'.len := by rw [hM.len]; exact hxl
        refine mend132 d1 hxl hM fun m6 e1 e2 => ?_
        simp (disch := omega) [-getElem?_pos]
        refine handle120 e1 hxl2 fun m7 g7 => ?_
        have h5 := d2.next
        have h6 := e2.next
        have h7 := g7.next
        have oH7 := (g7.obj (m.next + 1) (by omega)).trans ((e2.obj (m.next + 1) (by omega) (by simp; omega)).trans ((d2.obj (m.next + 1) (by omega) (by simp; omega)).trans oH4))
        rw [if_neg h0]
        simp (disch := omega) [-getElem?_pos, oH7, splice]
        have g8 := g7.trans (Mem.Grew.new m7 (.row 2 [[.int .i64 x, .int .i64 (T'.f x).tn]] true))
        have st8 := ((hst4.trans d2).trans e2).trans (Stp.grow g8 [τ, ν])
        have h8 := g8.next
        exact hk _ ((e1.grow g8).keep (by simp) fun p hp => updO _ (by have := h.lt p hp; omega)) ⟨by have := st8.next; simp; omega, fun p hp hd => by rw [updO _ (by omega)]; exact st8.obj p hp hd, fun p hp => .inl hp⟩
  | step n _ _ _ _ _ hy0 hD2 =>
    simp (disch := omega) [-getElem?_pos, ot, ol, oB4, tab_get, hy0]
    refine order131 (a := k) (b := ((T2.f y).tm, (T2.f y).sq)) fun M4 g4 => ?_
    have hq4 := hq.grow g4
    obtain ⟨s4, hs4⟩ : ∃ s4, decide (0 ≤ cmpK k ((T2.f y).tm, (T2.f y).sq)) = s4 := ⟨_, rfl⟩
    rw [hs4] at hD2
    have ol4 := hq4.ol
    have hc := hq4.bd.chd a2 s4
    cases s4 with
    | true =>
      have hs5 := of_decide_eq_true hs4
      simp (disch := omega) [-getElem?_pos]
      refine child130 hq4 a2 true ?_
      simp (disch := omega) [-getElem?_pos, ol4, tab_get]
      exact again_mk (n, (T2.f y).rt, y, true, M4) (by dsimp only; exact ⟨a1.trans g4, hc, a2, hD2⟩) (by dsimp only; omega) (by simp) rfl
    | false =>
      have hs5 := of_decide_eq_false hs4
      simp (disch := omega) [-getElem?_pos]
      refine child130 hq4 a2 false ?_
      simp (disch := omega) [-getElem?_pos, ol4, tab_get]
      exact again_mk (n, (T2.f y).lf, y, false, M4) (by dsimp only; exact ⟨a1.trans g4, hc, a2, hD2⟩) (by dsimp only; omega) (by simp) rfl
end
set_option maxHeartbeats 16000000
/-- A node comes to the place of another one in the tree. -/
def Tr.take (T : Tr) (z y : Nat) : Tr := ((T.mod y (sL (T.f z).lf)).mod y (sR (T.f z).rt)).mod y (sC (T.f z).red)
def Tr.hold (T : Tr) (x y : Nat) : Tr := if x = 0 then T else T.mod x (sU y)
def Tr.swap (T : Tr) (z y : Nat) : Tr := (((T.hang z y).take z y).hold ((T.hang z y).f z).lf y).hold ((T.hang z y).f z).rt y
theorem Bd.hold {T : Tr} (h : Bd T) {x y : Nat} (hy : y < T.len) : Bd (T.hold x y) := by
  unfold Tr.hold; split
  · exact h
  · exact h.mU x hy
theorem hold_len (T : Tr) (x y : Nat) : (T.hold x y).len = T.len := by unfold Tr.hold; split <;> rfl
theorem Bd.take {T : Tr} (h : Bd T) {z y : Nat} (hz : z < T.len) : Bd (T.take z y) := ((h.mL y (h.nd z hz).1).mR y (h.nd z hz).2.1).mC y _
theorem Bd.swap {T : Tr} (h : Bd T) {z y : Nat} (hz : z < T.len) (hy : y < T.len) : Bd (T.swap z y) := by
  have h1 := h.hang hz hy
  have el := Bd.len_hang T z y
  have h2 := h1.take (z := z) (y := y) (by rw [el]; exact hz)
  have h3 := h2.hold (x := ((T.hang z y).f z).lf) (y := y) (by show y < (T.hang z y).len; rw [el]; exact hy)
  exact h3.hold (by rw [hold_len]; show y < (T.hang z y).len; rw [el]; exact hy)
theorem swap_len (T : Tr) (z y : Nat) : (T.swap z y).len = T.len := by
  unfold Tr.swap; rw [hold_len, hold_len]; exact Bd.len_hang T z y
section
variable {m m' : Mem} {τ ν : Nat} {T : Tr}
theorem swap145 (h : Tm m τ ν T) {z y : Nat} (hz : z < T.len) (hy : y < T.len) {K : KV} (hk : ∀ m', Tm m' τ ν (T.swap z y) → Stp m m' [τ, ν] [τ, ν] → K (.tup []) m') : ACalls Tryz.prog 145 [.ptr (some (τ, 0, 0)), .int .i64 z, .int .i64 y] m K := by
  refine run_on (ctx_nil _) hm c145 (by simp) fun hf => ?_
  simp (disch := omega) [-getElem?_pos, b145]
  refine hang144 h hz hy fun m1 d1 d2 => ?_
  have el := Bd.len_hang T z y
  have hbs := h.bd.swap hz hy
  unfold Tr.swap at hk hbs
  have hlt := h.lt1
  have hlt2 := h.lt2
  rw [← el] at hz hy
  generalize T.hang z y = T1 at *
  have ot := d1.ot
  have ol := d1.ol
  have hl := d1.bd.hi
  have hne := d1.ne
  have hn1 := d2.next
  have hzl := (d1.bd.nd z hz).1
  have hzr := (d1.bd.nd z hz).2.1
  have h1l := d1.lt1
  have h1r := d1.lt2
  simp (disch := omega) [-getElem?_pos, ot, ol, tab_get, splice]
  refine drawT_one ⟨_, _, by simp (disch := omega) [-getElem?_pos, ot, ol, tab_get, tab_lf, tab_rt, tab_red, splice]; exact ⟨rfl, rfl⟩, ?_⟩
  have g := Mem.Grew.new m1 (.row 8 [[.int .i64 (T1.f z).tm, .int .i64 (T1.f z).sq, .int .i64 (T1.f z).lf, .int .i64 (T1.f z).rt, .int .i64 (T1.f z).up, .bool (T1.f z).red, .bool (T1.f z).tk, .int .i64 (T1.f z).tn]] true)
  have hg := d1.grow g
  have b2 := hg.bd.take (z := z) (y := y) hz
  obtain ⟨e1, e2⟩ := hg.nodes (f := (T1.take z y).f) b2
  have st2 := (d2.trans (Stp.grow g [τ, ν])).trans e2
  have hng := g.next
  obtain ⟨M2, hM2⟩ : ∃ M2, (m1.new (.row 8 [[.int .i64 (T1.f z).tm, .int .i64 (T1.f z).sq, .int .i64 (T1.f z).lf, .int .i64 (T1.f z).rt, .int .i64 (T1.f z).up, .bool (T1.f z).red, .bool (T1.f z).tk, .int .i64 (T1.f z).tn]] true)).upd ν (some (.row 8 (tab (upN (upN (upN T1.f y (sL (T1.f z).lf)) y (sR (T1.f z).rt)) y (sC (T1.f z).red))) true)) = M2 := ⟨_, rfl⟩
  have e1' : Tm M2 τ ν (T1.take z y) := by rw [← hM2]; exact e1
  have st2' : Stp m M2 [τ, ν] [τ, ν] := by rw [← hM2]; exact st2
  have ot2 := e1'.ot
  have ol2 : M2.obj ν = some (.row 8 (tab (upN (upN (upN T1.f y (sL (T1.f z).lf)) y (sR (T1.f z).rt)) y (sC (T1.f z).red))) true) := e1'.ol
  rw [hM2]
  simp (disch := omega) [-getElem?_pos, ol2, tab_get, upN_self, sL, sR, sC, List.range_succ, splice]
  have g3 := Mem.Grew.new M2 (.row 1 [[.int .i64 (T1.f z).lf], [.int .i64 (T1.f z).rt]] true)
  have oS : (M2.new (.row 1 [[.int .i64 (T1.f z).lf], [.int .i64 (T1.f z).rt]] true)).obj M2.next = some (.row 1 [[.int .i64 (T1.f z).lf], [.int .i64 (T1.f z).rt]] true) := by simp
  have hS : M2.next < (M2.new (.row 1 [[.int .i64 (T1.f z).lf], [.int .i64 (T1.f z).rt]] true)).next := by simp
  have h3 := e1'.grow g3
  have st3 := st2'.trans (Stp.grow g3 [τ, ν])
  have h2l := e1'.lt1
  have h2r := e1'.lt2
  have hlenA : (T1.take z y).len = T1.len := rfl
  have bB := h3.bd.hold (x := (T1.f z).lf) (y := y) hy
  clear e1 e2 hM2 ot2 ol2 st2 g hg b2
  generalize M2.new (.row 1 [[.int .i64 (T1.f z).lf], [.int .i64 (T1.f z).rt]] true) = M3 at *
  generalize M2.next = S at *
  generalize T1.take z y = TA at *
  have hz2 : (T1.f z).lf < TA.len := by rw [hlenA]; exact hzl
  have hz3 : (T1.f z).rt < TA.len := by rw [hlenA]; exact hzr
  have hy2 : y < TA.len := by rw [hlenA]; exact hy
  have hl2 : TA.len ≤ 65 := h3.bd.hi
  generalize (T1.f z).lf = a at *
  generalize (T1.f z).rt = b at *
  refine exec_loopU (σ := Nat × Mem) (fun (i, _) => [(52, .int .i64 i)]) (fun (_, M) => M) (fun (i, M) => i ≤ 2 ∧ Tm M τ ν (if i = 0 then TA else if i = 1 then TA.hold a y else (TA.hold a y).hold b y) ∧ M.obj S = some (.row 1 [[.int .i64 a], [.int .i64 b]] true) ∧ S < M.next ∧ Stp m M [τ, ν] [τ, ν]) (fun (i, _) => 2 - i) (0, M3) rfl
    (by dsimp only; exact ⟨by omega, h3, oS, hS, st3⟩) (by simp) ?_
  intro (i, M) ⟨a1, a2, a3, a4, a5⟩
  have hi : i = 0 ∨ i = 1 ∨ i = 2 := by omega
  rcases hi with rfl | rfl | rfl
  · rw [if_pos rfl] at a2
    have ot := a2.ot
    have ol := a2.ol
    by_cases h0 : a = 0
    · simp (disch := omega) [-getElem?_pos, a3, h0]
      exact again_mk (1, M) (by dsimp only; refine ⟨by omega, ?_, a3, a4, a5⟩; rw [if_neg (by omega), if_pos rfl]; unfold Tr.hold; rw [if_pos h0]; exact a2) (by dsimp only; omega) (by simp) rfl
    · obtain ⟨q1, q2⟩ := a2.nodes (f := upN TA.f a (sU y)) (a2.bd.mU a hy2)
      simp (disch := omega) [-getElem?_pos, a3, ot, ol, tab_get, tab_up, h0, splice]
      exact again_mk (1, _) (by dsimp only; refine ⟨by omega, ?_, by rw [if_neg (by omega)]; exact a3, a4, a5.trans q2⟩; rw [if_neg (by omega), if_pos rfl]; unfold Tr.hold; rw [if_neg h0]; exact q1) (by dsimp only; omega) (by simp) rfl
  · rw [if_neg (by omega), if_pos rfl] at a2
    have ot := a2.ot
    have ol := a2.ol
    rw [tcs, hold_len] at ot
    by_cases h0 : b = 0
    · simp (disch := omega) [-getElem?_pos, a3, h0]
      exact again_mk (2, M) (by dsimp only; refine ⟨by omega, ?_, a3, a4, a5⟩; rw [if_neg (by omega), if_neg (by omega)]; unfold Tr.hold; rw [if_pos h0]; exact a2) (by dsimp only; omega) (by simp) rfl
    · obtain ⟨q1, q2⟩ := a2.nodes (f := upN (TA.hold a y).f b (sU y)) (a2.bd.mU b (by rw [hold_len]; exact hy2))
      simp (disch := omega) [-getElem?_pos, a3, ot, ol, tab_get, tab_up, h0, splice]
      exact again_mk (2, _) (by dsimp only; refine ⟨by omega, ?_, by rw [if_neg (by omega)]; exact a3, a4, a5.trans q2⟩; rw [if_neg (by omega), if_neg (by omega)]; rw [show (TA.hold a y).hold b y = (TA.hold a y).mod b (sU y) from if_neg h0]; exact q1) (by dsimp only; omega) (by simp) rfl
  · rw [if_neg (by omega), if_neg (by omega)] at a2
    simp (disch := omega) [-getElem?_pos]
    exact hk _ a2 a5
end
end Go.Proofs.YtkcpojagecfcbaaGreatDoor
