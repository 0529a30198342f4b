/-
  A TREE: Drop, Next, New.
  A TREE: Drop, Next, New.
  A TREE, plain: what it is, where one is in it; how it is hung and turned.
  A TREE, plain: turned; its colours.
  A TREE, plain: as black on every way; it can be mended.
  A TREE, plain: it can be filled.
  A TREE, plain: a node can be cut out.
-/
import Derived.Test.YtkcpojagecfcbaaGreatDoorK31
namespace Go.Proofs.YtkcpojagecfcbaaGreatDoor
open Go Go.AM
set_option linter.unusedVariables false
set_option linter.unusedSimpArgs false
set_option maxRecDepth 60000
set_option maxHeartbeats 16000000
/-- Which place leaves its own place: the one itself, or the one that follows. -/
def HeirTo (T : Tr) (z y : Nat) : Prop := if (T.f z).lf ≠ 0 ∧ (T.f z).rt ≠ 0 then ∃ n, MostTo T.f n (T.f z).rt y else y = z
def Tr.only (T : Tr) (y : Nat) : Nat := if (T.f y).lf = 0 then (T.f y).rt else (T.f y).lf
def Tr.cut0 (T : Tr) (z y x : Nat) : Tr :=
  if y = z then T.hang y x else ((T.hang y x).swap z y).mod x (sU (if ((T.hang y x).f x).up = z then y else ((T.hang y x).f x).up))
def CutTo (T : Tr) (z : Nat) (T' : Tr) : Prop := ∃ y x, HeirTo T z y ∧ T.only y = x ∧ (if ((T.hang y x).f y).red = true then T' = T.cut0 z y x else ∃ n, FillTo n (T.cut0 z y x) x T')
theorem HeirTo.lt {T : Tr} (h : Bd T) {z y : Nat} (hz : z < T.len) (hH : HeirTo T z y) : y < T.len := by
  unfold HeirTo at hH
  split at hH
  · obtain ⟨n, hM⟩ := hH
    exact hM.lt h (h.nd z hz).2.1
  · rw [hH]; exact hz
theorem only_lt {T : Tr} (h : Bd T) {y : Nat} (hy : y < T.len) : T.only y < T.len := by
  unfold Tr.only; split
  · exact (h.nd y hy).2.1
  · exact (h.nd y hy).1
section
variable {m m' : Mem} {τ ν : Nat} {T : Tr}
def tail135_57 : St :=
 .seq
 (.region [⟨(some 57), .mov (.t 0), none⟩,
    ⟨(some 58), .mov (.t 4), none⟩,
    ⟨(some 59), .mov (.t 5), none⟩,
    ⟨(some 60), .call (.f 144) [(.t 57), (.t 58), (.t 59)], none⟩]) <|
 .seq
 (.region [⟨(some 61), .mov (.t 0), none⟩,
    ⟨(some 62), .nilck (.t 61), none⟩,
    ⟨(some 63), .faddr 0 (.t 62), none⟩,
    ⟨(some 64), .load false 1 (.t 63), none⟩,
    ⟨(some 65), .mov (.t 4), none⟩,
    ⟨(some 66), .iaddr 8 (.t 64) (.t 65), none⟩,
    ⟨(some 67), .faddr 5 (.t 66), none⟩,
    ⟨(some 68), .load false 1 (.t 67), none⟩,
    ⟨(some 69), .un .not (.t 68), none⟩,
    ⟨(some 6), .mov (.t 69), none⟩]) <|
 .seq
 (.region [⟨(some 70), .mov (.t 0), none⟩,
    ⟨(some 71), .nilck (.t 70), none⟩,
    ⟨(some 72), .faddr 0 (.t 71), none⟩,
    ⟨(some 73), .load false 1 (.t 72), none⟩,
    ⟨(some 74), .mov (.t 5), none⟩,
    ⟨(some 75), .iaddr 8 (.t 73) (.t 74), none⟩,
    ⟨(some 76), .faddr 4 (.t 75), none⟩,
    ⟨(some 77), .load false 1 (.t 76), none⟩,
    ⟨(some 7), .mov (.t 77), none⟩]) <|
 .seq
 (.seq
  (.region [⟨(some 78), .mov (.t 4), none⟩,
     ⟨(some 79), .mov (.t 1), none⟩,
     ⟨(some 80), .bin .neq (.t 78) (.t 79), none⟩]) <|
  .cond (.t 80)
   (.seq
    (.seq
     (.region [⟨(some 81), .mov (.t 7), none⟩,
        ⟨(some 82), .mov (.t 1), none⟩,
        ⟨(some 83), .bin .eql (.t 81) (.t 82), none⟩]) <|
     .cond (.t 83)
      (.region [⟨(some 84), .mov (.t 4), none⟩,
         ⟨(some 7), .mov (.t 84), none⟩])
      (.skip)) <|
    .seq
    (.region [⟨(some 85), .mov (.t 0), none⟩,
       ⟨(some 86), .mov (.t 1), none⟩,
       ⟨(some 87), .mov (.t 4), none⟩,
       ⟨(some 88), .call (.f 145) [(.t 85), (.t 86), (.t 87)], none⟩]) <|
    .region [⟨(some 89), .mov (.t 0), none⟩,
      ⟨(some 90), .nilck (.t 89), none⟩,
      ⟨(some 91), .faddr 0 (.t 90), none⟩,
      ⟨(some 92), .load false 1 (.t 91), none⟩,
      ⟨(some 93), .mov (.t 5), none⟩,
      ⟨(some 94), .mov (.t 7), none⟩,
      ⟨(some 95), .iaddr 8 (.t 92) (.t 93), none⟩,
      ⟨(some 96), .faddr 4 (.t 95), none⟩,
      ⟨none, .store 1 (.t 96) (.t 94), none⟩])
   (.skip)) <|
 .seq
 (.region [⟨(some 97), .mov (.t 6), none⟩]) <|
 .cond (.t 97)
  (.region [⟨(some 98), .mov (.t 0), none⟩,
     ⟨(some 99), .mov (.t 5), none⟩,
     ⟨(some 100), .call (.f 146) [(.t 98), (.t 99)], none⟩])
  (.skip)
def tail135_39 : St :=
 .seq
 (.region [⟨(some 39), .mov (.t 0), none⟩,
    ⟨(some 40), .nilck (.t 39), none⟩,
    ⟨(some 41), .faddr 0 (.t 40), none⟩,
    ⟨(some 42), .load false 1 (.t 41), none⟩,
    ⟨(some 43), .mov (.t 4), none⟩,
    ⟨(some 44), .iaddr 8 (.t 42) (.t 43), none⟩,
    ⟨(some 45), .faddr 2 (.t 44), none⟩,
    ⟨(some 46), .load false 1 (.t 45), none⟩,
    ⟨(some 5), .mov (.t 46), none⟩]) <|
 .seq
 (.seq
  (.region [⟨(some 47), .mov (.t 5), none⟩,
     ⟨(some 48), .bin .eql (.t 47) (.c (.int .i64 0)), none⟩]) <|
  .cond (.t 48)
   (.region [⟨(some 49), .mov (.t 0), none⟩,
      ⟨(some 50), .nilck (.t 49), none⟩,
      ⟨(some 51), .faddr 0 (.t 50), none⟩,
      ⟨(some 52), .load false 1 (.t 51), none⟩,
      ⟨(some 53), .mov (.t 4), none⟩,
      ⟨(some 54), .iaddr 8 (.t 52) (.t 53), none⟩,
      ⟨(some 55), .faddr 3 (.t 54), none⟩,
      ⟨(some 56), .load false 1 (.t 55), none⟩,
      ⟨(some 5), .mov (.t 56), none⟩])
   (.skip)) <|
 tail135_57
def b135t : IFn := ⟨
 .seq
 (.region [⟨(some 8), .mov (.t 1), none⟩,
    ⟨(some 4), .mov (.t 8), none⟩]) <|
 .seq
 (.seq
  (.region [⟨(some 9), .mov (.t 0), none⟩,
     ⟨(some 10), .nilck (.t 9), none⟩,
     ⟨(some 11), .faddr 0 (.t 10), none⟩,
     ⟨(some 12), .load false 1 (.t 11), none⟩,
     ⟨(some 13), .mov (.t 1), none⟩,
     ⟨(some 14), .iaddr 8 (.t 12) (.t 13), none⟩,
     ⟨(some 15), .faddr 2 (.t 14), none⟩,
     ⟨(some 16), .load false 1 (.t 15), none⟩,
     ⟨(some 17), .bin .neq (.t 16) (.c (.int .i64 0)), none⟩,
     ⟨(some 18), .mov (.t 17), none⟩,
     ⟨(some 19), .mov (.t 0), (some (18, true))⟩,
     ⟨(some 20), .nilck (.t 19), (some (18, true))⟩,
     ⟨(some 21), .faddr 0 (.t 20), (some (18, true))⟩,
     ⟨(some 22), .load false 1 (.t 21), (some (18, true))⟩,
     ⟨(some 23), .mov (.t 1), (some (18, true))⟩,
     ⟨(some 24), .iaddr 8 (.t 22) (.t 23), (some (18, true))⟩,
     ⟨(some 25), .faddr 3 (.t 24), (some (18, true))⟩,
     ⟨(some 26), .load false 1 (.t 25), (some (18, true))⟩,
     ⟨(some 27), .bin .neq (.t 26) (.c (.int .i64 0)), (some (18, true))⟩,
     ⟨(some 28), .pick (.t 18) (.t 27) (.c (.bool false)), none⟩]) <|
  .cond (.t 28)
   (.region [⟨(some 29), .mov (.t 0), none⟩,
      ⟨(some 30), .mov (.t 0), none⟩,
      ⟨(some 31), .nilck (.t 30), none⟩,
      ⟨(some 32), .faddr 0 (.t 31), none⟩,
      ⟨(some 33), .load false 1 (.t 32), none⟩,
      ⟨(some 34), .mov (.t 1), none⟩,
      ⟨(some 35), .iaddr 8 (.t 33) (.t 34), none⟩,
      ⟨(some 36), .faddr 3 (.t 35), none⟩,
      ⟨(some 37), .load false 1 (.t 36), none⟩,
      ⟨(some 38), .call (.f 121) [(.t 29), (.t 37)], none⟩,
      ⟨(some 4), .mov (.t 38), none⟩])
   (.skip)) <|
 tail135_39, []⟩
theorem c135t : Code1 Tryz.prog 135 101 b135t := c135
theorem tail57 (h : Tm m τ ν T) {z y x : Nat} {T' : Tr} (hz : z < T.len) (hy : y < T.len) (hx : x < T.len)
    (hF : if ((T.hang y x).f y).red = true then T' = T.cut0 z y x else ∃ n, FillTo n (T.cut0 z y x) x T') {e : Env} (h0 : e 0 = .ptr (some (τ, 0, 0))) (h1 : e 1 = .int .i64 z) (h4 : e 4 = .int .i64 y) (h5 : e 5 = .int .i64 x) {K : KX}
    (hk : ∀ e' m', Tm m' τ ν T' → Stp m m' [τ, ν] [τ, ν] → K .normal e' m') : exec (Ctx.on Tryz.prog LT) tail135_57 e m K := by
  unfold tail135_57
  simp (disch := omega) [-getElem?_pos, h0, h1, h4, h5]
  refine hang144 h hy hx fun m1 d1 d2 => ?_
  unfold Tr.cut0 at hF
  have el := Bd.len_hang T y x
  rw [← el] at hz hy hx
  generalize T.hang y x = T1 at *
  have ot := d1.ot
  have ol := d1.ol
  have hl := d1.bd.hi
  have hne := d1.ne
  simp (disch := omega) [-getElem?_pos, h0, h1, h4, h5, ot, ol, tab_get]
  by_cases e1 : y = z
  · subst e1
    rw [if_pos rfl] at hF
    by_cases hr : (T1.f y).red = true
    · rw [if_pos hr] at hF
      subst hF
      simp (disch := omega) [-getElem?_pos, h0, h1, h4, h5, hr]
      exact hk _ _ d1 d2
    · rw [if_neg hr] at hF
      have hr' : (T1.f y).red = false := by simpa using hr
      obtain ⟨n, hF⟩ := hF
      simp (disch := omega) [-getElem?_pos, h0, h1, h4, h5, hr']
      refine fill146 d1 hx hF fun m2 g1 g2 => ?_
      simp (disch := omega) [-getElem?_pos]
      exact hk _ _ g1 (d2.trans g2)
  · rw [if_neg e1] at hF
    have e1' : ¬ ((y : Int) = (z : Int)) := by omega
    obtain ⟨w, hw⟩ : ∃ w, (if (T1.f x).up = z then y else (T1.f x).up) = w := ⟨_, rfl⟩
    have hwl : w < T1.len := by rw [← hw]; split; exact hy; exact (d1.bd.nd x hx).2.2
    rw [hw] at hF
    have fin : ∀ (e' : Env) (M : Mem), e' 0 = .ptr (some (τ, 0, 0)) → e' 5 = .int .i64 x → e' 6 = .bool (!(T1.f y).red) → Tm M τ ν ((T1.swap z y).mod x (sU w)) → Stp m M [τ, ν] [τ, ν] →
        exec (Ctx.on Tryz.prog LT) (.seq (.region [⟨(some 97), .mov (.t 6), none⟩]) <|
           .cond (.t 97)
            (.region [⟨(some 98), .mov (.t 0), none⟩,
             ⟨(some 99), .mov (.t 5), none⟩,
             ⟨(some 100), .call (.f 146) [(.t 98), (.t 99)], none⟩])
            (.skip)) e' M K := by
      intro e' M k0 k5 k6 k7 k8
      have hx2 : x < ((T1.swap z y).mod x (sU w)).len := by show x < (T1.swap z y).len; rw [swap_len]; exact hx
      by_cases hr : (T1.f y).red = true
      · rw [if_pos hr] at hF
        subst hF
        simp (disch := omega) [-getElem?_pos, k0, k5, k6, hr]
        exact hk _ _ k7 k8
      · rw [if_neg hr] at hF
        have hr' : (T1.f y).red = false := by simpa using hr
        obtain ⟨n, hF⟩ := hF
        simp (disch := omega) [-getElem?_pos, k0, k5, k6, hr']
        refine fill146 k7 hx2 hF fun m2 g1 g2 => ?_
        simp (disch := omega) [-getElem?_pos]
        exact hk _ _ g1 (k8.trans g2)
    by_cases e2 : (T1.f x).up = z
    · rw [if_pos e2] at hw
      subst hw
      simp (disch := omega) [-getElem?_pos, h0, h1, h4, h5, e1, e1', e2]
      refine swap145 d1 hz hy fun m2 g1 g2 => ?_
      have ot2 := g1.ot
      have ol2 := g1.ol
      have hs := swap_len T1 z y
      rw [tcs, hs] at ot2
      obtain ⟨q1, q2⟩ := g1.nodes (f := upN (T1.swap z y).f x (sU y)) (g1.bd.mU x (by rw [hs]; exact hy))
      simp (disch := omega) [-getElem?_pos, h0, h1, h4, h5, ot2, ol2, tab_get, tab_up, splice, -exec_seq]
      exact fin _ _ (by simp [h0]) (by simp [h5]) (by simp) q1 ((d2.trans g2).trans q2)
    · rw [if_neg e2] at hw
      subst hw
      have e2' : ¬ (((T1.f x).up : Int) = (z : Int)) := by omega
      simp (disch := omega) [-getElem?_pos, h0, h1, h4, h5, e1, e1', e2, e2']
      refine swap145 d1 hz hy fun m2 g1 g2 => ?_
      have ot2 := g1.ot
      have ol2 := g1.ol
      have hs := swap_len T1 z y
      rw [tcs, hs] at ot2
      obtain ⟨q1, q2⟩ := g1.nodes (f := upN (T1.swap z y).f x (sU (T1.f x).up)) (g1.bd.mU x (by rw [hs]; exact hwl))
      simp (disch := omega) [-getElem?_pos, h0, h1, h4, h5, ot2, ol2, tab_get, tab_up, splice, -exec_seq]
      exact fin _ _ (by simp [h0]) (by simp [h5]) (by simp) q1 ((d2.trans g2).trans q2)
theorem cut135 (h : Tm m τ ν T) {z : Nat} {T' : Tr} (hz : z < T.len) (hC : CutTo T z T') {K : KV} (hk : ∀ m', Tm m' τ ν T' → Stp m m' [τ, ν] [τ, ν] → K (.tup []) m') : ACalls Tryz.prog 135 [.ptr (some (τ, 0, 0)), .int .i64 z] m K := by
  refine run_on xT hm c135t (by simp) fun hf => ?_
  have ot := h.ot
  have ol := h.ol
  have hl := h.bd.hi
  have hne := h.ne
  obtain ⟨y, x, hH, hx, hF⟩ := hC
  have hy := hH.lt h.bd hz
  have hxl : x < T.len := by rw [← hx]; exact only_lt h.bd hy
  have mid : ∀ (e : Env), e 0 = .ptr (some (τ, 0, 0)) → e 1 = .int .i64 z → e 4 = .int .i64 y → exec (Ctx.on Tryz.prog LT) tail135_39 e m (endX [] K) := by
    intro e h0 h1 h4
    have kk : ∀ (e' : Env) (m' : Mem), Tm m' τ ν T' → Stp m m' [τ, ν] [τ, ν] → endX [] K .normal e' m' := fun e' m' a b => by simp; exact hk _ a b
    unfold tail135_39
    unfold Tr.only at hx
    by_cases c : (T.f y).lf = 0
    · rw [if_pos c] at hx
      simp (disch := omega) [-getElem?_pos, ot, ol, tab_get, h0, h1, h4, c, hx]
      exact tail57 h hz hy hxl hF (by simp [h0]) (by simp [h1]) (by simp [h4]) (by simp) kk
    · rw [if_neg c] at hx
      simp (disch := omega) [-getElem?_pos, ot, ol, tab_get, h0, h1, h4, c, hx]
      exact tail57 h hz hy hxl hF (by simp [h0]) (by simp [h1]) (by simp [h4]) (by simp) kk
  unfold HeirTo at hH
  by_cases hb : (T.f z).lf ≠ 0 ∧ (T.f z).rt ≠ 0
  · rw [if_pos hb] at hH
    obtain ⟨n, hM⟩ := hH
    obtain ⟨hb1, hb2⟩ := hb
    simp (disch := omega) [-getElem?_pos, b135t, ot, ol, tab_get, hb1, hb2]
    refine most121 h (h.bd.nd z hz).2.1 hM ?_
    simp (disch := omega) [-getElem?_pos]
    exact mid _ (by simp) (by simp) (by simp)
  · rw [if_neg hb] at hH
    subst hH
    rcases Classical.em ((T.f y).lf = 0) with c | c
    · simp (disch := omega) [-getElem?_pos, b135t, ot, ol, tab_get, c]
      exact mid _ (by simp) (by simp) (by simp)
    · have c2 : (T.f y).rt = 0 := Classical.byContradiction fun q => hb ⟨c, q⟩
      simp (disch := omega) [-getElem?_pos, b135t, ot, ol, tab_get, c, c2]
      exact mid _ (by simp) (by simp) (by simp)
end
set_option maxHeartbeats 16000000
/-- A handle is one of this tree's. -/
structure Held (T : Tr) (x : Nat) : Prop where
  pos : 0 < x
  lt : x < T.len
  tk : (T.f x).tk = true
def handV (T : Tr) (x : Nat) : V := .agg (if x = 0 then [.int .i64 0, .int .i64 0] else [.int .i64 x, .int .i64 (T.f x).tn])
/-- A node is laid by. -/
def Tr.gone (T : Tr) (x : Nat) : Tr := ⟨upN (upN T.f x fun d => { Nd.zero with lf := T.free, tn := d.tn }) 0 fun _ => Nd.zero, T.len, T.root, IntKind.i64.wrap (T.n - 1), x⟩
theorem Bd.gone {T : Tr} (h : Bd T) {x : Nat} (hx : x < T.len) : Bd (T.gone x) := by
  have hlo := h.lo
  have h1 := (h.mod x (g := fun d => { Nd.zero with lf := T.free, tn := d.tn }) fun n _ => ⟨h.free, by show 0 < T.len; omega, by show 0 < T.len; omega⟩).mod 0 (g := fun _ => Nd.zero) fun n _ => ⟨by show 0 < T.len; omega, by show 0 < T.len; omega, by show 0 < T.len; omega⟩
  exact ⟨h1.lo, h1.hi, h1.root, hx, h1.nd⟩
def Tr.new : Tr := ⟨fun _ => Nd.zero, 1, 0, 0, 0⟩
theorem Bd.new : Bd Tr.new := ⟨by decide, by decide, by decide, by decide, fun i _ => ⟨Nat.one_pos, Nat.one_pos, Nat.one_pos⟩⟩
section
variable {m m' : Mem} {τ ν : Nat} {T : Tr}
theorem tab_put (f : Nat → Nd) {x : Nat} (h : x < 65) {l : List V} {g : Nd → Nd} (hl : l = (g (f x)).cs) : (tab f).set x l = tab (upN f x g) := by
  rw [hl]; exact tab_mod f h g
theorem is122 (h : Tm m τ ν T) {x : Nat} (hx : Held T x) {K : KV} (hk : ∀ m', m.Grew m' → K (.bool true) m') : ACalls Tryz.prog 122 [.ptr (some (τ, 0, 0)), .agg [.int .i64 x, .int .i64 (T.f x).tn]] m K := by
  refine run_on xT hm c122 (by simp) fun hf => ?_
  have hlt := h.lt1
  have hlt2 := h.lt2
  have hl := h.bd.hi
  have g1 := Mem.Grew.new m (.row 2 [[.int .i64 x, .int .i64 (T.f x).tn]] true)
  have oH : (m.new (.row 2 [[.int .i64 x, .int .i64 (T.f x).tn]] true)).obj m.next = some (.row 2 [[.int .i64 x, .int .i64 (T.f x).tn]] true) := by simp
  have h1 := h.grow g1
  simp (disch := omega) [-getElem?_pos, b122]
  generalize m.new (.row 2 [[.int .i64 x, .int .i64 (T.f x).tn]] true) = m1 at *
  have ot := h1.ot
  have ol := h1.ol
  obtain ⟨hx0, hxl, htk⟩ := hx
  simp (disch := omega) [-getElem?_pos, oH, ot, ol, tab_get, htk, hx0, hxl, splice]
  exact hk _ g1
theorem next95 (h : Tm m τ ν T) {x y : Nat} (hx : Held T x) (hA : AfterTo T.f x y) {K : KV} (hk : ∀ m', m.Grew m' → K (.tup [handV T y, .bool (decide (y ≠ 0))]) m') : ACalls Tryz.prog 95 [.ptr (some (τ, 0, 0)), .agg [.int .i64 x, .int .i64 (T.f x).tn]] m K := by
  refine run_on xT hm c95 (by simp) fun hf => ?_
  have hlt := h.lt1
  have hlt2 := h.lt2
  have hl := h.bd.hi
  have hy := hA.lt h.bd hx.lt
  have g1 := (Mem.Grew.new m (.row 2 [[.int .i64 x, .int .i64 (T.f x).tn]] true)).trans (Mem.Grew.new _ (.row 2 [[.int .i64 0, .int .i64 0]] true))
  have oH : ((m.new (.row 2 [[.int .i64 x, .int .i64 (T.f x).tn]] true)).new (.row 2 [[.int .i64 0, .int .i64 0]] true)).obj (m.next + 1) = some (.row 2 [[.int .i64 0, .int .i64 0]] true) := by simp
  have oB : ((m.new (.row 2 [[.int .i64 x, .int .i64 (T.f x).tn]] true)).new (.row 2 [[.int .i64 0, .int .i64 0]] true)).obj m.next = some (.row 2 [[.int .i64 x, .int .i64 (T.f x).tn]] true) := by simp
  have hH : m.next + 1 < ((m.new (.row 2 [[.int .i64 x, .int .i64 (T.f x).tn]] true)).new (.row 2 [[.int .i64 0, .int .i64 0]] true)).next := by simp
  have h1 := h.grow g1
  simp (disch := omega) [-getElem?_pos, b95]
  generalize (m.new (.row 2 [[.int .i64 x, .int .i64 (T.f x).tn]] true)).new (.row 2 [[.int .i64 0, .int .i64 0]] true) = m1 at *
  refine is122 h1 hx fun m2 g2 => ?_
  have h2 := h1.grow g2
  have oB2 := (g2.obj _ (by omega)).trans oB
  simp (disch := omega) [-getElem?_pos, oB2]
  refine after123 h2 hx.lt hA ?_
  simp (disch := omega) [-getElem?_pos]
  refine handle120 h2 hy fun m3 g3 => ?_
  have oH3 := (g3.obj _ (by have := g2.next; omega)).trans ((g2.obj _ hH).trans oH)
  have hH3 := g3.next
  have hH2 := g2.next
  have fin : ∀ o, m.Grew (m3.upd (m.next + 1) o) := fun o => ((g1.trans g2).trans g3).upd (by omega) o
  unfold handV at hk
  by_cases h0 : y = 0
  · rw [if_pos h0, decide_eq_false (by simpa using h0)] at hk ⊢
    simp (disch := omega) [-getElem?_pos, oH3, splice]
    exact hk _ (fin _)
  · rw [if_neg h0, decide_eq_true h0] at hk ⊢
    simp (disch := omega) [-getElem?_pos, oH3, splice]
    exact hk _ (fin _)
theorem drop116 (h : Tm m τ ν T) {x : Nat} {T' : Tr} (hx : Held T x) (hlen : T'.len = T.len) (htn : (T'.f x).tn = (T.f x).tn) (hC : CutTo T x T') {K : KV} (hk : ∀ m', Tm m' τ ν (T'.gone x) → Stp m m' [τ, ν] [τ, ν] → K (.int .i64 0) m') : ACalls Tryz.prog 116 [.ptr (some (τ, 0, 0)), .agg [.int .i64 x, .int .i64 (T.f x).tn]] m K := by
  refine run_on xT hm c116 (by simp) fun hf => ?_
  have hlt := h.lt1
  have hlt2 := h.lt2
  have g1 := Mem.Grew.new m (.row 2 [[.int .i64 x, .int .i64 (T.f x).tn]] true)
  have oB : (m.new (.row 2 [[.int .i64 x, .int .i64 (T.f x).tn]] true)).obj m.next = some (.row 2 [[.int .i64 x, .int .i64 (T.f x).tn]] true) := by simp
  have hB : m.next < (m.new (.row 2 [[.int .i64 x, .int .i64 (T.f x).tn]] true)).next := by simp
  have h1 := h.grow g1
  simp (disch := omega) [-getElem?_pos, b116]
  generalize m.new (.row 2 [[.int .i64 x, .int .i64 (T.f x).tn]] true) = m1 at *
  refine is122 h1 hx fun m2 g2 => ?_
  have h2 := h1.grow g2
  have oB2 := (g2.obj _ hB).trans oB
  simp (disch := omega) [-getElem?_pos, oB2]
  refine cut135 h2 hx.lt hC fun m3 e1 e2 => ?_
  have hB2 := g2.next
  have hB3 := e2.next
  have oB3 := (e2.obj m.next (by omega) (by simp; omega)).trans oB2
  have ot := e1.ot
  have ol := e1.ol
  have hl := e1.bd.hi
  have hne := e1.ne
  have hxl := hx.lt
  have s1 : (tab T'.f).set x [.int .i64 0, .int .i64 0, .int .i64 T'.free, .int .i64 0, .int .i64 0, .bool false, .bool false, .int .i64 (T.f x).tn] = tab (upN T'.f x fun d => { Nd.zero with lf := T'.free, tn := d.tn }) := tab_put _ (by omega) (by rw [← htn]; rfl)
  have s2 : (tab (upN T'.f x fun d => { Nd.zero with lf := T'.free, tn := d.tn })).set 0 [.int .i64 0, .int .i64 0, .int .i64 0, .int .i64 0, .int .i64 0, .bool false, .bool false, .int .i64 0] = tab (T'.gone x).f := tab_put _ (by omega) rfl
  have hb1 := e1.bd.gone (x := x) (by rw [hlen]; exact hxl)
  have hx65 : x < 65 := by omega
  have h065 : (0 : Nat) < 65 := by omega
  have hxl2 : x < T'.len := by omega
  have hlo := e1.bd.lo
  simp (disch := omega) [-getElem?_pos, ot, ol, oB3, tab_get, s1, s2, splice]
  have st : Stp m m3 [τ, ν] [τ, ν] := ((Stp.grow g1 _).trans (Stp.grow g2 _)).trans e2
  have u1 := e1.lt1
  have u2 := e1.lt2
  exact hk _ ⟨by simp; exact u1, by simp; exact u2, hne, by simp [tcs, Tr.gone], by rw [updO _ hne.symm]; simp, hb1⟩ ((((st.trans (Stp.upd _ (by simp) _)).trans (Stp.upd _ (by simp) _)).trans (Stp.upd _ (by simp) _)).trans (Stp.upd _ (by simp) _))
theorem new80 {K : KV} (hk : ∀ m' τ ν, m.Grew m' → m.next ≤ τ → m.next ≤ ν → Tm m' τ ν Tr.new → K (.ptr (some (τ, 0, 0))) m') : ACalls Tryz.prog 80 [.int .i64 64] m K := by
  refine run_on xT hm c80 (by simp) fun hf => ?_
  have e0 : List.replicate 65 [V.int .i64 0, .int .i64 0, .int .i64 0, .int .i64 0, .int .i64 0, .bool false, .bool false, .int .i64 0] = tab Tr.new.f := by rfl
  simp (disch := omega) [-getElem?_pos, b80, splice, -List.reduceReplicate, e0]
  exact hk _ _ m.next ((Mem.Grew.new m _).trans (Mem.Grew.new _ _)) (by omega) (by omega) ⟨by simp, by simp; omega, by omega, by simp [tcs, Tr.new], by simp, Bd.new⟩
end
end Go.Proofs.YtkcpojagecfcbaaGreatDoor
namespace Go.Proofs.YtkcpojagecfcbaaGreatDoor
open Go Go.AM
set_option linter.unusedVariables false
set_option linter.unusedSimpArgs false
inductive Bt where
  | nil
  | node (c : Bool) (l : Bt) (x : Nat) (r : Bt)
def rtP : Bt → Nat
  | .nil => 0
  | .node _ _ x _ => x
def col : Bt → Bool
  | .nil => false
  | .node c _ _ _ => c
def io : Bt → List Nat
  | .nil => []
  | .node _ l x r => io l ++ x :: io r
/-- A node whose first child hangs to this side. -/
def bt (s c : Bool) (a : Bt) (x : Nat) (b : Bt) : Bt := if s then .node c b x a else .node c a x b
def Rep (f : Nat → Nd) : Nat → Bt → Prop
  | _, .nil => True
  | u, .node c l x r => x ≠ 0 ∧ (f x).up = u ∧ (f x).red = c ∧ (f x).lf = rtP l ∧ (f x).rt = rtP r ∧ Rep f x l ∧ Rep f x r
structure Fr where
  s : Bool
  c : Bool
  p : Nat
  b : Bt
def pu : List Fr → Nat
  | [] => 0
  | F :: _ => F.p
def RepP (T : Tr) : Nat → List Fr → Prop
  | y, [] => T.root = y
  | y, F :: π => F.p ≠ 0 ∧ ch (T.f F.p) F.s = y ∧ ch (T.f F.p) (!F.s) = rtP F.b ∧ (T.f F.p).red = F.c ∧ (T.f F.p).up = pu π ∧ Rep T.f F.p F.b ∧ RepP T F.p π
def plP : List Fr → List Nat
  | [] => []
  | F :: π => F.p :: (io F.b ++ plP π)
def ioP : List Fr → List Nat → List Nat
  | [], M => M
  | F :: π, M => ioP π (if F.s then io F.b ++ F.p :: M else M ++ F.p :: io F.b)
structure Foc (T : Tr) (t : Bt) (π : List Fr) : Prop where
  rep : Rep T.f (pu π) t
  path : RepP T (rtP t) π
  nd : (io t ++ plP π).Nodup
def Fr.on (F : Fr) (t : Bt) : Bt := bt F.s F.c t F.p F.b
theorem io_bt (s c : Bool) (a : Bt) (x : Nat) (b : Bt) : io (bt s c a x b) = if s then io b ++ x :: io a else io a ++ x :: io b := by
  cases s <;> rfl
theorem io_bt_perm (s c : Bool) (a : Bt) (x : Nat) (b : Bt) : (io (bt s c a x b)).Perm (io a ++ x :: io b) := by
  cases s
  · exact List.Perm.refl _
  · show (io b ++ x :: io a).Perm _
    exact (List.perm_middle.trans (List.Perm.cons x List.perm_append_comm)).trans List.perm_middle.symm
theorem mem_bt {s c : Bool} {a : Bt} {x : Nat} {b : Bt} {z : Nat} : z ∈ io (bt s c a x b) ↔ z ∈ io a ∨ z = x ∨ z ∈ io b := by
  rw [(io_bt_perm s c a x b).mem_iff]; simp
theorem rtP_bt (s c : Bool) (a : Bt) (x : Nat) (b : Bt) : rtP (bt s c a x b) = x := by cases s <;> rfl
theorem col_bt (s c : Bool) (a : Bt) (x : Nat) (b : Bt) : col (bt s c a x b) = c := by cases s <;> rfl
theorem rep_bt {f : Nat → Nd} {u : Nat} {s c : Bool} {a : Bt} {x : Nat} {b : Bt} : Rep f u (bt s c a x b) ↔ x ≠ 0 ∧ (f x).up = u ∧ (f x).red = c ∧ ch (f x) s = rtP a ∧ ch (f x) (!s) = rtP b ∧ Rep f x a ∧ Rep f x b := by
  cases s
  · exact Iff.rfl
  · show (_ ∧ _ ∧ _ ∧ _ ∧ _ ∧ _ ∧ _) ↔ (_ ∧ _ ∧ _ ∧ _ ∧ _ ∧ _ ∧ _)
    simp only [ch]
    constructor
    · rintro ⟨h1, h2, h3, h4, h5, h6, h7⟩; exact ⟨h1, h2, h3, h5, h4, h7, h6⟩
    · rintro ⟨h1, h2, h3, h4, h5, h6, h7⟩; exact ⟨h1, h2, h3, h5, h4, h7, h6⟩
theorem rtP_mem {t : Bt} (h : rtP t ≠ 0) : rtP t ∈ io t := by
  cases t with
  | nil => exact absurd rfl h
  | node c l x r => simp [rtP, io]
theorem rep_pos {f : Nat → Nd} {u : Nat} {t : Bt} (h : Rep f u t) : ∀ z ∈ io t, z ≠ 0 := by
  induction t generalizing u with
  | nil => intro z hz; cases hz
  | node c l x r ihl ihr =>
    obtain ⟨h1, _, _, _, _, h6, h7⟩ := h
    intro z hz
    simp only [io, List.mem_append, List.mem_cons] at hz
    rcases hz with hz | rfl | hz
    · exact ihl h6 z hz
    · exact h1
    · exact ihr h7 z hz
theorem repP_pos {T : Tr} {y : Nat} {π : List Fr} (h : RepP T y π) : ∀ z ∈ plP π, z ≠ 0 := by
  induction π generalizing y with
  | nil => intro z hz; cases hz
  | cons F π ih =>
    obtain ⟨h1, _, _, _, _, h6, h7⟩ := h
    intro z hz
    simp only [plP, List.mem_append, List.mem_cons] at hz
    rcases hz with rfl | hz | hz
    · exact h1
    · exact rep_pos h6 z hz
    · exact ih h7 z hz
theorem rep_congr {f g : Nat → Nd} {u : Nat} {t : Bt} (e : ∀ x ∈ io t, g x = f x) (h : Rep f u t) : Rep g u t := by
  induction t generalizing u with
  | nil => trivial
  | node c l x r ihl ihr =>
    obtain ⟨h1, h2, h3, h4, h5, h6, h7⟩ := h
    have ex := e x (by simp [io])
    refine ⟨h1, by rw [ex]; exact h2, by rw [ex]; exact h3, by rw [ex]; exact h4, by rw [ex]; exact h5, ihl (fun z hz => e z (by simp [io, hz])) h6, ihr (fun z hz => e z (by simp [io, hz])) h7⟩
theorem repP_congr {T T' : Tr} {y : Nat} {π : List Fr} (er : T'.root = T.root) (e : ∀ x ∈ plP π, T'.f x = T.f x) (h : RepP T y π) : RepP T' y π := by
  induction π generalizing y with
  | nil => exact er.trans h
  | cons F π ih =>
    obtain ⟨h1, h2, h3, h4, h5, h6, h7⟩ := h
    have ex := e F.p (by simp [plP])
    refine ⟨h1, by rw [ex]; exact h2, by rw [ex]; exact h3, by rw [ex]; exact h4, by rw [ex]; exact h5, rep_congr (fun z hz => e z (by simp [plP, hz])) h6, ih (fun z hz => e z (by simp [plP, hz])) h7⟩
/-- Another one above it. -/
theorem rep_up {f g : Nat → Nd} {u v : Nat} {t : Bt} (hn : (io t).Nodup) (h : Rep f u t) (e0 : rtP t ≠ 0 → g (rtP t) = sU v (f (rtP t))) (e : ∀ x ∈ io t, x ≠ rtP t → g x = f x) : Rep g v t := by
  cases t with
  | nil => trivial
  | node c l x r =>
    obtain ⟨h1, h2, h3, h4, h5, h6, h7⟩ := h
    have ex : g x = sU v (f x) := e0 h1
    simp only [io, List.nodup_append, List.nodup_cons, List.mem_cons] at hn
    have hl : ∀ z ∈ io l, g z = f z := fun z hz => e z (by simp [io, hz]) fun q => hn.2.2 z hz x (.inl rfl) q
    have hr : ∀ z ∈ io r, g z = f z := fun z hz => e z (by simp [io, hz]) fun q => hn.2.1.1 ((show z = x from q) ▸ hz)
    exact ⟨h1, by rw [ex]; rfl, by rw [ex]; exact h3, by rw [ex]; exact h4, by rw [ex]; exact h5, rep_congr hl h6, rep_congr hr h7⟩
theorem foc_iff {T : Tr} {t : Bt} {F : Fr} {π : List Fr} : Foc T t (F :: π) ↔ Foc T (F.on t) π := by
  have hp : (io t ++ plP (F :: π)).Perm (io (F.on t) ++ plP π) := by
    show (io t ++ F.p :: (io F.b ++ plP π)).Perm _
    rw [← List.cons_append, ← List.append_assoc]
    exact (io_bt_perm _ _ _ _ _).symm.append_right _
  constructor
  · rintro ⟨h1, ⟨g1, g2, g3, g4, g5, g6, g7⟩, h3⟩
    refine ⟨rep_bt.2 ⟨g1, g5, g4, g2, g3, h1, g6⟩, by unfold Fr.on; rw [rtP_bt]; exact g7, hp.nodup_iff.1 h3⟩
  · rintro ⟨h1, h2, h3⟩
    obtain ⟨g1, g5, g4, g2, g3, k1, g6⟩ := rep_bt.1 h1
    unfold Fr.on at h2
    rw [rtP_bt] at h2
    exact ⟨k1, ⟨g1, g2, g3, g4, g5, g6, h2⟩, hp.nodup_iff.2 h3⟩
theorem Foc.pos {T : Tr} {t : Bt} {π : List Fr} (h : Foc T t π) : ∀ z ∈ io t ++ plP π, z ≠ 0 := by
  intro z hz
  rcases List.mem_append.1 hz with hz | hz
  · exact rep_pos h.rep z hz
  · exact repP_pos h.path z hz
/-! ### hang -/
theorem pu_mem {π : List Fr} (h : pu π ≠ 0) : pu π ∈ plP π := by
  cases π with
  | nil => exact absurd rfl h
  | cons F π => simp [pu, plP]
theorem hang_spec {T : Tr} {old x : Nat} {π : List Fr} (h : RepP T old π) (hu : (T.f old).up = pu π) (h0 : old ≠ 0) (hn : (plP π).Nodup) (ho : old ∉ plP π) (hx : x ∉ plP π) :
    RepP (T.hang old x) x π ∧ (∀ z, z ≠ x → z ≠ pu π → (T.hang old x).f z = T.f z) ∧ (T.hang old x).f x = sU (pu π) (T.f x) ∧ (pu π ≠ 0 → ∃ s, (T.hang old x).f (pu π) = sCh s x (T.f (pu π))) ∧ (π = [] → (T.hang old x).root = x ∧ ∀ z, z ≠ x → (T.hang old x).f z = T.f z) := by
  cases π with
  | nil =>
    have hu' : (T.f old).up = 0 := hu
    have e : T.hang old x = (T.rt x).mod x (sU 0) := by unfold Tr.hang; rw [if_pos hu', hu']
    rw [e]
    refine ⟨rfl, fun z hz _ => upN_ne _ _ hz, upN_self _ _ _, fun q => absurd rfl q, fun _ => ⟨rfl, fun z hz => upN_ne _ _ hz⟩⟩
  | cons F π =>
    obtain ⟨g1, g2, g3, g4, g5, g6, g7⟩ := h
    have hu' : (T.f old).up = F.p := hu
    simp only [plP, List.nodup_cons, List.mem_cons, List.mem_append, List.nodup_append, not_or] at hn ho hx
    have e : T.hang old x = (T.mod F.p (sCh F.s x)).mod x (sU F.p) := by
      unfold Tr.hang
      rw [hu', if_neg g1]
      cases hs : F.s with
      | false =>
        rw [hs] at g2
        rw [if_pos (show (T.f F.p).lf = old from g2)]; rfl
      | true =>
        rw [hs] at g3
        have g3' : (T.f F.p).lf = rtP F.b := g3
        rw [if_neg (by rw [g3']; intro q; by_cases q0 : rtP F.b = 0
                       · exact h0 (q.symm.trans q0)
                       · exact ho.2.1 (q ▸ rtP_mem q0))]; rfl
    rw [e]
    have ne : F.p ≠ x := fun q => hx.1 q.symm
    have fp : ((T.mod F.p (sCh F.s x)).mod x (sU F.p)).f F.p = sCh F.s x (T.f F.p) := by
      show upN (upN _ _ _) _ _ _ = _
      rw [upN_ne _ _ ne, upN_self]
    have fz : ∀ z, z ≠ x → z ≠ F.p → ((T.mod F.p (sCh F.s x)).mod x (sU F.p)).f z = T.f z := fun z h1 h2 => by
      show upN (upN _ _ _) _ _ _ = _
      rw [upN_ne _ _ h1, upN_ne _ _ h2]
    refine ⟨⟨g1, ?_, ?_, ?_, ?_, ?_, ?_⟩, fz, ?_, fun _ => ⟨F.s, fp⟩, fun q => by cases q⟩
    · rw [fp]; cases F.s <;> rfl
    · rw [fp]; cases hs : F.s <;> rw [hs] at g3 <;> exact g3
    · rw [fp]; cases F.s <;> exact g4
    · rw [fp]; cases F.s <;> exact g5
    · exact rep_congr (fun z hz => fz z (fun q => hx.2.1 (q ▸ hz)) (fun q => hn.1.1 (q ▸ hz))) g6
    · exact repP_congr (T := T) rfl (fun z hz => fz z (fun q => hx.2.2 (q ▸ hz)) (fun q => hn.1.2 (q ▸ hz))) g7
    · show upN (upN _ _ _) _ _ _ = _
      rw [upN_self, upN_ne _ _ (fun q => ne q.symm)]; rfl
end Go.Proofs.YtkcpojagecfcbaaGreatDoor
namespace Go.Proofs.YtkcpojagecfcbaaGreatDoor
open Go Go.AM
set_option linter.unusedVariables false
set_option linter.unusedSimpArgs false
/-- The keys and marks are as they were. -/
structure Like (T T' : Tr) : Prop where
  len : T'.len = T.len
  n : T'.n = T.n
  free : T'.free = T.free
  f : ∀ z, (T'.f z).tm = (T.f z).tm ∧ (T'.f z).sq = (T.f z).sq ∧ (T'.f z).tk = (T.f z).tk ∧ (T'.f z).tn = (T.f z).tn
theorem Like.refl (T : Tr) : Like T T := ⟨rfl, rfl, rfl, fun _ => ⟨rfl, rfl, rfl, rfl⟩⟩
theorem Like.trans {T T' T'' : Tr} (h : Like T T') (g : Like T' T'') : Like T T'' :=
  ⟨g.len.trans h.len, g.n.trans h.n, g.free.trans h.free, fun z => ⟨(g.f z).1.trans (h.f z).1, (g.f z).2.1.trans (h.f z).2.1, (g.f z).2.2.1.trans (h.f z).2.2.1, (g.f z).2.2.2.trans (h.f z).2.2.2⟩⟩
theorem Like.mod (T : Tr) (x : Nat) (g : Nd → Nd) (hg : ∀ n : Nd, (g n).tm = n.tm ∧ (g n).sq = n.sq ∧ (g n).tk = n.tk ∧ (g n).tn = n.tn) : Like T (T.mod x g) := by
  refine ⟨rfl, rfl, rfl, fun z => ?_⟩
  by_cases e : z = x
  · subst e; rw [show (T.mod z g).f z = g (T.f z) from upN_self _ _ _]; exact hg _
  · rw [show (T.mod x g).f z = T.f z from upN_ne _ _ e]; exact ⟨rfl, rfl, rfl, rfl⟩
theorem Like.mL (T : Tr) (x v : Nat) : Like T (T.mod x (sL v)) := Like.mod _ _ _ fun _ => ⟨rfl, rfl, rfl, rfl⟩
theorem Like.mR (T : Tr) (x v : Nat) : Like T (T.mod x (sR v)) := Like.mod _ _ _ fun _ => ⟨rfl, rfl, rfl, rfl⟩
theorem Like.mU (T : Tr) (x v : Nat) : Like T (T.mod x (sU v)) := Like.mod _ _ _ fun _ => ⟨rfl, rfl, rfl, rfl⟩
theorem Like.mC (T : Tr) (x : Nat) (v : Bool) : Like T (T.mod x (sC v)) := Like.mod _ _ _ fun _ => ⟨rfl, rfl, rfl, rfl⟩
theorem Like.mCh (T : Tr) (x : Nat) (s : Bool) (v : Nat) : Like T (T.mod x (sCh s v)) := Like.mod _ _ _ fun _ => by cases s <;> exact ⟨rfl, rfl, rfl, rfl⟩
theorem Like.rt (T : Tr) (x : Nat) : Like T (T.rt x) := ⟨rfl, rfl, rfl, fun _ => ⟨rfl, rfl, rfl, rfl⟩⟩
theorem Like.hang (T : Tr) (o x : Nat) : Like T (T.hang o x) := by
  unfold Tr.hang
  split
  · exact (Like.rt _ _).trans (Like.mU _ _ _)
  · split
    · exact (Like.mL _ _ _).trans (Like.mU _ _ _)
    · exact (Like.mR _ _ _).trans (Like.mU _ _ _)
theorem Like.turn (T : Tr) (x : Nat) (s : Bool) : Like T (T.turn x s) := by
  unfold Tr.turn
  dsimp only
  refine Like.trans ?_ (((Like.hang _ _ _).trans (Like.mCh _ _ _ _)).trans (Like.mU _ _ _))
  split
  · exact Like.mCh _ _ _ _
  · exact (Like.mCh _ _ _ _).trans (Like.mU _ _ _)
theorem sCh_ch (s : Bool) (v : Nat) (n : Nd) : ch (sCh s v n) s = v := by cases s <;> rfl
theorem sCh_ch' (s : Bool) (v : Nat) (n : Nd) : ch (sCh s v n) (!s) = ch n (!s) := by cases s <;> rfl
theorem sCh_ch2 (s : Bool) (v : Nat) (n : Nd) : ch (sCh (!s) v n) s = ch n s := by cases s <;> rfl
theorem sCh_up (s : Bool) (v : Nat) (n : Nd) : (sCh s v n).up = n.up := by cases s <;> rfl
theorem sCh_red (s : Bool) (v : Nat) (n : Nd) : (sCh s v n).red = n.red := by cases s <;> rfl
theorem sU_ch (s : Bool) (v : Nat) (n : Nd) : ch (sU v n) s = ch n s := by cases s <;> rfl
theorem sC_ch (s : Bool) (v : Bool) (n : Nd) : ch (sC v n) s = ch n s := by cases s <;> rfl
theorem turn_foc {T : Tr} {s cx cy : Bool} {a i b : Bt} {x y : Nat} {π : List Fr} (h : Foc T (bt s cx a x (bt s cy i y b)) π) :
    Foc (T.turn x s) (bt s cy (bt s cx a x i) y b) π ∧ (∀ z, z ∉ io (bt s cx a x (bt s cy i y b)) ++ plP π → (T.turn x s).f z = T.f z) := by
  obtain ⟨hr, hp, hn⟩ := h
  obtain ⟨x0, xu, xc, xs, xs', ra, rB⟩ := rep_bt.1 hr
  obtain ⟨y0, yu, yc, ys, ys', ri, rb⟩ := rep_bt.1 rB
  rw [rtP_bt] at hp xs'
  have hperm : (io (bt s cx a x (bt s cy i y b)) ++ plP π).Perm (io a ++ x :: (io i ++ y :: io b) ++ plP π) := (((io_bt_perm s cx a x (bt s cy i y b)).trans (((io_bt_perm s cy i y b).cons x).append_left _))).append_right _
  have hn2 := hperm.nodup_iff.1 hn
  have hperm2 : (io (bt s cy (bt s cx a x i) y b) ++ plP π).Perm (io a ++ x :: (io i ++ y :: io b) ++ plP π) := by
    refine List.Perm.append_right _ ?_
    refine (io_bt_perm s cy (bt s cx a x i) y b).trans ?_
    refine ((io_bt_perm s cx a x i).append_right _).trans ?_
    simp
  have hn3 := hperm2.nodup_iff.2 hn2
  simp only [List.nodup_append, List.nodup_cons, List.mem_append, List.mem_cons, List.append_assoc] at hn2
  have nxy : x ≠ y := by grind
  have nxp : x ∉ plP π := by grind
  have nyp : y ∉ plP π := by grind
  have npp : (plP π).Nodup := by grind
  have nxi : x ∉ io i := by grind
  have nyi : y ∉ io i := by grind
  have nxa : x ∉ io a := by grind
  have nya : y ∉ io a := by grind
  have nxb : x ∉ io b := by grind
  have nyb : y ∉ io b := by grind
  have nia : ∀ z ∈ io i, z ∉ io a := by grind
  have nib : ∀ z ∈ io i, z ∉ io b := by grind
  have nip : ∀ z ∈ io i, z ∉ plP π := by grind
  have nap : ∀ z ∈ io a, z ∉ plP π := by grind
  have nbp : ∀ z ∈ io b, z ∉ plP π := by grind
  have nii : (io i).Nodup := by grind
  clear hperm hperm2 hn2
  have hi0 : rtP i ≠ 0 → rtP i ∈ io i := rtP_mem
  obtain ⟨I, hI⟩ : ∃ I, rtP i = I := ⟨_, rfl⟩
  rw [hI] at hi0 ys
  obtain ⟨T2, hT2⟩ : ∃ T2, (if I = 0 then T.mod x (sCh (!s) I) else (T.mod x (sCh (!s) I)).mod I (sU x)) = T2 := ⟨_, rfl⟩
  have r2 : T2.root = T.root := by rw [← hT2]; split <;> rfl
  have Iz : I ≠ 0 → I ≠ x := fun q e => nxi (e ▸ hi0 q)
  have f2x : T2.f x = sCh (!s) I (T.f x) := by
    rw [← hT2]; split
    · exact upN_self _ _ _
    · rename_i q
      show upN (upN _ _ _) _ _ _ = _
      rw [upN_ne _ _ (Iz q).symm, upN_self]
  have f2i : I ≠ 0 → T2.f I = sU x (T.f I) := fun q => by
    rw [← hT2, if_neg q]
    show upN (upN _ _ _) _ _ _ = _
    rw [upN_self, upN_ne _ _ (Iz q)]
  have f2z : ∀ z, z ≠ x → (I ≠ 0 → z ≠ I) → T2.f z = T.f z := fun z h1 h2 => by
    rw [← hT2]; split
    · exact upN_ne _ _ h1
    · rename_i q
      show upN (upN _ _ _) _ _ _ = _
      rw [upN_ne _ _ (h2 q), upN_ne _ _ h1]
  have he : T.turn x s = ((T2.hang x y).mod y (sCh s x)).mod x (sU y) := by
    unfold Tr.turn
    dsimp only
    rw [xs', ys, hT2]
  have Ip : I ≠ 0 → I ∉ plP π := fun q => nip _ (hi0 q)
  have p2 : RepP T2 x π := repP_congr r2 (fun z hz => f2z z (fun q => nxp (q ▸ hz)) (fun q e => Ip q (e ▸ hz))) hp
  obtain ⟨q1, q2, q3, q4, q5⟩ := hang_spec (old := x) (x := y) p2 (by rw [f2x, sCh_up]; exact xu) x0 npp nxp nyp
  have pux : pu π ≠ x := fun e => nxp (e ▸ pu_mem (by rw [e]; exact x0))
  have puy : pu π ≠ y := fun e => nyp (e ▸ pu_mem (by rw [e]; exact y0))
  have fx : (T.turn x s).f x = sU y (sCh (!s) I (T.f x)) := by
    rw [he]; show upN (upN _ _ _) _ _ _ = _
    rw [upN_self, upN_ne _ _ nxy, q2 x nxy pux.symm, f2x]
  have yI : I ≠ 0 → y ≠ I := fun q e => nyi (e ▸ hi0 q)
  have fy : (T.turn x s).f y = sCh s x (sU (pu π) (T.f y)) := by
    rw [he]; show upN (upN _ _ _) _ _ _ = _
    rw [upN_ne _ _ nxy.symm, upN_self, q3, f2z y nxy.symm yI]
  have fz : ∀ z, z ≠ x → z ≠ y → (T.turn x s).f z = (T2.hang x y).f z := fun z h1 h2 => by
    rw [he]; show upN (upN _ _ _) _ _ _ = _
    rw [upN_ne _ _ h1, upN_ne _ _ h2]
  have fz2 : ∀ z, z ≠ x → z ≠ y → z ≠ pu π → (I ≠ 0 → z ≠ I) → (T.turn x s).f z = T.f z := fun z h1 h2 h3 h4 => by
    rw [fz z h1 h2, q2 z h2 h3, f2z z h1 h4]
  have pum : ∀ z, z ≠ 0 → z ∉ plP π → z ≠ pu π := fun z h0 h1 e => h1 (e ▸ pu_mem (e ▸ h0))
  have posa := rep_pos ra
  have posi := rep_pos ri
  have posb := rep_pos rb
  have hra : Rep (T.turn x s).f x a := rep_congr (fun z hz => fz2 z (fun q => nxa (q ▸ hz)) (fun q => nya (q ▸ hz)) (pum z (posa z hz) (nap z hz)) (fun q e => nia _ (hi0 q) (e ▸ hz))) ra
  have hrb : Rep (T.turn x s).f y b := rep_congr (fun z hz => fz2 z (fun q => nxb (q ▸ hz)) (fun q => nyb (q ▸ hz)) (pum z (posb z hz) (nbp z hz)) (fun q e => nib _ (hi0 q) (e ▸ hz))) rb
  have hri : Rep (T.turn x s).f x i := by
    refine rep_up nii ri (fun q => ?_) (fun z hz hne => ?_)
    · rw [hI] at q ⊢
      rw [fz I (Iz q) (yI q).symm, q2 I (yI q).symm (pum I q (Ip q)), f2i q]
    · rw [hI] at hne
      exact fz2 z (fun q => nxi (q ▸ hz)) (fun q => nyi (q ▸ hz)) (pum z (posi z hz) (nip z hz)) (fun _ => hne)
  refine ⟨⟨rep_bt.2 ⟨y0, ?_, ?_, ?_, ?_, rep_bt.2 ⟨x0, ?_, ?_, ?_, ?_, hra, hri⟩, hrb⟩, ?_, hn3⟩, ?_⟩
  · rw [fy, sCh_up]; rfl
  · rw [fy, sCh_red]; exact yc
  · rw [fy, sCh_ch, rtP_bt]
  · rw [fy, sCh_ch', sU_ch]; exact ys'
  · rw [fx]; rfl
  · rw [fx]; show (sCh _ _ _).red = _; rw [sCh_red]; exact xc
  · rw [fx, sU_ch, sCh_ch2]; exact xs
  · rw [fx, sU_ch, sCh_ch, hI]
  · rw [rtP_bt]
    refine repP_congr (T := T2.hang x y) (by rw [he]; rfl) (fun z hz => fz z (fun q => nxp (q ▸ hz)) (fun q => nyp (q ▸ hz))) q1
  · intro z hz
    simp only [List.mem_append, mem_bt, not_or] at hz
    obtain ⟨⟨h1, h2, h3, h4, h5⟩, h6⟩ := hz
    by_cases z0 : z = pu π
    · cases π with
      | nil =>
        rw [fz z h2 h4, (q5 rfl).2 z h4]
        exact f2z z h2 fun q e => h3 (e ▸ hi0 q)
      | cons F π => exact absurd (by rw [z0]; simp [pu, plP]) h6
    · exact fz2 z h2 h4 z0 fun q e => h3 (e ▸ hi0 q)
/-- A colour. -/
theorem rep_col {f g : Nat → Nd} {u x : Nat} {s c c' : Bool} {a b : Bt} (hn : (io (bt s c a x b)).Nodup) (h : Rep f u (bt s c a x b)) (e0 : g x = sC c' (f x)) (e : ∀ z ∈ io a ++ io b, g z = f z) : Rep g u (bt s c' a x b) := by
  obtain ⟨x0, xu, xc, xs, xs', ra, rb⟩ := rep_bt.1 h
  refine rep_bt.2 ⟨x0, ?_, ?_, ?_, ?_, rep_congr (fun z hz => e z (List.mem_append.2 (.inl hz))) ra, rep_congr (fun z hz => e z (List.mem_append.2 (.inr hz))) rb⟩
  · rw [e0]; exact xu
  · rw [e0]; rfl
  · rw [e0, sC_ch]; exact xs
  · rw [e0, sC_ch]; exact xs'
end Go.Proofs.YtkcpojagecfcbaaGreatDoor
namespace Go.Proofs.YtkcpojagecfcbaaGreatDoor
open Go Go.AM
set_option linter.unusedVariables false
set_option linter.unusedSimpArgs false
def RB : Bt → Nat → Prop
  | .nil, h => h = 0
  | .node true l _ r, h => RB l h ∧ RB r h ∧ col l = false ∧ col r = false
  | .node false l _ r, h => ∃ k, h = k + 1 ∧ RB l k ∧ RB r k
def pc : List Fr → Bool
  | [] => false
  | F :: _ => F.c
def Pth : List Fr → Nat → Prop
  | [], _ => True
  | F :: π, h => RB F.b h ∧ (F.c = true → col F.b = false ∧ π ≠ [] ∧ pc π = false) ∧ Pth π (if F.c then h else h + 1)
theorem rb_red {s : Bool} {a b : Bt} {x h : Nat} : RB (bt s true a x b) h ↔ RB a h ∧ RB b h ∧ col a = false ∧ col b = false := by
  cases s
  · exact Iff.rfl
  · show (_ ∧ _ ∧ _ ∧ _) ↔ _
    constructor
    · rintro ⟨h1, h2, h3, h4⟩; exact ⟨h2, h1, h4, h3⟩
    · rintro ⟨h1, h2, h3, h4⟩; exact ⟨h2, h1, h4, h3⟩
theorem rb_black {s : Bool} {a b : Bt} {x h : Nat} : RB (bt s false a x b) h ↔ ∃ k, h = k + 1 ∧ RB a k ∧ RB b k := by
  cases s
  · exact Iff.rfl
  · show (∃ k, _ ∧ _ ∧ _) ↔ _
    constructor
    · rintro ⟨k, h1, h2, h3⟩; exact ⟨k, h1, h3, h2⟩
    · rintro ⟨k, h1, h2, h3⟩; exact ⟨k, h1, h3, h2⟩
theorem bt_flip (s c : Bool) (a : Bt) (x : Nat) (b : Bt) : bt s c a x b = bt (!s) c b x a := by cases s <;> rfl
theorem bt_cases (t : Bt) (s : Bool) : t = .nil ∨ ∃ c a x b, t = bt s c a x b := by
  cases t with
  | nil => exact .inl rfl
  | node c l x r =>
    cases s
    · exact .inr ⟨c, l, x, r, rfl⟩
    · exact .inr ⟨c, r, x, l, rfl⟩
theorem ioP_perm (π : List Fr) (M : List Nat) : (ioP π M).Perm (M ++ plP π) := by
  induction π generalizing M with
  | nil => simp [ioP, plP]
  | cons F π ih =>
    refine (ih _).trans ?_
    show List.Perm _ (M ++ F.p :: (io F.b ++ plP π))
    rw [← List.cons_append, ← List.append_assoc]
    refine List.Perm.append_right _ ?_
    split
    · exact (List.perm_middle.trans (List.Perm.cons _ List.perm_append_comm)).trans List.perm_middle.symm
    · exact List.Perm.refl _
/-- Where nothing else is changed. -/
structure Kept (S : List Nat) (T T' : Tr) : Prop where
  like : Like T T'
  out : ∀ z, z ∉ S → T'.f z = T.f z
theorem Kept.refl (S : List Nat) (T : Tr) : Kept S T T := ⟨Like.refl _, fun _ _ => rfl⟩
theorem Kept.trans {S : List Nat} {T T' T'' : Tr} (h : Kept S T T') (g : Kept S T' T'') : Kept S T T'' := ⟨h.like.trans g.like, fun z hz => (g.out z hz).trans (h.out z hz)⟩
theorem Kept.mC {S : List Nat} {T : Tr} {x : Nat} {v : Bool} (h : x ∈ S) : Kept S T (T.mod x (sC v)) := ⟨Like.mC _ _ _, fun z hz => upN_ne _ _ fun q => hz (q ▸ h)⟩
def allp (t : Bt) (π : List Fr) : List Nat := io t ++ plP π
theorem allp_on {t : Bt} {F : Fr} {π : List Fr} {S : List Nat} : (∀ z ∈ allp t (F :: π), z ∈ S) ↔ (∀ z ∈ allp (F.on t) π, z ∈ S) := by
  unfold allp Fr.on
  simp only [List.mem_append, mem_bt, plP, List.mem_cons]
  constructor
  · rintro h z ((h1 | h1 | h1) | h1)
    · exact h z (.inl h1)
    · exact h z (.inr (.inl h1))
    · exact h z (.inr (.inr (.inl h1)))
    · exact h z (.inr (.inr (.inr h1)))
  · rintro h z (h1 | h1 | h1 | h1)
    · exact h z (.inl (.inl h1))
    · exact h z (.inl (.inr (.inl h1)))
    · exact h z (.inl (.inr (.inr h1)))
    · exact h z (.inr h1)
/-- A place in the tree, and what else is known of it. -/
structure At (S : List Nat) (T : Tr) (t : Bt) (π : List Fr) : Prop where
  foc : Foc T t π
  sub : ∀ z ∈ allp t π, z ∈ S
theorem at_iff {S : List Nat} {T : Tr} {t : Bt} {F : Fr} {π : List Fr} : At S T t (F :: π) ↔ At S T (F.on t) π :=
  ⟨fun h => ⟨foc_iff.1 h.1, allp_on.1 h.2⟩, fun h => ⟨foc_iff.2 h.1, allp_on.2 h.2⟩⟩
theorem At.up {S : List Nat} {T : Tr} {t : Bt} {s c : Bool} {p : Nat} {b : Bt} {π : List Fr} (h : At S T t (⟨s, c, p, b⟩ :: π)) : At S T (bt s c t p b) π := at_iff.1 h
theorem At.dn {S : List Nat} {T : Tr} {t : Bt} {s c : Bool} {p : Nat} {b : Bt} {π : List Fr} (h : At S T (bt s c t p b) π) : At S T t (⟨s, c, p, b⟩ :: π) := at_iff.2 h
theorem At.hue {S : List Nat} {T : Tr} {s c : Bool} {a b : Bt} {x : Nat} {π : List Fr} (h : At S T (bt s c a x b) π) (c' : Bool) : At S (T.mod x (sC c')) (bt s c' a x b) π ∧ Kept S T (T.mod x (sC c')) := by
  obtain ⟨⟨h1, h2, h3⟩, hs⟩ := h
  have e1 : io (bt s c' a x b) = io (bt s c a x b) := by rw [io_bt, io_bt]
  have hx : x ∈ io (bt s c a x b) := mem_bt.2 (.inr (.inl rfl))
  have h3' := h3
  rw [List.nodup_append] at h3
  have hp := (io_bt_perm s c a x b).nodup_iff.1 h3.1
  rw [List.nodup_append, List.nodup_cons] at hp
  refine ⟨⟨⟨rep_col h3.1 h1 (upN_self _ _ _) fun z hz => upN_ne _ _ fun q => ?_, ?_, by rw [e1]; exact h3'⟩, by unfold allp; rw [e1]; exact hs⟩, Kept.mC (hs x (List.mem_append.2 (.inl hx)))⟩
  · subst q
    rcases List.mem_append.1 hz with hz | hz
    · exact hp.2.2 z hz z (by simp) rfl
    · exact hp.2.1.1 hz
  · rw [rtP_bt] at h2 ⊢
    exact repP_congr (T := T) rfl (fun z hz => upN_ne _ _ fun q => h3.2.2 x hx z hz q.symm) h2
theorem At.turn {S : List Nat} {T : Tr} {s cx cy : Bool} {a i b : Bt} {x y : Nat} {π : List Fr} (h : At S T (bt s cx a x (bt s cy i y b)) π) : At S (T.turn x s) (bt s cy (bt s cx a x i) y b) π ∧ Kept S T (T.turn x s) := by
  obtain ⟨h1, h2⟩ := turn_foc h.foc
  refine ⟨⟨h1, fun z hz => h.sub z ?_⟩, Like.turn _ _ _, fun z hz => h2 z fun q => hz (h.sub z q)⟩
  revert hz
  simp only [allp, List.mem_append, mem_bt]
  rintro (((h | h | h) | h | h) | h) <;> simp [h]
theorem At.side {S : List Nat} {T : Tr} {t : Bt} {s c : Bool} {p : Nat} {b : Bt} {π : List Fr} (h : At S T t (⟨s, c, p, b⟩ :: π)) (h0 : rtP t ≠ 0 ∨ rtP b ≠ 0) : sideOf T p (rtP t) = s := by
  obtain ⟨⟨_, ⟨g1, g2, g3, _⟩, hn⟩, _⟩ := h
  unfold sideOf
  cases s with
  | true => exact decide_eq_true g2
  | false =>
    refine decide_eq_false fun q => ?_
    have e : rtP b = rtP t := g3.symm.trans q
    have t0 : rtP t ≠ 0 := by rcases h0 with h0 | h0; exact h0; rw [← e]; exact h0
    rw [List.nodup_append] at hn
    exact hn.2.2 (rtP t) (rtP_mem t0) (rtP t) (by simp only [plP, List.mem_cons, List.mem_append]; exact .inr (.inl (e ▸ rtP_mem (e.symm ▸ t0)))) rfl
theorem At.ne {S : List Nat} {T : Tr} {t : Bt} {s c : Bool} {p : Nat} {b : Bt} {π : List Fr} (h : At S T t (⟨s, c, p, b⟩ :: π)) (h0 : rtP t ≠ 0) : rtP b ≠ rtP t := by
  obtain ⟨⟨_, _, hn⟩, _⟩ := h
  intro e
  rw [List.nodup_append] at hn
  exact hn.2.2 (rtP t) (rtP_mem h0) (rtP t) (by simp only [plP, List.mem_cons, List.mem_append]; exact .inr (.inl (e ▸ rtP_mem (e.symm ▸ h0)))) rfl
theorem rep_red {f : Nat → Nd} {u : Nat} {t : Bt} (h : Rep f u t) (h0 : (f 0).red = false) : (f (rtP t)).red = col t := by
  cases t with
  | nil => exact h0
  | node c l x r => exact h.2.2.1
theorem rep_rup {f : Nat → Nd} {u : Nat} {t : Bt} (h : Rep f u t) (h0 : rtP t ≠ 0) : (f (rtP t)).up = u := by
  cases t with
  | nil => exact absurd rfl h0
  | node c l x r => exact h.2.1
/-- The whole of it. -/
theorem At.whole {S : List Nat} {T : Tr} {t : Bt} {π : List Fr} {h : Nat} (hA : At S T t π) (hr : RB t h) (hp : Pth π h) (h1 : pc π = true → col t = false) (h2 : π = [] → col t = false) :
    ∃ t' h', At S T t' [] ∧ RB t' h' ∧ col t' = false ∧ io t' = ioP π (io t) := by
  induction π generalizing t h with
  | nil => exact ⟨t, h, hA, hr, h2 rfl, rfl⟩
  | cons F π ih =>
    obtain ⟨s, c, p, b⟩ := F
    obtain ⟨p1, p2, p3⟩ := hp
    have hu := hA.up
    have e : ioP (⟨s, c, p, b⟩ :: π) (io t) = ioP π (io (bt s c t p b)) := by rw [io_bt]; rfl
    rw [e]
    cases c with
    | true =>
      obtain ⟨q1, q2, q3⟩ := p2 rfl
      exact ih hu (rb_red.2 ⟨hr, p1, h1 rfl, q1⟩) p3 (fun q => by rw [q3] at q; cases q) (fun q => absurd q q2)
    | false => exact ih hu (rb_black.2 ⟨h, rfl, hr, p1⟩) p3 (fun _ => col_bt _ _ _ _ _) (fun _ => col_bt _ _ _ _ _)
/-- The root is black then. -/
theorem At.root {S : List Nat} {T : Tr} {s c : Bool} {a b : Bt} {x : Nat} {h : Nat} (hA : At S T (bt s c a x b) []) (hr : RB (bt s c a x b) h) : (∃ h', At S (T.mod T.root (sC false)) (bt s false a x b) [] ∧ RB (bt s false a x b) h') ∧ Kept S T (T.mod T.root (sC false)) := by
  have e : T.root = x := by have := hA.foc.path; rw [rtP_bt] at this; exact this
  rw [e]
  obtain ⟨q1, q2⟩ := hA.hue false
  refine ⟨?_, q2⟩
  cases c with
  | true => obtain ⟨r1, r2, _⟩ := rb_red.1 hr; exact ⟨h + 1, q1, rb_black.2 ⟨h, rfl, r1, r2⟩⟩
  | false => exact ⟨h, q1, hr⟩
theorem mend_ex (S : List Nat) (h0 : 0 ∉ S) : ∀ (N : Nat) (T : Tr) (l r : Bt) (x : Nat) (π : List Fr) (h : Nat), π.length ≤ N → At S T (.node true l x r) π → RB l h → RB r h → col l = false → col r = false → Pth π h → (T.f 0).red = false →
    ∃ n T' t' h', MendTo n T x T' ∧ At S T' t' [] ∧ RB t' h' ∧ col t' = false ∧ io t' = ioP π (io (.node true l x r)) ∧ Kept S T T' := by
  intro N
  induction N using Nat.strongRecOn with
  | ind N ih =>
  intro T l r x π h hN hA hl hr cl cr hp hz
  have xr : RB (bt false true l x r) h := rb_red.2 ⟨hl, hr, cl, cr⟩
  have x0 : x ≠ 0 := hA.foc.rep.1
  have xup : (T.f x).up = pu π := hA.foc.rep.2.1
  rcases π with _ | ⟨⟨s1, c1, u, b⟩, π⟩
  · have xup : (T.f x).up = 0 := xup
    obtain ⟨⟨h', q1, q2⟩, q3⟩ := hA.root (s := false) xr
    exact ⟨0, _, _, h', .stop T x (by rw [xup]; exact hz), q1, q2, rfl, rfl, q3⟩
  have xup : (T.f x).up = u := xup
  have ured : (T.f u).red = c1 := hA.foc.path.2.2.2.1
  cases c1 with
  | false =>
    obtain ⟨t', h', w1, w2, w3, w4⟩ := hA.whole xr hp (fun q => by cases q) (fun q => by cases q)
    rcases bt_cases t' false with e | ⟨c, a, y, b', e⟩
    · have := (ioP_perm (⟨s1, false, u, b⟩ :: π) (io (.node true l x r))).symm.mem_iff.1 (show x ∈ _ by simp [io])
      rw [← w4, e] at this; cases this
    · subst e
      have hc : c = false := w3
      subst hc
      obtain ⟨⟨h'', q1, q2⟩, q3⟩ := w1.root w2
      exact ⟨0, _, _, h'', .stop T x (by rw [xup]; exact ured), q1, q2, rfl, w4, q3⟩
  | true =>
  obtain ⟨p1, p2, p3⟩ := hp
  obtain ⟨cb, pne, pcc⟩ := p2 rfl
  have p1 : RB b h := p1
  have cb : col b = false := cb
  rcases π with _ | ⟨⟨s2, c2, o, w⟩, π⟩
  · exact absurd rfl pne
  have pcc : c2 = false := pcc
  subst pcc
  obtain ⟨g1, -, g3⟩ := p3
  have g1 : RB w h := g1
  have g3 : Pth π (h + 1) := g3
  have hA1 : At S T (bt s1 true (.node true l x r) u b) (⟨s2, false, o, w⟩ :: π) := hA.up
  have u0 : u ≠ 0 := hA.foc.path.1
  have uup : (T.f u).up = o := by have := rep_rup hA1.foc.rep (by rw [rtP_bt]; exact u0); rw [rtP_bt] at this; exact this
  have hsd : sideOf T o u = s2 := by have := hA1.side (.inl (by rw [rtP_bt]; exact u0)); rw [rtP_bt] at this; exact this
  have hw : ch (T.f o) (!s2) = rtP w := hA1.foc.path.2.2.1
  have hwr : (T.f (rtP w)).red = col w := rep_red hA1.foc.path.2.2.2.2.2.1 hz
  have hub : ch (T.f u) (!s1) = rtP b := hA.foc.path.2.2.1
  have hxb : rtP b ≠ x := hA.ne x0
  have hux : ch (T.f u) s1 = x := hA.foc.path.2.1
  have eio : ioP (⟨s1, true, u, b⟩ :: ⟨s2, false, o, w⟩ :: π) (io (.node true l x r)) = ioP π (io (bt s2 false (bt s1 true (.node true l x r) u b) o w)) := by rw [io_bt, io_bt]; rfl
  rw [eio]
  cases hcw : col w with
  | true =>
    rcases bt_cases w false with e | ⟨c, wl, wx, wr, e⟩
    · rw [e] at hcw; cases hcw
    subst e
    have hc : c = true := hcw
    subst hc
    obtain ⟨a1, k1⟩ := hA1.hue false
    have a2 := a1.up
    rw [bt_flip] at a2
    obtain ⟨a3, k2⟩ := a2.dn.hue false
    obtain ⟨a4, k3⟩ := a3.up.hue true
    obtain ⟨wl1, wl2, wl3, wl4⟩ := rb_red.1 g1
    have kk := (k1.trans k2).trans k3
    have hz3 : ((T.red3 u wx o).f 0).red = false := by rw [show (T.red3 u wx o).f 0 = T.f 0 from kk.out 0 h0]; exact hz
    have r1 : RB (bt s1 false (.node true l x r) u b) (h + 1) := rb_black.2 ⟨h, rfl, xr, p1⟩
    have r2 : RB (bt false false wl wx wr) (h + 1) := rb_black.2 ⟨h, rfl, wl1, wl2⟩
    have fin : ∃ n T' t' h', MendTo n (T.red3 u wx o) o T' ∧ At S T' t' [] ∧ RB t' h' ∧ col t' = false ∧ io t' = ioP π (io (bt (!s2) true (bt false false wl wx wr) o (bt s1 false (.node true l x r) u b))) ∧ Kept S (T.red3 u wx o) T' := by
      cases s2 with
      | true => exact ih π.length (by simp at hN; omega) _ _ _ o π (h + 1) (Nat.le_refl _) a4 r2 r1 rfl (col_bt _ _ _ _ _) g3 hz3
      | false => exact ih π.length (by simp at hN; omega) _ _ _ o π (h + 1) (Nat.le_refl _) a4 r1 r2 (col_bt _ _ _ _ _) rfl g3 hz3
    obtain ⟨n, T', t', h', f1, f2, f3, f4, f5, f6⟩ := fin
    refine ⟨n + 1, T', t', h', .uncle n T T' x u o wx s2 xup ured uup hsd hw hwr f1, f2, f3, f4, ?_, kk.trans f6⟩
    rw [f5, ← bt_flip]
    simp only [io_bt]
  | false =>
    rw [hcw] at hwr
    by_cases hs : s1 = s2
    · subst hs
      obtain ⟨a1, k1⟩ := hA1.hue false
      obtain ⟨a2, k2⟩ := a1.up.hue true
      have a3 : At S (T.red2 u o) (bt (!s1) true w o (bt (!s1) false b u (.node true l x r))) π := by
        rw [bt_flip s1, bt_flip s1] at a2; exact a2
      obtain ⟨a4, k3⟩ := a3.turn
      rw [bt_flip] at a4
      have kk := (k1.trans k2).trans k3
      have hz3 : (((T.red2 u o).turn o (!s1)).f 0).red = false := by rw [kk.out 0 h0]; exact hz
      rw [Bool.not_not] at a4
      obtain ⟨n, T', t', h', f1, f2, f3, f4, f5, f6⟩ := ih (π.length + 1) (by simp at hN; omega) _ _ _ x (⟨s1, false, u, bt (!s1) true w o b⟩ :: π) h (by simp) a4.dn hl hr cl cr
        ⟨rb_red.2 ⟨g1, p1, hcw, cb⟩, fun q => (by cases q), g3⟩ hz3
      refine ⟨n + 1, T', t', h', .outer n T T' x u o (rtP w) s1 xup ured uup hsd hw hwr (by rw [hub]; exact hxb) f1, f2, f3, f4, ?_, kk.trans f6⟩
      rw [f5]
      show ioP π _ = ioP π _
      congr 1
      cases s1 <;> simp [io_bt]
    · have hs' : s1 = !s2 := by cases s1 <;> cases s2 <;> simp_all
      subst hs'
      rw [Bool.not_not] at hub
      obtain ⟨i, j, eX⟩ : ∃ i j, Bt.node true l x r = bt s2 true i x j := by
        cases s2
        · exact ⟨l, r, rfl⟩
        · exact ⟨r, l, rfl⟩
      have xr2 : RB (bt s2 true i x j) h := eX ▸ xr
      obtain ⟨i1, j1, ci, cj⟩ := rb_red.1 xr2
      rw [eX, bt_flip, Bool.not_not] at hA1
      obtain ⟨a1, k1⟩ := hA1.turn
      obtain ⟨a2, k2⟩ := a1.hue false
      obtain ⟨a3, k3⟩ := a2.up.hue true
      rw [bt_flip s2, bt_flip s2 false] at a3
      obtain ⟨a4, k4⟩ := a3.turn
      rw [bt_flip] at a4
      rw [Bool.not_not] at a4
      have kk := ((k1.trans k2).trans k3).trans k4
      have hz3 : ((((T.turn u s2).red2 x o).turn o (!s2)).f 0).red = false := by rw [show (((T.turn u s2).red2 x o).turn o (!s2)).f 0 = T.f 0 from kk.out 0 h0]; exact hz
      have fin : ∃ n T' t' h', MendTo n (((T.turn u s2).red2 x o).turn o (!s2)) u T' ∧ At S T' t' [] ∧ RB t' h' ∧ col t' = false ∧ io t' = ioP (⟨s2, false, x, bt (!s2) true w o j⟩ :: π) (io (bt s2 true b u i)) ∧ Kept S (((T.turn u s2).red2 x o).turn o (!s2)) T' := by
        have pp : Pth (⟨s2, false, x, bt (!s2) true w o j⟩ :: π) h := ⟨rb_red.2 ⟨g1, j1, hcw, cj⟩, fun q => (by cases q), g3⟩
        cases s2 with
        | true => exact ih (π.length + 1) (by simp at hN; omega) _ _ _ u _ h (by simp) a4.dn i1 p1 ci cb pp hz3
        | false => exact ih (π.length + 1) (by simp at hN; omega) _ _ _ u _ h (by simp) a4.dn p1 i1 cb ci pp hz3
      obtain ⟨n, T', t', h', f1, f2, f3, f4, f5, f6⟩ := fin
      refine ⟨n + 1, T', t', h', .inner n T T' x u o (rtP w) s2 xup ured uup hsd hw hwr hux f1, f2, f3, f4, ?_, kk.trans f6⟩
      rw [f5, eX]
      show ioP π _ = ioP π _
      congr 1
      cases s2 <;> simp [io_bt]
end Go.Proofs.YtkcpojagecfcbaaGreatDoor
namespace Go.Proofs.YtkcpojagecfcbaaGreatDoor
open Go Go.AM
set_option linter.unusedVariables false
set_option linter.unusedSimpArgs false
theorem sC_self (n : Nd) (h : n.red = false) : sC false n = n := by
  cases n; simp only [sC] at *; simp_all
theorem RepP.root {T : Tr} {y : Nat} {F : Fr} {π : List Fr} (h : RepP T y (F :: π)) : T.root ∈ plP (F :: π) := by
  induction π generalizing y F with
  | nil => have := h.2.2.2.2.2.2; simp only [plP, List.mem_cons]; exact .inl this
  | cons G π ih =>
    have := ih h.2.2.2.2.2.2
    simp only [plP, List.mem_cons, List.mem_append] at this ⊢
    exact .inr (.inr this)
theorem At.notRoot {S : List Nat} {T : Tr} {t : Bt} {F : Fr} {π : List Fr} (h : At S T t (F :: π)) : rtP t ≠ T.root := by
  intro e
  have hm := h.foc.path.root
  have h0 := repP_pos h.foc.path _ hm
  have hn := h.foc.nd
  rw [List.nodup_append] at hn
  exact hn.2.2 _ (rtP_mem (e ▸ h0)) _ hm e
theorem ioP_bt (s c : Bool) (u : Nat) (b : Bt) (π : List Fr) (t : Bt) : ioP (⟨s, c, u, b⟩ :: π) (io t) = ioP π (io (bt s c t u b)) := by rw [io_bt]; rfl
/-- What filling is to bring. -/
def FillE (S : List Nat) (T : Tr) (x : Nat) (L : List Nat) : Prop :=
  ∃ n T' t' h', FillTo n T x T' ∧ At S T' t' [] ∧ RB t' h' ∧ col t' = false ∧ io t' = L ∧ Kept S T T'
theorem stop_fin {S : List Nat} {T : Tr} {s c : Bool} {a b : Bt} {x : Nat} {π : List Fr} {k : Nat} (hA : At S T (bt s c a x b) π) (ha : RB a k) (hb : RB b k) (hp : Pth π (k + 1)) (hx : x = T.root ∨ (T.f x).red = true) :
    FillE S T x (ioP π (io (bt s c a x b))) := by
  obtain ⟨q1, q2⟩ := hA.hue false
  obtain ⟨t', h', w1, w2, w3, w4⟩ := q1.whole (rb_black.2 ⟨k, rfl, ha, hb⟩) hp (fun _ => col_bt _ _ _ _ _) (fun _ => col_bt _ _ _ _ _)
  exact ⟨0, _, t', h', .stop T x hx, w1, w2, w3, by rw [w4, io_bt, io_bt], q2⟩
theorem root_fin {S : List Nat} {T : Tr} {t : Bt} {π : List Fr} {h : Nat} (hA : At S T t π) (hr : RB t h) (hp : Pth π h) (h1 : pc π = true → col t = false) (h2 : π = [] → col t = false) (h0 : t ≠ .nil) :
    FillE S T T.root (ioP π (io t)) := by
  obtain ⟨t', h', w1, w2, w3, w4⟩ := hA.whole hr hp h1 h2
  rcases bt_cases t' false with e | ⟨c, a, y, b', e⟩
  · have hm := (ioP_perm π (io t)).symm.length_eq
    rw [← w4, e] at hm
    cases t with
    | nil => exact absurd rfl h0
    | node c l x r => simp [io] at hm
  · subst e
    have hc : c = false := w3
    subst hc
    obtain ⟨⟨h'', q1, q2⟩, q3⟩ := w1.root w2
    exact ⟨0, _, _, h'', .stop T _ (.inl rfl), q1, q2, rfl, w4, q3⟩
theorem FillE.step {S : List Nat} {T T1 : Tr} {x x1 : Nat} {L L1 : List Nat} (hk : Kept S T T1) (h : FillE S T1 x1 L1) (e : L1 = L) (hs : ∀ n T', FillTo n T1 x1 T' → FillTo (n + 1) T x T') : FillE S T x L := by
  obtain ⟨n, T', t', h', f1, f2, f3, f4, f5, f6⟩ := h
  exact ⟨n + 1, T', t', h', hs _ _ f1, f2, f3, f4, f5.trans e, hk.trans f6⟩
/-- The one across is black. -/
theorem fill_blk {S : List Nat} (h0 : 0 ∉ S) {T : Tr} {t : Bt} {s c : Bool} {u w : Nat} {A B : Bt} {π : List Fr} {h : Nat} (hA : At S T t (⟨s, c, u, bt s false A w B⟩ :: π)) (hup : rtP t = 0 → (T.f 0).up = u) (ht : RB t h) (ct : col t = false) (hRA : RB A h) (hRB : RB B h)
    (hc : c = true → π ≠ [] ∧ pc π = false) (hp : Pth π (if c then h + 1 else h + 2)) (hz : (T.f 0).red = false)
    (ih : c = false → ∀ (T : Tr) (t : Bt) (h : Nat), At S T t π → (rtP t = 0 → (T.f 0).up = pu π) → RB t h → Pth π (h + 1) → (T.f 0).red = false → FillE S T (rtP t) (ioP π (io t))) :
    FillE S T (rtP t) (ioP (⟨s, c, u, bt s false A w B⟩ :: π) (io t)) := by
  have w0 : rtP (bt s false A w B) ≠ 0 := by rw [rtP_bt]; exact (rep_bt.1 hA.foc.path.2.2.2.2.2.1).1
  have c1 : rtP t ≠ T.root := hA.notRoot
  have c2 : (T.f (rtP t)).red = false := by rw [rep_red hA.foc.rep hz]; exact ct
  have c3 : (T.f (rtP t)).up = u := by
    by_cases q : rtP t = 0
    · rw [q]; exact hup q
    · exact rep_rup hA.foc.rep q
  have c4 : sideOf T u (rtP t) = s := hA.side (.inr w0)
  have c5 : ch (T.f u) (!s) = w := by have := hA.foc.path.2.2.1; rw [rtP_bt] at this; exact this
  have hW : Rep T.f u (bt s false A w B) := hA.foc.path.2.2.2.2.2.1
  obtain ⟨_, _, c6, c7, c8, rA, rB⟩ := rep_bt.1 hW
  have c9 : (T.f (rtP A)).red = col A := rep_red rA hz
  have c10 : (T.f (rtP B)).red = col B := rep_red rB hz
  have ured : (T.f u).red = c := hA.foc.path.2.2.2.1
  have u0 : u ≠ 0 := hA.foc.path.1
  rw [ioP_bt]
  have hB := hA.up
  rw [bt_flip] at hB
  have hB := hB.dn
  cases hcB : col B with
  | true =>
    rw [hcB] at c10
    rcases bt_cases B s with e | ⟨cb, k, b, l, e⟩
    · rw [e] at hcB; cases hcB
    subst e
    have hcb : cb = true := by rw [col_bt] at hcB; exact hcB
    subst hcb
    rw [rtP_bt] at c8 c10
    obtain ⟨hk, hl, _, _⟩ := rb_red.1 hRB
    obtain ⟨a1, k1⟩ := hB.hue c
    obtain ⟨a2, k2⟩ := a1.up.hue false
    have a3 := a2.dn
    rw [bt_flip] at a3
    obtain ⟨a4, k3⟩ := a3.dn.hue false
    have a5 := a4.up.up
    rw [bt_flip, bt_flip _ c, Bool.not_not] at a5
    obtain ⟨a6, k4⟩ := a5.turn
    have kk := ((k1.trans k2).trans k3).trans k4
    have e3 : T.red3' u w b = ((T.mod w (sC c)).mod u (sC false)).mod b (sC false) := by unfold Tr.red3'; rw [ured]
    rw [← e3] at a6 kk
    have R1 : RB (bt s false t u A) (h + 1) := rb_black.2 ⟨h, rfl, ht, hRA⟩
    have R2 : RB (bt s false k b l) (h + 1) := rb_black.2 ⟨h, rfl, hk, hl⟩
    have hne : bt s c (bt s false t u A) w (bt s false k b l) ≠ .nil := by cases s <;> (intro q; cases q)
    have fin : FillE S ((T.red3' u w b).turn u s) ((T.red3' u w b).turn u s).root (ioP π (io (bt s c (bt s false t u A) w (bt s false k b l)))) := by
      cases c with
      | true => exact root_fin a6 (rb_red.2 ⟨R1, R2, col_bt _ _ _ _ _, col_bt _ _ _ _ _⟩) hp (fun q => by rw [(hc rfl).2] at q; cases q) (fun q => absurd q (hc rfl).1) hne
      | false => exact root_fin a6 (rb_black.2 ⟨h + 1, rfl, R1, R2⟩) hp (fun _ => col_bt _ _ _ _ _) (fun _ => col_bt _ _ _ _ _) hne
    refine FillE.step kk fin ?_ fun n T' g => .far n T T' (rtP t) u w (rtP A) b s c1 c2 c3 c4 c5 c6 c7 c8 c10 g
    congr 1
    cases s <;> simp [io_bt]
  | false =>
    rw [hcB] at c10
    cases hcA : col A with
    | false =>
      rw [hcA] at c9
      obtain ⟨a1, k1⟩ := hB.hue true
      have a2 := a1.up
      rw [bt_flip, Bool.not_not] at a2
      have R1 : RB (bt s true A w B) h := rb_red.2 ⟨hRA, hRB, hcA, hcB⟩
      have hz1 : ((T.mod w (sC true)).f 0).red = false := by rw [k1.out 0 h0]; exact hz
      have fin : FillE S (T.mod w (sC true)) u (ioP π (io (bt s c t u (bt s true A w B)))) := by
        cases c with
        | true =>
          refine stop_fin a2 ht R1 hp (.inr ?_)
          obtain ⟨_, _, q, _⟩ := rep_bt.1 a2.foc.rep
          exact q
        | false =>
          have := ih rfl _ _ (h + 1) a2 (fun q => by rw [rtP_bt] at q; exact absurd q u0) (rb_black.2 ⟨h, rfl, ht, R1⟩) hp hz1
          rw [rtP_bt] at this
          exact this
      refine FillE.step k1 fin ?_ fun n T' g => .both n T T' (rtP t) u w (rtP A) (rtP B) s c1 c2 c3 c4 c5 c6 c7 c8 c9 c10 g
      congr 1
      cases s <;> simp [io_bt]
    | true =>
      rw [hcA] at c9
      rcases bt_cases A s with e | ⟨ca, i, a, j, e⟩
      · rw [e] at hcA; cases hcA
      subst e
      have hca : ca = true := by rw [col_bt] at hcA; exact hcA
      subst hca
      rw [rtP_bt] at c7 c9
      obtain ⟨hi, hj, _, _⟩ := rb_red.1 hRA
      obtain ⟨a1, k1⟩ := hB.dn.hue false
      obtain ⟨a2, k2⟩ := a1.up.hue true
      rw [bt_flip, bt_flip s false] at a2
      obtain ⟨a3, k3⟩ := a2.turn
      have k13 := (k1.trans k2).trans k3
      rw [show (T.mod a (sC false)).mod w (sC true) = T.red2 a w from rfl] at a3 k13
      have d1 : ch (((T.red2 a w).turn w (!s)).f u) (!s) = a := by have := a3.foc.path.2.1; rw [rtP_bt] at this; exact this
      have d2 : ch (((T.red2 a w).turn w (!s)).f a) (!s) = w := by obtain ⟨_, _, _, q, _⟩ := rep_bt.1 a3.foc.rep; rw [rtP_bt] at q; exact q
      have ured3 : (((T.red2 a w).turn w (!s)).f u).red = c := a3.foc.path.2.2.2.1
      obtain ⟨a4, k4⟩ := a3.hue c
      obtain ⟨a5, k5⟩ := a4.up.hue false
      obtain ⟨a6, k6⟩ := a5.dn.dn.hue false
      have a7 := a6.up.up
      rw [bt_flip, bt_flip _ c, Bool.not_not] at a7
      obtain ⟨a8, k7⟩ := a7.turn
      have e3 : ((T.red2 a w).turn w (!s)).red3' u a w = ((((T.red2 a w).turn w (!s)).mod a (sC c)).mod u (sC false)).mod w (sC false) := by unfold Tr.red3'; rw [ured3]
      have kk := k13.trans (((k4.trans k5).trans k6).trans k7)
      rw [← e3] at a8 kk
      have R1 : RB (bt s false t u i) (h + 1) := rb_black.2 ⟨h, rfl, ht, hi⟩
      have R2 : RB (bt (!s) false B w j) (h + 1) := rb_black.2 ⟨h, rfl, hRB, hj⟩
      have hne : bt s c (bt s false t u i) a (bt (!s) false B w j) ≠ .nil := by cases s <;> (intro q; cases q)
      have fin : FillE S ((((T.red2 a w).turn w (!s)).red3' u a w).turn u s) ((((T.red2 a w).turn w (!s)).red3' u a w).turn u s).root (ioP π (io (bt s c (bt s false t u i) a (bt (!s) false B w j)))) := by
        cases c with
        | true => exact root_fin a8 (rb_red.2 ⟨R1, R2, col_bt _ _ _ _ _, col_bt _ _ _ _ _⟩) hp (fun q => by rw [(hc rfl).2] at q; cases q) (fun q => absurd q (hc rfl).1) hne
        | false => exact root_fin a8 (rb_black.2 ⟨h + 1, rfl, R1, R2⟩) hp (fun _ => col_bt _ _ _ _ _) (fun _ => col_bt _ _ _ _ _) hne
      refine FillE.step kk fin ?_ fun n T' g => .near n T T' (rtP t) u w a (rtP B) a w s c1 c2 c3 c4 c5 c6 c7 c8 c9 c10 d1 d2 g
      congr 1
      cases s <;> simp [io_bt]
theorem fill_root {S : List Nat} {T : Tr} {t : Bt} {h : Nat} (hA : At S T t []) (hr : RB t h) (hz : (T.f 0).red = false) : FillE S T (rtP t) (io t) := by
  cases t with
  | nil =>
    refine ⟨0, T.mod 0 (sC false), .nil, 0, .stop T 0 (.inl (show 0 = T.root from (hA.foc.path : T.root = 0).symm)), ?_, rfl, rfl, rfl, ?_⟩
    · exact ⟨⟨trivial, hA.foc.path, hA.foc.nd⟩, hA.sub⟩
    · refine ⟨Like.mC _ _ _, fun z _ => ?_⟩
      by_cases e : z = 0
      · subst e; exact (upN_self _ _ _).trans (sC_self _ hz)
      · exact upN_ne _ _ e
  | node c l x r =>
    have hroot : x = T.root := (hA.foc.path : T.root = x).symm
    cases c with
    | true =>
      obtain ⟨r1, r2, _, _⟩ := rb_red (s := false) (x := x).1 hr
      exact stop_fin (s := false) (k := h) hA r1 r2 trivial (.inl hroot)
    | false =>
      obtain ⟨k, _, r1, r2⟩ := rb_black (s := false) (x := x).1 hr
      exact stop_fin (s := false) (k := k) hA r1 r2 trivial (.inl hroot)
theorem fill_ex (S : List Nat) (h0 : 0 ∉ S) : ∀ (N : Nat) (T : Tr) (t : Bt) (π : List Fr) (h : Nat), π.length ≤ N → At S T t π → (rtP t = 0 → (T.f 0).up = pu π) → RB t h → Pth π (h + 1) → (T.f 0).red = false → FillE S T (rtP t) (ioP π (io t)) := by
  intro N
  induction N with
  | zero =>
    intro T t π h hN hA hup hr hp hz
    cases π with
    | cons F π => simp at hN
    | nil => exact fill_root hA hr hz
  | succ N ih =>
    intro T t π h hN hA hup hr hp hz
    rcases π with _ | ⟨⟨s, c, u, W⟩, π⟩
    · exact fill_root hA hr hz
    cases hct : col t with
    | true =>
      rcases bt_cases t false with e | ⟨c', a, x, b, e⟩
      · rw [e] at hct; cases hct
      subst e
      have hc' : c' = true := by rw [col_bt] at hct; exact hct
      subst hc'
      obtain ⟨r1, r2, _, _⟩ := rb_red.1 hr
      obtain ⟨_, _, q, _⟩ := rep_bt.1 hA.foc.rep
      have := stop_fin hA r1 r2 hp (.inr q)
      rw [rtP_bt]
      exact this
    | false =>
    obtain ⟨p1, p2, p3⟩ := hp
    have p1 : RB W (h + 1) := p1
    have p2 : c = true → col W = false ∧ π ≠ [] ∧ pc π = false := p2
    have p3 : Pth π (if c then h + 1 else h + 1 + 1) := p3
    have hup : rtP t = 0 → (T.f 0).up = u := hup
    have hN2 : π.length ≤ N := by simp at hN; omega
    rcases bt_cases W s with e | ⟨cw, A, w, B, e⟩
    · subst e; cases p1
    subst e
    cases cw with
    | false =>
      obtain ⟨k, hk, r1, r2⟩ := rb_black.1 p1
      obtain rfl : k = h := by omega
      exact fill_blk h0 hA hup hr hct r1 r2 (fun q => (p2 q).2) p3 hz fun _ T t h a1 a2 a3 a4 a5 => ih T t π h hN2 a1 a2 a3 a4 a5
    | true =>
      cases c with
      | true => have := (p2 rfl).1; rw [col_bt] at this; cases this
      | false =>
      obtain ⟨r1, r2, cA, cB⟩ := rb_red.1 p1
      have w0 : rtP (bt s true A w B) ≠ 0 := by rw [rtP_bt]; exact (rep_bt.1 hA.foc.path.2.2.2.2.2.1).1
      have c1 : rtP t ≠ T.root := hA.notRoot
      have c2 : (T.f (rtP t)).red = false := by rw [rep_red hA.foc.rep hz]; exact hct
      have c3 : (T.f (rtP t)).up = u := by
        by_cases q : rtP t = 0
        · rw [q]; exact hup q
        · exact rep_rup hA.foc.rep q
      have c4 : sideOf T u (rtP t) = s := hA.side (.inr w0)
      have c5 : ch (T.f u) (!s) = w := by have := hA.foc.path.2.2.1; rw [rtP_bt] at this; exact this
      have hW : Rep T.f u (bt s true A w B) := hA.foc.path.2.2.2.2.2.1
      obtain ⟨_, _, c6, _⟩ := rep_bt.1 hW
      have hB := hA.up
      rw [bt_flip] at hB
      obtain ⟨a1, k1⟩ := hB.dn.hue false
      obtain ⟨a2, k2⟩ := a1.up.hue true
      rw [bt_flip, Bool.not_not] at a2
      obtain ⟨a3, k3⟩ := a2.turn
      have kk := (k1.trans k2).trans k3
      rw [show (T.mod w (sC false)).mod u (sC true) = T.red2 w u from rfl] at a3 kk
      have e0 : ((T.red2 w u).turn u s).f 0 = T.f 0 := kk.out 0 h0
      rcases bt_cases A s with e | ⟨ca, A1, a, A2, e⟩
      · subst e; cases r1
      subst e
      have hca : ca = false := by rw [col_bt] at cA; exact cA
      subst hca
      obtain ⟨k, hk, q1, q2⟩ := rb_black.1 r1
      obtain rfl : k = h := by omega
      have fin := fill_blk h0 a3.dn.dn (fun q => by rw [e0]; exact hup q) hr hct q1 q2 (fun _ => ⟨by simp, rfl⟩) ⟨r2, fun q => (by cases q), p3⟩ (by rw [e0]; exact hz) (fun q => by cases q)
      refine FillE.step kk fin ?_ fun n T' g => .redw n T T' (rtP t) u w s c1 c2 c3 c4 c5 c6 g
      rw [ioP_bt, ioP_bt, ioP_bt]
      congr 1
      cases s <;> simp [io_bt]
end Go.Proofs.YtkcpojagecfcbaaGreatDoor
namespace Go.Proofs.YtkcpojagecfcbaaGreatDoor
open Go Go.AM
set_option linter.unusedVariables false
set_option linter.unusedSimpArgs false
structure Fits (t : Bt) (π : List Fr) (h : Nat) : Prop where
  rb : RB t h
  path : Pth π h
  red : col t = true → π ≠ [] ∧ pc π = false
theorem Fits.dn {s c : Bool} {a b : Bt} {x : Nat} {π : List Fr} {h : Nat} (hF : Fits (bt s c a x b) π h) : ∃ k, Fits a (⟨s, c, x, b⟩ :: π) k ∧ RB b k ∧ (c = false → h = k + 1) ∧ (c = true → h = k ∧ col b = false) := by
  obtain ⟨h1, h2, h3⟩ := hF
  rw [col_bt] at h3
  cases c with
  | true =>
    obtain ⟨r1, r2, r3, r4⟩ := rb_red.1 h1
    exact ⟨h, ⟨r1, ⟨r2, fun _ => ⟨r4, h3 rfl⟩, h2⟩, fun q => by rw [r3] at q; cases q⟩, r2, fun q => (by cases q), fun _ => ⟨rfl, r4⟩⟩
  | false =>
    obtain ⟨k, rfl, r1, r2⟩ := rb_black.1 h1
    exact ⟨k, ⟨r1, ⟨r2, fun q => (by cases q), h2⟩, fun _ => ⟨by simp, rfl⟩⟩, r2, fun _ => rfl, fun q => (by cases q)⟩
def plug : List Fr → Bt → Bt
  | [], t => t
  | F :: ρ, t => plug ρ (F.on t)
theorem at_plug {S : List Nat} {T : Tr} {ρ π : List Fr} {t : Bt} : At S T t (ρ ++ π) ↔ At S T (plug ρ t) π := by
  induction ρ generalizing t with
  | nil => exact Iff.rfl
  | cons F ρ ih => exact at_iff.trans ih
theorem io_plug (ρ : List Fr) (t : Bt) : io (plug ρ t) = ioP ρ (io t) := by
  induction ρ generalizing t with
  | nil => rfl
  | cons F ρ ih =>
    obtain ⟨s, c, p, b⟩ := F
    rw [ioP_bt]; exact ih _
theorem ioP_app (ρ π : List Fr) (M : List Nat) : ioP (ρ ++ π) M = ioP π (ioP ρ M) := by
  induction ρ generalizing M with
  | nil => rfl
  | cons F ρ ih => exact ih _
theorem ioP_split (π : List Fr) : ∃ L R, ∀ M, ioP π M = L ++ M ++ R := by
  induction π with
  | nil => exact ⟨[], [], fun M => by simp [ioP]⟩
  | cons F π ih =>
    obtain ⟨L, R, h⟩ := ih
    obtain ⟨s, c, p, b⟩ := F
    cases s with
    | true => exact ⟨L ++ io b ++ [p], R, fun M => by show ioP π (io b ++ p :: M) = _; rw [h]; simp⟩
    | false => exact ⟨L, p :: io b ++ R, fun M => by show ioP π (M ++ p :: io b) = _; rw [h]; simp⟩
/-- Where a place is. -/
theorem find_ex {S : List Nat} {T : Tr} {z : Nat} : ∀ (t : Bt) (π : List Fr) (h : Nat), At S T t π → Fits t π h → z ∈ io t → ∃ c l r σ k, At S T (.node c l z r) σ ∧ Fits (.node c l z r) σ k ∧ ioP σ (io (.node c l z r)) = ioP π (io t) := by
  intro t
  induction t with
  | nil => intro π h _ _ hz; cases hz
  | node c l x r ihl ihr =>
    intro π h hA hF hz
    simp only [io, List.mem_append, List.mem_cons] at hz
    rcases hz with hz | rfl | hz
    · have hA' : At S T (bt false c l x r) π := hA
      obtain ⟨k, f1, _⟩ := (show Fits (bt false c l x r) π h from hF).dn
      obtain ⟨c', l', r', σ, k', g1, g2, g3⟩ := ihl _ _ hA'.dn f1 hz
      exact ⟨c', l', r', σ, k', g1, g2, g3.trans (ioP_bt _ _ _ _ _ _)⟩
    · exact ⟨c, l, r, π, h, hA, hF, rfl⟩
    · have hA' : At S T (bt true c r x l) π := hA
      obtain ⟨k, f1, _⟩ := (show Fits (bt true c r x l) π h from hF).dn
      obtain ⟨c', l', r', σ, k', g1, g2, g3⟩ := ihr _ _ hA'.dn f1 hz
      exact ⟨c', l', r', σ, k', g1, g2, g3.trans (ioP_bt _ _ _ _ _ _)⟩
/-- The first place. -/
theorem most_ex {S : List Nat} {T : Tr} : ∀ (t : Bt) (π : List Fr) (h : Nat), t ≠ .nil → At S T t π → Fits t π h → ∃ n ρ cy y Y k L, MostTo T.f n (rtP t) y ∧ At S T (.node cy .nil y Y) (ρ ++ π) ∧ Fits (.node cy .nil y Y) (ρ ++ π) k ∧ (∀ M, ioP ρ M = M ++ L) ∧ ioP ρ (io (.node cy .nil y Y)) = io t ∧ t = plug ρ (.node cy .nil y Y) := by
  intro t
  induction t with
  | nil => intro π h q; exact absurd rfl q
  | node c l x r ihl ihr =>
    intro π h _ hA hF
    obtain ⟨x0, _, _, xl, _, _, _⟩ := hA.foc.rep
    by_cases hl : l = .nil
    · subst hl
      exact ⟨0, [], c, x, r, h, [], .stop _ (.inr xl), hA, hF, fun M => by simp [ioP], rfl, rfl⟩
    · have hA' : At S T (bt false c l x r) π := hA
      obtain ⟨k, f1, _⟩ := (show Fits (bt false c l x r) π h from hF).dn
      obtain ⟨n, ρ, cy, y, Y, k', L, g1, g2, g3, g4, g5, g6⟩ := ihl _ _ hl hA'.dn f1
      have l0 : rtP l ≠ 0 := by
        cases l with
        | nil => exact absurd rfl hl
        | node c' l' x' r' => exact (hA'.dn.foc.rep).1
      refine ⟨n + 1, ρ ++ [⟨false, c, x, r⟩], cy, y, Y, k', L ++ x :: io r, .step n x y x0 (by rw [xl]; exact l0) (by rw [xl]; exact g1), by rw [List.append_assoc]; exact g2, by rw [List.append_assoc]; exact g3, fun M => ?_, ?_, ?_⟩
      · rw [ioP_app, g4]; simp [ioP]
      · rw [ioP_app, g5]; rfl
      · have : ∀ (ρ : List Fr) (t : Bt), plug (ρ ++ [⟨false, c, x, r⟩]) t = bt false c (plug ρ t) x r := by
          intro ρ
          induction ρ with
          | nil => intro t; rfl
          | cons F ρ ih => intro t; exact ih _
        rw [this, ← g6]; rfl
/-- One is hung out. -/
theorem At.hang {S : List Nat} {T : Tr} {s c : Bool} {y : Nat} {X : Bt} {σ : List Fr} (h : At S T (bt s c .nil y X) σ) :
    At S (T.hang y (rtP X)) X σ ∧ ((T.hang y (rtP X)).f (rtP X)).up = pu σ ∧ ((T.hang y (rtP X)).f 0).red = (T.f 0).red ∧ (T.hang y (rtP X)).f y = T.f y ∧ (∀ z, z ∉ 0 :: S → (T.hang y (rtP X)).f z = T.f z) ∧ y ∉ allp X σ := by
  obtain ⟨⟨h1, h2, h3⟩, h4⟩ := h
  obtain ⟨y0, yu, yc, ys, ys', _, rX⟩ := rep_bt.1 h1
  rw [rtP_bt] at h2
  have hp : (io (bt s c .nil y X) ++ plP σ).Perm (y :: (io X ++ plP σ)) := (io_bt_perm s c .nil y X).append_right _
  have hn := hp.nodup_iff.1 h3
  rw [List.nodup_cons, List.nodup_append] at hn
  obtain ⟨ny, nX, nσ, nd⟩ := hn
  rw [List.mem_append, not_or] at ny
  have posσ := repP_pos h2
  have xσ : rtP X ∉ plP σ := fun q => by
    have q0 := posσ _ q
    exact nd _ (rtP_mem q0) _ q rfl
  obtain ⟨q1, q2, q3, q4, q5⟩ := hang_spec h2 yu y0 nσ ny.2 xσ
  have yX : y ≠ rtP X := fun e => ny.1 (e ▸ rtP_mem (e ▸ y0))
  have yp : y ≠ pu σ := fun e => ny.2 (e ▸ pu_mem (e ▸ y0))
  have ySm : ∀ z ∈ y :: (io X ++ plP σ), z ∈ S := fun z hz => h4 z (hp.mem_iff.2 hz)
  refine ⟨⟨⟨?_, q1, List.nodup_append.2 ⟨nX, nσ, nd⟩⟩, fun z hz => ySm z (List.mem_cons_of_mem _ hz)⟩, by rw [q3]; rfl, ?_, q2 y yX yp, fun z hz => ?_, by unfold allp; rw [List.mem_append, not_or]; exact ny⟩
  · refine rep_up nX rX (fun _ => q3) fun z hz hne => q2 z hne fun e => ?_
    exact nd z hz z (by rw [e]; exact pu_mem (e ▸ rep_pos rX z hz)) rfl
  · by_cases e : (0 : Nat) = rtP X
    · rw [e, q3]; rfl
    · by_cases e2 : (0 : Nat) = pu σ
      · cases σ with
        | nil => rw [(q5 rfl).2 0 e]
        | cons F σ => exact absurd e2.symm h2.1
      · rw [q2 0 e e2]
  · rw [List.mem_cons, not_or] at hz
    have z1 : z ≠ rtP X := fun e => hz.2 (ySm z (by rw [e]; simp [rtP_mem (e ▸ hz.1)]))
    have z2 : z ≠ pu σ := fun e => hz.2 (ySm z (by rw [e]; simp [pu_mem (e ▸ hz.1)]))
    exact q2 z z1 z2
theorem mod_self (T : Tr) (x : Nat) (g : Nd → Nd) (h : g (T.f x) = T.f x) : T.mod x g = T := by
  have : upN T.f x g = T.f := by
    funext i
    by_cases e : i = x
    · subst e; rw [upN_self]; exact h
    · exact upN_ne _ _ e
  unfold Tr.mod; rw [this]
theorem At.zero {S : List Nat} {T : Tr} {t : Bt} {π : List Fr} (h : At S T t π) (g : Nd → Nd) : At S (T.mod 0 g) t π := by
  have hp := h.foc.pos
  refine ⟨⟨rep_congr (fun z hz => upN_ne _ _ (hp z (List.mem_append.2 (.inl hz)))) h.foc.rep, repP_congr (T := T) rfl (fun z hz => upN_ne _ _ (hp z (List.mem_append.2 (.inr hz)))) h.foc.path, h.foc.nd⟩, h.sub⟩
theorem Like.hold (T : Tr) (x y : Nat) : Like T (T.hold x y) := by
  unfold Tr.hold; split
  · exact Like.refl _
  · exact Like.mU _ _ _
theorem Like.swap (T : Tr) (z y : Nat) : Like T (T.swap z y) := by
  unfold Tr.swap Tr.take
  exact (((Like.hang _ _ _).trans (((Like.mL _ _ _).trans (Like.mR _ _ _)).trans (Like.mC _ _ _))).trans (Like.hold _ _ _)).trans (Like.hold _ _ _)
theorem hold_f (T : Tr) (x y z : Nat) : (T.hold x y).f z = if x ≠ 0 ∧ z = x then sU y (T.f z) else T.f z := by
  unfold Tr.hold
  by_cases e : x = 0
  · simp [e]
  · rw [if_neg e]
    by_cases e2 : z = x
    · rw [if_pos ⟨e, e2⟩, e2]; exact upN_self _ _ _
    · rw [if_neg fun q => e2 q.2]; exact upN_ne _ _ e2
theorem hold_root (T : Tr) (x y : Nat) : (T.hold x y).root = T.root := by unfold Tr.hold; split <;> rfl
/-- Another one takes a place in the tree. -/
theorem At.swap {S : List Nat} {T : Tr} {c : Bool} {z y : Nat} {l r : Bt} {π : List Fr} (h : At S T (.node c l z r) π) (hy : y ∉ allp (.node c l z r) π) (y0 : y ≠ 0) (hyS : y ∈ S) :
    At S (T.swap z y) (.node c l y r) π ∧ ∀ i, i ∉ S → (T.swap z y).f i = T.f i := by
  obtain ⟨⟨h1, h2, h3⟩, h4⟩ := h
  obtain ⟨z0, zu, zc, zl, zr, rl, rr⟩ := h1
  unfold allp at hy h4
  have h2 : RepP T z π := h2
  have hp2 : (io (.node c l y r) ++ plP π).Perm (y :: (io l ++ io r ++ plP π)) := by
    show (io l ++ y :: io r ++ plP π).Perm _
    exact (List.perm_middle (a := y) (l₁ := io l) (l₂ := io r)).append_right _
  simp only [io, List.append_assoc, List.cons_append, List.nodup_append, List.nodup_cons, List.mem_append, List.mem_cons, not_or] at h3 hy
  have posπ := repP_pos h2
  have nπ : (plP π).Nodup := by grind
  have zπ : z ∉ plP π := by grind
  have yπ : y ∉ plP π := by grind
  have yz : y ≠ z := by grind
  have yl : y ∉ io l := by grind
  have yr : y ∉ io r := by grind
  have zl' : z ∉ io l := by grind
  have zr' : z ∉ io r := by grind
  have lr : ∀ i ∈ io l, i ∉ io r := by grind
  have lπ : ∀ i ∈ io l, i ∉ plP π := by grind
  have rπ : ∀ i ∈ io r, i ∉ plP π := by grind
  have nl : (io l).Nodup := by grind
  have nr : (io r).Nodup := by grind
  have nn : (y :: (io l ++ io r ++ plP π)).Nodup := by
    simp only [List.nodup_cons, List.nodup_append, List.mem_append, not_or]
    grind
  have posl := rep_pos rl
  have posr := rep_pos rr
  obtain ⟨q1, q2, q3, q4, q5⟩ := hang_spec h2 zu z0 nπ zπ yπ
  have zp : z ≠ pu π := fun e => zπ (e ▸ pu_mem (e ▸ z0))
  have yp : y ≠ pu π := fun e => yπ (e ▸ pu_mem (e ▸ y0))
  have fz : (T.hang z y).f z = T.f z := q2 z yz.symm zp
  obtain ⟨T1, hT1⟩ : ∃ T1, T.hang z y = T1 := ⟨_, rfl⟩
  have es : T.swap z y = ((T1.take z y).hold (rtP l) y).hold (rtP r) y := by unfold Tr.swap; rw [fz, zl, zr, hT1]
  rw [hT1] at q1 q2 q3 q4 q5 fz
  have tk : ∀ i, i ≠ y → (T1.take z y).f i = T1.f i := fun i hi => by
    unfold Tr.take
    show upN (upN (upN _ _ _) _ _) _ _ _ = _
    rw [upN_ne _ _ hi, upN_ne _ _ hi, upN_ne _ _ hi]
  have tky : (T1.take z y).f y = sC c (sR (rtP r) (sL (rtP l) (sU (pu π) (T.f y)))) := by
    unfold Tr.take
    show upN (upN (upN _ _ _) _ _) _ _ _ = _
    rw [upN_self, upN_self, upN_self, q3, fz, zl, zr, zc]
  have L0 : rtP l ≠ 0 → rtP l ∈ io l := rtP_mem
  have R0 : rtP r ≠ 0 → rtP r ∈ io r := rtP_mem
  have fe : ∀ i, i ≠ y → (rtP l ≠ 0 → i ≠ rtP l) → (rtP r ≠ 0 → i ≠ rtP r) → (T.swap z y).f i = T1.f i := fun i a b c => by
    rw [es, hold_f, if_neg fun q => c q.1 q.2, hold_f, if_neg fun q => b q.1 q.2, tk i a]
  have fy : (T.swap z y).f y = sC c (sR (rtP r) (sL (rtP l) (sU (pu π) (T.f y)))) := by
    rw [es, hold_f, if_neg (fun (q : rtP r ≠ 0 ∧ y = rtP r) => yr (q.2 ▸ R0 q.1)), hold_f, if_neg (fun (q : rtP l ≠ 0 ∧ y = rtP l) => yl (q.2 ▸ L0 q.1)), tky]
  have np : ∀ i, i ≠ 0 → i ∉ plP π → i ≠ pu π := fun i i0 h1 e => h1 (e ▸ pu_mem (e ▸ i0))
  refine ⟨⟨⟨⟨y0, ?_, ?_, ?_, ?_, ?_, ?_⟩, ?_, hp2.nodup_iff.2 nn⟩, ?_⟩, ?_⟩
  · rw [fy]; rfl
  · rw [fy]; rfl
  · rw [fy]; rfl
  · rw [fy]; rfl
  · refine rep_up nl rl (fun q => ?_) fun i hi hne => ?_
    · have m := L0 q
      rw [es, hold_f, if_neg (fun (e : rtP r ≠ 0 ∧ rtP l = rtP r) => lr _ m (e.2 ▸ R0 e.1)), hold_f, if_pos ⟨q, rfl⟩, tk _ (fun e => yl (e ▸ m)), q2 _ (fun e => yl (e ▸ m)) (np _ q (lπ _ m))]
    · rw [fe i (fun e => yl (e ▸ hi)) (fun _ => hne) (fun q e => lr i hi (e ▸ R0 q)), q2 i (fun e => yl (e ▸ hi)) (np _ (posl i hi) (lπ i hi))]
  · refine rep_up nr rr (fun q => ?_) fun i hi hne => ?_
    · have m := R0 q
      rw [es, hold_f, if_pos ⟨q, rfl⟩, hold_f, if_neg (fun (e : rtP l ≠ 0 ∧ rtP r = rtP l) => lr _ (e.2 ▸ L0 e.1) m), tk _ (fun e => yr (e ▸ m)), q2 _ (fun e => yr (e ▸ m)) (np _ q (rπ _ m))]
    · rw [fe i (fun e => yr (e ▸ hi)) (fun q e => lr i (e ▸ L0 q) hi) (fun _ => hne), q2 i (fun e => yr (e ▸ hi)) (np _ (posr i hi) (rπ i hi))]
  · exact repP_congr (T := T1) (by rw [es, hold_root, hold_root]; rfl) (fun i hi => fe i (fun e => yπ (e ▸ hi)) (fun q e => lπ i (e ▸ L0 q) hi) (fun q e => rπ i (e ▸ R0 q) hi)) q1
  · intro i hi
    have := hp2.mem_iff.1 hi
    simp only [List.mem_cons, List.mem_append] at this
    rcases this with rfl | (hi | hi) | hi
    · exact hyS
    · exact h4 i (by simp [io, hi])
    · exact h4 i (by simp [io, hi])
    · exact h4 i (by simp [hi])
  · intro i hi
    have i1 : i ≠ y := fun e => hi (e ▸ hyS)
    have hS : ∀ j ∈ io (.node c l z r) ++ plP π, j ∈ S := h4
    rw [fe i i1 (fun q e => hi (e ▸ hS _ (by simp [io, L0 q]))) (fun q e => hi (e ▸ hS _ (by simp [io, R0 q])))]
    by_cases e : i = pu π
    · cases π with
      | nil => exact (q5 rfl).2 i i1
      | cons F π => exact absurd (hS (pu (F :: π)) (by simp [pu, plP])) (e ▸ hi)
    · exact q2 i i1 e
end Go.Proofs.YtkcpojagecfcbaaGreatDoor
