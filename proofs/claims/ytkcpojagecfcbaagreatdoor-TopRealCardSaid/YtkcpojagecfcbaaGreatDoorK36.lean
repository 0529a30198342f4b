/-
  AN ENGINE is asked.
  AN ENGINE: the first thing that can be done.
  AN ENGINE settles.
  THE LEAST PROCESSOR of a set.
  SETS OF PROCESSORS: the least; the next one.
  AN ENGINE: a processor goes.
  AN ENGINE'S TIMERS: all of them; what a turn of a processor does to them.
  AN ENGINE: what always holds of it.
  AN ENGINE: what always holds is kept as timers come, and go.
  AN ENGINE: what can be done; it ends; what always holds is kept.
  AN ENGINE: what a step comes to.
-/
import Derived.Test.YtkcpojagecfcbaaGreatDoorK35
import Derived.Shelf.Spec.TrailingZeros
import Derived.Ground.Names7Prog
namespace Go.Proofs.YtkcpojagecfcbaaGreatDoor
open Go Go.AM
set_option linter.unusedVariables false
set_option linter.unusedSimpArgs false
set_option maxRecDepth 60000
set_option maxHeartbeats 16000000
section
variable {m m' : Mem} {a : EA} {E : Eng}
theorem enow15 (h : EngR m a E) (hC : CkOk E.C) {k : Nat} (hk3 : k < 3) {K : KV} (hk : K (.tup [.int .i64 (E.C.tm k), .bool true]) m) : ACalls Tryz.prog 15 [.ptr (some (a.e, 0, 0)), .int .i64 k] m K := by
  refine run_on xE hm c15 (by simp) fun hf => ?_
  have oe := h.oe
  simp (disch := omega) [-getElem?_pos, b15, oe]
  refine now39 h.ok hC hk3 ?_
  simp (disch := omega) [-getElem?_pos]
  exact hk
theorem eonline21 (h : EngR m a E) (hon : OnOk E) {K : KV} (hk : ∀ v M, m.Grew M → Own m.next M 1 v ((listM E.on 16).map fun i : Nat => [V.int .i64 i]) → K v M) : ACalls Tryz.prog 21 [.ptr (some (a.e, 0, 0))] m K := by
  refine run_on xE hm c21 (by simp) fun hf => ?_
  have oe := h.oe
  simp (disch := omega) [-getElem?_pos, b21, oe]
  refine list49 hon.lt fun v M g ow => ?_
  simp (disch := omega) [-getElem?_pos]
  exact hk v M g ow
end
set_option maxHeartbeats 16000000
def Eng.one (E : Eng) : Option (Eng × List Frd) :=
  match (listM E.on 16).find? fun i => (E.c i).kicked with
  | some i => some (E.kick i, [])
  | none => match (listM E.on 16).find? fun i => (E.c i).D.latched with
    | some i => some (E.irq i)
    | none => match (listM E.on 16).find? fun i => (E.c i).raised with
      | some i => some (E.softirq i)
      | none => none
theorem find_at {l : List Nat} {p : Nat → Bool} {j : Nat} (hj : j < l.length) (h : ∀ k (hk : k < l.length), k < j → p l[k] = false) (hp : p l[j] = true) : l.find? p = some l[j] := by
  induction l generalizing j with
  | nil => simp at hj
  | cons x l ih =>
    cases j with
    | zero => simp only [List.getElem_cons_zero] at hp ⊢; rw [List.find?_cons, hp]
    | succ j =>
      have h0 := h 0 (by simp) (by omega)
      simp only [List.getElem_cons_zero] at h0
      rw [List.find?_cons, h0]
      simp only [List.getElem_cons_succ] at hp ⊢
      exact ih (by simpa using hj) (fun k hk hkj => by have := h (k + 1) (by simp; omega) (by omega); simpa using this) hp
theorem find_no {l : List Nat} {p : Nat → Bool} (h : ∀ k (hk : k < l.length), p l[k] = false) : l.find? p = none := by
  rw [List.find?_eq_none]
  intro x hx
  obtain ⟨k, hk, rfl⟩ := List.getElem_of_mem hx
  simp [h k hk]
theorem own_le {n0 n1 : Nat} {M : Mem} {sz : Nat} {v : V} {es : List (List V)} (h : Own n1 M sz v es) (h01 : n0 ≤ n1) : Own n0 M sz v es := by
  rcases h with ⟨x1, x2⟩ | ⟨q, x1, x2, x3⟩
  · exact .inl ⟨x1, x2⟩
  · exact .inr ⟨q, x1, by omega, x3⟩
section
variable {m m' : Mem} {a : EA} {E : Eng}
theorem one66 (h : EngR m a E) (hC : CkOk E.C) (hon : OnOk E) (hF : ∀ i, i < E.n → FireOk E i) {K : KV}
    (hk0 : E.one = none → ∀ M, EngR M a E → Stp m M (a.all E.n) (a.all E.n) → K (.tup [.sl none 0 (some 0), .bool false]) M)
    (hk1 : ∀ E' F, E.one = some (E', F) → ∀ v M, EngR M a E' → Stp m M (a.all E.n) (a.all E.n) → Own m.next M 5 v (F.map Frd.cs) → K (.tup [v, .bool true]) M) : ACalls Tryz.prog 66 [.ptr (some (a.e, 0, 0))] m K := by
  refine run_on xE hm c66 (by simp) fun hf => ?_
  have oe := h.oe
  have hlt16 := hon.lt
  have hlt := h.lts
  simp (disch := omega) [-getElem?_pos, b66, oe]
  unfold Eng.one at hk0 hk1
  obtain ⟨L, hL⟩ : ∃ L, listM E.on 16 = L := ⟨_, rfl⟩
  rw [hL] at hk0 hk1
  have hle : L.length ≤ 16 := hL ▸ listM_le E.on 16
  have hin : ∀ k (hk : k < L.length), L[k] < E.n := fun k hk => by
    have : L[k] ∈ listM E.on 16 := hL ▸ List.getElem_mem hk
    exact hon.n _ (listM_mem.1 this).2
  refine list49 hlt16 fun v M1 g1 ow => ?_
  rw [hL] at ow
  have hlen := ow.sl.lenSl
  rw [List.length_map] at hlen
  have keepS : ∀ {v : V} {M M3 : Mem} {n0 : Nat}, Own n0 M 1 v (L.map fun i : Nat => [V.int .i64 i]) → m.next ≤ n0 → Stp M M3 (a.all E.n) (a.all E.n) → Sl M3 1 v (L.map fun i : Nat => [V.int .i64 i]) := fun ow hn s => ow.sl.keep s.next fun p hp ha => s.obj p hp fun q => by have := (ow.addr_lt ha).1; have := hlt p q; omega
  simp (disch := omega) [-getElem?_pos, hlen]
  refine exec_loopU (σ := Nat × Mem) (fun (j, _) => [(20, .int .i64 j), (19, .int .i64 L.length), (18, v), (0, .ptr (some (a.e, 0, 0)))]) (fun (_, M) => M)
    (fun (j, M3) => j ≤ L.length ∧ EngR M3 a E ∧ Stp m M3 (a.all E.n) (a.all E.n) ∧ Stp M1 M3 (a.all E.n) (a.all E.n) ∧ ∀ k (hk : k < L.length), k < j → (E.c L[k]).kicked = false) (fun (j, _) => L.length - j) (0, M1) rfl ⟨by omega, h.grow g1, Stp.grow g1 _, Stp.refl _ _, fun k hk h0 => by omega⟩ (by simp) ?_
  intro (j, M3) ⟨a1, a2, a3, a4, a5⟩
  by_cases hj : j < L.length
  · obtain ⟨p, q, full, rw', d1, d2, d3, d4, _⟩ := (keepS ow (Nat.le_refl _) a4).at (i := j) (x := [V.int .i64 (L[j] : Nat)]) (by simp [hj]) .i64
    have hi := hin j hj
    simp (disch := omega) [-getElem?_pos, d1, d2, d3, d4]
    refine kick60 a2 hC hi fun M4 b1 b2 => ?_
    cases hkk : (E.c L[j]).kicked with
    | true =>
      rw [hkk] at b1
      simp (disch := omega) [-getElem?_pos]
      refine hk1 (E.kick L[j]) [] ?_ _ _ b1 (a3.trans b2) (Own.none _ _ _)
      rw [find_at (p := fun i => (E.c i).kicked) hj a5 hkk]
    | false =>
      rw [hkk] at b1
      simp (disch := omega) [-getElem?_pos]
      refine again_mk (j + 1, M4) ⟨by omega, b1, a3.trans b2, a4.trans b2, fun k hk hkj => ?_⟩ (by dsimp only; omega) (by simp) rfl
      by_cases e : k = j
      · subst e; exact hkk
      · exact a5 k hk (by have : k < j + 1 := hkj; omega)
  · obtain rfl : j = L.length := by omega
    have hn1 : (L.find? fun i => (E.c i).kicked) = none := find_no fun k hk => a5 k hk hk
    rw [hn1] at hk0 hk1
    dsimp only at hk0 hk1
    have oe3 := a2.oe
    simp (disch := omega) [-getElem?_pos, oe3]
    refine list49 hlt16 fun v M1 g1 ow => ?_
    rw [hL] at ow
    have hlen := ow.sl.lenSl
    rw [List.length_map] at hlen
    have mle := a3.next
    simp (disch := omega) [-getElem?_pos, hlen]
    refine exec_loopU (σ := Nat × Mem) (fun (j, _) => [(35, .int .i64 j), (34, .int .i64 L.length), (33, v), (0, .ptr (some (a.e, 0, 0)))]) (fun (_, M) => M)
      (fun (j, M3) => j ≤ L.length ∧ EngR M3 a E ∧ Stp m M3 (a.all E.n) (a.all E.n) ∧ Stp M1 M3 (a.all E.n) (a.all E.n) ∧ ∀ k (hk : k < L.length), k < j → (E.c L[k]).D.latched = false) (fun (j, _) => L.length - j) (0, M1) rfl ⟨by omega, a2.grow g1, a3.trans (Stp.grow g1 _), Stp.refl _ _, fun k hk h0 => by omega⟩ (by simp) ?_
    intro (j, M4) ⟨b1, b2, b3, b4, b5⟩
    by_cases hj : j < L.length
    · obtain ⟨p, q, full, rw', d1, d2, d3, d4, _⟩ := (keepS ow mle b4).at (i := j) (x := [V.int .i64 (L[j] : Nat)]) (by simp [hj]) .i64
      have hi := hin j hj
      have mle4 := b3.next
      simp (disch := omega) [-getElem?_pos, d1, d2, d3, d4]
      refine irq58 b2 hC hi (hF _ hi) (fun hkk => ?_) fun hkk w M5 c1 c2 c3 => ?_
      · simp (disch := omega) [-getElem?_pos]
        refine again_mk (j + 1, M4) ⟨by omega, b2, b3, b4, fun k hk hkj => ?_⟩ (by dsimp only; omega) (by simp) rfl
        by_cases e : k = j
        · subst e; exact hkk
        · exact b5 k hk (by have : k < j + 1 := hkj; omega)
      · simp (disch := omega) [-getElem?_pos]
        refine hk1 (E.irq L[j]).1 (E.irq L[j]).2 ?_ _ _ c1 (b3.trans c2) (own_le c3 mle4)
        rw [find_at (p := fun i => (E.c i).D.latched) hj b5 hkk]
    · obtain rfl : j = L.length := by omega
      have hn2 : (L.find? fun i => (E.c i).D.latched) = none := find_no fun k hk => b5 k hk hk
      rw [hn2] at hk0 hk1
      dsimp only at hk0 hk1
      have oe4 := b2.oe
      simp (disch := omega) [-getElem?_pos, oe4]
      refine list49 hlt16 fun v M1 g1 ow => ?_
      rw [hL] at ow
      have hlen := ow.sl.lenSl
      rw [List.length_map] at hlen
      have a2 := b2
      have a3 := b3
      have mle := a3.next
      simp (disch := omega) [-getElem?_pos, hlen]
      refine exec_loopU (σ := Nat × Mem) (fun (j, _) => [(55, .int .i64 j), (54, .int .i64 L.length), (53, v), (0, .ptr (some (a.e, 0, 0)))]) (fun (_, M) => M)
        (fun (j, M3) => j ≤ L.length ∧ EngR M3 a E ∧ Stp m M3 (a.all E.n) (a.all E.n) ∧ Stp M1 M3 (a.all E.n) (a.all E.n) ∧ ∀ k (hk : k < L.length), k < j → (E.c L[k]).raised = false) (fun (j, _) => L.length - j) (0, M1) rfl ⟨by omega, a2.grow g1, a3.trans (Stp.grow g1 _), Stp.refl _ _, fun k hk h0 => by omega⟩ (by simp) ?_
      intro (j, M4) ⟨b1, b2, b3, b4, b5⟩
      by_cases hj : j < L.length
      · obtain ⟨p, q, full, rw', d1, d2, d3, d4, _⟩ := (keepS ow mle b4).at (i := j) (x := [V.int .i64 (L[j] : Nat)]) (by simp [hj]) .i64
        have hi := hin j hj
        have mle4 := b3.next
        simp (disch := omega) [-getElem?_pos, d1, d2, d3, d4]
        refine softirq59 b2 hC hi (hF _ hi) (fun hkk => ?_) fun hkk w M5 c1 c2 c3 => ?_
        · simp (disch := omega) [-getElem?_pos]
          refine again_mk (j + 1, M4) ⟨by omega, b2, b3, b4, fun k hk hkj => ?_⟩ (by dsimp only; omega) (by simp) rfl
          by_cases e : k = j
          · subst e; exact hkk
          · exact b5 k hk (by have : k < j + 1 := hkj; omega)
        · simp (disch := omega) [-getElem?_pos]
          refine hk1 (E.softirq L[j]).1 (E.softirq L[j]).2 ?_ _ _ c1 (b3.trans c2) (own_le c3 mle4)
          rw [find_at (p := fun i => (E.c i).raised) hj b5 hkk]
      · obtain rfl : j = L.length := by omega
        have hn2 : (L.find? fun i => (E.c i).raised) = none := find_no fun k hk => b5 k hk hk
        rw [hn2] at hk0 hk1
        dsimp only at hk0 hk1
        have oe4 := b2.oe
        simp (disch := omega) [-getElem?_pos, oe4]
        exact hk0 rfl _ b2 b3
end
set_option maxHeartbeats 16000000
/-- What settling comes to, in so many rounds. -/
inductive SetTo : Nat → Eng → Eng → List Frd → Prop where
  | stop (E : Eng) : E.one = none → SetTo 0 E E []
  | step (n : Nat) (E E1 E' : Eng) (F F' : List Frd) : E.one = some (E1, F) → SetTo n E1 E' F' → SetTo (n + 1) E E' (F ++ F')
/-- What holds as long as it settles. -/
structure Holds (P : Eng → Prop) (n : Nat) : Prop where
  ok : ∀ E, P E → CkOk E.C ∧ OnOk E ∧ (∀ i, i < E.n → FireOk E i) ∧ E.n = n
  one : ∀ E E1 F, P E → E.one = some (E1, F) → P E1
section
variable {m m' : Mem} {a : EA} {E : Eng}
theorem app_own {n0 n1 : Nat} {M : Mem} {v w : V} {es fs : List (List V)} {K : KV} (hv : Own n0 M 5 v es) (hw : Own n1 M 5 w fs) (hn : n0 ≤ M.next) (hl : es.length + fs.length ≤ 1000000)
    (hk : ∀ v' M2, Own n0 M2 5 v' (es ++ fs) → M.next ≤ M2.next → (∀ p, p < n0 → M2.obj p = M.obj p) → K v' M2) : appendX 5 40 M v fs K := by
  by_cases e : fs = []
  · subst e
    have : K v M → appendX 5 40 M v [] K := fun hK => by
      rcases hv with ⟨rfl, _⟩ | ⟨q, rfl, _⟩ <;> (simp only [appendX, if_true]; exact hK)
    exact this (hk v M (by rw [List.append_nil]; exact hv) (Nat.le_refl _) fun _ _ => rfl)
  · exact appendX_own3 hv (Mem.Grew.refl M) hn e (by omega) (by omega) fun v' M2 u1 u2 u3 u4 => hk v' M2 u1 (by omega) fun p hp => u2 p (by omega) (.inl hp)
theorem settle36 {P : Eng → Prop} (h : EngR m a E) (hP : Holds P E.n) (h0 : P E) {n : Nat} {E' : Eng} {F : List Frd} (hS : SetTo n E E' F) (hlen : F.length ≤ 100000) {K : KV} (hk : ∀ v M, EngR M a E' → Stp m M (a.all E.n) (a.all E.n) → Own m.next M 5 v (F.map Frd.cs) → K v M) : ACalls Tryz.prog 36 [.ptr (some (a.e, 0, 0))] m K := by
  refine run_on xE hm c36 (by simp) fun hf => ?_
  have hlt := h.lts
  simp (disch := omega) [-getElem?_pos, b36]
  refine exec_jumpU (σ := Nat × Eng × List Frd × List Frd × V × Mem) (fun (_, _, _, _, v, _) => [(3, v), (0, .ptr (some (a.e, 0, 0)))]) (fun (_, _, _, _, _, M) => M)
    (fun (k, E1, D, R, v, M) => EngR M a E1 ∧ P E1 ∧ Stp m M (a.all E.n) (a.all E.n) ∧ Own m.next M 5 v (D.map Frd.cs) ∧ SetTo k E1 E' R ∧ D ++ R = F) (fun (k, _, _, _, _, _) => k) ?_ ?_
  · simp (disch := omega) [-getElem?_pos]
    exact first_mk (n, E, [], F, .sl .none 0 (some 0), m) ⟨h, h0, Stp.refl _ _, Own.none _ _ _, hS, rfl⟩ (by simp) rfl
  · intro (k, E1, D, R, v, M) ⟨a1, a2, a3, a4, a5, a6⟩
    obtain ⟨o1, o2, o3, o4⟩ := hP.ok E1 a2
    have mle := a3.next
    have hDR : D.length + R.length = F.length := by rw [← a6]; simp
    simp (disch := omega) [-getElem?_pos]
    refine one66 a1 o1 o2 o3 (fun hno M2 b1 b2 => ?_) fun E2 F2 hso w M2 b1 b2 b3 => ?_
    · rw [o4] at b2
      have own2 := own_step a4 b2 (Nat.le_refl _) hlt
      cases a5 with
      | step n _ _ _ _ _ h1 _ => rw [hno] at h1; cases h1
      | stop _ _ =>
        rw [List.append_nil] at a6
        subst a6
        have e0 : eltsOf 5 M2 (.sl none 0 (some 0)) = some [] := rfl
        simp (disch := omega) [-getElem?_pos, e0]
        refine app_own (fs := []) own2 (Own.none 0 M2 5) (by have := b2.next; omega) (by simp; omega) fun v' M3 u1 u2 u3 => ?_
        simp (disch := omega) [-getElem?_pos]
        have al : ∀ p ∈ a.all E.n, p < m.next := hlt
        have n2 := b2.next
        refine hk v' M3 (b1.keep u2 fun p hp => u3 p (al p (by rw [← o4]; exact hp))) ⟨by omega, fun p hp hd => (u3 p hp).trans ((a3.trans b2).obj p hp hd), fun p hp => .inl hp⟩ (by simpa using u1)
    · rw [o4] at b2
      have own2 := own_step a4 b2 (Nat.le_refl _) hlt
      cases a5 with
      | stop _ h1 => rw [hso] at h1; cases h1
      | step k' _ E3 _ F3 R' h1 h2 =>
        rw [hso] at h1
        cases h1
        have hp2 := hP.one E1 E2 F2 a2 hso
        have hw := elts_own b3
        have n2 := b2.next
        simp (disch := omega) [-getElem?_pos, hw]
        have e2 : E2.n = E.n := (hP.ok E2 hp2).2.2.2
        have hl2 : (D.map Frd.cs).length + (F2.map Frd.cs).length ≤ 1000000 := by
          simp only [List.length_append] at hDR; simp only [List.length_map]; omega
        refine app_own own2 b3 (by omega) hl2 fun v' M3 u1 u2 u3 => ?_
        simp (disch := omega) [-getElem?_pos]
        have al : ∀ p ∈ a.all E.n, p < m.next := hlt
        exact again_mk (k', E2, D ++ F2, R', v', M3) ⟨b1.keep u2 fun p hp => u3 p (al p (by rw [← e2]; exact hp)), hp2, ⟨by show m.next ≤ M3.next; omega, fun p hp hd => (u3 p hp).trans ((a3.trans b2).obj p hp hd), fun p hp => .inl hp⟩, by rw [List.map_append]; exact u1, h2, by rw [List.append_assoc]; exact a6⟩ (by show k' < k' + 1; omega) (by simp) rfl
end
end Go.Proofs.YtkcpojagecfcbaaGreatDoor
namespace Go.Proofs.YtkcpojagecfcbaaGreatDoor
open Go Go.AM Go.Shelf
set_option linter.unusedVariables false
set_option linter.unusedSimpArgs false
def Tryz.lays28_ren : Go.Shelf.Ren := ⟨fun | 28 => 126 | n => n, fun | 27 => 75 | 3 => 3 | 4 => 4 | 25 => 159 | 53 => 212 | 0 => 0 | 5 => 5 | n => n, fun | 0 => 0 | n => n⟩
theorem Tryz.lays28 : Go.Proofs.Lays7.n28 Tryz.prog Tryz.lays28_ren := {
  mixed := by kernel_rfl
  f28 := Tryz.func126.trans (congrArg some (by kernel_rfl))
  t0 := Tryz.underlying0
  a0 := Tryz.isAgg0
  z0 := Tryz.sizeOf0
  v0 := Tryz.zeroValue0
  i0 := by kernel_rfl
  t3 := Tryz.underlying3
  a3 := Tryz.isAgg3
  z3 := Tryz.sizeOf3
  v3 := Tryz.zeroValue3
  i3 := by kernel_rfl
  t4 := Tryz.underlying4
  a4 := Tryz.isAgg4
  z4 := Tryz.sizeOf4
  v4 := Tryz.zeroValue4
  i4 := by kernel_rfl
  t5 := Tryz.underlying5
  a5 := Tryz.isAgg5
  z5 := Tryz.sizeOf5
  v5 := Tryz.zeroValue5
  i5 := by kernel_rfl
  t25 := Tryz.underlying159
  a25 := Tryz.isAgg159
  z25 := Tryz.sizeOf159
  v25 := Tryz.zeroValue159
  i25 := by kernel_rfl
  t27 := Tryz.underlying75
  a27 := Tryz.isAgg75
  z27 := Tryz.sizeOf75
  v27 := Tryz.zeroValue75
  i27 := by kernel_rfl
  t53 := Tryz.underlying212
  a53 := Tryz.isAgg212
  z53 := Tryz.sizeOf212
  v53 := Tryz.zeroValue212
  i53 := by kernel_rfl
  g0 := by kernel_rfl
  }
theorem gl_tab {base : Nat} {w : World} (h : Gl base w) : TabAt 0 Lib.deBruijn32tab w := by
  intro j hj
  have hj : j < 32 := hj
  refine h.cells j _ ?_
  have : ∀ j : Fin 32, glTab[j.val]? = some ((Lib.deBruijn32tab.getD j.val 0 : Nat) : Int) := by decide
  exact this ⟨j, hj⟩
theorem tz126 {m : Mem} {x : Nat} (hx : x < 4294967296) {K : KV} (hk : K (.int .i64 (Lib.ctz 32 x : Nat)) m) : ACalls Tryz.prog 126 [.int .u32 x] m K := by
  refine ⟨trivial, fun base w0 β w cargs hM hA => ⟨fun _ => ?_, fun hb => absurd ⟨_, Tryz.func126, by kernel_rfl, by kernel_rfl⟩ hb⟩⟩
  have hg : Gl base w := hM.gl.below hM.below hM.gl.lt
  obtain ⟨c, rfl, hc⟩ : ∃ c, cargs = [c] ∧ VR β (.int .u32 x) c := by
    have hl := hA.length
    rcases cargs with _ | ⟨c, _ | ⟨d, l⟩⟩
    · simp at hl
    · obtain ⟨v, h1, h2⟩ := hA.get 0 _ rfl
      cases h1
      exact ⟨c, rfl, h2⟩
    · simp at hl
  have hc : c = .int .u32 x := hc
  subst hc
  refine (Any7.bits_TrailingZeros32 Tryz.lays28 x hx w fun _ => gl_tab hg).mono fun e w' ⟨h1, h2⟩ => ?_
  subst h2
  exact ⟨_, h1, β, .int .i64 (Lib.ctz 32 x : Nat), m, Pl.le_refl _, rfl, hM, hk⟩
set_option maxHeartbeats 16000000
def leastM (w : Nat) : Nat := Lib.ctz 32 w
theorem first98 {m : Mem} {w : Nat} (hw : w < 65536) {K : KV} (hk : K (.tup [.int .i64 (if w = 0 then 0 else leastM w : Nat), .bool (decide (w ≠ 0))]) m) : ACalls Tryz.prog 98 [.int .u32 w] m K := by
  refine run_on xE hm c98 (by simp) fun hf => ?_
  have ha : bAnd .u32 (w : Int) 65535 = (w : Int) := by
    have := and32 w 65535 (by omega) (by omega)
    rw [show ((65535 : Nat) : Int) = 65535 from rfl] at this
    rw [this, show (65535 : Nat) = 2 ^ 16 - 1 from by decide, Nat.and_two_pow_sub_one_eq_mod, Nat.mod_eq_of_lt hw]
  by_cases h0 : w = 0
  · subst h0
    simp (disch := omega) [-getElem?_pos, b98, ha]
    simpa using hk
  · rw [if_neg h0, decide_eq_true h0] at hk
    have h0' : ¬ ((w : Int) = 0) := by omega
    simp (disch := omega) [-getElem?_pos, b98, ha, h0']
    refine tz126 (by omega) ?_
    simp (disch := omega) [-getElem?_pos]
    exact hk
/-- The next one, round. -/
def NextM (w i : Nat) (r : Nat) (ok : Bool) : Prop :=
  (ok = true ∧ i < r ∧ r < 16 ∧ w.testBit r = true ∧ ∀ k, i < k → k < r → w.testBit k = false) ∨ ((∀ k, i < k → k < 16 → w.testBit k = false) ∧ ok = decide (w ≠ 0) ∧ r = if w = 0 then 0 else leastM w)
theorem next76 {m : Mem} {w i : Nat} (hw : w < 65536) (hi : i < 16) {K : KV} (hk : ∀ (r : Nat) ok, NextM w i r ok → K (.tup [.int .i64 r, .bool ok]) m) : ACalls Tryz.prog 76 [.int .u32 w, .int .i64 i] m K := by
  refine run_on xE hm c76 (by simp) fun hf => ?_
  have hmax : max (i : Int) (-1) = i := by omega
  simp (disch := omega) [-getElem?_pos, b76, hmax]
  refine exec_loopU (σ := Nat) (fun j => [(6, .int .i64 j), (1, .int .i64 i), (0, .int .u32 w)]) (fun _ => m) (fun j => i < j ∧ j ≤ 16 ∧ ∀ k, i < k → k < j → w.testBit k = false) (fun j => 16 - j) (i + 1) rfl ⟨by omega, by omega, fun k h1 h2 => by omega⟩ (by simp) ?_
  intro j ⟨a1, a2, a3⟩
  have hj0 : 0 < j := by omega
  by_cases hj : j < 16
  · have hh : hasM w (j : Int) = w.testBit j := by unfold hasM; rw [decide_eq_true (by omega), decide_eq_true (by omega)]; simp
    cases hb : w.testBit j with
    | true =>
      rw [hb] at hh
      simp (disch := omega) [-getElem?_pos, F64, hh, hj0, hj]
      exact hk j true (.inl ⟨rfl, a1, hj, hb, a3⟩)
    | false =>
      rw [hb] at hh
      simp (disch := omega) [-getElem?_pos, F64, hh, hj0, hj]
      refine again_mk (j + 1) ⟨by omega, by omega, fun k h1 h2 => ?_⟩ (by omega) (by simp) rfl
      by_cases e : k = j
      · rw [e]; exact hb
      · exact a3 k h1 (by omega)
  · obtain rfl : j = 16 := by omega
    simp (disch := omega) [-getElem?_pos]
    refine first98 hw ?_
    simp (disch := omega) [-getElem?_pos]
    exact hk _ _ (.inr ⟨a3, by simp, rfl⟩)
set_option maxHeartbeats 16000000
theorem leastM_bit {w : Nat} (hw : w < 65536) (h0 : w ≠ 0) : w.testBit (leastM w) = true := by
  unfold leastM Lib.ctz
  rw [if_neg h0]
  obtain ⟨m, hm, _⟩ := Lib.ctzFrom_spec 32 w (by omega) (by omega)
  generalize Lib.ctzFrom 32 w = k at *
  rw [hm, Nat.testBit_two_pow_mul]
  simp
theorem nextM_bit {w i r : Nat} {ok : Bool} (hw : w < 65536) (h : NextM w i r ok) : if ok then w.testBit r = true else w = 0 := by
  rcases h with ⟨h1, _, _, h4, _⟩ | ⟨_, h2, h3⟩
  · rw [h1]; exact h4
  · by_cases e : w = 0
    · subst e; rw [h2]; rfl
    · rw [h2, decide_eq_true e, h3, if_neg e]; exact leastM_bit hw e
/-- A timer goes from one processor to another. -/
def Eng.move1 (E : Eng) (i to : Nat) (t : Tmr) : Eng :=
  { (E.setC i { E.c i with Q := fun j => dropT ((E.c i).Q j) t.id }).setC to { (E.setC i { E.c i with Q := fun j => dropT ((E.c i).Q j) t.id }).c to with Q := startQ ((E.setC i { E.c i with Q := fun j => dropT ((E.c i).Q j) t.id }).c to).Q t } with wh := putN E.wh t.id to }
def Eng.moves (E : Eng) (i to : Nat) (l : List Tmr) : Eng := l.foldl (fun E t => E.move1 i to t) E
def Eng.quiet (E : Eng) (i : Nat) : Eng := E.setC i { E.c i with D := { (E.c i).D with armed := false, latched := false, off := true }, raised := false, kicked := false }
def Eng.gone (E : Eng) (i to : Nat) : Eng := ({ (E.moves i to (allB (E.c i).Q 6)).quiet i with on := woM E.on i } : Eng).look to
theorem setC_setC (E : Eng) (i : Nat) (c c' : Cp) : (E.setC i c).setC i c' = E.setC i c' := by
  unfold Eng.setC
  congr 1
  funext k
  unfold upC
  split
  · rfl
  · next h => exact if_neg h
theorem move1_i (E : Eng) {i to : Nat} (h : to ≠ i) (t : Tmr) : (E.move1 i to t).c i = { E.c i with Q := fun j => dropT ((E.c i).Q j) t.id } := by
  show upC _ to _ i = _
  rw [upC_ne _ _ h.symm]
  exact upC_self _ _ _
theorem move1_to (E : Eng) {i to : Nat} (h : to ≠ i) (t : Tmr) : (E.move1 i to t).c to = { E.c to with Q := startQ (E.c to).Q t } := by
  have e : (E.setC i { E.c i with Q := fun j => dropT ((E.c i).Q j) t.id }).c to = E.c to := upC_ne _ _ h
  show upC _ to _ to = _
  rw [upC_self, e]
theorem moves_same (E : Eng) (i to : Nat) (l : List Tmr) : (E.moves i to l).n = E.n ∧ (E.moves i to l).C = E.C ∧ (E.moves i to l).on = E.on := by
  unfold Eng.moves
  induction l generalizing E with
  | nil => exact ⟨rfl, rfl, rfl⟩
  | cons t l ih => exact ih (E.move1 i to t)
theorem hasT_drop {l : List Tmr} {i k : Int} (h : hasT (dropT l i) k = true) : hasT l k = true := by
  unfold hasT dropT at *
  rw [List.any_eq_true] at *
  obtain ⟨t, ht, e⟩ := h
  exact ⟨t, (List.mem_filter.1 ht).1, e⟩
theorem uni_drop {Q : Nat → List Tmr} (h : Uni Q) (i : Int) : Uni fun j => dropT (Q j) i := fun x j k hj hk h1 h2 => h x j k hj hk (hasT_drop h1) (hasT_drop h2)
theorem insT_len (l : List Tmr) (t : Tmr) : (insT l t).length = l.length + 1 := by
  induction l with
  | nil => rfl
  | cons u l ih =>
    unfold insT; split
    · simp [ih]
    · simp
theorem startQ_len (Q : Nat → List Tmr) (t : Tmr) (j : Nat) : (startQ Q t j).length ≤ (Q j).length + 1 := by
  unfold startQ; split
  · unfold upQ; split
    · rename_i e; subst e; rw [insT_len]; omega
    · omega
  · omega
theorem moves_uni {E : Eng} {i to : Nat} (hne : to ≠ i) (l : List Tmr) (h : Uni (E.c i).Q) : Uni ((E.moves i to l).c i).Q := by
  unfold Eng.moves
  induction l generalizing E with
  | nil => exact h
  | cons t l ih => exact ih (E := E.move1 i to t) (by rw [move1_i E hne t]; exact uni_drop h _)
theorem moves_len {E : Eng} {i to : Nat} (hne : to ≠ i) (l : List Tmr) (j : Nat) : (((E.moves i to l).c to).Q j).length ≤ ((E.c to).Q j).length + l.length := by
  unfold Eng.moves
  induction l generalizing E with
  | nil => simp
  | cons t l ih =>
    have h1 := ih (E := E.move1 i to t)
    rw [move1_to E hne t] at h1
    have h2 := startQ_len (E.c to).Q t j
    simp only [List.foldl_cons, List.length_cons]
    have h1 : ((((l.foldl (fun E t => E.move1 i to t) (E.move1 i to t)).c to).Q j).length) ≤ (startQ (E.c to).Q t j).length + l.length := h1
    omega
section
variable {m m' : Mem} {a : EA} {E : Eng}
theorem offline61 (h : EngR m a E) (hC : CkOk E.C) (hon : OnOk E) {i : Nat} (hi : E.on.testBit i = true) (hu : Uni (E.c i).Q) (hl6 : ∀ j, j < 6 → ((E.c i).Q j).length ≤ 64)
    (hlen : ∀ to j, to < E.n → to ≠ i → j < 6 → ((E.c to).Q j).length + (allB (E.c i).Q 6).length ≤ 64) {K : KV} (hk0 : woM E.on i = 0 → K (.int .i64 8) m)
    (hk1 : ∀ to, (woM E.on i).testBit to = true → ∀ M, EngR M a (E.gone i to) → Stp m M (a.all E.n) (a.all E.n) → K (.int .i64 0) M) : ACalls Tryz.prog 61 [.ptr (some (a.e, 0, 0)), .int .i64 i] m K := by
  refine run_on xE hm c61 (by simp) fun hf => ?_
  have oe := h.oe
  have oq := h.oq
  have hlt := hon.lt
  have hin := hon.n i hi
  have h16 := hon.n16
  have hr := row_at a hin
  have hc := h.c i hin
  have oc := hc.o
  unfold cpO at oc
  have hwl := woM_lt E.on i
  simp (disch := omega) [-getElem?_pos, b61, oe, F92]
  refine next76 hwl (by omega) fun to ok hN => ?_
  have hb := nextM_bit hwl hN
  cases ok with
  | false =>
    simp (disch := omega) [-getElem?_pos]
    exact hk0 (by simpa using hb)
  | true =>
    have hb : (woM E.on i).testBit to = true := by simpa using hb
    have hb2 := hb
    rw [woM_bit hlt (by omega)] at hb2
    simp only [Bool.and_eq_true, Bool.not_eq_true', decide_eq_false_iff_not] at hb2
    have hto := hon.n to hb2.1
    have hne : to ≠ i := fun q => hb2.2 q.symm
    simp (disch := omega) [-getElem?_pos, oe, oq, hr, oc]
    refine ball38 hc.b hl6 fun v M1 g1 ow => ?_
    obtain ⟨L, hL⟩ : ∃ L, allB (E.c i).Q 6 = L := ⟨_, rfl⟩
    rw [hL] at ow
    have hLl : L.length ≤ 384 := by rw [← hL]; exact allB_le hl6
    have hlen : ∀ j, j < 6 → ((E.c to).Q j).length + L.length ≤ 64 := fun j hj => by rw [← hL]; exact hlen to j hto hne hj
    have hgone : E.gone i to = ({ (E.moves i to L).quiet i with on := woM E.on i } : Eng).look to := by unfold Eng.gone; rw [hL]
    have hk1 := hk1 to hb
    rw [hgone] at hk1
    have hlen0 := ow.sl.lenSl
    rw [List.length_map] at hlen0
    have hlt2 := h.lts
    simp (disch := omega) [-getElem?_pos, hlen0]
    refine exec_loopU (σ := Nat × Mem) (fun (j, _) => [(38, .int .i64 j), (37, .int .i64 L.length), (36, v), (8, .ptr (some ((a.c i).o, 0, 0))), (6, .int .i64 to), (5, .int .u32 (woM E.on i : Nat)), (0, .ptr (some (a.e, 0, 0)))]) (fun (_, M) => M)
      (fun (j, M3) => j ≤ L.length ∧ EngR M3 a (E.moves i to (L.take j)) ∧ Stp m M3 (a.all E.n) (a.all E.n) ∧ Stp M1 M3 (a.all E.n) (a.all E.n)) (fun (j, _) => L.length - j) (0, M1) rfl ⟨by omega, h.grow g1, Stp.grow g1 _, Stp.refl _ _⟩ (by simp) ?_
    intro (j, M3) ⟨a1, a2, a3, a4⟩
    have m3 := a3.next
    by_cases hj : j < L.length
    · have hs3 : Sl M3 5 v (L.map Tmr.cs) := ow.sl.keep a4.next fun p hp ha => a4.obj p hp fun q => by have := (ow.addr_lt ha).1; have := hlt2 p q; omega
      obtain ⟨p, q, full, rw', d1, d2, d3, d4, _⟩ := hs3.at (i := j) (x := (L[j]).cs) (by simp [hj]) .i64
      obtain ⟨t, ht⟩ : ∃ t, L[j] = t := ⟨_, rfl⟩
      rw [ht] at d4
      have eT : E.moves i to (L.take (j + 1)) = (E.moves i to (L.take j)).move1 i to t := by
        rw [List.take_add_one, List.getElem?_eq_getElem hj, ht]; unfold Eng.moves; rw [List.foldl_append]; rfl
      have hu3 := moves_uni hne (L.take j) hu
      have hl3 : ∀ j', j' < 6 → (((E.moves i to (L.take j)).c to).Q j').length < 64 := fun j' hj' => by
        have := moves_len (E := E) hne (L.take j) j'
        have h2 := hlen j' hj'
        rw [List.length_take] at this
        omega
      have en3 := (moves_same E i to (L.take j)).1
      generalize E.moves i to (L.take j) = E3 at *
      have hin3 : i < E3.n := by rw [en3]; exact hin
      have hto3 : to < E3.n := by rw [en3]; exact hto
      have gT := Mem.Grew.new M3 (.row 5 [t.cs] true)
      have hT3 := a2.grow gT
      have oT3 : (M3.new (.row 5 [t.cs] true)).obj M3.next = some (.row 5 [t.cs] true) := by simp
      have hTn : (M3.new (.row 5 [t.cs] true)).next = M3.next + 1 := by simp
      have hc3 := hT3.c i hin3
      have oc3 := hc3.o
      unfold cpO at oc3
      unfold Tmr.cs at d4 gT hT3 oT3 hTn hc3 oc3
      have ocM := (a2.c i hin3).o
      have loM := (a2.c i hin3).lo
      unfold cpO at ocM
      simp (disch := omega) [-getElem?_pos, d1, d2, d3, d4, splice, ocM]
      generalize M3.new (.row 5 [[.int .i64 t.id, .int .i64 t.ck, .int .i64 t.soft, .int .i64 t.hard, .bool t.lazy]] true) = M4 at *
      refine bcancel54 hc3.b hu3 fun w M5 b1 b2 => ?_
      obtain ⟨c1, c2⟩ := hc3.que hT3.ap hin3 b1 b2
      obtain ⟨e1, e2⟩ := hT3.setC hin3 c1 c2
      have hlt3 := hT3.lts
      have oT5 := (e2.obj M3.next (by omega) (fun q => by rw [en3] at q; have := hlt2 _ q; omega)).trans oT3
      have n5 := e2.next
      obtain ⟨E4, hE4⟩ : ∃ E4, E3.setC i { E3.c i with Q := fun j => dropT ((E3.c i).Q j) t.id } = E4 := ⟨_, rfl⟩
      have en4 : E4.n = E3.n := by rw [← hE4]; rfl
      have eto : E4.c to = E3.c to := by rw [← hE4]; exact upC_ne _ _ hne
      rw [hE4] at e1
      have hto4 : to < E4.n := by rw [en4]; exact hto3
      have oe5 := e1.oe
      have oq5 := e1.oq
      have hr5 := row_at a hto4
      have hc5 := e1.c to hto4
      have oc5 := hc5.o
      unfold cpO at oc5
      simp (disch := omega) [-getElem?_pos, oe5, oq5, hr5, oc5, oT5]
      refine bstart52 hc5.b (t := t) (by rw [eto]; exact hl3) fun M6 b3 b4 => ?_
      obtain ⟨c3, c4⟩ := hc5.que e1.ap hto4 b3 b4
      obtain ⟨e3, e4⟩ := e1.setC hto4 c3 c4
      have n6 := e4.next
      have oT6 := (e4.obj M3.next (by omega) (fun q => by rw [en4, en3] at q; have := hlt2 _ q; omega)).trans oT5
      obtain ⟨g6, ow6⟩ := e3.ow
      have oe6 := e3.oe
      obtain ⟨w1, w2⟩ := e3.setW (wh := putN E4.wh t.id to) (g := stU (mapI (whV E4.wh)) (.int .i64 t.id) g6)
      have ow6 : M6.obj a.w = some (.map (mapI (whV E4.wh)) g6) := ow6
      simp (disch := omega) [-getElem?_pos, oe6, ow6, oT6, putI_whV]
      refine again_mk (j + 1, _) ⟨by omega, ?_, ?_, ?_⟩ (by dsimp only; omega) (by simp) rfl
      · rw [eT, ← hE4]; rw [← hE4] at w1; exact w1
      all_goals
        rw [en3] at e2
        rw [en4, en3] at e4
        have w2 : Stp _ _ (a.all E4.n) (a.all E4.n) := w2
        rw [en4, en3] at w2
        first
          | exact a3.trans ((((Stp.grow gT _).trans e2).trans e4).trans w2)
          | exact a4.trans ((((Stp.grow gT _).trans e2).trans e4).trans w2)
    · obtain rfl : j = L.length := by omega
      rw [List.take_length] at a2
      have hs := moves_same E i to L
      obtain ⟨E3, hE3⟩ : ∃ E3, E.moves i to L = E3 := ⟨_, rfl⟩
      rw [hE3] at a2 hs hk1
      obtain ⟨en3, eC3, eon3⟩ := hs
      have hin3 : i < E3.n := by rw [en3]; exact hin
      have hto3 : to < E3.n := by rw [en3]; exact hto
      have hc3 := a2.c i hin3
      have oc3 := hc3.o
      unfold cpO at oc3
      simp (disch := omega) [-getElem?_pos, oc3]
      refine off93 hc3.d ?_
      obtain ⟨c1, c2⟩ := hc3.dev a2.ap hin3 (only_up (Mem.Grew.refl M3) (a.c i).d (dvO { (E3.c i).D with armed := false, latched := false, off := true }))
      obtain ⟨e1, e2⟩ := a2.setC hin3 c1 c2
      generalize M3.upd (a.c i).d (some (dvO { (E3.c i).D with armed := false, latched := false, off := true })) = M4 at *
      obtain ⟨c3, c4⟩ := c1.marks a2.ap hin3 false false
      obtain ⟨e3, e4⟩ := e1.setC hin3 c3 c4
      rw [setC_setC] at e3
      have e3 : EngR _ a (E3.quiet i) := e3
      have oc4 := c1.o
      unfold cpO at oc4
      have oe4 := e1.oe
      have oq4 := e1.oq
      have n0 := e1.ap.eq.symm
      have n1 : (a.c i).o ≠ a.e := (e1.ap.s i hin3 _ (CA.mem.2 (.inl rfl))).1
      have n2 : (a.c i).o ≠ a.q := (e1.ap.s i hin3 _ (CA.mem.2 (.inl rfl))).2.2.1
      have hr6 := row_at a hto3
      have en4 : (E3.setC i { E3.c i with D := { (E3.c i).D with armed := false, latched := false, off := true } }).n = E3.n := rfl
      unfold enO at oe4
      rw [en4] at oe4 oq4
      simp (disch := omega) [-getElem?_pos, oc4, splice, oe4, oq4, n0, n1.symm, n2.symm, hr6]
      unfold cpO at e3 e4
      simp only [] at e3 e4
      generalize M4.upd (a.c i).o _ = M5 at *
      obtain ⟨x1, x2⟩ := e3.setOn (woM E.on i)
      unfold enO at x1 x2
      simp only [] at x1 x2
      refine elook x1 (by show CkOk E3.C; rw [eC3]; exact hC) hto3 fun M6 w1 w2 => ?_
      simp (disch := omega) [-getElem?_pos]
      refine hk1 M6 w1 ?_
      have e2 : Stp _ _ (a.all E3.n) (a.all E3.n) := e2
      have e4 : Stp _ _ (a.all E3.n) (a.all E3.n) := e4
      have x2 : Stp _ _ (a.all E3.n) (a.all E3.n) := x2
      have w2 : Stp _ _ (a.all E3.n) (a.all E3.n) := w2
      rw [en3] at e2 e4 x2 w2
      exact a3.trans (((e2.trans e4).trans x2).trans w2)
end
set_option maxHeartbeats 4000000
theorem flat_perm {α β : Type} {f g : α → List β} {l : List α} (h : ∀ x ∈ l, (f x).Perm (g x)) : (l.flatMap f).Perm (l.flatMap g) := by
  induction l with
  | nil => exact List.Perm.refl _
  | cons x l ih =>
    rw [List.flatMap_cons, List.flatMap_cons]
    exact (h x (by simp)).append (ih fun y hy => h y (by simp [hy]))
/-- All timers, and where they are. -/
def Eng.all (E : Eng) : List (Tmr × Nat) := (List.range E.n).flatMap fun i => (allB (E.c i).Q 6).map fun t => (t, i)
theorem setC_same (E : Eng) (i : Nat) : E.setC i (E.c i) = E := by
  unfold Eng.setC
  have : upC E.c i (E.c i) = E.c := by funext k; unfold upC; split; next e => rw [e]
                                       rfl
  rw [this]
theorem all_at (E : Eng) {i : Nat} (hi : i < E.n) : ∃ R, ∀ c, (E.setC i c).all.Perm (((allB c.Q 6).map fun t => (t, i)) ++ R) := by
  refine ⟨((List.range E.n).erase i).flatMap fun k => (allB (E.c k).Q 6).map fun t => (t, k), fun c => ?_⟩
  unfold Eng.all
  show ((List.range E.n).flatMap fun k => (allB (upC E.c i c k).Q 6).map fun t => (t, k)).Perm _
  refine ((List.perm_cons_erase (List.mem_range.2 hi)).flatMap_right _).trans ?_
  rw [List.flatMap_cons, upC_self]
  refine List.Perm.append_left _ (flat_perm fun k hk => ?_)
  have : k ≠ i := fun e => by
    subst e
    exact (List.nodup_range.not_mem_erase) hk
  rw [upC_ne _ _ this]
theorem all_mem {E : Eng} {t : Tmr} {i : Nat} : (t, i) ∈ E.all ↔ i < E.n ∧ ∃ j, j < 6 ∧ t ∈ (E.c i).Q j := by
  unfold Eng.all allB
  simp only [List.mem_flatMap, List.mem_map, List.mem_range, Prod.mk.injEq]
  constructor
  · rintro ⟨k, hk, u, ⟨j, hj, hu⟩, rfl, rfl⟩
    exact ⟨hk, j, hj, hu⟩
  · rintro ⟨hi, j, hj, ht⟩
    exact ⟨i, hi, t, ⟨j, hj, ht⟩, rfl, rfl⟩
theorem allB_mem {Q : Nat → List Tmr} {t : Tmr} : t ∈ allB Q 6 ↔ ∃ j, j < 6 ∧ t ∈ Q j := by
  unfold allB; simp only [List.mem_flatMap, List.mem_range]
theorem allB_at (Q : Nat → List Tmr) {j : Nat} (hj : j < 6) : ∃ R, ∀ l, (allB (upQ Q j l) 6).Perm (l ++ R) := by
  refine ⟨((List.range 6).erase j).flatMap Q, fun l => ?_⟩
  unfold allB
  refine ((List.perm_cons_erase (List.mem_range.2 hj)).flatMap_right _).trans ?_
  rw [List.flatMap_cons]
  have e : upQ Q j l j = l := if_pos rfl
  rw [e]
  refine List.Perm.append_left _ (flat_perm fun k hk => ?_)
  have : k ≠ j := fun e => by
    subst e
    exact (List.nodup_range.not_mem_erase) hk
  have e : upQ Q j l k = Q k := if_neg this
  rw [e]
theorem upQ_same (Q : Nat → List Tmr) (j : Nat) : upQ Q j (Q j) = Q := by
  funext k; unfold upQ; split
  · next e => rw [e]
  · rfl
theorem insT_perm (l : List Tmr) (t : Tmr) : (insT l t).Perm (t :: l) := by
  induction l with
  | nil => exact List.Perm.refl _
  | cons u l ih =>
    unfold insT; split
    · exact (ih.cons u).trans (List.Perm.swap _ _ _)
    · exact List.Perm.refl _
theorem allB_ins (Q : Nat → List Tmr) {j : Nat} (hj : j < 6) (t : Tmr) : (allB (upQ Q j (insT (Q j) t)) 6).Perm (t :: allB Q 6) := by
  obtain ⟨R, hR⟩ := allB_at Q hj
  have h0 := hR (Q j)
  rw [upQ_same] at h0
  exact ((hR _).trans ((insT_perm (Q j) t).append_right R)).trans (h0.symm.cons t)
theorem drop_perm {l : List Tmr} {t : Tmr} (ht : t ∈ l) (hn : (l.map (·.id)).Nodup) : l.Perm (t :: dropT l t.id) := by
  induction l with
  | nil => cases ht
  | cons u l ih =>
    rw [List.map_cons, List.nodup_cons] at hn
    rcases List.mem_cons.1 ht with rfl | h
    · have : dropT (t :: l) t.id = l := by
        unfold dropT
        rw [List.filter_cons_of_neg (by simp), List.filter_eq_self]
        intro x hx
        simp only [Bool.not_eq_true', decide_eq_false_iff_not]
        intro e
        exact hn.1 (List.mem_map.2 ⟨x, hx, e⟩)
      rw [this]
    · have hne : u.id ≠ t.id := fun e => hn.1 (List.mem_map.2 ⟨t, h, e.symm⟩)
      have : dropT (u :: l) t.id = u :: dropT l t.id := by
        unfold dropT
        rw [List.filter_cons_of_pos (by simp [hne])]
      rw [this]
      exact ((ih h hn.2).cons u).trans (List.Perm.swap _ _ _)
theorem allB_drop (Q : Nat → List Tmr) (i : Int) : allB (fun j => dropT (Q j) i) 6 = dropT (allB Q 6) i := by
  unfold allB dropT
  rw [List.filter_flatMap]
theorem expS_rest (tm : Nat → Int) (lazy : Bool) (j : Nat) (l : List Tmr) : expS tm lazy j l ++ restS tm lazy j l = l := by
  unfold expS restS expL restL
  split
  · exact List.takeWhile_append_dropWhile
  · rfl
theorem allB_exp (Q : Nat → List Tmr) (tm : Nat → Int) (lazy : Bool) : (allB Q 6).Perm (expB Q tm lazy 6 ++ allB (restB Q tm lazy 6) 6) := by
  have key : ∀ n, n ≤ 6 → (allB Q n).Perm (expB Q tm lazy n ++ allB (restB Q tm lazy 6) n) := by
    intro n
    induction n with
    | zero => intro _; exact List.Perm.refl _
    | succ n ih =>
      intro hn
      rw [allB_succ, expB_succ, allB_succ]
      have er : restB Q tm lazy 6 n = restS tm lazy n (Q n) := if_pos (by omega)
      rw [er]
      have h1 := (ih (by omega)).append_right (Q n)
      refine h1.trans ?_
      have h2 := expS_rest tm lazy n (Q n)
      generalize expS tm lazy n (Q n) = X at *
      generalize restS tm lazy n (Q n) = Y at *
      rw [← h2, List.append_assoc, List.append_assoc]
      refine List.Perm.append_left _ ?_
      rw [← List.append_assoc, ← List.append_assoc]
      exact List.perm_append_comm.append_right _
  exact key 6 (Nat.le_refl _)
/-! ### places, by IDs -/
def KeysW (w : List (Int × Nat)) : Prop := (w.map (·.1)).Nodup
theorem getN_mem {w : List (Int × Nat)} {k : Int} {i : Nat} (h : getN w k = some i) : (k, i) ∈ w := by
  induction w with
  | nil => cases h
  | cons x w ih =>
    unfold getN at h
    split at h
    · next e => cases h; simp [e]
    · exact List.mem_cons_of_mem _ (ih h)
theorem getN_of {w : List (Int × Nat)} (hn : KeysW w) {k : Int} {i : Nat} (h : (k, i) ∈ w) : getN w k = some i := by
  induction w with
  | nil => cases h
  | cons x w ih =>
    unfold KeysW at hn
    rw [List.map_cons, List.nodup_cons] at hn
    unfold getN
    rcases List.mem_cons.1 h with rfl | h
    · exact if_pos rfl
    · rw [if_neg, ih hn.2 h]
      intro e
      exact hn.1 (List.mem_map.2 ⟨_, h, e⟩)
theorem getN_none {w : List (Int × Nat)} {k : Int} : getN w k = none ↔ k ∉ w.map (·.1) := by
  induction w with
  | nil => simp [getN]
  | cons x w ih =>
    unfold getN
    rw [List.map_cons, List.mem_cons]
    split
    · next e => simp [e]
    · next e => simp [e, ih]
theorem delN_perm {w : List (Int × Nat)} {k : Int} {i : Nat} (h : getN w k = some i) : w.Perm ((k, i) :: delN w k) := by
  induction w with
  | nil => cases h
  | cons x w ih =>
    unfold getN at h
    unfold delN
    split at h
    · next e =>
      cases h
      rw [if_pos e]
      obtain ⟨a, b⟩ := x
      simp only at e
      subst e
      exact List.Perm.refl _
    · next e =>
      rw [if_neg e]
      exact ((ih h).cons x).trans (List.Perm.swap _ _ _)
theorem putN_new {w : List (Int × Nat)} {k : Int} (i : Nat) (h : getN w k = none) : (putN w k i).Perm ((k, i) :: w) := by
  induction w with
  | nil => exact List.Perm.refl _
  | cons x w ih =>
    unfold getN at h
    unfold putN
    split at h
    · cases h
    · next e =>
      rw [if_neg e]
      exact ((ih h).cons x).trans (List.Perm.swap _ _ _)
theorem putN_old {w : List (Int × Nat)} {k : Int} {i : Nat} (to : Nat) (h : getN w k = some i) : (putN w k to).Perm ((k, to) :: delN w k) := by
  induction w with
  | nil => cases h
  | cons x w ih =>
    unfold getN at h
    unfold putN delN
    split at h
    · next e =>
      rw [if_pos e, if_pos e]
      obtain ⟨a, b⟩ := x
      simp only at e
      subst e
      exact List.Perm.refl _
    · next e =>
      rw [if_neg e, if_neg e]
      exact ((ih h).cons x).trans (List.Perm.swap _ _ _)
theorem keys_perm {w w' : List (Int × Nat)} (h : w.Perm w') (hk : KeysW w) : KeysW w' := ((h.map _).nodup_iff).1 hk
set_option maxHeartbeats 4000000
structure Inv (lo hi : Int) (E : Eng) : Prop where
  ck : CkOk E.C
  on : OnOk E
  on0 : E.on ≠ 0
  pm : (E.all.map fun x => (x.1.id, x.2)).Perm E.wh
  nd : KeysW E.wh
  len : E.wh.length ≤ 64
  pl : ∀ i, i < E.n → ∀ j, j < 6 → ∀ t ∈ (E.c i).Q j, t.ck = (j / 2 : Nat) ∧ sideN t.lazy = j % 2 ∧ t.soft ≤ t.hard
  srt : ∀ i, i < E.n → ∀ j, j < 6 → ((E.c i).Q j).Pairwise fun t u => cl t.soft ≤ cl u.soft
  onl : ∀ x ∈ E.wh, E.on.testBit x.2 = true
  dev : ∀ i, i < E.n → (E.c i).D.lo = lo ∧ (E.c i).D.hi = hi
section
variable {lo hi : Int} {E E' : Eng}
theorem Inv.anyOn (h : Inv lo hi E) : ∃ i, E.on.testBit i = true := ⟨_, leastM_bit h.on.lt h.on0⟩
theorem Inv.same (h : Inv lo hi E) (hn : E'.n = E.n) (hq : ∀ i, i < E.n → (E'.c i).Q = (E.c i).Q) (hw : E'.wh = E.wh) (hck : CkOk E'.C) (hon : OnOk E') (hon2 : ∀ i, E.on.testBit i = true → E'.on.testBit i = true)
    (hd : ∀ i, i < E.n → (E'.c i).D.lo = (E.c i).D.lo ∧ (E'.c i).D.hi = (E.c i).D.hi) : Inv lo hi E' ∧ E'.all = E.all := by
  have ea : E'.all = E.all := by
    unfold Eng.all
    rw [hn]
    refine congrArg List.flatten (List.map_congr_left fun i hi => ?_)
    rw [hq i (List.mem_range.1 hi)]
  refine ⟨⟨hck, hon, ?_, by rw [ea, hw]; exact h.pm, by rw [hw]; exact h.nd, by rw [hw]; exact h.len, ?_, ?_, ?_, ?_⟩, ea⟩
  · intro e
    obtain ⟨i, hi⟩ := h.anyOn
    have := hon2 i hi
    rw [e] at this
    simp at this
  · intro i hi
    rw [hn] at hi
    rw [hq i hi]
    exact h.pl i hi
  · intro i hi
    rw [hn] at hi
    rw [hq i hi]
    exact h.srt i hi
  · intro x hx
    rw [hw] at hx
    exact hon2 _ (h.onl x hx)
  · intro i hi
    rw [hn] at hi
    rw [(hd i hi).1, (hd i hi).2]
    exact h.dev i hi
theorem Inv.wperm (h : Inv lo hi E) {w : List (Int × Nat)} (hp : w.Perm E.wh) : Inv lo hi { E with wh := w } :=
  ⟨h.ck, ⟨h.on.lt, h.on.n, h.on.n16⟩, h.on0, h.pm.trans hp.symm, keys_perm hp.symm h.nd, by show w.length ≤ 64; rw [hp.length_eq]; exact h.len, h.pl, h.srt, fun x hx => h.onl x (hp.mem_iff.1 hx), h.dev⟩
theorem Inv.ids (h : Inv lo hi E) : (E.all.map fun x => x.1.id).Nodup := by
  have := keys_perm h.pm.symm h.nd
  unfold KeysW at this
  rw [List.map_map] at this
  exact this
theorem Inv.get (h : Inv lo hi E) {id : Int} {i : Nat} : getN E.wh id = some i ↔ ∃ t, (t, i) ∈ E.all ∧ t.id = id := by
  constructor
  · intro hg
    have := h.pm.mem_iff.2 (getN_mem hg)
    obtain ⟨x, hx, e⟩ := List.mem_map.1 this
    cases e
    exact ⟨x.1, hx, rfl⟩
  · rintro ⟨t, ht, rfl⟩
    exact getN_of h.nd (h.pm.mem_iff.1 (List.mem_map.2 ⟨_, ht, rfl⟩))
theorem Inv.noId (h : Inv lo hi E) {id : Int} (hg : getN E.wh id = none) {t : Tmr} {i : Nat} (ht : (t, i) ∈ E.all) : t.id ≠ id := by
  rintro rfl
  have := h.get.2 ⟨t, ht, rfl⟩
  rw [this] at hg
  cases hg
theorem Inv.idsB (h : Inv lo hi E) {i : Nat} (hi : i < E.n) : ((allB (E.c i).Q 6).map (·.id)).Nodup := by
  obtain ⟨R, hR⟩ := all_at E hi
  have h0 := hR (E.c i)
  rw [setC_same] at h0
  have h1 := ((h0.map fun x => x.1.id).nodup_iff).1 h.ids
  rw [List.map_append, List.map_map] at h1
  exact (List.nodup_append.1 h1).1
theorem uni_of {Q : Nat → List Tmr} (h : ((allB Q 6).map (·.id)).Nodup) : Uni Q := by
  unfold allB List.Nodup at h
  rw [List.pairwise_map, List.pairwise_flatMap] at h
  have h2 := List.pairwise_iff_getElem.1 h.2
  have key : ∀ x j k, j < k → k < 6 → hasT (Q j) x = true → hasT (Q k) x = true → False := by
    intro x j k hjk hk h3 h4
    unfold hasT at h3 h4
    rw [List.any_eq_true] at h3 h4
    obtain ⟨t, ht, e⟩ := h3
    obtain ⟨u, hu, e2⟩ := h4
    have := h2 j k (by simp; omega) (by simpa using hk) hjk
    simp only [List.getElem_range] at this
    exact this t ht u hu (by rw [of_decide_eq_true e, of_decide_eq_true e2])
  intro x j k hj hk h3 h4
  rcases Nat.lt_trichotomy j k with e | e | e
  · exact (key x j k e hk h3 h4).elim
  · exact e
  · exact (key x k j e hj h4 h3).elim
theorem Inv.uni (h : Inv lo hi E) {i : Nat} (hi : i < E.n) : Uni (E.c i).Q := uni_of (h.idsB hi)
theorem Inv.count (h : Inv lo hi E) : E.all.length = E.wh.length := by rw [← h.pm.length_eq, List.length_map]
theorem Inv.lenB (h : Inv lo hi E) {i : Nat} (hi : i < E.n) : (allB (E.c i).Q 6).length ≤ E.wh.length := by
  obtain ⟨R, hR⟩ := all_at E hi
  have h0 := hR (E.c i)
  rw [setC_same] at h0
  have := h0.length_eq
  rw [h.count, List.length_append, List.length_map] at this
  omega
theorem Q_le (Q : Nat → List Tmr) {j : Nat} (hj : j < 6) : (Q j).length ≤ (allB Q 6).length := by
  obtain ⟨R, hR⟩ := allB_at Q hj
  have := (hR (Q j)).length_eq
  rw [upQ_same, List.length_append] at this
  omega
theorem Inv.lenQ (h : Inv lo hi E) {i : Nat} (hi : i < E.n) {j : Nat} (hj : j < 6) : ((E.c i).Q j).length ≤ E.wh.length := Nat.le_trans (Q_le _ hj) (h.lenB hi)
theorem Inv.lenTwo (h : Inv lo hi E) {i k : Nat} (hi : i < E.n) (hk : k < E.n) (hne : k ≠ i) : (allB (E.c k).Q 6).length + (allB (E.c i).Q 6).length ≤ 64 := by
  obtain ⟨R, hR⟩ := all_at E hi
  have h0 := hR (E.c i)
  rw [setC_same] at h0
  obtain ⟨R2, hR2⟩ := all_at (E.setC i { E.c i with Q := fun _ => [] }) (i := k) hk
  have h1 := hR { E.c i with Q := fun _ => [] }
  have h2 := hR2 (E.c k)
  have ek : (E.setC i { E.c i with Q := fun _ => [] }).c k = E.c k := upC_ne _ _ hne
  rw [← ek, setC_same, ek] at h2
  have l0 := h0.length_eq
  have l1 := h1.length_eq
  have l2 := h2.length_eq
  rw [l1] at l2
  have e0 : allB (fun _ => []) 6 = [] := rfl
  simp only [List.length_append, List.length_map, e0, List.length_nil] at l0 l1 l2
  rw [h.count] at l0
  have := h.len
  omega
theorem Inv.fireOk (h : Inv lo hi E) {i : Nat} (hi : i < E.n) : FireOk E i :=
  ⟨fun j hj => Nat.le_trans (h.lenQ hi hj) h.len, fun j hj t ht => by have := (h.pl i hi j hj t ht).1; omega⟩
theorem Inv.whOn (h : Inv lo hi E) {t : Tmr} {i : Nat} (ht : (t, i) ∈ E.all) : E.on.testBit i = true := h.onl _ (h.pm.mem_iff.1 (List.mem_map.2 ⟨_, ht, rfl⟩))
end
set_option maxHeartbeats 4000000
/-- In its place; a queue is in order. -/
def Plc (j : Nat) (t : Tmr) : Prop := t.ck = (j / 2 : Nat) ∧ sideN t.lazy = j % 2 ∧ t.soft ≤ t.hard
def Srt (l : List Tmr) : Prop := l.Pairwise fun t u => cl t.soft ≤ cl u.soft
def jOf (t : Tmr) : Nat := 2 * t.ck.toNat + sideN t.lazy
theorem sideN_lt (b : Bool) : sideN b < 2 := by cases b <;> decide
theorem jOf_lt {t : Tmr} (h0 : 0 ≤ t.ck) (h3 : t.ck < 3) : jOf t < 6 := by unfold jOf; have := sideN_lt t.lazy; omega
theorem jOf_plc {t : Tmr} (h0 : 0 ≤ t.ck) (h3 : t.ck < 3) (hh : t.soft ≤ t.hard) : Plc (jOf t) t := by
  unfold Plc jOf; have := sideN_lt t.lazy
  exact ⟨by omega, by omega, hh⟩
theorem insT_srt {l : List Tmr} (h : Srt l) (t : Tmr) : Srt (insT l t) := by
  induction l with
  | nil => exact List.pairwise_singleton _ _
  | cons u l ih =>
    unfold Srt at *
    rw [List.pairwise_cons] at h
    unfold insT
    split
    · next c =>
      rw [List.pairwise_cons]
      refine ⟨fun x hx => ?_, ih h.2⟩
      rcases List.mem_cons.1 ((insT_perm l t).mem_iff.1 hx) with rfl | hx
      · exact c
      · exact h.1 x hx
    · next c =>
      rw [List.pairwise_cons]
      refine ⟨fun x hx => ?_, List.pairwise_cons.2 h⟩
      rcases List.mem_cons.1 hx with rfl | hx
      · omega
      · have := h.1 x hx; omega
def Eng.come (E : Eng) (i : Nat) (t : Tmr) : Eng := { E.setC i { E.c i with Q := upQ (E.c i).Q (jOf t) (insT ((E.c i).Q (jOf t)) t) } with wh := putN E.wh t.id i }
def Eng.drop (E : Eng) (i : Nat) (id : Int) : Eng := { E.setC i { E.c i with Q := fun j => dropT ((E.c i).Q j) id } with wh := delN E.wh id }
section
variable {lo hi : Int} {E E' : Eng}
theorem Inv.turn (h : Inv lo hi E) {i : Nat} (hi0 : i < E.n) {c : Cp} {w : List (Int × Nat)} (hp : ∀ j, j < 6 → ∀ t ∈ c.Q j, Plc j t) (hs : ∀ j, j < 6 → Srt (c.Q j)) (hd : c.D.lo = (E.c i).D.lo ∧ c.D.hi = (E.c i).D.hi)
    (pm : ((E.setC i c).all.map fun x => (x.1.id, x.2)).Perm w) (nd : KeysW w) (len : w.length ≤ 64) (onl : ∀ x ∈ w, E.on.testBit x.2 = true) : Inv lo hi { E.setC i c with wh := w } := by
  have e : ∀ k, k ≠ i → (E.setC i c).c k = E.c k := fun k hk => upC_ne _ _ hk
  have e0 : (E.setC i c).c i = c := upC_self _ _ _
  refine ⟨h.ck, ⟨h.on.lt, h.on.n, h.on.n16⟩, h.on0, pm, nd, len, fun k hk j hj t ht => ?_, fun k hk j hj => ?_, onl, fun k hk => ?_⟩
  · by_cases q : k = i
    · subst q
      have ht : t ∈ ((E.setC k c).c k).Q j := ht
      rw [e0] at ht
      exact hp j hj t ht
    · have ht : t ∈ ((E.setC i c).c k).Q j := ht
      rw [e k q] at ht
      exact h.pl k hk j hj t ht
  · show Srt (((E.setC i c).c k).Q j)
    by_cases q : k = i
    · subst q; rw [e0]; exact hs j hj
    · rw [e k q]; exact h.srt k hk j hj
  · show ((E.setC i c).c k).D.lo = lo ∧ ((E.setC i c).c k).D.hi = hi
    by_cases q : k = i
    · subst q; rw [e0, hd.1, hd.2]; exact h.dev k hk
    · rw [e k q]; exact h.dev k hk
/-- A timer comes. -/
theorem Inv.come (h : Inv lo hi E) {i : Nat} (hb : E.on.testBit i = true) {t : Tmr} (h0 : 0 ≤ t.ck) (h3 : t.ck < 3) (hh : t.soft ≤ t.hard) (hn : getN E.wh t.id = none) (hl : E.wh.length < 64) : Inv lo hi (E.come i t) ∧ (E.come i t).all.Perm ((t, i) :: E.all) := by
  have hi0 := h.on.n i hb
  have hj := jOf_lt h0 h3
  obtain ⟨R, hR⟩ := all_at E hi0
  have r0 := hR (E.c i)
  rw [setC_same] at r0
  have r1 := hR { E.c i with Q := upQ (E.c i).Q (jOf t) (insT ((E.c i).Q (jOf t)) t) }
  have r2 := (allB_ins (E.c i).Q hj t).map fun t => (t, i)
  have pA : (E.setC i { E.c i with Q := upQ (E.c i).Q (jOf t) (insT ((E.c i).Q (jOf t)) t) }).all.Perm ((t, i) :: E.all) := by
    refine r1.trans ((r2.append_right R).trans ?_)
    rw [List.map_cons, List.cons_append]
    exact r0.symm.cons _
  have pW := putN_new i hn
  refine ⟨h.turn hi0 (fun j hj t' ht' => ?_) (fun j hj' => ?_) ⟨rfl, rfl⟩ (((pA.map _).trans ?_).trans pW.symm) (keys_perm pW.symm ?_) (by rw [pW.length_eq, List.length_cons]; omega) (fun x hx => ?_), pA⟩
  · have hx : t' ∈ upQ (E.c i).Q (jOf t) (insT ((E.c i).Q (jOf t)) t) j := ht'
    by_cases e : j = jOf t
    · rw [e] at hx ⊢
      rw [show upQ (E.c i).Q (jOf t) (insT ((E.c i).Q (jOf t)) t) (jOf t) = insT ((E.c i).Q (jOf t)) t from if_pos rfl] at hx
      rcases List.mem_cons.1 ((insT_perm _ _).mem_iff.1 hx) with rfl | q
      · exact jOf_plc h0 h3 hh
      · exact h.pl i hi0 _ (e ▸ hj) t' q
    · rw [show upQ (E.c i).Q (jOf t) (insT ((E.c i).Q (jOf t)) t) j = (E.c i).Q j from if_neg e] at hx
      exact h.pl i hi0 j hj t' hx
  · show Srt (upQ (E.c i).Q (jOf t) (insT ((E.c i).Q (jOf t)) t) j)
    unfold upQ
    split
    · next e => subst e; exact insT_srt (h.srt i hi0 _ hj') t
    · exact h.srt i hi0 j hj'
  · rw [List.map_cons]
    exact h.pm.cons _
  · unfold KeysW
    rw [List.map_cons, List.nodup_cons]
    exact ⟨getN_none.1 hn, h.nd⟩
  · rcases List.mem_cons.1 (pW.mem_iff.1 hx) with rfl | q
    · exact hb
    · exact h.onl x q
theorem dropT_sub {l : List Tmr} {id : Int} {t : Tmr} (h : t ∈ dropT l id) : t ∈ l := (List.mem_filter.1 h).1
/-- A timer goes. -/
theorem Inv.drop (h : Inv lo hi E) {i : Nat} {t : Tmr} (ht : (t, i) ∈ E.all) : Inv lo hi (E.drop i t.id) ∧ E.all.Perm ((t, i) :: (E.drop i t.id).all) := by
  obtain ⟨hi0, j0, hj0, ht0⟩ := all_mem.1 ht
  obtain ⟨R, hR⟩ := all_at E hi0
  have r0 := hR (E.c i)
  rw [setC_same] at r0
  have r1 := hR { E.c i with Q := fun j => dropT ((E.c i).Q j) t.id }
  have r2 := (drop_perm (allB_mem.2 ⟨j0, hj0, ht0⟩) (h.idsB hi0)).map fun t => (t, i)
  have pA : E.all.Perm ((t, i) :: (E.setC i { E.c i with Q := fun j => dropT ((E.c i).Q j) t.id }).all) := by
    refine r0.trans ((r2.append_right R).trans ?_)
    rw [List.map_cons, List.cons_append]
    refine List.Perm.cons _ ?_
    rw [← allB_drop]
    exact r1.symm
  have pW := delN_perm (h.get.2 ⟨t, ht, rfl⟩)
  have kW := keys_perm pW h.nd
  unfold KeysW at kW
  rw [List.map_cons, List.nodup_cons] at kW
  refine ⟨h.turn hi0 (fun j hj t' ht' => h.pl i hi0 j hj t' (dropT_sub ht')) (fun j hj' => (h.srt i hi0 j hj').sublist List.filter_sublist) ⟨rfl, rfl⟩ ?_ kW.2 (by have := pW.length_eq; rw [List.length_cons] at this; have := h.len; omega) (fun x hx => h.onl x (pW.mem_iff.2 (List.mem_cons_of_mem _ hx))), pA⟩
  have h1 := ((pA.map fun x : Tmr × Nat => (x.1.id, x.2)).symm.trans h.pm).trans pW
  rw [List.map_cons] at h1
  exact h1.cons_inv
theorem delAll_perm {W w : List (Int × Nat)} {i : Nat} {l : List Tmr} (hp : W.Perm (l.map (fun t => (t.id, i)) ++ w)) (hk : KeysW W) : (delAll W l).Perm w := by
  induction l generalizing W with
  | nil => exact hp
  | cons t l ih =>
    unfold delAll
    rw [List.foldl_cons]
    rw [List.map_cons, List.cons_append] at hp
    have pd := delN_perm (getN_of hk (hp.mem_iff.2 (List.mem_cons_self)))
    have kd := keys_perm pd hk
    unfold KeysW at kd
    rw [List.map_cons, List.nodup_cons] at kd
    exact ih (W := delN W t.id) (pd.symm.trans hp).cons_inv kd.2
theorem restS_sub {tm : Nat → Int} {lazy : Bool} {j : Nat} {l : List Tmr} : (restS tm lazy j l).Sublist l := by
  unfold restS restL
  split
  · exact List.dropWhile_sublist _
  · exact List.Sublist.refl _
theorem restB_sub {Q : Nat → List Tmr} {tm : Nat → Int} {lazy : Bool} (j : Nat) : (restB Q tm lazy 6 j).Sublist (Q j) := by
  unfold restB
  split
  · exact restS_sub
  · exact List.Sublist.refl _
/-- All that are due fire. -/
theorem Inv.fire (h : Inv lo hi E) {i : Nat} (hi0 : i < E.n) (lazy : Bool) : Inv lo hi (E.fire i lazy).1 ∧ E.all.Perm (((E.fired i lazy).map fun t => (t, i)) ++ (E.fire i lazy).1.all) := by
  obtain ⟨R, hR⟩ := all_at E hi0
  have r0 := hR (E.c i)
  rw [setC_same] at r0
  have r1 := hR { E.c i with Q := restB (E.c i).Q E.C.tm lazy 6 }
  have r2 := (allB_exp (E.c i).Q E.C.tm lazy).map fun t => (t, i)
  have pA : E.all.Perm (((E.fired i lazy).map fun t => (t, i)) ++ (E.setC i { E.c i with Q := restB (E.c i).Q E.C.tm lazy 6 }).all) := by
    refine r0.trans ((r2.append_right R).trans ?_)
    rw [List.map_append, List.append_assoc]
    exact List.Perm.append_left _ r1.symm
  have p1 := (h.pm.symm.trans (pA.map fun x : Tmr × Nat => (x.1.id, x.2)))
  rw [List.map_append, List.map_map] at p1
  have pW := delAll_perm p1 h.nd
  have sub : ∀ x ∈ delAll E.wh (E.fired i lazy), x ∈ E.wh := fun x hx => p1.mem_iff.2 (List.mem_append.2 (.inr (pW.mem_iff.1 hx)))
  have k1 := keys_perm p1 h.nd
  unfold KeysW at k1
  rw [List.map_append, List.nodup_append] at k1
  refine ⟨h.turn hi0 (fun j hj t' ht' => h.pl i hi0 j hj t' ((restB_sub j).subset ht')) (fun j hj' => (h.srt i hi0 j hj').sublist (restB_sub j)) ⟨rfl, rfl⟩ pW.symm (keys_perm pW.symm k1.2.1) ?_ (fun x hx => h.onl x (sub x hx)), pA⟩
  have l1 := p1.length_eq
  rw [List.length_append] at l1
  rw [pW.length_eq]
  have := h.len
  omega
/-- A timer goes from one processor to another. -/
theorem hasB_none (h : Inv lo hi E) {id : Int} (hg : getN E.wh id = none) {i : Nat} (hi0 : i < E.n) : hasB (E.c i).Q id = false := by
  rw [hasB_false]
  intro j hj
  cases hh : hasT ((E.c i).Q j) id with
  | false => rfl
  | true =>
    unfold hasT at hh
    rw [List.any_eq_true] at hh
    obtain ⟨t, ht, e⟩ := hh
    exact absurd (of_decide_eq_true e) (h.noId hg (all_mem.2 ⟨hi0, j, hj, ht⟩))
theorem startQ_ok {Q : Nat → List Tmr} {t : Tmr} (h0 : 0 ≤ t.ck) (h3 : t.ck < 3) (hh : t.soft ≤ t.hard) (hb : hasB Q t.id = false) : startE Q t = 0 ∧ startQ Q t = upQ Q (jOf t) (insT (Q (jOf t)) t) := by
  have e : startE Q t = 0 := by unfold startE; rw [if_neg (by omega), hb, if_neg (by simp), if_neg (by omega)]
  exact ⟨e, by unfold startQ; rw [if_pos e]; rfl⟩
theorem Inv.move1 (h : Inv lo hi E) {i to : Nat} (hne : to ≠ i) (hb : E.on.testBit to = true) {t : Tmr} (ht : (t, i) ∈ E.all) : Inv lo hi (E.move1 i to t) ∧ ∃ R, E.all.Perm ((t, i) :: R) ∧ (E.move1 i to t).all.Perm ((t, to) :: R) := by
  obtain ⟨hi0, j0, hj0, ht0⟩ := all_mem.1 ht
  obtain ⟨d1, d2⟩ := h.drop ht
  have hg := h.get.2 ⟨t, ht, rfl⟩
  obtain ⟨p1, p2, p3⟩ := h.pl i hi0 j0 hj0 t ht0
  have pW := delN_perm hg
  have kW := keys_perm pW h.nd
  unfold KeysW at kW
  rw [List.map_cons, List.nodup_cons] at kW
  have hnone : getN (E.drop i t.id).wh t.id = none := getN_none.2 kW.1
  have l1 := pW.length_eq
  rw [List.length_cons] at l1
  have l2 := h.len
  have hto := h.on.n to hb
  obtain ⟨c1, c2⟩ := d1.come (i := to) hb (by omega) (by omega) p3 hnone (by show (delN E.wh t.id).length < 64; omega)
  have hq := (startQ_ok (Q := ((E.drop i t.id).c to).Q) (t := t) (by omega) (by omega) p3 (hasB_none d1 hnone hto)).2
  have e : E.move1 i to t = { (E.drop i t.id).come to t with wh := putN E.wh t.id to } := by
    unfold Eng.move1
    have hq : startQ ((E.setC i { E.c i with Q := fun j => dropT ((E.c i).Q j) t.id }).c to).Q t = _ := hq
    rw [hq]
    rfl
  have pw2 : (putN E.wh t.id to).Perm ((E.drop i t.id).come to t).wh := (putN_old to hg).trans (putN_new to hnone).symm
  refine ⟨?_, _, d2, ?_⟩
  · rw [e]; exact c1.wperm pw2
  · have : (E.move1 i to t).all = ((E.drop i t.id).come to t).all := by rw [e]; rfl
    rw [this]; exact c2
end
set_option maxHeartbeats 4000000
/-- A processor that took a kick, an interrupt, what was raised. -/
def kickC (C : Clk) (c : Cp) : Cp := { c with kicked := false, D := lookD C { c with kicked := false } }
def irqR (C : Clk) (c : Cp) : Cp := { c with D := c.D.take.1, Q := restB c.Q C.tm false 6, raised := c.raised || dueB (restB c.Q C.tm false 6) C.tm true }
def irqC (C : Clk) (c : Cp) : Cp := { irqR C c with D := lookD C (irqR C c) }
def softR (C : Clk) (c : Cp) : Cp := { c with raised := false, Q := restB c.Q C.tm true 6 }
def softC (C : Clk) (c : Cp) : Cp := { softR C c with D := lookD C (softR C c) }
section
variable {lo hi : Int} {E E' : Eng}
theorem look_setC (E : Eng) (i : Nat) (c : Cp) : (E.setC i c).look i = E.setC i { c with D := lookD E.C c } := by
  unfold Eng.look
  rw [setC_setC]
  show E.setC i { upC E.c i c i with D := lookD E.C (upC E.c i c i) } = _
  rw [upC_self]
theorem raise_setC (E : Eng) (i : Nat) (c : Cp) (w : List (Int × Nat)) : ({ E.setC i c with wh := w } : Eng).raise i = { E.setC i { c with raised := c.raised || dueB c.Q E.C.tm true } with wh := w } := by
  unfold Eng.raise
  show ({ (E.setC i c).setC i { upC E.c i c i with raised := (upC E.c i c i).raised || dueB (upC E.c i c i).Q E.C.tm true } with wh := w } : Eng) = _
  rw [upC_self, setC_setC]
theorem look_setCw (E : Eng) (i : Nat) (c : Cp) (w : List (Int × Nat)) : ({ E.setC i c with wh := w } : Eng).look i = { E.setC i { c with D := lookD E.C c } with wh := w } := by
  show ({ (E.setC i c).look i with wh := w } : Eng) = _
  rw [look_setC]
theorem kick_eq (E : Eng) (i : Nat) : E.kick i = E.setC i (kickC E.C (E.c i)) := by
  unfold Eng.kick
  rw [look_setC]; rfl
theorem fired_un (E : Eng) (i : Nat) (lazy : Bool) (c : Cp) (hq : c.Q = (E.c i).Q) : (E.setC i c).fired i lazy = E.fired i lazy := by
  unfold Eng.fired
  show expB (upC E.c i c i).Q E.C.tm lazy 6 = _
  rw [upC_self, hq]
theorem irq_eq (E : Eng) (i : Nat) : E.irq i = ({ E.setC i (irqC E.C (E.c i)) with wh := delAll E.wh (E.fired i false) }, (E.fired i false).map (frdOf E.C i)) := by
  have e1 : (E.untake i).fired i false = E.fired i false := fired_un E i false _ rfl
  have e0 : (E.untake i).c i = { E.c i with D := (E.c i).D.take.1 } := upC_self _ _ _
  unfold Eng.irq Eng.fire
  rw [e1, e0]
  refine Prod.ext ?_ rfl
  show ((({ (E.untake i).setC i { E.c i with D := (E.c i).D.take.1, Q := restB (E.c i).Q E.C.tm false 6 } with wh := delAll E.wh (E.fired i false) } : Eng).raise i).look i) = _
  unfold Eng.untake
  rw [setC_setC, raise_setC, look_setCw]
  rfl
theorem soft_eq (E : Eng) (i : Nat) : E.softirq i = ({ E.setC i (softC E.C (E.c i)) with wh := delAll E.wh (E.fired i true) }, (E.fired i true).map (frdOf E.C i)) := by
  have e1 : (E.unraise i).fired i true = E.fired i true := fired_un E i true _ rfl
  have e0 : (E.unraise i).c i = { E.c i with raised := false } := upC_self _ _ _
  unfold Eng.softirq Eng.fire
  rw [e1, e0]
  refine Prod.ext ?_ rfl
  show ({ ((E.unraise i).setC i (softR E.C (E.c i))).look i with wh := delAll E.wh (E.fired i true) } : Eng) = _
  unfold Eng.unraise
  rw [setC_setC, look_setC]
  rfl
/-- What can be done. -/
inductive Act (E : Eng) : Eng → List Frd → Prop where
  | kick (i : Nat) : E.on.testBit i = true → (E.c i).kicked = true → Act E (E.kick i) []
  | irq (i : Nat) : E.on.testBit i = true → (E.c i).D.latched = true → Act E (E.irq i).1 (E.irq i).2
  | soft (i : Nat) : E.on.testBit i = true → (E.c i).raised = true → Act E (E.softirq i).1 (E.softirq i).2
theorem one_act {F : List Frd} (h : E.one = some (E', F)) : Act E E' F := by
  unfold Eng.one at h
  split at h
  · next i hi =>
    cases h
    exact .kick i (listM_mem.1 (List.mem_of_find?_eq_some hi)).2 (by simpa using List.find?_some hi)
  · split at h
    · next i hi =>
      have h1 := Option.some.inj h
      have := Act.irq (E := E) i (listM_mem.1 (List.mem_of_find?_eq_some hi)).2 (by simpa using List.find?_some hi)
      rw [h1] at this
      exact this
    · split at h
      · next i hi =>
        have h1 := Option.some.inj h
        have := Act.soft (E := E) i (listM_mem.1 (List.mem_of_find?_eq_some hi)).2 (by simpa using List.find?_some hi)
        rw [h1] at this
        exact this
      · cases h
theorem one_none (hon : OnOk E) (h : E.one = none) {i : Nat} (hi : E.on.testBit i = true) : (E.c i).kicked = false ∧ (E.c i).D.latched = false ∧ (E.c i).raised = false := by
  unfold Eng.one at h
  have hm : i ∈ listM E.on 16 := listM_mem.2 ⟨Nat.lt_of_lt_of_le (hon.n i hi) hon.n16, hi⟩
  split at h
  · cases h
  · next h1 =>
    split at h
    · cases h
    · next h2 =>
      split at h
      · cases h
      · next h3 =>
        rw [List.find?_eq_none] at h1 h2 h3
        exact ⟨by simpa using h1 i hm, by simpa using h2 i hm, by simpa using h3 i hm⟩
theorem lookD_same (C : Clk) (c : Cp) : (lookD C c).lo = c.D.lo ∧ (lookD C c).hi = c.D.hi ∧ (lookD C c).latched = c.D.latched ∧ (lookD C c).off = c.D.off := by
  unfold lookD Dev.sooner
  split <;> exact ⟨rfl, rfl, rfl, rfl⟩
theorem take_same (D : Dev) : D.take.1.lo = D.lo ∧ D.take.1.hi = D.hi ∧ D.take.1.latched = false ∧ D.take.1.off = D.off ∧ D.take.1.armed = D.armed ∧ D.take.1.at' = D.at' := by
  unfold Dev.take
  split
  · exact ⟨rfl, rfl, rfl, rfl, rfl, rfl⟩
  · next h => exact ⟨rfl, rfl, by simpa using h, rfl, rfl, rfl⟩
/-- A processor is turned, and its timers are as they were. -/
theorem Inv.cp (h : Inv lo hi E) (i : Nat) {c : Cp} (hq : c.Q = (E.c i).Q) (hd : c.D.lo = (E.c i).D.lo ∧ c.D.hi = (E.c i).D.hi) : Inv lo hi (E.setC i c) ∧ (E.setC i c).all = E.all := by
  refine h.same rfl (fun k hk => ?_) rfl h.ck ⟨h.on.lt, h.on.n, h.on.n16⟩ (fun _ q => q) fun k hk => ?_
  · show (upC E.c i c k).Q = _
    unfold upC; split
    · next e => rw [e]; exact hq
    · rfl
  · show (upC E.c i c k).D.lo = _ ∧ (upC E.c i c k).D.hi = _
    unfold upC; split
    · next e => rw [e]; exact hd
    · exact ⟨rfl, rfl⟩
theorem Inv.look (h : Inv lo hi E) (i : Nat) : Inv lo hi (E.look i) ∧ (E.look i).all = E.all :=
  h.cp i rfl ⟨(lookD_same _ _).1, (lookD_same _ _).2.1⟩
theorem Inv.kick (h : Inv lo hi E) (i : Nat) : Inv lo hi (E.kick i) ∧ (E.kick i).all = E.all := by
  rw [kick_eq]
  exact h.cp i rfl ⟨(lookD_same _ _).1, (lookD_same _ _).2.1⟩
/-- Timers fire, with their times. -/
def FrL (E : Eng) (L : List (Tmr × Nat)) (F : List Frd) : Prop := F = L.map (fun y => frdOf E.C y.2 y.1) ∧ ∀ y ∈ L, isDue y.1 (E.C.tm y.1.ck.toNat) = true
theorem fired_due (h : Inv lo hi E) {i : Nat} (hi0 : i < E.n) (lazy : Bool) : ∀ t ∈ E.fired i lazy, isDue t (E.C.tm t.ck.toNat) = true := by
  intro t ht
  unfold Eng.fired expB at ht
  simp only [List.mem_flatMap, List.mem_range] at ht
  obtain ⟨j, hj, ht⟩ := ht
  have hm : t ∈ (E.c i).Q j := by
    unfold expS expL at ht
    split at ht
    · exact (List.takeWhile_sublist _).subset ht
    · cases ht
  have hp := (h.pl i hi0 j hj t hm).1
  have e : t.ck.toNat = j / 2 := by omega
  rw [e]
  unfold expS expL at ht
  split at ht
  · have key : ∀ l : List Tmr, t ∈ l.takeWhile (fun t => isDue t (E.C.tm (j / 2))) → isDue t (E.C.tm (j / 2)) = true := by
      intro l
      induction l with
      | nil => intro q; cases q
      | cons u l ih =>
        intro q
        rw [List.takeWhile_cons] at q
        split at q
        · next hu =>
          rcases List.mem_cons.1 q with rfl | q
          · exact hu
          · exact ih q
        · cases q
    exact key _ ht
  · cases ht
theorem Inv.firs (h : Inv lo hi E) {i : Nat} (hi0 : i < E.n) {lazy : Bool} {c : Cp} (hq : c.Q = restB (E.c i).Q E.C.tm lazy 6) (hd : c.D.lo = (E.c i).D.lo ∧ c.D.hi = (E.c i).D.hi) :
    Inv lo hi { E.setC i c with wh := delAll E.wh (E.fired i lazy) } ∧ E.all.Perm (((E.fired i lazy).map fun t => (t, i)) ++ ({ E.setC i c with wh := delAll E.wh (E.fired i lazy) } : Eng).all) := by
  obtain ⟨f1, f2⟩ := h.fire hi0 lazy
  have e : { E.setC i c with wh := delAll E.wh (E.fired i lazy) } = (E.fire i lazy).1.setC i c := by
    show _ = ({ (E.setC i _).setC i c with wh := _ } : Eng)
    rw [setC_setC]
    rfl
  have eq : (E.fire i lazy).1.c i = { E.c i with Q := restB (E.c i).Q E.C.tm lazy 6 } := upC_self _ _ _
  rw [e]
  obtain ⟨g1, g2⟩ := f1.cp i (c := c) (by rw [eq]; exact hq) (by rw [eq]; exact hd)
  rw [g2]
  exact ⟨g1, f2⟩
theorem Inv.act {F : List Frd} (h : Inv lo hi E) (ha : Act E E' F) : Inv lo hi E' ∧ E'.C = E.C ∧ E'.on = E.on ∧ E'.n = E.n ∧ ∃ L, FrL E L F ∧ E.all.Perm (L ++ E'.all) := by
  rcases ha with ⟨i, h1, h2⟩ | ⟨i, h1, h2⟩ | ⟨i, h1, h2⟩
  · obtain ⟨k1, k2⟩ := h.kick i
    refine ⟨k1, by rw [kick_eq]; rfl, by rw [kick_eq]; rfl, by rw [kick_eq]; rfl, [], ⟨rfl, fun y hy => by cases hy⟩, by rw [k2]; exact List.Perm.refl _⟩
  · have hi0 := h.on.n i h1
    rw [irq_eq]
    have t := take_same (E.c i).D
    have l := lookD_same E.C (irqR E.C (E.c i))
    obtain ⟨k1, k2⟩ := h.firs hi0 (lazy := false) (c := irqC E.C (E.c i)) rfl ⟨l.1.trans t.1, l.2.1.trans t.2.1⟩
    refine ⟨k1, rfl, rfl, rfl, (E.fired i false).map fun t => (t, i), ⟨?_, fun y hy => ?_⟩, k2⟩
    · rw [List.map_map]; rfl
    · obtain ⟨t, ht, rfl⟩ := List.mem_map.1 hy
      exact fired_due h hi0 false t ht
  · have hi0 := h.on.n i h1
    rw [soft_eq]
    have l := lookD_same E.C (softR E.C (E.c i))
    obtain ⟨k1, k2⟩ := h.firs hi0 (lazy := true) (c := softC E.C (E.c i)) rfl ⟨l.1, l.2.1⟩
    refine ⟨k1, rfl, rfl, rfl, (E.fired i true).map fun t => (t, i), ⟨?_, fun y hy => ?_⟩, k2⟩
    · rw [List.map_map]; rfl
    · obtain ⟨t, ht, rfl⟩ := List.mem_map.1 hy
      exact fired_due h hi0 true t ht
/-! ### it ends -/
def cnt (c : Cp) : Nat := c.kicked.toNat + 2 * c.D.latched.toNat + c.raised.toNat
def Eng.mu (E : Eng) : Nat := ((List.range E.n).map fun i => cnt (E.c i)).sum
theorem mu_at (E : Eng) {i : Nat} (hi0 : i < E.n) : ∃ R, ∀ c, (E.setC i c).mu = cnt c + R := by
  refine ⟨(((List.range E.n).erase i).map fun k => cnt (E.c k)).sum, fun c => ?_⟩
  unfold Eng.mu
  show ((List.range E.n).map fun k => cnt (upC E.c i c k)).sum = _
  rw [((List.perm_cons_erase (List.mem_range.2 hi0)).map _).sum_nat, List.map_cons, List.sum_cons, upC_self]
  congr 2
  refine List.map_congr_left fun k hk => ?_
  have : k ≠ i := fun e => by
    subst e
    exact (List.nodup_range.not_mem_erase) hk
  rw [upC_ne _ _ this]
theorem mu_setC {i : Nat} (hi0 : i < E.n) {c : Cp} (h : cnt c < cnt (E.c i)) : (E.setC i c).mu < E.mu := by
  obtain ⟨R, hR⟩ := mu_at E hi0
  have h1 := hR (E.c i)
  rw [setC_same] at h1
  have h2 := hR c
  omega
theorem mu_act {F : List Frd} (hon : OnOk E) (ha : Act E E' F) : E'.mu < E.mu := by
  rcases ha with ⟨i, h1, h2⟩ | ⟨i, h1, h2⟩ | ⟨i, h1, h2⟩
  · have hi0 := hon.n i h1
    rw [kick_eq]
    refine mu_setC hi0 ?_
    unfold cnt kickC
    dsimp only
    rw [(lookD_same _ _).2.2.1, h2]
    simp
  · have hi0 := hon.n i h1
    rw [irq_eq]
    refine mu_setC (E := E) hi0 (c := irqC E.C (E.c i)) ?_
    unfold cnt irqC
    dsimp only
    rw [(lookD_same _ _).2.2.1, h2]
    have := (take_same (E.c i).D).2.2.1
    unfold irqR
    dsimp only
    rw [this]
    have hb : ∀ b : Bool, b.toNat ≤ 1 := fun b => by cases b <;> decide
    have := hb ((E.c i).raised || dueB (restB (E.c i).Q E.C.tm false 6) E.C.tm true)
    simp
    omega
  · have hi0 := hon.n i h1
    rw [soft_eq]
    refine mu_setC (E := E) hi0 (c := softC E.C (E.c i)) ?_
    unfold cnt softC
    dsimp only
    rw [(lookD_same _ _).2.2.1, h2]
    unfold softR
    simp
theorem settles (h : Inv lo hi E) : ∃ k E' F, SetTo k E E' F := by
  obtain ⟨M, hM⟩ : ∃ M, E.mu < M := ⟨_, Nat.lt_succ_self _⟩
  induction M generalizing E with
  | zero => omega
  | succ M ih =>
    cases h1 : E.one with
    | none => exact ⟨0, E, [], .stop E h1⟩
    | some x =>
      obtain ⟨E1, F1⟩ := x
      have ha := one_act h1
      have hm := mu_act h.on ha
      obtain ⟨k, E', F, hs⟩ := ih (h.act ha).1 (by omega)
      exact ⟨k + 1, E', F1 ++ F, .step k E E1 E' F1 F h1 hs⟩
theorem SetTo.inv {k : Nat} {F : List Frd} (hs : SetTo k E E' F) (h : Inv lo hi E) : Inv lo hi E' ∧ E'.C = E.C ∧ E'.on = E.on ∧ E'.n = E.n ∧ ∃ L, FrL E L F ∧ E.all.Perm (L ++ E'.all) := by
  induction hs with
  | stop E _ => exact ⟨h, rfl, rfl, rfl, [], ⟨rfl, fun y hy => by cases hy⟩, List.Perm.refl _⟩
  | step n E E1 E' F F' h1 _ ih =>
    obtain ⟨a1, a2, a3, a4, L1, ⟨a5, a6⟩, a7⟩ := h.act (one_act h1)
    obtain ⟨b1, b2, b3, b4, L2, ⟨b5, b6⟩, b7⟩ := ih a1
    refine ⟨b1, b2.trans a2, b3.trans a3, b4.trans a4, L1 ++ L2, ⟨?_, fun y hy => ?_⟩, ?_⟩
    · rw [List.map_append, a5, b5, a2]
    · rcases List.mem_append.1 hy with q | q
      · exact a6 y q
      · have := b6 y q
        rw [a2] at this
        exact this
    · rw [List.append_assoc]
      exact a7.trans (b7.append_left L1)
/-- What always holds, for settling. -/
theorem holds_inv (n : Nat) : Holds (fun E => Inv lo hi E ∧ E.n = n) n :=
  ⟨fun E h => ⟨h.1.ck, h.1.on, fun i hi => h.1.fireOk hi, h.2⟩, fun E E1 F h h1 => by
    obtain ⟨a1, a2, a3, a4, _⟩ := h.1.act (one_act h1)
    exact ⟨a1, a4.trans h.2⟩⟩
end
set_option maxHeartbeats 4000000
inductive DoTo (E : Eng) (s : Stq) : Eng → List Frd → Int → Prop where
  | start : s.kind = 1 → DoTo E s (E.start s).1 [] (E.start s).2
  | cancel : s.kind = 2 → DoTo E s (E.cancel s.n).1 [] (E.cancel s.n).2
  | adv : s.kind = 3 → DoTo E s (E.advance s.n).1 [] (E.advance s.n).2
  | act (E' : Eng) (F : List Frd) : s.kind = 4 ∨ s.kind = 5 ∨ s.kind = 6 → Act E E' F → DoTo E s E' F 0
  | set : s.kind = 7 → DoTo E s (E.stepC (E.C.set s.n).1) [] (E.C.set s.n).2
  | susp : s.kind = 8 → DoTo E s (E.stepC E.C.suspend.1) [] E.C.suspend.2
  | res : s.kind = 9 → DoTo E s (E.stepC E.C.resume.1) [] E.C.resume.2
  | off (i to : Nat) : s.kind = 10 → E.on.testBit i = true → (woM E.on i).testBit to = true → DoTo E s (E.gone i to) [] 0
  | bring : s.kind = 11 → DoTo E s (E.bring s.cpu).1 [] (E.bring s.cpu).2
  | settle (k : Nat) (E' : Eng) (F : List Frd) : s.kind = 12 → SetTo k E E' F → DoTo E s E' F 0
  | non (x : Int) : x ≠ 0 → s.kind ≠ 1 ∧ s.kind ≠ 2 ∧ s.kind ≠ 3 ∧ s.kind ≠ 7 ∧ s.kind ≠ 8 ∧ s.kind ≠ 9 ∧ s.kind ≠ 12 → DoTo E s E [] x
def Clk.did (C : Clk) (s : Stq) : Clk := if s.kind = 3 then (C.adv s.n).1 else if s.kind = 7 then (C.set s.n).1 else if s.kind = 8 then C.suspend.1 else if s.kind = 9 then C.resume.1 else C
def Eng.ts (E : Eng) : List Tmr := E.all.map (·.1)
/-- What a step does to the clock, and to all timers. -/
structure Eff (E : Eng) (s : Stq) (E' : Eng) (F : List Frd) (x : Int) : Prop where
  ck : E'.C = E.C.did s
  n : E'.n = E.n
  fr : ∃ L G, FrL E' L F ∧ ((if s.kind = 1 ∧ x = 0 then [s.t] else []) ++ E.ts).Perm (L.map (·.1) ++ (G ++ E'.ts)) ∧ if s.kind = 2 ∧ x = 0 then ∃ t : Tmr, G = [t] ∧ t.id = s.n else G = []
  c1 : s.kind = 1 → x = 0 → getN E.wh s.t.id = none
  c2 : s.kind = 2 → (x = 0 ↔ (getN E.wh s.n).isSome = true)
section
variable {lo hi : Int} {E E' : Eng} {s : Stq}
theorem start_spec (h : Inv lo hi E) (s : Stq) : (∃ x, x ≠ 0 ∧ E.start s = (E, x)) ∨
    (∃ i : Nat, s.cpu = i ∧ E.on.testBit i = true ∧ 0 ≤ s.t.ck ∧ s.t.ck < 3 ∧ s.t.soft ≤ s.t.hard ∧ getN E.wh s.t.id = none ∧ E.wh.length < 64 ∧ E.start s = ((E.come i s.t).look i, 0)) := by
  unfold Eng.start
  split
  · exact .inl ⟨2, by decide, rfl⟩
  · next h1 =>
    simp only [not_or, Bool.not_eq_false] at h1
    obtain ⟨hh, c1, c2, c3⟩ := h1
    split
    · exact .inl ⟨9, by decide, rfl⟩
    · next h2 =>
      have hg : getN E.wh s.t.id = none := by simpa using h2
      split
      · exact .inl ⟨3, by decide, rfl⟩
      · next h3 =>
        obtain ⟨k1, k2⟩ := hasM_n h.on hh
        have hb : E.on.testBit s.cpu.toNat = true := by
          unfold hasM at hh
          simp only [Bool.and_eq_true, decide_eq_true_eq] at hh
          exact hh.2
        have hq := startQ_ok (Q := (E.c s.cpu.toNat).Q) (t := s.t) (by omega) (by omega) (by omega) (hasB_none h hg k1)
        rw [if_pos hq.1, hq.2]
        exact .inr ⟨s.cpu.toNat, k2, hb, by omega, by omega, by omega, hg, by omega, rfl⟩
theorem cancel_spec (h : Inv lo hi E) (id : Int) : (getN E.wh id = none ∧ E.cancel id = (E, 7)) ∨ (∃ (t : Tmr) (i : Nat), (t, i) ∈ E.all ∧ t.id = id ∧ getN E.wh id = some i ∧ E.cancel id = (E.drop i id, 0)) := by
  unfold Eng.cancel
  cases hg : getN E.wh id with
  | none => exact .inl ⟨rfl, rfl⟩
  | some i =>
    obtain ⟨t, ht, e⟩ := h.get.1 hg
    exact .inr ⟨t, i, ht, e, rfl, rfl⟩
theorem pass_same (C : Clk) (c : Cp) : (passC C c).Q = c.Q ∧ (passC C c).D.lo = c.D.lo ∧ (passC C c).D.hi = c.D.hi ∧ (passC C c).D.off = c.D.off ∧ (passC C c).raised = c.raised ∧ (passC C c).kicked = c.kicked := by
  unfold passC Dev.pass
  split <;> exact ⟨rfl, rfl, rfl, rfl, rfl, rfl⟩
theorem passed_c (E : Eng) {i : Nat} (hi0 : i < E.n) : (E.passed E.n).c i = passC E.C (E.c i) := if_pos hi0
theorem adv_spec (E : Eng) (n : Int) : ((E.C.adv n).1 = E.C ∧ (E.C.adv n).2 ≠ 0 ∧ E.advance n = (E, (E.C.adv n).2)) ∨ ((E.C.adv n).2 = 0 ∧ E.advance n = (({ E with C := (E.C.adv n).1 } : Eng).passed E.n, 0)) := by
  unfold Eng.advance
  split
  · next h => exact .inr ⟨h, rfl⟩
  · next h =>
    refine .inl ⟨?_, h, rfl⟩
    unfold Clk.adv at h ⊢
    split
    · rfl
    · next h2 => rw [if_neg h2] at h; exact absurd rfl h
theorem Inv.clk (h : Inv lo hi E) {C : Clk} (hC : CkOk C) : Inv lo hi { E with C := C } ∧ ({ E with C := C } : Eng).all = E.all :=
  h.same rfl (fun _ _ => rfl) rfl hC ⟨h.on.lt, h.on.n, h.on.n16⟩ (fun _ q => q) fun _ _ => ⟨rfl, rfl⟩
theorem Inv.adv (h : Inv lo hi E) {C : Clk} (hC : CkOk C) : Inv lo hi (({ E with C := C } : Eng).passed E.n) ∧ (({ E with C := C } : Eng).passed E.n).all = E.all := by
  refine h.same rfl (fun k hk => ?_) rfl hC ⟨h.on.lt, h.on.n, h.on.n16⟩ (fun _ q => q) fun k hk => ?_
  · have := passed_c { E with C := C } hk
    rw [this]; exact (pass_same _ _).1
  · have := passed_c { E with C := C } hk
    rw [this]; exact ⟨(pass_same _ _).2.1, (pass_same _ _).2.2.1⟩
theorem kicks_c (E : Eng) (l : List Nat) (i : Nat) : (E.kicks l).c i = if i ∈ l then { E.c i with kicked := true } else E.c i := by
  unfold Eng.kicks
  induction l generalizing E with
  | nil => simp
  | cons k l ih =>
    rw [List.foldl_cons, ih]
    have e : (E.setC k { E.c k with kicked := true }).c i = if i = k then { E.c i with kicked := true } else E.c i := by
      show upC _ _ _ _ = _
      unfold upC
      split
      · next e => rw [e]
      · rfl
    rw [e]
    by_cases h1 : i = k
    · subst h1; simp
    · simp [h1]
theorem Inv.stepC (h : Inv lo hi E) {C : Clk} (hC : CkOk C) : Inv lo hi (E.stepC C) ∧ (E.stepC C).all = E.all ∧ (E.stepC C).C = C ∧ (E.stepC C).on = E.on ∧ (E.stepC C).n = E.n := by
  obtain ⟨c1, c2⟩ := h.clk hC
  unfold Eng.stepC
  split
  · exact ⟨c1, c2, rfl, rfl, rfl⟩
  · obtain ⟨k1, k2, k3, k4⟩ := kicks_same { E with C := C } (listM E.on 16)
    have e : ∀ i, ((({ E with C := C } : Eng).kicks (listM E.on 16)).c i).Q = (E.c i).Q ∧ ((({ E with C := C } : Eng).kicks (listM E.on 16)).c i).D = (E.c i).D := fun i => by
      rw [kicks_c]; split <;> exact ⟨rfl, rfl⟩
    obtain ⟨d1, d2⟩ := h.same (E' := ({ E with C := C } : Eng).kicks (listM E.on 16)) k1 (fun i _ => (e i).1) k4 (by rw [k2]; exact hC) ⟨by rw [k3]; exact h.on.lt, by rw [k3, k1]; exact h.on.n, by rw [k1]; exact h.on.n16⟩ (by rw [k3]; exact fun _ q => q) fun i _ => by rw [(e i).2]; exact ⟨rfl, rfl⟩
    exact ⟨d1, d2, k2, k3, k1⟩
theorem Inv.moves (h : Inv lo hi E) {i to : Nat} (hne : to ≠ i) (hb : E.on.testBit to = true) {l : List Tmr} (hl : ∀ t ∈ l, (t, i) ∈ E.all) (hn : (l.map (·.id)).Nodup) :
    Inv lo hi (E.moves i to l) ∧ (E.moves i to l).ts.Perm E.ts ∧ ∀ j t, t ∈ ((E.moves i to l).c i).Q j → t ∈ (E.c i).Q j ∧ ∀ u ∈ l, t.id ≠ u.id := by
  unfold Eng.moves
  induction l generalizing E with
  | nil => exact ⟨h, List.Perm.refl _, fun j t ht => ⟨ht, fun u hu => by cases hu⟩⟩
  | cons t l ih =>
    rw [List.map_cons, List.nodup_cons] at hn
    obtain ⟨m1, R, m2, m3⟩ := h.move1 hne hb (hl t (by simp))
    have hl' : ∀ u ∈ l, (u, i) ∈ (E.move1 i to t).all := fun u hu => by
      have h1 := hl u (by simp [hu])
      rcases List.mem_cons.1 (m2.mem_iff.1 h1) with e | e
      · cases e
        exact absurd (List.mem_map.2 ⟨_, hu, rfl⟩) hn.1
      · exact m3.mem_iff.2 (List.mem_cons_of_mem _ e)
    obtain ⟨i1, i2, i3⟩ := ih (E := E.move1 i to t) m1 hb hl' hn.2
    refine ⟨i1, i2.trans ?_, fun j u hu => ?_⟩
    · have p1 := m2.map (·.1)
      have p2 := m3.map (·.1)
      exact p2.trans p1.symm
    · obtain ⟨q1, q2⟩ := i3 j u hu
      rw [move1_i E hne t] at q1
      have q3 := List.mem_filter.1 q1
      refine ⟨q3.1, fun v hv => ?_⟩
      rcases List.mem_cons.1 hv with rfl | hv
      · simpa using q3.2
      · exact q2 v hv
theorem Inv.gone (h : Inv lo hi E) {i to : Nat} (hi0 : E.on.testBit i = true) (hb : (woM E.on i).testBit to = true) : Inv lo hi (E.gone i to) ∧ (E.gone i to).ts.Perm E.ts ∧ (E.gone i to).C = E.C ∧ (E.gone i to).n = E.n ∧ (E.gone i to).on = woM E.on i := by
  have h16 := h.on.n16
  have hlt := h.on.lt
  have hin := h.on.n i hi0
  have hbit := woM_bit hlt (i := i) (by omega)
  have hb2 := hb
  rw [hbit] at hb2
  simp only [Bool.and_eq_true, Bool.not_eq_true', decide_eq_false_iff_not] at hb2
  have hne : to ≠ i := fun q => hb2.2 q.symm
  obtain ⟨m1, m2, m3⟩ := h.moves hne hb2.1 (l := allB (E.c i).Q 6) (fun t ht => by obtain ⟨j, hj, q⟩ := allB_mem.1 ht; exact all_mem.2 ⟨hin, j, hj, q⟩) (h.idsB hin)
  have hs := moves_same E i to (allB (E.c i).Q 6)
  unfold Eng.gone
  generalize E.moves i to (allB (E.c i).Q 6) = E1 at *
  obtain ⟨s1, s2, s3⟩ := hs
  have hin1 : i < E1.n := by rw [s1]; exact hin
  obtain ⟨q1, q2⟩ := m1.cp i (c := { E1.c i with D := { (E1.c i).D with armed := false, latched := false, off := true }, raised := false, kicked := false }) rfl ⟨rfl, rfl⟩
  have q1 : Inv lo hi (E1.quiet i) := q1
  have q2 : (E1.quiet i).all = E1.all := q2
  have eQ : ((E1.quiet i).c i).Q = (E1.c i).Q := by
    show (upC _ _ _ _).Q = _
    rw [upC_self]
  have hno : ∀ t, (t, i) ∉ (E1.quiet i).all := fun t ht => by
    rw [q2] at ht
    obtain ⟨_, j, hj, ht⟩ := all_mem.1 ht
    obtain ⟨p1, p2⟩ := m3 j t ht
    exact p2 t (allB_mem.2 ⟨j, hj, p1⟩) rfl
  have ewn : woM E.on i ≠ 0 := fun e => by rw [e] at hb; simp at hb
  have fin : Inv lo hi { E1.quiet i with on := woM E.on i } := by
    refine ⟨q1.ck, ⟨woM_lt _ _, fun k hk => ?_, q1.on.n16⟩, ewn, q1.pm, q1.nd, q1.len, q1.pl, q1.srt, fun x hx => ?_, q1.dev⟩
    · have hk : (woM E.on i).testBit k = true := hk
      rw [hbit, Bool.and_eq_true] at hk
      show k < E1.n
      rw [s1]
      exact h.on.n k hk.1
    · have h1 := q1.onl x hx
      show (woM E.on i).testBit x.2 = true
      rw [hbit]
      have e1 : (E1.quiet i).on = E.on := s3
      rw [e1] at h1
      rw [h1]
      simp only [Bool.true_and, Bool.not_eq_true', decide_eq_false_iff_not]
      intro e
      obtain ⟨y, hy, e2⟩ := List.mem_map.1 (q1.pm.mem_iff.2 hx)
      have : y.2 = i := by rw [e, ← e2]
      obtain ⟨t, k⟩ := y
      simp only at this
      subst this
      exact hno t hy
  obtain ⟨l1, l2⟩ := fin.look to
  refine ⟨l1, ?_, s2, s1, rfl⟩
  unfold Eng.ts
  rw [l2]
  show ((E1.quiet i).all.map (·.1)).Perm _
  rw [q2]; exact m2
theorem bitN_or {w : Nat} {k j : Nat} (hk : k < 16) : (w ||| bitN k).testBit j = (w.testBit j || decide (k = j)) := by rw [Nat.testBit_or, bitN_bit k j hk]
theorem bring_spec (h : Inv lo hi E) (i : Int) : (∃ x, x ≠ 0 ∧ E.bring i = (E, x)) ∨ (∃ k : Nat, i = k ∧ k < E.n ∧ E.on.testBit k = false ∧ E.bring i = ({ E.setC k { E.c k with D := { (E.c k).D with off := false } } with on := E.on ||| bitN k }, 0)) := by
  unfold Eng.bring
  split
  · exact .inl ⟨2, by decide, rfl⟩
  · next h1 =>
    split
    · exact .inl ⟨8, by decide, rfl⟩
    · next h2 =>
      obtain ⟨k, rfl⟩ := Int.eq_ofNat_of_zero_le (show 0 ≤ i by omega)
      have h16 := h.on.n16
      refine .inr ⟨k, rfl, by omega, ?_, rfl⟩
      unfold hasM at h2
      rw [decide_eq_true (by omega), decide_eq_true (by omega)] at h2
      simpa using h2
theorem Inv.bring (h : Inv lo hi E) {k : Nat} (hk : k < E.n) : Inv lo hi { E.setC k { E.c k with D := { (E.c k).D with off := false } } with on := E.on ||| bitN k } ∧ ({ E.setC k { E.c k with D := { (E.c k).D with off := false } } with on := E.on ||| bitN k } : Eng).all = E.all := by
  have h16 := h.on.n16
  have hbit : ∀ j, (E.on ||| bitN k).testBit j = (E.on.testBit j || decide (k = j)) := fun j => bitN_or (by omega)
  refine h.same rfl (fun i hi0 => ?_) rfl h.ck ⟨?_, fun j hj => ?_, h.on.n16⟩ (fun j hj => ?_) fun i hi0 => ?_
  · show (upC E.c k _ i).Q = _
    unfold upC; split
    · next e => rw [e]
    · rfl
  · exact Nat.or_lt_two_pow (n := 16) h.on.lt (bitN_lt k)
  · have hj : (E.on ||| bitN k).testBit j = true := hj
    rw [hbit, Bool.or_eq_true, decide_eq_true_eq] at hj
    rcases hj with hj | rfl
    · exact h.on.n j hj
    · exact hk
  · show (E.on ||| bitN k).testBit j = true
    rw [hbit, hj]; rfl
  · show (upC E.c k _ i).D.lo = _ ∧ (upC E.c k _ i).D.hi = _
    unfold upC; split
    · next e => rw [e]; exact ⟨rfl, rfl⟩
    · exact ⟨rfl, rfl⟩
end
end Go.Proofs.YtkcpojagecfcbaaGreatDoor
