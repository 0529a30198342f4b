/-
  A MERGER, as it lies: its row, its rows, its heap.
  A MERGER's calls: lift, Put, Take, Close.
  A MERGER's calls: Put, Close.
  A MERGER's calls: Close, Take.
-/
import Derived.Test.YthkopgcdghbjlaaQx
import Derived.Test.YthkopgcdghbjlaaNx
namespace Go.Proofs.Ythkopgcdghbjlaa
open Go Go.AM
set_option linter.unusedVariables false
set_option linter.unusedSimpArgs false
set_option maxRecDepth 60000
set_option maxHeartbeats 8000000

/-- A row of a merger: what waits behind its first one, and its marks. -/
structure Rec where
  v : V
  S : List It
  la : Int
  so : Bool
  fr : Bool
  cl : Bool
def Rec.cs (x : Rec) : List V := [x.v, .int .i64 x.la, .bool x.so, .bool x.fr, .bool x.cl]
def setv {α : Type} (v : Nat → α) (s : Nat) (x : α) : Nat → α := fun i => if i = s then x else v i
theorem setv_self {α : Type} (v : Nat → α) (s : Nat) (x : α) : setv v s x s = x := by simp [setv]
theorem setv_ne {α : Type} (v : Nat → α) {s i : Nat} (x : α) (h : i ≠ s) : setv v s x i = v i := by simp [setv, h]
theorem setv_setv {α : Type} (v : Nat → α) (s : Nat) (x y : α) : setv (setv v s x) s y = setv v s y := by
  funext i; unfold setv; split <;> rfl

abbrev mcs (r N : Nat) (fv : V) (nn bb : Int) : List V := [.sl (some (r, 0, 5)) N (some N), fv, .int .i64 nn, .int .i64 bb]

structure Mg (m : Mem) (q r N : Nat) (fv : V) (L : List Ot) (nn bb : Int) (R : Nat → Rec) : Prop where
  ltq : q < m.next
  ltr : r < m.next
  qr : q ≠ r
  oq : m.obj q = some (.row 4 [mcs r N fv nn bb] true)
  orr : ∃ rows, m.obj r = some (.row 5 rows true) ∧ rows.length = N ∧ ∀ i, i < N → rows[i]? = some (R i).cs
  hp : Ows m 3 fv (L.map ot)
  he : Heap L L.length
  nqf : q ∉ fv.fp
  nrf : r ∉ fv.fp
  sl : ∀ i, i < N → Ows m 2 (R i).v (rowP (R i).S)
  ns : ∀ i, i < N → q ∉ (R i).v.fp ∧ r ∉ (R i).v.fp
  nf : ∀ i, i < N → ∀ p ∈ (R i).v.fp, p ∉ fv.fp
  dj : ∀ i j, i < N → j < N → i ≠ j → ∀ p ∈ (R i).v.fp, p ∉ (R j).v.fp
/-- All that is its own. -/
def fpM (q r N : Nat) (fv : V) (R : Nat → Rec) : List Nat := q :: r :: (fv.fp ++ (List.range N).flatMap fun i => (R i).v.fp)
theorem mem_fpM {q r N : Nat} {fv : V} {R : Nat → Rec} {p : Nat} : p ∈ fpM q r N fv R ↔ p = q ∨ p = r ∨ p ∈ fv.fp ∨ ∃ i, i < N ∧ p ∈ (R i).v.fp := by
  unfold fpM; simp
section
variable {m m' : Mem} {q r N : Nat} {fv : V} {L : List Ot} {nn bb : Int} {R : Nat → Rec}
theorem Mg.lt (h : Mg m q r N fv L nn bb R) : ∀ p ∈ fpM q r N fv R, p < m.next := fun p hp => by
  rcases mem_fpM.1 hp with rfl | rfl | hp | ⟨i, hi, hp⟩
  · exact h.ltq
  · exact h.ltr
  · exact h.hp.lt p hp
  · exact (h.sl i hi).lt p hp
theorem Mg.keep (h : Mg m q r N fv L nn bb R) (hn : m.next ≤ m'.next) (ho : ∀ p ∈ fpM q r N fv R, m'.obj p = m.obj p) : Mg m' q r N fv L nn bb R := by
  have hq := h.ltq
  have hr := h.ltr
  refine ⟨by omega, by omega, h.qr, ?_, ?_, h.hp.keep hn fun p hp => ho p (mem_fpM.2 (.inr (.inr (.inl hp)))), h.he, h.nqf, h.nrf, fun i hi => (h.sl i hi).keep hn fun p hp => ho p (mem_fpM.2 (.inr (.inr (.inr ⟨i, hi, hp⟩)))), h.ns, h.nf, h.dj⟩
  · rw [ho q (mem_fpM.2 (.inl rfl))]; exact h.oq
  · rw [ho r (mem_fpM.2 (.inr (.inl rfl)))]; exact h.orr
theorem Mg.grow (h : Mg m q r N fv L nn bb R) (hg : m.Grew m') : Mg m' q r N fv L nn bb R := h.keep hg.next fun p hp => hg.obj p (h.lt p hp)
theorem Mg.step {D D' : List Nat} (h : Mg m q r N fv L nn bb R) (hs : Stp m m' D D') (hd : ∀ p ∈ D, p ∉ fpM q r N fv R) : Mg m' q r N fv L nn bb R := h.keep hs.next (hs.keep h.lt hd)
/-- How many wait, and how many rows are bare, anew. -/
theorem Mg.setQ (h : Mg m q r N fv L nn bb R) (nn' bb' : Int) : Mg (m.upd q (some (.row 4 [mcs r N fv nn' bb'] true))) q r N fv L nn' bb' R ∧ Stp m (m.upd q (some (.row 4 [mcs r N fv nn' bb'] true))) (fpM q r N fv R) (fpM q r N fv R) := by
  refine ⟨⟨by simp; exact h.ltq, by simp; exact h.ltr, h.qr, by simp, ?_, h.hp.keep (by simp) fun p hp => updO _ (fun e => h.nqf (by rw [← e]; exact hp)), h.he, h.nqf, h.nrf, fun i hi => (h.sl i hi).keep (by simp) fun p hp => updO _ (fun e => (h.ns i hi).1 (by rw [← e]; exact hp)), h.ns, h.nf, h.dj⟩, Stp.upd _ (mem_fpM.2 (.inl rfl)) _⟩
  rw [updO _ h.qr.symm]; exact h.orr
/-- A row anew: its slice, and its marks. -/
theorem Mg.setR (h : Mg m q r N fv L nn bb R) {i : Nat} (hi : i < N) {rows : List (List V)} (ho : m.obj r = some (.row 5 rows true)) {x : Rec} (hx : Ows m' 2 x.v (rowP x.S)) (hs : Stp m m' (R i).v.fp x.v.fp) :
    Mg (m'.upd r (some (.row 5 (rows.set i x.cs) true))) q r N fv L nn bb (setv R i x) ∧ Stp m (m'.upd r (some (.row 5 (rows.set i x.cs) true))) (fpM q r N fv R) (fpM q r N fv (setv R i x)) := by
  have hq := h.ltq
  have hr := h.ltr
  have hn := hs.next
  have nx : q ∉ x.v.fp ∧ r ∉ x.v.fp := ⟨fun e => by
    rcases hs.fp q e with w | w
    · exact (h.ns i hi).1 w
    · omega, fun e => by
    rcases hs.fp r e with w | w
    · exact (h.ns i hi).2 w
    · omega⟩
  have oth : ∀ t, t < N → t ≠ i → ∀ p ∈ (R t).v.fp, p ∉ x.v.fp := fun t ht hts p hp e => by
    rcases hs.fp p e with w | w
    · exact h.dj t i ht hi hts p hp w
    · have := (h.sl t ht).lt p hp; omega
  obtain ⟨rows', o1, o2, o3⟩ := h.orr
  rw [ho] at o1; injection o1 with o1; injection o1 with _ o1; subst o1
  refine ⟨⟨by rw [upd_next]; omega, by rw [upd_next]; omega, h.qr, ?_, ⟨rows.set i x.cs, by simp, by simp; exact o2, fun t ht => ?_⟩, h.hp.keep (by rw [upd_next]; omega) fun p hp => ?_, h.he, h.nqf, h.nrf, fun t ht => ?_, fun t ht => ?_, fun t ht => ?_, fun a b ha hb hab p hp hp2 => ?_⟩, ⟨by rw [upd_next]; omega, fun p hp hne => ?_, fun p hp => ?_⟩⟩
  · rw [updO _ h.qr, hs.obj q hq (h.ns i hi).1]; exact h.oq
  · by_cases e : t = i
    · subst e; rw [setv_self, List.getElem?_set_self (by omega)]
    · rw [setv_ne _ _ e, List.getElem?_set_ne (fun q => e q.symm)]; exact o3 t ht
  · rw [updO _ (fun e => h.nrf (by rw [← e]; exact hp)), hs.obj p (h.hp.lt p hp) (fun e => h.nf i hi p e hp)]
  · by_cases e : t = i
    · subst e
      rw [setv_self]
      exact hx.keep (by simp) fun p hp => by rw [updO _ (fun e => nx.2 (by rw [← e]; exact hp))]
    · rw [setv_ne _ _ e]
      refine (h.sl t ht).keep (by rw [upd_next]; omega) fun p hp => ?_
      rw [updO _ (fun e2 => (h.ns t ht).2 (by rw [← e2]; exact hp)), hs.obj p ((h.sl t ht).lt p hp) (h.dj t i ht hi e p hp)]
  · by_cases e : t = i
    · subst e; rw [setv_self]; exact nx
    · rw [setv_ne _ _ e]; exact h.ns t ht
  · by_cases e : t = i
    · subst e; rw [setv_self]
      intro p hp hpf
      rcases hs.fp p hp with w | w
      · exact h.nf t ht p w hpf
      · have := h.hp.lt p hpf; omega
    · rw [setv_ne _ _ e]; exact h.nf t ht
  · by_cases e1 : a = i
    · subst e1
      rw [setv_self] at hp
      rw [setv_ne _ _ (fun e => hab e.symm)] at hp2
      exact oth b hb (fun e => hab e.symm) p hp2 hp
    · rw [setv_ne _ _ e1] at hp
      by_cases e2 : b = i
      · subst e2
        rw [setv_self] at hp2
        exact oth a ha e1 p hp hp2
      · rw [setv_ne _ _ e2] at hp2
        exact h.dj a b ha hb hab p hp hp2
  · have hne2 : p ≠ r := fun e => hne (mem_fpM.2 (.inr (.inl e)))
    rw [updO _ hne2]
    exact hs.obj p hp fun e => hne (mem_fpM.2 (.inr (.inr (.inr ⟨i, hi, e⟩))))
  · rcases mem_fpM.1 hp with e | e | hp | ⟨t, ht, hp⟩
    · exact .inl (mem_fpM.2 (.inl e))
    · exact .inl (mem_fpM.2 (.inr (.inl e)))
    · exact .inl (mem_fpM.2 (.inr (.inr (.inl hp))))
    · by_cases e : t = i
      · subst e
        rw [setv_self] at hp
        rcases hs.fp p hp with w | w
        · exact .inl (mem_fpM.2 (.inr (.inr (.inr ⟨t, ht, w⟩))))
        · exact .inr w
      · rw [setv_ne _ _ e] at hp
        exact .inl (mem_fpM.2 (.inr (.inr (.inr ⟨t, ht, hp⟩))))
/-- The heap anew. -/
theorem Mg.setF (h : Mg m q r N fv L nn bb R) {fv' : V} {L' : List Ot} (hs : Stp m m' (q :: fv.fp) (q :: fv'.fp)) (ho : m'.obj q = some (.row 4 [mcs r N fv' nn bb] true)) (hq' : q ∉ fv'.fp) (hw : Ows m' 3 fv' (L'.map ot)) (hH : Heap L' L'.length) :
    Mg m' q r N fv' L' nn bb R ∧ Stp m m' (fpM q r N fv R) (fpM q r N fv' R) := by
  have hq := h.ltq
  have hr := h.ltr
  have hn := hs.next
  have new : ∀ p ∈ fv'.fp, p ∈ fv.fp ∨ m.next ≤ p := fun p hp => by
    rcases hs.fp p (by simp [hp]) with w | w
    · rcases List.mem_cons.1 w with w | w
      · exact absurd (w ▸ hp) hq'
      · exact .inl w
    · exact .inr w
  have out : ∀ p ∈ fpM q r N fv R, p ∉ q :: fv.fp → m'.obj p = m.obj p := fun p hp hd => hs.obj p (h.lt p hp) hd
  have hoi : ∀ i, i < N → ∀ p ∈ (R i).v.fp, m'.obj p = m.obj p := fun i hi p hp => out p (mem_fpM.2 (.inr (.inr (.inr ⟨i, hi, hp⟩)))) (fun e => by
    rcases List.mem_cons.1 e with e | e
    · exact (h.ns i hi).1 (e ▸ hp)
    · exact h.nf i hi p hp e)
  have hor : m'.obj r = m.obj r := out r (mem_fpM.2 (.inr (.inl rfl))) (fun e => by
    rcases List.mem_cons.1 e with e | e
    · exact h.qr e.symm
    · exact h.nrf e)
  refine ⟨⟨by omega, by omega, h.qr, ho, by rw [hor]; exact h.orr, hw, hH, hq', fun e => ?_, fun i hi => (h.sl i hi).keep hn (hoi i hi), h.ns, fun i hi p hp e => ?_, h.dj⟩, hn, fun p hp hne => ?_, fun p hp => ?_⟩
  · rcases new r e with w | w
    · exact h.nrf w
    · omega
  · rcases new p e with w | w
    · exact h.nf i hi p hp w
    · have := (h.sl i hi).lt p hp; omega
  · refine hs.obj p hp fun e => ?_
    rcases List.mem_cons.1 e with e | e
    · exact hne (mem_fpM.2 (.inl e))
    · exact hne (mem_fpM.2 (.inr (.inr (.inl e))))
  · rcases mem_fpM.1 hp with e | e | hp | ⟨t, ht, hp⟩
    · exact .inl (mem_fpM.2 (.inl e))
    · exact .inl (mem_fpM.2 (.inr (.inl e)))
    · rcases new p hp with w | w
      · exact .inl (mem_fpM.2 (.inr (.inr (.inl w))))
      · exact .inr w
    · exact .inl (mem_fpM.2 (.inr (.inr (.inr ⟨t, ht, hp⟩))))
end

/-! ### at, ready, Len -/
section
variable {m : Mem} {q r N : Nat} {fv : V} {L : List Ot} {nn bb : Int} {R : Nat → Rec}
theorem at20 (h : Mg m q r N fv L nn bb R) {i : Nat} (hi : i < N) (hN : N ≤ 1000000) {K : KV} (hk : K (.ptr (some (r, i, 0))) m) : ACalls Try.prog 20 [.ptr (some (q, 0, 0)), .int .i64 i] m K := by
  refine run_on (ctx_nil _) hm c20 (by simp) fun hf => ?_
  have o := h.oq
  simp (disch := omega) [-getElem?_pos, b20, o]
  exact hk
theorem ready23 (h : Mg m q r N fv L nn bb R) {K : KV} (hk : K (.bool (decide (bb = 0 ∧ 0 < nn))) m) : ACalls Try.prog 23 [.ptr (some (q, 0, 0))] m K := by
  refine run_on (ctx_nil _) hm c23 (by simp) fun hf => ?_
  have o := h.oq
  by_cases h1 : bb = 0
  · by_cases h2 : 0 < nn
    · rw [decide_eq_true ⟨h1, h2⟩] at hk
      subst h1
      simp (disch := omega) [-getElem?_pos, b23, o]; exact hk
    · rw [decide_eq_false (fun e => h2 e.2)] at hk
      subst h1
      simp (disch := omega) [-getElem?_pos, b23, o]; exact hk
  · rw [decide_eq_false (fun e => h1 e.1)] at hk
    simp (disch := omega) [-getElem?_pos, b23, o, h1]; exact hk
theorem len13 (h : Mg m q r N fv L nn bb R) {K : KV} (hk : K (.int .i64 nn) m) : ACalls Try.prog 13 [.ptr (some (q, 0, 0))] m K := by
  refine run_on (ctx_nil _) hm c13 (by simp) fun hf => ?_
  have o := h.oq
  simp (disch := omega) [-getElem?_pos, b13, o]
  exact hk
end

open Go Go.AM
set_option linter.unusedVariables false
set_option linter.unusedSimpArgs false
set_option maxRecDepth 60000
set_option maxHeartbeats 8000000

section
variable {m : Mem} {q r N : Nat} {fv : V} {L : List Ot} {nn bb : Int} {R : Nat → Rec}

theorem lift22 (h : Mg m q r N fv L nn bb R) {i : Nat} (hi : i < N) (hN : N ≤ 1000000) (hL : L.length ≤ 900000) {v : V} {S : List It} {la : Int} {so fr cl : Bool} (hx : R i = ⟨v, S, la, so, fr, cl⟩) (hS : S.length ≤ 1000000) {K : KV}
    (h1 : S = [] → ∀ m', Mg m' q r N fv L nn bb (setv R i ⟨v, S, la, so, false, cl⟩) → Stp m m' (fpM q r N fv R) (fpM q r N fv (setv R i ⟨v, S, la, so, false, cl⟩)) → K (.tup []) m')
    (h2 : ∀ y S', S = y :: S' → ∀ m' fv' L' u, L'.Perm ((y.1, y.2, (i : Int)) :: L) → Mg m' q r N fv' L' nn bb (setv R i ⟨u, S', la, so, true, cl⟩) → Stp m m' (fpM q r N fv R) (fpM q r N fv' (setv R i ⟨u, S', la, so, true, cl⟩)) → K (.tup []) m') :
    ACalls Try.prog 22 [.ptr (some (q, 0, 0)), .int .i64 i] m K := by
  refine run_on (ctx_nil _) hm c22 (by simp) fun hf => ?_
  obtain ⟨rows, o1, o2, o3⟩ := h.orr
  have o := h.oq
  have oi := o3 i hi
  have hsl := h.sl i hi
  have hqr := h.qr
  rw [hx] at oi hsl
  simp only [Rec.cs] at oi
  have hv := hsl.sl.lenSl
  rw [rowP_length] at hv
  have vcs := hsl.sl.cs
  dsimp only at hsl hv vcs
  cases S with
  | nil =>
    simp (disch := omega) [-getElem?_pos, b22, o, o1, oi, hv, splice]
    obtain ⟨w1, w2⟩ := h.setR hi o1 (x := ⟨v, [], la, so, false, cl⟩) hsl (by rw [hx]; exact Stp.refl _ _)
    exact h1 rfl _ w1 w2
  | cons y S' =>
    obtain ⟨w1, w2⟩ := h.setR hi o1 (x := ⟨v, y :: S', la, so, true, cl⟩) hsl (by rw [hx]; exact Stp.refl _ _)
    have hil : i < rows.length := by omega
    simp only [Rec.cs] at w1 w2
    obtain ⟨m1, hm1⟩ : ∃ m1, m.upd r (some (.row 5 (rows.set i [v, .int .i64 la, .bool so, .bool true, .bool cl]) true)) = m1 := ⟨_, rfl⟩
    have p1 : m1.obj r = some (.row 5 (rows.set i [v, .int .i64 la, .bool so, .bool true, .bool cl]) true) := by rw [← hm1]; simp
    have pi : (rows.set i [v, .int .i64 la, .bool so, .bool true, .bool cl])[i]? = some [v, .int .i64 la, .bool so, .bool true, .bool cl] := List.getElem?_set_self hil
    have p0 := w1.oq
    have psl := w1.sl i hi
    rw [setv_self] at psl
    dsimp only at psl
    obtain ⟨p, d, full, z1, z2, z3, z4, z5, _⟩ := psl.at (i := 0) (x := [.int .i64 y.1, .int .i64 y.2]) (by rw [rowP_get (l := y :: S') (i := 0) (by simp)]; rfl) .i64
    simp (disch := omega) [-getElem?_pos, b22, o, o1, oi, hv, splice, hm1]
    rw [hm1] at p0 psl z3 w1 w2
    have z1' : iaddrV 2 v (.int .i64 0) = some (.ptr (some (p, d, 0))) := z1
    simp (disch := omega) [-getElem?_pos, p0, p1, pi, z1', z3, z4, splice]
    refine push28 (x := (y.1, y.2, (i : Int))) p0 w1.ltq w1.nqf w1.hp w1.he (by omega) fun m2 v' L' t1 t2 t3 t4 t5 t6 => ?_
    obtain ⟨x1, x2⟩ := w1.setF t6 t3 t4 t5 t2
    have hm2 : m2.obj r = some (.row 5 (rows.set i [v, .int .i64 la, .bool so, .bool true, .bool cl]) true) := by
      rw [t6.obj r w1.ltr (fun e => by
        rcases List.mem_cons.1 e with e | e
        · exact w1.qr e.symm
        · exact w1.nrf e)]
      exact p1
    have xsl := x1.sl i hi
    rw [setv_self] at xsl
    dsimp only at xsl
    obtain ⟨u, c1, c2, c3⟩ := xsl.cutL .i64 1 (by rw [rowP_length]; simp)
    have c1' : sliceX 2 v (some (.int .i64 1)) none none = some u := c1
    have e : (rowP (y :: S')).drop 1 = rowP S' := rfl
    rw [e] at c2
    have ucs := c2.sl.cs
    have uok := c2.sl.okc
    have x0 := x1.oq
    simp (disch := omega) [-getElem?_pos, x0, hm2, pi, c1', ucs, uok, splice]
    obtain ⟨d1, d2⟩ := x1.setR (m' := m2) hi hm2 (x := ⟨u, S', la, so, true, cl⟩) c2 (by rw [setv_self]; exact ⟨Nat.le_refl _, fun _ _ _ => rfl, fun p hp => .inl (c3 p hp)⟩)
    rw [setv_setv] at d1 d2
    simp only [Rec.cs, List.set_set] at d1 d2
    exact h2 y S' rfl _ v' L' u t1 d1 (w2.trans (x2.trans d2))
end

open Go Go.AM
set_option linter.unusedVariables false
set_option linter.unusedSimpArgs false
set_option maxRecDepth 60000
set_option maxHeartbeats 8000000

section
variable {m : Mem} {q r N : Nat} {fv : V} {L : List Ot} {nn bb : Int} {R : Nat → Rec}

theorem put10 (h : Mg m q r N fv L nn bb R) {i : Nat} (hi : i < N) (hN : N ≤ 1000000) (hL : L.length ≤ 900000) {v : V} {S : List It} {la : Int} {so fr : Bool} (hx : R i = ⟨v, S, la, so, fr, false⟩) (hS : S.length ≤ 900000) {x : It} (hla : so = true → la ≤ x.1) (hnn : 0 ≤ nn ∧ nn < 4096) (hbb : 0 ≤ bb ∧ bb ≤ 1000000) {K : KV}
    (h1 : fr = true → ∀ m' u, Mg m' q r N fv L (nn + 1) bb (setv R i ⟨u, S ++ [x], x.1, true, true, false⟩) → Stp m m' (fpM q r N fv R) (fpM q r N fv (setv R i ⟨u, S ++ [x], x.1, true, true, false⟩)) → K (.int .i64 0) m')
    (h2 : fr = false → S = [] → ∀ m' fv' L' u, L'.Perm ((x.1, x.2, (i : Int)) :: L) → Mg m' q r N fv' L' (nn + 1) (bb - 1) (setv R i ⟨u, [], x.1, true, true, false⟩) → Stp m m' (fpM q r N fv R) (fpM q r N fv' (setv R i ⟨u, [], x.1, true, true, false⟩)) → K (.int .i64 0) m') (hfr : fr = false → S = []) :
    ACalls Try.prog 10 [.ptr (some (q, 0, 0)), .int .i64 i, .agg [.int .i64 x.1, .int .i64 x.2]] m K := by
  refine run_on (ctx_nil _) hm c10 (by simp) fun hf => ?_
  simp (disch := omega) [-getElem?_pos, b10]
  have g1 := Mem.Grew.new m (.row 2 [[.int .i64 x.1, .int .i64 x.2]] true)
  have oB : (m.new (.row 2 [[.int .i64 x.1, .int .i64 x.2]] true)).obj m.next = some (.row 2 [[.int .i64 x.1, .int .i64 x.2]] true) := by simp
  have hB : m.next < (m.new (.row 2 [[.int .i64 x.1, .int .i64 x.2]] true)).next := by simp
  have lt := h.lt
  have hg := h.grow g1
  generalize m.new (.row 2 [[.int .i64 x.1, .int .i64 x.2]] true) = m1 at *
  obtain ⟨B, hBe⟩ : ∃ B, m.next = B := ⟨_, rfl⟩
  rw [hBe] at oB hB lt
  rw [hBe]
  refine at20 hg hi hN ?_
  obtain ⟨rows, o1, o2, o3⟩ := hg.orr
  have o := hg.oq
  have oi := o3 i hi
  have hsl := hg.sl i hi
  have hqr := hg.qr
  have hqB := lt q (mem_fpM.2 (.inl rfl))
  have hrB := lt r (mem_fpM.2 (.inr (.inl rfl)))
  have hvB : ∀ p ∈ (R i).v.fp, p < B := fun p hp => lt p (mem_fpM.2 (.inr (.inr (.inr ⟨i, hi, hp⟩))))
  rw [hx] at oi hsl hvB
  simp only [Rec.cs] at oi
  have vcs := hsl.sl.cs
  dsimp only at hsl vcs hvB
  cases so with
  | false =>
    cases fr with
    | true =>
      simp (disch := omega) [-getElem?_pos, o, o1, oi, oB, eltsOf, Mem.elts, List.range_succ]
      have g2 := Mem.Grew.new m1 (.row 2 [[.int .i64 x.1, .int .i64 x.2]] true)
      refine (hsl.grow g2).app (by rw [rowP_length]; omega) (by rw [rowP_length]; omega) fun u m2 w1 w2 w3 => ?_
      have ucs := w1.sl.cs
      have uok := w1.sl.okc
      have st := (Stp.grow g2 v.fp).trans w2
      have hnv := (hg.ns i hi)
      rw [hx] at hnv
      have k1 : m2.obj r = some (.row 5 rows true) := by rw [st.obj r hg.ltr hnv.2]; exact o1
      have k0 : m2.obj q = some (.row 4 [mcs r N fv nn bb] true) := by rw [st.obj q hg.ltq hnv.1]; exact o
      have kB : m2.obj B = some (.row 2 [[.int .i64 x.1, .int .i64 x.2]] true) := by rw [st.obj B hB (fun e => by have := hvB B e; omega)]; exact oB
      have er : rowP S ++ [[.int .i64 x.1, .int .i64 x.2]] = rowP (S ++ [x]) := by simp [rowP]
      rw [er] at w1
      have hil : i < rows.length := by omega
      obtain ⟨d1, d2⟩ := hg.setR hi o1 (x := ⟨u, S ++ [x], x.1, true, true, false⟩) w1 (by rw [hx]; exact st)
      have d0 := d1.oq
      obtain ⟨e1, e2⟩ := d1.setQ (nn + 1) bb
      simp only [Rec.cs] at d0 e1 e2 d2
      simp (disch := omega) [-getElem?_pos, k0, k1, kB, oi, ucs, uok, splice, d0]
      exact h1 rfl _ u e1 (((Stp.grow g1 _).trans d2).trans e2)
    | false =>
      simp (disch := omega) [-getElem?_pos, o, o1, oi, oB, eltsOf, Mem.elts, List.range_succ]
      have g2 := Mem.Grew.new m1 (.row 2 [[.int .i64 x.1, .int .i64 x.2]] true)
      refine (hsl.grow g2).app (by rw [rowP_length]; omega) (by rw [rowP_length]; omega) fun u m2 w1 w2 w3 => ?_
      have ucs := w1.sl.cs
      have uok := w1.sl.okc
      have st := (Stp.grow g2 v.fp).trans w2
      have hnv := (hg.ns i hi)
      rw [hx] at hnv
      have k1 : m2.obj r = some (.row 5 rows true) := by rw [st.obj r hg.ltr hnv.2]; exact o1
      have k0 : m2.obj q = some (.row 4 [mcs r N fv nn bb] true) := by rw [st.obj q hg.ltq hnv.1]; exact o
      have kB : m2.obj B = some (.row 2 [[.int .i64 x.1, .int .i64 x.2]] true) := by rw [st.obj B hB (fun e => by have := hvB B e; omega)]; exact oB
      have er : rowP S ++ [[.int .i64 x.1, .int .i64 x.2]] = rowP (S ++ [x]) := by simp [rowP]
      rw [er] at w1
      have hil : i < rows.length := by omega
      obtain ⟨d1, d2⟩ := hg.setR hi o1 (x := ⟨u, S ++ [x], x.1, true, false, false⟩) w1 (by rw [hx]; exact st)
      have d0 := d1.oq
      obtain ⟨e1, e2⟩ := d1.setQ (nn + 1) bb
      simp only [Rec.cs] at d0 e1 e2 d2
      simp (disch := omega) [-getElem?_pos, k0, k1, kB, oi, ucs, uok, splice, d0]
      obtain ⟨e3, e4⟩ := d1.setQ (nn + 1) (bb - 1)
      simp only [Rec.cs] at e3 e4
      obtain rfl := hfr rfl
      refine lift22 e3 hi hN hL (setv_self _ _ _) (by simp) (fun e => by simp at e) fun y S' e m' fv' L' u' t1 t2 t3 => ?_
      simp only [List.nil_append, List.cons.injEq] at e
      obtain ⟨rfl, rfl⟩ := e
      rw [setv_setv] at t2 t3
      simp (disch := omega) [-getElem?_pos]
      exact h2 rfl rfl m' fv' L' u' t1 t2 ((((Stp.grow g1 _).trans d2).trans e4).trans t3)
  | true =>
    have hla1 := hla rfl
    have hla2 : ¬ x.1 < la := by omega
    cases fr with
    | true =>
      simp (disch := omega) [-getElem?_pos, o, o1, oi, oB, eltsOf, Mem.elts, List.range_succ]
      have g2 := Mem.Grew.new m1 (.row 2 [[.int .i64 x.1, .int .i64 x.2]] true)
      refine (hsl.grow g2).app (by rw [rowP_length]; omega) (by rw [rowP_length]; omega) fun u m2 w1 w2 w3 => ?_
      have ucs := w1.sl.cs
      have uok := w1.sl.okc
      have st := (Stp.grow g2 v.fp).trans w2
      have hnv := (hg.ns i hi)
      rw [hx] at hnv
      have k1 : m2.obj r = some (.row 5 rows true) := by rw [st.obj r hg.ltr hnv.2]; exact o1
      have k0 : m2.obj q = some (.row 4 [mcs r N fv nn bb] true) := by rw [st.obj q hg.ltq hnv.1]; exact o
      have kB : m2.obj B = some (.row 2 [[.int .i64 x.1, .int .i64 x.2]] true) := by rw [st.obj B hB (fun e => by have := hvB B e; omega)]; exact oB
      have er : rowP S ++ [[.int .i64 x.1, .int .i64 x.2]] = rowP (S ++ [x]) := by simp [rowP]
      rw [er] at w1
      have hil : i < rows.length := by omega
      obtain ⟨d1, d2⟩ := hg.setR hi o1 (x := ⟨u, S ++ [x], x.1, true, true, false⟩) w1 (by rw [hx]; exact st)
      have d0 := d1.oq
      obtain ⟨e1, e2⟩ := d1.setQ (nn + 1) bb
      simp only [Rec.cs] at d0 e1 e2 d2
      simp (disch := omega) [-getElem?_pos, k0, k1, kB, oi, ucs, uok, splice, d0]
      exact h1 rfl _ u e1 (((Stp.grow g1 _).trans d2).trans e2)
    | false =>
      simp (disch := omega) [-getElem?_pos, o, o1, oi, oB, eltsOf, Mem.elts, List.range_succ]
      have g2 := Mem.Grew.new m1 (.row 2 [[.int .i64 x.1, .int .i64 x.2]] true)
      refine (hsl.grow g2).app (by rw [rowP_length]; omega) (by rw [rowP_length]; omega) fun u m2 w1 w2 w3 => ?_
      have ucs := w1.sl.cs
      have uok := w1.sl.okc
      have st := (Stp.grow g2 v.fp).trans w2
      have hnv := (hg.ns i hi)
      rw [hx] at hnv
      have k1 : m2.obj r = some (.row 5 rows true) := by rw [st.obj r hg.ltr hnv.2]; exact o1
      have k0 : m2.obj q = some (.row 4 [mcs r N fv nn bb] true) := by rw [st.obj q hg.ltq hnv.1]; exact o
      have kB : m2.obj B = some (.row 2 [[.int .i64 x.1, .int .i64 x.2]] true) := by rw [st.obj B hB (fun e => by have := hvB B e; omega)]; exact oB
      have er : rowP S ++ [[.int .i64 x.1, .int .i64 x.2]] = rowP (S ++ [x]) := by simp [rowP]
      rw [er] at w1
      have hil : i < rows.length := by omega
      obtain ⟨d1, d2⟩ := hg.setR hi o1 (x := ⟨u, S ++ [x], x.1, true, false, false⟩) w1 (by rw [hx]; exact st)
      have d0 := d1.oq
      obtain ⟨e1, e2⟩ := d1.setQ (nn + 1) bb
      simp only [Rec.cs] at d0 e1 e2 d2
      simp (disch := omega) [-getElem?_pos, k0, k1, kB, oi, ucs, uok, splice, d0]
      obtain ⟨e3, e4⟩ := d1.setQ (nn + 1) (bb - 1)
      simp only [Rec.cs] at e3 e4
      obtain rfl := hfr rfl
      refine lift22 e3 hi hN hL (setv_self _ _ _) (by simp) (fun e => by simp at e) fun y S' e m' fv' L' u' t1 t2 t3 => ?_
      simp only [List.nil_append, List.cons.injEq] at e
      obtain ⟨rfl, rfl⟩ := e
      rw [setv_setv] at t2 t3
      simp (disch := omega) [-getElem?_pos]
      exact h2 rfl rfl m' fv' L' u' t1 t2 ((((Stp.grow g1 _).trans d2).trans e4).trans t3)
end

open Go Go.AM
set_option linter.unusedVariables false
set_option linter.unusedSimpArgs false
set_option maxRecDepth 60000
set_option maxHeartbeats 8000000

section
variable {m : Mem} {q r N : Nat} {fv : V} {L : List Ot} {nn bb : Int} {R : Nat → Rec}

theorem stpUpdNew {m m' : Mem} {D D' : List Nat} (h : Stp m m' D D') {A : Nat} (hA : m.next ≤ A) (o : Option AM.Obj) : Stp m (m'.upd A o) D D' :=
  ⟨h.next, fun p hp hd => by rw [updO _ (by omega)]; exact h.obj p hp hd, h.fp⟩

theorem close12 (h : Mg m q r N fv L nn bb R) {i : Nat} (hi : i < N) (hN : N ≤ 1000000) {v : V} {S : List It} {la : Int} {so fr : Bool} (hx : R i = ⟨v, S, la, so, fr, false⟩) (hbb : 0 ≤ bb ∧ bb ≤ 1000000) {K : KV}
    (h1 : ∀ m', Mg m' q r N fv L nn (if fr then bb else bb - 1) (setv R i ⟨v, S, la, so, fr, true⟩) → Stp m m' (fpM q r N fv R) (fpM q r N fv (setv R i ⟨v, S, la, so, fr, true⟩)) → K (.int .i64 0) m') :
    ACalls Try.prog 12 [.ptr (some (q, 0, 0)), .int .i64 i] m K := by
  refine run_on (ctx_nil _) hm c12 (by simp) fun hf => ?_
  simp (disch := omega) [-getElem?_pos, b12]
  refine at20 h hi hN ?_
  obtain ⟨rows, o1, o2, o3⟩ := h.orr
  have o := h.oq
  have oi := o3 i hi
  have hsl := h.sl i hi
  have hqr := h.qr
  rw [hx] at oi hsl
  simp only [Rec.cs] at oi
  dsimp only at hsl
  have hil : i < rows.length := by omega
  obtain ⟨d1, d2⟩ := h.setR hi o1 (x := ⟨v, S, la, so, fr, true⟩) hsl (by rw [hx]; exact Stp.refl _ _)
  obtain ⟨e1, e2⟩ := d1.setQ nn (bb - 1)
  have d0 := d1.oq
  simp only [Rec.cs] at d0 d1 d2 e1 e2
  cases fr with
  | true =>
    simp (disch := omega) [-getElem?_pos, o, o1, oi, splice]
    exact h1 _ d1 d2
  | false =>
    simp (disch := omega) [-getElem?_pos, o, o1, oi, splice]
    exact h1 _ e1 (d2.trans e2)

theorem take_no (h : Mg m q r N fv L nn bb R) (hno : ¬ (bb = 0 ∧ 0 < nn)) {K : KV} (hk : ∀ m', m.Grew m' → K (.tup [.agg (ot (0, 0, 0)), .bool false]) m') : ACalls Try.prog 11 [.ptr (some (q, 0, 0))] m K := by
  refine run_on (ctx_nil _) hm c11 (by simp) fun hf => ?_
  have g1 := Mem.Grew.new m (.row 3 [[.int .i64 0, .int .i64 0, .int .i64 0]] true)
  simp (disch := omega) [-getElem?_pos, b11]
  refine ready23 (h.grow g1) ?_
  rw [decide_eq_false hno]
  simp (disch := omega) [-getElem?_pos, splice]
  exact hk _ g1

theorem take11 (h : Mg m q r N fv L nn 0 R) (hnn : 0 < nn ∧ nn ≤ 1000000) (hN : N ≤ 1000000) (hL : L.length ≤ 800000) (hL0 : 0 < L.length) (hS : ∀ i, i < N → (R i).S.length ≤ 1000000) (hrow : ∀ x ∈ L, ∃ i : Nat, i < N ∧ x.2.2 = (i : Int)) {K : KV}
    (k1 : ∀ x L' (i : Nat) v la so fr cl, L.Perm (x :: L') → (∀ y ∈ L, leO x y) → i < N → x.2.2 = (i : Int) → R i = ⟨v, [], la, so, fr, cl⟩ → ∀ m' fv', Mg m' q r N fv' L' (nn - 1) (if cl then 0 else 1) (setv R i ⟨v, [], la, so, false, cl⟩) → Stp m m' (fpM q r N fv R) (fpM q r N fv' (setv R i ⟨v, [], la, so, false, cl⟩)) → K (.tup [.agg (ot x), .bool true]) m')
    (k2 : ∀ x L' (i : Nat) v y S' la so fr cl, L.Perm (x :: L') → (∀ y ∈ L, leO x y) → i < N → x.2.2 = (i : Int) → R i = ⟨v, y :: S', la, so, fr, cl⟩ → ∀ m' fv' L'' u, L''.Perm ((y.1, y.2, (i : Int)) :: L') → Mg m' q r N fv' L'' (nn - 1) 0 (setv R i ⟨u, S', la, so, true, cl⟩) → Stp m m' (fpM q r N fv R) (fpM q r N fv' (setv R i ⟨u, S', la, so, true, cl⟩)) → K (.tup [.agg (ot x), .bool true]) m') :
    ACalls Try.prog 11 [.ptr (some (q, 0, 0))] m K := by
  refine run_on (ctx_nil _) hm c11 (by simp) fun hf => ?_
  have g1 := Mem.Grew.new m (.row 3 [[.int .i64 0, .int .i64 0, .int .i64 0]] true)
  have lt := h.lt
  have oA : (m.new (.row 3 [[.int .i64 0, .int .i64 0, .int .i64 0]] true)).obj m.next = some (.row 3 [[.int .i64 0, .int .i64 0, .int .i64 0]] true) := by simp
  have hA : m.next < (m.new (.row 3 [[.int .i64 0, .int .i64 0, .int .i64 0]] true)).next := by simp
  simp (disch := omega) [-getElem?_pos, b11]
  have hg := h.grow g1
  generalize m.new (.row 3 [[.int .i64 0, .int .i64 0, .int .i64 0]] true) = m1 at *
  obtain ⟨A, hAe⟩ : ∃ A, m.next = A := ⟨_, rfl⟩
  rw [hAe] at oA hA lt
  rw [hAe]
  refine ready23 hg ?_
  rw [decide_eq_true ⟨rfl, hnn.1⟩]
  have o := hg.oq
  simp (disch := omega) [-getElem?_pos]
  refine pop24 o hg.ltq hg.nqf hg.hp hg.he (by omega) hL0 fun m2 fv' L' x t1 t2 t3 t4 t5 t6 t7 => ?_
  obtain ⟨i, hi, hxi⟩ := hrow x (t1.symm.subset (by simp))
  have hl1 := t1.length_eq
  simp only [List.length_cons] at hl1
  obtain ⟨x1, x2, x3⟩ := x
  simp only at hxi
  subst hxi
  obtain ⟨p1, p2⟩ := hg.setF t7 t4 t5 t6 t3
  have st1 := (Stp.grow g1 (fpM q r N fv R)).trans p2
  have kA : m2.obj A = some (.row 3 [[.int .i64 0, .int .i64 0, .int .i64 0]] true) := by
    rw [p2.obj A hA (fun e => by have := lt A e; omega)]; exact oA
  have hA2 : A < m2.next := by have := p2.next; omega
  have p0 := p1.oq
  have hqB := p1.ltq
  simp only [ot]
  simp (disch := omega) [-getElem?_pos, p0, splice]
  have g3 := Mem.Grew.new m2 (.row 3 [[.int .i64 x1, .int .i64 x2, .int .i64 (i : Int)]] true)
  have hC : m2.next < (m2.new (.row 3 [[.int .i64 x1, .int .i64 x2, .int .i64 (i : Int)]] true)).next := by simp
  have oC : (m2.new (.row 3 [[.int .i64 x1, .int .i64 x2, .int .i64 (i : Int)]] true)).obj m2.next = some (.row 3 [[.int .i64 x1, .int .i64 x2, .int .i64 (i : Int)]] true) := by simp
  have lt2 := p1.lt
  have p3 := p1.grow g3
  have kA3 : (m2.new (.row 3 [[.int .i64 x1, .int .i64 x2, .int .i64 (i : Int)]] true)).obj A = some (.row 3 [[.int .i64 0, .int .i64 0, .int .i64 0]] true) := by rw [g3.obj A hA2]; exact kA
  generalize m2.new (.row 3 [[.int .i64 x1, .int .i64 x2, .int .i64 (i : Int)]] true) = m3 at *
  obtain ⟨C, hCe⟩ : ∃ C, m2.next = C := ⟨_, rfl⟩
  rw [hCe] at hC oC lt2 hA2
  rw [hCe]
  have hqC := lt2 q (mem_fpM.2 (.inl rfl))
  have hnA : A ∉ fpM q r N fv' R := fun e => by
    rcases p2.fp A e with w | w
    · have := lt A w; omega
    · omega
  have hnC : C ∉ fpM q r N fv' R := fun e => by have := lt2 C e; omega
  obtain ⟨p4, p5⟩ := p3.setQ (nn - 1) 0
  have kA4 : (m3.upd q (some (.row 4 [mcs r N fv' (nn - 1) 0] true))).obj A = some (.row 3 [[.int .i64 0, .int .i64 0, .int .i64 0]] true) := by rw [updO _ (fun e => hnA (by rw [e]; exact mem_fpM.2 (.inl rfl)))]; exact kA3
  have kC4 : (m3.upd q (some (.row 4 [mcs r N fv' (nn - 1) 0] true))).obj C = some (.row 3 [[.int .i64 x1, .int .i64 x2, .int .i64 (i : Int)]] true) := by rw [updO _ (fun e => hnC (by rw [e]; exact mem_fpM.2 (.inl rfl)))]; exact oC
  have hA4 : A < (m3.upd q (some (.row 4 [mcs r N fv' (nn - 1) 0] true))).next := by simp; omega
  have hC4 : C < (m3.upd q (some (.row 4 [mcs r N fv' (nn - 1) 0] true))).next := by simp; omega
  have st4 := (st1.trans (Stp.grow g3 _)).trans p5
  simp only [mcs] at p4 p5 kA4 kC4 hA4 hC4 st4
  generalize m3.upd q (some (.row 4 [[.sl (some (r, 0, 5)) N (some N), fv', .int .i64 (nn - 1), .int .i64 0]] true)) = m4 at *
  have hSi := hS i hi
  cases hx : R i with
  | mk v S la so fr cl =>
  rw [hx] at hSi
  dsimp only at hSi
  refine lift22 p4 hi hN (by omega) hx hSi (fun e m5 d1 d2 => ?_) (fun y S' e m5 fv'' L'' u t8 d1 d2 => ?_)
  · subst e
    have kA5 := (d2.obj A hA4 hnA).trans kA4
    have kC5 := (d2.obj C hC4 hnC).trans kC4
    have d0 := d1.oq
    obtain ⟨rows, o1, o2, o3⟩ := d1.orr
    have oi := o3 i hi
    rw [setv_self] at oi
    simp only [Rec.cs] at oi
    have hAq : A ≠ q := fun e => hnA (by rw [e]; exact mem_fpM.2 (.inl rfl))
    have hnA5 : A ∉ fpM q r N fv' (setv R i ⟨v, [], la, so, false, cl⟩) := fun e => by
      rcases d2.fp A e with w | w
      · exact hnA w
      · omega
    cases cl with
    | true =>
      simp (disch := omega) [-getElem?_pos, d0, o1, oi, kA5, kC5, splice]
      have hAr : A ≠ r := fun e => hnA (by rw [e]; exact mem_fpM.2 (.inr (.inl rfl)))
      exact k1 (x1, x2, (i : Int)) L' i v la so fr true t1 t2 hi rfl hx _ fv' (d1.keep (m' := m5.upd A (some (.row 3 [[.int .i64 x1, .int .i64 x2, .int .i64 (i : Int)]] true))) (by simp) fun p hp => updO _ (fun e => hnA5 (by rw [← e]; exact hp))) (stpUpdNew (st4.trans d2) (by omega) _)
    | false =>
      obtain ⟨e1, e2⟩ := d1.setQ (nn - 1) 1
      have hoA : (m5.upd q (some (.row 4 [mcs r N fv' (nn - 1) 1] true))).obj A = some (.row 3 [[.int .i64 0, .int .i64 0, .int .i64 0]] true) := by rw [updO _ hAq]; exact kA5
      have hCq : C ≠ q := fun e => hnC (by rw [e]; exact mem_fpM.2 (.inl rfl))
      have hoC : (m5.upd q (some (.row 4 [mcs r N fv' (nn - 1) 1] true))).obj C = some (.row 3 [[.int .i64 x1, .int .i64 x2, .int .i64 (i : Int)]] true) := by rw [updO _ hCq]; exact kC5
      simp only [mcs] at e1 e2 hoA hoC
      simp (disch := omega) [-getElem?_pos, d0, o1, oi, kA5, kC5, splice, hoA, hoC]
      exact k1 (x1, x2, (i : Int)) L' i v la so fr false t1 t2 hi rfl hx _ fv' (e1.keep (m' := (m5.upd q (some (.row 4 [[.sl (some (r, 0, 5)) N (some N), fv', .int .i64 (nn - 1), .int .i64 1]] true))).upd A (some (.row 3 [[.int .i64 x1, .int .i64 x2, .int .i64 (i : Int)]] true))) (by simp) fun p hp => updO _ (fun e => hnA5 (by rw [← e]; exact hp))) (stpUpdNew ((st4.trans d2).trans e2) (by omega) _)
  · subst e
    have kA5 := (d2.obj A hA4 hnA).trans kA4
    have kC5 := (d2.obj C hC4 hnC).trans kC4
    have d0 := d1.oq
    obtain ⟨rows, o1, o2, o3⟩ := d1.orr
    have oi := o3 i hi
    rw [setv_self] at oi
    simp only [Rec.cs] at oi
    have hAq : A ≠ q := fun e => hnA (by rw [e]; exact mem_fpM.2 (.inl rfl))
    have hnA5 : A ∉ fpM q r N fv'' (setv R i ⟨u, S', la, so, true, cl⟩) := fun e => by
      rcases d2.fp A e with w | w
      · exact hnA w
      · omega
    simp (disch := omega) [-getElem?_pos, d0, o1, oi, kA5, kC5, splice]
    exact k2 (x1, x2, (i : Int)) L' i v y S' la so fr cl t1 t2 hi rfl hx _ fv'' L'' u t8 (d1.keep (m' := m5.upd A (some (.row 3 [[.int .i64 x1, .int .i64 x2, .int .i64 (i : Int)]] true))) (by simp) fun p hp => updO _ (fun e => hnA5 (by rw [← e]; exact hp))) (stpUpdNew (st4.trans d2) (by omega) _)
end
end Go.Proofs.Ythkopgcdghbjlaa
