/-
  THE ABSTRACT MACHINE: from its words back to a call: the arguments of a statement, and how its call ends. No Go program here.
-/
import Derived.Test.YthkopgcdghbjlaaAm15
import Derived.DataReads
namespace Go.AM
open Go
set_option linter.unusedVariables false

theorem Code1.body {P : Program} {f : FuncId} {n : Nat} {b : IFn} (hc : Code1 P f n b) : Body P f := by
  obtain ⟨fn, h1, h2, h3, h4⟩ := hc.ex
  exact ⟨fn, h1, by unfold compFn at h3; split at h3 <;> simp_all, h2⟩
/-- A call that, in the plain machine's words, tells true: it does, and writes nothing that was there. -/
theorem ACalls.walk {P : Program} {f : FuncId} (hb : Body P f) {args : List V} {m : Mem} (h : ACalls P f args m (fun r _ => r = .bool true)) {β : Pl} {w : World} (hM : MR w.heap.size w β m w) {cargs : List Value} (hA : VRs β args cargs) :
    Calls P f cargs.toArray w (fun e w' => e = .returned (.bool true) ∧ RowKit.Below w.heap.size w w') :=
  ((h.2 w.heap.size w β w cargs hM hA).1 hb).mono fun e w' ⟨v, he, β', r, m', h1, h2, h3, h4⟩ => by
    subst h4; simp only [VR] at h2; subst h2
    exact ⟨he, h3.below⟩

theorem arg_some {a : Option (Nat × Nat × Nat)} {q : Nat} {c : Option Nat} {zs : List Int} (h : a = some (q, 0, 1) ∨ (a = none ∧ c = some 0 ∧ zs = [])) (hne : zs ≠ []) : a = some (q, 0, 1) := by
  rcases h with h | h
  · exact h
  · exact absurd h.2.2 hne

mutual
theorem V.flat_rel {β β' : Pl} : ∀ (x : V) (v : Value), x.flat = true → VR β x v → VR β' x v
  | .undef, _, _, e => by simp [VR]
  | .bool b, v, _, e => by simpa [VR] using e
  | .int k n, v, _, e => by simpa [VR] using e
  | .str s, v, _, e => by simpa [VR] using e
  | .ptr none, v, _, e => by simpa [VR] using e
  | .sl none n c, v, _, e => by simpa [VR] using e
  | .map none, v, _, e => by simpa [VR] using e
  | .nilFn, v, _, e => by simpa [VR] using e
  | .nilIfc, v, _, e => by simpa [VR] using e
  | .agg cs, v, h, e => by
    simp only [V.flat] at h; simp only [VR] at e ⊢; obtain ⟨xs, h1, h2⟩ := e; exact ⟨xs, h1, V.flats_rel cs _ h h2⟩
  | .tup cs, v, h, e => by
    simp only [V.flat] at h; simp only [VR] at e ⊢; obtain ⟨xs, h1, h2⟩ := e; exact ⟨xs, h1, V.flats_rel cs _ h h2⟩
  | .ptr (some _), _, h, _ | .sl (some _) _ _, _, h, _ | .map (some _), _, h, _ | .fn _ _ _, _, h, _ | .ifc _ _, _, h, _ => by simp [V.flat] at h
theorem V.flats_rel {β β' : Pl} : ∀ (xs : List V) (vs : List Value), V.flats xs = true → VRs β xs vs → VRs β' xs vs
  | [], vs, _, e => by simpa [VRs] using e
  | x :: xs, vs, h, e => by
    simp only [V.flats, Bool.and_eq_true] at h
    simp only [VRs] at e ⊢; obtain ⟨y, ys, h1, h2, h3⟩ := e; exact ⟨y, ys, h1, V.flat_rel x _ h.1 h2, V.flats_rel xs _ h.2 h3⟩
end

/-- Where a statement begins: memory of which nothing is written. -/
structure Start (w : World) (β : Pl) (m : Mem) : Prop where
  mr : MR w.heap.size w β m w
  ro : ∀ r o, m.obj r = some o → o.rw = false

theorem Start.nil (w : World) : Start w (fun _ => none) Mem.empty :=
  ⟨⟨RowKit.Below.refl _ _, Nat.le_refl _, fun r l h => by simp at h, fun r o h => by simp [Mem.empty] at h, fun r l o h => by simp at h, fun r r' l l' o o' _ h => by simp at h, Nat.le_refl _⟩, fun r o h => by simp [Mem.empty] at h⟩

/-- A call that looks at no memory: shown where there is none. -/
theorem ACalls.of_empty {P : Program} {f : FuncId} {args : List V} {r0 : V} (ha : V.flats args = true) (hr : r0.flat = true) (h : ACalls P f args Mem.empty (fun r _ => r = r0)) (m : Mem) : ACalls P f args m (fun r m' => r = r0 ∧ m' = m) := by
  refine ⟨h.1, fun base w0 β w cargs hM hA => (h.2 w.heap.size w _ w cargs (Start.nil w).mr (V.flats_rel _ _ ha hA)).mono fun e w' ⟨v, he, β', r, m', h1, h2, h3, h4⟩ => ?_⟩
  subst h4
  refine ⟨v, he, β, r, m, Pl.le_refl _, V.flat_rel _ _ hr h2, ?_, rfl, rfl⟩
  have hb := h3.below
  refine hM.same ⟨hb.os, hb.tape, hb.output, hb.size, fun a ha _ => ?_, fun a ha => ?_, fun b hb' _ => hb.block b hb', h3.drawn⟩
  · simp only [World.cell?]; rw [hb.block _ ha]
  · simp only [World.frozen?]; rw [hb.block _ ha]

/-- What is reckoned out. -/
theorem of_rfl {p : Prop} {α : Sort _} {a : α} (h : p = (a = a)) : p := h ▸ rfl

/-- One row more, which is not written. -/
def Mem.arg (m : Mem) (sz : Nat) (es : List (List V)) : Mem := ⟨fun q => if q = m.next then (if es = [] then none else some (.row sz es false)) else m.obj q, m.next + 1⟩

theorem Start.row {w : World} {β : Pl} {m : Mem} (h : Start w β m) {sz : Nat} {es : List (List V)} (l : Loc) (hr : es ≠ [] → RowR w.heap.size β w l sz es false) :
    Pl.le β (fun q => if q = m.next then some l else β q) ∧ Start w (fun q => if q = m.next then some l else β q) (m.arg sz es) := by
  have hle : Pl.le β (fun q => if q = m.next then some l else β q) := fun r l' hr => by
    have := h.mr.dom r l' hr
    show (if r = m.next then some l else β r) = some l'
    rw [if_neg (by omega)]; exact hr
  have ro : ∀ r o, (m.arg sz es).obj r = some o → o.rw = false := by
    intro r o hr
    simp only [Mem.arg] at hr
    split at hr
    · split at hr
      · cases hr
      · cases hr; rfl
    · exact h.ro r o hr
  refine ⟨hle, ⟨h.mr.below, h.mr.le, ?_, ?_, ?_, ?_, h.mr.drawn⟩, ro⟩
  · intro r l' hb
    simp only [Mem.arg]
    by_cases e : r = m.next
    · omega
    · simp only [if_neg e] at hb; have := h.mr.dom r l' hb; omega
  · intro r o ho
    simp only [Mem.arg] at ho
    by_cases e : r = m.next
    · exact ⟨l, by simp [e]⟩
    · rw [if_neg e] at ho; obtain ⟨l', hl'⟩ := h.mr.has r o ho; exact ⟨l', by simp [e, hl']⟩
  · intro r l' o hb ho
    simp only [Mem.arg] at ho
    by_cases e : r = m.next
    · subst e
      simp only [if_pos] at hb ho
      injection hb with hb; subst hb
      split at ho
      · cases ho
      · rename_i hne
        injection ho with ho; subst ho
        exact ObjR.keep (o := .row sz es false) (hr hne) hle (Chg.refl w (fun _ => False)) (fun _ s => s.elim)
    · rw [if_neg e] at ho
      simp only [if_neg e] at hb
      exact (h.mr.objs r l' o hb ho).keep hle (Chg.refl w (fun _ => False)) (by cases o <;> exact fun _ s => s.elim)
  · intro r r' l1 l2 o1 o2 hne hb hb' ho ho' hrw
    have h1 := ro _ _ ho
    have h2 := ro _ _ ho'
    simp [h1, h2] at hrw

/-- A slice of whole numbers. -/
theorem Start.ints {w : World} {β : Pl} {m : Mem} (h : Start w β m) {k : IntKind} {a : Option Addr} {len cap : Nat} {zs : List Int}
    (hr : (a = none ∧ len = 0 ∧ cap = 0 ∧ zs = []) ∨ ∃ x, a = some x ∧ len ≤ cap ∧ cap ≤ maxLen ∧ zs.length = cap ∧ (∀ i, i < zs.length → w.cell? (x.add i) = some (.int k (zs.getD i 0))) ∧ ∀ n ∈ zs, (Lit.int k n).wf = true) :
    ∃ β' a' c, Pl.le β β' ∧ Start w β' (m.arg 1 ((zs.take len).map fun z => [.int k z])) ∧ VR β' (.sl a' (zs.take len).length c) (.slice a len cap) ∧ (a' = some (m.next, 0, 1) ∨ (a' = none ∧ c = some 0 ∧ zs.take len = [])) ∧ ∀ n ∈ zs.take len, (Lit.int k n).wf = true := by
  rcases hr with ⟨rfl, rfl, rfl, rfl⟩ | ⟨x, rfl, hl, hm, hz, hc, hwf⟩
  · obtain ⟨h1, h2⟩ := h.row (sz := 1) (es := []) ⟨0, 0, 1, 0⟩ (fun h => absurd rfl h)
    exact ⟨_, none, some 0, h1, h2, by simp [VR], .inr ⟨rfl, rfl, by simp⟩, by simp⟩
  · have hsp : ∀ i, i < zs.length → x.add i = (Loc.mk x.block x.off 1 cap).at i 0 := by
      intro i hi
      have h0 := hc 0 (by omega)
      have hs := World.cell?_spot h0
      simp only [Addr.add, if_true] at hs
      simp only [Addr.add, Loc.at]
      split
      · rename_i e; subst e; cases x; simp_all
      · simp
    obtain ⟨h1, h2⟩ := h.row (sz := 1) (es := (zs.take len).map fun z => [V.int k z]) ⟨x.block, x.off, 1, cap⟩ (fun hne => by
      have hpos : 0 < zs.length := by
        cases zs with
        | nil => simp at hne
        | cons z zs => simp
      refine ⟨rfl, by omega, by simp; omega, ?_, by simp, ?_, (fun h => by cases h), fun h => by cases h⟩
      · have h0 := hc 0 hpos
        simp only [World.cell?] at h0
        rcases Nat.lt_or_ge (x.add 0).block w.heap.size with h' | h'
        · simpa [Addr.add] using h'
        · rw [Array.getElem?_eq_none h'] at h0; cases h0
      · intro i e he
        simp only [List.getElem?_map, Option.map_eq_some_iff] at he
        obtain ⟨z, hz1, rfl⟩ := he
        refine ⟨rfl, fun j v hj => ?_⟩
        cases j with
        | zero =>
          simp only [List.getElem?_cons_zero, Option.some.injEq] at hj; subst hj
          have hi : i < zs.length := by
            have := (List.getElem?_eq_some_iff.1 hz1).1
            simp at this; omega
          refine ⟨rfl, .int k z, by simp [VR], ?_⟩
          rw [← hsp i hi, hc i hi]
          have : zs[i]? = some z := by
            rw [List.getElem?_take] at hz1
            split at hz1
            · exact hz1
            · cases hz1
          simp [List.getD, this]
        | succ j => simp at hj)
    refine ⟨_, some (m.next, 0, 1), none, h1, h2, ?_, .inl rfl, fun n hn => hwf n (List.mem_of_mem_take hn)⟩
    simp only [VR]
    refine ⟨⟨x.block, x.off, 1, cap⟩, x, cap, by simp, ?_, by simp, by simp; omega, ?_, rfl⟩
    · simp [hz, Nat.min_eq_left hl]
    · intro hc0
      rw [← hsp 0 (by omega)]; simp [Addr.add]

theorem rel0 {β : Pl} : VRs β [] [] := by simp [VRs]
theorem relc {β : Pl} {x : V} {v : Value} {xs : List V} {vs : List Value} (h : VR β x v) (k : VRs β xs vs) : VRs β (x :: xs) (v :: vs) := by simp only [VRs]; exact ⟨v, vs, rfl, h, k⟩
theorem relI {β : Pl} {k : IntKind} {n : Int} : VR β (.int k n) (.int k n) := by simp [VR]
theorem relB {β : Pl} {b : Bool} : VR β (.bool b) (.bool b) := by simp [VR]
theorem relS {β : Pl} {s : ByteArray} : VR β (.str s) (.string s) := by simp [VR]

theorem wf_int {k : IntKind} {n : Int} (h : (Lit.int k n).wf = true) : k.min ≤ n ∧ n ≤ k.max := by simpa [Lit.wf] using h

theorem wf_u8 {n : Int} (h : (Lit.int .u8 n).wf = true) : 0 ≤ n ∧ n ≤ 255 := by simpa [IntKind.min, IntKind.max, IntKind.signed, IntKind.bits] using wf_int h
theorem wf_u16 {n : Int} (h : (Lit.int .u16 n).wf = true) : 0 ≤ n ∧ n ≤ 65535 := by simpa [IntKind.min, IntKind.max, IntKind.signed, IntKind.bits] using wf_int h
theorem wf_u32 {n : Int} (h : (Lit.int .u32 n).wf = true) : 0 ≤ n ∧ n ≤ 4294967295 := by simpa [IntKind.min, IntKind.max, IntKind.signed, IntKind.bits] using wf_int h
theorem wf_u64 {n : Int} (h : (Lit.int .u64 n).wf = true) : 0 ≤ n ∧ n ≤ 18446744073709551615 := by simpa [IntKind.min, IntKind.max, IntKind.signed, IntKind.bits] using wf_int h
theorem wf_i8 {n : Int} (h : (Lit.int .i8 n).wf = true) : -128 ≤ n ∧ n ≤ 127 := by simpa [IntKind.min, IntKind.max, IntKind.signed, IntKind.bits] using wf_int h
theorem wf_i16 {n : Int} (h : (Lit.int .i16 n).wf = true) : -32768 ≤ n ∧ n ≤ 32767 := by simpa [IntKind.min, IntKind.max, IntKind.signed, IntKind.bits] using wf_int h
theorem wf_i32 {n : Int} (h : (Lit.int .i32 n).wf = true) : -2147483648 ≤ n ∧ n ≤ 2147483647 := by simpa [IntKind.min, IntKind.max, IntKind.signed, IntKind.bits] using wf_int h
theorem wf_i64 {n : Int} (h : (Lit.int .i64 n).wf = true) : -9223372036854775808 ≤ n ∧ n ≤ 9223372036854775807 := by simpa [IntKind.min, IntKind.max, IntKind.signed, IntKind.bits] using wf_int h

end Go.AM
