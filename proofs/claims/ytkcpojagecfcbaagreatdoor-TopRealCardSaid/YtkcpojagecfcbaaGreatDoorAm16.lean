/-
  THE ABSTRACT MACHINE: from its words back to a call: the arguments of a statement, and how its call ends. No Go program here.
-/
import Derived.Test.YtkcpojagecfcbaaGreatDoorAm15
import Derived.DataReads
namespace Go.AM
open Go
set_option linter.unusedVariables false
theorem Code1.body {P : Program} {f : FuncId} {n : Nat} {b : IFn} (hc : Code1 P f n b) : Body P f := by
  obtain ⟨fn, h1, h2, h3, h4⟩ := hc.ex
  exact ⟨fn, h1, by unfold compFn at h3; split at h3 <;> simp_all, h2⟩
/-- A call that, in the plain machine's words, tells true: it does, and writes nothing that was there. -/
theorem ACalls.walk {P : Program} {f : FuncId} (hb : Body P f) {args : List V} {m : Mem} (h : ACalls P f args m (fun r _ => r = .bool true)) {β : Pl} {w : World} (hM : MR w.heap.size w β m w) {cargs : List Value} (hA : VRs β args cargs) :
    Calls P f cargs.toArray w (fun e w' => e = .returned (.bool true) ∧ RowKit.Below w.heap.size w w') :=
  ((h.2 w.heap.size w β w cargs hM hA).1 hb).mono fun e w' ⟨v, he, β', r, m', h1, h2, h3, h4⟩ => by
    subst h4; simp only [VR] at h2; subst h2
    exact ⟨he, h3.below⟩
mutual
theorem V.flat_rel {β β' : Pl} : ∀ (x : V) (v : Value), x.flat = true → VR β x v → VR β' x v
  | .undef, _, _, e => by simp [VR]
  | .bool b, v, _, e => by simpa [VR] using e
  | .int k n, v, _, e => by simpa [VR] using e
  | .str s, v, _, e => by simpa [VR] using e
  | .ptr none, v, _, e => by simpa [VR] using e
  | .sl none n c, v, _, e => by simpa [VR] using e
  | .map none, v, _, e => by simpa [VR] using e
  | .nilFn, v, _, e => by simpa [VR] using e
  | .nilIfc, v, _, e => by simpa [VR] using e
  | .agg cs, v, h, e => by
    simp only [V.flat] at h; simp only [VR] at e ⊢; obtain ⟨xs, h1, h2⟩ := e; exact ⟨xs, h1, V.flats_rel cs _ h h2⟩
  | .tup cs, v, h, e => by
    simp only [V.flat] at h; simp only [VR] at e ⊢; obtain ⟨xs, h1, h2⟩ := e; exact ⟨xs, h1, V.flats_rel cs _ h h2⟩
  | .ptr (some _), _, h, _ | .sl (some _) _ _, _, h, _ | .map (some _), _, h, _ | .fn _ _ _, _, h, _ | .ifc _ _, _, h, _ => by simp [V.flat] at h
theorem V.flats_rel {β β' : Pl} : ∀ (xs : List V) (vs : List Value), V.flats xs = true → VRs β xs vs → VRs β' xs vs
  | [], vs, _, e => by simpa [VRs] using e
  | x :: xs, vs, h, e => by
    simp only [V.flats, Bool.and_eq_true] at h
    simp only [VRs] at e ⊢; obtain ⟨y, ys, h1, h2, h3⟩ := e; exact ⟨y, ys, h1, V.flat_rel x _ h.1 h2, V.flats_rel xs _ h.2 h3⟩
end
/-- Where a statement begins: memory of which nothing is written. -/
structure Start (w : World) (β : Pl) (m : Mem) : Prop where
  mr : MR w.heap.size w β m w
  ro : ∀ r o, m.obj r = some o → o.rw = false
theorem Start.nil (w : World) (hg : Gl w.heap.size w) : Start w (fun _ => none) Mem.empty :=
  ⟨⟨RowKit.Below.refl _ _, Nat.le_refl _, fun r l h => by simp at h, fun r o h => by simp [Mem.empty] at h, fun r l o h => by simp at h, fun r r' l l' o o' _ h => by simp at h, Nat.le_refl _, hg⟩, fun r o h => by simp [Mem.empty] at h⟩
/-- A call that looks at no memory: shown where there is none. -/
theorem ACalls.of_empty {P : Program} {f : FuncId} {args : List V} {r0 : V} (ha : V.flats args = true) (hr : r0.flat = true) (h : ACalls P f args Mem.empty (fun r _ => r = r0)) (m : Mem) : ACalls P f args m (fun r m' => r = r0 ∧ m' = m) := by
  refine ⟨h.1, fun base w0 β w cargs hM hA => (h.2 w.heap.size w _ w cargs (Start.nil w (hM.gl.below hM.below (Nat.lt_of_lt_of_le hM.gl.lt hM.le))).mr (V.flats_rel _ _ ha hA)).mono fun e w' ⟨v, he, β', r, m', h1, h2, h3, h4⟩ => ?_⟩
  subst h4
  refine ⟨v, he, β, r, m, Pl.le_refl _, V.flat_rel _ _ hr h2, ?_, rfl, rfl⟩
  have hb := h3.below
  refine hM.same ⟨hb.os, hb.tape, hb.output, hb.size, fun a ha _ => ?_, fun a ha => ?_, fun b hb' _ => hb.block b hb', h3.drawn⟩
  · simp only [World.cell?]; rw [hb.block _ ha]
  · simp only [World.frozen?]; rw [hb.block _ ha]
/-- One row more, which is not written. -/
def Mem.arg (m : Mem) (sz : Nat) (es : List (List V)) : Mem := ⟨fun q => if q = m.next then (if es = [] then none else some (.row sz es false)) else m.obj q, m.next + 1⟩
theorem Start.row {w : World} {β : Pl} {m : Mem} (h : Start w β m) {sz : Nat} {es : List (List V)} (l : Loc) (hr : es ≠ [] → RowR w.heap.size β w l sz es false) :
    Pl.le β (fun q => if q = m.next then some l else β q) ∧ Start w (fun q => if q = m.next then some l else β q) (m.arg sz es) := by
  have hle : Pl.le β (fun q => if q = m.next then some l else β q) := fun r l' hr => by
    have := h.mr.dom r l' hr
    show (if r = m.next then some l else β r) = some l'
    rw [if_neg (by omega)]; exact hr
  have ro : ∀ r o, (m.arg sz es).obj r = some o → o.rw = false := by
    intro r o hr
    simp only [Mem.arg] at hr
    split at hr
    · split at hr
      · cases hr
      · cases hr; rfl
    · exact h.ro r o hr
  refine ⟨hle, ⟨h.mr.below, h.mr.le, ?_, ?_, ?_, ?_, h.mr.drawn, h.mr.gl⟩, ro⟩
  · intro r l' hb
    simp only [Mem.arg]
    by_cases e : r = m.next
    · omega
    · simp only [if_neg e] at hb; have := h.mr.dom r l' hb; omega
  · intro r o ho
    simp only [Mem.arg] at ho
    by_cases e : r = m.next
    · exact ⟨l, by simp [e]⟩
    · rw [if_neg e] at ho; obtain ⟨l', hl'⟩ := h.mr.has r o ho; exact ⟨l', by simp [e, hl']⟩
  · intro r l' o hb ho
    simp only [Mem.arg] at ho
    by_cases e : r = m.next
    · subst e
      simp only [if_pos] at hb ho
      injection hb with hb; subst hb
      split at ho
      · cases ho
      · rename_i hne
        injection ho with ho; subst ho
        exact ObjR.keep (o := .row sz es false) (hr hne) hle (Chg.refl w (fun _ => False)) (fun _ s => s.elim)
    · rw [if_neg e] at ho
      simp only [if_neg e] at hb
      exact (h.mr.objs r l' o hb ho).keep hle (Chg.refl w (fun _ => False)) (by cases o <;> exact fun _ s => s.elim)
  · intro r r' l1 l2 o1 o2 hne hb hb' ho ho' hrw
    have h1 := ro _ _ ho
    have h2 := ro _ _ ho'
    simp [h1, h2] at hrw
theorem rel0 {β : Pl} : VRs β [] [] := by simp [VRs]
theorem relc {β : Pl} {x : V} {v : Value} {xs : List V} {vs : List Value} (h : VR β x v) (k : VRs β xs vs) : VRs β (x :: xs) (v :: vs) := by simp only [VRs]; exact ⟨v, vs, rfl, h, k⟩
theorem relI {β : Pl} {k : IntKind} {n : Int} : VR β (.int k n) (.int k n) := by simp [VR]
theorem relB {β : Pl} {b : Bool} : VR β (.bool b) (.bool b) := by simp [VR]
theorem relS {β : Pl} {s : ByteArray} : VR β (.str s) (.string s) := by simp [VR]
theorem wf_int {k : IntKind} {n : Int} (h : (Lit.int k n).wf = true) : k.min ≤ n ∧ n ≤ k.max := by simpa [Lit.wf] using h
end Go.AM
