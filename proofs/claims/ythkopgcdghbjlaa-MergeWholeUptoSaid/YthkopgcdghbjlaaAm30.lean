/-
  slices.Insert of one element: what a slice's capacity is, asked of the model; overlaps; the way of Insert. No Go program here.
-/
import Derived.Test.YthkopgcdghbjlaaAm29
import Derived.Lib.Overlaps
namespace Go.AM
open Go
set_option linter.unusedVariables false
set_option linter.unusedSimpArgs false
set_option maxRecDepth 20000

def appZV (z : List V) (bytes : Nat) (m : Mem) (s n : V) : Option (V × Mem) :=
  match s, n with
  | .sl (some (r, i, zz)) l (some c), .int .i64 k =>
    if 0 < k ∧ (c : Int) < l + k ∧ (l + k) * bytes ≤ 140737488355328 ∧ l + k ≤ 9223372036854775807 ∧ 0 < z.length ∧ z.all V.okc = true then
      match m.obj r with
      | some (.row sz es rw) => if sz = z.length ∧ i + l ≤ es.length then some (.sl (some (m.next, 0, sz)) (l + k.toNat) none, m.new (.row sz ((es.drop i).take l ++ List.replicate k.toNat z) true)) else none
      | _ => none
    else none
  | _, _ => none
theorem opx_appZ' {Γ : Ctx} {e : Env} {m : Mem} {k : KV} (z : List V) (bytes : Nat) (s n : Opd) : opx Γ (.appZ z bytes s n) e m k = opt2 (appZV z bytes m (ev e s) (ev e n)) k .mk := by
  simp only [opx, appZV, okc_eq]
  generalize ev e s = x; generalize ev e n = y
  cases x <;> try rfl
  rename_i a l c
  rcases a with _ | ⟨r, i, zz⟩
  · rfl
  cases c with
  | none => rfl
  | some c =>
    cases y <;> try rfl
    rename_i q k'
    cases q <;> try rfl
    simp only []
    split
    · generalize m.obj r = o
      rcases o with _ | o
      · rfl
      · cases o with
        | map => rfl
        | iter => rfl
        | row sz es rw => simp only []; split <;> rfl
    · rfl
theorem appZV_sl (z : List V) (bytes : Nat) (m : Mem) (r i zz l c : Nat) (k : Int) : appZV z bytes m (.sl (some (r, i, zz)) l (some c)) (.int .i64 k) =
    if 0 < k ∧ (c : Int) < l + k ∧ (l + k) * bytes ≤ 140737488355328 ∧ l + k ≤ 9223372036854775807 ∧ 0 < z.length ∧ z.all V.okc = true then
      match m.obj r with
      | some (.row sz es rw) => if sz = z.length ∧ i + l ≤ es.length then some (.sl (some (m.next, 0, sz)) (l + k.toNat) none, m.new (.row sz ((es.drop i).take l ++ List.replicate k.toNat z) true)) else none
      | _ => none
    else none := eqI rfl
attribute [simp↓ high] opx_appZ'
attribute [simp] appZV_sl

theorem VRs.split {β : Pl} {a b : List V} {c : List Value} (h : VRs β (a ++ b) c) : ∃ x y, c = x ++ y ∧ VRs β a x ∧ VRs β b y := by
  induction a generalizing c with
  | nil => exact ⟨[], c, rfl, by simp [VRs], h⟩
  | cons v a ih =>
    simp only [List.cons_append, VRs] at h
    obtain ⟨y, ys, rfl, h1, h2⟩ := h
    obtain ⟨x, z, rfl, h3, h4⟩ := ih h2
    exact ⟨y :: x, z, rfl, by simp only [VRs]; exact ⟨_, _, rfl, h1, h3⟩, h4⟩

/-- What lies behind a row, and how far its room reaches, is known to the model. -/
theorem ACalls.reveal {P : Program} {f : FuncId} {a b : List V} {m : Mem} {q i n sz : Nat} {es : List (List V)} (ho : m.obj q = some (.row sz es true)) {K : KV}
    (h : ∀ pad : List (List V), (∀ e ∈ pad, e.length = sz ∧ ∀ v ∈ e, v.isCell = true) → n ≤ es.length + pad.length - i → ACalls P f (a ++ .sl (some (q, i, sz)) n (some (es.length + pad.length - i)) :: b) (m.upd q (some (.row sz (es ++ pad) true))) K) : ACalls P f (a ++ .sl (some (q, i, sz)) n none :: b) m K := by
  refine ⟨trivial, fun base w0 β w cargs hM hA => ?_⟩
  obtain ⟨x, y, rfl, hx, hy⟩ := hA.split
  simp only [VRs] at hy
  obtain ⟨v, ys, rfl, hv, hys⟩ := hy
  obtain ⟨L, A, cap, g1, rfl, g3, g4, g5⟩ := cap_of_VR hv
  have hszL := sz_of_VR hv L g1
  have hR : RowR base β w L sz es true := hM.objs q L _ g1 ho
  simp at g3
  have hlen := hR.len
  -- what lies behind
  have hex : ∀ k j, ∃ u : V, k < L.cap - es.length → j < sz → u.isCell = true ∧ ∃ cv, (∀ β', VR β' u cv) ∧ w.cell? (L.at (es.length + k) j) = some cv := fun k j => by
    by_cases h1 : k < L.cap - es.length ∧ j < sz
    · obtain ⟨u, v, b1, b2, b3⟩ := hR.rest rfl (es.length + k) j (by omega) (by omega) h1.2
      exact ⟨u, fun _ _ => ⟨b1, v, b2, b3⟩⟩
    · exact ⟨.undef, fun h2 h3 => absurd ⟨h2, h3⟩ h1⟩
  let U : Nat → Nat → V := fun k j => Classical.choose (hex k j)
  have hU : ∀ k j, k < L.cap - es.length → j < sz → (U k j).isCell = true ∧ ∃ cv, (∀ β', VR β' (U k j) cv) ∧ w.cell? (L.at (es.length + k) j) = some cv := fun k j => Classical.choose_spec (hex k j)
  let pad : List (List V) := (List.range (L.cap - es.length)).map fun k => (List.range sz).map fun j => U k j
  have hpl : pad.length = L.cap - es.length := by simp [pad]
  have hpg : ∀ k e, pad[k]? = some e → k < L.cap - es.length ∧ e = (List.range sz).map fun j => U k j := fun k e he => by
    have hk := (List.getElem?_eq_some_iff.1 he).1
    rw [hpl] at hk
    refine ⟨hk, ?_⟩
    simp only [pad, List.getElem?_map, List.getElem?_range hk, Option.map_some, Option.some.injEq] at he
    exact he.symm
  have hpe : ∀ e ∈ pad, e.length = sz ∧ ∀ v ∈ e, v.isCell = true := fun e he => by
    obtain ⟨k, hk⟩ := List.getElem?_of_mem he
    obtain ⟨h1, rfl⟩ := hpg k e hk
    refine ⟨by simp, fun v hv => ?_⟩
    obtain ⟨j, hj, rfl⟩ := List.mem_map.1 hv
    exact (hU k j h1 (List.mem_range.1 hj)).1
  have hnew : RowR base β w L sz (es ++ pad) true := by
    refine ⟨hR.szeq, hR.pos, by rw [List.length_append, hpl]; omega, hR.lt, hR.own, fun k e he => ?_, fun _ k j h1 h2 h3 => by rw [List.length_append, hpl] at h1; omega, hR.cold⟩
    by_cases hk : k < es.length
    · rw [List.getElem?_append_left hk] at he; exact hR.cells k e he
    · rw [List.getElem?_append_right (by omega)] at he
      obtain ⟨h1, rfl⟩ := hpg _ e he
      refine ⟨by simp, fun j v hj => ?_⟩
      have hjl := (List.getElem?_eq_some_iff.1 hj).1
      simp only [List.length_map, List.length_range] at hjl
      simp only [List.getElem?_map, List.getElem?_range hjl, Option.map_some, Option.some.injEq] at hj
      subst hj
      obtain ⟨b1, cv, b2, b3⟩ := hU (k - es.length) j h1 hjl
      exact ⟨b1, cv, b2 β, by rw [show k = es.length + (k - es.length) by omega]; exact b3⟩
  have hM2 : MR base w0 β (m.upd q (some (.row sz (es ++ pad) true))) w := hM.step g1 ho (Chg.refl w (fun _ => False)) (fun _ h => h.elim) (fun _ h => h.elim) rfl (fun q' lq h => by cases q' <;> exact h) (fun q' lq h => by cases q' <;> exact h) hnew
  have hap : ∀ (a1 : List V) (x1 : List Value), VRs β a1 x1 → ∀ {b1 : List V} {y1 : List Value}, VRs β b1 y1 → VRs β (a1 ++ b1) (x1 ++ y1) := fun a1 x1 h1 _ _ h2 => VRs.append h1 h2
  have hcap : es.length + pad.length - i = L.cap - i := by rw [hpl]; congr 1; omega
  refine (h pad hpe (by rw [hcap]; omega)).2 base w0 β w _ hM2 (hap _ _ hx ?_)
  simp only [VRs]
  refine ⟨_, _, rfl, ?_, hys⟩
  simp only [VR]
  exact ⟨L, A, cap, g1, rfl, by rw [hcap]; simp; omega, g4, g5, hszL⟩

/-! ### overlaps -/
theorem shape_of_cell {w : World} {a : Addr} {v : Value} (h : w.cell? a = some v) : ∃ t k, w.shape? a.block = some (t, k) ∧ k ≠ 0 := by
  simp only [World.cell?] at h
  split at h
  · rename_i c t fr hb
    refine ⟨t, c.size, by simp only [World.shape?, hb], fun e => ?_⟩
    split at h
    · cases h
    · have := (Array.getElem?_eq_some_iff.1 h).1
      omega
  · cases h

theorem run_overlaps_own {P : Program} {base : Nat} {w0 : World} {β : Pl} {m : Mem} {w : World} {tS tR e : TypeId} (ht : P.underlying tS = some (.slice e)) {sz : Nat} (hz : ∀ w, (Go.sizeOf e).run P w = .ok sz w) (hM : MR base w0 β m w)
    {p i la q j lb : Nat} {ca cb : Option Nat} {x' y' : Value} (hx : VR β (.sl (some (p, i, sz)) la ca) x') (hy : VR β (.sl (some (q, j, sz)) lb cb) y') (hne : p ≠ q) {es es2 : List (List V)} (ho : m.obj p = some (.row sz es true)) (ho2 : m.obj q = some (.row sz es2 true))
    (h1 : i + la ≤ es.length) (h2 : j + lb ≤ es2.length) (h3 : 0 < la) (h4 : 0 < lb) : (Extern.SlicesOverlaps.overlaps #[tS, tS] #[tR] #[x', y']).run P w = .ok (.bool false) w := by
  obtain ⟨L, A, cap, g1, rfl, g3, g4, g5⟩ := cap_of_VR hx
  obtain ⟨L2, A2, cap2, k1, rfl, k3, k4, k5⟩ := cap_of_VR hy
  have hA : A = L.at i 0 := g5 (by omega)
  have hA2 : A2 = L2.at j 0 := k5 (by omega)
  subst hA; subst hA2
  have hs1 := sz_of_VR hx L g1
  have hs2 := sz_of_VR hy L2 k1
  have hR : RowR base β w L sz es true := hM.objs p L _ g1 ho
  have hR2 : RowR base β w L2 sz es2 true := hM.objs q L2 _ k1 ho2
  have hlen := hR.len
  have hlen2 := hR2.len
  have hpos := hR.pos
  have ap := hM.apart p q L L2 _ _ hne g1 k1 ho ho2 (.inl rfl)
  simp only [Apart, hs1, hs2] at ap
  by_cases hb : L.block = L2.block
  · have e1 : (i + la) * sz ≤ L.cap * sz := Nat.mul_le_mul_right _ (by omega)
    have e2 : (j + lb) * sz ≤ L2.cap * sz := Nat.mul_le_mul_right _ (by omega)
    rw [Nat.add_mul] at e1 e2
    have key : ¬ ((L.at i 0).off < (L2.at j 0).off + lb * sz ∧ (L2.at j 0).off < (L.at i 0).off + la * sz) := by
      simp only [Loc.at, hs1, hs2]
      rcases ap with q | q | q
      · exact absurd hb q
      · omega
      · omega
    have hbb : ((L.at i 0).block != (L2.at j 0).block) = false := by simp [Loc.at, hb]
    have hbb' : ((L.at i 0).block == (L2.at j 0).block) = true := by simp [Loc.at, hb]
    generalize L.at i 0 = a at *
    generalize L2.at j 0 = b at *
    have n1 : ¬ la = 0 := by omega
    have n2 : ¬ lb = 0 := by omega
    have n3 : ¬ sz = 0 := by omega
    change Sem.run P (α := Value) (do
      let some t := (#[tS, tS] : Array TypeId)[0]? | stuck "slices.overlaps: no parameter types"
      let .slice elem ← underlying t | stuck "slices.overlaps: slice type expected"
      let size ← sizeOf elem
      match (some a : Option Addr), (some b : Option Addr) with
      | some a, some b =>
        if la = 0 ∨ lb = 0 ∨ size = 0 then pure (Value.bool false)
        else if a.block != b.block && (← frozen a) && (← frozen b) then unsupported .addressObserved
        else do
          if a.block != b.block then do
            noView a; noView b
            if ← mayBeOne a b then return Value.bool ((← choose (.extern "sameAddr.stringBytes" 2)) == 1)
          pure (Value.bool (a.block == b.block && a.off < b.off + lb * size && b.off < a.off + la * size))
      | _, _ => pure (Value.bool false)) w = _
    have kb : (decide (a.off < b.off + lb * sz) && decide (b.off < a.off + la * sz)) = false := by
      rw [← Bool.not_eq_true, Bool.and_eq_true, decide_eq_true_iff, decide_eq_true_iff]; exact key
    simp [run_underlying ht, hz, n1, n2, n3, hbb, hbb', frozen, Sem.run, kb]
  · obtain ⟨v1, c1⟩ := ((hR.own rfl).2 i 0 (by omega) hpos).1
    obtain ⟨v2, c2⟩ := ((hR2.own rfl).2 j 0 (by omega) hR2.pos).1
    obtain ⟨tA, kA, sA, _⟩ := shape_of_cell c1
    obtain ⟨tB, kB, sB, nB⟩ := shape_of_cell c2
    exact Lib.run_overlaps_apart w tS tR e ht sz hz (L.at i 0) (L2.at j 0) la cap lb cap2 hb tA tB kA kB sA sB nB ((hR.own rfl).2 i 0 (by omega) hpos).2 (hR.cold rfl kA)

theorem overlaps_calls {P : Program} {f : FuncId} {fn : Func} {tS tR e : TypeId} {sz : Nat} (nb : ¬ Body P f) (hf : P.funcs[f]? = some fn) (hname : (fn.name == "runtime.NumGoroutine") = false) (hb : fn.body.isNone = true) (hn : Extern.findNext fn = none) (he : Extern.find fn = some (Extern.SlicesOverlaps.overlaps #[tS, tS] #[tR]))
    (ht : P.underlying tS = some (.slice e)) (hz : ∀ w, (Go.sizeOf e).run P w = .ok sz w) {m : Mem} {p i la q j lb : Nat} {ca cb : Option Nat} (hne : p ≠ q) {es es2 : List (List V)} (ho : m.obj p = some (.row sz es true)) (ho2 : m.obj q = some (.row sz es2 true))
    (h1 : i + la ≤ es.length) (h2 : j + lb ≤ es2.length) (h3 : 0 < la) (h4 : 0 < lb) {K : KV} (h : K (.bool false) m) : ACalls P f [.sl (some (p, i, sz)) la ca, .sl (some (q, j, sz)) lb cb] m K := by
  refine ⟨trivial, fun base w0 β w cargs hM hA => ⟨fun hb => absurd hb nb, fun _ => ?_⟩⟩
  simp only [VRs] at hA
  obtain ⟨x', _, rfl, hx, y', _, rfl, hy, rfl⟩ := hA
  have hrun := run_overlaps_own (tR := tR) ht hz hM hx hy hne ho ho2 h1 h2 h3 h4
  refine ⟨.bool false, w, ?_, _, rfl, β, .bool false, m, Pl.le_refl _, by simp only [VR], hM, h⟩
  show (callFunc f #[x', y']).run P w = _
  rw [run_callFunc_extern hf hname hb hn he, hrun]; rfl
end Go.AM
