/-
  THE ABSTRACT MACHINE AND THE MODEL: structs and slices made, slice expressions, append, copy, clear. No Go program here.
-/
import Derived.Test.YtkcpojagecfcbaaGreatDoorAm4
namespace Go.AM
open Go
set_option linter.unusedVariables false
section
variable {P : Program} {base : Nat} {w0 : World} {β : Pl} {m : Mem} {w : World} {K : KV}
/-! ### composite literals -/
theorem foldl_set : ∀ (vs : List Value) (k off : Nat) (cells : Array Value), off + k + vs.length ≤ cells.size →
    ((vs.zipIdx k).foldl (fun cs (x : Value × Nat) => cs.setIfInBounds (off + x.2) x.1) cells).toList = cells.toList.take (off + k) ++ vs ++ cells.toList.drop (off + k + vs.length)
  | [], k, off, cells, _ => by simp
  | v :: vs, k, off, cells, h => by
    simp only [List.length_cons] at h
    simp only [List.zipIdx_cons, List.foldl_cons]
    rw [foldl_set vs (k + 1) off (cells.setIfInBounds (off + k) v) (by simp; omega)]
    have hlt : off + k < cells.toList.length := by simp; omega
    simp only [Array.toList_setIfInBounds, List.length_cons]
    rw [show off + (k + 1) = off + k + 1 by omega, List.take_succ_eq_append_getElem (by simpa using hlt)]
    simp only [List.getElem_set_self, List.take_set_of_le (Nat.le_refl _)]
    rw [List.drop_set_of_lt (by omega)]
    simp only [List.append_assoc, List.nil_append, List.cons_append]
    rw [show off + k + 1 + vs.length = off + k + (vs.length + 1) by omega]
/-- The parts of a literal: the places and the values. -/
def PartsR (β : Pl) (place : Nat → Option (Nat × Nat)) : List (Nat × Value) → List (Nat × Nat × V) → Prop
  | [], [] => True
  | p :: ps, q :: qs => place p.1 = some (q.1, q.2.1) ∧ VR β q.2.2 p.2 ∧ PartsR β place ps qs
  | _, _ => False
theorem splice_rel {z cs : List V} {xs : Array Value} {ys : List Value} {off : Nat} (hz : VRs β z xs.toList) (hc : VRs β cs ys) : VRs β (splice z off cs) (xs.toList.take off ++ ys ++ xs.toList.drop (off + ys.length)) := by
  unfold splice
  rw [hc.length]
  exact VRs.append (VRs.append (VRs.take _ hz) hc) (VRs.drop _ hz)
theorem fill_rel (place : Nat → Option (Nat × Nat)) : ∀ {ps : List (Nat × Value)} {qs : List (Nat × Nat × V)} {cells : Array Value} {z r : List V}, VRs β z cells.toList → PartsR β place ps qs → fillV z qs = some r →
    ∃ cells', Instr.fill place cells ps = some cells' ∧ VRs β r cells'.toList ∧ r.length = z.length
  | [], [], cells, z, r, hz, _, h => by
    simp only [fillV, Option.some.injEq] at h; subst h
    exact ⟨cells, by simp [Instr.fill], hz, rfl⟩
  | [], _ :: _, cells, z, r, hz, hp, h => by simp [PartsR] at hp
  | _ :: _, [], cells, z, r, hz, hp, h => by simp [PartsR] at hp
  | (i, v) :: ps, (off, n, x) :: qs, cells, z, r, hz, hp, h => by
    simp only [PartsR] at hp
    obtain ⟨h1, h2, h3⟩ := hp
    simp only [fillV] at h
    split at h
    · rename_i hc
      obtain ⟨hc1, hc2, hc3⟩ := hc
      have hv := h2.cells hc3
      have hl1 : x.cells.length = v.cells.toList.length := hv.length
      have hl2 : v.cells.toList.length = v.cells.size := Array.length_toList
      have hl3 : z.length = cells.toList.length := hz.length
      have hl4 : cells.toList.length = cells.size := Array.length_toList
      have hset := foldl_set v.cells.toList 0 off cells (by omega)
      simp only [Nat.add_zero] at hset
      have hfold : (v.cells.zipIdx.foldl (fun cs (x : Value × Nat) => cs.setIfInBounds (off + x.2) x.1) cells) = (v.cells.toList.zipIdx 0).foldl (fun cs (x : Value × Nat) => cs.setIfInBounds (off + x.2) x.1) cells := by
        rw [← Array.foldl_toList]; congr 1; simp
      obtain ⟨cells', g1, g2, g3⟩ := fill_rel place (ps := ps) (qs := qs) (cells := v.cells.zipIdx.foldl (fun cs (x : Value × Nat) => cs.setIfInBounds (off + x.2) x.1) cells) (z := splice z off x.cells) (r := r)
        (by rw [hfold, hset]; exact splice_rel hz hv) h3 h
      refine ⟨cells', ?_, g2, by rw [g3, splice_length (by omega)]⟩
      simp only [Instr.fill, h1]
      rw [if_neg (by simp; omega)]
      exact g1
    · cases h
theorem run_mapM_pure {α γ : Type} (f : α → Sem γ) (g : α → γ) : ∀ (l : List α) (w : World), (∀ x ∈ l, ∀ w, (f x).run P w = .ok (g x) w) → (l.mapM f).run P w = .ok (l.map g) w
  | [], w, _ => by simp
  | x :: l, w, h => by
    simp only [List.mapM_cons, Sem.run_bind, h x (by simp) w, Result.andThen_ok, run_mapM_pure f g l w (fun y hy => h y (by simp [hy])), Sem.run_pure, List.map_cons]
theorem run_mapM_array {α γ : Type} (f : α → Sem γ) (g : α → γ) (xs : Array α) (w : World) (h : ∀ x ∈ xs.toList, ∀ w, (f x).run P w = .ok (g x) w) : (xs.mapM f).run P w = .ok (xs.map g) w := by
  rw [Array.mapM_eq_mapM_toList, Sem.run_map, run_mapM_pure f g _ w h]
  simp only [Result.andThen_ok]; congr 1
  apply Array.ext'; simp
/-- Where the parts of a struct go. -/
def placeS (P : Program) (fs : Array Field) (k : Nat) : Option (Nat × Nat) :=
  match fs[k]? with
  | some f => (P.info? f.type).map fun i => (f.offset, i.size)
  | none => none
theorem run_build_struct {t : TypeId} {i : TypeInfo} {z : Value} {fs : Array Field} (hi : P.info? t = some i) (hz : i.zero = some z) (hd : P.underlying t = some (.struct fs)) (hall : fs.toList.all (fun f => (P.info? f.type).isSome) = true)
    {ps : Array (Nat × Value)} {cells' : Array Value} (hf : Instr.fill (placeS P fs) z.cells ps.toList = some cells') : (Instr.build t ps).run P w = .ok (.agg cells') w := by
  unfold Instr.build
  simp only [Sem.run_bind, run_zeroValue' hi hz, Result.andThen_ok, run_underlying hd]
  rw [run_mapM_array (g := fun f => (f.offset, ((P.info? f.type).map (·.size)).getD 0))]
  · simp only [Result.andThen_ok]
    have hp : (fun x => (Array.map (fun f => (f.offset, ((P.info? f.type).map (·.size)).getD 0)) fs)[x]?) = placeS P fs := by
      funext k
      simp only [placeS, Array.getElem?_map]
      cases hk : fs[k]? with
      | none => rfl
      | some f =>
        have : (P.info? f.type).isSome = true := (List.all_eq_true.1 hall) f (by simpa using Array.mem_of_getElem? hk)
        obtain ⟨fi, hfi⟩ := Option.isSome_iff_exists.1 this
        simp [hfi]
    rw [hp, hf]
    simp
  · intro f hfm w
    obtain ⟨fi, hfi⟩ := Option.isSome_iff_exists.1 ((List.all_eq_true.1 hall) f hfm)
    simp [run_sizeOf' hfi, hfi]
theorem run_build_array {t e : TypeId} {i ei : TypeInfo} {z : Value} {n : Nat} (hi : P.info? t = some i) (hz : i.zero = some z) (hd : P.underlying t = some (.array n e)) (he : P.info? e = some ei)
    {ps : Array (Nat × Value)} {cells' : Array Value} (hf : Instr.fill (fun k => some (k * ei.size, ei.size)) z.cells ps.toList = some cells') : (Instr.build t ps).run P w = .ok (.agg cells') w := by
  unfold Instr.build
  simp only [Sem.run_bind, run_zeroValue' hi hz, Result.andThen_ok, Sem.run_pure, run_underlying hd, run_sizeOf' he, hf]
/-- The cells of n zero elements. -/
def zerosOf (z : Value) (n : Nat) : List Value := (List.range n).map fun k => z.cells.toList.getD (k % z.cells.size) undef
theorem run_buildSlice {t e : TypeId} {ei : TypeInfo} {z : Value} {n : Nat} (hd : P.underlying t = some (.slice e)) (he : P.info? e = some ei) (hz : ei.zero = some z) (hs : z.cells.size = ei.size) (hpos : 0 < ei.size) (hn : 0 < n) (hlim : n * ei.size ≤ 2 ^ 24)
    {ps : Array (Nat × Value)} {cells' : Array Value} (hf : Instr.fill (fun k => some (k * ei.size, ei.size)) (zerosOf z (n * ei.size)).toArray ps.toList = some cells') :
    (Instr.buildSlice t n ps).run P w = .ok (.slice (some ⟨w.heap.size, 0, none⟩) n n) (w.alloc (.cells cells' e)) := by
  unfold Instr.buildSlice
  have h1 : ¬ (n * ei.size > 2 ^ 24) := by omega
  have h2 : n * ei.size ≠ 0 := Nat.mul_ne_zero (by omega) (by omega)
  have hzz : (Array.map (fun x => z.cells[x % z.cells.size]!) (Array.range (n * ei.size))) = (zerosOf z (n * ei.size)).toArray := by
    apply Array.ext'
    simp only [zerosOf, Array.toList_map, Array.toList_range]
    apply List.map_congr_left
    intro k hk
    have : k % z.cells.size < z.cells.size := Nat.mod_lt _ (by omega)
    simp [this, List.getD]
  simp only [Sem.run_bind, run_underlying hd, Result.andThen_ok, run_sizeOf' he, h1, if_false, h2, Sem.run_pure, run_zeroValue' he hz, newRow, run_newObj, World.alloc_eq, hzz, hf]
/-! ### slice expressions -/
def OptR (β : Pl) : Option V → Option Value → Prop
  | none, none => True
  | some x, some v => VR β x v
  | _, _ => False
theorem natOf_rel {x : V} {v : Value} {n : Nat} (h : VR β x v) (hn : natOf x = some n) : ∃ k, v = .int k n := by
  cases x <;> simp only [natOf] at hn <;> first | (cases hn; done) | skip
  split at hn
  · rename_i k z hz
    injection hn with hn; subst hn
    simp only [VR] at h; subst h
    exact ⟨k, by rw [Int.toNat_of_nonneg hz]⟩
  · cases hn
theorem run_sliceBound {k : IntKind} {n y : Nat} {code : BoundsCode} (h : n ≤ y) : (Instr.sliceBound (.int k n) y code).run P w = .ok n w := by
  have h0 : (0 : Int) ≤ (n : Int) ∧ (n : Int) ≤ (y : Int) := ⟨by omega, by omega⟩
  simp only [Instr.sliceBound, asIntOf, Sem.run_bind, Sem.run_pure, Result.andThen_ok, h0, and_self, if_true]
  simp
theorem run_bounds (isSlice : Bool) {n cap : Nat} {c : Option Nat} {lo hi mx : Option V} {lo' hi' mx' : Option Value} (h1 : OptR β lo lo') (h2 : OptR β hi hi') (h3 : OptR β mx mx') {l h : Nat} {c' : Option Nat} (hb : sliceB n c lo hi mx = some (l, h, c'))
    (hn : n ≤ cap) (hc : ∀ k, c = some k → k = cap) :
    ∃ M, (Instr.sliceBounds isSlice n cap lo' hi' mx').run P w = .ok (l, h, M) w ∧ l ≤ h ∧ h ≤ M ∧ M ≤ cap ∧ (c' = some (M - l) ∨ (c' = none ∧ M = cap ∧ c = none)) := by
  have hmax : Nat.max n (c.getD n) ≤ cap := by
    cases c with
    | none => show max n n ≤ cap; omega
    | some k => have := hc k rfl; show max n k ≤ cap; omega
  unfold sliceB at hb
  split at hb
  · rename_i l1 h1' hl hh
    have hlo : lo' = none ∧ l1 = 0 ∨ ∃ k, lo' = some (.int k l1) := by
      cases lo with
      | none => cases lo' with
        | none => simp at hl; exact .inl ⟨rfl, hl.symm⟩
        | some v => simp [OptR] at h1
      | some x => cases lo' with
        | none => simp [OptR] at h1
        | some v => obtain ⟨k, rfl⟩ := natOf_rel h1 hl; exact .inr ⟨k, rfl⟩
    have hhi : hi' = none ∧ h1' = n ∨ ∃ k, hi' = some (.int k h1') := by
      cases hi with
      | none => cases hi' with
        | none => simp at hh; exact .inl ⟨rfl, hh.symm⟩
        | some v => simp [OptR] at h2
      | some x => cases hi' with
        | none => simp [OptR] at h2
        | some v => obtain ⟨k, rfl⟩ := natOf_rel h2 hh; exact .inr ⟨k, rfl⟩
    cases mx with
    | none =>
      cases mx' with
      | some v => simp [OptR] at h3
      | none =>
        simp only at hb
        split at hb
        · rename_i hcond
          injection hb with hb; injection hb with e1 hb; injection hb with e2 e3
          subst e1; subst e2
          refine ⟨cap, ?_, hcond.1, by omega, Nat.le_refl _, ?_⟩
          · rcases hhi with ⟨rfl, rfl⟩ | ⟨kh, rfl⟩ <;> rcases hlo with ⟨rfl, rfl⟩ | ⟨kl, rfl⟩ <;>
              simp only [Instr.sliceBounds, Sem.run_bind, Sem.run_pure, Result.andThen_ok, run_sliceBound hcond.1, run_sliceBound (show h1' ≤ cap by omega)]
          · cases c with
            | none => exact .inr ⟨by simpa using e3.symm, rfl, rfl⟩
            | some k => have := hc k rfl; subst this; exact .inl (by simpa using e3.symm)
        · cases hb
    | some x =>
      cases mx' with
      | none => simp [OptR] at h3
      | some v =>
        simp only at hb
        split at hb
        · rename_i y k hk
          split at hb
          · rename_i hcond
            injection hb with hb; injection hb with e1 hb; injection hb with e2 e3
            subst e1; subst e2
            obtain ⟨kx, rfl⟩ := natOf_rel h3 hk
            rcases hhi with ⟨rfl, rfl⟩ | ⟨kh, rfl⟩
            · simp [OptR] at h2
            · refine ⟨k, ?_, hcond.1, hcond.2.1, by omega, .inl e3.symm⟩
              rcases hlo with ⟨rfl, rfl⟩ | ⟨kl, rfl⟩ <;>
                simp only [Instr.sliceBounds, Sem.run_bind, Sem.run_pure, Result.andThen_ok, run_sliceBound (show k ≤ cap by omega), run_sliceBound hcond.2.1, run_sliceBound hcond.1]
          · cases hb
        · cases hb
  · cases hb
theorem cap_of_VR {r i z n : Nat} {c : Option Nat} {v : Value} (h : VR β (.sl (some (r, i, z)) n c) v) : ∃ l a cap, β r = some l ∧ v = .slice (some a) n cap ∧ cap = c.getD (l.cap - i) ∧ n ≤ cap ∧ (cap ≠ 0 → a = l.at i 0) := by
  simp only [VR] at h; obtain ⟨l, a, cap, h1, h2, h3, h4, h5, h6⟩ := h; exact ⟨l, a, cap, h1, h2, h3, h4, h5⟩
theorem sz_of_VR {r i z n : Nat} {c : Option Nat} {v : Value} (h : VR β (.sl (some (r, i, z)) n c) v) : ∀ l, β r = some l → l.sz = z := by
  simp only [VR] at h; obtain ⟨l, a, cap, h1, h2, h3, h4, h5, h6⟩ := h; intro l' hl; rw [h1] at hl; injection hl with hl; subst hl; exact h6
theorem run_slice_am {t e : TypeId} {ei : TypeInfo} (hd : P.underlying t = some (.slice e)) (he : P.info? e = some ei) {x : V} {x' : Value} (hx : VR β x x') {lo hi mx : Option V} {lo' hi' mx' : Option Value} (h1 : OptR β lo lo') (h2 : OptR β hi hi') (h3 : OptR β mx mx')
    {a : Option (Nat × Nat × Nat)} {n : Nat} {c : Option Nat} (ex : x = .sl a n c) {l h : Nat} {c' : Option Nat} (hb : sliceB n c lo hi mx = some (l, h, c')) {v : V} (hv : sliceV ei.size a l h c' = some v) :
    ∃ u, (Instr.sliceAt t x' lo' hi' mx').run P w = .ok u w ∧ VR β v u := by
  subst ex
  unfold sliceV at hv
  cases a with
  | none =>
    simp only [VR] at hx; obtain ⟨rfl, rfl, rfl⟩ := hx
    obtain ⟨M, hr, g1, g2, g3, g4⟩ := run_bounds (P := P) (w := w) true h1 h2 h3 hb (Nat.le_refl 0) (by simp)
    have : M = 0 := by omega
    subst this
    have : h = 0 := by omega
    subst this
    have : l = 0 := by omega
    subst this
    simp only [Option.some.injEq] at hv; subst hv
    refine ⟨.slice none 0 0, ?_, by simp [VR]⟩
    simp [Instr.sliceAt, Instr.slice, run_underlying hd, hr, run_sizeOf' he]
  | some p =>
    obtain ⟨r, i, z⟩ := p
    have hszz := sz_of_VR hx
    obtain ⟨L, A, cap, g1, rfl, g3, g4, g5⟩ := cap_of_VR hx
    have hLz := hszz L g1
    obtain ⟨M, hr, b1, b2, b3, b4⟩ := run_bounds (P := P) (w := w) true h1 h2 h3 hb g4 (fun k hk => by rw [hk] at g3; exact g3.symm)
    have hrun : (Instr.sliceAt t (.slice (some A) n cap) lo' hi' mx').run P w = .ok (.slice (some (if M = l then A else A.add (l * ei.size))) (h - l) (M - l)) w := by
      simp only [Instr.sliceAt, Instr.slice, Sem.run_bind, run_underlying hd, Result.andThen_ok, hr, run_sizeOf' he, Sem.run_pure]
      by_cases hm : M = l <;> simp [hm]
    have hcap' : M - l = c'.getD (L.cap - (i + l)) := by
      rcases b4 with b4 | ⟨b4, b5, b6⟩
      · rw [b4]; rfl
      · subst b4; subst b6; simp at g3 ⊢; omega
    by_cases hl : l = 0
    · subst hl
      simp only [if_true, Option.some.injEq] at hv; subst hv
      refine ⟨_, hrun, ?_⟩
      simp only [VR]
      refine ⟨L, _, M - 0, g1, rfl, by simpa using hcap', by omega, fun hne => ?_, hLz⟩
      have : A = L.at i 0 := g5 (by omega)
      subst this
      simp [Addr.add]
    · simp only [if_neg hl] at hv
      split at hv
      · rename_i hsz
        injection hv with hv; subst hv
        refine ⟨_, hrun, ?_⟩
        simp only [VR]
        refine ⟨L, _, M - l, g1, rfl, hcap', by omega, fun hne => ?_, hLz⟩
        have : A = L.at i 0 := g5 (by omega)
        subst this
        rw [if_neg (by omega), ← hsz, ← hLz, at_row]
      · cases hv
theorem run_sliceM_am {t e : TypeId} {ei : TypeInfo} (hd : P.underlying t = some (.slice e)) (he : P.info? e = some ei) (hM : MR base w0 β m w) {x lo hi : V} {x' lo' hi' : Value} (hx : VR β x x') (h1 : VR β lo lo') (h2 : VR β hi hi')
    {v : V} (hv : sliceMV ei.size m x lo hi = some v) : ∃ u, (Instr.sliceAt t x' (some lo') (some hi') none).run P w = .ok u w ∧ VR β v u := by
  unfold sliceMV at hv
  split at hv
  · rename_i r i z n
    split at hv
    · rename_i sz es rw ho
      split at hv
      · rename_i l h hl hh
        split at hv
        · rename_i hc
          obtain ⟨L, A, cap, g1, rfl, g3, g4, g5⟩ := cap_of_VR hx
          have hsz := sz_of_VR hx L g1
          have hrow : RowR base β w L sz es rw := hM.objs r L _ g1 ho
          have hlen := hrow.len
          simp at g3
          subst g3
          have hx2 : VR β (.sl (some (r, i, z)) n (some (L.cap - i))) (.slice (some A) n (L.cap - i)) := by
            simp only [VR]; exact ⟨L, A, _, g1, rfl, rfl, g4, g5, hsz⟩
          have hmx : h ≤ Nat.max n (L.cap - i) := by
            have h3 : Nat.max n (es.length - i) ≤ Nat.max n (L.cap - i) := Nat.max_le.2 ⟨Nat.le_max_left _ _, Nat.le_trans (by omega) (Nat.le_max_right _ _)⟩
            exact Nat.le_trans hc.2 h3
          have hb : sliceB n (some (L.cap - i)) (some lo) (some hi) none = some (l, h, some (L.cap - i - l)) := by
            simp only [sliceB, hl, hh]
            rw [if_pos ⟨hc.1, hmx⟩]; rfl
          have hle : h ≤ L.cap - i := Nat.le_trans hmx (Nat.max_le.2 ⟨g4, Nat.le_refl _⟩)
          have key : ∀ j, VR β (.sl (some (r, i + l, z)) j (some (L.cap - i - l))) = VR β (.sl (some (r, i + l, z)) j none) := by
            intro j; funext u
            simp only [VR, Option.getD_some, Option.getD_none]
            apply propext
            constructor
            · rintro ⟨l', a', c', e1, e2, e3, e4⟩
              rw [g1] at e1; injection e1 with e1; subst e1
              exact ⟨L, a', c', g1, e2, by omega, e4⟩
            · rintro ⟨l', a', c', e1, e2, e3, e4⟩
              rw [g1] at e1; injection e1 with e1; subst e1
              exact ⟨L, a', c', g1, e2, by omega, e4⟩
          by_cases h0 : l = 0
          · subst h0
            simp only [sliceV, if_true, Option.some.injEq] at hv; subst hv
            obtain ⟨u, q1, q2⟩ := run_slice_am (P := P) (w := w) hd he hx2 (lo := some lo) (hi := some hi) (mx := none) (lo' := some lo') (hi' := some hi') (mx' := none) h1 h2 trivial rfl hb (v := .sl (some (r, i, z)) h (some (L.cap - i - 0))) (by simp only [sliceV, if_true])
            exact ⟨u, q1, by have := key h; rw [Nat.add_zero] at this; rw [← this]; exact q2⟩
          · simp only [sliceV, if_neg h0] at hv
            split at hv
            · rename_i hzz
              injection hv with hv; subst hv
              obtain ⟨u, q1, q2⟩ := run_slice_am (P := P) (w := w) hd he hx2 (lo := some lo) (hi := some hi) (mx := none) (lo' := some lo') (hi' := some hi') (mx' := none) h1 h2 trivial rfl hb (v := .sl (some (r, i + l, z)) (h - l) (some (L.cap - i - l))) (by simp only [sliceV, if_neg h0, hzz, if_true])
              exact ⟨u, q1, by rw [← key]; exact q2⟩
            · cases hv
        · cases hv
      · cases hv
    · cases hv
  · rename_i a n c hne
    split at hv
    · rename_i l h c' hb
      exact run_slice_am (P := P) (w := w) hd he hx (lo := some lo) (hi := some hi) (mx := none) (lo' := some lo') (hi' := some hi') (mx' := none) h1 h2 trivial rfl hb hv
    · cases hv
  · cases hv
theorem gives_sliceS {t : TypeId} (hd : P.underlying t = some .string) (hM : MR base w0 β m w) {s : ByteArray} {lo hi : Option V} {lo' hi' : Option Value} (h1 : OptR β lo lo') (h2 : OptR β hi hi') {l h : Nat} {c' : Option Nat} (hb : sliceB s.size (some s.size) lo hi none = some (l, h, c'))
    (hk : K (.str (s.extract l h)) m) : Gives P (Instr.sliceAt t (.string s) lo' hi' none) w (Post base w0 β K) := by
  obtain ⟨M, hr, b1, b2, b3, b4⟩ := run_bounds (P := P) (w := w) (mx' := none) false h1 h2 (by simp [OptR]) hb (Nat.le_refl _) (by simp)
  refine ⟨.string (s.extract l h), w, ?_, Post.same hM (by simp [VR]) hk⟩
  simp [Instr.sliceAt, Instr.slice, run_underlying hd, hr]
/-! ### what append and copy take -/
theorem flat_bytes (s : List UInt8) (β : Pl) : VRs β (s.map fun b => [V.int .u8 (b.toNat : Int)]).flatten (s.map fun b => Value.int .u8 (b.toNat : Int)) := by
  induction s with
  | nil => simp [VRs]
  | cons b s ih => simp only [List.map_cons, List.flatten_cons, List.singleton_append, VRs]; exact ⟨_, _, rfl, by simp [VR], ih⟩
theorem elts_sound {sz : Nat} (hM : MR base w0 β m w) {x : V} {x' : Value} (hx : VR β x x') {es : List (List V)} (h : eltsOf sz m x = some es) (hpos : 0 < sz) :
    ∃ cvs n, VRs β es.flatten cvs ∧ n = es.length ∧ cvs.length = n * sz ∧ (∀ e ∈ es, e.length = sz ∧ ∀ v ∈ e, v.isCell = true) ∧ (∀ v ∈ cvs, v.oneCell' = true) ∧
      (∀ W : World, (Builtin.lenOf x').run P W = .ok n W) ∧ (∀ W : World, (∀ a : Addr, a.block < w.heap.size → W.cell? a = w.cell? a) → (Builtin.firstCells sz n x').run P W = .ok cvs.toArray W) ∧
      ((∃ a n c, x = .sl a n c) ∨ (∃ s, x = .str s)) := by
  cases x <;> simp only [eltsOf] at h <;> first | (cases h; done) | skip
  · rename_i s
    split at h
    · rename_i h1; subst h1
      injection h with h; subst h
      simp only [VR] at hx; subst hx
      refine ⟨s.data.toList.map fun b => Value.int .u8 (b.toNat : Int), _, flat_bytes _ _, rfl, by simp, ?_, ?_, ?_, ?_, .inr ⟨s, rfl⟩⟩
      · intro e he; obtain ⟨b, _, rfl⟩ := List.mem_map.1 he; simp [V.isCell]
      · intro v hv; obtain ⟨b, _, rfl⟩ := List.mem_map.1 hv; rfl
      · intro W; simp [Builtin.lenOf]
      · intro W _
        have := firstCells_string (P := P) s W
        simpa [byteCells] using this
    · cases h
  · rename_i a n c
    rcases a with _ | ⟨r, i, zz⟩
    · simp only [Option.some.injEq] at h; subst h
      simp only [VR] at hx; obtain ⟨rfl, rfl, rfl⟩ := hx
      exact ⟨[], 0, by simp [VRs], rfl, by simp, by simp, by simp, fun _ => by simp [Builtin.lenOf], fun _ _ => by simp [Builtin.firstCells], .inl ⟨_, _, _, rfl⟩⟩
    · obtain ⟨L, A, cap, g1, rfl, g3, g4, g5⟩ := cap_of_VR hx
      dsimp only at h
      split at h
      · rename_i hn; subst hn
        injection h with h; subst h
        exact ⟨[], 0, by simp [VRs], rfl, by simp, by simp, by simp, fun _ => by simp [Builtin.lenOf], fun _ _ => by simp [Builtin.firstCells, loadCells, loadCellsFrom], .inl ⟨_, _, _, rfl⟩⟩
      · rename_i hn
        unfold Mem.elts at h
        split at h
        · rename_i sz' es0 rw ho
          split at h
          · rename_i hc; injection h with h; subst h
            obtain ⟨rfl, hle⟩ := hc
            have hrow : RowR base β w L sz' es0 rw := hM.objs r L _ g1 ho
            obtain ⟨cvs, c1, c2, c3, c4⟩ := hrow.seg n i hle
            have hA : A = L.at i 0 := g5 (by omega)
            subst hA
            refine ⟨cvs, n, c1, by simp; omega, c2, ?_, c4, fun _ => by simp [Builtin.lenOf], fun W hW => ?_, .inl ⟨_, _, _, rfl⟩⟩
            · intro e he
              have := List.mem_of_mem_take he
              have := List.mem_of_mem_drop this
              obtain ⟨k, hk⟩ := List.getElem?_of_mem this
              obtain ⟨h1, h2⟩ := hrow.cells k e hk
              exact ⟨h1, fun v hv => by obtain ⟨j, hj⟩ := List.getElem?_of_mem hv; exact (h2 j v hj).1⟩
            · refine run_firstCells_some W sz' n (L.at i 0) n cap cvs c2 (fun j v hj => ?_)
              rw [hW _ (by rw [at_add]; exact hrow.lt)]
              exact c3 j v hj
          · cases h
        · cases h
theorem elts_src {tx : TypeId} {sz : Nat} (hM : MR base w0 β m w) {x : V} {x' : Value} (hx : VR β x x') {es : List (List V)} (h : eltsOf sz m x = some es) (hpos : 0 < sz)
    (hty : (∃ e', P.underlying tx = some (.slice e')) ∨ P.underlying tx = some .string) :
    ∃ cvs, VRs β es.flatten cvs ∧ cvs.length = es.length * sz ∧ (∀ e ∈ es, e.length = sz ∧ ∀ v ∈ e, v.isCell = true) ∧ Src P sz tx x' es.length cvs w := by
  obtain ⟨cvs, n, h1, rfl, h3, h4, h5, h6, h7, _⟩ := elts_sound (P := P) hM hx h hpos
  exact ⟨cvs, h1, h3, h4, ⟨hty, h6, h7 w (fun _ _ => rfl), h7 w.drew (fun _ _ => rfl), h3, h5⟩⟩
/-! ### append -/
theorem take_app_drop_get {α : Type} (es new : List α) (o i : Nat) (h : o + new.length ≤ es.length) : (es.take o ++ new ++ es.drop (o + new.length))[i]? = if i < o then es[i]? else if i < o + new.length then new[i - o]? else es[i]? := by
  by_cases h1 : i < o
  · rw [if_pos h1, List.append_assoc, List.getElem?_append_left (by simp; omega)]; simp [h1]
  · rw [if_neg h1]
    by_cases h2 : i < o + new.length
    · rw [if_pos h2, List.append_assoc, List.getElem?_append_right (by simp; omega), List.getElem?_append_left (by simp; omega)]; simp; congr 1; omega
    · rw [if_neg h2, List.getElem?_append_right (by simp; omega)]; simp; congr 1; omega
/-- Whole elements of a row of one's own are written. -/
theorem write_elts {r : Nat} {l : Loc} {sz : Nat} {es new : List (List V)} (hM : MR base w0 β m w) (hl : β r = some l) (ho : m.obj r = some (.row sz es true)) {o : Nat} {cvs : List Value} (hle : o + new.length ≤ es.length)
    (hn : ∀ e ∈ new, e.length = sz ∧ ∀ v ∈ e, v.isCell = true) (hv : VRs β new.flatten cvs) (hc : cvs.length = new.length * sz) :
    MR base w0 β (m.upd r (some (.row sz (es.take o ++ new ++ es.drop (o + new.length)) true))) (w.setCells l.block (l.base + o * sz) cvs) := by
  have hrow : RowR base β w l sz es true := hM.objs r l _ hl ho
  have hmul : (o + new.length) * sz ≤ l.cap * sz := Nat.mul_le_mul_right _ (Nat.le_trans hle hrow.len)
  rw [Nat.add_mul] at hmul
  have hlen' : (es.take o ++ new ++ es.drop (o + new.length)).length = es.length := by simp; omega
  have hmul2 : (o + new.length) * sz ≤ es.length * sz := Nat.mul_le_mul_right _ hle
  rw [Nat.add_mul] at hmul2
  refine step_write hM hl ho (by simp; have := hrow.len; omega) (by rw [hc]; exact hmul) (by rw [hlen']; exact Nat.le_refl _) (by rw [hlen', hc]; exact hmul2) (fun i e he => ?_)
  rw [take_app_drop_get es new o i hle] at he
  by_cases h1 : i < o
  · rw [if_pos h1] at he
    obtain ⟨g1, g2⟩ := hrow.cells i e he
    refine ⟨g1, fun j v hj => ⟨(g2 j v hj).1, .inr ⟨.inl ?_, e, he, hj⟩⟩⟩
    have hj' : j < sz := by have := (List.getElem?_eq_some_iff.1 hj).1; omega
    have : (i + 1) * sz ≤ o * sz := Nat.mul_le_mul_right _ h1
    rw [Nat.add_mul] at this; omega
  · rw [if_neg h1] at he
    by_cases h2 : i < o + new.length
    · rw [if_pos h2] at he
      obtain ⟨g1, g2⟩ := hn e (List.mem_of_getElem? he)
      refine ⟨g1, fun j v hj => ⟨g2 v (List.mem_of_getElem? hj), .inl ?_⟩⟩
      have hf := flatten_get (fun e he => (hn e he).1) (i - o) j e v he hj
      obtain ⟨cv, g3, g4⟩ := hv.get _ _ hf
      refine ⟨_, cv, ?_, g3, g4⟩
      rw [Nat.sub_mul]
      have : o * sz ≤ i * sz := Nat.mul_le_mul_right _ (by omega)
      omega
    · rw [if_neg h2] at he
      obtain ⟨g1, g2⟩ := hrow.cells i e he
      refine ⟨g1, fun j v hj => ⟨(g2 j v hj).1, .inr ⟨.inr ?_, e, he, hj⟩⟩⟩
      have : (o + new.length) * sz ≤ i * sz := Nat.mul_le_mul_right _ (by omega)
      rw [Nat.add_mul] at this; omega
theorem storable_elts {r : Nat} {l : Loc} {sz : Nat} {es : List (List V)} (hM : MR base w0 β m w) (hl : β r = some l) (ho : m.obj r = some (.row sz es true)) {o k : Nat} (hle : o + k ≤ l.cap) :
    (∀ j, j < k * sz → (w.cell? ⟨l.block, l.base + o * sz + j, none⟩).isSome = true) ∧ (∀ j, j < k * sz → w.frozen? ⟨l.block, l.base + o * sz + j, none⟩ = false) := by
  have hmul : (o + k) * sz ≤ l.cap * sz := Nat.mul_le_mul_right _ hle
  rw [Nat.add_mul] at hmul
  exact storable hM hl ho (o := o * sz) (n := k * sz) hmul
theorem zeroCells_size (z : Array Value) (n : Nat) : (Builtin.zeroCells z n).size = n * z.size := by simp [Builtin.zeroCells]
/-- A new row behind an append. -/
theorem grown_row {e : TypeId} {sz : Nat} {es : List (List V)} {cvs : List Value} {z : Value} {cap : Nat} (hM : MR base w0 β m w) (hpos : 0 < sz) (hes : ∀ x ∈ es, x.length = sz ∧ ∀ v ∈ x, v.isCell = true) (hv : VRs β es.flatten cvs) (hcv : cvs.length = es.length * sz) (hz : z.cells.size = sz) (hzc : (ofVal z).cells.all V.isCell = true) (hcap : es.length ≤ cap) :
    ∃ β', MR base w0 β' (m.new (.row sz es true)) (w.drew.alloc (.cells (cvs.toArray ++ Builtin.zeroCells z.cells (cap - es.length)) e)) ∧ Pl.le β β' ∧ β' m.next = some ⟨w.heap.size, 0, sz, cap⟩ := by
  have hM' := hM.drew
  refine hM'.alloc (l := ⟨w.heap.size, 0, sz, cap⟩) _ rfl (fun β' hle => ?_)
  have hsz : (cvs.toArray ++ Builtin.zeroCells z.cells (cap - es.length)).size = cap * sz := by
    rw [Array.size_append, zeroCells_size, hz]
    simp only [List.size_toArray, hcv]
    rw [← Nat.add_mul]; congr 1; omega
  exact RowR.fresh (w := w.drew) (cvs := cvs) hM'.le hpos (fun x hx => (hes x hx).1) (fun x hx => (hes x hx).2) (VRs.mono hle _ _ hv)
    (fun q v hq => by
      have hql : q < cvs.length := (List.getElem?_eq_some_iff.1 hq).1
      rw [Array.getElem?_append_left (by simpa using hql)]; simpa using hq) (by rw [hsz]; exact Nat.le_refl _) hcap (fun i j h1 h2 h3 => by
      have hj : j < z.cells.size := by omega
      have hlz : (ofVal z).cells.length = z.cells.size := by
        have := ((ofVal_rel β z).cells hzc).length
        simpa using this
      have hju : j < (ofVal z).cells.length := by omega
      refine ⟨(ofVal z).cells[j], z.cells[j], by rw [List.all_eq_true] at hzc; exact hzc _ (List.getElem_mem _), fun β'' => ?_, ?_⟩
      · exact ((ofVal_rel β'' z).cells hzc).get' (List.getElem?_eq_getElem hju) (by simp)
      · have hq : i * sz + j = cvs.length + ((i - es.length) * sz + j) := by
          rw [hcv, Nat.sub_mul]
          have : es.length * sz ≤ i * sz := Nat.mul_le_mul_right _ h1
          omega
        have hlt : (i - es.length) * sz + j < (cap - es.length) * sz := by
          have : (i - es.length + 1) * sz ≤ (cap - es.length) * sz := Nat.mul_le_mul_right _ (by omega)
          rw [Nat.add_mul] at this; omega
        have hmod : ((i - es.length) * sz + j) % z.cells.size = j := by
          rw [hz, Nat.add_comm, Nat.add_mul_mod_self_right, Nat.mod_eq_of_lt h3]
        rw [hq, Array.getElem?_append_right (by simp), show cvs.length + ((i - es.length) * sz + j) - cvs.toArray.size = (i - es.length) * sz + j by simp]
        simp only [Builtin.zeroCells]
        simp [hz, hlt]
        rw [Nat.mod_eq_of_lt h3]; simp [hj])
theorem Mem.ext' {a b : Mem} (h : ∀ r, a.obj r = b.obj r) (k : a.next = b.next) : a = b := by
  cases a; cases b; simp only [Mem.mk.injEq]; exact ⟨funext h, k⟩
/-- A row of one's own goes on under another number, from its i-th element on. -/
theorem MR.rehome {r : Nat} {l : Loc} {sz : Nat} {es : List (List V)} (hM : MR base w0 β m w) (hl : β r = some l) (ho : m.obj r = some (.row sz es true)) {i : Nat} (hi : i ≤ es.length) :
    ∃ β', MR base w0 β' ((m.new (.row sz (es.drop i) true)).upd r none) w ∧ Pl.le β β' ∧ β' m.next = some ⟨l.block, l.base + i * sz, sz, l.cap - i⟩ := by
  have hrow : RowR base β w l sz es true := hM.objs r l _ hl ho
  have hsz := hrow.szeq
  have hlen := hrow.len
  have hrlt := hM.fresh r _ ho
  have hf := hM.forget r
  have hin : l.base + i * sz + (l.cap - i) * sz = l.base + l.cap * sz := by
    rw [Nat.add_assoc, ← Nat.add_mul]; congr 2; omega
  have hadd := hf.add (w' := w) (l := ⟨l.block, l.base + i * sz, sz, l.cap - i⟩) (o := .row sz (es.drop i) true) (Chg.refl _ _) (fun q lq oq hb hq => by
      simp only [Mem.upd] at hq
      split at hq
      · cases hq
      · rename_i hne
        have a1 := hM.apart r q l lq _ oq (Ne.symm hne) hl hb ho hq (.inl rfl)
        have a2 := hM.apart q r lq l oq _ hne hb hl hq ho (.inr rfl)
        cases oq with
        | map es' g' => simp only [Apart] at a1 a2 ⊢; exact ⟨a1, a2⟩
        | iter r' a' b' c' => simp only [Apart] at a1 a2 ⊢; exact ⟨a1, a2⟩
        | row sz' es' rw' =>
          simp only [Apart, hsz] at a1 a2 ⊢
          rw [hin]
          constructor
          · rcases a1 with a1 | a1 | a1
            · exact .inl a1
            · exact .inr (.inl a1)
            · exact .inr (.inr (by omega))
          · rcases a2 with a2 | a2 | a2
            · exact .inl a2
            · exact .inr (.inl (by omega))
            · exact .inr (.inr a2)) (by
      simp only [ObjR]
      have hat : ∀ k j, (⟨l.block, l.base + i * sz, sz, l.cap - i⟩ : Loc).at k j = l.at (i + k) j := fun k j => by simp only [Loc.at, hsz, Nat.add_mul]; congr 1; omega
      have hle : Pl.le β (fun q => if q = (m.upd r none).next then some ⟨l.block, l.base + i * sz, sz, l.cap - i⟩ else β q) := fun q lq hq => by
        have := hM.dom q lq hq
        show (if q = m.next then _ else β q) = some lq
        rw [if_neg (by omega)]; exact hq
      refine ⟨rfl, hrow.pos, by simp; omega, hrow.lt, fun _ => ⟨(hrow.own rfl).1, fun k j hk hj => ?_⟩, fun k e he => ?_, fun _ k j h1 h2 h3 => by
        obtain ⟨u, v, b1, b2, b3⟩ := hrow.rest rfl (i + k) j (by simp at h1; omega) (by simp at h2; omega) h3
        exact ⟨u, v, b1, b2, by rw [hat]; exact b3⟩, fun _ off => hrow.cold rfl off⟩
      · rw [hat]; exact (hrow.own rfl).2 (i + k) j (by simp at hk; omega) hj
      · rw [List.getElem?_drop] at he
        obtain ⟨h1, h2⟩ := hrow.cells (i + k) e he
        refine ⟨h1, fun j v hj => ?_⟩
        obtain ⟨h3, cv, h4, h5⟩ := h2 j v hj
        exact ⟨h3, cv, VR.mono hle _ _ h4, by rw [hat]; exact h5⟩)
  refine ⟨_, ?_, hadd.2, by simp [Mem.upd]⟩
  have : (m.upd r none).new (.row sz (es.drop i) true) = (m.new (.row sz (es.drop i) true)).upd r none := by
    refine Mem.ext' (fun q => ?_) rfl
    simp only [Mem.new, Mem.upd]
    by_cases h3 : q = r
    · subst h3; simp [Nat.ne_of_lt hrlt]
    · simp [h3]
  rw [this] at hadd
  exact hadd.1
theorem gives_append {t tx ty e : TypeId} {i : TypeInfo} {z : Value} (ht : P.underlying t = some (.slice e)) (hi : P.info? e = some i) (hz : i.zero = some z) (hzc : (ofVal z).cells.all V.isCell = true) (hzs : z.cells.size = i.size) (hpos : 0 < i.size)
    (hty : (∃ e', P.underlying tx = some (.slice e')) ∨ P.underlying tx = some .string)
    (hM : MR base w0 β m w) {s x : V} {s' x' : Value} (hs : VR β s s') (hx : VR β x x') {new : List (List V)} (hnew : eltsOf i.size m x = some new) (hk : appendX i.size i.bytes m s new K) :
    Gives P (Builtin.append_ #[t, tx] ty #[s', x']) w (Post base w0 β K) := by
  obtain ⟨cvs, hv, hcl, hes, hsrc⟩ := elts_src hM hx hnew hpos hty
  have hnil : new = [] → cvs = [] := fun e => by subst e; exact List.eq_nil_of_length_eq_zero (by simpa using hcl)
  have hlen0 : new ≠ [] → 0 < new.length := fun h => List.length_pos_iff.2 h
  cases s <;> simp only [appendX] at hk
  rename_i a n c
  rcases a with _ | ⟨r, i0, zz⟩
  · -- a nil slice
    simp only [VR] at hs; obtain ⟨rfl, rfl, rfl⟩ := hs
    dsimp only at hk
    split at hk
    · rename_i he; subst he
      have := hnil rfl; subst this
      refine Gives.of_run (v := .slice none 0 0) (w' := w) ?_ (Post.same hM (by simp [VR]) hk)
      have hl := hsrc.len w
      have hc := hsrc.cells
      rcases hsrc.kind with ⟨e', hk'⟩ | hk' <;> simp at hl hc <;> simp [Builtin.append_, run_underlying ht, run_underlying hk', sizeOf, typeInfo, hi, hl, hc]
    · rename_i hne
      split at hk
      · rename_i hroom
        obtain ⟨hr1, hr2⟩ := hroom
        have hg : 0 < new.length := hlen0 hne
        have hfit := growslice_fits (need := 0 + new.length) (old := 0) (bytes := i.bytes) (by omega) (by simpa [room] using hr1)
        have hrun := run_append_grow_src (P := P) w t tx ty e i z ht hi hz none 0 0 [] (by simp [Builtin.firstCells]) x' new.length cvs hsrc (by omega) (by omega) hfit
        have hcapge := grownCap_ge w (0 + new.length) 0 e
        obtain ⟨β', g1, g2, g3⟩ := grown_row (e := e) (cap := grownCap w (0 + new.length) 0 e) hM hpos hes hv hcl hzs hzc (by omega)
        refine ⟨_, _, hrun, β', _, _, g2, ?_, by simpa using g1, hk⟩
        simp only [VR]
        exact ⟨_, _, _, g3, by rw [Nat.zero_add], by simp, by simpa using hcapge, fun _ => by simp [Loc.at], rfl⟩
      · exact hk.elim
  · obtain ⟨L, A, cap, g1, rfl, g3, g4, g5⟩ := cap_of_VR hs
    dsimp only at hk
    split at hk
    · rename_i he; subst he
      have := hnil rfl; subst this
      refine Gives.of_run (v := .slice (some A) n cap) (w' := w) ?_ (Post.same hM hs hk)
      have hl := hsrc.len w
      have hc := hsrc.cells
      rcases hsrc.kind with ⟨e', hk'⟩ | hk' <;> simp at hl hc <;> simp [Builtin.append_, run_underlying ht, run_underlying hk', sizeOf, typeInfo, hi, hl, hc, g4, storeCells]
    · rename_i hne
      have hgt := hlen0 hne
      split at hk
      · rename_i sz' es rw ho
        split at hk
        · exact hk.elim
        · rename_i hsz
          have hsz : sz' = i.size := by simpa using hsz
          subst hsz
          have hrow : RowR base β w L i.size es rw := hM.objs r L _ g1 ho
          have hszL := hrow.szeq
          have hlenL := hrow.len
          split at hk
          · -- there is room, and known
            rename_i hroom
            obtain ⟨hr1, hr2⟩ := hroom
            split at hk
            · rename_i hrw
              subst hrw
              have hcap : n + new.length ≤ cap := by
                cases c with
                | none => simp at g3; omega
                | some c' => simp at g3; have := hr2 c' rfl; omega
              have hA : A = L.at i0 0 := g5 (by omega)
              subst hA
              have hst := storable_elts hM g1 ho (o := i0 + n) (k := new.length) (by omega)
              have hoff : L.base + i0 * L.sz + 0 + n * i.size = L.base + (i0 + n) * i.size := by rw [hszL, Nat.add_mul]; omega
              have hrun := run_append_room_src (P := P) w t tx ty e i ht hi L.block (L.base + i0 * L.sz + 0) n cap x' new.length cvs hsrc hcap (by rw [hoff, hcl]; exact hst.1) (by rw [hoff, hcl]; exact hst.2)
              rw [hoff] at hrun
              refine ⟨_, _, hrun, β, _, _, Pl.le_refl _, ?_, write_elts hM g1 ho hr1 hes hv hcl, hk⟩
              simp only [VR]
              exact ⟨L, _, cap, g1, rfl, g3, hcap, fun _ => rfl, sz_of_VR hs L g1⟩
            · exact hk.elim
          · rename_i hnoroom
            split at hk
            · rename_i hbig
              obtain ⟨hb1, hb2, hb3⟩ := hbig
              cases c with
              | some c' =>
                simp only at hk g3
                split at hk
                · rename_i hlt
                  simp at g3; subst g3
                  have hfit := growslice_fits (need := n + new.length) (old := cap) (bytes := i.bytes) hlt (by simpa [room] using hb1)
                  obtain ⟨olds, o1, o2, o3, o4⟩ := hrow.seg n i0 hb3
                  have hold : (Builtin.firstCells i.size n (.slice (some A) n cap)).run P w.drew = .ok olds.toArray w.drew := by
                    by_cases hn0 : n = 0
                    · subst hn0
                      have : olds = [] := List.eq_nil_of_length_eq_zero (by simpa using o2)
                      subst this
                      simp [Builtin.firstCells, loadCells, loadCellsFrom]
                    · have hA : A = L.at i0 0 := g5 (by omega)
                      subst hA
                      exact run_firstCells_some w.drew i.size n _ n cap olds o2 (by simpa using o3)
                  have hrun := run_append_grow_src (P := P) w t tx ty e i z ht hi hz (some A) n cap olds hold x' new.length cvs hsrc hlt (by omega) hfit
                  have hcapge := grownCap_ge w (n + new.length) cap e
                  have hlen1 : ((es.drop i0).take n).length = n := by simp; omega
                  have hesold : ∀ x ∈ (es.drop i0).take n ++ new, x.length = i.size ∧ ∀ v ∈ x, v.isCell = true := by
                    intro x hx
                    rcases List.mem_append.1 hx with hx | hx
                    · obtain ⟨k, hk⟩ := List.getElem?_of_mem (List.mem_of_mem_drop (List.mem_of_mem_take hx))
                      obtain ⟨q1, q2⟩ := hrow.cells k x hk
                      exact ⟨q1, fun v hv => by obtain ⟨j, hj⟩ := List.getElem?_of_mem hv; exact (q2 j v hj).1⟩
                    · exact hes x hx
                  obtain ⟨β', p1, p2, p3⟩ := grown_row (e := e) (cap := grownCap w (n + new.length) cap e) (es := (es.drop i0).take n ++ new) (cvs := olds ++ cvs) hM hpos hesold (by rw [List.flatten_append]; exact VRs.append o1 hv) (by simp only [List.length_append, o2, hcl, hlen1, Nat.add_mul]) hzs hzc (by simp only [List.length_append, hlen1]; omega)
                  simp only [List.length_append, hlen1] at p1
                  refine ⟨_, _, hrun, β', _, _, p2, ?_, p1, hk⟩
                  simp only [VR]
                  exact ⟨_, _, _, p3, rfl, by simp, hcapge, fun _ => by simp [Loc.at], rfl⟩
                · exact hk.elim
              | none =>
                simp only at hk
                split at hk
                · rename_i hend
                  obtain ⟨hrw, hend⟩ := hend
                  subst hrw
                  simp at g3
                  have hesold : ∀ x ∈ es.drop i0 ++ new, x.length = i.size ∧ ∀ v ∈ x, v.isCell = true := by
                    intro x hx
                    rcases List.mem_append.1 hx with hx | hx
                    · obtain ⟨k, hk⟩ := List.getElem?_of_mem (List.mem_of_mem_drop hx)
                      obtain ⟨q1, q2⟩ := hrow.cells k x hk
                      exact ⟨q1, fun v hv => by obtain ⟨j, hj⟩ := List.getElem?_of_mem hv; exact (q2 j v hj).1⟩
                    · exact hes x hx
                  have hlen1 : (es.drop i0).length = n := by simp; omega
                  by_cases hin : n + new.length ≤ cap
                  · -- in place
                    have hA : A = L.at i0 0 := g5 (by omega)
                    subst hA
                    have hst := storable_elts hM g1 ho (o := i0 + n) (k := new.length) (by omega)
                    have hoff : L.base + i0 * L.sz + 0 + n * i.size = L.base + (i0 + n) * i.size := by rw [hszL, Nat.add_mul]; omega
                    have hrun := run_append_room_src (P := P) w t tx ty e i ht hi L.block (L.base + i0 * L.sz + 0) n cap x' new.length cvs hsrc hin (by rw [hoff, hcl]; exact hst.1) (by rw [hoff, hcl]; exact hst.2)
                    rw [hoff] at hrun
                    have hMw : MR base w0 β (m.upd r (some (.row i.size (es ++ new) true))) (w.setCells L.block (L.base + (i0 + n) * i.size) cvs) := by
                      have hmul : (i0 + n + new.length) * i.size ≤ L.cap * i.size := Nat.mul_le_mul_right _ (by omega)
                      rw [Nat.add_mul] at hmul
                      refine step_write hM g1 ho (by simp; omega) (by rw [hcl]; exact hmul) (by simp) (by rw [hcl, List.length_append, ← hend, ← Nat.add_mul]; exact Nat.le_refl _) (fun k x hx => ?_)
                      by_cases hk1 : k < es.length
                      · rw [List.getElem?_append_left hk1] at hx
                        obtain ⟨q1, q2⟩ := hrow.cells k x hx
                        refine ⟨q1, fun j v hj => ⟨(q2 j v hj).1, .inr ⟨.inl ?_, x, hx, hj⟩⟩⟩
                        have hj' : j < i.size := by have := (List.getElem?_eq_some_iff.1 hj).1; omega
                        have : (k + 1) * i.size ≤ (i0 + n) * i.size := Nat.mul_le_mul_right _ (by omega)
                        rw [Nat.add_mul] at this; omega
                      · rw [List.getElem?_append_right (by omega)] at hx
                        obtain ⟨q1, q2⟩ := hes x (List.mem_of_getElem? hx)
                        refine ⟨q1, fun j v hj => ⟨q2 v (List.mem_of_getElem? hj), .inl ?_⟩⟩
                        have hf := flatten_get (fun e he => (hes e he).1) (k - es.length) j x v hx hj
                        obtain ⟨cv, g3', g4'⟩ := hv.get _ _ hf
                        refine ⟨_, cv, ?_, g3', g4'⟩
                        rw [Nat.sub_mul, hend]
                        have : es.length * i.size ≤ k * i.size := Nat.mul_le_mul_right _ (by omega)
                        omega
                    have hob : (m.upd r (some (.row i.size (es ++ new) true))).obj r = some (.row i.size (es ++ new) true) := by simp [Mem.upd]
                    obtain ⟨β', p1, p2, p3⟩ := hMw.rehome g1 hob (i := i0) (by simp; omega)
                    have hm' : ((m.upd r (some (.row i.size (es ++ new) true))).new (.row i.size ((es ++ new).drop i0) true)).upd r none = (m.new (.row i.size (es.drop i0 ++ new) true)).upd r none := by
                      rw [List.drop_append_of_le_length (by omega)]
                      refine Mem.ext' (fun q => ?_) rfl
                      simp only [Mem.new, Mem.upd]
                      by_cases h1 : q = r
                      · simp [h1]
                      · simp [h1]
                    rw [hm'] at p1
                    refine ⟨_, _, hrun, β', _, _, p2, ?_, p1, hk⟩
                    simp only [VR]
                    exact ⟨_, _, cap, p3, rfl, by simp; omega, hin, fun _ => by simp [Loc.at, hszL], rfl⟩
                  · have hlt : cap < n + new.length := by omega
                    have hfit := growslice_fits (need := n + new.length) (old := cap) (bytes := i.bytes) hlt (by simpa [room] using hb1)
                    obtain ⟨olds, o1, o2, o3, o4⟩ := hrow.seg n i0 hb3
                    have ht0 : (es.drop i0).take n = es.drop i0 := List.take_of_length_le (by omega)
                    rw [ht0] at o1
                    have hold : (Builtin.firstCells i.size n (.slice (some A) n cap)).run P w.drew = .ok olds.toArray w.drew := by
                      by_cases hn0 : n = 0
                      · subst hn0
                        have : olds = [] := List.eq_nil_of_length_eq_zero (by simpa using o2)
                        subst this
                        simp [Builtin.firstCells, loadCells, loadCellsFrom]
                      · have hA : A = L.at i0 0 := g5 (by omega)
                        subst hA
                        exact run_firstCells_some w.drew i.size n _ n cap olds o2 (by simpa using o3)
                    have hrun := run_append_grow_src (P := P) w t tx ty e i z ht hi hz (some A) n cap olds hold x' new.length cvs hsrc hlt (by omega) hfit
                    have hcapge := grownCap_ge w (n + new.length) cap e
                    obtain ⟨β', p1, p2, p3⟩ := grown_row (e := e) (cap := grownCap w (n + new.length) cap e) (es := es.drop i0 ++ new) (cvs := olds ++ cvs) hM hpos hesold (by rw [List.flatten_append]; exact VRs.append o1 hv) (by simp only [List.length_append, o2, hcl, hlen1, Nat.add_mul]) hzs hzc (by simp only [List.length_append, hlen1]; omega)
                    simp only [List.length_append, hlen1] at p1
                    refine ⟨_, _, hrun, β', _, _, p2, ?_, p1.forget r, hk⟩
                    simp only [VR]
                    exact ⟨_, _, _, p3, rfl, by simp, hcapge, fun _ => by simp [Loc.at], rfl⟩
                · exact hk.elim
            · exact hk.elim
      · exact hk.elim
end
end Go.AM
