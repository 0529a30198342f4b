/-
  THE ABSTRACT MACHINE: the library's sort of whole numbers, in place, by the kit's contract. No Go program here.
-/
import Derived.Test.YthkopgcdghbjlaaAm24
import Derived.Sort.Grow
namespace Go.AM
open Go
set_option linter.unusedVariables false

/-- What the kit's contract says of a sort of whole numbers. -/
def SortsI (P : Program) (f : FuncId) : Prop := ∀ (blk off cap : Nat) (zs : List Int) (w : World), Sort.Holds (Value.int .i64) w blk off zs.toArray → blk < w.heap.size → zs.length < 4611686018427387904 →
  Calls P f #[.slice (some ⟨blk, off, none⟩) zs.length cap] w fun e w' => e = .returned (.tuple #[]) ∧ ∃ n os, w' = Sort.grow (Sort.putRow (Value.int .i64) (Sort.ahead w n) blk off (zs.mergeSort fun x y => decide (x ≤ y)).toArray) os

theorem ahead_chg (w : World) (n : Nat) : Chg w (Sort.ahead w n) (fun _ => False) := ⟨rfl, rfl, rfl, Nat.le_refl _, fun _ _ _ => rfl, fun _ _ => rfl, fun _ _ _ => rfl, Nat.le_add_right _ _⟩
theorem grow_chg (w : World) (os : Array Go.Obj) : Chg w (Sort.grow w os) (fun _ => False) :=
  ⟨rfl, rfl, rfl, by simp, fun a ha _ => Sort.cell?_grow w os a ha, fun a ha => Sort.frozen?_grow w os a ha, fun b hb _ => Sort.heap_grow_old w os hb, Nat.le_refl _⟩
theorem putRow_chg {α : Type} [Inhabited α] (enc : α → Value) (w : World) (blk off : Nat) (d : Array α) : Chg w (Sort.putRow enc w blk off d) (fun a => a.block = blk ∧ off ≤ a.off ∧ a.off < off + d.size) := by
  refine ⟨rfl, rfl, rfl, by simp, fun a _ hn => Sort.cell?_putRow_other enc w blk off d a (by omega), fun a _ => by simp, fun b hb hn => ?_, Nat.le_refl _⟩
  by_cases e : b = blk
  · subst e
    have h0 : d.size = 0 := by
      rcases Nat.eq_zero_or_pos d.size with h | h
      · exact h
      · exact absurd rfl (hn ⟨b, off, none⟩ ⟨rfl, Nat.le_refl _, by show off < _; omega⟩)
    have : Sort.putRow enc w b off d = w := Sort.mapBlock_id w b _ fun c e fr _ => by
      apply Array.ext_getElem?
      intro k
      simp only [Sort.putCells, Array.getElem?_mapIdx]
      cases c[k]? with
      | none => rfl
      | some y => rw [Option.map_some, if_neg (by omega)]
    rw [this]
  · simp only [Sort.putRow, Sort.mapBlock, Array.getElem?_modify]
    rw [if_neg (fun h => e h.symm)]

theorem nth_toArray {zs : List Int} {j : Nat} (h : j < zs.length) : zs.toArray[j]! = nth zs j := by
  rw [getElem!_pos _ _ (by simpa using h)]
  simp [nth, h]

theorem sortI_at {P : Program} {f : FuncId} (hb : Body P f) (hs : SortsI P f) {m : Mem} {q i0 : Nat} {c : Option Nat} {full : List (List V)} {zs : List Int} (ho : m.obj q = some (.row 1 full true)) (h1 : i0 + zs.length ≤ full.length)
    (h2 : ∀ j, j < zs.length → full[i0 + j]? = some [.int .i64 (nth zs j)]) (h3 : 0 < zs.length) (h4 : zs.length < 4611686018427387904) {K : KV}
    (k : K (.tup []) (m.upd q (some (.row 1 (full.take i0 ++ rowI .i64 (zs.mergeSort fun x y => decide (x ≤ y)) ++ full.drop (i0 + zs.length)) true)))) : ACalls P f [.sl (some (q, i0, 1)) zs.length c] m K := by
  refine ⟨trivial, fun base w0 β w cargs hM hA => ⟨fun _ => ?_, fun hn => absurd hb hn⟩⟩
  simp only [VRs] at hA
  obtain ⟨v, ys, rfl, hv, rfl⟩ := hA
  simp only [VR] at hv
  obtain ⟨l, a, cap, hl, rfl, hcap, hle, ha, hsz⟩ := hv
  have ha' := ha (by omega)
  have hR : RowR base β w l 1 full true := hM.objs q l _ hl ho
  obtain ⟨zt, hzt⟩ : ∃ zt, (zs.mergeSort fun x y => decide (x ≤ y)) = zt := ⟨_, rfl⟩
  have hzl : zt.length = zs.length := by rw [← hzt]; simp
  have hat : ∀ j, l.at (i0 + j) 0 = ⟨l.block, l.base + i0 + j, none⟩ := fun j => by simp [Loc.at, hsz, Nat.add_assoc]
  have hlen := hR.len
  have hH : Sort.Holds (Value.int .i64) w l.block (l.base + i0) zs.toArray := by
    intro j hj
    have hj' : j < zs.length := by simpa using hj
    obtain ⟨e1, e2⟩ := hR.cells (i0 + j) _ (h2 j hj')
    obtain ⟨_, cv, e3, e4⟩ := e2 0 (.int .i64 (nth zs j)) rfl
    simp only [VR] at e3
    subst e3
    rw [hat] at e4
    refine ⟨by rw [e4, nth_toArray hj'], ?_⟩
    have := ((hR.own rfl).2 (i0 + j) 0 (by omega) (by omega)).2
    rw [hat] at this; exact this
  have hae : a = ⟨l.block, l.base + i0, none⟩ := by rw [ha', ← Nat.add_zero i0, hat]; rfl
  subst hae
  refine (hs l.block (l.base + i0) cap zs w hH hR.lt h4).mono fun e w' ⟨he, n, os, hw'⟩ => ⟨_, he, β, .tup [], _, Pl.le_refl _, by simp only [VR]; exact ⟨#[], rfl, rfl⟩, ?_, k⟩
  rw [hzt] at hw' ⊢
  have hplen := patch_length full (rowI .i64 zt) i0 (by rw [rowI_length, hzl]; exact h1)
  rw [rowI_length, hzl] at hplen
  have hpget := fun j => patch_get full (rowI .i64 zt) i0 j (by rw [rowI_length, hzl]; exact h1)
  rw [rowI_length, hzl] at hpget
  have c1 := putRow_chg (Value.int .i64) (Sort.ahead w n) l.block (l.base + i0) zt.toArray
  have c2 := ((ahead_chg w n).trans c1).trans (grow_chg (Sort.putRow (Value.int .i64) (Sort.ahead w n) l.block (l.base + i0) zt.toArray) os)
  rw [← hw'] at c2
  have hcell : ∀ i, i < l.cap → ¬ (i0 ≤ i ∧ i < i0 + zs.length) → w'.cell? (l.at i 0) = w.cell? (l.at i 0) := fun i hi hn => by
    refine c2.cell _ hR.lt ?_
    rintro ((h | ⟨⟨_, h, h'⟩, _⟩) | ⟨h, _⟩)
    · exact h
    · simp only [Loc.at, hsz, List.size_toArray, hzl] at h h'
      exact hn ⟨by omega, by omega⟩
    · exact h
  have hin : ∀ j, j < zs.length → w'.cell? (l.at (i0 + j) 0) = some (.int .i64 (nth zt j)) := fun j hj => by
    rw [hw', hat, Sort.cell?_grow _ _ _ (by simpa using hR.lt), Sort.cell?_putRow (Value.int .i64) (Sort.ahead w n) l.block (l.base + i0) zs.toArray zt.toArray hH (by simpa using hzl) j (by simpa [hzl] using hj), nth_toArray (by omega)]
  have hfr : ∀ i j, i < l.cap → j < 1 → w'.frozen? (l.at i j) = false := fun i j hi hj => by
    rw [c2.frozen _ hR.lt]; exact ((hR.own rfl).2 i j hi hj).2
  refine hM.step hl ho c2 ?_ ?_ rfl (fun q' lq h => by cases q' <;> exact h) (fun q' lq h => by cases q' <;> exact h) ?_
  · rintro a ((h | ⟨⟨h, _⟩, _⟩) | ⟨h, _⟩)
    · exact h.elim
    · rw [h]; exact (hR.own rfl).1
    · exact h.elim
  · rintro a ((h | ⟨⟨h, h', h''⟩, _⟩) | ⟨h, _⟩)
    · exact h.elim
    · refine ⟨h, by omega, ?_⟩
      simp only [List.size_toArray, hzl] at h''
      rw [hsz]; omega
    · exact h.elim
  · refine ⟨hsz, by omega, by rw [hplen]; exact hlen, Nat.lt_of_lt_of_le hR.lt c2.size, fun _ => ⟨(hR.own rfl).1, fun i j hi hj => ⟨?_, hfr i j hi hj⟩⟩, fun i e he => ?_, fun _ i j b1 b2 b3 => by
      have : j = 0 := by omega
      subst this
      obtain ⟨u, v, b4, b5, b6⟩ := hR.rest rfl i 0 (by omega) b2 b3
      exact ⟨u, v, b4, b5, by rw [hcell i b2 (by omega)]; exact b6⟩, fun _ off => by rw [c2.frozen _ hR.lt]; exact hR.cold rfl off⟩
    · have : j = 0 := by omega
      subst this
      by_cases hi2 : i0 ≤ i ∧ i < i0 + zs.length
      · have := hin (i - i0) (by omega)
        rw [show i0 + (i - i0) = i by omega] at this
        exact ⟨_, this⟩
      · rw [hcell i hi hi2]; exact ((hR.own rfl).2 i 0 hi hj).1
    · have hil : i < full.length := by have := (List.getElem?_eq_some_iff.1 he).1; omega
      rw [hpget] at he
      by_cases h5 : i < i0
      · rw [if_pos h5] at he
        obtain ⟨e1, e2⟩ := hR.cells i e he
        refine ⟨e1, fun j v hv => ?_⟩
        obtain ⟨e3, cv, e4, e5⟩ := e2 j v hv
        have : j = 0 := by have := (List.getElem?_eq_some_iff.1 hv).1; omega
        subst this
        exact ⟨e3, cv, e4, by rw [hcell i (by omega) (by omega)]; exact e5⟩
      · rw [if_neg h5] at he
        by_cases h6 : i < i0 + zs.length
        · rw [if_pos h6, rowI_get, nth_get (by omega)] at he
          simp only [Option.map_some, Option.some.injEq] at he
          subst he
          refine ⟨rfl, fun j v hv => ?_⟩
          have : j = 0 := by have := (List.getElem?_eq_some_iff.1 hv).1; simpa using this
          subst this
          simp only [List.getElem?_cons_zero, Option.some.injEq] at hv
          subst hv
          have := hin (i - i0) (by omega)
          rw [show i0 + (i - i0) = i by omega] at this
          exact ⟨rfl, _, by simp only [VR], this⟩
        · rw [if_neg h6] at he
          obtain ⟨e1, e2⟩ := hR.cells i e he
          refine ⟨e1, fun j v hv => ?_⟩
          obtain ⟨e3, cv, e4, e5⟩ := e2 j v hv
          have : j = 0 := by have := (List.getElem?_eq_some_iff.1 hv).1; omega
          subst this
          exact ⟨e3, cv, e4, by rw [hcell i (by omega) (by omega)]; exact e5⟩

/-- The sort of a slice of one's own that has elements. -/
theorem Ows.sortI {P : Program} {f : FuncId} (hb : Body P f) (hs : SortsI P f) {m : Mem} {v : V} {zs : List Int} (ho : Ows m 1 v (rowI .i64 zs)) (h3 : zs ≠ []) (h4 : zs.length < 4611686018427387904) {K : KV}
    (k : ∀ m', Ows m' 1 v (rowI .i64 (zs.mergeSort fun x y => decide (x ≤ y))) → Stp m m' v.fp v.fp → m'.next = m.next → K (.tup []) m') : ACalls P f [v] m K := by
  rcases ho.ex with ⟨_, h⟩ | ⟨q, i0, full, c, rfl, h1, h2, h5, h6, h7⟩
  · exact absurd (List.eq_nil_of_length_eq_zero (by rw [← rowI_length .i64 zs, h]; rfl)) h3
  · rw [rowI_length] at h5 h6 h7 ⊢
    refine sortI_at hb hs h2 h5 (fun j hj => by rw [h6 j hj, rowI_get, nth_get hj]; rfl) (List.length_pos_iff.2 h3) h4 (k _ ⟨.inr ⟨q, i0, _, c, by rw [rowI_length, rowI_length]; simp, by simpa using h1, by rw [upd_obj, if_pos rfl], ?_, ?_, ?_⟩⟩ (Stp.upd m (by simp [V.fp]) _) rfl)
    · have := patch_length full (rowI .i64 (zs.mergeSort fun x y => decide (x ≤ y))) i0 (by rw [rowI_length]; simpa using h5)
      rw [rowI_length] at this ⊢
      simp only [List.length_mergeSort] at this ⊢
      rw [this]; exact h5
    · intro j hj
      rw [rowI_length] at hj
      simp only [List.length_mergeSort] at hj
      have := patch_get full (rowI .i64 (zs.mergeSort fun x y => decide (x ≤ y))) i0 (i0 + j) (by rw [rowI_length]; simpa using h5)
      rw [rowI_length] at this
      simp only [List.length_mergeSort] at this
      rw [this, if_neg (by omega), if_pos (by omega), show i0 + j - i0 = j by omega]
    · intro k hk
      rw [rowI_length]
      have := patch_length full (rowI .i64 (zs.mergeSort fun x y => decide (x ≤ y))) i0 (by rw [rowI_length]; simpa using h5)
      rw [rowI_length] at this
      simp only [List.length_mergeSort] at this ⊢
      rw [this]; exact h7 k hk
theorem resV_one (m : Mem) (e : Env) (r : RV) : resV m e [r] = resOf m e r := by
  simp only [resV, resAll]; cases resOf m e r <;> rfl
attribute [simp] resV_one

end Go.AM
