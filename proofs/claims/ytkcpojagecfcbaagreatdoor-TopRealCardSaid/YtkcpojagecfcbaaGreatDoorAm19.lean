/-
  THE ABSTRACT MACHINE: arguments of any plain shape (whole numbers, bools, texts, structs of such, slices of such, one in another): how they lie in the plain machine's memory. No Go program here.
-/
import Derived.Test.YtkcpojagecfcbaaGreatDoorAm18
import Derived.ChangeArms
import Derived.WideShapes
namespace Go.AM
open Go
set_option linter.unusedVariables false
inductive Sh where
  | int (k : IntKind)
  | bool
  | str
  | slice (sz : Nat) (e : Sh)
  | struct (fs : List Sh)
mutual
/-- These cells are of that shape. -/
def Is (m : Mem) : Sh → List V → Prop
  | .int k, cs => ∃ n, cs = [.int k n] ∧ (Lit.int k n).wf = true
  | .bool, cs => ∃ b, cs = [.bool b]
  | .str, cs => ∃ s, cs = [.str s] ∧ s.size ≤ maxLen
  | .slice sz e, cs => ∃ a n c, cs = [.sl a n c] ∧ n ≤ maxLen ∧ (a = none → n = 0 ∧ c = some 0) ∧ ∃ es : List (List V), es.length = n ∧ (∀ x ∈ es, Is m e x) ∧ ∀ x, a = some x → ∃ r, x = (r, 0, sz) ∧ (n ≠ 0 → m.obj r = some (.row sz es false))
  | .struct fs, cs => Iss m fs cs
def Iss (m : Mem) : List Sh → List V → Prop
  | [], cs => cs = []
  | f :: fs, cs => ∃ x y, cs = x ++ y ∧ Is m f x ∧ Iss m fs y
end
/-- Of fields that lie one behind the other, from 'off' on, to 'tot'. -/
def shsOf (P : Program) (sh : TypeId → Option Sh) : List Field → Nat → Nat → Option (List Sh)
  | [], off, tot => if off = tot then some [] else none
  | f :: fs, off, tot =>
    if f.offset = off ∧ off + P.cellsOf f.type ≤ tot then
      match sh f.type, shsOf P sh fs (off + P.cellsOf f.type) tot with
      | some s, some ss => some (s :: ss)
      | _, _ => none
    else none
/-- The shape of a type. -/
def shOf (P : Program) : Nat → TypeId → Option Sh
  | 0, _ => none
  | n + 1, t =>
    match P.underlying t with
    | some (.int k) => some (.int k)
    | some .bool => some .bool
    | some .string => some .str
    | some (.slice e) => if 0 < P.cellsOf e then (shOf P n e).map (.slice (P.cellsOf e)) else none
    | some (.struct fs) => (shsOf P (shOf P n) fs.toList 0 (P.cellsOf t)).map .struct
    | _ => none
/-- m' has all that m has. -/
def Mem.In (m m' : Mem) : Prop := ∀ q o, m.obj q = some o → m'.obj q = some o
theorem Mem.In.refl (m : Mem) : m.In m := fun _ _ h => h
theorem Mem.In.trans {a b c : Mem} (h : a.In b) (k : b.In c) : a.In c := fun q o x => k q o (h q o x)
mutual
theorem Is.mono {m m' : Mem} (h : m.In m') : ∀ (s : Sh) (cs : List V), Is m s cs → Is m' s cs
  | .int k, cs, e => by simpa [Is] using e
  | .bool, cs, e => by simpa [Is] using e
  | .str, cs, e => by simpa [Is] using e
  | .slice sz s, cs, e => by
    simp only [Is] at e ⊢
    obtain ⟨a, n, c, h1, h2, h3, es, h4, h5, h6⟩ := e
    exact ⟨a, n, c, h1, h2, h3, es, h4, fun x hx => Is.mono h s x (h5 x hx), fun x hx => by obtain ⟨r, h7, h8⟩ := h6 x hx; exact ⟨r, h7, fun hn => h _ _ (h8 hn)⟩⟩
  | .struct fs, cs, e => by simp only [Is] at e ⊢; exact Iss.mono h fs cs e
theorem Iss.mono {m m' : Mem} (h : m.In m') : ∀ (s : List Sh) (cs : List V), Iss m s cs → Iss m' s cs
  | [], cs, e => by simpa [Iss] using e
  | f :: fs, cs, e => by
    simp only [Iss] at e ⊢
    obtain ⟨x, y, h1, h2, h3⟩ := e
    exact ⟨x, y, h1, Is.mono h f x h2, Iss.mono h fs y h3⟩
end
mutual
theorem Is.cells {m : Mem} : ∀ (s : Sh) (cs : List V), Is m s cs → ∀ v ∈ cs, v.isCell = true
  | .int k, cs, e => by simp only [Is] at e; obtain ⟨n, rfl, _⟩ := e; simp [V.isCell]
  | .bool, cs, e => by simp only [Is] at e; obtain ⟨b, rfl⟩ := e; simp [V.isCell]
  | .str, cs, e => by simp only [Is] at e; obtain ⟨s, rfl, _⟩ := e; simp [V.isCell]
  | .slice sz s, cs, e => by simp only [Is] at e; obtain ⟨a, n, c, rfl, _⟩ := e; simp [V.isCell]
  | .struct fs, cs, e => by simp only [Is] at e; exact Iss.cells fs cs e
theorem Iss.cells {m : Mem} : ∀ (s : List Sh) (cs : List V), Iss m s cs → ∀ v ∈ cs, v.isCell = true
  | [], cs, e => by simp only [Iss] at e; subst e; simp
  | f :: fs, cs, e => by
    simp only [Iss] at e
    obtain ⟨x, y, rfl, h2, h3⟩ := e
    intro v hv
    rcases List.mem_append.1 hv with hv | hv
    · exact Is.cells f x h2 v hv
    · exact Iss.cells fs y h3 v hv
end
section
variable {H : Type} {enc : TypeId × Value → H} {P : Program} {w : World}
/-- What is laid for these cells. -/
def Lays (w : World) (β : Pl) (m : Mem) (Q : Mem → List V → Prop) (cs : List Value) : Prop :=
  ∃ β' m' vs, Pl.le β β' ∧ Start w β' m' ∧ m.In m' ∧ m.next ≤ m'.next ∧ VRs β' vs cs ∧ Q m' vs
theorem lays_fields {n fuel : Nat} (ih : ∀ {t : TypeId} {sh : Sh}, shOf P n t = some sh → ∀ {cs : List Value} {x : DataW H × List MemPlace} {β : Pl} {m : Mem}, Start w β m → DataW.trod enc P w 0 (fun _ => true) true fuel t cs = some x → Lays w β m (fun m' vs => Is m' sh vs) cs) :
    ∀ (fs : List Field) {off tot : Nat} {ss : List Sh}, shsOf P (shOf P n) fs off tot = some ss → ∀ {cs : List Value} {β : Pl} {m : Mem}, cs.length = tot → (∀ f ∈ fs, ∃ x, DataW.trod enc P w 0 (fun _ => true) true fuel f.type ((cs.drop f.offset).take (P.cellsOf f.type)) = some x) →
    Start w β m → Lays w β m (fun m' vs => Iss m' ss vs) (cs.drop off)
  | [], off, tot, ss, h, cs, β, m, hl, _, hS => by
    simp only [shsOf] at h
    split at h
    · rename_i e; subst e
      injection h with h; subst h
      exact ⟨β, m, [], Pl.le_refl _, hS, Mem.In.refl m, Nat.le_refl _, by rw [List.drop_of_length_le (by omega)]; simp [VRs], by simp [Iss]⟩
    · cases h
  | f :: fs, off, tot, ss, h, cs, β, m, hl, hf, hS => by
    simp only [shsOf] at h
    split at h
    · rename_i e
      obtain ⟨e1, e2⟩ := e
      split at h
      · rename_i s ss' h1 h2
        injection h with h; subst h
        obtain ⟨x, hx⟩ := hf f (by simp)
        obtain ⟨β1, m1, v1, a1, a2, a3, a4, a5, a6⟩ := ih h1 hS hx
        obtain ⟨β2, m2, v2, b1, b2, b3, b4, b5, b6⟩ := lays_fields ih fs h2 (cs := cs) hl (fun g hg => hf g (by simp [hg])) a2
        refine ⟨β2, m2, v1 ++ v2, Pl.le_trans a1 b1, b2, a3.trans b3, Nat.le_trans a4 b4, ?_, ?_⟩
        · have := VRs.append (VRs.mono b1 _ _ a5) b5
          rw [e1] at this
          rw [show cs.drop (off + P.cellsOf f.type) = (cs.drop off).drop (P.cellsOf f.type) by rw [List.drop_drop], List.take_append_drop] at this
          exact this
        · simp only [Iss]; exact ⟨v1, v2, rfl, Is.mono b3 _ _ a6, b6⟩
      · cases h
    · cases h
theorem lays_elems {Q : Mem → List V → Prop} (hQ : ∀ (m m' : Mem) (vs : List V), m.In m' → Q m vs → Q m' vs) {cells : Nat → List Value} (len : Nat)
    (ih : ∀ i, i < len → ∀ {β : Pl} {m : Mem}, Start w β m → Lays w β m Q (cells i)) {β : Pl} {m : Mem} (hS : Start w β m) :
    ∀ k, k ≤ len → ∃ (β' : Pl) (m' : Mem) (es : List (List V)), Pl.le β β' ∧ Start w β' m' ∧ m.In m' ∧ m.next ≤ m'.next ∧ es.length = k ∧ ∀ i e, es[i]? = some e → VRs β' e (cells i) ∧ Q m' e
  | 0, _ => ⟨β, m, [], Pl.le_refl _, hS, Mem.In.refl m, Nat.le_refl _, rfl, fun i e h => by simp at h⟩
  | k + 1, hk => by
    obtain ⟨β1, m1, es, a1, a2, a3, a4, a5, a6⟩ := lays_elems hQ len ih hS k (by omega)
    obtain ⟨β2, m2, e, b1, b2, b3, b4, b5, b6⟩ := ih k (by omega) a2
    refine ⟨β2, m2, es ++ [e], Pl.le_trans a1 b1, b2, a3.trans b3, Nat.le_trans a4 b4, by simp [a5], fun i x hx => ?_⟩
    rcases Nat.lt_or_ge i es.length with hi | hi
    · rw [List.getElem?_append_left hi] at hx
      obtain ⟨c1, c2⟩ := a6 i x hx
      exact ⟨VRs.mono b1 _ _ c1, hQ _ _ _ b3 c2⟩
    · rw [List.getElem?_append_right hi] at hx
      have : i - es.length = 0 := by
        rcases Nat.eq_zero_or_pos (i - es.length) with h | h
        · exact h
        · rw [List.getElem?_eq_none (by simp; omega)] at hx; cases hx
      rw [this] at hx
      simp at hx; subst hx
      have : i = k := by omega
      subst this
      exact ⟨b5, b6⟩
theorem lays : ∀ (n : Nat) {t : TypeId} {sh : Sh}, shOf P n t = some sh → ∀ {fuel : Nat} {cs : List Value} {x : DataW H × List MemPlace} {β : Pl} {m : Mem}, Start w β m → DataW.trod enc P w 0 (fun _ => true) true fuel t cs = some x → Lays w β m (fun m' vs => Is m' sh vs) cs
  | 0, t, sh, h, fuel, cs, x, β, m, hS, hx => by simp [shOf] at h
  | n + 1, t, sh, h, fuel, cs, x, β, m, hS, hx => by
    simp only [shOf] at h
    split at h
    · rename_i k ht
      injection h with h; subst h
      obtain ⟨z, rfl, _, hw⟩ := DataW.trod_int ht hx
      exact ⟨β, m, [.int k z], Pl.le_refl _, hS, Mem.In.refl m, Nat.le_refl _, relc relI rel0, by simp only [Is]; exact ⟨z, rfl, hw⟩⟩
    · rename_i ht
      injection h with h; subst h
      obtain ⟨b, rfl, _⟩ := DataW.trod_bool ht hx
      exact ⟨β, m, [.bool b], Pl.le_refl _, hS, Mem.In.refl m, Nat.le_refl _, relc relB rel0, by simp only [Is]; exact ⟨b, rfl⟩⟩
    · rename_i ht
      injection h with h; subst h
      obtain ⟨s, rfl, _, hs⟩ := DataW.trod_string ht hx
      exact ⟨β, m, [.str s], Pl.le_refl _, hS, Mem.In.refl m, Nat.le_refl _, relc relS rel0, by simp only [Is]; exact ⟨s, rfl, hs⟩⟩
    · rename_i e ht
      split at h
      · rename_i hpos
        cases he : shOf P n e with
        | none => rw [he] at h; cases h
        | some s =>
          rw [he] at h; simp only [Option.map_some, Option.some.injEq] at h; subst h
          rcases DataW.trod_slice ht hx with ⟨rfl, _⟩ | ⟨a, len, cap, elems, rest, f, rfl, rfl, _, _, hl, hc, hlen, hel, hsp, _⟩
          · refine ⟨β, m, [.sl none 0 (some 0)], Pl.le_refl _, hS, Mem.In.refl m, Nat.le_refl _, relc (by simp [VR]) rel0, ?_⟩
            simp only [Is]
            exact ⟨none, 0, some 0, rfl, by simp, fun _ => ⟨rfl, rfl⟩, [], rfl, by simp, fun x hx => by cases hx⟩
          · have hcell : ∀ i, i < len → ∃ cs, w.cells? 0 (a.add (i * P.cellsOf e)) (P.cellsOf e) = some cs ∧ ∃ y, DataW.trod enc P w 0 (fun _ => true) true f e cs = some y := by
              intro i hi
              have h1 := hel i hi
              have h2 : ∃ y, elems[i]? = some y := ⟨_, List.getElem?_eq_getElem (by omega)⟩
              obtain ⟨y, hy⟩ := h2
              rw [hy, Option.bind_eq_some_iff] at h1
              obtain ⟨cs, h3, h4⟩ := h1
              exact ⟨cs, h3, y, h4⟩
            have hcs : ∀ i, i < len → w.cells? 0 (a.add (i * P.cellsOf e)) (P.cellsOf e) = some ((w.cells? 0 (a.add (i * P.cellsOf e)) (P.cellsOf e)).getD []) := by
              intro i hi; obtain ⟨cs, h1, _⟩ := hcell i hi; rw [h1]; rfl
            obtain ⟨β1, m1, es, a1, a2, a3, a4, a5, a6⟩ := lays_elems (Q := fun m' vs => Is m' s vs) (fun _ _ _ h k => Is.mono h _ _ k) (cells := fun i => (w.cells? 0 (a.add (i * P.cellsOf e)) (P.cellsOf e)).getD []) len
              (fun i hi β m hS => by
                obtain ⟨cs, h1, y, h2⟩ := hcell i hi
                simp only [h1, Option.getD_some]
                exact lays n he hS h2) hS len (Nat.le_refl _)
            have hsz : ∀ (i : Nat) (x : List V), es[i]? = some x → x.length = P.cellsOf e := by
              intro i x hx
              have hi : i < len := by rw [← a5]; exact (List.getElem?_eq_some_iff.1 hx).1
              rw [(a6 i x hx).1.length]
              exact (World.cells?_some (hcs i hi)).2.1
            have hat : ∀ i j, i < len → j < P.cellsOf e → (a.add (i * P.cellsOf e)).add j = (Loc.mk a.block a.off (P.cellsOf e) cap).at i j := by
              intro i j hi hj
              have h0 := (World.cells?_some (hcs 0 (by omega))).2.2 0 hpos
              have h1 : ∃ v, ((w.cells? 0 (a.add (0 * P.cellsOf e)) (P.cellsOf e)).getD [])[0]? = some v := ⟨_, List.getElem?_eq_getElem (by rw [(World.cells?_some (hcs 0 (by omega))).2.1]; exact hpos)⟩
              obtain ⟨v, hv⟩ := h1
              rw [hv] at h0
              have hs := World.cell?_spot h0
              simp only [Nat.zero_mul, Addr.add, if_true] at hs
              simp only [Addr.add, Loc.at]
              by_cases h2 : i * P.cellsOf e = 0
              · by_cases h3 : j = 0
                · subst h3; simp only [h2, if_true]; obtain ⟨ab, ao, as⟩ := a; simp only at hs; subst hs; simp
                · simp only [h2, if_true, if_neg h3]; simp
              · by_cases h3 : j = 0
                · subst h3; simp [h2]
                · simp [h2, h3]
            obtain ⟨b1, b2⟩ := a2.row (sz := P.cellsOf e) (es := es) ⟨a.block, a.off, P.cellsOf e, cap⟩ (fun hne => by
              have hl0 : 0 < len := by
                rw [← a5]; exact List.length_pos_iff.2 hne
              refine ⟨rfl, hpos, by rw [a5]; exact hl, ?_, by simp, fun i x hx => ?_, (fun h => by cases h), fun h => by cases h⟩
              · have := World.cells?_block (hcs 0 hl0) hpos
                simpa [Addr.add] using this
              · have hi : i < len := by rw [← a5]; exact (List.getElem?_eq_some_iff.1 hx).1
                refine ⟨hsz i x hx, fun j v hv => ?_⟩
                have hj : j < P.cellsOf e := by rw [← hsz i x hx]; exact (List.getElem?_eq_some_iff.1 hv).1
                obtain ⟨c1, c2⟩ := a6 i x hx
                obtain ⟨cv, hcv, hr⟩ := c1.get j v hv
                refine ⟨Is.cells _ _ c2 v (List.mem_of_getElem? hv), cv, hr, ?_⟩
                rw [← hat i j hi hj, (World.cells?_some (hcs i hi)).2.2 j hj]
                exact hcv)
            have hin : m1.In (m1.arg (P.cellsOf e) es) := by
              intro q o hq
              have := a2.mr.fresh q o hq
              simp only [Mem.arg]; rw [if_neg (by omega)]; exact hq
            refine ⟨_, _, [.sl (some (m1.next, 0, P.cellsOf e)) len none], Pl.le_trans a1 b1, b2, a3.trans hin, by simp only [Mem.arg]; omega, relc ?_ rel0, ?_⟩
            · simp only [VR]
              refine ⟨⟨a.block, a.off, P.cellsOf e, cap⟩, a, cap, by simp, rfl, by simp, hl, fun hc0 => ?_, rfl⟩
              have h0 : ∃ cs, w.cells? 0 (a.add (0 * P.cellsOf e)) (P.cellsOf e) = some cs := by
                by_cases hl0 : 0 < len
                · exact ⟨_, hcs 0 hl0⟩
                · obtain ⟨h1, h2⟩ := hsp rfl
                  have h3 := h2 0 (by omega)
                  have h4 : ∃ y, rest[0]? = some y := ⟨_, List.getElem?_eq_getElem (by omega)⟩
                  obtain ⟨y, hy⟩ := h4
                  rw [hy, Option.bind_eq_some_iff] at h3
                  obtain ⟨cs, h5, _⟩ := h3
                  rw [show len + 0 = 0 by omega] at h5
                  exact ⟨cs, h5⟩
              obtain ⟨cs, h0⟩ := h0
              have h1 := World.cells?_some h0
              have h2 := h1.2.2 0 hpos
              have h3 : ∃ v, cs[0]? = some v := ⟨_, List.getElem?_eq_getElem (by rw [h1.2.1]; exact hpos)⟩
              obtain ⟨v, hv⟩ := h3
              rw [hv] at h2
              have hs := World.cell?_spot h2
              simp only [Nat.zero_mul, Addr.add, if_true] at hs
              simp only [Loc.at]
              obtain ⟨ab, ao, as⟩ := a; simp only at hs; subst hs; simp
            · simp only [Is]
              refine ⟨_, len, none, rfl, by omega, fun h => (by cases h), es, a5, fun x hx => ?_, fun x hx => ?_⟩
              · obtain ⟨i, hi⟩ := List.getElem?_of_mem hx
                exact Is.mono hin _ _ (a6 i x hi).2
              · injection hx with hx; subst hx
                refine ⟨m1.next, rfl, fun h0 => ?_⟩
                have : es ≠ [] := fun e => h0 (by rw [← a5, e]; rfl)
                simp [Mem.arg, this]
      · cases h
    · rename_i fs ht
      cases he : shsOf P (shOf P n) fs.toList 0 (P.cellsOf t) with
      | none => rw [he] at h; cases h
      | some ss =>
        rw [he] at h; simp only [Option.map_some, Option.some.injEq] at h; subst h
        obtain ⟨xs, f, rfl, rfl, hl, hxl, hf⟩ := DataW.trod_struct ht hx
        have := lays_fields (enc := enc) (w := w) (fuel := f) (fun {t sh} h {cs x β m} hS hx => lays n h hS hx) fs.toList he (cs := cs) (β := β) (m := m) hl (fun g hg => by
          obtain ⟨i, hi⟩ := List.getElem?_of_mem hg
          have h1 := hf i g (by simpa using hi)
          have h2 : i < xs.length := by
            have := (List.getElem?_eq_some_iff.1 hi).1
            simp at this; omega
          exact ⟨xs[i], by rw [h1, List.getElem?_eq_getElem h2]⟩) hS
        rw [List.drop_zero] at this
        obtain ⟨β', m', vs, c1, c2, c3, c4, c5, c6⟩ := this
        exact ⟨β', m', vs, c1, c2, c3, c4, c5, by simp only [Is]; exact c6⟩
    · cases h
/-- An argument of that shape. -/
def IsV (m : Mem) : Sh → V → Prop
  | .struct fs, x => ∃ cs, x = .agg cs ∧ Iss m fs cs
  | s, x => Is m s [x]
theorem IsV.mono {m m' : Mem} (h : m.In m') : ∀ {s : Sh} {x : V}, IsV m s x → IsV m' s x
  | .int k, x, e => Is.mono h (.int k) _ e
  | .bool, x, e => Is.mono h .bool _ e
  | .str, x, e => Is.mono h .str _ e
  | .slice sz s, x, e => Is.mono h (.slice sz s) _ e
  | .struct fs, x, ⟨cs, h1, h2⟩ => ⟨cs, h1, Iss.mono h fs cs h2⟩
theorem arg1 {n : Nat} {t : TypeId} {sh : Sh} (hsh : shOf P n t = some sh) {v : Value} (hv : Value.okWide P w .any 0 t v) {d : DataW H} {p : List MemPlace} (h : DataW.Trod enc P w 0 (fun _ => true) true t v d p)
    {β : Pl} {m : Mem} (hS : Start w β m) : ∃ β' m' x, Pl.le β β' ∧ Start w β' m' ∧ m.In m' ∧ VR β' x v ∧ IsV m' sh x := by
  obtain ⟨fuel, hf⟩ := h
  obtain ⟨β', m', vs, h1, h2, h3, _, h5, h6⟩ := lays n hsh hS hf
  have one : v.cells.toList = [v] → (∃ x, vs = [x] ∧ VR β' x v) := by
    intro e
    rw [e] at h5
    cases vs with
    | nil => simp only [VRs] at h5; cases h5
    | cons x xs =>
      simp only [VRs] at h5
      obtain ⟨y, ys, e1, e2, e3⟩ := h5
      injection e1 with e4 e5; subst e4; subst e5
      cases xs with
      | nil => exact ⟨x, rfl, e2⟩
      | cons z zs => simp only [VRs] at e3; obtain ⟨_, _, e, _⟩ := e3; cases e
  cases n with
  | zero => simp [shOf] at hsh
  | succ n =>
    simp only [shOf] at hsh
    split at hsh
    · rename_i k ht
      injection hsh with hsh; subst hsh
      obtain ⟨z, rfl⟩ := WideShapes.okWide_int ht hv
      obtain ⟨x, rfl, hx⟩ := one rfl
      exact ⟨β', m', x, h1, h2, h3, hx, h6⟩
    · rename_i ht
      injection hsh with hsh; subst hsh
      obtain ⟨z, rfl⟩ := WideShapes.okWide_bool ht hv
      obtain ⟨x, rfl, hx⟩ := one rfl
      exact ⟨β', m', x, h1, h2, h3, hx, h6⟩
    · rename_i ht
      injection hsh with hsh; subst hsh
      obtain ⟨z, rfl⟩ := WideShapes.okWide_string ht hv
      obtain ⟨x, rfl, hx⟩ := one rfl
      exact ⟨β', m', x, h1, h2, h3, hx, h6⟩
    · rename_i e ht
      split at hsh
      · cases he : shOf P n e with
        | none => rw [he] at hsh; cases hsh
        | some s =>
          rw [he] at hsh; simp only [Option.map_some, Option.some.injEq] at hsh; subst hsh
          obtain ⟨a, len, cap, rfl⟩ := WideShapes.okWide_slice ht hv
          obtain ⟨x, rfl, hx⟩ := one rfl
          exact ⟨β', m', x, h1, h2, h3, hx, h6⟩
      · cases hsh
    · rename_i fs ht
      cases he : shsOf P (shOf P n) fs.toList 0 (P.cellsOf t) with
      | none => rw [he] at hsh; cases hsh
      | some ss =>
        rw [he] at hsh; simp only [Option.map_some, Option.some.injEq] at hsh; subst hsh
        obtain ⟨cs, rfl, _⟩ := WideShapes.okWide_struct ht hv
        refine ⟨β', m', .agg vs, h1, h2, h3, ?_, vs, rfl, ?_⟩
        · simp only [VR]; exact ⟨cs, rfl, h5⟩
        · simpa only [Is] using h6
    · cases hsh
end
end Go.AM
