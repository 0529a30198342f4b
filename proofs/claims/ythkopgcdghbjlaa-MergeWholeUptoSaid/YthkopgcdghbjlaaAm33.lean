/-
  THE ABSTRACT MACHINE: arguments of any plain shape, and how great they are: a bound on how many values and letters they hold, in all. No Go program here.
-/
import Derived.Test.YthkopgcdghbjlaaAm23
namespace Go.AM
open Go
set_option linter.unusedVariables false

mutual
/-- These cells are of that shape, and hold no more than so many values and letters. -/
def IsK (m : Mem) : Sh → List V → Nat → Prop
  | .int k, cs, b => ∃ n, cs = [.int k n] ∧ (Lit.int k n).wf = true ∧ 1 ≤ b
  | .bool, cs, b => ∃ x, cs = [.bool x] ∧ 1 ≤ b
  | .str, cs, b => ∃ s, cs = [.str s] ∧ s.size ≤ maxLen ∧ s.size + 1 ≤ b
  | .slice sz e, cs, b => ∃ a n c, cs = [.sl a n c] ∧ n ≤ maxLen ∧ (a = none → n = 0 ∧ c = some 0) ∧ ∃ (es : List (List V)) (ks : List Nat), es.length = n ∧ ks.length = n ∧ (∀ (i : Nat) (x : List V) (k : Nat), es[i]? = some x → ks[i]? = some k → IsK m e x k) ∧ ks.sum + 1 ≤ b ∧
      ∀ x, a = some x → ∃ r, x = (r, 0, sz) ∧ (n ≠ 0 → m.obj r = some (.row sz es false))
  | .struct fs, cs, b => ∃ j, IssK m fs cs j ∧ j + 1 ≤ b
def IssK (m : Mem) : List Sh → List V → Nat → Prop
  | [], cs, b => cs = []
  | f :: fs, cs, b => ∃ x y i j, cs = x ++ y ∧ IsK m f x i ∧ IssK m fs y j ∧ i + j ≤ b
end

mutual
theorem IsK.is {m : Mem} : ∀ (s : Sh) (cs : List V) (b : Nat), IsK m s cs b → Is m s cs
  | .int k, cs, b, e => by simp only [IsK] at e; obtain ⟨n, h1, h2, _⟩ := e; simp only [Is]; exact ⟨n, h1, h2⟩
  | .bool, cs, b, e => by simp only [IsK] at e; obtain ⟨n, h1, _⟩ := e; simp only [Is]; exact ⟨n, h1⟩
  | .str, cs, b, e => by simp only [IsK] at e; obtain ⟨n, h1, h2, _⟩ := e; simp only [Is]; exact ⟨n, h1, h2⟩
  | .slice sz s, cs, b, e => by
    simp only [IsK] at e
    obtain ⟨a, n, c, h1, h2, h3, es, ks, h4, h5, h6, h7, h8⟩ := e
    simp only [Is]
    refine ⟨a, n, c, h1, h2, h3, es, h4, fun x hx => ?_, h8⟩
    obtain ⟨i, hi⟩ := List.getElem?_of_mem hx
    have hil := (List.getElem?_eq_some_iff.1 hi).1
    exact IsK.is s x _ (h6 i x _ hi (List.getElem?_eq_getElem (by omega)))
  | .struct fs, cs, b, e => by simp only [IsK] at e; obtain ⟨j, h, _⟩ := e; simp only [Is]; exact IssK.is fs cs j h
theorem IssK.is {m : Mem} : ∀ (s : List Sh) (cs : List V) (b : Nat), IssK m s cs b → Iss m s cs
  | [], cs, b, e => by simpa [Iss, IssK] using e
  | f :: fs, cs, b, e => by
    simp only [IssK] at e
    obtain ⟨x, y, i, j, h1, h2, h3, _⟩ := e
    simp only [Iss]
    exact ⟨x, y, h1, IsK.is f x i h2, IssK.is fs y j h3⟩
end

mutual
theorem IsK.mono {m m' : Mem} (h : m.In m') : ∀ (s : Sh) (cs : List V) (b : Nat), IsK m s cs b → IsK m' s cs b
  | .int k, cs, b, e => by simpa [IsK] using e
  | .bool, cs, b, e => by simpa [IsK] using e
  | .str, cs, b, e => by simpa [IsK] using e
  | .slice sz s, cs, b, e => by
    simp only [IsK] at e ⊢
    obtain ⟨a, n, c, h1, h2, h3, es, ks, h4, h5, h6, h7, h8⟩ := e
    exact ⟨a, n, c, h1, h2, h3, es, ks, h4, h5, fun i x k hx hk => IsK.mono h s x k (h6 i x k hx hk), h7, fun x hx => by obtain ⟨r, h9, h10⟩ := h8 x hx; exact ⟨r, h9, fun hn => h _ _ (h10 hn)⟩⟩
  | .struct fs, cs, b, e => by simp only [IsK] at e ⊢; obtain ⟨j, e1, e2⟩ := e; exact ⟨j, IssK.mono h fs cs j e1, e2⟩
theorem IssK.mono {m m' : Mem} (h : m.In m') : ∀ (s : List Sh) (cs : List V) (b : Nat), IssK m s cs b → IssK m' s cs b
  | [], cs, b, e => by simpa [IssK] using e
  | f :: fs, cs, b, e => by
    simp only [IssK] at e ⊢
    obtain ⟨x, y, i, j, h1, h2, h3, h4⟩ := e
    exact ⟨x, y, i, j, h1, IsK.mono h f x i h2, IssK.mono h fs y j h3, h4⟩
end

/-- A measure of readings: each value and letter counts. -/
structure Bulk {H : Type} (bk : DataW H → Nat) (bkA : List (DataW H) → Nat) : Prop where
  str : ∀ l, bk (.lit (.string l)) = l.length + 1
  one : ∀ d, 1 ≤ bk d
  slice : ∀ e s, bk (.slice e s) = bkA e + bkA s + 1
  agg : ∀ e, bk (.agg e) = bkA e + 1
  nil : bkA [] = 0
  cons : ∀ d r, bkA (d :: r) = bk d + bkA r

theorem Bulk.sum {H : Type} {bk : DataW H → Nat} {bkA : List (DataW H) → Nat} (h : Bulk bk bkA) : ∀ l, bkA l = (l.map bk).sum
  | [] => by simp [h.nil]
  | d :: r => by simp [h.cons, h.sum r]

section
variable {H : Type} {enc : TypeId × Value → H} {P : Program} {w : World} {bk : DataW H → Nat} {bkA : List (DataW H) → Nat}

theorem laysK_fields (B : Bulk bk bkA) {n fuel : Nat} (ih : ∀ {t : TypeId} {sh : Sh}, shOf P n t = some sh → ∀ {cs : List Value} {x : DataW H × List MemPlace} {β : Pl} {m : Mem}, Start w β m → DataW.trod enc P w 0 (fun _ => true) true fuel t cs = some x → Lays w β m (fun m' vs => IsK m' sh vs (bk x.1)) cs) :
    ∀ (fs : List Field) (xs : List (DataW H × List MemPlace)) {off tot : Nat} {ss : List Sh}, shsOf P (shOf P n) fs off tot = some ss → ∀ {cs : List Value} {β : Pl} {m : Mem}, cs.length = tot → xs.length = fs.length → (∀ (i : Nat) (f : Field), fs[i]? = some f → DataW.trod enc P w 0 (fun _ => true) true fuel f.type ((cs.drop f.offset).take (P.cellsOf f.type)) = xs[i]?) →
    Start w β m → Lays w β m (fun m' vs => IssK m' ss vs (bkA (xs.map (·.1)))) (cs.drop off)
  | [], xs, off, tot, ss, h, cs, β, m, hl, _, _, hS => by
    simp only [shsOf] at h
    split at h
    · rename_i e; subst e
      injection h with h; subst h
      exact ⟨β, m, [], Pl.le_refl _, hS, Mem.In.refl m, Nat.le_refl _, by rw [List.drop_of_length_le (by omega)]; simp [VRs], by simp [IssK]⟩
    · cases h
  | f :: fs, xs, off, tot, ss, h, cs, β, m, hl, hxl, hf, hS => by
    cases xs with
    | nil => simp at hxl
    | cons x0 xs =>
    simp only [shsOf] at h
    split at h
    · rename_i e
      obtain ⟨e1, e2⟩ := e
      split at h
      · rename_i s ss' h1 h2
        injection h with h; subst h
        have hx := hf 0 f (by simp)
        rw [List.getElem?_cons_zero] at hx
        obtain ⟨β1, m1, v1, a1, a2, a3, a4, a5, a6⟩ := ih h1 hS hx
        obtain ⟨β2, m2, v2, b1, b2, b3, b4, b5, b6⟩ := laysK_fields B ih fs xs h2 (cs := cs) hl (by simpa using hxl) (fun i g hg => by have := hf (i + 1) g (by simpa using hg); simpa using this) a2
        refine ⟨β2, m2, v1 ++ v2, Pl.le_trans a1 b1, b2, a3.trans b3, Nat.le_trans a4 b4, ?_, ?_⟩
        · have := VRs.append (VRs.mono b1 _ _ a5) b5
          rw [e1] at this
          rw [show cs.drop (off + P.cellsOf f.type) = (cs.drop off).drop (P.cellsOf f.type) by rw [List.drop_drop], List.take_append_drop] at this
          exact this
        · simp only [IssK, List.map_cons, B.cons]; exact ⟨v1, v2, _, _, rfl, IsK.mono b3 _ _ _ a6, b6, Nat.le_refl _⟩
      · cases h
    · cases h

theorem laysK_elems {Q : Nat → Mem → List V → Prop} (hQ : ∀ (i : Nat) (m m' : Mem) (vs : List V), m.In m' → Q i m vs → Q i m' vs) {cells : Nat → List Value} (len : Nat)
    (ih : ∀ i, i < len → ∀ {β : Pl} {m : Mem}, Start w β m → Lays w β m (Q i) (cells i)) {β : Pl} {m : Mem} (hS : Start w β m) :
    ∀ k, k ≤ len → ∃ (β' : Pl) (m' : Mem) (es : List (List V)), Pl.le β β' ∧ Start w β' m' ∧ m.In m' ∧ m.next ≤ m'.next ∧ es.length = k ∧ ∀ i e, es[i]? = some e → VRs β' e (cells i) ∧ Q i m' e
  | 0, _ => ⟨β, m, [], Pl.le_refl _, hS, Mem.In.refl m, Nat.le_refl _, rfl, fun i e h => by simp at h⟩
  | k + 1, hk => by
    obtain ⟨β1, m1, es, a1, a2, a3, a4, a5, a6⟩ := laysK_elems hQ len ih hS k (by omega)
    obtain ⟨β2, m2, e, b1, b2, b3, b4, b5, b6⟩ := ih k (by omega) a2
    refine ⟨β2, m2, es ++ [e], Pl.le_trans a1 b1, b2, a3.trans b3, Nat.le_trans a4 b4, by simp [a5], fun i x hx => ?_⟩
    rcases Nat.lt_or_ge i es.length with hi | hi
    · rw [List.getElem?_append_left hi] at hx
      obtain ⟨c1, c2⟩ := a6 i x hx
      exact ⟨VRs.mono b1 _ _ c1, hQ _ _ _ _ b3 c2⟩
    · rw [List.getElem?_append_right hi] at hx
      have : i - es.length = 0 := by
        rcases Nat.eq_zero_or_pos (i - es.length) with h | h
        · exact h
        · rw [List.getElem?_eq_none (by simp; omega)] at hx; cases hx
      rw [this] at hx
      simp at hx; subst hx
      have : i = k := by omega
      subst this
      exact ⟨b5, b6⟩

theorem laysK (B : Bulk bk bkA) : ∀ (n : Nat) {t : TypeId} {sh : Sh}, shOf P n t = some sh → ∀ {fuel : Nat} {cs : List Value} {x : DataW H × List MemPlace} {β : Pl} {m : Mem}, Start w β m → DataW.trod enc P w 0 (fun _ => true) true fuel t cs = some x → Lays w β m (fun m' vs => IsK m' sh vs (bk x.1)) cs
  | 0, t, sh, h, fuel, cs, x, β, m, hS, hx => by simp [shOf] at h
  | n + 1, t, sh, h, fuel, cs, x, β, m, hS, hx => by
    simp only [shOf] at h
    split at h
    · rename_i k ht
      injection h with h; subst h
      obtain ⟨z, rfl, rfl, hw⟩ := DataW.trod_int ht hx
      exact ⟨β, m, [.int k z], Pl.le_refl _, hS, Mem.In.refl m, Nat.le_refl _, relc relI rel0, by simp only [IsK]; exact ⟨z, rfl, hw, B.one _⟩⟩
    · rename_i ht
      injection h with h; subst h
      obtain ⟨b, rfl, rfl⟩ := DataW.trod_bool ht hx
      exact ⟨β, m, [.bool b], Pl.le_refl _, hS, Mem.In.refl m, Nat.le_refl _, relc relB rel0, by simp only [IsK]; exact ⟨b, rfl, B.one _⟩⟩
    · rename_i ht
      injection h with h; subst h
      obtain ⟨s, rfl, rfl, hs⟩ := DataW.trod_string ht hx
      exact ⟨β, m, [.str s], Pl.le_refl _, hS, Mem.In.refl m, Nat.le_refl _, relc relS rel0, by simp only [IsK]; exact ⟨s, rfl, hs, by rw [B.str]; simp⟩⟩
    · rename_i e ht
      split at h
      · rename_i hpos
        cases he : shOf P n e with
        | none => rw [he] at h; cases h
        | some s =>
          rw [he] at h; simp only [Option.map_some, Option.some.injEq] at h; subst h
          rcases DataW.trod_slice ht hx with ⟨rfl, _⟩ | ⟨a, len, cap, elems, rest, f, rfl, rfl, rfl, _, hl, hc, hlen, hel, hsp, _⟩
          · refine ⟨β, m, [.sl none 0 (some 0)], Pl.le_refl _, hS, Mem.In.refl m, Nat.le_refl _, relc (by simp [VR]) rel0, ?_⟩
            simp only [IsK]
            exact ⟨none, 0, some 0, rfl, by simp, fun _ => ⟨rfl, rfl⟩, [], [], rfl, rfl, by simp, by simpa using B.one _, fun x hx => by cases hx⟩
          · have hcell : ∀ i, i < len → ∃ cs, w.cells? 0 (a.add (i * P.cellsOf e)) (P.cellsOf e) = some cs ∧ ∃ y, elems[i]? = some y ∧ DataW.trod enc P w 0 (fun _ => true) true f e cs = some y := by
              intro i hi
              have h1 := hel i hi
              have h2 : ∃ y, elems[i]? = some y := ⟨_, List.getElem?_eq_getElem (by omega)⟩
              obtain ⟨y, hy⟩ := h2
              rw [hy, Option.bind_eq_some_iff] at h1
              obtain ⟨cs, h3, h4⟩ := h1
              exact ⟨cs, h3, y, hy, h4⟩
            have hcs : ∀ i, i < len → w.cells? 0 (a.add (i * P.cellsOf e)) (P.cellsOf e) = some ((w.cells? 0 (a.add (i * P.cellsOf e)) (P.cellsOf e)).getD []) := by
              intro i hi; obtain ⟨cs, h1, _⟩ := hcell i hi; rw [h1]; rfl
            obtain ⟨β1, m1, es, a1, a2, a3, a4, a5, a6⟩ := laysK_elems (Q := fun i m' vs => ∀ y, elems[i]? = some y → IsK m' s vs (bk y.1)) (fun _ _ _ _ h k y hy => IsK.mono h _ _ _ (k y hy)) (cells := fun i => (w.cells? 0 (a.add (i * P.cellsOf e)) (P.cellsOf e)).getD []) len
              (fun i hi β m hS => by
                obtain ⟨cs, h1, y, h0, h2⟩ := hcell i hi
                simp only [h1, Option.getD_some]
                obtain ⟨β', m', vs, c1, c2, c3, c4, c5, c6⟩ := laysK B n he hS h2
                exact ⟨β', m', vs, c1, c2, c3, c4, c5, fun z hz => by rw [h0] at hz; injection hz with hz; subst hz; exact c6⟩) hS len (Nat.le_refl _)
            have hcl : ∀ (i : Nat) (x : List V), es[i]? = some x → ∀ v ∈ x, v.isCell = true := by
              intro i x hx
              have hi : i < len := by rw [← a5]; exact (List.getElem?_eq_some_iff.1 hx).1
              obtain ⟨cs, h1, y, h0, h2⟩ := hcell i hi
              exact Is.cells _ _ (IsK.is _ _ _ ((a6 i x hx).2 y h0))
            have hsz : ∀ (i : Nat) (x : List V), es[i]? = some x → x.length = P.cellsOf e := by
              intro i x hx
              have hi : i < len := by rw [← a5]; exact (List.getElem?_eq_some_iff.1 hx).1
              rw [(a6 i x hx).1.length]
              exact (World.cells?_some (hcs i hi)).2.1
            have hat : ∀ i j, i < len → j < P.cellsOf e → (a.add (i * P.cellsOf e)).add j = (Loc.mk a.block a.off (P.cellsOf e) cap).at i j := by
              intro i j hi hj
              have h0 := (World.cells?_some (hcs 0 (by omega))).2.2 0 hpos
              have h1 : ∃ v, ((w.cells? 0 (a.add (0 * P.cellsOf e)) (P.cellsOf e)).getD [])[0]? = some v := ⟨_, List.getElem?_eq_getElem (by rw [(World.cells?_some (hcs 0 (by omega))).2.1]; exact hpos)⟩
              obtain ⟨v, hv⟩ := h1
              rw [hv] at h0
              have hs := World.cell?_spot h0
              simp only [Nat.zero_mul, Addr.add, if_true] at hs
              simp only [Addr.add, Loc.at]
              by_cases h2 : i * P.cellsOf e = 0
              · by_cases h3 : j = 0
                · subst h3; simp only [h2, if_true]; obtain ⟨ab, ao, as⟩ := a; simp only at hs; subst hs; simp
                · simp only [h2, if_true, if_neg h3]; simp
              · by_cases h3 : j = 0
                · subst h3; simp [h2]
                · simp [h2, h3]
            obtain ⟨b1, b2⟩ := a2.row (sz := P.cellsOf e) (es := es) ⟨a.block, a.off, P.cellsOf e, cap⟩ (fun hne => by
              have hl0 : 0 < len := by
                rw [← a5]; exact List.length_pos_iff.2 hne
              refine ⟨rfl, hpos, by rw [a5]; exact hl, ?_, by simp, fun i x hx => ?_, (fun h => by cases h), fun h => by cases h⟩
              · have := World.cells?_block (hcs 0 hl0) hpos
                simpa [Addr.add] using this
              · have hi : i < len := by rw [← a5]; exact (List.getElem?_eq_some_iff.1 hx).1
                refine ⟨hsz i x hx, fun j v hv => ?_⟩
                have hj : j < P.cellsOf e := by rw [← hsz i x hx]; exact (List.getElem?_eq_some_iff.1 hv).1
                obtain ⟨c1, c2⟩ := a6 i x hx
                obtain ⟨cv, hcv, hr⟩ := c1.get j v hv
                refine ⟨hcl i x hx v (List.mem_of_getElem? hv), cv, hr, ?_⟩
                rw [← hat i j hi hj, (World.cells?_some (hcs i hi)).2.2 j hj]
                exact hcv)
            have hin : m1.In (m1.arg (P.cellsOf e) es) := by
              intro q o hq
              have := a2.mr.fresh q o hq
              simp only [Mem.arg]; rw [if_neg (by omega)]; exact hq
            refine ⟨_, _, [.sl (some (m1.next, 0, P.cellsOf e)) len none], Pl.le_trans a1 b1, b2, a3.trans hin, by simp only [Mem.arg]; omega, relc ?_ rel0, ?_⟩
            · simp only [VR]
              refine ⟨⟨a.block, a.off, P.cellsOf e, cap⟩, a, cap, by simp, rfl, by simp, hl, fun hc0 => ?_, rfl⟩
              have h0 : ∃ cs, w.cells? 0 (a.add (0 * P.cellsOf e)) (P.cellsOf e) = some cs := by
                by_cases hl0 : 0 < len
                · exact ⟨_, hcs 0 hl0⟩
                · obtain ⟨h1, h2⟩ := hsp rfl
                  have h3 := h2 0 (by omega)
                  have h4 : ∃ y, rest[0]? = some y := ⟨_, List.getElem?_eq_getElem (by omega)⟩
                  obtain ⟨y, hy⟩ := h4
                  rw [hy, Option.bind_eq_some_iff] at h3
                  obtain ⟨cs, h5, _⟩ := h3
                  rw [show len + 0 = 0 by omega] at h5
                  exact ⟨cs, h5⟩
              obtain ⟨cs, h0⟩ := h0
              have h1 := World.cells?_some h0
              have h2 := h1.2.2 0 hpos
              have h3 : ∃ v, cs[0]? = some v := ⟨_, List.getElem?_eq_getElem (by rw [h1.2.1]; exact hpos)⟩
              obtain ⟨v, hv⟩ := h3
              rw [hv] at h2
              have hs := World.cell?_spot h2
              simp only [Nat.zero_mul, Addr.add, if_true] at hs
              simp only [Loc.at]
              obtain ⟨ab, ao, as⟩ := a; simp only at hs; subst hs; simp
            · simp only [IsK]
              refine ⟨_, len, none, rfl, by omega, fun h => (by cases h), es, elems.map (fun y => bk y.1), a5, by simp; omega, fun i x k hx hk => ?_, ?_, fun x hx => ?_⟩
              · rw [List.getElem?_map] at hk
                cases hy : elems[i]? with
                | none => rw [hy] at hk; cases hk
                | some y =>
                  rw [hy] at hk; simp only [Option.map_some, Option.some.injEq] at hk; subst hk
                  exact IsK.mono hin _ _ _ ((a6 i x hx).2 y hy)
              · rw [B.slice, B.sum, List.map_map]
                show (elems.map (fun y => bk y.1)).sum + 1 ≤ (elems.map (fun y => bk y.1)).sum + _ + 1
                omega
              · injection hx with hx; subst hx
                refine ⟨m1.next, rfl, fun h0 => ?_⟩
                have : es ≠ [] := fun e => h0 (by rw [← a5, e]; rfl)
                simp [Mem.arg, this]
      · cases h
    · rename_i fs ht
      cases he : shsOf P (shOf P n) fs.toList 0 (P.cellsOf t) with
      | none => rw [he] at h; cases h
      | some ss =>
        rw [he] at h; simp only [Option.map_some, Option.some.injEq] at h; subst h
        obtain ⟨xs, f, rfl, rfl, hl, hxl, hf⟩ := DataW.trod_struct ht hx
        have := laysK_fields (enc := enc) (w := w) (fuel := f) B (fun {t sh} h {cs x β m} hS hx => laysK B n h hS hx) fs.toList xs he (cs := cs) (β := β) (m := m) hl (by simpa using hxl) (fun i g hg => hf i g (by simpa using hg)) hS
        rw [List.drop_zero] at this
        obtain ⟨β', m', vs, c1, c2, c3, c4, c5, c6⟩ := this
        exact ⟨β', m', vs, c1, c2, c3, c4, c5, by simp only [IsK]; exact ⟨_, c6, by rw [B.agg]; exact Nat.le_refl _⟩⟩
    · cases h


/-- An argument of that shape, and no greater than that. -/
def IsVK (m : Mem) : Sh → V → Nat → Prop
  | .struct fs, x, b => ∃ cs, x = .agg cs ∧ IsK m (.struct fs) cs b
  | s, x, b => IsK m s [x] b

theorem IsVK.mono {m m' : Mem} (h : m.In m') {b : Nat} : ∀ {s : Sh} {x : V}, IsVK m s x b → IsVK m' s x b
  | .int k, x, e => IsK.mono h (.int k) _ _ e
  | .bool, x, e => IsK.mono h .bool _ _ e
  | .str, x, e => IsK.mono h .str _ _ e
  | .slice sz s, x, e => IsK.mono h (.slice sz s) _ _ e
  | .struct fs, x, ⟨cs, h1, h2⟩ => ⟨cs, h1, IsK.mono h (.struct fs) cs _ h2⟩

theorem arg1K (B : Bulk bk bkA) {n : Nat} {t : TypeId} {sh : Sh} (hsh : shOf P n t = some sh) {v : Value} (hv : Value.okWide P w .any 0 t v) {d : DataW H} {p : List MemPlace} (h : DataW.Trod enc P w 0 (fun _ => true) true t v d p)
    {β : Pl} {m : Mem} (hS : Start w β m) : ∃ β' m' x, Pl.le β β' ∧ Start w β' m' ∧ m.In m' ∧ VR β' x v ∧ IsV m' sh x ∧ IsVK m' sh x (bk d) := by
  obtain ⟨fuel, hf⟩ := h
  obtain ⟨β', m', vs, h1, h2, h3, _, h5, h6⟩ := laysK B n hsh hS hf
  have one : v.cells.toList = [v] → (∃ x, vs = [x] ∧ VR β' x v) := by
    intro e
    rw [e] at h5
    cases vs with
    | nil => simp only [VRs] at h5; cases h5
    | cons x xs =>
      simp only [VRs] at h5
      obtain ⟨y, ys, e1, e2, e3⟩ := h5
      injection e1 with e4 e5; subst e4; subst e5
      cases xs with
      | nil => exact ⟨x, rfl, e2⟩
      | cons z zs => simp only [VRs] at e3; obtain ⟨_, _, e, _⟩ := e3; cases e
  cases n with
  | zero => simp [shOf] at hsh
  | succ n =>
    simp only [shOf] at hsh
    split at hsh
    · rename_i k ht
      injection hsh with hsh; subst hsh
      obtain ⟨z, rfl⟩ := WideShapes.okWide_int ht hv
      obtain ⟨x, rfl, hx⟩ := one rfl
      exact ⟨β', m', x, h1, h2, h3, hx, IsK.is _ _ _ h6, h6⟩
    · rename_i ht
      injection hsh with hsh; subst hsh
      obtain ⟨z, rfl⟩ := WideShapes.okWide_bool ht hv
      obtain ⟨x, rfl, hx⟩ := one rfl
      exact ⟨β', m', x, h1, h2, h3, hx, IsK.is _ _ _ h6, h6⟩
    · rename_i ht
      injection hsh with hsh; subst hsh
      obtain ⟨z, rfl⟩ := WideShapes.okWide_string ht hv
      obtain ⟨x, rfl, hx⟩ := one rfl
      exact ⟨β', m', x, h1, h2, h3, hx, IsK.is _ _ _ h6, h6⟩
    · rename_i e ht
      split at hsh
      · cases he : shOf P n e with
        | none => rw [he] at hsh; cases hsh
        | some s =>
          rw [he] at hsh; simp only [Option.map_some, Option.some.injEq] at hsh; subst hsh
          obtain ⟨a, len, cap, rfl⟩ := WideShapes.okWide_slice ht hv
          obtain ⟨x, rfl, hx⟩ := one rfl
          exact ⟨β', m', x, h1, h2, h3, hx, IsK.is _ _ _ h6, h6⟩
      · cases hsh
    · rename_i fs ht
      cases he : shsOf P (shOf P n) fs.toList 0 (P.cellsOf t) with
      | none => rw [he] at hsh; cases hsh
      | some ss =>
        rw [he] at hsh; simp only [Option.map_some, Option.some.injEq] at hsh; subst hsh
        obtain ⟨cs, rfl, _⟩ := WideShapes.okWide_struct ht hv
        refine ⟨β', m', .agg vs, h1, h2, h3, ?_, ⟨vs, rfl, ?_⟩, vs, rfl, h6⟩
        · simp only [VR]; exact ⟨cs, rfl, h5⟩
        · simpa only [Is] using IsK.is _ _ _ h6
    · cases hsh

end

theorem IsVK.slR {m : Mem} (hf : m.Fresh) {sz : Nat} {s : Sh} {x : V} {b : Nat} (h : IsVK m (.slice sz s) x b) : ∃ (es : List (List V)) (ks : List Nat), Sl m sz x es ∧ ks.length = es.length ∧ (∀ (i : Nat) (e : List V) (k : Nat), es[i]? = some e → ks[i]? = some k → IsK m s e k) ∧ ks.sum + 1 ≤ b := by
  simp only [IsVK, IsK] at h
  obtain ⟨a, n, c, h1, h2, h3, es, ks, h4, h5, h6, h7, h8⟩ := h
  injection h1 with h1 _; subst h1
  subst h4
  refine ⟨es, ks, ⟨a, c, rfl, fun hne => ?_⟩, h5, h6, h7⟩
  cases a with
  | none => exact absurd (List.eq_nil_of_length_eq_zero (h3 rfl).1) hne
  | some p =>
    obtain ⟨r, rfl, h9⟩ := h8 p rfl
    have h10 := h9 (fun e => hne (List.eq_nil_of_length_eq_zero e))
    exact ⟨r, 0, _, false, rfl, hf r _ h10, h10, by omega, fun j _ => by rw [Nat.zero_add]⟩
end Go.AM
