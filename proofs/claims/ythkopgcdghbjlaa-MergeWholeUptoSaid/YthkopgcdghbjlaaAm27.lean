/-
  THE ABSTRACT MACHINE: the library's sort by a comparison of one's own, in place, by the kit's contract: elements that are some whole numbers. No Go program here.
-/
import Derived.Test.YthkopgcdghbjlaaAm26
import Derived.Shelf.SlSortCmp.InsertionK
namespace Go.AM
open Go Go.Sort
set_option linter.unusedVariables false

/-- Whatever lays blocks behind a world, and draws, leads to it, so far. -/
theorem grown_of {w w' : World} (h : RowKit.Below w.heap.size w w') (hd : w.drawn ≤ w'.drawn) : ∃ q os', w' = grow (w.drewN q) os' := by
  refine ⟨w'.drawn - w.drawn, w'.heap.extract w.heap.size w'.heap.size, ?_⟩
  have e1 : w'.heap = w.heap ++ w'.heap.extract w.heap.size w'.heap.size := by
    apply Array.ext_getElem?
    intro k
    rw [Array.getElem?_append]
    have hs := h.size
    by_cases hk : k < w.heap.size
    · rw [if_pos hk, h.block k hk]
    · rw [if_neg hk, Array.getElem?_extract]
      by_cases hk2 : k < w'.heap.size
      · rw [if_pos (by omega), show w.heap.size + (k - w.heap.size) = k by omega]
      · rw [if_neg (by omega), Array.getElem?_eq_none (by omega)]
  cases w'
  cases w
  simp only [grow, World.drewN, World.mk.injEq] at *
  exact ⟨e1, h.tape, by omega, h.os, h.output⟩

/-- A call that looks at no memory, of arguments that name none. -/
theorem ACalls.of_emptyR {P : Program} {f : FuncId} {args : List V} {r0 : V} (ha : ∀ (β β' : Pl) vs, VRs β args vs → VRs β' args vs) (hr : r0.flat = true) (h : ACalls P f args Mem.empty (fun r _ => r = r0)) (m : Mem) : ACalls P f args m (fun r m' => r = r0 ∧ m' = m) := by
  refine ⟨h.1, fun base w0 β w cargs hM hA => (h.2 w.heap.size w _ w cargs (Start.nil w).mr (ha _ _ _ hA)).mono fun e w' ⟨v, he, β', r, m', h1, h2, h3, h4⟩ => ?_⟩
  subst h4
  refine ⟨v, he, β, r, m, Pl.le_refl _, V.flat_rel _ _ hr h2, ?_, rfl, rfl⟩
  have hb := h3.below
  refine hM.same ⟨hb.os, hb.tape, hb.output, hb.size, fun a ha _ => ?_, fun a ha => ?_, fun b hb' _ => hb.block b hb', h3.drawn⟩
  · simp only [World.cell?]; rw [hb.block _ ha]
  · simp only [World.frozen?]; rw [hb.block _ ha]
theorem reckonR {P : Program} (hm : P.follows .mixedOrders = true) {c : CodeL} (hc : CodeOk P c) (fuel n : Nat) {f : FuncId} {args : List V} {r0 : V} (ha : ∀ (β β' : Pl) vs, VRs β args vs → VRs β' args vs) (hr : r0.flat = true)
    (h : (match callL c fuel n f args [] with | some (r, _) => V.same r r0 | none => false) = true) (m : Mem) : ACalls P f args m (fun r m' => r = r0 ∧ m' = m) := by
  split at h
  · rename_i r l' hc'
    have := V.same_eq _ _ h; subst this
    have h0 : LM.mem [] = Mem.empty := Mem.ext2 (fun q => by simp [LM.mem, Mem.empty]) rfl
    refine ACalls.of_emptyR ha hr ?_ m
    rw [← h0]
    exact (callL_ok hm hc n f args [] _ l' hc').imp fun _ _ h => h.1
  · cases h
/-- An empty slice, and a function without anything bound. -/
theorem nil_fn (g : FuncId) : ∀ (β β' : Pl) vs, VRs β [.sl none 0 (some 0), .fn g [] []] vs → VRs β' [.sl none 0 (some 0), .fn g [] []] vs := fun β β' vs h => by
  simpa only [VRs, VR] using h

section
variable {α : Type} [Inhabited α]

/-- An element's cells. -/
def ecV (ei : α → List Int) (x : α) : List V := (ei x).map (V.int .i64)
def ecM (ei : α → List Int) (x : α) : List Value := (ei x).map (Value.int .i64)
omit [Inhabited α] in
theorem ec_rel (β : Pl) (ei : α → List Int) (x : α) : VRs β (ecV ei x) (ecM ei x) := by
  unfold ecV ecM
  induction ei x with
  | nil => simp [VRs]
  | cons a l ih => simp only [List.map_cons, VRs, VR]; exact ⟨_, _, rfl, rfl, ih⟩
omit [Inhabited α] in
theorem ecM_one (ei : α → List Int) (x : α) : ∀ v ∈ ecM ei x, v.oneCell' = true := by
  intro v hv
  obtain ⟨n, _, rfl⟩ := List.mem_map.1 hv
  rfl

/-- A comparison known by its contract over the plain machine, as the kit's sort wants it. -/
theorem cmp_lays {P : Program} {g : FuncId} (hbg : Body P g) (ei : α → List Int) (k : Nat) (cf : α → α → Int) (hc : ∀ x y : α, ACalls P g [.agg (ecV ei x), .agg (ecV ei y)] Mem.empty (fun r _ => r = .int .i64 (cf x y))) (blk off size : Nat) (w : World) :
    Go.Proofs.CmpLays P g #[] (ecM ei) k cf blk off size w := by
  intro m os dk hs x y
  obtain ⟨W, hW⟩ : ∃ W, Go.Proofs.sortWorldK (ecM ei) k w blk off m dk os = W := ⟨_, rfl⟩
  rw [hW]
  have h := ((hc x y).2 W.heap.size W (fun _ => none) W [.agg (ecM ei x).toArray, .agg (ecM ei y).toArray] (Start.nil W).mr (by
    simp only [VRs, VR]
    exact ⟨_, _, rfl, ⟨_, rfl, ec_rel _ _ _⟩, _, _, rfl, ⟨_, rfl, ec_rel _ _ _⟩, rfl⟩)).1 hbg
  refine h.mono fun e w' ⟨v, he, β', r, m', h1, h2, h3, h4⟩ => ?_
  subst h4
  simp only [VR] at h2
  subst h2
  exact ⟨he, grown_of h3.below h3.drawn⟩

/-- What the kit's contract says of a sort by a comparison. -/
def SortsF (P : Program) (f g : FuncId) (ei : α → List Int) (k : Nat) (cf : α → α → Int) : Prop := ∀ (blk off cap : Nat) (d : Array α) (w : World),
  Go.Proofs.CmpLays P g #[] (ecM ei) k cf blk off d.size w → HoldsK (ecM ei) k w blk off d → blk < w.heap.size → d.size < 4611686018427387904 →
  Calls P f #[.slice (some ⟨blk, off, none⟩) d.size cap, .func (.func g) #[] #[]] w fun e w' => e = .returned (.tuple #[]) ∧ ∃ d' n os, PermIn 0 d.size d d' ∧ SortedIn (Go.Proofs.ltOf cf) 0 d.size d' ∧ w' = Go.Proofs.sortWorldK (ecM ei) k w blk off n d' os

theorem toArray_get {d : List α} {j : Nat} (h : j < d.length) : d[j]? = some d.toArray[j]! := by
  rw [getElem!_pos _ _ (by simpa using h), List.getElem?_eq_getElem h]; simp

omit [Inhabited α] in
theorem map_get! (l : List Int) {j : Nat} (h : j < l.length) : (l.map (Value.int .i64))[j]! = Value.int .i64 (l[j]!) := by
  rw [getElem!_pos (l.map (Value.int .i64)) j (by simpa using h), getElem!_pos l j h, List.getElem_map]

theorem sortF_at {P : Program} {f g : FuncId} (hb : Body P f) (hbg : Body P g) (ei : α → List Int) {k : Nat} (hk : ∀ x, (ei x).length = k) (cf : α → α → Int) (hs : SortsF P f g ei k cf) (hc : ∀ x y : α, ACalls P g [.agg (ecV ei x), .agg (ecV ei y)] Mem.empty (fun r _ => r = .int .i64 (cf x y)))
    {m : Mem} {q i0 : Nat} {c : Option Nat} {full : List (List V)} {d : List α} (ho : m.obj q = some (.row k full true)) (h1 : i0 + d.length ≤ full.length)
    (h2 : ∀ j x, d[j]? = some x → full[i0 + j]? = some (ecV ei x)) (h3 : 0 < d.length) (h4 : d.length < 4611686018427387904) {K : KV}
    (kk : ∀ d' : List α, d'.Perm d → d'.Pairwise (fun x y => ¬ cf y x < 0) → K (.tup []) (m.upd q (some (.row k (full.take i0 ++ d'.map (ecV ei) ++ full.drop (i0 + d.length)) true)))) : ACalls P f [.sl (some (q, i0, k)) d.length c, .fn g [] []] m K := by
  refine ⟨trivial, fun base w0 β w cargs hM hA => ⟨fun _ => ?_, fun hn => absurd hb hn⟩⟩
  simp only [VRs] at hA
  obtain ⟨v, ys, rfl, hv, v2, ys2, rfl, hv2, rfl⟩ := hA
  simp only [VR] at hv hv2
  obtain ⟨l, a, cap, hl, rfl, hcap, hle, ha, hsz⟩ := hv
  obtain ⟨xs, ys, rfl, hxs, hys⟩ := hv2
  simp only [VRs, Array.toList_eq_nil_iff] at hxs hys
  subst hxs; subst hys
  have ha' := ha (by omega)
  have hR : RowR base β w l k full true := hM.objs q l _ hl ho
  have hpos := hR.pos
  have hat : ∀ i j, l.at (i0 + i) j = ⟨l.block, l.base + i0 * k + (i * k + j), none⟩ := fun i j => by
    simp only [Loc.at, hsz, Nat.add_mul]; congr 1; omega
  have hlen := hR.len
  have hmul : ∀ i, i < d.length → i * k + k ≤ d.length * k := fun i hi => by
    have := Nat.mul_le_mul_right k (show i + 1 ≤ d.length from hi); rwa [Nat.add_mul, Nat.one_mul] at this
  have hge : ∀ (d0 : List α) (i j : Nat), i < d0.length → j < k → (ecM ei d0.toArray[i]!)[j]! = Value.int .i64 ((ei d0.toArray[i]!)[j]!) := fun d0 i j hi hj => by
    have hj' : j < (ei d0.toArray[i]!).length := by rw [hk]; exact hj
    exact map_get! _ hj'
  have hH : HoldsK (ecM ei) k w l.block (l.base + i0 * k) d.toArray := by
    intro t ht
    rw [size_flatK] at ht
    simp only [List.size_toArray] at ht
    rw [get_flatK _ _ _ _ (by simpa using ht)]
    have hi : t / k < d.length := Nat.div_lt_of_lt_mul (by rw [Nat.mul_comm]; exact ht)
    have hj : t % k < k := Nat.mod_lt _ hpos
    have hx := toArray_get hi
    obtain ⟨e1, e2⟩ := hR.cells (i0 + t / k) _ (h2 _ _ hx)
    have hj' : t % k < (ei d.toArray[t / k]!).length := by rw [hk]; exact hj
    obtain ⟨_, cv, e3, e4⟩ := e2 (t % k) (.int .i64 ((ei d.toArray[t / k]!)[t % k]!)) (by
      unfold ecV; rw [List.getElem?_map, List.getElem?_eq_getElem hj', getElem!_pos (ei d.toArray[t / k]!) (t % k) hj']; rfl)
    simp only [VR] at e3
    subst e3
    rw [hat] at e4
    have et : t / k * k + t % k = t := by have := Nat.div_add_mod t k; rw [Nat.mul_comm] at this; exact this
    rw [et] at e4
    refine ⟨by rw [e4, hge d _ _ hi hj]; rfl, ?_⟩
    have := ((hR.own rfl).2 (i0 + t / k) (t % k) (by omega) hj).2
    rw [hat, et] at this; exact this
  have hae : a = ⟨l.block, l.base + i0 * k, none⟩ := by rw [ha']; simp [Loc.at, hsz]
  subst hae
  refine (hs l.block (l.base + i0 * k) cap d.toArray w (cmp_lays hbg ei k cf hc _ _ _ w) hH hR.lt (by simpa using h4)).mono fun e w' ⟨he, d', n, os, hp, hsd, hw'⟩ => ?_
  have hp1 : d'.size = d.length := by have := hp.1; simpa using this
  have hperm : d'.toList.Perm d := by
    have := hp.2.2
    rw [List.size_toArray, ← hp1] at this
    have e2 : d'.extract 0 d'.size = d' := by simp
    have e3 : d.toArray.extract 0 d'.size = d.toArray := by rw [hp1]; simp
    rw [e2, e3] at this
    simpa using this
  have hpw : d'.toList.Pairwise (fun x y => ¬ cf y x < 0) := by
    rw [List.pairwise_iff_getElem]
    intro i j hi hj hij
    have := hsd i j (Nat.zero_le _) hij (by simpa [hp1] using hj)
    have hi' : i < d'.size := by simpa using hi
    have hj' : j < d'.size := by simpa using hj
    rw [getElem!_pos d' i hi', getElem!_pos d' j hj'] at this
    simpa [Go.Proofs.ltOf] using this
  obtain ⟨dl, rfl⟩ : ∃ dl, d' = List.toArray dl := ⟨d'.toList, by simp⟩
  simp only [List.size_toArray] at hp1
  simp only [] at hperm hpw
  refine ⟨_, he, β, .tup [], _, Pl.le_refl _, by simp only [VR]; exact ⟨#[], rfl, rfl⟩, ?_, kk dl hperm hpw⟩
  have hdl : (dl.map (ecV ei)).length = d.length := by simpa using hp1
  have hplen := patch_length full (dl.map (ecV ei)) i0 (by rw [hdl]; exact h1)
  rw [hdl] at hplen
  have hpget := fun j => patch_get full (dl.map (ecV ei)) i0 j (by rw [hdl]; exact h1)
  rw [hdl] at hpget
  have c1 := putRow_chg id (Sort.ahead w n) l.block (l.base + i0 * k) (flatK (ecM ei) k dl.toArray)
  have c2 := ((ahead_chg w n).trans c1).trans (grow_chg (Sort.putRow id (Sort.ahead w n) l.block (l.base + i0 * k) (flatK (ecM ei) k dl.toArray)) os)
  have hw2 : w' = grow (Sort.putRow id (Sort.ahead w n) l.block (l.base + i0 * k) (flatK (ecM ei) k dl.toArray)) os := hw'
  rw [← hw2] at c2
  have hfs : (flatK (ecM ei) k dl.toArray).size = d.length * k := by rw [size_flatK, List.size_toArray, hp1]
  rw [hfs] at c2
  have hcell : ∀ i j, i < l.cap → j < k → ¬ (i0 ≤ i ∧ i < i0 + d.length) → w'.cell? (l.at i j) = w.cell? (l.at i j) := fun i j hi hj hn => by
    refine c2.cell _ hR.lt ?_
    rintro ((h | ⟨⟨_, h, h'⟩, _⟩) | ⟨h, _⟩)
    · exact h
    · simp only [Loc.at, hsz] at h h'
      rcases Nat.lt_or_ge i i0 with q1 | q1
      · have := Nat.mul_le_mul_right k (show i + 1 ≤ i0 from q1)
        rw [Nat.add_mul, Nat.one_mul] at this
        omega
      · have := Nat.mul_le_mul_right k (show i0 + d.length ≤ i by omega)
        rw [Nat.add_mul] at this
        omega
    · exact h
  have hin : ∀ i j, i < d.length → j < k → w'.cell? (l.at (i0 + i) j) = some (.int .i64 ((ei dl.toArray[i]!)[j]!)) := fun i j hi hj => by
    have hHn : HoldsK (ecM ei) k w' l.block (l.base + i0 * k) dl.toArray := by
      rw [hw2]
      exact holdsK_grow _ _ _ _ _ _ _ (by simpa using hR.lt) (holdsK_putRowK _ _ (Sort.ahead w n) _ _ _ dl.toArray (holdsK_ahead _ _ _ n _ _ _ hH) (by simpa using hp1))
    have := (hHn.cell (i := i) (c := j) (by simpa [hp1] using hi) hj).1
    rw [hat, ← Nat.add_assoc, this, hge dl i j (by omega) hj]
  have hfr : ∀ i j, i < l.cap → j < k → w'.frozen? (l.at i j) = false := fun i j hi hj => by
    rw [c2.frozen _ hR.lt]; exact ((hR.own rfl).2 i j hi hj).2
  refine hM.step hl ho c2 ?_ ?_ rfl (fun q' lq h => by cases q' <;> exact h) (fun q' lq h => by cases q' <;> exact h) ?_
  · rintro a ((h | ⟨⟨h, _⟩, _⟩) | ⟨h, _⟩)
    · exact h.elim
    · rw [h]; exact (hR.own rfl).1
    · exact h.elim
  · rintro a ((h | ⟨⟨h, h', h''⟩, _⟩) | ⟨h, _⟩)
    · exact h.elim
    · refine ⟨h, by omega, ?_⟩
      have := Nat.mul_le_mul_right k (show i0 + d.length ≤ l.cap by omega)
      rw [Nat.add_mul] at this
      rw [hsz]; omega
    · exact h.elim
  · refine ⟨hsz, hpos, by rw [hplen]; exact hlen, Nat.lt_of_lt_of_le hR.lt c2.size, fun _ => ⟨(hR.own rfl).1, fun i j hi hj => ⟨?_, hfr i j hi hj⟩⟩, fun i e he => ?_, fun _ i j b1 b2 b3 => by
      obtain ⟨u, v, b4, b5, b6⟩ := hR.rest rfl i j (by omega) b2 b3
      exact ⟨u, v, b4, b5, by rw [hcell i j b2 b3 (by omega)]; exact b6⟩, fun _ off => by rw [c2.frozen _ hR.lt]; exact hR.cold rfl off⟩
    · by_cases hi2 : i0 ≤ i ∧ i < i0 + d.length
      · have := hin (i - i0) j (by omega) hj
        rw [show i0 + (i - i0) = i by omega] at this
        exact ⟨_, this⟩
      · rw [hcell i j hi hj hi2]; exact ((hR.own rfl).2 i j hi hj).1
    · have hil : i < full.length := by have := (List.getElem?_eq_some_iff.1 he).1; omega
      rw [hpget] at he
      by_cases h5 : i < i0
      · rw [if_pos h5] at he
        obtain ⟨e1, e2⟩ := hR.cells i e he
        refine ⟨e1, fun j v hv => ?_⟩
        obtain ⟨e3, cv, e4, e5⟩ := e2 j v hv
        have hj : j < k := by have := (List.getElem?_eq_some_iff.1 hv).1; omega
        exact ⟨e3, cv, e4, by rw [hcell i j (by omega) hj (by omega)]; exact e5⟩
      · rw [if_neg h5] at he
        by_cases h6 : i < i0 + d.length
        · rw [if_pos h6, List.getElem?_map, toArray_get (show i - i0 < dl.length by omega)] at he
          simp only [Option.map_some, Option.some.injEq] at he
          subst he
          refine ⟨by unfold ecV; rw [List.length_map, hk], fun j v hv => ?_⟩
          unfold ecV at hv
          have hj : j < k := by have := (List.getElem?_eq_some_iff.1 hv).1; rw [List.length_map, hk] at this; exact this
          have hj' : j < (ei dl.toArray[i - i0]!).length := by rw [hk]; exact hj
          rw [List.getElem?_map, List.getElem?_eq_getElem hj'] at hv
          simp only [Option.map_some, Option.some.injEq] at hv
          subst hv
          have := hin (i - i0) j (by omega) hj
          rw [show i0 + (i - i0) = i by omega, getElem!_pos (ei dl.toArray[i - i0]!) j hj'] at this
          exact ⟨rfl, _, by simp only [VR], this⟩
        · rw [if_neg h6] at he
          obtain ⟨e1, e2⟩ := hR.cells i e he
          refine ⟨e1, fun j v hv => ?_⟩
          obtain ⟨e3, cv, e4, e5⟩ := e2 j v hv
          have hj : j < k := by have := (List.getElem?_eq_some_iff.1 hv).1; omega
          exact ⟨e3, cv, e4, by rw [hcell i j (by omega) hj (by omega)]; exact e5⟩

/-- The sort of a slice of one's own that has elements. -/
theorem Ows.sortF {P : Program} {f g : FuncId} (hb : Body P f) (hbg : Body P g) (ei : α → List Int) {k : Nat} (hk : ∀ x, (ei x).length = k) (cf : α → α → Int) (hs : SortsF P f g ei k cf) (hc : ∀ x y : α, ACalls P g [.agg (ecV ei x), .agg (ecV ei y)] Mem.empty (fun r _ => r = .int .i64 (cf x y)))
    {m : Mem} {v : V} {d : List α} (ho : Ows m k v (d.map (ecV ei))) (h3 : d ≠ []) (h4 : d.length < 4611686018427387904) {K : KV}
    (kk : ∀ (d' : List α) m', d'.Perm d → d'.Pairwise (fun x y => ¬ cf y x < 0) → Ows m' k v (d'.map (ecV ei)) → Stp m m' v.fp v.fp → m'.next = m.next → K (.tup []) m') : ACalls P f [v, .fn g [] []] m K := by
  rcases ho.ex with ⟨_, h⟩ | ⟨q, i0, full, c, rfl, h1, h2, h5, h6, h7⟩
  · exact absurd (by simpa using h) h3
  · rw [List.length_map] at h5 h6 h7
    simp only [List.length_map]
    refine sortF_at hb hbg ei hk cf hs hc h2 h5 (fun j x hx => by rw [h6 j (List.getElem?_eq_some_iff.1 hx).1, List.getElem?_map, hx]; rfl) (List.length_pos_iff.2 h3) h4 fun d' hp hpw => ?_
    have hl : d'.length = d.length := hp.length_eq
    refine kk d' _ hp hpw ⟨.inr ⟨q, i0, _, c, by simp [hl], by simpa using h1, by rw [upd_obj, if_pos rfl], ?_, ?_, ?_⟩⟩ (Stp.upd m (by simp [V.fp]) _) rfl
    · have := patch_length full (d'.map (ecV ei)) i0 (by simpa [hl] using h5)
      rw [List.length_map, hl] at this ⊢
      rw [this]; exact h5
    · intro j hj
      rw [List.length_map, hl] at hj
      have := patch_get full (d'.map (ecV ei)) i0 (i0 + j) (by simpa [hl] using h5)
      rw [List.length_map, hl] at this
      rw [this, if_neg (by omega), if_pos (by omega), show i0 + j - i0 = j by omega]
    · intro k' hk'
      have := patch_length full (d'.map (ecV ei)) i0 (by simpa [hl] using h5)
      rw [List.length_map, hl] at this ⊢
      rw [this]; exact h7 k' hk'
end
end Go.AM
