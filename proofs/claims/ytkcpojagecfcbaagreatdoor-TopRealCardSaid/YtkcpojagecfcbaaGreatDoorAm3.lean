/-
  THE ABSTRACT MACHINE AND THE MODEL: rows of cells: read, written, made. No Go program here.
-/
import Derived.Test.YtkcpojagecfcbaaGreatDoorAm2
import Derived.Deep.AppendSrc
namespace Go.AM
open Go
set_option linter.unusedVariables false
theorem add_eq (b o q : Nat) : (⟨b, o, none⟩ : Addr).add q = ⟨b, o + q, none⟩ := by
  unfold Addr.add; split <;> simp_all
theorem at_add (l : Loc) (i j q : Nat) : (l.at i j).add q = l.at i (j + q) := by
  simp only [Loc.at, add_eq]; congr 1; omega
theorem at_row (l : Loc) (i q : Nat) : (l.at i 0).add (q * l.sz) = l.at (i + q) 0 := by
  simp only [Loc.at, add_eq, Nat.add_mul]; congr 1; omega
theorem flatten_get {α : Type} : ∀ {es : List (List α)} {sz : Nat} (h : ∀ e ∈ es, e.length = sz) (i j : Nat) (e : List α) (v : α), es[i]? = some e → e[j]? = some v → es.flatten[i * sz + j]? = some v
  | [], sz, h, i, j, e, v, hi, hj => by simp at hi
  | e0 :: es, sz, h, 0, j, e, v, hi, hj => by
    simp at hi; subst hi
    have : j < e0.length := (List.getElem?_eq_some_iff.1 hj).1
    simp [List.getElem?_append_left this, hj]
  | e0 :: es, sz, h, i + 1, j, e, v, hi, hj => by
    have h0 := h e0 (by simp)
    have := flatten_get (es := es) (sz := sz) (fun e' he => h e' (by simp [he])) i j e v (by simpa using hi) hj
    rw [List.flatten_cons, List.getElem?_append_right (by rw [h0, Nat.add_mul]; omega), h0]
    rw [show (i + 1) * sz + j - sz = i * sz + j by rw [Nat.add_mul]; omega]
    exact this
theorem seg_succ {α : Type} (es : List α) (i n : Nat) (h : i < es.length) : (es.drop i).take (n + 1) = es[i] :: (es.drop (i + 1)).take n := by
  rw [List.drop_eq_getElem_cons h, List.take_succ_cons]
/-- Some cells of one element. -/
theorem RowR.part {base : Nat} {β : Pl} {w : World} {l : Loc} {sz : Nat} {es : List (List V)} {rw : Bool} (h : RowR base β w l sz es rw) {i : Nat} {e : List V} (he : es[i]? = some e) :
    ∀ (n j : Nat), j + n ≤ e.length → ∃ cvs, VRs β ((e.drop j).take n) cvs ∧ cvs.length = n ∧ (∀ q v, cvs[q]? = some v → w.cell? (l.at i (j + q)) = some v) ∧ ∀ v ∈ cvs, v.oneCell' = true
  | 0, j, _ => ⟨[], by simp [VRs], rfl, by simp, by simp⟩
  | n + 1, j, hj => by
    obtain ⟨cvs, h1, h2, h3, h4⟩ := h.part he n (j + 1) (by omega)
    obtain ⟨hc, cv, h5, h6⟩ := (h.cells i e he).2 j e[j] (by simp)
    refine ⟨cv :: cvs, ?_, by simp [h2], ?_, ?_⟩
    · rw [seg_succ e j n (by omega)]; simp only [VRs]; exact ⟨cv, cvs, rfl, h5, h1⟩
    · intro q v hq
      cases q with
      | zero => simp at hq; subst hq; exact h6
      | succ q => simp at hq; have := h3 q v hq; rwa [show j + (q + 1) = j + 1 + q by omega]
    · intro v hv
      rcases List.mem_cons.1 hv with rfl | hv
      · exact h5.oneCell hc
      · exact h4 v hv
/-- Some elements. -/
theorem RowR.seg {base : Nat} {β : Pl} {w : World} {l : Loc} {sz : Nat} {es : List (List V)} {rw : Bool} (h : RowR base β w l sz es rw) :
    ∀ (n i : Nat), i + n ≤ es.length → ∃ cvs, VRs β ((es.drop i).take n).flatten cvs ∧ cvs.length = n * sz ∧ (∀ q v, cvs[q]? = some v → w.cell? ((l.at i 0).add q) = some v) ∧ ∀ v ∈ cvs, v.oneCell' = true
  | 0, i, _ => ⟨[], by simp [VRs], by simp, by simp, by simp⟩
  | n + 1, i, hi => by
    obtain ⟨cvs, h1, h2, h3, h4⟩ := h.seg n (i + 1) (by omega)
    have he : es[i]? = some es[i] := by simp
    have hlen := (h.cells i _ he).1
    obtain ⟨cs, g1, g2, g3, g4⟩ := h.part he sz 0 (by omega)
    refine ⟨cs ++ cvs, ?_, by simp [g2, h2, Nat.add_mul]; omega, ?_, ?_⟩
    · rw [seg_succ es i n (by omega), List.flatten_cons]
      refine VRs.append ?_ h1
      have : (List.drop 0 es[i]).take sz = es[i] := by rw [List.drop_zero, List.take_of_length_le (by omega)]
      rwa [this] at g1
    · intro q v hq
      by_cases hlt : q < sz
      · rw [List.getElem?_append_left (by omega)] at hq
        have := g3 q v hq
        rw [at_add]; exact this
      · rw [List.getElem?_append_right (by omega), g2] at hq
        have := h3 _ v hq
        rw [at_add] at this ⊢
        rw [show l.at i (0 + q) = l.at (i + 1) (0 + (q - sz)) by simp only [Loc.at, h.szeq, Nat.add_mul]; congr 1; omega]
        exact this
    · intro v hv
      rcases List.mem_append.1 hv with hv | hv
      · exact g4 v hv
      · exact h4 v hv
theorem VRs.get' {β : Pl} {xs : List V} {vs : List Value} (h : VRs β xs vs) {i : Nat} {x : V} {v : Value} (hx : xs[i]? = some x) (hv : vs[i]? = some v) : VR β x v := by
  obtain ⟨v', h1, h2⟩ := h.get i x hx
  rw [hv] at h1; injection h1 with h1; subst h1; exact h2
/-- A row in a new block. -/
theorem RowR.fresh {base : Nat} {β : Pl} {w : World} {sz cap : Nat} {es : List (List V)} {cvs : List Value} {C : Array Value} {t : TypeId} (hb : base ≤ w.heap.size) (hpos : 0 < sz) (hes : ∀ e ∈ es, e.length = sz) (hcell : ∀ e ∈ es, ∀ v ∈ e, v.isCell = true)
    (hv : VRs β es.flatten cvs) (hC : ∀ (q : Nat) (v : Value), cvs[q]? = some v → C[q]? = some v) (hsize : cap * sz ≤ C.size) (hlen : es.length ≤ cap) (hrest : ∀ i j, es.length ≤ i → i < cap → j < sz → ∃ u v, u.isCell = true ∧ (∀ β', VR β' u v) ∧ C[i * sz + j]? = some v) :
    RowR base β (w.alloc (.cells C t)) ⟨w.heap.size, 0, sz, cap⟩ sz es true := by
  refine ⟨rfl, hpos, hlen, by simp, fun _ => ⟨hb, fun i j hi hj => ⟨?_, ?_⟩⟩, fun i e he => ⟨hes e (List.mem_of_getElem? he), fun j v hj => ⟨hcell e (List.mem_of_getElem? he) v (List.mem_of_getElem? hj), ?_⟩⟩, fun _ i j h1 h2 h3 => ?_, fun _ off => World.frozen?_alloc_new _ _ _ _⟩
  · have : (i + 1) * sz ≤ cap * sz := Nat.mul_le_mul_right _ hi
    rw [Nat.add_mul] at this
    simp only [Loc.at, Nat.zero_add, World.cell?_alloc_new]
    exact ⟨C[i * sz + j]'(by omega), by simp⟩
  · simp only [Loc.at]; exact World.frozen?_alloc_new _ _ _ _
  · have h1 := flatten_get hes i j e v he hj
    obtain ⟨cv, h2, h3⟩ := hv.get _ _ h1
    refine ⟨cv, h3, ?_⟩
    simp only [Loc.at, Nat.zero_add, World.cell?_alloc_new]
    exact hC _ _ h2
  · obtain ⟨u, v, a1, a2, a3⟩ := hrest i j h1 h2 h3
    refine ⟨u, v, a1, a2, ?_⟩
    simp only [Loc.at, Nat.zero_add, World.cell?_alloc_new]
    exact a3
theorem Chg.setCells {w : World} {b o : Nat} {vs : List Value} : Chg w (w.setCells b o vs) (fun a => a.block = b ∧ o ≤ a.off ∧ a.off < o + vs.length) := by
  induction vs generalizing o w with
  | nil => exact Chg.refl _ _
  | cons v vs ih =>
    have h1 : Chg w (w.setCell ⟨b, o, none⟩ v) (fun a => a.block = b ∧ o ≤ a.off ∧ a.off < o + 1) := by
      refine ⟨rfl, rfl, rfl, by simp, fun a _ hn => World.cell?_setCell_other _ _ _ _ (fun e => hn (by subst e; exact ⟨rfl, Nat.le_refl _, by simp⟩)), fun a _ => World.frozen?_setCell _ _ _ _, fun k _ hk => ?_, Nat.le_refl _⟩
      exact RowKit.Below.heap_setCell _ _ _ _ (fun e => hk ⟨b, o, none⟩ ⟨rfl, Nat.le_refl _, by simp⟩ e.symm)
    have h2 := h1.trans (ih (w := w.setCell ⟨b, o, none⟩ v) (o := o + 1))
    rw [World.setCells]
    refine ⟨h2.os, h2.tape, h2.output, h2.size, fun a ha hn => h2.cell a ha (fun s => hn ?_), h2.frozen, fun k hk hn => h2.block k hk (fun a s => hn a ?_), h2.drawn⟩
    · simp only [List.length_cons]; rcases s with s | ⟨s, _⟩ <;> omega
    · simp only [List.length_cons]; rcases s with s | ⟨s, _⟩ <;> omega
/-- A row some of whose cells have been written. -/
theorem RowR.write {base : Nat} {β : Pl} {w : World} {l : Loc} {sz : Nat} {es es' : List (List V)} (h : RowR base β w l sz es true) {o : Nat} {cvs : List Value} (hle : es'.length ≤ l.cap) (hfit : o + cvs.length ≤ l.cap * sz)
    (hge : es.length ≤ es'.length) (hout : o + cvs.length ≤ es'.length * sz)
    (hnew : ∀ i e, es'[i]? = some e → e.length = sz ∧ ∀ j v, e[j]? = some v → v.isCell = true ∧ ((∃ q cv, i * sz + j = o + q ∧ cvs[q]? = some cv ∧ VR β v cv) ∨ ((i * sz + j < o ∨ o + cvs.length ≤ i * sz + j) ∧ ∃ e0, es[i]? = some e0 ∧ e0[j]? = some v))) :
    RowR base β (w.setCells l.block (l.base + o) cvs) l sz es' true := by
  have hs := h.szeq
  have hcells : ∀ j, j < cvs.length → (w.cell? ⟨l.block, l.base + o + j, none⟩).isSome = true := by
    intro j hj
    have hi : (o + j) / sz < l.cap := Nat.div_lt_of_lt_mul (by rw [Nat.mul_comm]; omega)
    have hj' : (o + j) % sz < sz := Nat.mod_lt _ h.pos
    obtain ⟨v, hv⟩ := ((h.own rfl).2 _ _ hi hj').1
    have e : l.at ((o + j) / sz) ((o + j) % sz) = ⟨l.block, l.base + o + j, none⟩ := by
      have := Nat.div_add_mod (o + j) sz
      simp only [Loc.at, hs]; congr 1; rw [Nat.mul_comm] at this; omega
    rw [e] at hv; simp [hv]
  have hc := Chg.setCells (w := w) (b := l.block) (o := l.base + o) (vs := cvs)
  refine ⟨hs, h.pos, hle, Nat.lt_of_lt_of_le h.lt hc.size, fun _ => ⟨(h.own rfl).1, fun i j hi hj => ⟨?_, ?_⟩⟩, fun i e he => ⟨(hnew i e he).1, fun j v hj => ?_⟩, fun _ i j h1 h2 h3 => ?_, fun _ off => by rw [hc.frozen _ h.lt]; exact h.cold rfl off⟩
  · by_cases hin : o ≤ i * sz + j ∧ i * sz + j < o + cvs.length
    · have := World.cell?_setCells_in l.block cvs (l.base + o) w hcells (i * sz + j - o) (by omega)
      refine ⟨cvs[i * sz + j - o]'(by omega), ?_⟩
      rw [show l.at i j = ⟨l.block, l.base + o + (i * sz + j - o), none⟩ by simp only [Loc.at, hs]; congr 1; omega]; exact this
    · rw [hc.cell _ h.lt (fun s => hin (by simp only [Loc.at, hs] at s; omega))]
      exact ((h.own rfl).2 i j hi hj).1
  · rw [hc.frozen _ h.lt]; exact ((h.own rfl).2 i j hi hj).2
  · obtain ⟨h1, h2⟩ := (hnew i e he).2 j v hj
    refine ⟨h1, ?_⟩
    rcases h2 with ⟨q, cv, h3, h4, h5⟩ | ⟨h3, e0, h4, h5⟩
    · have hq : q < cvs.length := (List.getElem?_eq_some_iff.1 h4).1
      have := World.cell?_setCells_in l.block cvs (l.base + o) w hcells q hq
      refine ⟨cv, h5, ?_⟩
      rw [show l.at i j = ⟨l.block, l.base + o + q, none⟩ by simp only [Loc.at, hs]; congr 1; omega, this]
      rw [← h4]; simp [hq]
    · obtain ⟨_, cv, h6, h7⟩ := (h.cells i e0 h4).2 j v h5
      refine ⟨cv, h6, ?_⟩
      rw [hc.cell _ h.lt (fun s => by simp only [Loc.at, hs] at s; omega)]
      exact h7
  · obtain ⟨u, v, a1, a2, a3⟩ := h.rest rfl i j (by omega) h2 h3
    refine ⟨u, v, a1, a2, ?_⟩
    have : es'.length * sz ≤ i * sz := Nat.mul_le_mul_right _ h1
    rw [hc.cell _ h.lt (fun s => by simp only [Loc.at, hs] at s; omega)]
    exact a3
/-! ### an operation's run -/
/-- A run that hands back a value. -/
def Gives (P : Program) (s : Sem Value) (w : World) (R : Value → World → Prop) : Prop := ∃ v w', s.run P w = .ok v w' ∧ R v w'
/-- What is asked behind an operation: value and memory stand for those of the plain machine. -/
def Post (base : Nat) (w0 : World) (β : Pl) (K : KV) : Value → World → Prop :=
  fun v w' => ∃ β' r m', Pl.le β β' ∧ VR β' r v ∧ MR base w0 β' m' w' ∧ K r m'
theorem Gives.pure {P : Program} {v : Value} {w : World} {R : Value → World → Prop} (h : R v w) : Gives P (Pure.pure v) w R := ⟨v, w, rfl, h⟩
theorem Gives.of_run {P : Program} {s : Sem Value} {w : World} {R : Value → World → Prop} {v : Value} {w' : World} (h : s.run P w = .ok v w') (k : R v w') : Gives P s w R := ⟨v, w', h, k⟩
section
variable {P : Program} {base : Nat} {w0 : World} {β : Pl} {m : Mem} {w : World} {K : KV}
theorem Post.same {r : V} {v : Value} (hM : MR base w0 β m w) (h : VR β r v) (k : K r m) : Post base w0 β K v w := ⟨β, r, m, Pl.le_refl _, h, hM, k⟩
def aggD : TypeDesc → Bool
  | .struct _ | .array _ _ => true
  | _ => false
theorem run_isAgg' {t : TypeId} {d : TypeDesc} (h : P.underlying t = some d) (w : World) : (isAgg t).run P w = .ok (aggD d) w := by
  unfold isAgg
  simp only [Sem.run_bind, run_underlying h, Result.andThen_ok]
  cases d <;> rfl
theorem run_sizeOf' {t : TypeId} {i : TypeInfo} (h : P.info? t = some i) (w : World) : (sizeOf t).run P w = .ok i.size w := by
  simp [sizeOf, typeInfo, h]
theorem run_zeroValue' {t : TypeId} {i : TypeInfo} {z : Value} (h : P.info? t = some i) (hz : i.zero = some z) (w : World) : (zeroValue t).run P w = .ok z w := by
  simp [zeroValue, typeInfo, h, hz]
theorem Mem.elt_eq {m : Mem} {r i : Nat} {cs : List V} (h : m.elt r i = some cs) : ∃ sz es rw, m.obj r = some (.row sz es rw) ∧ es[i]? = some cs := by
  unfold Mem.elt at h
  split at h
  · rename_i sz es rw ho; exact ⟨sz, es, rw, ho, h⟩
  · cases h
/-- A load. -/
theorem gives_load {t : TypeId} {d : TypeDesc} {i : TypeInfo} (hd : P.underlying t = some d) (hi : P.info? t = some i) (hM : MR base w0 β m w) {x : V} {v : Value} (hx : VR β x v)
    {r i0 j : Nat} (e : x = .ptr (some (r, i0, j))) {cs : List V} (hc : m.elt r i0 = some cs) (hk : opt (partV (aggD d) cs j i.size) m K) : Gives P (Instr.loadAt t v) w (Post base w0 β K) := by
  subst e
  simp only [VR] at hx
  obtain ⟨l, hl, rfl⟩ := hx
  obtain ⟨sz, es, rw, ho, hes⟩ := Mem.elt_eq hc
  have hrow : RowR base β w l sz es rw := hM.objs r l _ hl ho
  unfold opt at hk
  split at hk
  · rename_i u hu
    simp only [partV] at hu
    cases ha : aggD d with
    | true =>
      rw [ha] at hu; simp only [if_true] at hu
      split at hu
      · rename_i hle; injection hu with hu; subst hu
        obtain ⟨cvs, h1, h2, h3, h4⟩ := hrow.part hes i.size j hle
        refine Gives.of_run (v := .agg cvs.toArray) (w' := w) ?_ (Post.same hM (by simp only [VR]; exact ⟨_, rfl, by simpa using h1⟩) hk)
        have hlc := run_loadCells_list (P := P) w (l.at i0 j) cvs (fun q v hq => by rw [at_add]; exact h3 q v hq)
        rw [h2] at hlc
        simp only [Instr.loadAt, Instr.sureAddr, loadVar, Sem.run_bind, Sem.run_pure, Result.andThen_ok, run_isAgg' hd, ha, if_true, run_sizeOf' hi, hlc]
      · cases hu
    | false =>
      rw [ha] at hu; simp only [Bool.false_eq_true, if_false] at hu
      obtain ⟨_, cv, h1, h2⟩ := (hrow.cells i0 cs hes).2 j u hu
      refine Gives.of_run (v := cv) (w' := w) ?_ (Post.same hM h1 hk)
      simp only [Instr.loadAt, Instr.sureAddr, loadVar, Sem.run_bind, Sem.run_pure, Result.andThen_ok, run_isAgg' hd, ha, Bool.false_eq_true, if_false, run_load, h2]
  · exact hk.elim
theorem apart_row {sz sz' : Nat} {es es' : List (List V)} {rw rw' : Bool} (q : Obj) (l lq : Loc) : (Apart (.row sz es rw) q l lq → Apart (.row sz' es' rw') q l lq) ∧ (Apart q (.row sz es rw) lq l → Apart q (.row sz' es' rw') lq l) := by
  cases q <;> simp [Apart]
theorem splice_length {e : List V} {j : Nat} {cs : List V} (h : j + cs.length ≤ e.length) : (splice e j cs).length = e.length := by
  simp [splice]; omega
theorem splice_get {e : List V} {j : Nat} {cs : List V} (h : j + cs.length ≤ e.length) (q : Nat) : (splice e j cs)[q]? = if q < j then e[q]? else if q < j + cs.length then cs[q - j]? else e[q]? := by
  unfold splice
  by_cases h1 : q < j
  · rw [if_pos h1, List.append_assoc, List.getElem?_append_left (by simp; omega)]; simp [h1]
  · rw [if_neg h1]
    by_cases h2 : q < j + cs.length
    · rw [if_pos h2, List.append_assoc, List.getElem?_append_right (by simp; omega), List.getElem?_append_left (by simp; omega)]; simp; congr 1; omega
    · rw [if_neg h2, List.getElem?_append_right (by simp; omega)]; simp; congr 1; omega
/-- Cells of a row of one's own are written. -/
theorem step_write {r : Nat} {l : Loc} {sz : Nat} {es es' : List (List V)} (hM : MR base w0 β m w) (hl : β r = some l) (ho : m.obj r = some (.row sz es true)) {o : Nat} {cvs : List Value} (hle : es'.length ≤ l.cap) (hfit : o + cvs.length ≤ l.cap * sz)
    (hge : es.length ≤ es'.length) (hout : o + cvs.length ≤ es'.length * sz)
    (hnew : ∀ i e, es'[i]? = some e → e.length = sz ∧ ∀ j v, e[j]? = some v → v.isCell = true ∧ ((∃ q cv, i * sz + j = o + q ∧ cvs[q]? = some cv ∧ VR β v cv) ∨ ((i * sz + j < o ∨ o + cvs.length ≤ i * sz + j) ∧ ∃ e0, es[i]? = some e0 ∧ e0[j]? = some v))) :
    MR base w0 β (m.upd r (some (.row sz es' true))) (w.setCells l.block (l.base + o) cvs) := by
  have hrow : RowR base β w l sz es true := hM.objs r l _ hl ho
  refine hM.step hl ho Chg.setCells (fun a s => by rw [s.1]; exact (hrow.own rfl).1) (fun a s => ⟨s.1, by omega, by rw [hrow.szeq]; omega⟩) rfl (fun q lq => (apart_row q l lq).1) (fun q lq => (apart_row q l lq).2) (hrow.write hle hfit hge hout hnew)
theorem storable {r : Nat} {l : Loc} {sz : Nat} {es : List (List V)} (hM : MR base w0 β m w) (hl : β r = some l) (ho : m.obj r = some (.row sz es true)) {o n : Nat} (hfit : o + n ≤ l.cap * sz) :
    (∀ j, j < n → (w.cell? ⟨l.block, l.base + o + j, none⟩).isSome = true) ∧ (∀ j, j < n → w.frozen? ⟨l.block, l.base + o + j, none⟩ = false) := by
  have h : RowR base β w l sz es true := hM.objs r l _ hl ho
  have key : ∀ j, j < n → (o + j) / sz < l.cap ∧ (o + j) % sz < sz ∧ l.at ((o + j) / sz) ((o + j) % sz) = ⟨l.block, l.base + o + j, none⟩ := by
    intro j hj
    have := Nat.div_add_mod (o + j) sz
    refine ⟨Nat.div_lt_of_lt_mul (by rw [Nat.mul_comm]; omega), Nat.mod_lt _ h.pos, ?_⟩
    simp only [Loc.at, h.szeq]; congr 1; rw [Nat.mul_comm] at this; omega
  constructor <;> intro j hj <;> obtain ⟨h1, h2, h3⟩ := key j hj
  · obtain ⟨v, hv⟩ := ((h.own rfl).2 _ _ h1 h2).1
    rw [h3] at hv; simp [hv]
  · have := ((h.own rfl).2 _ _ h1 h2).2
    rwa [h3] at this
theorem lt_cap_mul {l : Loc} {sz i j n : Nat} (hi : i < l.cap) (hj : j + n ≤ sz) : i * sz + j + n ≤ l.cap * sz := by
  have : (i + 1) * sz ≤ l.cap * sz := Nat.mul_le_mul_right _ hi
  rw [Nat.add_mul] at this; omega
/-- A store. -/
theorem run_store_am {t : TypeId} {i : TypeInfo} (hi : P.info? t = some i) (hM : MR base w0 β m w) {r i0 j : Nat} {v y' : Value} {y : V} (hx : VR β (.ptr (some (r, i0, j))) v) (hy : VR β y y')
    {sz : Nat} {es : List (List V)} {cs : List V} (ho : m.obj r = some (.row sz es true)) (hcs : es[i0]? = some cs) (hn : y.cells.length = i.size) (hj : j + i.size ≤ cs.length) (hall : y.cells.all V.isCell = true) :
    ∃ w', (Instr.storeAt t v y').run P w = .ok () w' ∧ MR base w0 β (m.upd r (some (.row sz (es.set i0 (splice cs j y.cells)) true))) w' := by
  simp only [VR] at hx
  obtain ⟨l, hl, rfl⟩ := hx
  have hrow : RowR base β w l sz es true := hM.objs r l _ hl ho
  have hlen := (hrow.cells i0 cs hcs).1
  have hi0 : i0 < es.length := (List.getElem?_eq_some_iff.1 hcs).1
  have hyc := hy.cells hall
  have hsz0 : y.cells.length = y'.cells.toList.length := hyc.length
  have hsz1 : y'.cells.toList.length = y'.cells.size := Array.length_toList
  have hsz : y'.cells.size = i.size := by rw [← hsz1, ← hsz0]; exact hn
  have hsz' : y'.cells.toList.length = i.size := by rw [Array.length_toList]; exact hsz
  have hfit := lt_cap_mul (l := l) (sz := sz) (i := i0) (j := j) (n := y'.cells.toList.length) (Nat.lt_of_lt_of_le hi0 hrow.len) (by omega)
  obtain ⟨g1, g2⟩ := storable hM hl ho hfit
  have hone : ∀ u ∈ y'.cells.toList, u.oneCell' = true := by
    intro u hu
    obtain ⟨q, hq⟩ := List.getElem?_of_mem hu
    have hql : q < y.cells.length := by rw [hyc.length]; exact (List.getElem?_eq_some_iff.1 hq).1
    have hx : y.cells[q]? = some y.cells[q] := by simp
    exact (hyc.get' hx hq).oneCell (by rw [List.all_eq_true] at hall; exact hall _ (List.getElem_mem _))
  have hrun := run_storeCells_cells (P := P) l.block (l.base + (i0 * sz + j)) y'.cells.toList 0 w (by simpa using g1) (by simpa using g2) hone
  refine ⟨w.setCells l.block (l.base + (i0 * sz + j)) y'.cells.toList, ?_, ?_⟩
  · simp only [Nat.add_zero] at hrun
    have ha : l.at i0 j = ⟨l.block, l.base + (i0 * sz + j), none⟩ := by simp only [Loc.at, hrow.szeq]; congr 1; omega
    simp only [Instr.storeAt, Instr.sureAddr, storeVar, Sem.run_bind, Sem.run_pure, Result.andThen_ok, run_sizeOf' hi, hsz, ne_eq, not_true, if_false, ha, hrun]
  · have hout : i0 * sz + j + y'.cells.toList.length ≤ es.length * sz := by
      have h1 : (i0 + 1) * sz ≤ es.length * sz := Nat.mul_le_mul_right _ hi0
      rw [Nat.add_mul] at h1
      have h2 := hyc.length
      omega
    refine step_write hM hl ho (by simp; exact hrow.len) (by omega) (by simp) (by rw [List.length_set]; exact hout) (fun i1 e he => ?_)
    have hylen : y.cells.length = y'.cells.toList.length := hyc.length
    by_cases h1 : i1 = i0
    · subst h1
      rw [List.getElem?_set_self hi0] at he; injection he with he; subst he
      have hsl : j + y.cells.length ≤ cs.length := by omega
      refine ⟨by rw [splice_length hsl]; exact hlen, fun q v hq => ?_⟩
      rw [splice_get hsl] at hq
      by_cases h2 : q < j
      · rw [if_pos h2] at hq
        exact ⟨((hrow.cells i1 cs hcs).2 q v hq).1, .inr ⟨by omega, cs, hcs, hq⟩⟩
      · rw [if_neg h2] at hq
        by_cases h3 : q < j + y.cells.length
        · rw [if_pos h3] at hq
          obtain ⟨cv, h4, h5⟩ := hyc.get _ _ hq
          refine ⟨by rw [List.all_eq_true] at hall; exact hall _ (List.mem_of_getElem? hq), .inl ⟨q - j, cv, by omega, h4, h5⟩⟩
        · rw [if_neg h3] at hq
          exact ⟨((hrow.cells i1 cs hcs).2 q v hq).1, .inr ⟨by omega, cs, hcs, hq⟩⟩
    · rw [List.getElem?_set_ne (Ne.symm h1)] at he
      obtain ⟨h2, h3⟩ := hrow.cells i1 e he
      refine ⟨h2, fun q v hq => ⟨(h3 q v hq).1, .inr ⟨?_, e, he, hq⟩⟩⟩
      have hq' : q < sz := by have := (List.getElem?_eq_some_iff.1 hq).1; omega
      have hlen' : y'.cells.toList.length = i.size := by rw [Array.length_toList]; exact hsz
      rcases Nat.lt_trichotomy i1 i0 with hlt | heq | hgt
      · have : (i1 + 1) * sz ≤ i0 * sz := Nat.mul_le_mul_right _ hlt
        rw [Nat.add_mul] at this; omega
      · exact absurd heq h1
      · have : (i0 + 1) * sz ≤ i1 * sz := Nat.mul_le_mul_right _ hgt
        rw [Nat.add_mul] at this; omega
/-- A new variable. -/
theorem newVar_am {t : TypeId} (hM : MR base w0 β m w) {x : V} {v : Value} (hx : VRs β x.cells v.cells.toList) (hall : x.cells.all V.isCell = true) (hpos : 0 < x.cells.length) :
    ∃ a w' β', (newVar t v).run P w = .ok a w' ∧ Pl.le β β' ∧ VR β' (.ptr (some (m.next, 0, 0))) (.pointer (some a)) ∧ MR base w0 β' (m.new (.row x.cells.length [x.cells] true)) w' := by
  have hlen := hx.length
  obtain ⟨β', h1, h2, h3⟩ := hM.alloc (l := ⟨w.heap.size, 0, x.cells.length, 1⟩) (o := .row x.cells.length [x.cells] true) (.cells v.cells t) rfl (fun β' hle =>
    RowR.fresh (cvs := v.cells.toList) hM.le hpos (by simp) (by simpa using hall) (by simpa using VRs.mono hle _ _ hx) (fun q u hq => by simpa using hq) (by rw [hlen, Array.length_toList]; omega) (by simp) (fun i j h1 h2 h3 => by simp at h1; omega))
  exact ⟨⟨w.heap.size, 0, none⟩, _, β', by simp [newVar, newRow], h2, by simp only [VR]; exact ⟨_, h3, by simp [Loc.at]⟩, h1⟩
end
end Go.AM
