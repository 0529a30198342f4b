/-
  THE ABSTRACT MACHINE AND THE MODEL: copy, clear, make, places in structs and slices, maps. No Go program here.
-/
import Derived.Test.YtkcpojagecfcbaaGreatDoorAm5
namespace Go.AM
open Go
set_option linter.unusedVariables false
section
variable {P : Program} {base : Nat} {w0 : World} {β : Pl} {m : Mem} {w : World} {K : KV}
theorem gives_copy {dT sT ty e : TypeId} {i : TypeInfo} (ht : P.underlying dT = some (.slice e)) (hi : P.info? e = some i) (hpos : 0 < i.size)
    (hM : MR base w0 β m w) {d x : V} {d' x' : Value} (hd : VR β d d') (hx : VR β x x') {es : List (List V)} (hes : eltsOf i.size m x = some es)
    (hk : copyX i.size m d es K) : Gives P (Builtin.copy_ #[dT, sT] ty #[d', x']) w (Post base w0 β K) := by
  obtain ⟨cvs, nn, hv, rfl, hcl, he, hone, hlen, hfirst, -⟩ := elts_sound (P := P) hM hx hes hpos
  unfold copyX at hk
  cases d <;> (try dsimp only at hk) <;> try (exact hk.elim)
  rename_i a n c
  rcases a with _ | ⟨r, i0, zz⟩
  · try dsimp only at hk
    simp only [VR] at hd; obtain ⟨rfl, rfl, rfl⟩ := hd
    refine Gives.of_run (v := .int .i64 0) (w' := w) ?_ (Post.same hM (by simp [VR]) hk)
    -- the first 0 cells
    have hf0 : (Builtin.firstCells i.size 0 x').run P w = .ok #[] w := by
      cases x <;> simp only [eltsOf] at hes <;> first | (cases hes; done) | skip
      · simp only [VR] at hx; subst hx; simp [Builtin.firstCells]
      · rename_i a n c
        rcases a with _ | ⟨r, i, zz⟩
        · simp only [VR] at hx; obtain ⟨_, _, rfl⟩ := hx; simp [Builtin.firstCells]
        · obtain ⟨L, A, cap, g1, rfl, g3, g4, g5⟩ := cap_of_VR hx
          simp [Builtin.firstCells, loadCells, loadCellsFrom]
    simp [Builtin.copy_, run_underlying ht, run_sizeOf' hi, hlen, hf0, goInt, Nat.min]
  · try dsimp only at hk
    obtain ⟨L, A, cap, g1, rfl, g3, g4, g5⟩ := cap_of_VR hd
    split at hk
    · rename_i sz' old ho
      split at hk
      · rename_i hc
        obtain ⟨rfl, hle⟩ := hc
        have hrow : RowR base β w L i.size old true := hM.objs r L _ g1 ho
        generalize hq : Nat.min es.length n = q at hk hle
        have hq1 : q ≤ es.length := by rw [← hq]; exact Nat.min_le_left _ _
        have hq2 : q ≤ n := by rw [← hq]; exact Nat.min_le_right _ _
        have hflat : (es.take q).flatten = es.flatten.take (q * i.size) := by
          have : ∀ (l : List (List V)) (k : Nat), (∀ e ∈ l, e.length = i.size) → (l.take k).flatten = l.flatten.take (k * i.size) := by
            intro l
            induction l with
            | nil => intro k _; simp
            | cons e l ih =>
              intro k hl
              cases k with
              | zero => simp
              | succ k =>
                have h0 := hl e (by simp)
                simp only [List.take_succ_cons, List.flatten_cons]
                rw [ih k (fun e' he' => hl e' (by simp [he'])), show (k + 1) * i.size = e.length + k * i.size by rw [h0, Nat.add_mul]; omega, List.take_length_add_append]
          exact this es q (fun e' he' => (he e' he').1)
        have hv' : VRs β (es.take q).flatten (cvs.take (q * i.size)) := by rw [hflat]; exact VRs.take _ hv
        have hcl' : (cvs.take (q * i.size)).length = (es.take q).length * i.size := by
          simp only [List.length_take]
          have : q * i.size ≤ es.length * i.size := Nat.mul_le_mul_right _ hq1
          rw [Nat.min_eq_left hq1]; omega
        have hf : (Builtin.firstCells i.size q x').run P w = .ok (cvs.take (q * i.size)).toArray w := by
          cases x <;> simp only [eltsOf] at hes <;> first | (cases hes; done) | skip
          · rename_i s
            split at hes
            · rename_i h1
              simp only [VR] at hx; subst hx
              have := hfirst w (fun _ _ => rfl)
              simp only [Builtin.firstCells, Sem.run_pure] at this ⊢
              congr 1
              injection this with this
              rw [h1, Nat.mul_one]
              have hcv : cvs.toArray = ((s.extract 0 es.length).data.map fun b => Value.int .u8 b.toNat) := this.symm
              have hcv2 : cvs = ((s.extract 0 es.length).data.map fun b => Value.int .u8 b.toNat).toList := by rw [← hcv]
              rw [hcv2]
              apply Array.ext'
              simp [List.take_take, Nat.min_eq_left hq1]
            · cases hes
          · rename_i a n2 c2
            rcases a with _ | ⟨r2, i2, zz2⟩
            · simp only [VR] at hx; obtain ⟨_, _, rfl⟩ := hx
              simp only [Option.some.injEq] at hes; subst hes
              have : cvs = [] := List.eq_nil_of_length_eq_zero (by simpa using hcl)
              subst this; simp [Builtin.firstCells]
            · obtain ⟨L2, A2, cap2, k1, rfl, k3, k4, k5⟩ := cap_of_VR hx
              dsimp only at hes
              split at hes
              · rename_i hn0
                simp only [Option.some.injEq] at hes; subst hes
                have : cvs = [] := List.eq_nil_of_length_eq_zero (by simpa using hcl)
                subst this
                have : q = 0 := by simpa using hq1
                subst this
                simp [Builtin.firstCells, loadCells, loadCellsFrom]
              · rename_i hn0
                unfold Mem.elts at hes
                split at hes
                · rename_i sz2 es2 rw2 ho2
                  split at hes
                  · rename_i hc2
                    obtain ⟨hsz2, hle2⟩ := hc2
                    simp only [Option.some.injEq] at hes
                    have hrow2 : RowR base β w L2 sz2 es2 rw2 := hM.objs r2 L2 _ k1 ho2
                    have hA2 : A2 = L2.at i2 0 := k5 (by omega)
                    subst hA2
                    have hqn : q ≤ n2 := by have : es.length ≤ n2 := by rw [← hes]; simp; omega
                                            omega
                    refine run_firstCells_some w i.size q (L2.at i2 0) n2 cap2 _ (by rw [hcl', List.length_take, Nat.min_eq_left hq1]) (fun j v hj => ?_)
                    obtain ⟨cvs2, c1, c2, c3, c4⟩ := hrow2.seg n2 i2 hle2
                    -- the cells are those
                    have hall := hfirst w (fun _ _ => rfl)
                    have h2 := run_firstCells_some (P := P) w sz2 n2 (L2.at i2 0) n2 cap2 cvs2 c2 c3
                    have hel : es.length = n2 := by rw [← hes]; simp; omega
                    rw [hel] at hall
                    rw [← hsz2] at hall
                    rw [hall] at h2
                    injection h2 with h2
                    have : cvs = cvs2 := by simpa using h2
                    subst this
                    rw [List.getElem?_take] at hj
                    split at hj
                    · exact c3 j v hj
                    · cases hj
                  · cases hes
                · cases hes
        have hstep := write_elts (new := es.take q) hM g1 ho (o := i0) (by simp; omega) (fun e' he' => he e' (List.mem_of_mem_take he')) hv' hcl'
        have hlq : (es.take q).length = q := by simp; omega
        rw [hlq] at hstep
        by_cases hq0 : q = 0
        · subst hq0
          have h0 : (cvs.take (0 * i.size)) = [] := by simp
          rw [h0] at hf hstep
          refine ⟨goInt 0, w, ?_, β, _, _, Pl.le_refl _, ?_, hstep, hk⟩
          · have hst0 : ∀ a : Addr, (storeCells a []).run P w = .ok () w := fun _ => rfl
            simp [Builtin.copy_, run_underlying ht, run_sizeOf' hi, hlen, hq, hf, hst0]
          · simp [VR, goInt]
        · have hA : A = L.at i0 0 := g5 (by omega)
          subst hA
          have hst := storable_elts hM g1 ho (o := i0) (k := q) (by have := hrow.len; omega)
          have hoff : L.base + i0 * L.sz + 0 = L.base + i0 * i.size := by rw [hrow.szeq]; omega
          have hcq : (cvs.take (q * i.size)).length = q * i.size := by rw [hcl', hlq]
          have hrs := run_storeCells_cells (P := P) L.block (L.base + i0 * i.size) (cvs.take (q * i.size)) 0 w (by rw [hcq]; simpa using hst.1) (by rw [hcq]; simpa using hst.2) (fun v hv => hone v (List.mem_of_mem_take hv))
          simp only [Nat.add_zero] at hrs
          refine ⟨goInt q, _, ?_, β, _, _, Pl.le_refl _, ?_, hstep, hk⟩
          · have hat : L.at i0 0 = ⟨L.block, L.base + i0 * i.size, none⟩ := by simp only [Loc.at, hrow.szeq]; rfl
            simp [Builtin.copy_, run_underlying ht, run_sizeOf' hi, hlen, hq, hf, hat, hrs]
          · simp [VR, goInt]
      · exact hk.elim
    · exact hk.elim
theorem zeroCells_toList (z : Array Value) (n : Nat) : (Builtin.zeroCells z n).toList = (List.replicate n z.toList).flatten := by
  by_cases hz : z.size = 0
  · have : z = #[] := by simpa using hz
    subst this
    simp [Builtin.zeroCells]
  · apply List.ext_getElem?
    intro k
    have hflat : ∀ n, (List.replicate n z.toList).flatten.length = n * z.size := fun n => by simp
    by_cases hk : k < n * z.size
    · have h1 : k % z.size < z.size := Nat.mod_lt _ (by omega)
      have h2 : k / z.size < n := Nat.div_lt_of_lt_mul (by rw [Nat.mul_comm]; exact hk)
      have h3 := flatten_get (es := List.replicate n z.toList) (sz := z.size) (fun e he => by rw [List.eq_of_mem_replicate he]; simp) (k / z.size) (k % z.size) z.toList (z[k % z.size]) (by simp [h2]) (by simp)
      rw [show k / z.size * z.size + k % z.size = k by rw [Nat.mul_comm]; exact Nat.div_add_mod k z.size] at h3
      rw [h3]
      simp [Builtin.zeroCells, hk, h1]
    · rw [List.getElem?_eq_none (by simp [Builtin.zeroCells]; omega), List.getElem?_eq_none (by rw [hflat]; omega)]
theorem replicate_rel {z : List V} {zs : List Value} (h : VRs β z zs) : ∀ n, VRs β (List.replicate n z).flatten (List.replicate n zs).flatten
  | 0 => by simp [VRs]
  | n + 1 => by simp only [List.replicate_succ, List.flatten_cons]; exact VRs.append h (replicate_rel h n)
theorem gives_clear_slice {t ty e : TypeId} {i : TypeInfo} {z : Value} (ht : P.underlying t = some (.slice e)) (hi : P.info? e = some i) (hz : i.zero = some z) (hzs : z.cells.size = i.size)
    (hM : MR base w0 β m w) {x : V} {x' : Value} (hx : VR β x x') {zv : List V} (hzv : zv.all V.isCell = true → VRs β zv z.cells.toList)
    (hk : clearX zv m x K) : Gives P (Builtin.clear_ #[t] ty #[x']) w (Post base w0 β K) := by
  unfold clearX at hk
  cases x <;> (try dsimp only at hk) <;> try (exact hk.elim)
  rename_i a n c
  rcases a with _ | ⟨r, i0, zz⟩
  · try dsimp only at hk
    simp only [VR] at hx; obtain ⟨rfl, rfl, rfl⟩ := hx
    refine Gives.of_run (v := .tuple #[]) (w' := w) ?_ (Post.same hM (by simp [VR, VRs]) hk)
    simp [Builtin.clear_, run_underlying ht]
  · try dsimp only at hk
    obtain ⟨L, A, cap, g1, rfl, g3, g4, g5⟩ := cap_of_VR hx
    split at hk
    · rename_i hn; subst hn
      refine Gives.of_run (v := .tuple #[]) (w' := w) ?_ (Post.same hM (by simp [VR, VRs]) hk)
      simp [Builtin.clear_, run_underlying ht]
    · rename_i hn
      split at hk
      · rename_i sz old ho
        split at hk
        · rename_i hc
          obtain ⟨h1, h2, h3⟩ := hc
          have hzv := hzv h3
          have hrow : RowR base β w L sz old true := hM.objs r L _ g1 ho
          have hA : A = L.at i0 0 := g5 (by omega)
          subst hA
          have hsz : i.size = sz := by
            have h3 := hzv.length
            have h4 : z.cells.toList.length = z.cells.size := Array.length_toList
            omega
          have hcell : ∀ v ∈ zv, v.isCell = true := by simpa using h3
          have hvv := replicate_rel (β := β) hzv n
          have hzl : (List.replicate n z.cells.toList).flatten.length = n * sz := by simp [hzs, hsz]
          have hstep := write_elts (new := List.replicate n zv) hM g1 ho (o := i0) (by simpa using h1) (fun e' he' => by rw [List.eq_of_mem_replicate he']; exact ⟨h2, hcell⟩) hvv (by rw [hzl]; simp)
          simp only [List.length_replicate] at hstep
          have hst := storable_elts hM g1 ho (o := i0) (k := n) (by have := hrow.len; omega)
          have hrs := run_storeCells_cells (P := P) L.block (L.base + i0 * sz) (List.replicate n z.cells.toList).flatten 0 w (by rw [hzl]; simpa using hst.1) (by rw [hzl]; simpa using hst.2) (fun v hv => by
            obtain ⟨l, hl, hv⟩ := List.mem_flatten.1 hv
            rw [List.eq_of_mem_replicate hl] at hv
            obtain ⟨q, hq⟩ := List.getElem?_of_mem hv
            have hql : q < zv.length := by rw [hzv.length]; exact (List.getElem?_eq_some_iff.1 hq).1
            have hx : zv[q]? = some zv[q] := by simp
            exact (hzv.get' hx hq).oneCell (hcell _ (List.getElem_mem _)))
          simp only [Nat.add_zero] at hrs
          refine ⟨.tuple #[], _, ?_, β, _, _, Pl.le_refl _, by simp [VR, VRs], hstep, hk⟩
          have hat : L.at i0 0 = ⟨L.block, L.base + i0 * sz, none⟩ := by simp only [Loc.at, hrow.szeq]; rfl
          have hrun : (storeCells (L.at i0 0) (Builtin.zeroCells z.cells n).toList).run P w = .ok () (w.setCells L.block (L.base + i0 * sz) (List.replicate n z.cells.toList).flatten) := by
            rw [zeroCells_toList, hat]; exact hrs
          cases n with
          | zero => exact absurd rfl hn
          | succ n => simp [Builtin.clear_, run_underlying ht, run_zeroValue' hi hz, hrun]
        · exact hk.elim
      · exact hk.elim
theorem gives_makeSlice {t e : TypeId} {i : TypeInfo} {z : Value} (ht : P.underlying t = some (.slice e)) (hi : P.info? e = some i) (hz : i.zero = some z) (hzs : z.cells.size = i.size)
    (hM : MR base w0 β m w) {a b : Int} {zv : List V} (hzv : ∀ β, VRs β zv z.cells.toList) (h0 : 0 ≤ a) (h1 : a ≤ b) (hlim : b * i.bytes ≤ 281474976710656) (hpos : 0 < zv.length) (hcell : zv.all V.isCell = true) (hb1 : 0 < i.bytes)
    (hk : K (.sl (some (m.next, 0, zv.length)) a.toNat (some b.toNat)) (m.new (.row zv.length (List.replicate b.toNat zv) true))) : Gives P (Instr.makeSlice t (.int .i64 a) (.int .i64 b)) w (Post base w0 β K) := by
  have hzl : zv.length = i.size := by
    have h1 := (hzv β).length
    have h2 : z.cells.toList.length = z.cells.size := Array.length_toList
    omega
  have hbb : b ≤ 281474976710656 := by
    have : b * 1 ≤ b * (i.bytes : Int) := Int.mul_le_mul_of_nonneg_left (by omega) (by omega)
    omega
  have hwa : IntKind.i64.wrap a = a := by unfold IntKind.wrap IntKind.bits IntKind.signed; simp; omega
  have hwb : IntKind.i64.wrap b = b := by unfold IntKind.wrap IntKind.bits IntKind.signed; simp; omega
  have hC : (Array.map (fun x => z.cells[x % z.cells.size]!) (Array.range (b.toNat * i.size))) = Builtin.zeroCells z.cells b.toNat := by
    simp [Builtin.zeroCells, hzs]
  obtain ⟨β', g1, g2, g3⟩ := hM.alloc (l := ⟨w.heap.size, 0, zv.length, b.toNat⟩) (o := .row zv.length (List.replicate b.toNat zv) true) (.cells (Builtin.zeroCells z.cells b.toNat) e) rfl (fun β' hle =>
    RowR.fresh (cvs := (Builtin.zeroCells z.cells b.toNat).toList) hM.le hpos (fun e he => by rw [List.eq_of_mem_replicate he]) (fun e he => by rw [List.eq_of_mem_replicate he]; simpa using hcell) (by rw [zeroCells_toList]; exact replicate_rel (hzv β') _) (fun q v hq => by simpa using hq) (by rw [zeroCells_size, hzs, hzl]; exact Nat.le_refl _) (by simp) (fun i j h1 h2 h3 => by simp at h1; omega))
  refine ⟨.slice (some ⟨w.heap.size, 0, none⟩) a.toNat b.toNat, _, ?_, β', _, _, g2, ?_, g1, hk⟩
  · unfold Instr.makeSlice
    have hbig : (i.bytes : Int) * b ≤ 281474976710656 := by rw [Int.mul_comm]; omega
    have hn : ¬ (b < 0) := by omega
    have hna : ¬ (a < 0) := by omega
    have hnl : ¬ (a > b) := by omega
    have htest : (decide (b < 0) || decide ((i.bytes : Int) * b > 2 ^ 48) || decide (a < 0) || decide (a > b)) = false := by simp [hn, hbig, hna, hnl]
    simp only [Sem.run_bind, run_underlying ht, Result.andThen_ok, asInt, asIntOf, Sem.run_pure, typeInfo, run_program, hi, hwa, hwb, htest, Bool.false_eq_true, if_false, run_askRoom, run_sizeOf' hi]
    by_cases hb0 : b.toNat * i.size = 0
    · have hbz : b.toNat = 0 := by
        rcases Nat.mul_eq_zero.1 hb0 with h | h
        · exact h
        · omega
      simp only [hb0, if_true, Sem.run_pure, Result.andThen_ok, newRow, run_newObj, World.alloc_eq, Sem.run_bind]
      have hr0 : Array.range 0 = (#[] : Array Nat) := rfl
      simp only [hbz, Nat.zero_mul, Builtin.zeroCells, hr0, List.map_toArray, List.map_nil]
    · simp only [hb0, if_false, run_zeroValue' hi hz, Sem.run_bind, Result.andThen_ok, Sem.run_pure, newRow, run_newObj, World.alloc_eq, hC]
  · simp only [VR]
    exact ⟨_, _, _, g3, rfl, by simp, by omega, fun _ => by simp [Loc.at], rfl⟩
/-! ### places -/
theorem gives_fieldAddr {t : TypeId} {fs : Array Field} {k : Nat} {f : Field} {fi : TypeInfo} (ht : P.underlying t = some (.struct fs)) (hf : fs[k]? = some f) (hfi : P.info? f.type = some fi) (hpos : fi.size ≠ 0)
    (hM : MR base w0 β m w) {r i j : Nat} {x' : Value} (hx : VR β (.ptr (some (r, i, j))) x') (hk : K (.ptr (some (r, i, j + f.offset))) m) : Gives P (Instr.fieldAt t x' k) w (Post base w0 β K) := by
  simp only [VR] at hx; obtain ⟨l, hl, rfl⟩ := hx
  refine Gives.of_run (v := .pointer (some (l.at i (j + f.offset)))) (w' := w) ?_ (Post.same hM (by simp only [VR]; exact ⟨l, hl, rfl⟩) hk)
  simp [Instr.fieldAt, run_underlying ht, hf, Instr.sureAddr, fieldPlace, run_sizeOf' hfi, hpos, at_add]
theorem part_gives {t : TypeId} {i : TypeInfo} {d : TypeDesc} (hi : P.info? t = some i) (hd : P.underlying t = some d) (hM : MR base w0 β m w) {as : List V} {xs : Array Value} (hx : VRs β as xs.toList) {o : Nat} (hk : opt (partV (aggD d) as o i.size) m K) :
    Gives P (part t xs o) w (Post base w0 β K) := by
  unfold opt at hk
  split at hk
  · rename_i u hu
    simp only [partV] at hu
    cases ha : aggD d with
    | true =>
      rw [ha] at hu; simp only [if_true] at hu
      split at hu
      · rename_i hle; injection hu with hu; subst hu
        refine Gives.of_run (v := .agg (xs.extract o (o + i.size))) (w' := w) ?_ (Post.same hM (by simp only [VR]; exact ⟨_, rfl, extract_rel hx o i.size hle⟩) hk)
        simp [part, run_isAgg' hd, ha, run_sizeOf' hi]
      · cases hu
    | false =>
      rw [ha] at hu; simp only [Bool.false_eq_true, if_false] at hu
      obtain ⟨v, h1, h2⟩ := hx.get _ _ hu
      refine Gives.of_run (v := v) (w' := w) ?_ (Post.same hM h2 hk)
      have h1' : xs[o]? = some v := by rw [← Array.getElem?_toList]; exact h1
      simp [part, run_isAgg' hd, ha, h1']
  · exact hk.elim
theorem gives_iaddr {t e : TypeId} {ei : TypeInfo} (ht : P.underlying t = some (.slice e)) (he : P.info? e = some ei) {r i0 n : Nat} {c : Option Nat} {x' : Value} (hx : VR β (.sl (some (r, i0, ei.size)) n c) x')
    {kk : IntKind} {k : Int} (h0 : 0 ≤ k) (h1 : k < n) : ∃ u, (Instr.indexAt t x' (.int kk k)).run P w = .ok u w ∧ VR β (.ptr (some (r, i0 + k.toNat, 0))) u := by
  have hszz := sz_of_VR hx
  obtain ⟨L, A, cap, g1, rfl, g3, g4, g5⟩ := cap_of_VR hx
  have hA : A = L.at i0 0 := g5 (by omega)
  subst hA
  refine ⟨.pointer (some (L.at (i0 + k.toNat) 0)), ?_, by simp only [VR]; exact ⟨L, g1, rfl⟩⟩
  have hc : 0 ≤ k ∧ k < (n : Int) := ⟨h0, h1⟩
  simp only [Instr.indexAt, asIntOf, Sem.run_bind, Sem.run_pure, Result.andThen_ok, run_underlying ht, hc, and_self, if_true, run_sizeOf' he]
  rw [← hszz L g1, at_row]
theorem gives_iaddrA {t e : TypeId} {ei : TypeInfo} {len : Nat} (ht : P.underlying t = some (.array len e)) (he : P.info? e = some ei) (hM : MR base w0 β m w) {r i0 j : Nat} {x' : Value} (hx : VR β (.ptr (some (r, i0, j))) x')
    {kk : IntKind} {k : Int} (h0 : 0 ≤ k) (h1 : k < len) (hk : K (.ptr (some (r, i0, j + k.toNat * ei.size))) m) : Gives P (Instr.indexAt t x' (.int kk k)) w (Post base w0 β K) := by
  simp only [VR] at hx; obtain ⟨l, hl, rfl⟩ := hx
  refine Gives.of_run (v := .pointer (some (l.at i0 (j + k.toNat * ei.size)))) (w' := w) ?_ (Post.same hM (by simp only [VR]; exact ⟨l, hl, rfl⟩) hk)
  have hc : 0 ≤ k ∧ k < (len : Int) := ⟨h0, h1⟩
  simp only [Instr.indexAt, asIntOf, Sem.run_bind, Sem.run_pure, Result.andThen_ok, run_underlying ht, hc, and_self, if_true, run_sizeOf' he, Instr.sureAddr, at_add]
theorem gives_max {xs : List V} {ys : List Value} (hM : MR base w0 β m w) (h : VRs β xs ys) {v : V} (hv : foldV max2V xs = some v) (hk : K v m) {ts : Array TypeId} {ty : TypeId} : Gives P (Builtin.max_ ts ty ys.toArray) w (Post base w0 β K) := by
  have key : ∀ (xs : List V) (ys : List Value) (x : V) (y : Value), VR β x y → VRs β xs ys → ∀ v, foldV max2V (x :: xs) = some v → ∃ u, (ys.foldlM Builtin.max2 y).run P w = .ok u w ∧ VR β v u := by
    intro xs
    induction xs with
    | nil => intro ys x y hx h v hv; simp only [VRs] at h; subst h; simp only [foldV, foldG, Option.some.injEq] at hv; subst hv; exact ⟨y, by simp, hx⟩
    | cons x2 xs ih =>
      intro ys x y hx h v hv
      simp only [VRs] at h; obtain ⟨y2, ys2, rfl, h1, h2⟩ := h
      simp only [foldV, foldG] at hv
      split at hv
      · rename_i z hz
        have hz' : ∃ u, (Builtin.max2 y y2).run P w = .ok u w ∧ VR β z u := by
          cases x <;> cases x2 <;> simp only [max2V] at hz <;> first | (cases hz; done) | skip
          rename_i k a k' b
          split at hz
          · rename_i hkk; subst hkk; injection hz with hz; subst hz
            simp only [VR] at hx h1; subst hx; subst h1
            exact ⟨_, rfl, by simp [VR]⟩
          · cases hz
        obtain ⟨u, hu1, hu2⟩ := hz'
        obtain ⟨u', hu3, hu4⟩ := ih ys2 z u hu2 h2 v hv
        exact ⟨u', by simp [hu1, hu3], hu4⟩
      · cases hv
  cases xs with
  | nil => simp [foldV] at hv
  | cons x xs =>
    simp only [VRs] at h; obtain ⟨y, ys2, rfl, h1, h2⟩ := h
    obtain ⟨u, h3, h4⟩ := key xs ys2 x y h1 h2 v hv
    exact Gives.of_run (v := u) (w' := w) (by simp [Builtin.max_, h3]) (Post.same hM h4 hk)
theorem gives_min {xs : List V} {ys : List Value} (hM : MR base w0 β m w) (h : VRs β xs ys) {v : V} (hv : foldV min2V xs = some v) (hk : K v m) {ts : Array TypeId} {ty : TypeId} : Gives P (Builtin.min_ ts ty ys.toArray) w (Post base w0 β K) := by
  have key : ∀ (xs : List V) (ys : List Value) (x : V) (y : Value), VR β x y → VRs β xs ys → ∀ v, foldV min2V (x :: xs) = some v → ∃ u, (ys.foldlM Builtin.min2 y).run P w = .ok u w ∧ VR β v u := by
    intro xs
    induction xs with
    | nil => intro ys x y hx h v hv; simp only [VRs] at h; subst h; simp only [foldV, foldG, Option.some.injEq] at hv; subst hv; exact ⟨y, by simp, hx⟩
    | cons x2 xs ih =>
      intro ys x y hx h v hv
      simp only [VRs] at h; obtain ⟨y2, ys2, rfl, h1, h2⟩ := h
      simp only [foldV, foldG] at hv
      split at hv
      · rename_i z hz
        have hz' : ∃ u, (Builtin.min2 y y2).run P w = .ok u w ∧ VR β z u := by
          cases x <;> cases x2 <;> simp only [min2V] at hz <;> first | (cases hz; done) | skip
          rename_i k a k' b
          split at hz
          · rename_i hkk; subst hkk; injection hz with hz; subst hz
            simp only [VR] at hx h1; subst hx; subst h1
            exact ⟨_, rfl, by simp [VR]⟩
          · cases hz
        obtain ⟨u, hu1, hu2⟩ := hz'
        obtain ⟨u', hu3, hu4⟩ := ih ys2 z u hu2 h2 v hv
        exact ⟨u', by simp [hu1, hu3], hu4⟩
      · cases hv
  cases xs with
  | nil => simp [foldV] at hv
  | cons x xs =>
    simp only [VRs] at h; obtain ⟨y, ys2, rfl, h1, h2⟩ := h
    obtain ⟨u, h3, h4⟩ := key xs ys2 x y h1 h2 v hv
    exact Gives.of_run (v := u) (w' := w) (by simp [Builtin.min_, h3]) (Post.same hM h4 hk)
end
end Go.AM
