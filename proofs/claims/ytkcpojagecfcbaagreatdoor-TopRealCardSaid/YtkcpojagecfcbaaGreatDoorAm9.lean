/-
  THE ABSTRACT MACHINE AND THE MODEL: each operation of a region is sound. No Go program here.
-/
import Derived.Test.YtkcpojagecfcbaaGreatDoorAm8
namespace Go.AM
open Go
set_option linter.unusedVariables false
section
variable {P : Program} {base : Nat} {w0 : World} {β : Pl} {m : Mem} {w : World} {K : KV} {e : Env} {a : Act} {Γ : Ctx}
theorem splice_mem {z cs : List V} {o : Nat} {v : V} (h : v ∈ splice z o cs) : v ∈ z ∨ v ∈ cs := by
  unfold splice at h
  rcases List.mem_append.1 h with h | h
  · rcases List.mem_append.1 h with h | h
    · exact .inl (List.mem_of_mem_take h)
    · exact .inr h
  · exact .inl (List.mem_of_mem_drop h)
theorem fillV_cells : ∀ {qs : List (Nat × Nat × V)} {z r : List V}, (∀ v ∈ z, v.isCell = true) → fillV z qs = some r → ∀ v ∈ r, v.isCell = true
  | [], z, r, hz, h => by simp only [fillV, Option.some.injEq] at h; subst h; exact hz
  | (o, n, x) :: qs, z, r, hz, h => by
    simp only [fillV] at h
    split at h
    · rename_i hc
      refine fillV_cells (fun v hv => ?_) h
      rcases splice_mem hv with hv | hv
      · exact hz v hv
      · exact (List.all_eq_true.1 hc.2.2) v hv
    · cases h
theorem run_buildSlice' {t el : TypeId} {ei : TypeInfo} {z : Value} {n : Nat} (hd : P.underlying t = some (.slice el)) (he : P.info? el = some ei) (hz : ei.zero = some z) (hs : z.cells.size = ei.size) (hpos : 0 < ei.size) (hlim : n * ei.size ≤ 2 ^ 24)
    {ps : Array (Nat × Value)} {cells' : Array Value} (hf : Instr.fill (fun k => some (k * ei.size, ei.size)) (zerosOf z (n * ei.size)).toArray ps.toList = some cells') :
    (Instr.buildSlice t n ps).run P w = .ok (.slice (some ⟨w.heap.size, 0, none⟩) n n) (w.alloc (.cells cells' el)) := by
  by_cases hn : n = 0
  · subst hn
    have hr0 : Array.range 0 = (#[] : Array Nat) := rfl
    have h0 : (zerosOf z (0 * ei.size)).toArray = (#[] : Array Value) := by simp [zerosOf]
    rw [h0] at hf
    unfold Instr.buildSlice
    simp [run_underlying hd, run_sizeOf' he, hr0, hf, newRow]
  · exact run_buildSlice hd he hz hs hpos (by omega) hlim hf
/-! ### a method through an interface -/
theorem load_run {P : Program} {base : Nat} {w0 : World} {β : Pl} {m : Mem} {w : World} {t : TypeId} {d : TypeDesc} {i : TypeInfo} (hd : P.underlying t = some d) (hi : P.info? t = some i) (hM : MR base w0 β m w) {v : Value} {r i0 j : Nat} (hx : VR β (.ptr (some (r, i0, j))) v) {cs : List V} (hc : m.elt r i0 = some cs) {y : V} (hu : partV (aggD d) cs j i.size = some y) : ∃ a u, v = .pointer (some a) ∧ (loadVar t a).run P w = .ok u w ∧ VR β y u := by
  simp only [VR] at hx
  obtain ⟨l, hl, rfl⟩ := hx
  obtain ⟨sz, es, rw, ho, hes⟩ := Mem.elt_eq hc
  have hrow : RowR base β w l sz es rw := hM.objs r l _ hl ho
  simp only [partV] at hu
  cases ha : aggD d with
  | true =>
    rw [ha] at hu; simp only [if_true] at hu
    split at hu
    · rename_i hle; injection hu with hu; subst hu
      obtain ⟨cvs, h1, h2, h3, h4⟩ := hrow.part hes i.size j hle
      refine ⟨_, .agg cvs.toArray, rfl, ?_, by simp only [VR]; exact ⟨_, rfl, by simpa using h1⟩⟩
      have hlc := run_loadCells_list (P := P) w (l.at i0 j) cvs (fun q v hq => by rw [at_add]; exact h3 q v hq)
      rw [h2] at hlc
      simp only [loadVar, Sem.run_bind, Sem.run_pure, Result.andThen_ok, run_isAgg' hd, ha, if_true, run_sizeOf' hi, hlc]
    · cases hu
  | false =>
    rw [ha] at hu; simp only [Bool.false_eq_true, if_false] at hu
    obtain ⟨_, cv, h1, h2⟩ := (hrow.cells i0 cs hes).2 j y hu
    refine ⟨_, cv, rfl, ?_, h1⟩
    simp only [loadVar, Sem.run_bind, Result.andThen_ok, run_isAgg' hd, ha, Bool.false_eq_true, if_false, run_load, h2]
theorem nilchk_run (P : Program) (w : World) (ts : Array TypeId) (t : TypeId) (a : Addr) (s1 s2 : ByteArray) : (Builtin.ssaWrapNilChk_ ts t #[.pointer (some a), .string s1, .string s2]).run P w = .ok (.pointer (some a)) w := rfl
theorem method_run {P : Program} {base : Nat} {w0 : World} {β : Pl} {m : Mem} {w : World} (hM : MR base w0 β m w) {n : String} {t : TypeId} {f : FuncId} {ld : Option (Bool × Nat)} (h : invAt P n t = some (f, ld)) {v y : V} {u : Value} (hv : VR β v u) (hy : recvV m ld v = some y) : ∃ z, (method (P.types.size + Made.depth) t u n).run P w = .ok (f, z) w ∧ VR β y z := by
  unfold invAt at h
  split at h
  case h_2 => cases h
  rename_i i hi
  split at h
  case h_2 => cases h
  rename_i mt hmt
  split at h
  case isFalse => cases h
  rename_i hp
  have hsz : P.types.size + Made.depth = (P.types.size + 99) + 1 := rfl
  rw [hsz]
  generalize P.types.size + 99 = fuel
  rw [method.eq_2]
  split at h
  · rename_i f' el hf hd
    injection h with h; injection h with h1 h2; subst h1; subst h2
    simp only [recvV, Option.some.injEq] at hy; subst hy
    exact ⟨u, by simp [typeInfo, hi, hmt, hp, follow, hf, receiverAt, run_underlying hd, Place.get], hv⟩
  · rename_i f' el hf hd
    split at h
    case h_2 => cases h
    rename_i a ha
    injection h with h; injection h with h1 h2; subst h1; subst h2
    unfold ldAt at ha
    split at ha
    case h_2 => cases ha
    rename_i ie de hie hde
    injection ha with ha; subst ha
    simp only [recvV] at hy
    split at hy
    case h_2 => cases hy
    rename_i r i0 j
    split at hy
    case h_2 => cases hy
    rename_i cs hcs
    obtain ⟨a, z, rfl, h1, h2⟩ := load_run hde hie hM hv hcs hy
    exact ⟨z, by simp [typeInfo, hi, hmt, hp, follow, hf, receiverAt, run_underlying hd, Place.get, strVal, nilchk_run, asAddr, h1], h2⟩
  · rename_i f' d hnp hf hd
    injection h with h; injection h with h1 h2; subst h1; subst h2
    simp only [recvV, Option.some.injEq] at hy; subst hy
    refine ⟨u, ?_, hv⟩
    cases d <;> first
      | (exact (hnp _ rfl).elim)
      | (simp [typeInfo, hi, hmt, hp, follow, hf, receiverAt, run_underlying hd, Place.get])
  · cases h
theorem op_sound (hΓ : CtxOk P Γ) (hE : EnvR β e a.tmps) (hM : MR base w0 β m w) {o : Oper} (hk : opx Γ (compOp P o.op) e m K) : Yields P ((execOp a.eval o).run P w) (Post base w0 β K) := by
  obtain ⟨dst, op, ty, pos, after, guard⟩ := o
  simp only at hk
  cases op
  case move x => exact Post.same hM (ev_rel hE x) hk
  case assign x => exact Post.same hM (ev_rel hE x) hk
  case pick c x y =>
    simp only [compOp, opx] at hk
    have hc := ev_rel hE c
    split at hk
    · rename_i t ht
      rw [ht] at hc; simp only [VR] at hc
      simp only [execOp, hc, asBool, Sem.run_bind, Sem.run_pure, Result.andThen_ok, Yields]
      refine Post.same hM ?_ hk
      cases t
      · exact ev_rel hE y
      · exact ev_rel hE x
    · exact hk.elim
  case alloc t =>
    simp only [compOp] at hk
    split at hk
    · rename_i i hi
      split at hk
      · rename_i z hz
        simp only [opx] at hk
        split at hk
        · rename_i hc
          have hz' := ofVal_cells hc.1 β
          refine Gives.yields ?_
          obtain ⟨ad, w', β', h1, h2, h3, h4⟩ := newVar_am (P := P) (t := t) (x := .agg (ofVal z).cells) (v := .agg z.cells) hM (by simpa [V.cells, Value.cells] using hz') (by simpa [V.cells] using hc.1) (by simpa [V.cells] using hc.2)
          refine ⟨.pointer (some ad), w', ?_, β', _, _, h2, h3, by simpa [V.cells] using h4, hk⟩
          have h1' : (newVar t z).run P w = .ok ad w' := by
            simp only [newVar, Value.cells] at h1 ⊢; exact h1
          simp [Instr.alloc, run_zeroValue' hi hz, h1']
        · exact hk.elim
      · exact hk.elim
    · exact hk.elim
  case box t x =>
    simp only [compOp, opx] at hk
    split at hk
    · rename_i hc
      exact Gives.yields (gives_newVar hM ((ev_rel hE x).cells hc.1) hc.1 hc.2 hk)
    · exact hk.elim
  case build t ps =>
    simp only [compOp] at hk
    split at hk
    · rename_i i hi
      split at hk
      · rename_i z hz
        refine Gives.yields ?_
        have hzc : ∀ qs, opx Γ (.build (ofVal z).cells qs) e m K → (ofVal z).cells.all V.isCell = true ∧ ∃ r, fillV (ofVal z).cells (qs.map fun (o, n, x) => (o, n, ev e x)) = some r ∧ K (.agg r) m := by
          intro qs hk
          simp only [opx] at hk
          split at hk
          case isFalse => exact hk.elim
          rename_i hcell
          refine ⟨hcell, ?_⟩
          obtain ⟨v, hv, hk⟩ := opt_some hk
          rw [Option.map_eq_some_iff] at hv
          obtain ⟨r, h1, rfl⟩ := hv
          exact ⟨r, h1, hk⟩
        split at hk
        · rename_i fs hd
          split at hk
          · rename_i hall
            split at hk
            · rename_i qs hqs
              obtain ⟨hcell, r, hr, hk⟩ := hzc qs hk
              obtain ⟨cells', g1, g2, g3⟩ := fill_rel (β := β) (placeS P fs) (cells := z.cells) (ofVal_cells hcell β) (parts_rel hE hqs) hr
              refine Gives.of_run (v := .agg cells') (w' := w) ?_ (Post.same hM (by simp only [VR]; exact ⟨_, rfl, g2⟩) hk)
              exact run_build_struct hi hz hd hall (by simpa using g1)
            · exact hk.elim
          · exact hk.elim
        · rename_i n el hd
          split at hk
          · rename_i ei he
            split at hk
            · rename_i qs hqs
              obtain ⟨hcell, r, hr, hk⟩ := hzc qs hk
              obtain ⟨cells', g1, g2, g3⟩ := fill_rel (β := β) (fun k => some (k * ei.size, ei.size)) (cells := z.cells) (ofVal_cells hcell β) (parts_rel hE hqs) hr
              refine Gives.of_run (v := .agg cells') (w' := w) ?_ (Post.same hM (by simp only [VR]; exact ⟨_, rfl, g2⟩) hk)
              exact run_build_array hi hz hd he (by simpa using g1)
            · exact hk.elim
          · exact hk.elim
        · exact hk.elim
      · exact hk.elim
    · exact hk.elim
  case buildSlice t n ps =>
    simp only [compOp] at hk
    split at hk
    · rename_i el hd
      split at hk
      · rename_i ei he
        split at hk
        · rename_i z hz
          split at hk
          · rename_i hc
            obtain ⟨hs, hpos, hlim⟩ := hc
            split at hk
            · rename_i qs hqs
              simp only [opx] at hk
              split at hk
              · rename_i cs hfill
                split at hk
                · rename_i hcell
                  refine Gives.yields ?_
                  obtain ⟨cells', g1, g2, g3⟩ := fill_rel (β := β) (fun k => some (k * ei.size, ei.size)) (cells := (zerosOf z (n * ei.size)).toArray) (by simpa using cells_rel β (zerosOf z (n * ei.size))) (parts_rel hE hqs) hfill
                  have hzl : ((zerosOf z (n * ei.size)).map cellOf).length = n * ei.size := by simp [zerosOf]
                  have hrun := run_buildSlice' (w := w) hd he hz hs hpos hlim (ps := (ps.map fun (i, x) => (i, a.eval x))) (cells' := cells') (by simpa using g1)
                  have hdiv : ((zerosOf z (n * ei.size)).map cellOf).length / ei.size = n := by rw [hzl]; exact Nat.mul_div_cancel _ hpos
                  rw [hdiv] at hk
                  have hcl : cs.length = n * ei.size := by rw [g3, hzl]
                  have hcsz : cells'.size = n * ei.size := by rw [← Array.length_toList, ← g2.length, hcl]
                  have hcsc : ∀ v ∈ cs, v.isCell = true := fillV_cells (by simpa using hcell.1) hfill
                  obtain ⟨β', h1, h2, h3⟩ := hM.alloc (l := ⟨w.heap.size, 0, ei.size, n⟩) (o := .row ei.size ((List.range n).map fun i => (cs.drop (i * ei.size)).take ei.size) true) (.cells cells' el) rfl (fun β' hle =>
                    RowR.fresh (cvs := cells'.toList) hM.le hpos (fun x hx => by
                      obtain ⟨i, hi, rfl⟩ := List.mem_map.1 hx
                      have hin := List.mem_range.1 hi
                      have : (i + 1) * ei.size ≤ n * ei.size := Nat.mul_le_mul_right _ hin
                      rw [Nat.add_mul] at this
                      simp; omega) (fun x hx v hv => by
                      obtain ⟨i, hi, rfl⟩ := List.mem_map.1 hx
                      exact hcsc v (List.mem_of_mem_drop (List.mem_of_mem_take hv))) (by rw [splice_full ei.size cs n hcl]; exact VRs.mono hle _ _ g2) (fun q v hq => by simpa using hq) (by rw [hcsz]; exact Nat.le_refl _) (by simp) (fun i j h1 h2 h3 => by simp at h1; omega))
                  refine ⟨_, _, hrun, β', _, _, h2, ?_, h1, hk⟩
                  simp only [VR]
                  exact ⟨_, _, n, h3, rfl, by simp, Nat.le_refl _, fun _ => by simp [Loc.at], rfl⟩
                · exact hk.elim
              · exact hk.elim
            · exact hk.elim
          · exact hk.elim
        · exact hk.elim
      · exact hk.elim
    · exact hk.elim
  case load t x =>
    simp only [compOp] at hk
    split at hk
    · rename_i i hi
      split at hk
      · rename_i d hd
        simp only [opx] at hk
        split at hk
        · rename_i r i0 j hx
          split at hk
          · rename_i cs hcs
            exact Gives.yields (gives_load hd hi hM (ev_rel hE x) hx hcs hk)
          · exact hk.elim
        · exact hk.elim
      · exact hk.elim
    · exact hk.elim
  case store t x y =>
    simp only [compOp] at hk
    split at hk
    · rename_i i hi
      simp only [opx] at hk
      split at hk
      · rename_i r i0 j hx
        split at hk
        · rename_i sz es ho
          split at hk
          · rename_i cs hcs
            split at hk
            · rename_i hc
              have hxr := ev_rel hE x
              rw [hx] at hxr
              obtain ⟨w', h1, h2⟩ := run_store_am (P := P) hi hM hxr (ev_rel hE y) ho hcs hc.1 hc.2.1 hc.2.2
              simp only [execOp, Sem.run_bind, h1, Result.andThen_ok, Sem.run_pure, Yields]
              exact ⟨β, _, _, Pl.le_refl _, by simp [VR, VRs, undef], h2, hk⟩
            · exact hk.elim
          · exact hk.elim
        · exact hk.elim
      · exact hk.elim
    · exact hk.elim
  case nilCheck x =>
    simp only [compOp, opx] at hk
    have hx := ev_rel hE x
    split at hk
    · rename_i p hp
      rw [hp] at hx
      obtain ⟨r, i, j⟩ := p
      have hx' := hx
      simp only [VR] at hx; obtain ⟨l, hl, hx⟩ := hx
      simp only [execOp, hx, Sem.run_pure, Yields]
      exact Post.same hM (by rw [hx] at hx'; exact hx') hk
    · rename_i f u v hp
      rw [hp] at hx
      have hx' := hx
      simp only [VR] at hx; obtain ⟨xs, ys, hx, _⟩ := hx
      simp only [execOp, hx, Sem.run_pure, Yields]
      exact Post.same hM (by rw [hx] at hx'; exact hx') hk
    · exact hk.elim
  case binOp op t x y t2 =>
    refine Gives.yields ?_
    simp only [compOp] at hk
    split at hk
    · split at hk <;> first
        | exact hk.elim
        | exact gives_binop hE hM hk
        | skip
      · rename_i ht
        exact gives_eq_cell (neg := false) hE hM (.inl ⟨ht, rfl⟩) (by simpa only [opx] using hk)
      · rename_i p ht
        exact gives_eq_cell (neg := false) hE hM (.inr (.inl ⟨p, ht, rfl⟩)) (by simpa only [opx] using hk)
      · rename_i p ht
        exact gives_eq_cell (neg := false) hE hM (.inr (.inr (.inl ⟨p, ht, rfl⟩))) (by simpa only [opx] using hk)
      · rename_i p q ht
        exact gives_eq_cell (neg := false) hE hM (.inr (.inr (.inr ⟨p, q, ht, rfl⟩))) (by simpa only [opx] using hk)
      · rename_i fs ht
        split at hk
        · exact hk.elim
        · rename_i hg
          split at hk
          · rename_i ks hks
            simp only [opx] at hk
            split at hk
            · rename_i xs ys hx hy
              exact gives_eq_agg (neg := false) hE hM ht rfl (by simpa using hg) hks hx hy (by simpa using hk)
            · rename_i h0; cases h0
            · exact hk.elim
          · exact hk.elim
      · rename_i n el ht
        split at hk
        · exact hk.elim
        · rename_i hg
          split at hk
          · rename_i ks hks
            simp only [opx] at hk
            split at hk
            · rename_i xs ys hx hy
              exact gives_eq_agg (neg := false) hE hM ht rfl (by simpa using hg) hks hx hy (by simpa using hk)
            · rename_i h0; cases h0
            · exact hk.elim
          · exact hk.elim
    · split at hk <;> first
        | exact hk.elim
        | exact gives_binop hE hM hk
        | skip
      · rename_i ht
        exact gives_eq_cell (neg := true) hE hM (.inl ⟨ht, rfl⟩) (by simpa only [opx] using hk)
      · rename_i p ht
        exact gives_eq_cell (neg := true) hE hM (.inr (.inl ⟨p, ht, rfl⟩)) (by simpa only [opx] using hk)
      · rename_i p ht
        exact gives_eq_cell (neg := true) hE hM (.inr (.inr (.inl ⟨p, ht, rfl⟩))) (by simpa only [opx] using hk)
      · rename_i p q ht
        exact gives_eq_cell (neg := true) hE hM (.inr (.inr (.inr ⟨p, q, ht, rfl⟩))) (by simpa only [opx] using hk)
      · rename_i fs ht
        split at hk
        · exact hk.elim
        · rename_i hg
          split at hk
          · rename_i ks hks
            simp only [opx] at hk
            split at hk
            · rename_i xs ys hx hy
              exact gives_eq_agg (neg := true) hE hM ht rfl (by simpa using hg) hks hx hy (by simpa using hk)
            · rename_i h0; cases h0
            · exact hk.elim
          · exact hk.elim
      · rename_i n el ht
        split at hk
        · exact hk.elim
        · rename_i hg
          split at hk
          · rename_i ks hks
            simp only [opx] at hk
            split at hk
            · rename_i xs ys hx hy
              exact gives_eq_agg (neg := true) hE hM ht rfl (by simpa using hg) hks hx hy (by simpa using hk)
            · rename_i h0; cases h0
            · exact hk.elim
          · exact hk.elim
    · exact gives_binop hE hM hk
  case unOp op t x =>
    simp only [compOp, opx] at hk
    obtain ⟨v, hv, hk⟩ := opt_some hk
    obtain ⟨u, h1, h2⟩ := gives_un (P := P) (w := w) (ev_rel hE x) hv
    exact Gives.yields (Gives.of_run h1 (Post.same hM h2 hk))
  case convert s d x =>
    simp only [compOp] at hk
    have hx := ev_rel hE x
    refine Gives.yields ?_
    split at hk
    · rename_i k1 k hs hd
      simp only [opx] at hk
      split at hk
      · rename_i k2 n hp
        rw [hp] at hx; simp only [VR] at hx
        refine Gives.of_run (v := .int k (k.wrap n)) (w' := w) ?_ (Post.same hM (by simp [VR]) hk)
        rw [hx]; simp [convert, run_underlying hs, run_underlying hd, Conv.intToInt]
      · exact hk.elim
    · rename_i hs hd
      simp only [opx] at hk
      split at hk
      · rename_i t hp
        rw [hp] at hx; simp only [VR] at hx
        refine Gives.of_run (v := .string t) (w' := w) ?_ (Post.same hM (by simp [VR]) hk)
        rw [hx]; simp [convert, run_underlying hs, run_underlying hd]
      · exact hk.elim
    · rename_i el hs hd
      split at hk
      · rename_i hel
        simp only [opx] at hk
        split at hk
        · rename_i ad n c hsl
          split at hk
          · rename_i es hes
            split at hk
            · rename_i l hl
              rw [hsl] at hx
              exact gives_convBS hs hd hel hM hx ⟨ad, n, c, rfl⟩ hes hl hk
            · exact hk.elim
          · exact hk.elim
        · exact hk.elim
      · exact hk.elim
    · exact hk.elim
  case makeInterface t x =>
    simp only [compOp] at hk
    split at hk
    · rename_i d hd
      split at hk
      · exact hk.elim
      · rename_i hn
        refine Gives.yields (Gives.of_run (v := .iface t (a.eval x)) (w' := w) ?_ (Post.same hM (by simp only [VR]; exact ⟨_, rfl, ev_rel hE x⟩) hk))
        simp only [Instr.makeInterface, Sem.run_bind, run_underlying hd, Result.andThen_ok]
        cases d <;> first | rfl | exact absurd rfl hn
    · exact hk.elim
  case makeFunc fn u v =>
    cases fn <;> simp only [compOp] at hk <;> try (exact hk.elim)
    rename_i f
    simp only [opx] at hk
    refine Gives.yields (Gives.of_run (v := .func (.func f) (u.map a.eval) (v.map a.eval)) (w' := w) rfl (Post.same hM ?_ hk))
    simp only [VR]
    exact ⟨_, _, rfl, by simpa using evs_rel hE u.toList, by simpa using evs_rel hE v.toList⟩
  case makeSlice t l c =>
    simp only [compOp] at hk
    split at hk
    · rename_i el hd
      split at hk
      · rename_i i hi
        split at hk
        · rename_i z hz
          split at hk
          · rename_i hc
            simp only [opx] at hk
            split at hk
            · rename_i p q hl hcp
              split at hk
              · rename_i hb
                have h1 := ev_rel hE l
                have h2 := ev_rel hE c
                rw [hl] at h1; rw [hcp] at h2
                simp only [VR] at h1 h2
                refine Gives.yields ?_
                rw [h1, h2]
                exact gives_makeSlice hd hi hz hc.1 hM (fun β => ofVal_cells hb.2.2.2.2 β) hb.1 hb.2.1 hb.2.2.1 hb.2.2.2.1 hb.2.2.2.2 hc.2 hk
              · exact hk.elim
            · exact hk.elim
          · exact hk.elim
        · exact hk.elim
      · exact hk.elim
    · exact hk.elim
  case slice t x lo hi mx =>
    simp only [compOp] at hk
    split at hk
    · rename_i el hd
      split at hk
      · rename_i ei he
        split at hk
        · rename_i l h
          simp only [opx] at hk
          obtain ⟨v, hv, hk⟩ := opt_some hk
          obtain ⟨u, h1, h2⟩ := run_sliceM_am (P := P) (w := w) hd he hM (ev_rel hE x) (ev_rel hE l) (ev_rel hE h) hv
          exact Gives.yields (Gives.of_run h1 (Post.same hM h2 hk))
        · simp only [opx] at hk
          split at hk
          · rename_i p n c hx
            split at hk
            · rename_i l h c' hb
              obtain ⟨v, hv, hk⟩ := opt_some hk
              obtain ⟨u, h1, h2⟩ := run_slice_am (P := P) (w := w) hd he (ev_rel hE x) (opt_rel hE lo) (opt_rel hE hi) (opt_rel hE mx) hx hb hv
              exact Gives.yields (Gives.of_run h1 (Post.same hM h2 hk))
            · exact hk.elim
          · exact hk.elim
      · exact hk.elim
    · rename_i hd
      split at hk
      · rename_i hmx
        have : mx = none := by simpa using hmx
        subst this
        simp only [opx] at hk
        split at hk
        · rename_i s hx
          split at hk
          · rename_i l h c' hb
            have hx' := ev_rel hE x
            rw [hx] at hx'; simp only [VR] at hx'
            refine Gives.yields ?_
            rw [hx']
            exact gives_sliceS hd hM (opt_rel hE lo) (opt_rel hE hi) hb hk
          · exact hk.elim
        · exact hk.elim
      · exact hk.elim
    · exact hk.elim
  case fieldAddr t x k =>
    simp only [compOp] at hk
    split at hk
    · rename_i fs hd
      split at hk
      · rename_i f hf
        split at hk
        · rename_i fi hfi
          split at hk
          · rename_i hpos
            simp only [opx] at hk
            split at hk
            · rename_i r i j hx
              have hx' := ev_rel hE x
              rw [hx] at hx'
              exact Gives.yields (gives_fieldAddr hd hf hfi hpos hM hx' hk)
            · exact hk.elim
          · exact hk.elim
        · exact hk.elim
      · exact hk.elim
    · exact hk.elim
  case field t x k =>
    simp only [compOp] at hk
    split at hk
    · rename_i fs hd
      split at hk
      · rename_i f hf
        split at hk
        · rename_i fi hfi
          split at hk
          · rename_i d hfd
            simp only [opx] at hk
            split at hk
            · rename_i cs hx
              obtain ⟨xs, hx1, hx2⟩ := agg_val (ev_rel hE x) hx
              refine Gives.yields ?_
              obtain ⟨v, w', h1, h2⟩ := part_gives (P := P) hfi hfd hM hx2 hk
              refine ⟨v, w', ?_, h2⟩
              rw [hx1]; simp [Instr.field, run_underlying hd, hf, asAgg, h1]
            · exact hk.elim
          · exact hk.elim
        · exact hk.elim
      · exact hk.elim
    · exact hk.elim
  case indexAddr t x i =>
    simp only [compOp] at hk
    have hi' := ev_rel hE i
    have hx' := ev_rel hE x
    split at hk
    · rename_i el hd
      split at hk
      · rename_i ei he
        simp only [opx] at hk
        split at hk
        · rename_i r i0 z n c kk k hx hi
          rw [hx] at hx'; rw [hi] at hi'; simp only [VR] at hi'
          split at hk
          · rename_i hc
            obtain ⟨h0, h1, h2⟩ := hc
            subst h2
            refine Gives.yields ?_
            rw [hi']
            obtain ⟨u, h3, h4⟩ := gives_iaddr (P := P) (w := w) (kk := kk) hd he hx' h0 h1
            exact Gives.of_run h3 (Post.same hM h4 hk)
          · exact hk.elim
        · exact hk.elim
      · exact hk.elim
    · rename_i n el hd
      split at hk
      · rename_i ei he
        simp only [opx] at hk
        split at hk
        · rename_i r i0 j kk k hx hi
          rw [hx] at hx'; rw [hi] at hi'; simp only [VR] at hi'
          split at hk
          · rename_i hc
            refine Gives.yields ?_
            rw [hi']
            exact gives_iaddrA hd he hM hx' hc.1 hc.2 hk
          · exact hk.elim
        · exact hk.elim
      · exact hk.elim
    · exact hk.elim
  case index t x i =>
    simp only [compOp] at hk
    have hi' := ev_rel hE i
    split at hk
    · rename_i n el hd
      split at hk
      · rename_i ei he
        split at hk
        · rename_i d hed
          simp only [opx] at hk
          split at hk
          · rename_i cs kk k hx hi
            rw [hi] at hi'; simp only [VR] at hi'
            obtain ⟨xs, hx1, hx2⟩ := agg_val (ev_rel hE x) hx
            split at hk
            · rename_i hc
              refine Gives.yields ?_
              obtain ⟨v, w', h1, h2⟩ := part_gives (P := P) he hed hM hx2 hk
              refine ⟨v, w', ?_, h2⟩
              rw [hx1, hi']; simp [Instr.index, asIntOf, run_underlying hd, hc, run_sizeOf' he, h1]
            · exact hk.elim
          · exact hk.elim
        · exact hk.elim
      · exact hk.elim
    · rename_i hd
      simp only [opx] at hk
      split at hk
      · rename_i s kk k hx hi
        have hx' := ev_rel hE x
        rw [hx] at hx'; rw [hi] at hi'; simp only [VR] at hx' hi'
        split at hk
        · rename_i h0
          split at hk
          · rename_i b hb
            refine Gives.yields (Gives.of_run (v := .int .u8 b.toNat) (w' := w) ?_ (Post.same hM (by simp [VR]) hk))
            have hb' : s[k.toNat]? = some b := by
              have hlt : k.toNat < s.data.toList.length := (List.getElem?_eq_some_iff.1 hb).1
              have hlt' : k.toNat < s.size := by simpa using hlt
              rw [getElem?_pos s k.toNat hlt']
              rw [List.getElem?_eq_getElem hlt] at hb
              injection hb with hb
              congr 1
            rw [hx', hi']; simp [Instr.index, asIntOf, run_underlying hd, h0, hb']
          · exact hk.elim
        · exact hk.elim
      · exact hk.elim
    · exact hk.elim
  case extract x i =>
    simp only [compOp, opx] at hk
    split at hk
    · rename_i vs hx
      obtain ⟨v, hv, hk⟩ := opt_some hk
      have hx' := ev_rel hE x
      rw [hx] at hx'; simp only [VR] at hx'
      obtain ⟨xs, hx1, hx2⟩ := hx'
      obtain ⟨u, h1, h2⟩ := hx2.get _ _ hv
      refine Gives.yields (Gives.of_run (v := u) (w' := w) ?_ (Post.same hM h2 hk))
      have h1' : xs[i]? = some u := by rw [← Array.getElem?_toList]; exact h1
      rw [hx1]; simp [Instr.extract, h1']
    · exact hk.elim
  case call c =>
    obtain ⟨callee, args, ts⟩ := c
    cases callee with
    | value f =>
      simp only [compOp, opx] at hk
      split at hk
      · rename_i g u v hf
        have hf' := ev_rel hE f
        rw [hf] at hf'; simp only [VR] at hf'
        obtain ⟨xs, ys, h1, h2, h3⟩ := hf'
        have hc := callX_sound hΓ hk
        obtain ⟨_, hcalls⟩ := hc
        have e1 : ((xs.toList ++ args.toList.map a.eval) ++ ys.toList).toArray = xs ++ args.map a.eval ++ ys := by
          apply Array.ext'; simp
        by_cases hbody : Body P g
        case neg =>
          obtain ⟨cv, w', g1, g2⟩ := (hcalls base w0 β w _ hM (VRs.append (VRs.append h2 (evs_rel hE args.toList)) h3)).2 hbody
          rw [e1, Array.append_assoc] at g1
          have hrun : (execOp a.eval { dst := dst, op := .call ⟨.value f, args, ts⟩, type := ty, pos := pos, after := after, guard := guard }).run P w = .ok (.value cv) w' := by
            simp [execOp, resolve, h1, Deferred.ofValue, invoke, g1]
          rw [hrun]
          simp only [Yields]
          obtain ⟨v', e2, g3⟩ := g2
          injection e2 with e2; subst e2
          exact g3
        have := (hcalls base w0 β w _ hM (VRs.append (VRs.append h2 (evs_rel hE args.toList)) h3)).1 hbody
        obtain ⟨fn, hb1, hb2, hb3⟩ := hbody
        have hrun : (execOp a.eval { dst := dst, op := .call ⟨.value f, args, ts⟩, type := ty, pos := pos, after := after, guard := guard }).run P w = .ok (.enter g (xs ++ args.map a.eval ++ ys)) w := by
          have hb2' : ¬ fn.body = none := by intro h; rw [h] at hb2; cases hb2
          have hb3' : ¬ fn.name = "runtime.NumGoroutine" := by simpa using hb3
          simp [execOp, resolve, h1, Deferred.ofValue, invoke, callFunc, hb1, hb2', hb3']
        rw [hrun]
        simp only [Yields]
        rw [← e1]; exact this
      · exact hk.elim
    | invoke r n =>
      simp only [compOp, opx, invX] at hk
      split at hk
      case h_2 => exact hk.elim
      rename_i t v hr
      split at hk
      case h_2 => exact hk.elim
      rename_i x0 g ld hfind
      split at hk
      case h_2 => exact hk.elim
      rename_i y hy
      obtain ⟨_, hat⟩ := tblOf_find hfind
      have hr' := ev_rel hE r
      rw [hr] at hr'; simp only [VR] at hr'
      obtain ⟨u, hu1, hu2⟩ := hr'
      obtain ⟨z, hz1, hz2⟩ := method_run hM hat hu2 hy
      have hcalls := (callX_sound hΓ hk).2
      have hvs : VRs β (y :: (args.toList.map opd).map (ev e)) (z :: args.toList.map a.eval) := by
        simp only [VRs]
        exact ⟨z, _, rfl, hz2, evs_rel hE args.toList⟩
      have e1 : (z :: args.toList.map a.eval).toArray = #[z] ++ args.map a.eval := by
        apply Array.ext'; simp
      have e0 : (#[Value.iface t u] ++ args.map a.eval)[0]? = some (Value.iface t u) := by
        rw [← Array.getElem?_toList]; simp
      have e2 : (args.map a.eval).extract 0 args.size = args.map a.eval := by
        apply Array.ext'; simp
        exact List.take_of_length_le (by simp)
      by_cases hbody : Body P g
      case neg =>
        obtain ⟨cv, w', g1, g2⟩ := (hcalls base w0 β w _ hM hvs).2 hbody
        rw [e1] at g1
        have hrun : (execOp a.eval { dst := dst, op := .call ⟨.invoke r n, args, ts⟩, type := ty, pos := pos, after := after, guard := guard }).run P w = .ok (.value cv) w' := by
          simp only [execOp, resolve, Sem.run_bind, Sem.run_pure, Result.andThen_ok, invoke]
          simp [e0, e2, hu1, callMethod, hz1, g1]
        rw [hrun]
        simp only [Yields]
        obtain ⟨v', e3, g3⟩ := g2
        injection e3 with e3; subst e3
        exact g3
      have hcall := (hcalls base w0 β w _ hM hvs).1 hbody
      obtain ⟨fn, hb1, hb2, hb3⟩ := hbody
      have hrun : (execOp a.eval { dst := dst, op := .call ⟨.invoke r n, args, ts⟩, type := ty, pos := pos, after := after, guard := guard }).run P w = .ok (.enter g (#[z] ++ args.map a.eval)) w := by
        have hb2' : ¬ fn.body = none := by intro h; rw [h] at hb2; cases hb2
        have hb3' : ¬ fn.name = "runtime.NumGoroutine" := by simpa using hb3
        simp only [execOp, resolve, Sem.run_bind, Sem.run_pure, Result.andThen_ok, invoke]
        simp [e0, e2, hu1, callMethod, hz1, callFunc, hb1, hb2', hb3']
      rw [hrun]
      simp only [Yields]
      rw [← e1]; exact hcall
    | builtin b =>
      simp only [compOp] at hk
      have := gives_builtin (P := P) (ty := ty) (cs := args.map fun | .const _ => true | _ => false) hE hM hk
      have hrun : (execOp a.eval { dst := dst, op := .call ⟨.builtin b, args, ts⟩, type := ty, pos := pos, after := after, guard := guard }).run P w = (builtin b ts ty (args.map fun | .const _ => true | _ => false) (args.map a.eval)).run P w := by
        simp [execOp, resolve, invoke]
        rfl
      rw [hrun]; exact this
  case makeMap t r =>
    cases r with
    | none =>
      simp only [compOp, opx] at hk
      exact Gives.yields (gives_makeMap hM hk)
    | some r => simp only [compOp] at hk; exact hk.elim
  case range t x =>
    simp only [compOp] at hk
    split at hk
    · rename_i kT eT ht
      simp only [opx] at hk
      exact Gives.yields (gives_range ht hM (ev_rel hE x) hk)
    · exact hk.elim
  case next x s =>
    cases s with
    | true => simp only [compOp] at hk; exact hk.elim
    | false =>
      simp only [compOp, opx] at hk
      exact Gives.yields (gives_next hM (ev_rel hE x) hk)
  case entry x =>
    simp only [compOp, opx] at hk
    exact Gives.yields (gives_entry hM (ev_rel hE x) hk)
  case lookup t x i ok =>
    simp only [compOp] at hk
    split at hk
    · rename_i kT eT ht
      split at hk
      · rename_i kk hkT
        split at hk
        · rename_i ei he
          split at hk
          · rename_i z hz
            simp only [opx] at hk
            split at hk
            · rename_i hko
              obtain ⟨ck, hkv, hkt⟩ := keyT_of hkT hko
              have hi' := hkv.of_rel (ev_rel hE i)
              refine Gives.yields ?_
              rw [hi']
              exact gives_lookup hkv ht hkt he hz hM (ev_rel hE x) hk
            · exact hk.elim
          · exact hk.elim
        · exact hk.elim
      · exact hk.elim
    · exact hk.elim
  case mapUpdate t x k v =>
    simp only [compOp] at hk
    split at hk
    · rename_i kT eT ht
      split at hk
      · rename_i kk hkT
        simp only [opx] at hk
        split at hk
        · rename_i hko
          obtain ⟨ck, hkv, hkt⟩ := keyT_of hkT hko
          have hi' := hkv.of_rel (ev_rel hE k)
          split at hk
          · rename_i r hx
            split at hk
            · rename_i es g ho
              split at hk
              · rename_i es' hs
                have hxr := ev_rel hE x
                rw [hx] at hxr
                obtain ⟨w', h1, h2⟩ := gives_mapUpd (P := P) hkv ht hkt hM hxr (ev_rel hE v) ho hs
                simp only [execOp, hi', Sem.run_bind, h1, Result.andThen_ok, Sem.run_pure, Yields]
                exact ⟨β, _, _, Pl.le_refl _, by simp [VR, VRs, undef], h2, hk⟩
              · exact hk.elim
            · exact hk.elim
          · exact hk.elim
        · exact hk.elim
      · exact hk.elim
    · exact hk.elim
  case typeAssert x xt t ok =>
    simp only [compOp] at hk
    split at hk
    case h_2 => exact hk.elim
    rename_i d hd
    split at hk
    · exact hk.elim
    rename_i hnd
    split at hk
    case h_2 => exact hk.elim
    rename_i i hi
    split at hk
    case h_2 => exact hk.elim
    rename_i z hz
    simp only [opx] at hk
    have hx := ev_rel hE x
    refine Gives.yields ?_
    split at hk
    · rename_i t' v hev
      rw [hev] at hx; simp only [VR] at hx
      obtain ⟨u, hu1, hu2⟩ := hx
      rw [hu1]
      split at hk
      · rename_i ht
        subst ht
        cases ok with
        | true =>
          refine Gives.of_run (v := .tuple #[u, .bool true]) (w' := w) ?_ (Post.same hM (by simp [VR, VRs, hu2]) hk)
          cases d <;> first
            | (exact absurd rfl hnd)
            | (simp [Instr.typeAssert, run_underlying hd])
        | false =>
          refine Gives.of_run (v := u) (w' := w) ?_ (Post.same hM hu2 hk)
          cases d <;> first
            | (exact absurd rfl hnd)
            | (simp [Instr.typeAssert, run_underlying hd])
      · rename_i ht
        split at hk
        case isFalse => exact hk.elim
        rename_i hok
        subst hok
        refine Gives.of_run (v := .tuple #[z, .bool false]) (w' := w) ?_ (Post.same hM (by simp [VR, VRs, ofVal_rel]) hk)
        cases d <;> first
          | (exact absurd rfl hnd)
          | (simp [Instr.typeAssert, run_underlying hd, ht, run_zeroValue' hi hz])
    · rename_i hev
      rw [hev] at hx; simp only [VR] at hx
      rw [hx]
      split at hk
      case isFalse => exact hk.elim
      rename_i hok
      subst hok
      refine Gives.of_run (v := .tuple #[z, .bool false]) (w' := w) ?_ (Post.same hM (by simp [VR, VRs, ofVal_rel]) hk)
      cases d <;> first
        | (exact absurd rfl hnd)
        | (simp [Instr.typeAssert, run_underlying hd, run_zeroValue' hi hz])
    · exact hk.elim
  all_goals (simp only [compOp] at hk; exact hk.elim)
end
end Go.AM
