/-
  THE ABSTRACT MACHINE AND THE MODEL: EACH OPERATION IS SOUND. No Go program here.
-/
import Derived.Test.YtkcpojagecfcbaaGreatDoorAm7
namespace Go.AM
open Go
set_option linter.unusedVariables false
section
variable {P : Program} {base : Nat} {w0 : World} {β : Pl} {m : Mem} {w : World} {K : KV} {e : Env} {a : Act} {Γ : Ctx}
theorem gives_newVar {t : TypeId} {x : V} {v : Value} (hM : MR base w0 β m w) (hx : VRs β x.cells v.cells.toList) (hall : x.cells.all V.isCell = true) (hpos : 0 < x.cells.length)
    (hk : K (.ptr (some (m.next, 0, 0))) (m.new (.row x.cells.length [x.cells] true))) : Gives P (do pure (.pointer (some (← newVar t v)))) w (Post base w0 β K) := by
  obtain ⟨ad, w', β', h1, h2, h3, h4⟩ := newVar_am (P := P) (t := t) hM hx hall hpos
  refine ⟨.pointer (some ad), w', ?_, β', _, _, h2, h3, h4, hk⟩
  simp [h1]
theorem agg_val {x : V} {v : Value} {cs : List V} (h : VR β x v) (e : x = .agg cs) : ∃ xs, v = .agg xs ∧ VRs β cs xs.toList := by
  subst e; simpa only [VR] using h
theorem not_agg_nil {x : V} {v : Value} (h : VR β x v) (hc : ∃ k, ckOk k x = true) : (∀ cs, v ≠ .agg cs) ∧ v ≠ .nilIface := by
  obtain ⟨k, hk⟩ := hc
  cases x <;> cases k <;> simp only [ckOk, Bool.false_eq_true] at hk
  · simp only [VR] at h; subst h; exact ⟨fun _ => by simp, by simp⟩
  · simp only [VR] at h; subst h; exact ⟨fun _ => by simp, by simp⟩
  · simp only [VR] at h; subst h; exact ⟨fun _ => by simp, by simp⟩
  · rename_i p; rcases p with _ | ⟨r, i, j⟩ <;> simp only [VR] at h
    · subst h; exact ⟨fun _ => by simp, by simp⟩
    · obtain ⟨l, _, rfl⟩ := h; exact ⟨fun _ => by simp, by simp⟩
  · rename_i p n c; rcases p with _ | ⟨r, i, zz⟩ <;> simp only [VR] at h
    · obtain ⟨_, _, rfl⟩ := h; exact ⟨fun _ => by simp, by simp⟩
    · obtain ⟨l, ad, cap, _, rfl, _⟩ := h; exact ⟨fun _ => by simp, by simp⟩
  · rename_i p; rcases p with _ | r <;> simp only [VR] at h
    · subst h; exact ⟨fun _ => by simp, by simp⟩
    · obtain ⟨l, _, rfl⟩ := h; exact ⟨fun _ => by simp, by simp⟩
/-- Equality of single cells. -/
theorem gives_eq_cell {neg : Bool} {t : TypeId} {x y : Operand} (hE : EnvR β e a.tmps) (hM : MR base w0 β m w) {ck : CK}
    (ht : (P.underlying t = some .bool ∧ ck = .bool) ∨ (∃ p, P.underlying t = some (.pointer p) ∧ ck = .ptr) ∨ (∃ p, P.underlying t = some (.slice p) ∧ ck = .sl) ∨ (∃ p q, P.underlying t = some (.map p q) ∧ ck = .map))
    (hk : if ckAll [ck] [ev e (opd x)] then opt ((eqC (ev e (opd x)) (ev e (opd y))).map fun b => .bool (if neg then !b else b)) m K else False) :
    Gives P (do eqGuard (if neg then .neq else .eql) t x y (a.eval x) (a.eval y); binOp (if neg then .neq else .eql) t (a.eval x) (a.eval y)) w (Post base w0 β K) := by
  split at hk
  · rename_i hc
    simp only [ckAll, Bool.and_true] at hc
    have hx := ev_rel hE x
    have hy := ev_rel hE y
    have hg := eqGuard_cells (P := P) (w := w) (if neg then .neq else .eql) t x y (u := a.eval x) (v := a.eval y) (not_agg_nil hx ⟨ck, hc⟩)
    cases he : eqC (ev e (opd x)) (ev e (opd y)) with
    | none => rw [he] at hk; exact hk.elim
    | some b =>
      rw [he] at hk
      simp only [Option.map_some, opt] at hk
      have heq : (Op.equal t (a.eval x) (a.eval y)).run P w = .ok b w := by
        unfold Op.equal Op.maxDepth
        refine equalIn_cell hx hy he ?_
        rcases ht with ⟨h, rfl⟩ | ⟨p, h, rfl⟩ | ⟨p, h, rfl⟩ | ⟨p, q, h, rfl⟩
        · exact .inl ⟨h, hc⟩
        · exact .inr (.inr (.inr (.inl ⟨p, h, hc⟩)))
        · exact .inr (.inr (.inr (.inr (.inl ⟨p, h, hc⟩))))
        · exact .inr (.inr (.inr (.inr (.inr ⟨p, q, h, hc⟩))))
      refine Gives.of_run (v := .bool (if neg then !b else b)) (w' := w) ?_ (Post.same hM (by simp [VR]) hk)
      simp only [Sem.run_bind, hg, Result.andThen_ok]
      -- the operation itself
      generalize hux : ev e (opd x) = ux at *
      generalize huy : ev e (opd y) = uy at *
      have key : (binOp (if neg then .neq else .eql) t (a.eval x) (a.eval y)).run P w = ((Op.equal t (a.eval x) (a.eval y)).run P w).andThen fun b w' => .ok (.bool (if neg then !b else b)) w' := by
        cases ux <;> cases ck <;> simp only [ckOk, Bool.false_eq_true] at hc
        · simp only [VR] at hx; rw [hx]
          cases uy <;> simp only [eqC] at he <;> first | (cases he; done) | skip
          simp only [VR] at hy; rw [hy]
          cases neg <;> simp [binOp]
        · exfalso; rcases ht with ⟨h, h'⟩ | ⟨p, h, h'⟩ | ⟨p, h, h'⟩ | ⟨p, q, h, h'⟩ <;> cases h'
        · exfalso; rcases ht with ⟨h, h'⟩ | ⟨p, h, h'⟩ | ⟨p, h, h'⟩ | ⟨p, q, h, h'⟩ <;> cases h'
        · rename_i pp
          have hxp : ∃ z, a.eval x = .pointer z := by
            rcases pp with _ | ⟨r, i, j⟩ <;> simp only [VR] at hx
            · exact ⟨_, hx⟩
            · obtain ⟨l, _, h⟩ := hx; exact ⟨_, h⟩
          have hyp : ∃ z, a.eval y = .pointer z := by
            cases uy <;> rcases pp with _ | pp <;> simp only [eqC] at he <;> first | (cases he; done) | skip
            all_goals (rename_i qq; rcases qq with _ | ⟨r, i, j⟩ <;> simp only [VR] at hy)
            all_goals first | exact ⟨_, hy⟩ | (obtain ⟨l, _, h⟩ := hy; exact ⟨_, h⟩)
          obtain ⟨z1, h1⟩ := hxp
          obtain ⟨z2, h2⟩ := hyp
          rw [h1, h2]; cases neg <;> simp [binOp]
        · rename_i pp n c
          have hxp : ∃ z n c, a.eval x = .slice z n c := by
            rcases pp with _ | ⟨r, i, zz⟩ <;> simp only [VR] at hx
            · exact ⟨_, _, _, hx.2.2⟩
            · obtain ⟨l, ad, cap, _, h, _⟩ := hx; exact ⟨_, _, _, h⟩
          obtain ⟨z1, n1, c1, h1⟩ := hxp
          have hyp : ∃ z n c, a.eval y = .slice z n c := by
            cases uy <;> rcases pp with _ | pp <;> simp only [eqC] at he <;> first | (cases he; done) | skip
            all_goals (rename_i qq n2 c2; rcases qq with _ | ⟨r, i, zz2⟩ <;> simp only [VR] at hy)
            all_goals first | exact ⟨_, _, _, hy.2.2⟩ | (obtain ⟨l, ad, cap, _, h, _⟩ := hy; exact ⟨_, _, _, h⟩)
          obtain ⟨z2, n2, c2, h2⟩ := hyp
          rw [h1, h2]; cases neg <;> simp [binOp]
        · rename_i pp
          have hxp : ∃ z, a.eval x = .map z := by
            rcases pp with _ | r <;> simp only [VR] at hx
            · exact ⟨_, hx⟩
            · obtain ⟨l, _, h⟩ := hx; exact ⟨_, h⟩
          have hyp : ∃ z, a.eval y = .map z := by
            cases uy <;> rcases pp with _ | pp <;> simp only [eqC] at he <;> first | (cases he; done) | skip
            all_goals (rename_i qq; rcases qq with _ | r <;> simp only [VR] at hy)
            all_goals first | exact ⟨_, hy⟩ | (obtain ⟨l, _, h⟩ := hy; exact ⟨_, h⟩)
          obtain ⟨z1, h1⟩ := hxp
          obtain ⟨z2, h2⟩ := hyp
          rw [h1, h2]; cases neg <;> simp [binOp]
      rw [key, heq]; rfl
  · exact hk.elim
/-- Equality of structs. -/
theorem gives_eq_agg {neg : Bool} {t : TypeId} {x y : Operand} (hE : EnvR β e a.tmps) (hM : MR base w0 β m w) {ks : List CK} {d : TypeDesc} (hd : P.underlying t = some d) (hda : aggD d = true) (hg : P.eqGuardType P.depth t = false) (ht : eqTags P 20 t = some ks)
    {xs ys : List V} (ex : ev e (opd x) = .agg xs) (ey : ev e (opd y) = .agg ys)
    (hk : if ckAll ks xs ∧ ckAll ks ys then opt ((eqCs xs ys).map fun b => .bool (if neg then !b else b)) m K else False) :
    Gives P (do eqGuard (if neg then .neq else .eql) t x y (a.eval x) (a.eval y); binOp (if neg then .neq else .eql) t (a.eval x) (a.eval y)) w (Post base w0 β K) := by
  split at hk
  · rename_i hc
    obtain ⟨xv, hx1, hx2⟩ := agg_val (ev_rel hE x) ex
    obtain ⟨yv, hy1, hy2⟩ := agg_val (ev_rel hE y) ey
    cases he : eqCs xs ys with
    | none => rw [he] at hk; exact hk.elim
    | some b =>
      rw [he] at hk
      simp only [Option.map_some, opt] at hk
      have hl : ys.length = xs.length := by rw [ckAll_length hc.1, ckAll_length hc.2]
      have h := equalIn_ty (w := w) 20 t 10000 ht hx2 hy2 hc.1 hl he (by omega)
      have e1 : valOf P t xv = .agg xv := by simp [valOf, hd, hda]
      have e2 : valOf P t yv = .agg yv := by simp [valOf, hd, hda]
      rw [e1, e2] at h
      refine Gives.of_run (v := .bool (if neg then !b else b)) (w' := w) ?_ (Post.same hM (by simp [VR]) hk)
      rw [hx1, hy1]
      cases neg
      · simp only [Sem.run_bind, Bool.false_eq_true, if_false, run_eqGuard_agg w _ t x y xv yv hg, Result.andThen_ok, run_eql_struct, h]
      · simp only [Sem.run_bind, if_true, run_eqGuard_agg w _ t x y xv yv hg, Result.andThen_ok, run_neq_struct, h]
  · exact hk.elim
theorem gives_binop {op : BinOp} {t : TypeId} {x y : Operand} (hE : EnvR β e a.tmps) (hM : MR base w0 β m w) (hk : opt (binV op (ev e (opd x)) (ev e (opd y))) m K) :
    Gives P (do eqGuard op t x y (a.eval x) (a.eval y); binOp op t (a.eval x) (a.eval y)) w (Post base w0 β K) := by
  unfold opt at hk
  split at hk
  · rename_i v hv
    have hx := ev_rel hE x
    obtain ⟨u, h1, h2⟩ := gives_bin (P := P) (w := w) (t := t) hx (ev_rel hE y) hv
    have hck : ∃ k, ckOk k (ev e (opd x)) = true := by
      generalize ev e (opd x) = ux at hv
      cases ux <;> simp only [binV] at hv <;> first | (cases hv; done) | skip
      · exact ⟨.int, rfl⟩
      · exact ⟨.str, rfl⟩
    refine Gives.of_run (v := u) (w' := w) ?_ (Post.same hM h2 hk)
    simp only [Sem.run_bind, eqGuard_cells (P := P) (w := w) op t x y (not_agg_nil hx hck), Result.andThen_ok, h1]
  · exact hk.elim
theorem run_bytesToString_of {P : Program} (w : World) (A : Addr) (len cap : Nat) (zs : List Int) (h : (loadCells A len).run P w = .ok (zs.map (Value.int .u8)).toArray w) :
    (Conv.bytesToString (.slice (some A) len cap)).run P w = .ok (.string ⟨(zs.map fun z => UInt8.ofNat z.toNat).toArray⟩) w := by
  rw [run_bytesToString w A len cap zs h, foldl_push_bytes]
  have h0 : ByteArray.empty.data = #[] := rfl
  rw [h0, Array.empty_append]
theorem bytesOfCells_sound : ∀ (es : List (List V)) (cvs : List Value) (l : List UInt8), VRs β es.flatten cvs → bytesOfCells es = some l → ∃ zs : List Int, cvs = zs.map (Value.int .u8) ∧ l = zs.map fun z => UInt8.ofNat z.toNat := by
  intro es
  induction es with
  | nil => intro cvs l hv hb; simp only [bytesOfCells, Option.some.injEq] at hb; subst hb; simp only [List.flatten_nil, VRs] at hv; exact ⟨[], by simp [hv], rfl⟩
  | cons c es ih =>
    intro cvs l hv hb
    unfold bytesOfCells at hb
    split at hb
    · rename_i h; cases h
    · rename_i z r heq
      injection heq with e1 e2; subst e1; subst e2
      split at hb
      · rename_i l' hl'
        injection hb with hb; subst hb
        simp only [List.flatten_cons, List.singleton_append, VRs, VR] at hv
        obtain ⟨y, ys, rfl, rfl, hv⟩ := hv
        obtain ⟨zs, h1, h2⟩ := ih ys l' hv hl'
        exact ⟨z :: zs, by simp [h1], by simp [h2]⟩
      · cases hb
    · cases hb
theorem gives_convBS {s d el : TypeId} (hs : P.underlying s = some (.slice el)) (hd : P.underlying d = some .string) (he : P.underlying el = some (.int .u8)) (hM : MR base w0 β m w) {x : V} {x' : Value} (hx : VR β x x') (hsl : ∃ a n c, x = .sl a n c)
    {es : List (List V)} (hes : eltsOf 1 m x = some es) {l : List UInt8} (hl : bytesOfCells es = some l) (hk : K (.str ⟨l.toArray⟩) m) : Gives P (convert s d x') w (Post base w0 β K) := by
  obtain ⟨cvs, n, h1, rfl, h3, h4, h5, h6, h7, -⟩ := elts_sound (P := P) hM hx hes (by omega)
  obtain ⟨zs, hz1, hz2⟩ := bytesOfCells_sound es cvs l h1 hl
  obtain ⟨ad, len, cap, rfl⟩ := hsl
  have hrun : (Conv.bytesToString x').run P w = .ok (.string ⟨l.toArray⟩) w := by
    rcases ad with _ | ⟨r, i, zz⟩
    · simp only [VR] at hx; obtain ⟨rfl, rfl, rfl⟩ := hx
      simp only [eltsOf, Option.some.injEq] at hes; subst hes
      have : zs = [] := by
        have h0 : cvs = [] := List.eq_nil_of_length_eq_zero (by simpa using h3)
        rw [hz1] at h0; simpa using h0
      subst this
      simp at hz2; subst hz2
      rfl
    · obtain ⟨L, A, cp, g1, rfl, g3, g4, g5⟩ := cap_of_VR hx
      have hlen : (Builtin.firstCells 1 es.length (.slice (some A) len cp)).run P w = .ok cvs.toArray w := h7 w (fun _ _ => rfl)
      have hel : es.length = len := by
        have := h6 w
        simp only [Builtin.lenOf, Sem.run_pure, Result.ok.injEq, and_true] at this
        exact this.symm
      simp only [Builtin.firstCells, Nat.mul_one, hel] at hlen
      rw [hz2]
      have := run_bytesToString_of (P := P) w A len cp zs (by rw [hlen, hz1])
      exact this
  refine Gives.of_run (v := .string ⟨l.toArray⟩) (w' := w) ?_ (Post.same hM (by simp [VR]) hk)
  have hnot : ∀ (z : Sem Value), x' = x' := fun _ => rfl
  rcases ad with _ | ⟨r, i, zz⟩
  · simp only [VR] at hx; obtain ⟨rfl, rfl, rfl⟩ := hx
    simp only [convert, Sem.run_bind, run_underlying hs, run_underlying hd, Result.andThen_ok, run_underlying he, hrun]
  · obtain ⟨L, A, cp, g1, rfl, g3, g4, g5⟩ := cap_of_VR hx
    simp only [convert, Sem.run_bind, run_underlying hs, run_underlying hd, Result.andThen_ok, run_underlying he, hrun]
theorem opt_some {o : Option V} (h : opt o m K) : ∃ v, o = some v ∧ K v m := by
  unfold opt at h; split at h
  · rename_i v; exact ⟨v, rfl, h⟩
  · exact h.elim
theorem gives_builtin {b : Builtin} {ts : Array TypeId} {args : Array Operand} {ty : TypeId} {cs : Array Bool} (hE : EnvR β e a.tmps) (hM : MR base w0 β m w) (hk : opx Γ (compBuiltin P b ts.toList args.toList) e m K) :
    Yields P ((builtin b ts ty cs (args.map a.eval)).run P w) (Post base w0 β K) := by
  obtain ⟨ts⟩ := ts
  obtain ⟨args⟩ := args
  simp only at hk
  unfold compBuiltin at hk
  split at hk
  · rename_i t tx s x
    split at hk
    · rename_i el ht
      split at hk
      · rename_i i hi
        split at hk
        · rename_i z hz
          have main : (∃ e', P.underlying tx = some (.slice e')) ∨ P.underlying tx = some .string → (if (z.cells.size = i.size ∧ 0 < i.size) ∧ (ofVal z).cells.all V.isCell = true then IR.app i.size i.bytes (opd s) (opd x) else IR.bad) = IR.app i.size i.bytes (opd s) (opd x) → opx Γ (IR.app i.size i.bytes (opd s) (opd x)) e m K → (z.cells.size = i.size ∧ 0 < i.size) ∧ (ofVal z).cells.all V.isCell = true → Yields P ((builtin .append #[t, tx] ty cs (#[s, x].map a.eval)).run P w) (Post base w0 β K) := by
            intro htx _ hk hc
            simp only [opx] at hk
            split at hk
            · rename_i new hnew
              simp only [hc.1.2, if_true] at hk
              have := gives_append (ty := ty) ht hi hz hc.2 hc.1.1 hc.1.2 htx hM (ev_rel hE s) (ev_rel hE x) hnew hk
              exact Gives.yields (by simpa using this)
            · exact hk.elim
          split at hk
          · rename_i e' htx
            split at hk
            · rename_i hc; exact main (.inl ⟨e', htx⟩) (by simp [hc]) hk hc
            · exact hk.elim
          · rename_i htx
            split at hk
            · rename_i hc
              simp only [opx] at hk
              split at hk
              · rename_i r i0 zz n c k hs hx
                split at hk
                · rename_i hq
                  obtain ⟨q1, q2, q3, q4, q5, q6⟩ := hq
                  split at hk
                  · rename_i sz es rw ho
                    split at hk
                    · rename_i hw
                      obtain ⟨w1, w2⟩ := hw
                      have hzl : (ofVal z).cells.length = i.size := by
                        have := ((ofVal_rel β z).cells hc.2).length
                        rw [← hc.1.1]; simpa using this
                      rw [hzl] at w1
                      subst w1
                      obtain ⟨kn, rfl⟩ := Int.eq_ofNat_of_zero_le (show 0 ≤ k by omega)
                      have hs' := ev_rel hE s
                      have hx' := ev_rel hE x
                      rw [hs] at hs'
                      rw [hx] at hx'
                      simp only [VR] at hx'
                      rw [Int.toNat_natCast] at hk
                      have q3' : (n + kn) * i.bytes ≤ 140737488355328 := by
                        have e : (((n + kn) * i.bytes : Nat) : Int) = ((n : Int) + kn) * i.bytes := by rw [Int.natCast_mul, Int.natCast_add]
                        omega
                      have := gives_appZ (P := P) (ty := ty) (K := K) ht htx hi hz hc.1.1 hc.2 hc.1.2 hM hs' (k := kn) (by omega) (by omega) q3' (by omega) ho w2 hk
                      exact Gives.yields (by simpa [hx'] using this)
                    · exact hk.elim
                  · exact hk.elim
                · exact hk.elim
              · exact hk.elim
            · exact hk.elim
          · rename_i htx
            split at hk
            · rename_i hc; exact main (.inr htx) (by simp [hc]) hk hc
            · exact hk.elim
          · exact hk.elim
        · exact hk.elim
      · exact hk.elim
    · exact hk.elim
  · rename_i t x
    have hx := ev_rel hE x
    split at hk
    · rename_i ht
      simp only [opx] at hk
      split at hk <;> rename_i hu <;> first | (exact hk.elim) | skip
      all_goals try contradiction
      · rename_i h0; rw [hu] at hx; simp only [VR] at hx
        refine Gives.yields (Gives.of_run (v := .int .i64 _) (w' := w) ?_ (Post.same hM (by simp only [VR]; rfl) hk))
        simp [Builtin.len_, run_underlying ht, hx, goInt]
    · rename_i el ht
      simp only [opx] at hk
      split at hk <;> rename_i hu <;> first | (exact hk.elim) | skip
      all_goals try contradiction
      · rename_i p n c h0
        rw [hu] at hx
        refine Gives.yields ?_
        rcases p with _ | ⟨r, i, zz⟩ <;> simp only [VR] at hx
        · obtain ⟨rfl, rfl, hx⟩ := hx
          refine Gives.of_run (v := .int .i64 _) (w' := w) ?_ (Post.same hM (by simp only [VR]; rfl) hk)
          simp [Builtin.len_, run_underlying ht, hx, goInt]
        · obtain ⟨L, A, cap, g1, hx, g3⟩ := hx
          refine Gives.of_run (v := .int .i64 _) (w' := w) ?_ (Post.same hM (by simp only [VR]; rfl) hk)
          simp [Builtin.len_, run_underlying ht, hx, goInt]
    · rename_i kT eT ht
      simp only [opx] at hk
      refine Gives.yields ?_
      have := gives_lenMap (P := P) (ty := ty) (K := K) ht hM hx (by
        split at hk <;> rename_i hu <;> first | (exact hk.elim) | skip
        all_goals try contradiction
        · rw [hu]; exact hk
        · rw [hu]; exact hk)
      simpa using this
    · exact hk.elim
  · rename_i t x
    have hx := ev_rel hE x
    split at hk
    · rename_i el ht
      simp only [opx] at hk
      split at hk <;> rename_i hu <;> first | (exact hk.elim) | skip
      rw [hu] at hx
      refine Gives.yields ?_
      rename_i p n c
      rcases p with _ | ⟨r, i, zz⟩ <;> simp only [VR] at hx
      · obtain ⟨_, hc, hx⟩ := hx
        injection hc with hc; subst hc
        refine Gives.of_run (v := .int .i64 _) (w' := w) ?_ (Post.same hM (by simp only [VR]; rfl) hk)
        simp [Builtin.cap_, run_underlying ht, hx, goInt]
      · obtain ⟨L, A, cap, g1, hx, g3, g4⟩ := hx
        simp at g3; subst g3
        refine Gives.of_run (v := .int .i64 _) (w' := w) ?_ (Post.same hM (by simp only [VR]; rfl) hk)
        simp [Builtin.cap_, run_underlying ht, hx, goInt]
    · exact hk.elim
  · rename_i t tx d s
    split at hk
    · rename_i el ht
      split at hk
      · rename_i i hi
        split at hk
        · rename_i hpos
          simp only [opx] at hk
          refine Gives.yields ?_
          split at hk
          · rename_i es hes
            have := gives_copy (P := P) (ty := ty) (sT := tx) (K := K) ht hi hpos hM (ev_rel hE d) (ev_rel hE s) hes hk
            simpa using this
          · exact hk.elim
        · exact hk.elim
      · exact hk.elim
    · exact hk.elim
  · rename_i t x
    split at hk
    · rename_i el ht
      split at hk
      · rename_i i hi
        split at hk
        · rename_i z hz
          split at hk
          · rename_i hzs
            simp only [opx] at hk
            refine Gives.yields ?_
            have := gives_clear_slice (P := P) (ty := ty) (K := K) ht hi hz hzs hM (ev_rel hE x) (fun h => ofVal_cells h β) hk
            simpa using this
          · exact hk.elim
        · exact hk.elim
      · exact hk.elim
    · exact hk.elim
  · rename_i t t2 x k
    split at hk
    · rename_i kT eT ht
      split at hk
      · rename_i kk hkT
        simp only [opx] at hk
        split at hk
        · rename_i hko
          obtain ⟨ck, hkv, hkt⟩ := keyT_of hkT hko
          have hi' := hkv.of_rel (ev_rel hE k)
          refine Gives.yields ?_
          have := gives_delete (P := P) (ty := ty) (kT' := t2) (K := K) hkv ht hkt hM (ev_rel hE x) hk
          simpa [hi'] using this
        · exact hk.elim
      · exact hk.elim
    · exact hk.elim
  · simp only [opx] at hk
    obtain ⟨v, hv, hk⟩ := opt_some hk
    refine Gives.yields ?_
    have := gives_max (P := P) (ts := ⟨ts⟩) (ty := ty) hM (evs_rel hE args) hv hk
    simpa using this
  · simp only [opx] at hk
    obtain ⟨v, hv, hk⟩ := opt_some hk
    refine Gives.yields ?_
    have := gives_min (P := P) (ts := ⟨ts⟩) (ty := ty) hM (evs_rel hE args) hv hk
    simpa using this
  · exact hk.elim
end
end Go.AM
