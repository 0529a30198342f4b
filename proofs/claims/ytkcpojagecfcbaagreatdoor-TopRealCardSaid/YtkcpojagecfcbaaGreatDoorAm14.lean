/-
  THE ABSTRACT MACHINE: a compiled function keeps to what the plain machine says; what a call leaves behind may be told by other names, or not at all. No Go program here.
-/
import Derived.Test.YtkcpojagecfcbaaGreatDoorAm13
namespace Go.AM
open Go
set_option linter.unusedVariables false
section
variable {P : Program} {base : Nat} {w0 : World} {β : Pl} {m : Mem} {w : World} {Γ : Ctx}
theorem load_rel {t : TypeId} {d : TypeDesc} {i : TypeInfo} (hd : P.underlying t = some d) (hi : P.info? t = some i) (hM : MR base w0 β m w) {r i0 j : Nat} {v : Value} (hx : VR β (.ptr (some (r, i0, j))) v)
    {cs : List V} (hc : m.elt r i0 = some cs) {u : V} (hu : partV (aggD d) cs j i.size = some u) : ∃ cv, (asAddr v >>= fun a => loadVar t a).run P w = .ok cv w ∧ VR β u cv := by
  simp only [VR] at hx
  obtain ⟨l, hl, rfl⟩ := hx
  obtain ⟨sz, es, rw, ho, hes⟩ := Mem.elt_eq hc
  have hrow : RowR base β w l sz es rw := hM.objs r l _ hl ho
  simp only [partV] at hu
  cases ha : aggD d with
  | true =>
    rw [ha] at hu; simp only [if_true] at hu
    split at hu
    · rename_i hle; injection hu with hu; subst hu
      obtain ⟨cvs, h1, h2, h3, h4⟩ := hrow.part hes i.size j hle
      have hlc := run_loadCells_list (P := P) w (l.at i0 j) cvs (fun q v hq => by rw [at_add]; exact h3 q v hq)
      rw [h2] at hlc
      refine ⟨.agg cvs.toArray, ?_, by simp only [VR]; exact ⟨_, rfl, by simpa using h1⟩⟩
      simp only [asAddr, loadVar, Sem.run_bind, Sem.run_pure, Result.andThen_ok, run_isAgg' hd, ha, if_true, run_sizeOf' hi, hlc]
    · cases hu
  | false =>
    rw [ha] at hu; simp only [Bool.false_eq_true, if_false] at hu
    obtain ⟨_, cv, h1, h2⟩ := (hrow.cells i0 cs hes).2 j u hu
    refine ⟨cv, ?_, h1⟩
    simp only [asAddr, loadVar, Sem.run_bind, Sem.run_pure, Result.andThen_ok, run_isAgg' hd, ha, Bool.false_eq_true, if_false, run_load, h2]
theorem res_list {e : Env} {a : Act} (hE : EnvR β e a.tmps) (hM : MR base w0 β m w) : ∀ (l : List ResultVar) {rs : List RV} {vs : List V}, compRes P l = some rs → resAll m e rs = some vs →
    ∃ cvs, (l.mapM (fun | .tmp t => pure (a.tmps.getD t undef) | .cell x t => do loadVar t (← asAddr (a.tmps.getD x undef)) : ResultVar → Sem Value)).run P w = .ok cvs w ∧ VRs β vs cvs
  | [], rs, vs, hc, hv => by
    simp only [compRes, Option.some.injEq] at hc; subst hc
    simp only [resAll, Option.some.injEq] at hv; subst hv
    exact ⟨[], by simp, by simp [VRs]⟩
  | .tmp t :: l, rs, vs, hc, hv => by
    simp only [compRes] at hc
    cases hl : compRes P l with
    | none => rw [hl] at hc; cases hc
    | some rs' =>
      rw [hl] at hc; simp only [Option.map_some, Option.some.injEq] at hc; subst hc
      simp only [resAll, resOf] at hv
      cases hr : resAll m e rs' with
      | none => rw [hr] at hv; cases hv
      | some vs' =>
        rw [hr] at hv; simp only [Option.some.injEq] at hv; subst hv
        obtain ⟨cvs, h1, h2⟩ := res_list hE hM l hl hr
        refine ⟨a.tmps.getD t undef :: cvs, ?_, by simp only [VRs]; exact ⟨_, _, rfl, hE t, h2⟩⟩
        simp only [List.mapM_cons, Sem.run_bind, Sem.run_pure, Result.andThen_ok]
        rw [h1]; simp only [Result.andThen_ok]
  | .cell x t :: l, rs, vs, hc, hv => by
    simp only [compRes] at hc
    split at hc
    · rename_i i d rs' hi hd hl
      injection hc with hc; subst hc
      simp only [resAll] at hv
      split at hv
      · rename_i u vs' hu hr
        injection hv with hv; subst hv
        simp only [resOf] at hu
        split at hu
        · rename_i r i0 j hp
          split at hu
          · rename_i cs hcs
            obtain ⟨cvs, h1, h2⟩ := res_list hE hM l hl hr
            have hx := hE x
            rw [hp] at hx
            obtain ⟨cv, h3, h4⟩ := load_rel hd hi hM hx hcs hu
            refine ⟨cv :: cvs, ?_, by simp only [VRs]; exact ⟨_, _, rfl, h4, h2⟩⟩
            simp only [List.mapM_cons]
            rw [Sem.run_bind, h3]
            simp only [Result.andThen_ok]
            rw [Sem.run_bind, h1]; simp only [Result.andThen_ok, Sem.run_pure]
          · cases hu
        · cases hu
      · cases hv
    · cases hc
theorem results_rel {fn : Func} {e : Env} {a : Act} (hE : EnvR β e a.tmps) (hM : MR base w0 β m w) {rs : List RV} {v : V} (hc : compRes P fn.results.toList = some rs) (hv : resV m e rs = some v) :
    ∃ cv, (results fn a.tmps).run P w = .ok cv w ∧ VR β v cv := by
  unfold resV at hv
  have key : ∀ vs, resAll m e rs = some vs → ∃ cvs : List Value, (results fn a.tmps).run P w = .ok (if h : cvs.toArray.size = 1 then cvs.toArray[0] else .tuple cvs.toArray) w ∧ VRs β vs cvs := by
    intro vs hvs
    obtain ⟨cvs, h1, h2⟩ := res_list hE hM fn.results.toList hc hvs
    refine ⟨cvs, ?_, h2⟩
    unfold results
    rw [Sem.run_bind, Array.mapM_eq_mapM_toList, Sem.run_map]; refine (congrArg (fun r => (Result.andThen (Result.andThen r _) _)) h1).trans ?_
    simp only [Result.andThen_ok, Sem.run_pure]
  split at hv
  · rename_i v' hr
    injection hv with hv; subst hv
    obtain ⟨cvs, h1, h2⟩ := key _ hr
    simp only [VRs] at h2
    obtain ⟨y, ys, rfl, h3, rfl⟩ := h2
    exact ⟨y, by rw [h1]; simp, h3⟩
  · rename_i vs hne hr
    injection hv with hv; subst hv
    obtain ⟨cvs, h1, h2⟩ := key _ hr
    refine ⟨.tuple cvs.toArray, ?_, by simp only [VR]; exact ⟨_, rfl, by simpa using h2⟩⟩
    rw [h1]
    have : cvs.length ≠ 1 := by
      intro h
      have hl := VRs.length h2
      rw [h] at hl
      obtain ⟨x, rfl⟩ := List.length_eq_one_iff.1 hl
      exact hne x rfl
    simp [this]
  · cases hv
theorem env_args {args : List V} {cargs : List Value} (h : VRs β args cargs) (n : Nat) : EnvR β (Env.args args) (cargs.toArray ++ Array.replicate (n - cargs.toArray.size) undef) := by
  intro t
  simp only [Env.args]
  rcases Nat.lt_or_ge t args.length with ht | ht
  · obtain ⟨x, hx⟩ : ∃ x, args[t]? = some x := ⟨_, List.getElem?_eq_getElem ht⟩
    obtain ⟨v, hv, hr⟩ := h.get t x hx
    have hl := h.length
    have h1 : args.getD t .undef = x := by simp [List.getD, hx]
    have h2 : (cargs.toArray ++ Array.replicate (n - cargs.toArray.size) undef).getD t undef = v := by
      rw [Array.getD_eq_getD_getElem?, Array.getElem?_append_left (by simp; omega)]; simp [hv]
    rw [h1, h2]; exact hr
  · have : args.getD t .undef = .undef := by simp [List.getD, ht]
    rw [this]; simp [VR]
/-- ████ A COMPILED FUNCTION KEEPS TO WHAT THE PLAIN MACHINE SAYS. ████ -/
theorem fn_sound (hΓ : CtxOk P Γ) (hm : P.follows .mixedOrders = true) {f : FuncId} {fn : Func} (hf : P.funcs[f]? = some fn) (hname : (fn.name == "runtime.NumGoroutine") = false) {ifn : IFn} (hc : compFn P fn = some ifn)
    {args : List V} {K : KV} (hn : args.length ≤ fn.ntmps) (h : runF Γ ifn args m K) : ACalls P f args m K := by
  unfold compFn at hc
  split at hc
  · rename_i c rs hb hr
    injection hc with hc; subst hc
    refine ⟨trivial, fun base w0 β w cargs hM hA => ⟨fun _ => calls_of_wp hf hb ?_, fun hn => absurd ⟨fn, hf, by rw [hb]; rfl, hname⟩ hn⟩⟩
    have hl := hA.length
    refine Code.wp_mono ?_ (cc_sound (n := fn.ntmps) hΓ hm c (env_args hA fn.ntmps) hM rfl (by simp; omega) h)
    intro x a w' ⟨β', e, m', ex, g1, g2, g3, g4, g5, g6, g7⟩
    have fin : opt (resV m' e rs) m' K → a.defers = [] ∧ ∃ v, (results fn a.tmps).run P w' = .ok v w' ∧ ∃ v', Ending.returned v = .returned v' ∧ Post base w0 β K v' w' := by
      intro hk
      unfold opt at hk
      split at hk
      · rename_i v hv
        obtain ⟨cv, h1, h2⟩ := results_rel g2 g3 hr hv
        exact ⟨g4, cv, h1, cv, rfl, β', v, m', g1, h2, g3, hk⟩
      · exact hk.elim
    cases ex with
    | normal => subst g7; exact fin g6
    | ret => subst g7; exact fin g6
    | exit i => exact g6.elim
    | goto i => exact g6.elim
  · cases hc
end
/-! ### other names -/
mutual
def V.sub (ρ : Nat → Nat) : V → V
  | .ptr (some (r, i, j)) => .ptr (some (ρ r, i, j))
  | .sl (some (r, i, z)) n c => .sl (some (ρ r, i, z)) n c
  | .map (some r) => .map (some (ρ r))
  | .fn f a b => .fn f (V.subs ρ a) (V.subs ρ b)
  | .ifc t x => .ifc t (V.sub ρ x)
  | .agg cs => .agg (V.subs ρ cs)
  | .tup cs => .tup (V.subs ρ cs)
  | v => v
def V.subs (ρ : Nat → Nat) : List V → List V
  | [] => []
  | x :: xs => V.sub ρ x :: V.subs ρ xs
end
theorem V.subs_eq (ρ : Nat → Nat) : ∀ l, V.subs ρ l = l.map (V.sub ρ)
  | [] => by simp [V.subs]
  | x :: l => by simp [V.subs, V.subs_eq ρ l]
def Obj.sub (ρ : Nat → Nat) : Obj → Obj
  | .row sz es rw => .row sz (es.map fun e => e.map (V.sub ρ)) rw
  | .map es g => .map (es.map fun (k, v) => (V.sub ρ k, V.sub ρ v)) g
  | .iter r a b c => .iter (r.map ρ) a b c
mutual
theorem VR.of_sub {β : Pl} (ρ : Nat → Nat) : ∀ (x : V) (v : Value), VR β (x.sub ρ) v → VR (fun q => β (ρ q)) x v
  | .undef, _, h => by simp [VR]
  | .bool b, v, e => by simpa [VR, V.sub] using e
  | .int k n, v, e => by simpa [VR, V.sub] using e
  | .str s, v, e => by simpa [VR, V.sub] using e
  | .ptr none, v, e => by simpa [VR, V.sub] using e
  | .ptr (some (r, i, j)), v, e => by simpa [VR, V.sub] using e
  | .sl none n c, v, e => by simpa [VR, V.sub] using e
  | .sl (some (r, i, z)) n c, v, e => by simpa [VR, V.sub] using e
  | .map none, v, e => by simpa [VR, V.sub] using e
  | .map (some r), v, e => by simpa [VR, V.sub] using e
  | .fn f a b, v, e => by
    simp only [VR, V.sub] at e ⊢; obtain ⟨xs, ys, h1, h2, h3⟩ := e; exact ⟨xs, ys, h1, VRs.of_sub ρ a _ h2, VRs.of_sub ρ b _ h3⟩
  | .nilFn, v, e => by simpa [VR, V.sub] using e
  | .ifc t x, v, e => by
    simp only [VR, V.sub] at e ⊢; obtain ⟨y, h1, h2⟩ := e; exact ⟨y, h1, VR.of_sub ρ x _ h2⟩
  | .nilIfc, v, e => by simpa [VR, V.sub] using e
  | .agg cs, v, e => by
    simp only [VR, V.sub] at e ⊢; obtain ⟨xs, h1, h2⟩ := e; exact ⟨xs, h1, VRs.of_sub ρ cs _ h2⟩
  | .tup cs, v, e => by
    simp only [VR, V.sub] at e ⊢; obtain ⟨xs, h1, h2⟩ := e; exact ⟨xs, h1, VRs.of_sub ρ cs _ h2⟩
theorem VRs.of_sub {β : Pl} (ρ : Nat → Nat) : ∀ (xs : List V) (vs : List Value), VRs β (V.subs ρ xs) vs → VRs (fun q => β (ρ q)) xs vs
  | [], vs, e => by simpa [VRs, V.subs] using e
  | x :: xs, vs, e => by
    simp only [VRs, V.subs] at e ⊢; obtain ⟨y, ys, h1, h2, h3⟩ := e; exact ⟨y, ys, h1, VR.of_sub ρ x _ h2, VRs.of_sub ρ xs _ h3⟩
end
theorem V.isCell_sub (ρ : Nat → Nat) (v : V) : (v.sub ρ).isCell = v.isCell := by
  cases v
  case ptr a => cases a <;> rfl
  case sl a n c => cases a <;> rfl
  case map a => cases a <;> rfl
  all_goals rfl
mutual
theorem VR.sub_id {β : Pl} (ρ : Nat → Nat) (hρ : ∀ r l, β r = some l → ρ r = r) : ∀ (x : V) (v : Value), VR β x v → x.sub ρ = x
  | .undef, _, _ => rfl
  | .bool _, _, _ => rfl
  | .int _ _, _, _ => rfl
  | .str _, _, _ => rfl
  | .ptr none, _, _ => rfl
  | .ptr (some (r, i, j)), v, e => by simp only [VR] at e; obtain ⟨l, h, _⟩ := e; simp [V.sub, hρ _ _ h]
  | .sl none n c, _, _ => rfl
  | .sl (some (r, i, z)) n c, v, e => by simp only [VR] at e; obtain ⟨l, a, cap, h, _⟩ := e; simp [V.sub, hρ _ _ h]
  | .map none, _, _ => rfl
  | .map (some r), v, e => by simp only [VR] at e; obtain ⟨l, h, _⟩ := e; simp [V.sub, hρ _ _ h]
  | .fn f a b, v, e => by simp only [VR] at e; obtain ⟨xs, ys, _, h1, h2⟩ := e; simp [V.sub, VRs.sub_id ρ hρ a _ h1, VRs.sub_id ρ hρ b _ h2]
  | .nilFn, _, _ => rfl
  | .ifc t x, v, e => by simp only [VR] at e; obtain ⟨y, _, h⟩ := e; simp [V.sub, VR.sub_id ρ hρ x _ h]
  | .nilIfc, _, _ => rfl
  | .agg cs, v, e => by simp only [VR] at e; obtain ⟨xs, _, h⟩ := e; simp [V.sub, VRs.sub_id ρ hρ cs _ h]
  | .tup cs, v, e => by simp only [VR] at e; obtain ⟨xs, _, h⟩ := e; simp [V.sub, VRs.sub_id ρ hρ cs _ h]
theorem VRs.sub_id {β : Pl} (ρ : Nat → Nat) (hρ : ∀ r l, β r = some l → ρ r = r) : ∀ (xs : List V) (vs : List Value), VRs β xs vs → V.subs ρ xs = xs
  | [], _, _ => rfl
  | x :: xs, vs, e => by simp only [VRs] at e; obtain ⟨y, ys, _, h1, h2⟩ := e; simp [V.subs, VR.sub_id ρ hρ x _ h1, VRs.sub_id ρ hρ xs _ h2]
end
theorem VRs.forall_left {β : Pl} {p : V → Prop} (hp : ∀ x v, VR β x v → p x) : ∀ {xs : List V} {vs : List Value}, VRs β xs vs → ∀ x ∈ xs, p x
  | [], _, _, x, hx => by simp at hx
  | y :: ys, vs, e, x, hx => by
    simp only [VRs] at e; obtain ⟨v, vs', rfl, h1, h2⟩ := e
    rcases List.mem_cons.1 hx with rfl | hx
    · exact hp _ _ h1
    · exact VRs.forall_left hp h2 x hx
theorem ObjR.sub_id {base : Nat} {β : Pl} {w : World} {l : Loc} {o : Obj} (h : ObjR base β w l o) (ρ : Nat → Nat) (hρ : ∀ r l, β r = some l → ρ r = r) : o.sub ρ = o := by
  cases o with
  | row sz es rw =>
    simp only [ObjR] at h
    simp only [Obj.sub, Obj.row.injEq, true_and, and_true]
    conv => rhs; rw [← List.map_id es]
    apply List.map_congr_left
    intro e he
    obtain ⟨i, hi⟩ := List.getElem?_of_mem he
    conv => rhs; rw [id, ← List.map_id e]
    apply List.map_congr_left
    intro v hv
    obtain ⟨j, hj⟩ := List.getElem?_of_mem hv
    obtain ⟨_, cv, h1, _⟩ := (h.cells i e hi).2 j v hj
    exact VR.sub_id ρ hρ _ _ h1
  | iter r a b c =>
    simp only [ObjR] at h
    obtain ⟨mr, h1, h2, h3⟩ := h.ex
    cases r with
    | none => rfl
    | some q => obtain ⟨lq, e, _⟩ := h1 q rfl; simp only [Obj.sub, Option.map_some, hρ _ _ e]
  | map es g =>
    simp only [ObjR] at h
    obtain ⟨ces, h1, h2, h3, _⟩ := h.ex
    simp only [Obj.sub, Obj.map.injEq, and_true]
    conv => rhs; rw [← List.map_id es]
    apply List.map_congr_left
    intro ⟨k, v⟩ he
    have hk := VRs.forall_left (p := fun x => x.sub ρ = x) (fun x v h => VR.sub_id ρ hρ x v h) h2 k (List.mem_map.2 ⟨(k, v), he, rfl⟩)
    have hv := VRs.forall_left (p := fun x => x.sub ρ = x) (fun x v h => VR.sub_id ρ hρ x v h) h3 v (List.mem_map.2 ⟨(k, v), he, rfl⟩)
    simp only [hk, hv, id]
theorem ObjR.of_sub {base : Nat} {β : Pl} {w : World} {l : Loc} {o : Obj} (ρ : Nat → Nat) (h : ObjR base β w l (o.sub ρ)) : ObjR base (fun q => β (ρ q)) w l o := by
  cases o with
  | row sz es rw =>
    simp only [ObjR, Obj.sub] at h ⊢
    refine ⟨h.szeq, h.pos, by simpa using h.len, h.lt, h.own, fun i e he => ?_, fun hr i j h1 h2 h3 => h.rest hr i j (by simpa using h1) h2 h3, h.cold⟩
    obtain ⟨h1, h2⟩ := h.cells i (e.map (V.sub ρ)) (by simp [he])
    refine ⟨by simpa using h1, fun j v hv => ?_⟩
    obtain ⟨hc, cv, h3, h4⟩ := h2 j (v.sub ρ) (by simp [hv])
    exact ⟨by rw [V.isCell_sub] at hc; exact hc, cv, VR.of_sub ρ _ _ h3, h4⟩
  | iter r a b c =>
    simp only [ObjR, Obj.sub] at h ⊢
    obtain ⟨mr, h1, h2, h3⟩ := h.ex
    exact ⟨h.ge, h.b0, mr, fun q hq => h1 (ρ q) (by rw [hq]; rfl), fun hq => h2 (by rw [hq]; rfl), h3⟩
  | map es g =>
    simp only [ObjR, Obj.sub] at h ⊢
    obtain ⟨ces, h1, h2, h3, h4⟩ := h.ex
    refine ⟨h.ge, ces, h1, ?_, ?_, h4⟩
    · refine VRs.of_sub ρ _ _ ?_; rw [V.subs_eq]; simpa [List.map_map, Function.comp_def] using h2
    · refine VRs.of_sub ρ _ _ ?_; rw [V.subs_eq]; simpa [List.map_map, Function.comp_def] using h3
theorem Obj.rw_sub (ρ : Nat → Nat) (o : Obj) : (o.sub ρ).rw = o.rw := by cases o <;> rfl
theorem Apart.of_sub {ρ : Nat → Nat} {o o' : Obj} {l l' : Loc} (h : Apart (o.sub ρ) (o'.sub ρ) l l') : Apart o o' l l' := by cases o <;> cases o' <;> exact h
/-- The same under other names, and less of it: r2 and m2 are r and m' where q is called ρ q. -/
structure Names (m : Mem) (r : V) (m' : Mem) (ρ : Nat → Nat) (r2 : V) (m2 : Mem) : Prop where
  old : ∀ q, q < m.next → ρ q = q
  next : m.next ≤ m2.next
  inj : ∀ q q', q < m2.next → q' < m2.next → ρ q = ρ q' → q = q'
  out : ∀ q, m2.next ≤ q → m'.next ≤ ρ q
  val : r2.sub ρ = r
  obj : ∀ q o, m2.obj q = some o → (q < m2.next ∧ m'.obj (ρ q) = some (o.sub ρ)) ∨ (m.obj q = some o ∧ m'.obj q = some o)
theorem ACalls.norm {P : Program} {f : FuncId} {args : List V} {m : Mem} {K : KV} (h : ACalls P f args m (fun r m' => ∃ ρ r2 m2, Names m r m' ρ r2 m2 ∧ K r2 m2)) : ACalls P f args m K := by
  refine ⟨h.1, fun base w0 β w cargs hM hA => (h.2 base w0 β w cargs hM hA).mono fun e w' ⟨v, he, hp⟩ => ⟨v, he, ?_⟩⟩
  obtain ⟨β', r, m', h1, h2, h3, ρ, r2, m2, hn, hk⟩ := hp
  have hρ : ∀ q l, β q = some l → ρ q = q := fun q l hq => hn.old q (hM.dom q l hq)
  have key : ∀ q o, m2.obj q = some o → m'.obj (ρ q) = some (o.sub ρ) := by
    intro q o hq
    rcases hn.obj q o hq with h' | ⟨h4, h5⟩
    · exact h'.2
    · obtain ⟨l0, hl0⟩ := hM.has q o h4
      rw [(hM.objs q l0 o hl0 h4).sub_id ρ hρ, hρ q l0 hl0]; exact h5
  have lt : ∀ q o, m2.obj q = some o → q < m2.next := by
    intro q o hq
    rcases hn.obj q o hq with h' | ⟨h4, h5⟩
    · exact h'.1
    · exact Nat.lt_of_lt_of_le (hM.fresh q o h4) hn.next
  refine ⟨fun q => β' (ρ q), r2, m2, fun q l hq => ?_, VR.of_sub ρ _ _ (by rw [hn.val]; exact h2), ⟨h3.below, h3.le, fun q l hq => ?_, fun q o hq => h3.has _ _ (key q o hq), fun q l o hb hq => ObjR.of_sub ρ (h3.objs _ l _ hb (key q o hq)), ?_, h3.drawn, h3.gl⟩, hk⟩
  · show β' (ρ q) = some l
    rw [hρ q l hq]; exact h1 q l hq
  · rcases Nat.lt_or_ge q m2.next with h' | h'
    · exact h'
    · have := hn.out q h'
      have := h3.dom _ _ hq
      omega
  · intro q q' l l' o o' hne hb hb' hq hq' hrw
    refine Apart.of_sub (ρ := ρ) (h3.apart (ρ q) (ρ q') l l' _ _ (fun e => hne (hn.inj q q' (lt q o hq) (lt q' o' hq') e)) hb hb' (key q o hq) (key q' o' hq') ?_)
    rw [Obj.rw_sub, Obj.rw_sub]; exact hrw
mutual
/-- No names in it. -/
def V.flat : V → Bool
  | .undef | .bool _ | .int _ _ | .str _ | .ptr none | .sl none _ _ | .map none | .nilFn | .nilIfc => true
  | .agg cs | .tup cs => V.flats cs
  | _ => false
def V.flats : List V → Bool
  | [] => true
  | x :: xs => V.flat x && V.flats xs
end
mutual
theorem V.flat_sub (ρ : Nat → Nat) : ∀ v : V, v.flat = true → v.sub ρ = v
  | .undef, _ | .bool _, _ | .int _ _, _ | .str _, _ | .ptr none, _ | .sl none _ _, _ | .map none, _ | .nilFn, _ | .nilIfc, _ => rfl
  | .agg cs, h => by simp only [V.flat] at h; simp only [V.sub, V.flats_sub ρ cs h]
  | .tup cs, h => by simp only [V.flat] at h; simp only [V.sub, V.flats_sub ρ cs h]
  | .ptr (some _), h | .sl (some _) _ _, h | .map (some _), h | .fn _ _ _, h | .ifc _ _, h => by simp [V.flat] at h
theorem V.flats_sub (ρ : Nat → Nat) : ∀ l : List V, V.flats l = true → V.subs ρ l = l
  | [], _ => rfl
  | x :: xs, h => by simp only [V.flats, Bool.and_eq_true] at h; simp only [V.subs, V.flat_sub ρ x h.1, V.flats_sub ρ xs h.2]
end
/-- What was made on the way is forgotten: memory as it was, but for what m2 tells. -/
theorem ACalls.forget {P : Program} {f : FuncId} {args : List V} {m : Mem} {K : KV}
    (h : ACalls P f args m (fun r m' => r.flat = true ∧ m.next ≤ m'.next ∧ (∀ q, q < m.next → m'.obj q = m.obj q) ∧ K r m)) : ACalls P f args m K := by
  refine ACalls.norm ?_
  refine ⟨h.1, fun base w0 β w cargs hM hA => (h.2 base w0 β w cargs hM hA).mono fun e w' ⟨v, he, β', r, m', h1, h2, h3, h4, h5, h6, h7⟩ => ⟨v, he, β', r, m', h1, h2, h3, fun q => if q < m.next then q else q + m'.next, r, m, ⟨?_, Nat.le_refl _, ?_, ?_, V.flat_sub _ _ h4, ?_⟩, h7⟩⟩
  · intro q hq; simp [hq]
  · intro q q' hq hq' hh; simpa [hq, hq'] using hh
  · intro q hq; have : ¬ q < m.next := by omega
    simp [this]
  · intro q o hq
    exact .inr ⟨hq, by rw [h6 q (hM.fresh q o hq)]; exact hq⟩
end Go.AM
