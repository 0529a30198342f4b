/-
  THE ABSTRACT MACHINE AND THE MODEL: the operations of a program turned into those of the plain machine; each is sound. No Go program here.
-/
import Derived.Test.YtkcpojagecfcbaaGreatDoorAm61
namespace Go.AM
open Go
set_option linter.unusedVariables false
def partsOf (place : Nat → Option (Nat × Nat)) : List (Nat × Operand) → Option (List (Nat × Nat × Opd))
  | [] => some []
  | (k, x) :: r => match place k, partsOf place r with
    | some (o, n), some qs => some ((o, n, opd x) :: qs)
    | _, _ => none
/-- Keys of a type: whole numbers, or structs of two. -/
def keyTy (P : Program) (kT : TypeId) : Option Bool :=
  match P.underlying kT with
  | some (.int _) => some false
  | some (.struct fs) => if eqTags P 20 kT = some [.int, .int] ∧ (fs.toList.all fun f => (match P.info? f.type, P.underlying f.type with | some fi, some (.int _) => decide (fi.size = 1) | _, _ => false) && decide (f.offset < 2)) = true then some true else none
  | _ => none
theorem keyT_of {P : Program} {kT : TypeId} {pk : Bool} (h : keyTy P kT = some pk) {v : V} (hv : keyOk pk v = true) : ∃ ck, KeyV v ck ∧ KeyT P kT ck := by
  unfold keyTy at h
  split at h
  · rename_i kk hk
    injection h with h; subst h
    cases v <;> first | (simp [keyOk] at hv; done) | exact ⟨_, .int _ _, .int _ _ _ hk⟩
  · rename_i fs hk
    split at h
    · rename_i hc
      obtain ⟨h1, h2⟩ := hc
      injection h with h; subst h
      unfold keyOk at hv
      split at hv
      · rename_i e; cases e
      · refine ⟨_, .pair _ _ _ _, .pair fs _ _ _ _ hk h1 fun f hf => ?_⟩
        rw [List.all_eq_true] at h2
        have := h2 f (by simpa using hf)
        simp only [Bool.and_eq_true, decide_eq_true_eq] at this
        refine ⟨?_, this.2⟩
        obtain ⟨h3, _⟩ := this
        split at h3
        · rename_i fi fk e1 e2
          exact ⟨fi, fk, e1, of_decide_eq_true h3, e2⟩
        · cases h3
      · cases hv
    · cases h
  · cases h
def compBuiltin (P : Program) (b : Builtin) (ts : List TypeId) (args : List Operand) : IR :=
  match b, ts, args with
  | .append, [t, tx], [s, x] =>
    match P.underlying t with
    | some (.slice e) => match P.info? e with
      | some i => match i.zero with
        | some z =>
          match P.underlying tx with
          | some (.slice _) => if (z.cells.size = i.size ∧ 0 < i.size) ∧ (ofVal z).cells.all V.isCell = true then .app i.size i.bytes (opd s) (opd x) else .bad
          | some (.int .i64) => if (z.cells.size = i.size ∧ 0 < i.size) ∧ (ofVal z).cells.all V.isCell = true then .appZ (ofVal z).cells i.bytes (opd s) (opd x) else .bad
          | some .string => if (z.cells.size = i.size ∧ 0 < i.size) ∧ (ofVal z).cells.all V.isCell = true then .app i.size i.bytes (opd s) (opd x) else .bad
          | _ => .bad
        | none => .bad
      | none => .bad
    | _ => .bad
  | .len, [t], [x] =>
    match P.underlying t with
    | some .string => .len .str (opd x)
    | some (.slice _) => .len .sl (opd x)
    | some (.map _ _) => .len .map (opd x)
    | _ => .bad
  | .cap, [t], [x] =>
    match P.underlying t with
    | some (.slice _) => .cap (opd x)
    | _ => .bad
  | .copy, [t, tx], [d, s] =>
    match P.underlying t with
    | some (.slice e) => match P.info? e with
      | some i => if 0 < i.size then .copy i.size (opd d) (opd s) else .bad
      | none => .bad
    | _ => .bad
  | .clear, [t], [x] =>
    match P.underlying t with
    | some (.slice e) => match P.info? e with
      | some i => match i.zero with
        | some z => if z.cells.size = i.size then .clear ((ofVal z).cells) (opd x) else .bad
        | none => .bad
      | none => .bad
    | _ => .bad
  | .delete, [t, _], [x, k] =>
    match P.underlying t with
    | some (.map kT _) => match keyTy P kT with
      | some pk => .delete (opd x) (opd k) pk
      | none => .bad
    | _ => .bad
  | .max, _, xs => .max (xs.map opd)
  | .min, _, xs => .min (xs.map opd)
  | _, _, _ => .bad
def ifaceD : TypeDesc → Bool
  | .interface _ => true
  | _ => false
/-- How a type's variable is read. -/
def ldAt (P : Program) (t : TypeId) : Option (Bool × Nat) :=
  match P.info? t, P.underlying t with
  | some i, some d => some (aggD d, i.size)
  | _, _ => none
/-- Which function a method of a type is, and how its receiver is had: those of the type itself alone. -/
def invAt (P : Program) (n : String) (t : TypeId) : Option (FuncId × Option (Bool × Nat)) :=
  match P.info? t with
  | some i => match i.methods.find? (·.name == n) with
    | some mt => if mt.path = #[] then
        match mt.func, P.underlying t with
        | some (f, true), some (.pointer _) => some (f, none)
        | some (f, false), some (.pointer el) => match ldAt P el with
          | some a => some (f, some a)
          | none => none
        | some (f, false), some _ => some (f, none)
        | _, _ => none
      else none
    | none => none
  | none => none
def tblOf (P : Program) (n : String) : List (TypeId × FuncId × Option (Bool × Nat)) := (List.range P.types.size).filterMap fun t => (invAt P n t).map fun a => (t, a)
theorem tblOf_find {P : Program} {n : String} {t : TypeId} {x : TypeId × FuncId × Option (Bool × Nat)} (h : (tblOf P n).find? (·.1 == t) = some x) : x.1 = t ∧ invAt P n t = some x.2 := by
  have h1 : x.1 = t := by simpa using List.find?_some h
  have h2 := List.mem_of_find?_eq_some h
  unfold tblOf at h2
  obtain ⟨t', _, h3⟩ := List.mem_filterMap.1 h2
  cases e : invAt P n t' with
  | none => rw [e] at h3; cases h3
  | some a =>
    rw [e] at h3
    injection h3 with h3
    subst h3
    dsimp only at h1
    subst h1
    exact ⟨rfl, e⟩
def compOp (P : Program) (o : Op) : IR :=
  match o with
  | .move x => .mov (opd x)
  | .assign x => .mov (opd x)
  | .pick c a b => .pick (opd c) (opd a) (opd b)
  | .alloc t =>
    match P.info? t with
    | some i => match i.zero with
      | some z => .alloc (ofVal z).cells
      | none => .bad
    | none => .bad
  | .box t x => .box (opd x)
  | .build t ps =>
    match P.info? t with
    | some i => match i.zero with
      | some z => match P.underlying t with
        | some (.struct fs) => if fs.toList.all (fun f => (P.info? f.type).isSome) then (match partsOf (placeS P fs) ps.toList with
          | some qs => .build (ofVal z).cells qs
          | none => .bad) else .bad
        | some (.array n e) => match P.info? e with
          | some ei => (match partsOf (fun k => some (k * ei.size, ei.size)) ps.toList with
            | some qs => .build (ofVal z).cells qs
            | none => .bad)
          | none => .bad
        | _ => .bad
      | none => .bad
    | none => .bad
  | .buildSlice t n ps =>
    match P.underlying t with
    | some (.slice e) => match P.info? e with
      | some ei => match ei.zero with
        | some z => if z.cells.size = ei.size ∧ 0 < ei.size ∧ n * ei.size ≤ 2 ^ 24 then (match partsOf (fun k => some (k * ei.size, ei.size)) ps.toList with
          | some qs => .buildSl ei.size ((zerosOf z (n * ei.size)).map cellOf) qs
          | none => .bad) else .bad
        | none => .bad
      | none => .bad
    | _ => .bad
  | .load t a =>
    match P.info? t with
    | some i => match P.underlying t with
      | some d => .load (aggD d) i.size (opd a)
      | none => .bad
    | none => .bad
  | .store t a v =>
    match P.info? t with
    | some i => .store i.size (opd a) (opd v)
    | none => .bad
  | .nilCheck x => .nilck (opd x)
  | .binOp op t x y _ =>
    match op with
    | .eql =>
      match P.underlying t with
      | some (.int _) => .bin .eql (opd x) (opd y)
      | some .string => .bin .eql (opd x) (opd y)
      | some .bool => .eq false false [.bool] (opd x) (opd y)
      | some (.pointer _) => .eq false false [.ptr] (opd x) (opd y)
      | some (.slice _) => .eq false false [.sl] (opd x) (opd y)
      | some (.map _ _) => .eq false false [.map] (opd x) (opd y)
      | some (.struct _) => if P.eqGuardType P.depth t then .bad else (match eqTags P 20 t with
        | some ks => .eq false true ks (opd x) (opd y)
        | none => .bad)
      | some (.array _ _) => if P.eqGuardType P.depth t then .bad else (match eqTags P 20 t with
        | some ks => .eq false true ks (opd x) (opd y)
        | none => .bad)
      | _ => .bad
    | .neq =>
      match P.underlying t with
      | some (.int _) => .bin .neq (opd x) (opd y)
      | some .string => .bin .neq (opd x) (opd y)
      | some .bool => .eq true false [.bool] (opd x) (opd y)
      | some (.pointer _) => .eq true false [.ptr] (opd x) (opd y)
      | some (.slice _) => .eq true false [.sl] (opd x) (opd y)
      | some (.map _ _) => .eq true false [.map] (opd x) (opd y)
      | some (.struct _) => if P.eqGuardType P.depth t then .bad else (match eqTags P 20 t with
        | some ks => .eq true true ks (opd x) (opd y)
        | none => .bad)
      | some (.array _ _) => if P.eqGuardType P.depth t then .bad else (match eqTags P 20 t with
        | some ks => .eq true true ks (opd x) (opd y)
        | none => .bad)
      | _ => .bad
    | op => .bin op (opd x) (opd y)
  | .unOp op _ x => .un op (opd x)
  | .convert s d x =>
    match P.underlying s, P.underlying d with
    | some (.int _), some (.int k) => .conv k (opd x)
    | some .string, some .string => .convS (opd x)
    | some (.slice e), some .string => (match P.underlying e with
      | some (.int .u8) => .convBS (opd x)
      | _ => .bad)
    | _, _ => .bad
  | .makeInterface t x =>
    match P.underlying t with
    | some d => if ifaceD d then .bad else .mkIfc t (opd x)
    | none => .bad
  | .makeFunc (.func f) a b => .mkFn f (a.toList.map opd) (b.toList.map opd)
  | .makeSlice t l c =>
    match P.underlying t with
    | some (.slice e) => match P.info? e with
      | some i => match i.zero with
        | some z => if z.cells.size = i.size ∧ 0 < i.bytes then .mkSl (ofVal z).cells i.bytes (opd l) (opd c) else .bad
        | none => .bad
      | none => .bad
    | _ => .bad
  | .slice t x lo hi mx =>
    match P.underlying t with
    | some (.slice e) => match P.info? e with
      | some ei => match lo, hi, mx with
        | some l, some h, none => .sliceM ei.size (opd x) (opd l) (opd h)
        | _, _, _ => .slice ei.size (opd x) (lo.map opd) (hi.map opd) (mx.map opd)
      | none => .bad
    | some .string => if mx.isNone then .sliceS (opd x) (lo.map opd) (hi.map opd) else .bad
    | _ => .bad
  | .fieldAddr t x k =>
    match P.underlying t with
    | some (.struct fs) => match fs[k]? with
      | some f => match P.info? f.type with
        | some fi => if fi.size ≠ 0 then .faddr f.offset (opd x) else .bad
        | none => .bad
      | none => .bad
    | _ => .bad
  | .field t x k =>
    match P.underlying t with
    | some (.struct fs) => match fs[k]? with
      | some f => match P.info? f.type with
        | some fi => match P.underlying f.type with
          | some d => .field (aggD d) f.offset fi.size (opd x)
          | none => .bad
        | none => .bad
      | none => .bad
    | _ => .bad
  | .indexAddr t x i =>
    match P.underlying t with
    | some (.slice e) => match P.info? e with
      | some ei => .iaddr ei.size (opd x) (opd i)
      | none => .bad
    | some (.array n e) => match P.info? e with
      | some ei => .iaddrA n ei.size (opd x) (opd i)
      | none => .bad
    | _ => .bad
  | .index t x i =>
    match P.underlying t with
    | some (.array n e) => match P.info? e with
      | some ei => match P.underlying e with
        | some d => .index (aggD d) n ei.size (opd x) (opd i)
        | none => .bad
      | none => .bad
    | some .string => .indexS (opd x) (opd i)
    | _ => .bad
  | .makeMap _ none => .mkMap
  | .range t x =>
    match P.underlying t with
    | some (.map _ _) => .range (opd x)
    | _ => .bad
  | .next x false => .next (opd x)
  | .entry x => .entry (opd x)
  | .lookup t x i ok =>
    match P.underlying t with
    | some (.map kT eT) => match keyTy P kT with
      | some pk => match P.info? eT with
        | some ei => match ei.zero with
          | some z => .lookup (ofVal z) (opd x) (opd i) ok pk
          | none => .bad
        | none => .bad
      | none => .bad
    | _ => .bad
  | .mapUpdate t x k v =>
    match P.underlying t with
    | some (.map kT _) => match keyTy P kT with
      | some pk => .mapUpd (opd x) (opd k) (opd v) pk
      | none => .bad
    | _ => .bad
  | .extract x i => .extract (opd x) i
  | .call ⟨.value f, args, _⟩ => .call (opd f) (args.toList.map opd)
  | .call ⟨.builtin b, args, ts⟩ => compBuiltin P b ts.toList args.toList
  | .call ⟨.invoke r n, args, _⟩ => .invoke (tblOf P n) (opd r) (args.toList.map opd)
  | .typeAssert x _ t ok =>
    match P.underlying t with
    | some d => if ifaceD d then .bad else match P.info? t with
      | some i => match i.zero with
        | some z => .tassert t (ofVal z) (opd x) ok
        | none => .bad
      | none => .bad
    | none => .bad
  | _ => .bad
/-! ### a call -/
def Body (P : Program) (f : FuncId) : Prop := ∃ fn, P.funcs[f]? = some fn ∧ fn.body.isSome = true ∧ (fn.name == "runtime.NumGoroutine") = false
/-- How a call goes: a function that has a body is entered; one that has none runs here and now. -/
def Goes (P : Program) (f : FuncId) (args : Array Value) (w : World) (R : Ending → World → Prop) : Prop :=
  (Body P f → Calls P f args w R) ∧ (¬ Body P f → ∃ v w', (callFunc f args).run P w = .ok (.value v) w' ∧ R (.returned v) w')
theorem Goes.mono {P : Program} {f : FuncId} {args : Array Value} {w : World} {R R' : Ending → World → Prop} (h : Goes P f args w R) (k : ∀ e w', R e w' → R' e w') : Goes P f args w R' :=
  ⟨fun hb => (h.1 hb).mono k, fun hb => let ⟨v, w', h1, h2⟩ := h.2 hb; ⟨v, w', h1, k _ _ h2⟩⟩
/-- A CONTRACT over the plain machine's words. -/
def ACalls (P : Program) (f : FuncId) (args : List V) (m : Mem) (K : KV) : Prop :=
  True ∧ ∀ base w0 β w cargs, MR base w0 β m w → VRs β args cargs → Goes P f cargs.toArray w (fun e w' => ∃ v, e = .returned v ∧ Post base w0 β K v w')
structure CtxOk (P : Program) (Γ : Ctx) : Prop where
  det : ∀ f args m r m', Γ.det f args m = some (r, m') → ACalls P f args m (fun r2 m2 => r2 = r ∧ m2 = m')
  non : ∀ f args m K, Γ.non f args m K → ACalls P f args m K
theorem Post.imp {base : Nat} {w0 : World} {β : Pl} {K K' : KV} (h : ∀ r m, K r m → K' r m) {v : Value} {w : World} (k : Post base w0 β K v w) : Post base w0 β K' v w :=
  let ⟨β', r, m', h1, h2, h3, h4⟩ := k
  ⟨β', r, m', h1, h2, h3, h _ _ h4⟩
theorem ACalls.imp {P : Program} {f : FuncId} {args : List V} {m : Mem} {K K' : KV} (h : ∀ r m, K r m → K' r m) (k : ACalls P f args m K) : ACalls P f args m K' :=
  ⟨k.1, fun base w0 β w cargs hM hA => (k.2 base w0 β w cargs hM hA).mono fun e w' ⟨v, he, hp⟩ => ⟨v, he, hp.imp h⟩⟩
theorem callX_sound {P : Program} {Γ : Ctx} (hΓ : CtxOk P Γ) {f : FuncId} {args : List V} {m : Mem} {K : KV} (h : callX Γ f args m K) : ACalls P f args m K := by
  unfold callX at h
  split at h
  · rename_i r m' hd
    exact (hΓ.det _ _ _ _ _ hd).imp fun r2 m2 ⟨e1, e2⟩ => by subst e1; subst e2; exact h
  · exact hΓ.non _ _ _ _ h
/-- What an operation has come to. -/
def Yields (P : Program) (r : Result Next) (R : Value → World → Prop) : Prop :=
  match r with
  | .ok (.value v) w' => R v w'
  | .ok .skip w' => R undef w'
  | .ok (.enter f args) w' => Calls P f args w' (fun e w'' => ∃ v, e = .returned v ∧ R v w'')
  | _ => False
theorem Yields.wp {P : Program} {o : Oper} {a : Act} {w : World} {next : Act → World → Prop} {Q : Exit → Act → World → Prop} {R : Value → World → Prop} (h : Yields P ((execOp a.eval o).run P w) R)
    (k : ∀ v w', R v w' → next (a.put o.dst v) w') : o.wp P a w next Q := by
  unfold Oper.wp
  generalize (execOp a.eval o).run P w = r at h
  unfold Yields at h
  split at h
  · exact k _ _ h
  · exact k _ _ h
  · exact h.mono fun e w'' ⟨v, he, hR⟩ => by subst he; exact k _ _ hR
  · exact h.elim
theorem Gives.yields {P : Program} {s : Sem Value} {w : World} {R : Value → World → Prop} (h : Gives P s w R) : Yields P ((s >>= fun v => (Pure.pure (Next.value v) : Sem Next)).run P w) R := by
  obtain ⟨v, w', h1, h2⟩ := h
  simp only [Sem.run_bind, h1, Result.andThen_ok, Yields]; exact h2
section
variable {P : Program} {base : Nat} {w0 : World} {β : Pl} {m : Mem} {w : World} {K : KV} {e : Env} {a : Act}
theorem parts_rel (hE : EnvR β e a.tmps) {place : Nat → Option (Nat × Nat)} : ∀ {ps : List (Nat × Operand)} {qs : List (Nat × Nat × Opd)}, partsOf place ps = some qs → PartsR β place (ps.map fun (i, x) => (i, a.eval x)) (qs.map fun (o, n, x) => (o, n, ev e x))
  | [], qs, h => by simp only [partsOf, Option.some.injEq] at h; subst h; simp [PartsR]
  | (k, x) :: r, qs, h => by
    simp only [partsOf] at h
    split at h
    · rename_i o n qs' h1 h2
      injection h with h; subst h
      simp only [List.map_cons, PartsR]
      exact ⟨h1, ev_rel hE x, parts_rel hE h2⟩
    · cases h
theorem opt_rel (hE : EnvR β e a.tmps) (x : Option Operand) : OptR β ((x.map opd).map (ev e)) (x.map a.eval) := by
  cases x with
  | none => simp [OptR]
  | some x => exact ev_rel hE x
theorem ofVal_cells {z : Value} (h : (ofVal z).cells.all V.isCell = true) (β : Pl) : VRs β (ofVal z).cells z.cells.toList := (ofVal_rel β z).cells h
theorem cells_rel (β : Pl) : ∀ l : List Value, VRs β (l.map cellOf) l
  | [] => by simp [VRs]
  | v :: l => by simp only [List.map_cons, VRs]; exact ⟨v, l, rfl, cellOf_rel β v, cells_rel β l⟩
theorem eqGuard_cells (op : BinOp) (t : TypeId) (x y : Operand) {u v : Value} (hu : (∀ cs, u ≠ .agg cs) ∧ u ≠ .nilIface) : (eqGuard op t x y u v).run P w = .ok () w := by
  cases u <;> first
    | exact absurd rfl hu.2
    | exact absurd rfl (hu.1 _)
    | (cases op <;> rfl)
theorem splice_full (sz : Nat) (cs : List V) : ∀ n, cs.length = n * sz → ((List.range n).map fun i => (cs.drop (i * sz)).take sz).flatten = cs := by
  intro n
  induction n generalizing cs with
  | zero => intro h; have : cs = [] := List.eq_nil_of_length_eq_zero (by simpa using h); subst this; simp
  | succ n ih =>
    intro h
    rw [List.range_succ_eq_map]
    simp only [List.map_cons, List.map_map, List.flatten_cons, Nat.zero_mul, List.drop_zero]
    have h1 := ih (cs.drop sz) (by simp [h, Nat.add_mul])
    have h2 : ((fun i => (cs.drop (i * sz)).take sz) ∘ Nat.succ) = fun i => ((cs.drop sz).drop (i * sz)).take sz := by
      funext i; simp only [Function.comp, List.drop_drop]; congr 2; rw [Nat.succ_mul]; omega
    rw [h2, h1, List.take_append_drop]
end
end Go.AM
