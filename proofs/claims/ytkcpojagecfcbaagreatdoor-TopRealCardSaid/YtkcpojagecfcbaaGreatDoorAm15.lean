/-
  THE ABSTRACT MACHINE, ITS RULES: what each statement comes to, for a step by step proof. No Go program here.
-/
import Derived.Test.YtkcpojagecfcbaaGreatDoorAm14
import Derived.IntWalk
namespace Go.AM
open Go
set_option linter.unusedVariables false
/-! ### functions by their specs -/
abbrev AFn := List V → Mem → Option (V × Mem)
def look : List (FuncId × AFn) → FuncId → AFn
  | [], _, _, _ => none
  | (g, F) :: l, f, args, m => if f = g then F args m else look l f args m
def Ctx.of (l : List (FuncId × AFn)) : Ctx := ⟨look l, fun _ _ _ _ => False⟩
/-- The function keeps to its spec. -/
def ASpec (P : Program) (f : FuncId) (F : AFn) : Prop := ∀ args m r m', F args m = some (r, m') → ACalls P f args m (fun r2 m2 => r2 = r ∧ m2 = m')
theorem ctx_nil (P : Program) : CtxOk P (Ctx.of []) := ⟨fun f args m r m' h => by simp [Ctx.of, look] at h, fun _ _ _ _ h => h.elim⟩
theorem ctx_cons {P : Program} {l : List (FuncId × AFn)} (h : CtxOk P (Ctx.of l)) {f : FuncId} {F : AFn} (hf : ASpec P f F) : CtxOk P (Ctx.of ((f, F) :: l)) := by
  refine ⟨fun g args m r m' hg => ?_, fun _ _ _ _ h => h.elim⟩
  simp only [Ctx.of, look] at hg
  split at hg
  · rename_i e; subst e; exact hf _ _ _ _ hg
  · exact h.det g args m r m' hg
/-- A function whose code is b. -/
structure Code1 (P : Program) (f : FuncId) (n : Nat) (b : IFn) : Prop where
  ex : ∃ fn, P.funcs[f]? = some fn ∧ (fn.name == "runtime.NumGoroutine") = false ∧ compFn P fn = some b ∧ fn.ntmps = n
theorem Code1.mk' {P : Program} {f : FuncId} {n : Nat} {b : IFn} {fn : Func} (h1 : P.funcs[f]? = some fn) (h2 : (fn.name == "runtime.NumGoroutine") = false) (h3 : compFn P fn = some b) (h4 : fn.ntmps = n) : Code1 P f n b := ⟨fn, h1, h2, h3, h4⟩
/-- All objects have names that were given. -/
def Mem.Fresh (m : Mem) : Prop := ∀ q o, m.obj q = some o → q < m.next
/-! ### rules -/
theorem eqI {α : Sort _} {a b : α} (h : a = b) : a = b := h
section
variable {Γ : Ctx} {e : Env} {m : Mem} {K : KX} {KE : Env → Mem → Prop} {k : KV}
theorem runF_def (fn : IFn) (args : List V) (k : KV) : runF Γ fn args m k = exec Γ fn.body (Env.args args) m (endX fn.results k) := eqI rfl
theorem endX_ret (rs : List RV) : endX rs k .ret e m = match resV m e rs with | some v => k v m | none => False := eqI rfl
theorem endX_normal (rs : List RV) : endX rs k .normal e m = match resV m e rs with | some v => k v m | none => False := eqI rfl
theorem resV_nil : resV m e [] = some (.tup []) := eqI rfl
theorem resV_slot (t : Nat) : resV m e [.slot t] = some (e t) := eqI rfl
theorem resV_two (a b : RV) (l : List RV) : resV m e (a :: b :: l) = (resAll m e (a :: b :: l)).map .tup := by
  simp only [resV, resAll]
  cases resOf m e a <;> cases resOf m e b <;> cases resAll m e l <;> rfl
theorem thenX_normal (f : Env → Mem → KX → Prop) : thenX f K .normal e m = f e m K := eqI rfl
theorem thenX_exit (f : Env → Mem → KX → Prop) (i : Nat) : thenX f K (.exit i) e m = K (.exit i) e m := eqI rfl
theorem thenX_ret (f : Env → Mem → KX → Prop) : thenX f K .ret e m = K .ret e m := eqI rfl
theorem blockX_normal (id : Nat) : blockX id K .normal e m = K .normal e m := eqI rfl
theorem blockX_exit (id i : Nat) : blockX id K (.exit i) e m = if i = id then K .normal e m else K (.exit i) e m := eqI rfl
theorem blockX_ret (id : Nat) : blockX id K .ret e m = K .ret e m := eqI rfl
theorem exec_skip : exec Γ .skip e m K = K .normal e m := eqI rfl
theorem exec_region (ops : List IOp) : exec Γ (.region ops) e m K = opsx Γ ops e m fun e m => K .normal e m := eqI rfl
theorem exec_draw_f (live : List Nat) (t : DTree) : exec Γ (.draw false live t) e m K = dexec Γ t e m fun e m => K .normal (keep live e) m := eqI rfl
theorem exec_seq (a b : St) : exec Γ (.seq a b) e m K = exec Γ a e m (thenX (exec Γ b) K) := eqI rfl
theorem exec_block (id : Nat) (b : St) : exec Γ (.block id b) e m K = exec Γ b e m (blockX id K) := eqI rfl
theorem exec_exit (id : Nat) : exec Γ (.exit id) e m K = K (.exit id) e m := eqI rfl
theorem exec_ret : exec Γ .ret e m K = K .ret e m := eqI rfl
theorem exec_cond (c : Opd) (a b : St) : exec Γ (.cond c a b) e m K = match ev e c with | .bool x => if x = true then exec Γ a e m K else exec Γ b e m K | _ => False := by
  simp only [exec]; generalize ev e c = v
  cases v <;> try rfl
  rename_i x; cases x <;> rfl
/-- An environment, slot by slot. -/
def en : List (Nat × V) → Env
  | [] => Env.none
  | (d, v) :: r => (en r).put (some d) v
theorem en_nil : en [] = Env.none := eqI rfl
theorem en_cons (d : Nat) (v : V) (r : List (Nat × V)) : en ((d, v) :: r) = (en r).put (some d) v := eqI rfl
/-- A drawn region of one end. -/
theorem exec_draw_one {live : List Nat} {t : DTree} (e' : Env) (m' : Mem) (h1 : dexec Γ t e m (fun e2 m2 => keep live e2 = e' ∧ m2 = m')) (h2 : K .normal e' m') : exec Γ (.draw true live t) e m K := ⟨fun a b => a = e' ∧ b = m', h1, fun _ _ ⟨q1, q2⟩ => by rw [q1, q2]; exact h2⟩
theorem opsx_nil : opsx Γ [] e m KE = KE e m := eqI rfl
theorem opsx_cons (d : Option Nat) (o : IR) (os : List IOp) : opsx Γ (⟨d, o, none⟩ :: os) e m KE = opx Γ o e m fun v m' => opsx Γ os (e.put d v) m' KE := eqI rfl
theorem opsx_guard (d : Option Nat) (o : IR) (t : Nat) (b : Bool) (os : List IOp) : opsx Γ (⟨d, o, some (t, b)⟩ :: os) e m KE =
    match e t with | .bool c => if c = b then (opx Γ o (e.put (some t) (.bool b)) m fun v m' => opsx Γ os ((e.put (some t) (.bool b)).put d v) m' KE) else opsx Γ os ((e.put (some t) (.bool !b)).put d (.tup [])) m KE | .tup _ => opsx Γ os (e.put d (.tup [])) m KE | _ => False := by
  simp only [opsx, gwant]
  cases h : e t <;> try rfl
  rename_i x
  have hp : ∀ v, e t = v → e.put (some t) v = e := fun v hv => by funext q; simp only [Env.put]; split <;> simp_all
  cases x <;> cases b <;> simp [hp _ h]
theorem dexec_done : dexec Γ .done e m KE = KE e m := eqI rfl
theorem dexec_op1 (d : Option Nat) (o : IR) (t : DTree) : dexec Γ (.op ⟨d, o, none⟩ t) e m KE = opx Γ o e m fun v m' => dexec Γ t (e.put d v) m' KE := eqI rfl
theorem dexec_guard (d : Option Nat) (o : IR) (t : Nat) (b : Bool) (tr : DTree) : dexec Γ (.op ⟨d, o, some (t, b)⟩ tr) e m KE =
    match e t with | .bool c => if c = b then (opx Γ o (e.put (some t) (.bool b)) m fun v m' => dexec Γ tr ((e.put (some t) (.bool b)).put d v) m' KE) else dexec Γ tr ((e.put (some t) (.bool !b)).put d (.tup [])) m KE | .tup _ => dexec Γ tr (e.put d (.tup [])) m KE | _ => False := by
  simp only [dexec, gwant]
  cases h : e t <;> try rfl
  rename_i x
  have hp : ∀ v, e t = v → e.put (some t) v = e := fun v hv => by funext q; simp only [Env.put]; split <;> simp_all
  cases x <;> cases b <;> simp [hp _ h]
theorem dexec_alt (a b : DTree) : dexec Γ (.alt a b) e m KE = (dexec Γ a e m KE ∧ dexec Γ b e m KE) := eqI rfl
theorem put_some (d : Nat) (v : V) (t : Nat) : (e.put (some d) v) t = if t = d then v else e t := eqI rfl
theorem put_none (v : V) : e.put none v = e := eqI rfl
theorem args_nil (t : Nat) : Env.args [] t = .undef := eqI rfl
theorem args_zero (v : V) (l : List V) : Env.args (v :: l) 0 = v := eqI rfl
theorem args_succ (v : V) (l : List V) (t : Nat) : Env.args (v :: l) (t + 1) = Env.args l t := eqI rfl
theorem keep_nil : keep [] e = Env.none := eqI rfl
theorem keep_cons (d : Nat) (ds : List Nat) : keep (d :: ds) e = (keep ds e).put (some d) (e d) := eqI rfl
theorem ev_t (t : Nat) : ev e (.t t) = e t := eqI rfl
theorem ev_c (v : V) : ev e (.c v) = v := eqI rfl
theorem ev_f (f : FuncId) : ev e (.f f) = .fn f [] [] := eqI rfl
theorem upd_obj (r q : Nat) (o : Option Obj) : (m.upd r o).obj q = if q = r then o else m.obj q := eqI rfl
theorem upd_next (r : Nat) (o : Option Obj) : (m.upd r o).next = m.next := eqI rfl
theorem new_obj (q : Nat) (o : Obj) : (m.new o).obj q = if q = m.next then some o else m.obj q := eqI rfl
theorem new_next (o : Obj) : (m.new o).next = m.next + 1 := eqI rfl
theorem upd_upd (r : Nat) (o o' : Option Obj) : (m.upd r o).upd r o' = m.upd r o' := by
  simp only [Mem.upd, Mem.mk.injEq, and_true]; funext q; split <;> rfl
theorem upd_new (o : Obj) (r : Nat) (o' : Obj) (h : r = m.next) : (m.new o).upd r (some o') = m.new o' := by
  subst h; simp only [Mem.upd, Mem.new, Mem.mk.injEq, and_true]; funext q; split <;> rfl
/-! ### operations -/
theorem opx_bad : opx Γ .bad e m k = False := eqI rfl
theorem opx_mov (x : Opd) : opx Γ (.mov x) e m k = k (ev e x) m := eqI rfl
theorem opx_pick (c a b : Opd) : opx Γ (.pick c a b) e m k = match ev e c with | .bool t => if t = true then k (ev e a) m else k (ev e b) m | _ => False := by
  simp only [opx]; generalize ev e c = v
  cases v <;> try rfl
  rename_i x; cases x <;> rfl
theorem opx_alloc (z : List V) : opx Γ (.alloc z) e m k = if z.all V.isCell ∧ 0 < z.length then k (.ptr (some (m.next, 0, 0))) (m.new (.row z.length [z] true)) else False := eqI rfl
theorem opx_box (x : Opd) : opx Γ (.box x) e m k = if (ev e x).cells.all V.isCell ∧ 0 < (ev e x).cells.length then k (.ptr (some (m.next, 0, 0))) (m.new (.row (ev e x).cells.length [(ev e x).cells] true)) else False := eqI rfl
theorem opx_build (z : List V) (ps : List (Nat × Nat × Opd)) : opx Γ (.build z ps) e m k = if z.all V.isCell then (match fillV z (ps.map fun (o, n, x) => (o, n, ev e x)) with | some cs => k (.agg cs) m | none => False) else False := by
  simp only [opx]; split
  · generalize fillV _ _ = o; cases o <;> rfl
  · rfl
theorem opx_load (agg : Bool) (n : Nat) (x : Opd) : opx Γ (.load agg n x) e m k = match ev e x with
    | .ptr (some (r, i, j)) => (match m.elt r i with
      | some cs => (match partV agg cs j n with | some v => k v m | none => False)
      | none => False)
    | _ => False := by
  simp only [opx]; generalize ev e x = v
  cases v <;> try rfl
theorem opx_store (n : Nat) (x y : Opd) : opx Γ (.store n x y) e m k = match ev e x with
    | .ptr (some (r, i, j)) => (match m.obj r with
      | some (.row sz es true) => (match es[i]? with
        | some cs => if (ev e y).cells.length = n ∧ j + n ≤ cs.length ∧ (ev e y).cells.all V.isCell then k (.tup []) (m.upd r (some (.row sz (es.set i (splice cs j (ev e y).cells)) true))) else False
        | none => False)
      | _ => False)
    | _ => False := eqI rfl
theorem opx_nilck (x : Opd) : opx Γ (.nilck x) e m k = match ev e x with
    | .ptr (some a) => k (.ptr (some a)) m
    | .fn f a b => k (.fn f a b) m
    | _ => False := eqI rfl
theorem opx_bin (op : BinOp) (x y : Opd) : opx Γ (.bin op x y) e m k = match binV op (ev e x) (ev e y) with | some v => k v m | none => False := eqI rfl
theorem opx_eq_c (neg : Bool) (ks : List CK) (x y : Opd) : opx Γ (.eq neg false ks x y) e m k = if ckAll ks [ev e x] = true then (match eqC (ev e x) (ev e y) with | some b => k (.bool (if neg then !b else b)) m | none => False) else False := by
  simp only [opx]
  split
  · generalize eqC _ _ = o; cases o <;> rfl
  · rfl
theorem opx_eq_a (neg : Bool) (ks : List CK) (x y : Opd) : opx Γ (.eq neg true ks x y) e m k = match ev e x, ev e y with
    | .agg xs, .agg ys => if ckAll ks xs = true ∧ ckAll ks ys = true then (match eqCs xs ys with | some b => k (.bool (if neg then !b else b)) m | none => False) else False
    | _, _ => False := by
  simp only [opx]
  generalize ev e x = X; generalize ev e y = Y
  cases X <;> try rfl
  cases Y <;> try rfl
  simp only []
  split
  · generalize eqCs _ _ = o; cases o <;> rfl
  · rfl
theorem opx_un (op : UnOp) (x : Opd) : opx Γ (.un op x) e m k = match unV op (ev e x) with | some v => k v m | none => False := eqI rfl
theorem opx_conv (kk : IntKind) (x : Opd) : opx Γ (.conv kk x) e m k = match ev e x with | .int _ n => k (.int kk (kk.wrap n)) m | _ => False := eqI rfl
theorem opx_faddr (off : Nat) (x : Opd) : opx Γ (.faddr off x) e m k = match ev e x with | .ptr (some (r, i, j)) => k (.ptr (some (r, i, j + off))) m | _ => False := eqI rfl
theorem opx_field (agg : Bool) (off n : Nat) (x : Opd) : opx Γ (.field agg off n x) e m k = match ev e x with | .agg cs => (match partV agg cs off n with | some v => k v m | none => False) | _ => False := eqI rfl
theorem opx_iaddr (sz : Nat) (x i : Opd) : opx Γ (.iaddr sz x i) e m k = match ev e x, ev e i with
    | .sl (some (r, i0, z)) n _, .int _ q => if 0 ≤ q ∧ q < n ∧ z = sz then k (.ptr (some (r, i0 + q.toNat, 0))) m else False
    | _, _ => False := eqI rfl
theorem opx_iaddrA (n sz : Nat) (x i : Opd) : opx Γ (.iaddrA n sz x i) e m k = match ev e x, ev e i with
    | .ptr (some (r, i0, j)), .int _ q => if 0 ≤ q ∧ q < n then k (.ptr (some (r, i0, j + q.toNat * sz))) m else False
    | _, _ => False := eqI rfl
theorem opx_index (agg : Bool) (n sz : Nat) (x i : Opd) : opx Γ (.index agg n sz x i) e m k = match ev e x, ev e i with
    | .agg cs, .int _ q => if 0 ≤ q ∧ q < n then (match partV agg cs (q.toNat * sz) sz with | some v => k v m | none => False) else False
    | _, _ => False := eqI rfl
theorem opx_extract (x : Opd) (i : Nat) : opx Γ (.extract x i) e m k = match ev e x with | .tup vs => (match vs[i]? with | some v => k v m | none => False) | _ => False := eqI rfl
theorem opx_len_sl (x : Opd) : opx Γ (.len .sl x) e m k = match ev e x with | .sl _ n _ => k (.int .i64 n) m | _ => False := by
  simp only [opx]; generalize ev e x = v; cases v <;> rfl
theorem opx_len_str (x : Opd) : opx Γ (.len .str x) e m k = match ev e x with | .str s => k (.int .i64 s.size) m | _ => False := by
  simp only [opx]; generalize ev e x = v; cases v <;> rfl
theorem opx_cap (x : Opd) : opx Γ (.cap x) e m k = match ev e x with | .sl _ _ (some c) => k (.int .i64 c) m | _ => False := eqI rfl
theorem opx_max (xs : List Opd) : opx Γ (.max xs) e m k = match foldV max2V (xs.map (ev e)) with | some v => k v m | none => False := eqI rfl
theorem opx_min (xs : List Opd) : opx Γ (.min xs) e m k = match foldV min2V (xs.map (ev e)) with | some v => k v m | none => False := eqI rfl
theorem opx_mkFn (f : FuncId) (a b : List Opd) : opx Γ (.mkFn f a b) e m k = k (.fn f (a.map (ev e)) (b.map (ev e))) m := eqI rfl
theorem opx_slice (sz : Nat) (x : Opd) (lo hi mx : Option Opd) : opx Γ (.slice sz x lo hi mx) e m k = match ev e x with
    | .sl a n c => (match sliceB n c (lo.map (ev e)) (hi.map (ev e)) (mx.map (ev e)) with
      | some (l, h, c') => (match sliceV sz a l h c' with | some v => k v m | none => False)
      | none => False)
    | _ => False := eqI rfl
theorem opx_app (sz bytes : Nat) (s x : Opd) : opx Γ (.app sz bytes s x) e m k = match eltsOf sz m (ev e x) with
    | some new => if 0 < sz then appendX sz bytes m (ev e s) new k else False
    | none => False := eqI rfl
theorem opx_copy (sz : Nat) (d s : Opd) : opx Γ (.copy sz d s) e m k = match eltsOf sz m (ev e s) with
    | some es => copyX sz m (ev e d) es k
    | none => False := eqI rfl
theorem opx_buildSl (sz : Nat) (z : List V) (ps : List (Nat × Nat × Opd)) : opx Γ (.buildSl sz z ps) e m k = match fillV z (ps.map fun (o, n, x) => (o, n, ev e x)) with
    | some cs => if z.all V.isCell ∧ 0 < sz then k (.sl (some (m.next, 0, sz)) (z.length / sz) (some (z.length / sz))) (m.new (.row sz ((List.range (z.length / sz)).map fun i => (cs.drop (i * sz)).take sz) true)) else False
    | none => False := eqI rfl
theorem opx_mkSl (z : List V) (bytes : Nat) (l c : Opd) : opx Γ (.mkSl z bytes l c) e m k = match ev e l, ev e c with
    | .int .i64 a, .int .i64 b =>
      if 0 ≤ a ∧ a ≤ b ∧ b * bytes ≤ 281474976710656 ∧ 0 < z.length ∧ z.all V.isCell then k (.sl (some (m.next, 0, z.length)) a.toNat (some b.toNat)) (m.new (.row z.length (List.replicate b.toNat z) true)) else False
    | _, _ => False := eqI rfl
theorem opx_call (f : FuncId) (args : List Opd) : opx Γ (.call (.f f) args) e m k = callX Γ f (args.map (ev e)) m k := by
  simp only [opx, ev]; simp
theorem opx_callv (t : Nat) (args : List Opd) : opx Γ (.call (.t t) args) e m k = match e t with | .fn g a b => callX Γ g (a ++ args.map (ev e) ++ b) m k | _ => False := eqI rfl
theorem callX_of (l : List (FuncId × AFn)) (f : FuncId) (args : List V) : callX (Ctx.of l) f args m k = match look l f args m with | some (r, m') => k r m' | none => False := by
  simp only [callX, Ctx.of]
  generalize look l f args m = o
  cases o <;> rfl
end
theorem elt_def (m : Mem) (r i : Nat) : m.elt r i = match m.obj r with | some (.row _ es _) => es[i]? | _ => none := eqI rfl
theorem max2V_int (k : IntKind) (x y : Int) : max2V (.int k x) (.int k y) = some (.int k (max x y)) := by
  simp only [max2V, if_true, Option.some.injEq, V.int.injEq, true_and]
  split <;> omega
theorem min2V_int (k : IntKind) (x y : Int) : min2V (.int k x) (.int k y) = some (.int k (min x y)) := by
  simp only [min2V, if_true, Option.some.injEq, V.int.injEq, true_and]
  split <;> omega
theorem foldV_one (f : V → V → Option V) (x : V) : foldV f [x] = some x := by simp [foldV, foldG]
theorem foldV_two (f : V → V → Option V) (x y : V) (l : List V) : foldV f (x :: y :: l) = match f x y with | some z => foldV f (z :: l) | none => none := by simp only [foldV, foldG]; generalize f x y = o; cases o <;> rfl
theorem ex_eq {α : Sort _} (a : α) : (∃ b, a = b) = True := propext ⟨fun _ => trivial, fun _ => ⟨a, rfl⟩⟩
theorem bin_add (k : IntKind) (a b : Int) : binV .add (.int k a) (.int k b) = some (.int k (k.wrap (a + b))) := by simp only [binV, intBin, if_true]
theorem bin_sub (k : IntKind) (a b : Int) : binV .sub (.int k a) (.int k b) = some (.int k (k.wrap (a - b))) := by simp only [binV, intBin, if_true]
theorem bin_mul (k : IntKind) (a b : Int) : binV .mul (.int k a) (.int k b) = some (.int k (k.wrap (a * b))) := by simp only [binV, intBin, if_true]
theorem bin_quo (k : IntKind) (a b : Int) : binV .quo (.int k a) (.int k b) = if b = 0 then none else some (.int k (k.wrap (a.tdiv b))) := by simp only [binV, intBin, if_true]
theorem bin_rem (k : IntKind) (a b : Int) : binV .rem (.int k a) (.int k b) = if b = 0 then none else some (.int k (a.tmod b)) := by simp only [binV, intBin, if_true]
theorem bin_and (k : IntKind) (a b : Int) : binV .and (.int k a) (.int k b) = some (.int k (k.wrap ((BitVec.ofInt k.bits a &&& BitVec.ofInt k.bits b).toNat : Nat))) := by simp only [binV, intBin, if_true]
theorem bin_or (k : IntKind) (a b : Int) : binV .or (.int k a) (.int k b) = some (.int k (k.wrap ((BitVec.ofInt k.bits a ||| BitVec.ofInt k.bits b).toNat : Nat))) := by simp only [binV, intBin, if_true]
theorem bin_xor (k : IntKind) (a b : Int) : binV .xor (.int k a) (.int k b) = some (.int k (k.wrap ((BitVec.ofInt k.bits a ^^^ BitVec.ofInt k.bits b).toNat : Nat))) := by simp only [binV, intBin, if_true]
theorem bin_andNot (k : IntKind) (a b : Int) : binV .andNot (.int k a) (.int k b) = some (.int k (k.wrap ((BitVec.ofInt k.bits a &&& ~~~BitVec.ofInt k.bits b).toNat : Nat))) := by simp only [binV, intBin, if_true]
theorem bin_eql (k : IntKind) (a b : Int) : binV .eql (.int k a) (.int k b) = some (.bool (decide (a = b))) := by simp only [binV, intBin, if_true]; by_cases h : a = b <;> simp [h]
theorem bin_neq (k : IntKind) (a b : Int) : binV .neq (.int k a) (.int k b) = some (.bool (!decide (a = b))) := by simp only [binV, intBin, if_true]; by_cases h : a = b <;> simp [h]
theorem bin_lss (k : IntKind) (a b : Int) : binV .lss (.int k a) (.int k b) = some (.bool (decide (a < b))) := by simp only [binV, intBin, if_true]
theorem bin_leq (k : IntKind) (a b : Int) : binV .leq (.int k a) (.int k b) = some (.bool (decide (a ≤ b))) := by simp only [binV, intBin, if_true]
theorem bin_gtr (k : IntKind) (a b : Int) : binV .gtr (.int k a) (.int k b) = some (.bool (decide (b < a))) := by simp only [binV, intBin, if_true, GT.gt]
theorem bin_geq (k : IntKind) (a b : Int) : binV .geq (.int k a) (.int k b) = some (.bool (decide (b ≤ a))) := by simp only [binV, intBin, if_true, GE.ge]
theorem bin_shl (k k' : IntKind) (a b : Int) : binV .shl (.int k a) (.int k' b) = if b < 0 then none else some (.int k (k.wrap (a * 2 ^ (min b.toNat k.bits)))) := by simp only [binV]
theorem bin_shr (k k' : IntKind) (a b : Int) : binV .shr (.int k a) (.int k' b) = if b < 0 then none else some (.int k (a.fdiv (2 ^ (min b.toNat k.bits)))) := by simp only [binV]
theorem bin_seq (a b : ByteArray) : binV .eql (.str a) (.str b) = some (.bool (a.toList == b.toList)) := eqI rfl
theorem bin_sne (a b : ByteArray) : binV .neq (.str a) (.str b) = some (.bool !(a.toList == b.toList)) := eqI rfl
theorem un_not (b : Bool) : unV .not (.bool b) = some (.bool !b) := eqI rfl
theorem un_neg (k : IntKind) (n : Int) : unV .neg (.int k n) = some (.int k (k.wrap (0 - n))) := eqI rfl
theorem un_xor (k : IntKind) (n : Int) : unV .xor (.int k n) = some (.int k (k.wrap ((BitVec.ofInt k.bits (if k.signed then -1 else k.max) ^^^ BitVec.ofInt k.bits n).toNat : Nat))) := eqI rfl
theorem bits_i8 : IntKind.i8.bits = 8 := eqI rfl
theorem bits_i16 : IntKind.i16.bits = 16 := eqI rfl
theorem bits_i32 : IntKind.i32.bits = 32 := eqI rfl
theorem bits_i64 : IntKind.i64.bits = 64 := eqI rfl
theorem bits_u8 : IntKind.u8.bits = 8 := eqI rfl
theorem bits_u16 : IntKind.u16.bits = 16 := eqI rfl
theorem bits_u32 : IntKind.u32.bits = 32 := eqI rfl
theorem bits_u64 : IntKind.u64.bits = 64 := eqI rfl
attribute [simp↓] runF_def exec_skip exec_region exec_draw_f exec_seq exec_block exec_exit exec_ret exec_cond thenX_normal thenX_exit thenX_ret blockX_normal blockX_exit blockX_ret endX_ret endX_normal
  opsx_nil opsx_cons opsx_guard dexec_done dexec_op1 dexec_guard dexec_alt
  opx_bad opx_mov opx_pick opx_alloc opx_box opx_build opx_load opx_store opx_nilck opx_bin opx_eq_c opx_eq_a opx_un opx_conv opx_faddr opx_field opx_iaddr opx_iaddrA opx_index opx_extract opx_len_sl opx_len_str opx_cap opx_max opx_min opx_mkFn
  opx_slice opx_app opx_copy opx_buildSl opx_mkSl opx_call opx_callv callX_of
attribute [simp] en_nil en_cons List.getElem?_cons_zero List.getElem?_cons_succ ex_eq resV_nil resV_slot resV_two resAll resOf put_some put_none args_nil args_zero args_succ keep_nil keep_cons ev_t ev_c ev_f upd_obj upd_next new_obj new_next upd_upd elt_def look
  V.cells V.isCell partV splice ckAll ckOk eqC eqCs foldV_one foldV_two max2V_int min2V_int fillV
attribute [simp] bin_add bin_sub bin_mul bin_quo bin_rem bin_and bin_or bin_xor bin_andNot bin_eql bin_neq bin_lss bin_leq bin_gtr bin_geq bin_shl bin_shr bin_seq bin_sne un_not un_neg un_xor bits_i8 bits_i16 bits_i32 bits_i64 bits_u8 bits_u16 bits_u32 bits_u64
end Go.AM
