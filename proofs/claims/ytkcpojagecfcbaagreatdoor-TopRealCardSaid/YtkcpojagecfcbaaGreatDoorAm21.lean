/-
  THE ABSTRACT MACHINE: loops told by what they turn; rules whose conditions are whole numbers'; slices of one's own, apart from one another. No Go program here.
-/
import Derived.Test.YtkcpojagecfcbaaGreatDoorAm20
namespace Go.AM
open Go
set_option linter.unusedVariables false
/-! ### rules with conditions, for omega -/
theorem w64 {n : Int} (h1 : -9223372036854775808 ≤ n) (h2 : n ≤ 9223372036854775807) : IntKind.i64.wrap n = n := IntWalk.i64_in n ⟨h1, h2⟩
theorem w32 {n : Int} (h1 : -2147483648 ≤ n) (h2 : n ≤ 2147483647) : IntKind.i32.wrap n = n := IntWalk.i32_in n ⟨h1, h2⟩
theorem wu64 {n : Int} (h1 : 0 ≤ n) (h2 : n ≤ 18446744073709551615) : IntKind.u64.wrap n = n := IntWalk.u64_in n ⟨h1, h2⟩
theorem wu32 {n : Int} (h1 : 0 ≤ n) (h2 : n ≤ 4294967295) : IntKind.u32.wrap n = n := IntWalk.u32_in n ⟨h1, h2⟩
theorem wu16 {n : Int} (h1 : 0 ≤ n) (h2 : n ≤ 65535) : IntKind.u16.wrap n = n := IntWalk.u16_in n ⟨h1, h2⟩
theorem wu8 {n : Int} (h1 : 0 ≤ n) (h2 : n ≤ 255) : IntKind.u8.wrap n = n := IntWalk.u8_in n ⟨h1, h2⟩
theorem iteY {α : Sort _} {c : Prop} [Decidable c] (h : c) (a b : α) : (if c then a else b) = a := if_pos h
theorem iteN {α : Sort _} {c : Prop} [Decidable c] (h : ¬ c) (a b : α) : (if c then a else b) = b := if_neg h
theorem decY {c : Prop} [Decidable c] (h : c) : decide c = true := decide_eq_true h
theorem decN {c : Prop} [Decidable c] (h : ¬ c) : decide c = false := decide_eq_false h
attribute [simp] w64 w32 wu64 wu32 wu16 wu8 iteY iteN decY decN
/-- Whole numbers, bit by bit. -/
def bAnd (k : IntKind) (a b : Int) : Int := k.wrap ((BitVec.ofInt k.bits a &&& BitVec.ofInt k.bits b).toNat : Nat)
def bOr (k : IntKind) (a b : Int) : Int := k.wrap ((BitVec.ofInt k.bits a ||| BitVec.ofInt k.bits b).toNat : Nat)
def bXor (k : IntKind) (a b : Int) : Int := k.wrap ((BitVec.ofInt k.bits a ^^^ BitVec.ofInt k.bits b).toNat : Nat)
def bAndNot (k : IntKind) (a b : Int) : Int := k.wrap ((BitVec.ofInt k.bits a &&& ~~~BitVec.ofInt k.bits b).toNat : Nat)
theorem bin_and' (k : IntKind) (a b : Int) : binV .and (.int k a) (.int k b) = some (.int k (bAnd k a b)) := bin_and k a b
theorem bin_or' (k : IntKind) (a b : Int) : binV .or (.int k a) (.int k b) = some (.int k (bOr k a b)) := bin_or k a b
theorem bin_xor' (k : IntKind) (a b : Int) : binV .xor (.int k a) (.int k b) = some (.int k (bXor k a b)) := bin_xor k a b
theorem bin_andNot' (k : IntKind) (a b : Int) : binV .andNot (.int k a) (.int k b) = some (.int k (bAndNot k a b)) := bin_andNot k a b
attribute [simp high] bin_and' bin_or' bin_xor' bin_andNot'
theorem updO {m : Mem} {r q : Nat} (o : Option Obj) (h : q ≠ r) : (m.upd r o).obj q = m.obj q := by rw [upd_obj, if_neg h]
theorem upd_new' (m : Mem) (o o' : Obj) : (m.new o).upd m.next (some o') = m.new o' := upd_new _ _ _ rfl
theorem upd_new2 (m : Mem) (a o o' : Obj) : ((m.new a).new o).upd (m.next + 1) (some o') = (m.new a).new o' := upd_new _ _ _ rfl
theorem upd_new3 (m : Mem) (a b o o' : Obj) : (((m.new a).new b).new o).upd (m.next + 1 + 1) (some o') = ((m.new a).new b).new o' := upd_new _ _ _ rfl
theorem upd_new4 (m : Mem) (a b c o o' : Obj) : ((((m.new a).new b).new c).new o).upd (m.next + 1 + 1 + 1) (some o') = (((m.new a).new b).new c).new o' := upd_new _ _ _ rfl
/-- An older object is turned ahead of the newer ones. -/
theorem upd_new1a (m : Mem) (o a o' : Obj) : ((m.new o).new a).upd m.next (some o') = (m.new o').new a := by
  simp only [Mem.upd, Mem.new, Mem.mk.injEq, and_true]; funext q
  by_cases h : q = m.next
  · subst h; simp
  · simp [h]
attribute [simp] upd_new' upd_new2 upd_new3 upd_new4 upd_new1a
/-! ### what comes behind is looked at only when it is reached -/
/-- A sign beside a thing: simp leaves the thing as it is. -/
inductive Tag {α : Sort _} (a : α) : Type where
  | mk
/-- A thing that simp leaves as it is. -/
def Hid {α : Sort _} (a : α) (t : Tag a) : α := a
theorem hid_kv (K : KV) (t : Tag K) (v : V) (m : Mem) : Hid K t v m = K v m := eqI rfl
def optT (o : Option V) (m : Mem) (K : KV) (t : Tag K) : Prop := opt o m K
theorem optT_some (v : V) (m : Mem) (K : KV) (t : Tag K) : optT (some v) m K t = K v m := eqI rfl
theorem optT_none (m : Mem) (K : KV) (t : Tag K) : optT none m K t = False := eqI rfl
/-- Slots and memory, reckoned out ahead of what comes behind. -/
def atE (e : Env) (m : Mem) (k : Env → Mem → Prop) (t : Tag k) : Prop := k e m
theorem atE_def (e : Env) (m : Mem) (k : Env → Mem → Prop) (t : Tag k) : atE e m k t = k e m := eqI rfl
/-- A value, and memory. -/
def opt2 (o : Option (V × Mem)) (K : KV) (t : Tag K) : Prop :=
  match o with
  | some (v, m) => K v m
  | none => False
theorem opt2_some (v : V) (m : Mem) (K : KV) (t : Tag K) : opt2 (some (v, m)) K t = K v m := eqI rfl
theorem opt2_none (K : KV) (t : Tag K) : opt2 none K t = False := eqI rfl
/-- What is told of a call, or the call. -/
def orCall (o : Option (V × Mem)) (K : KV) (alt : Prop) (t : Tag K) (t' : Tag alt) : Prop :=
  match o with
  | some (v, m) => K v m
  | none => alt
theorem orCall_some (v : V) (m : Mem) (K : KV) (alt : Prop) (t : Tag K) (t' : Tag alt) : orCall (some (v, m)) K alt t t' = K v m := eqI rfl
theorem orCall_none (K : KV) (alt : Prop) (t : Tag K) (t' : Tag alt) : orCall none K alt t t' = alt := eqI rfl
/-- One of two. -/
def condB (v : V) (A B : Prop) (t : Tag A) (t' : Tag B) : Prop :=
  match v with
  | .bool true => A
  | .bool false => B
  | _ => False
theorem condB_true (A B : Prop) (t : Tag A) (t' : Tag B) : condB (.bool true) A B t t' = A := eqI rfl
theorem condB_false (A B : Prop) (t : Tag A) (t' : Tag B) : condB (.bool false) A B t t' = B := eqI rfl
theorem condB_not (b : Bool) (A B : Prop) (t : Tag A) (t' : Tag B) : condB (.bool !b) A B t t' = condB (.bool b) B A t' t := by cases b <;> rfl
/-- Carried out, not carried out, or not reached. -/
def guardB (v : V) (b : Bool) (A B C : Prop) (t : Tag A) (t' : Tag B) (t'' : Tag C) : Prop :=
  match v with
  | .bool c => if c = b then A else B
  | .tup _ => C
  | _ => False
theorem guardB_tt (A B C : Prop) (t : Tag A) (t' : Tag B) (t'' : Tag C) : guardB (.bool true) true A B C t t' t'' = A := by simp [guardB]
theorem guardB_ff (A B C : Prop) (t : Tag A) (t' : Tag B) (t'' : Tag C) : guardB (.bool false) false A B C t t' t'' = A := by simp [guardB]
theorem guardB_tf (A B C : Prop) (t : Tag A) (t' : Tag B) (t'' : Tag C) : guardB (.bool true) false A B C t t' t'' = B := by simp [guardB]
theorem guardB_ft (A B C : Prop) (t : Tag A) (t' : Tag B) (t'' : Tag C) : guardB (.bool false) true A B C t t' t'' = B := by simp [guardB]
theorem guardB_tup (l : List V) (b : Bool) (A B C : Prop) (t : Tag A) (t' : Tag B) (t'' : Tag C) : guardB (.tup l) b A B C t t' t'' = C := eqI rfl
/-- What is appended. -/
def appO (sz bytes : Nat) (m : Mem) (s : V) (o : Option (List (List V))) (k : KV) (t : Tag k) : Prop :=
  match o with
  | some new => if 0 < sz then appendX sz bytes m s new k else False
  | none => False
theorem appO_some (sz bytes : Nat) (m : Mem) (s : V) (new : List (List V)) (k : KV) (t : Tag k) : appO (sz + 1) bytes m s (some new) k t = appendX (sz + 1) bytes m s new (Hid k .mk) := by simp [appO, Hid]
def copyO (sz : Nat) (m : Mem) (d : V) (o : Option (List (List V))) (k : KV) (t : Tag k) : Prop :=
  match o with
  | some es => copyX sz m d es k
  | none => False
theorem copyO_some (sz : Nat) (m : Mem) (s : V) (es : List (List V)) (k : KV) (t : Tag k) : copyO sz m s (some es) k t = copyX sz m s es (Hid k .mk) := eqI rfl
/-- A call of a value. -/
def callV (Γ : Ctx) (v : V) (args : List V) (m : Mem) (k : KV) (t : Tag k) : Prop :=
  match v with
  | .fn g a b => callX Γ g (a ++ args ++ b) m k
  | _ => False
theorem callV_fn (Γ : Ctx) (g : FuncId) (a b args : List V) (m : Mem) (k : KV) (t : Tag k) : callV Γ (.fn g a b) args m k t = callX Γ g (a ++ args ++ b) m k := eqI rfl
/-- Its cells; may it lie in one? (Told of a value only where its kind is known.) -/
def V.cs : V → List V := V.cells
def V.okc : V → Bool := V.isCell
theorem cs_eq : V.cs = V.cells := eqI rfl
theorem okc_eq : V.okc = V.isCell := eqI rfl
theorem cs_agg (l : List V) : V.cs (.agg l) = l := eqI rfl
theorem cs_bool (b : Bool) : V.cs (.bool b) = [.bool b] := eqI rfl
theorem cs_int (k : IntKind) (n : Int) : V.cs (.int k n) = [.int k n] := eqI rfl
theorem cs_str (s : ByteArray) : V.cs (.str s) = [.str s] := eqI rfl
theorem cs_ptr (a : Option (Nat × Nat × Nat)) : V.cs (.ptr a) = [.ptr a] := eqI rfl
theorem cs_sl (a : Option (Nat × Nat × Nat)) (n : Nat) (c : Option Nat) : V.cs (.sl a n c) = [.sl a n c] := eqI rfl
theorem cs_map (r : Option Nat) : V.cs (.map r) = [.map r] := eqI rfl
theorem cs_fn (f : FuncId) (a b : List V) : V.cs (.fn f a b) = [.fn f a b] := eqI rfl
theorem cs_nilFn : V.cs .nilFn = [.nilFn] := eqI rfl
theorem cs_ifc (t : TypeId) (v : V) : V.cs (.ifc t v) = [.ifc t v] := eqI rfl
theorem cs_nilIfc : V.cs .nilIfc = [.nilIfc] := eqI rfl
theorem okc_bool (b : Bool) : V.okc (.bool b) = true := eqI rfl
theorem okc_int (k : IntKind) (n : Int) : V.okc (.int k n) = true := eqI rfl
theorem okc_str (s : ByteArray) : V.okc (.str s) = true := eqI rfl
theorem okc_ptr (a : Option (Nat × Nat × Nat)) : V.okc (.ptr a) = true := eqI rfl
theorem okc_sl (a : Option (Nat × Nat × Nat)) (n : Nat) (c : Option Nat) : V.okc (.sl a n c) = true := eqI rfl
theorem okc_map (r : Option Nat) : V.okc (.map r) = true := eqI rfl
theorem okc_fn (f : FuncId) (a b : List V) : V.okc (.fn f a b) = true := eqI rfl
theorem okc_nilFn : V.okc .nilFn = true := eqI rfl
theorem okc_ifc (t : TypeId) (v : V) : V.okc (.ifc t v) = true := eqI rfl
theorem okc_nilIfc : V.okc .nilIfc = true := eqI rfl
attribute [simp] cs_agg cs_bool cs_int cs_str cs_ptr cs_sl cs_map cs_fn cs_nilFn cs_ifc cs_nilIfc okc_bool okc_int okc_str okc_ptr okc_sl okc_map okc_fn okc_nilFn okc_ifc okc_nilIfc
def fillT : List V → List (Nat × Nat × V) → Option (List V) := fillV
theorem fillT_eq : fillT = fillV := eqI rfl
theorem fillT_nil (z : List V) : fillT z [] = some z := eqI rfl
theorem fillT_cons (z : List V) (off n : Nat) (v : V) (rest : List (Nat × Nat × V)) : fillT z ((off, n, v) :: rest) = if v.cs.length = n ∧ off + n ≤ z.length ∧ v.cs.all V.okc then fillT (splice z off v.cs) rest else none := eqI rfl
attribute [simp] fillT_nil fillT_cons
def loadV (m : Mem) (v : V) (agg : Bool) (n : Nat) : Option V :=
  match v with
  | .ptr (some (r, i, j)) => match m.elt r i with
    | some cs => partV agg cs j n
    | none => none
  | _ => none
def storeV (m : Mem) (v : V) (n : Nat) (y : V) : Option (V × Mem) :=
  match v with
  | .ptr (some (r, i, j)) => match m.obj r with
    | some (.row sz es true) => match es[i]? with
      | some cs => if y.cs.length = n ∧ j + n ≤ cs.length ∧ y.cs.all V.okc then some (.tup [], m.upd r (some (.row sz (es.set i (splice cs j y.cs)) true))) else none
      | none => none
    | _ => none
  | _ => none
def nilckV (v : V) : Option V :=
  match v with
  | .ptr (some a) => some (.ptr (some a))
  | .fn f a b => some (.fn f a b)
  | _ => none
def convV (k : IntKind) : V → Option V
  | .int _ n => some (.int k (k.wrap n))
  | _ => none
def faddrV (off : Nat) : V → Option V
  | .ptr (some (r, i, j)) => some (.ptr (some (r, i, j + off)))
  | _ => none
def fieldV (agg : Bool) (off n : Nat) : V → Option V
  | .agg cs => partV agg cs off n
  | _ => none
def iaddrV (sz : Nat) (x i : V) : Option V :=
  match x, i with
  | .sl (some (r, i0, z)) n _, .int _ q => if 0 ≤ q ∧ q < n ∧ z = sz then some (.ptr (some (r, i0 + q.toNat, 0))) else none
  | _, _ => none
def iaddrAV (n sz : Nat) (x i : V) : Option V :=
  match x, i with
  | .ptr (some (r, i0, j)), .int _ q => if 0 ≤ q ∧ q < n then some (.ptr (some (r, i0, j + q.toNat * sz))) else none
  | _, _ => none
def indexV (agg : Bool) (n sz : Nat) (x i : V) : Option V :=
  match x, i with
  | .agg cs, .int _ q => if 0 ≤ q ∧ q < n then partV agg cs (q.toNat * sz) sz else none
  | _, _ => none
def indexSV (x i : V) : Option V :=
  match x, i with
  | .str s, .int _ k => if 0 ≤ k then (match s.data.toList[k.toNat]? with | some b => some (.int .u8 b.toNat) | none => none) else none
  | _, _ => none
def extractV (x : V) (i : Nat) : Option V :=
  match x with
  | .tup vs => vs[i]?
  | _ => none
def lenSl : V → Option V
  | .sl _ n _ => some (.int .i64 n)
  | _ => none
def lenStr : V → Option V
  | .str s => some (.int .i64 s.size)
  | _ => none
def capV : V → Option V
  | .sl _ _ (some c) => some (.int .i64 c)
  | _ => none
def eqVc (neg : Bool) (ks : List CK) (x y : V) : Option V := if ckAll ks [x] = true then (eqC x y).map (fun b => .bool (if neg then !b else b)) else none
def eqVa (neg : Bool) (ks : List CK) (x y : V) : Option V :=
  match x, y with
  | .agg xs, .agg ys => if ckAll ks xs = true ∧ ckAll ks ys = true then (eqCs xs ys).map (fun b => .bool (if neg then !b else b)) else none
  | _, _ => none
def buildV (z : List V) (ps : List (Nat × Nat × V)) : Option V := if z.all V.okc then (fillT z ps).map .agg else none
def buildSlV (m : Mem) (sz : Nat) (z : List V) (ps : List (Nat × Nat × V)) : Option (V × Mem) :=
  match fillT z ps with
  | some cs => if z.all V.okc ∧ 0 < sz then some (.sl (some (m.next, 0, sz)) (z.length / sz) (some (z.length / sz)), m.new (.row sz ((List.range (z.length / sz)).map fun i => (cs.drop (i * sz)).take sz) true)) else none
  | none => none
def allocV (m : Mem) (z : List V) : Option (V × Mem) := if z.all V.okc ∧ 0 < z.length then some (.ptr (some (m.next, 0, 0)), m.new (.row z.length [z] true)) else none
def mkSlV (m : Mem) (z : List V) (bytes : Nat) (l c : V) : Option (V × Mem) :=
  match l, c with
  | .int .i64 a, .int .i64 b =>
    if 0 ≤ a ∧ a ≤ b ∧ b * bytes ≤ 281474976710656 ∧ 0 < z.length ∧ z.all V.okc then some (.sl (some (m.next, 0, z.length)) a.toNat (some b.toNat), m.new (.row z.length (List.replicate b.toNat z) true)) else none
  | _, _ => none
def sliceX (sz : Nat) (x : V) (lo hi mx : Option V) : Option V :=
  match x with
  | .sl a n c => match sliceB n c lo hi mx with
    | some (l, h, c') => sliceV sz a l h c'
    | none => none
  | _ => none
section
variable {Γ : Ctx} {e : Env} {m : Mem} {K : KX} {KE : Env → Mem → Prop} {k : KV}
theorem exec_cond' (c : Opd) (a b : St) : exec Γ (.cond c a b) e m K = condB (ev e c) (exec Γ a e m K) (exec Γ b e m K) .mk .mk := by
  simp only [exec]; generalize ev e c = v
  cases v <;> try rfl
theorem exec_draw_f' (live : List Nat) (t : DTree) : exec Γ (.draw false live t) e m K = dexec Γ t e m fun e m => atE (keep live e) m (fun e m => K .normal e m) .mk := eqI rfl
/-- A region that draws its order. -/
def drawT (Γ : Ctx) (live : List Nat) (t : DTree) (e : Env) (m : Mem) (K : KX) (t1 : Tag K) (t2 : Tag t) : Prop := exec Γ (.draw true live t) e m K
theorem exec_draw_t' (live : List Nat) (t : DTree) : exec Γ (.draw true live t) e m K = drawT Γ live t e m K .mk .mk := eqI rfl
/-- All orders end alike. -/
theorem drawT_one {live : List Nat} {t : DTree} {t1 : Tag K} {t2 : Tag t} (h : ∃ e' m', dexec Γ t e m (fun e2 m2 => keep live e2 = e' ∧ m2 = m') ∧ K .normal e' m') : drawT Γ live t e m K t1 t2 :=
  let ⟨e', m', h1, h2⟩ := h
  exec_draw_one e' m' h1 h2
/-- All orders end in J. -/
theorem drawT_J {live : List Nat} {t : DTree} {t1 : Tag K} {t2 : Tag t} (J : Env → Mem → Prop) (h1 : dexec Γ t e m fun e2 m2 => atE (keep live e2) m2 (fun e m => J e m) .mk) (h2 : ∀ e' m', J e' m' → K .normal e' m') : drawT Γ live t e m K t1 t2 :=
  ⟨J, h1, h2⟩
theorem opx_mov' (x : Opd) : opx Γ (.mov x) e m k = optT (some (ev e x)) m k .mk := eqI rfl
theorem opx_mkFn' (f : FuncId) (a b : List Opd) : opx Γ (.mkFn f a b) e m k = optT (some (.fn f (a.map (ev e)) (b.map (ev e)))) m k .mk := eqI rfl
theorem endX_ret' (rs : List RV) : endX rs k .ret e m = optT (resV m e rs) m k .mk := eqI rfl
theorem endX_normal' (rs : List RV) : endX rs k .normal e m = optT (resV m e rs) m k .mk := eqI rfl
theorem opsx_guard' (d : Option Nat) (o : IR) (t : Nat) (b : Bool) (os : List IOp) : opsx Γ (⟨d, o, some (t, b)⟩ :: os) e m KE =
    guardB (e t) b (opx Γ o (e.put (some t) (.bool b)) m fun v m' => opsx Γ os ((e.put (some t) (.bool b)).put d v) m' KE) (opsx Γ os ((e.put (some t) (.bool !b)).put d (.tup [])) m KE) (opsx Γ os (e.put d (.tup [])) m KE) .mk .mk .mk := by
  rw [opsx_guard]; rfl
theorem dexec_guard' (d : Option Nat) (o : IR) (t : Nat) (b : Bool) (tr : DTree) : dexec Γ (.op ⟨d, o, some (t, b)⟩ tr) e m KE =
    guardB (e t) b (opx Γ o (e.put (some t) (.bool b)) m fun v m' => dexec Γ tr ((e.put (some t) (.bool b)).put d v) m' KE) (dexec Γ tr ((e.put (some t) (.bool !b)).put d (.tup [])) m KE) (dexec Γ tr (e.put d (.tup [])) m KE) .mk .mk .mk := by
  rw [dexec_guard]; rfl
theorem opx_pick' (c a b : Opd) : opx Γ (.pick c a b) e m k = condB (ev e c) (k (ev e a) m) (k (ev e b) m) .mk .mk := by
  simp only [opx]; generalize ev e c = v
  cases v <;> try rfl
  rename_i x; cases x <;> rfl
theorem opx_alloc' (z : List V) : opx Γ (.alloc z) e m k = opt2 (allocV m z) k .mk := by
  simp only [opx, allocV, okc_eq]; split <;> simp only [opt2]
theorem opx_box' (x : Opd) : opx Γ (.box x) e m k = opt2 (allocV m (ev e x).cs) k .mk := by
  simp only [opx, allocV, okc_eq, cs_eq]; split <;> simp only [opt2]
theorem opx_build' (z : List V) (ps : List (Nat × Nat × Opd)) : opx Γ (.build z ps) e m k = optT (buildV z (ps.map fun (o, n, x) => (o, n, ev e x))) m k .mk := by
  simp only [opx, buildV, okc_eq, fillT_eq]; split <;> rfl
theorem opx_load' (agg : Bool) (n : Nat) (x : Opd) : opx Γ (.load agg n x) e m k = optT (loadV m (ev e x) agg n) m k .mk := by
  simp only [opx, loadV]
  generalize ev e x = v
  cases v <;> try rfl
  rename_i a; cases a <;> try rfl
  rename_i a; obtain ⟨r, i, j⟩ := a
  simp only []
  generalize m.elt r i = o; cases o <;> rfl
theorem opx_store' (n : Nat) (x y : Opd) : opx Γ (.store n x y) e m k = opt2 (storeV m (ev e x) n (ev e y)) k .mk := by
  simp only [opx, storeV, okc_eq, cs_eq]
  generalize ev e x = v
  cases v <;> try rfl
  rename_i a; cases a <;> try rfl
  rename_i a; obtain ⟨r, i, j⟩ := a
  simp only []
  generalize m.obj r = o
  cases o <;> try rfl
  rename_i o; cases o <;> try rfl
  rename_i sz es rw; cases rw <;> try rfl
  simp only []
  generalize es[i]? = z
  cases z <;> try rfl
  simp only []
  split <;> rfl
theorem opx_nilck' (x : Opd) : opx Γ (.nilck x) e m k = optT (nilckV (ev e x)) m k .mk := by
  simp only [opx, nilckV]; generalize ev e x = v
  cases v <;> try rfl
  rename_i a; cases a <;> rfl
theorem opx_bin' (op : BinOp) (x y : Opd) : opx Γ (.bin op x y) e m k = optT (binV op (ev e x) (ev e y)) m k .mk := eqI rfl
theorem opx_eq_c' (neg : Bool) (ks : List CK) (x y : Opd) : opx Γ (.eq neg false ks x y) e m k = optT (eqVc neg ks (ev e x) (ev e y)) m k .mk := by
  simp only [opx, eqVc]; split <;> rfl
theorem opx_eq_a' (neg : Bool) (ks : List CK) (x y : Opd) : opx Γ (.eq neg true ks x y) e m k = optT (eqVa neg ks (ev e x) (ev e y)) m k .mk := by
  simp only [opx, eqVa]
  generalize ev e x = X; generalize ev e y = Y
  cases X <;> try rfl
  cases Y <;> try rfl
  simp only []
  split <;> rfl
theorem opx_un' (op : UnOp) (x : Opd) : opx Γ (.un op x) e m k = optT (unV op (ev e x)) m k .mk := eqI rfl
theorem opx_conv' (kk : IntKind) (x : Opd) : opx Γ (.conv kk x) e m k = optT (convV kk (ev e x)) m k .mk := by
  simp only [opx]; generalize ev e x = v; cases v <;> rfl
theorem opx_faddr' (off : Nat) (x : Opd) : opx Γ (.faddr off x) e m k = optT (faddrV off (ev e x)) m k .mk := by
  simp only [opx]; generalize ev e x = v; cases v <;> try rfl
  rename_i a; cases a <;> rfl
theorem opx_field' (agg : Bool) (off n : Nat) (x : Opd) : opx Γ (.field agg off n x) e m k = optT (fieldV agg off n (ev e x)) m k .mk := by
  simp only [opx]; generalize ev e x = v; cases v <;> rfl
theorem opx_iaddr' (sz : Nat) (x i : Opd) : opx Γ (.iaddr sz x i) e m k = optT (iaddrV sz (ev e x) (ev e i)) m k .mk := by
  simp only [opx, iaddrV]
  generalize ev e x = v; generalize ev e i = u
  cases v <;> try rfl
  rename_i a n c; cases a <;> try rfl
  rename_i a; obtain ⟨r, i0, z⟩ := a
  cases u <;> try rfl
  simp only []
  split <;> rfl
theorem opx_iaddrA' (n sz : Nat) (x i : Opd) : opx Γ (.iaddrA n sz x i) e m k = optT (iaddrAV n sz (ev e x) (ev e i)) m k .mk := by
  simp only [opx, iaddrAV]
  generalize ev e x = v; generalize ev e i = u
  cases v <;> try rfl
  rename_i a; cases a <;> try rfl
  rename_i a; obtain ⟨r, i0, z⟩ := a
  cases u <;> try rfl
  simp only []
  split <;> rfl
theorem opx_index' (agg : Bool) (n sz : Nat) (x i : Opd) : opx Γ (.index agg n sz x i) e m k = optT (indexV agg n sz (ev e x) (ev e i)) m k .mk := by
  simp only [opx, indexV]
  generalize ev e x = v; generalize ev e i = u
  cases v <;> try rfl
  cases u <;> try rfl
  simp only []
  split <;> rfl
theorem opx_indexS' (x i : Opd) : opx Γ (.indexS x i) e m k = optT (indexSV (ev e x) (ev e i)) m k .mk := by
  simp only [opx, indexSV]
  generalize ev e x = v; generalize ev e i = u
  cases v <;> try rfl
  cases u <;> try rfl
  rename_i s k n
  simp only []
  split
  · generalize s.data.toList[n.toNat]? = o; cases o <;> rfl
  · rfl
theorem opx_extract' (x : Opd) (i : Nat) : opx Γ (.extract x i) e m k = optT (extractV (ev e x) i) m k .mk := by
  simp only [opx]; generalize ev e x = v; cases v <;> rfl
theorem opx_len_sl' (x : Opd) : opx Γ (.len .sl x) e m k = optT (lenSl (ev e x)) m k .mk := by
  simp only [opx]; generalize ev e x = v; cases v <;> rfl
theorem opx_len_str' (x : Opd) : opx Γ (.len .str x) e m k = optT (lenStr (ev e x)) m k .mk := by
  simp only [opx]; generalize ev e x = v; cases v <;> rfl
theorem opx_cap' (x : Opd) : opx Γ (.cap x) e m k = optT (capV (ev e x)) m k .mk := by
  simp only [opx]; generalize ev e x = v; cases v <;> try rfl
  rename_i c; cases c <;> rfl
theorem opx_max' (xs : List Opd) : opx Γ (.max xs) e m k = optT (foldV max2V (xs.map (ev e))) m k .mk := eqI rfl
theorem opx_min' (xs : List Opd) : opx Γ (.min xs) e m k = optT (foldV min2V (xs.map (ev e))) m k .mk := eqI rfl
theorem opx_slice' (sz : Nat) (x : Opd) (lo hi mx : Option Opd) : opx Γ (.slice sz x lo hi mx) e m k = optT (sliceX sz (ev e x) (lo.map (ev e)) (hi.map (ev e)) (mx.map (ev e))) m k .mk := by
  simp only [opx, sliceX]
  generalize ev e x = v
  cases v <;> try rfl
  rename_i a n c
  simp only []
  generalize sliceB n c (lo.map (ev e)) (hi.map (ev e)) (mx.map (ev e)) = o
  cases o <;> rfl
theorem opx_sliceM' (sz : Nat) (x lo hi : Opd) : opx Γ (.sliceM sz x lo hi) e m k = optT (sliceMV sz m (ev e x) (ev e lo) (ev e hi)) m k .mk := eqI rfl
theorem opx_app' (sz bytes : Nat) (s x : Opd) : opx Γ (.app sz bytes s x) e m k = appO sz bytes m (ev e s) (eltsOf sz m (ev e x)) k .mk := eqI rfl
theorem opx_copy' (sz : Nat) (d s : Opd) : opx Γ (.copy sz d s) e m k = copyO sz m (ev e d) (eltsOf sz m (ev e s)) k .mk := eqI rfl
theorem opx_clear' (z : List V) (x : Opd) : opx Γ (.clear z x) e m k = clearX z m (ev e x) (Hid k .mk) := eqI rfl
theorem opx_buildSl' (sz : Nat) (z : List V) (ps : List (Nat × Nat × Opd)) : opx Γ (.buildSl sz z ps) e m k = opt2 (buildSlV m sz z (ps.map fun (o, n, x) => (o, n, ev e x))) k .mk := by
  simp only [opx, buildSlV, okc_eq, fillT_eq]
  generalize fillV z _ = o
  cases o <;> try rfl
  simp only []
  split <;> rfl
theorem opx_mkSl' (z : List V) (bytes : Nat) (l c : Opd) : opx Γ (.mkSl z bytes l c) e m k = opt2 (mkSlV m z bytes (ev e l) (ev e c)) k .mk := by
  simp only [opx, mkSlV, okc_eq]
  generalize ev e l = v; generalize ev e c = u
  cases v <;> try rfl
  rename_i k n
  cases u <;> try (cases k <;> rfl)
  rename_i k' n'
  cases k <;> cases k' <;> try rfl
  simp only []
  split <;> rfl
theorem opx_callv' (t : Nat) (args : List Opd) : opx Γ (.call (.t t) args) e m k = callV Γ (e t) (args.map (ev e)) m k .mk := eqI rfl
/-- A method through an interface: what is called is found by the type behind it. -/
def invV (Γ : Ctx) (tbl : List (TypeId × FuncId × Option (Bool × Nat))) (x : V) (args : List V) (m : Mem) (k : KV) (t : Tag k) : Prop := invX Γ tbl x args m k
theorem opx_invoke' (tbl : List (TypeId × FuncId × Option (Bool × Nat))) (x : Opd) (args : List Opd) : opx Γ (.invoke tbl x args) e m k = invV Γ tbl (ev e x) (args.map (ev e)) m k .mk := eqI rfl
theorem invV_here (t : TypeId) (f : FuncId) (tbl : List (TypeId × FuncId × Option (Bool × Nat))) (v : V) (args : List V) (tg : Tag k) : invV Γ ((t, f, none) :: tbl) (.ifc t v) args m k tg = callX Γ f (v :: args) m k := by
  simp [invV, invX, recvV]
theorem invV_load (t : TypeId) (f : FuncId) (agg : Bool) (n : Nat) (tbl : List (TypeId × FuncId × Option (Bool × Nat))) (v : V) (args : List V) (tg : Tag k) : invV Γ ((t, f, some (agg, n)) :: tbl) (.ifc t v) args m k tg = match loadV m v agg n with | some y => callX Γ f (y :: args) m k | none => False := by
  simp only [invV, invX, List.find?_cons, beq_self_eq_true]
  have : recvV m (some (agg, n)) v = loadV m v agg n := by
    unfold recvV loadV
    cases v <;> rfl
  rw [this]
  cases loadV m v agg n <;> rfl
theorem invV_next (t t' : TypeId) (a : FuncId × Option (Bool × Nat)) (tbl : List (TypeId × FuncId × Option (Bool × Nat))) (v : V) (args : List V) (tg : Tag k) (h : t' ≠ t) : invV Γ ((t', a) :: tbl) (.ifc t v) args m k tg = invV Γ tbl (.ifc t v) args m k tg := by
  have h' : (t' == t) = false := by simpa using h
  simp only [invV, invX, List.find?_cons, h']
theorem callX_of' (l : List (FuncId × AFn)) (f : FuncId) (args : List V) : callX (Ctx.of l) f args m k = orCall (look l f args m) k False .mk .mk := by
  rw [callX_of]; rfl
theorem callX_on' {P : Program} (l : List (FuncId × AFn)) (f : FuncId) (args : List V) : callX (Ctx.on P l) f args m k = orCall (look l f args m) k (ACalls P f args m (Hid k .mk)) .mk .mk := by
  rw [callX_on]; rfl
end
theorem loadV_ptr (m : Mem) (r i j : Nat) (agg : Bool) (n : Nat) : loadV m (.ptr (some (r, i, j))) agg n = match m.elt r i with | some cs => partV agg cs j n | none => none := eqI rfl
theorem storeV_ptr (m : Mem) (r i j n : Nat) (y : V) : storeV m (.ptr (some (r, i, j))) n y = match m.obj r with
    | some (.row sz es true) => (match es[i]? with
      | some cs => if y.cs.length = n ∧ j + n ≤ cs.length ∧ y.cs.all V.okc then some (.tup [], m.upd r (some (.row sz (es.set i (splice cs j y.cs)) true))) else none
      | none => none)
    | _ => none := eqI rfl
theorem nilckV_ptr (a : Nat × Nat × Nat) : nilckV (.ptr (some a)) = some (.ptr (some a)) := eqI rfl
theorem nilckV_fn (f : FuncId) (a b : List V) : nilckV (.fn f a b) = some (.fn f a b) := eqI rfl
theorem convV_int (k k' : IntKind) (n : Int) : convV k (.int k' n) = some (.int k (k.wrap n)) := eqI rfl
theorem faddrV_ptr (off r i j : Nat) : faddrV off (.ptr (some (r, i, j))) = some (.ptr (some (r, i, j + off))) := eqI rfl
theorem fieldV_agg (agg : Bool) (off n : Nat) (cs : List V) : fieldV agg off n (.agg cs) = partV agg cs off n := eqI rfl
theorem iaddrV_sl (sz r i0 z n : Nat) (c : Option Nat) (k : IntKind) (q : Int) : iaddrV sz (.sl (some (r, i0, z)) n c) (.int k q) = if 0 ≤ q ∧ q < n ∧ z = sz then some (.ptr (some (r, i0 + q.toNat, 0))) else none := eqI rfl
theorem iaddrAV_ptr (n sz r i0 j : Nat) (k : IntKind) (q : Int) : iaddrAV n sz (.ptr (some (r, i0, j))) (.int k q) = if 0 ≤ q ∧ q < n then some (.ptr (some (r, i0, j + q.toNat * sz))) else none := eqI rfl
theorem indexV_agg (agg : Bool) (n sz : Nat) (cs : List V) (k : IntKind) (q : Int) : indexV agg n sz (.agg cs) (.int k q) = if 0 ≤ q ∧ q < n then partV agg cs (q.toNat * sz) sz else none := eqI rfl
theorem indexSV_str (s : ByteArray) (k : IntKind) (q : Int) : indexSV (.str s) (.int k q) = if 0 ≤ q then (match s.data.toList[q.toNat]? with | some b => some (.int .u8 b.toNat) | none => none) else none := eqI rfl
theorem extractV_tup (vs : List V) (i : Nat) : extractV (.tup vs) i = vs[i]? := eqI rfl
theorem lenSl_sl (a : Option (Nat × Nat × Nat)) (n : Nat) (c : Option Nat) : lenSl (.sl a n c) = some (.int .i64 n) := eqI rfl
theorem lenStr_str (s : ByteArray) : lenStr (.str s) = some (.int .i64 s.size) := eqI rfl
theorem capV_sl (a : Option (Nat × Nat × Nat)) (n c : Nat) : capV (.sl a n (some c)) = some (.int .i64 c) := eqI rfl
theorem eqVc_def (neg : Bool) (ks : List CK) (x y : V) : eqVc neg ks x y = if ckAll ks [x] = true then (eqC x y).map (fun b => .bool (if neg then !b else b)) else none := eqI rfl
theorem eqVa_agg (neg : Bool) (ks : List CK) (xs ys : List V) : eqVa neg ks (.agg xs) (.agg ys) = if ckAll ks xs = true ∧ ckAll ks ys = true then (eqCs xs ys).map (fun b => .bool (if neg then !b else b)) else none := eqI rfl
theorem buildV_def (z : List V) (ps : List (Nat × Nat × V)) : buildV z ps = if z.all V.okc then (fillT z ps).map .agg else none := eqI rfl
theorem buildSlV_def (m : Mem) (sz : Nat) (z : List V) (ps : List (Nat × Nat × V)) : buildSlV m sz z ps = match fillT z ps with
  | some cs => if z.all V.okc ∧ 0 < sz then some (.sl (some (m.next, 0, sz)) (z.length / sz) (some (z.length / sz)), m.new (.row sz ((List.range (z.length / sz)).map fun i => (cs.drop (i * sz)).take sz) true)) else none
  | none => none := eqI rfl
theorem allocV_def (m : Mem) (z : List V) : allocV m z = if z.all V.okc ∧ 0 < z.length then some (.ptr (some (m.next, 0, 0)), m.new (.row z.length [z] true)) else none := eqI rfl
theorem mkSlV_int (m : Mem) (z : List V) (bytes : Nat) (a b : Int) : mkSlV m z bytes (.int .i64 a) (.int .i64 b) = if 0 ≤ a ∧ a ≤ b ∧ b * bytes ≤ 281474976710656 ∧ 0 < z.length ∧ z.all V.okc then some (.sl (some (m.next, 0, z.length)) a.toNat (some b.toNat), m.new (.row z.length (List.replicate b.toNat z) true)) else none := eqI rfl
theorem sliceX_sl (sz : Nat) (a : Option (Nat × Nat × Nat)) (n : Nat) (c : Option Nat) (lo hi mx : Option V) : sliceX sz (.sl a n c) lo hi mx = match sliceB n c lo hi mx with
    | some (l, h, c') => sliceV sz a l h c'
    | none => none := eqI rfl
attribute [simp↓ high] exec_cond' exec_draw_f' exec_draw_t' opx_mov' opx_mkFn' endX_ret' endX_normal' opsx_guard' dexec_guard' opx_pick' opx_alloc' opx_box' opx_build' opx_load' opx_store' opx_nilck' opx_bin' opx_eq_c' opx_eq_a' opx_un' opx_conv' opx_faddr' opx_field' opx_iaddr' opx_iaddrA' opx_index' opx_indexS' opx_extract'
  opx_len_sl' opx_len_str' opx_cap' opx_max' opx_min' opx_slice' opx_sliceM' opx_app' opx_copy' opx_clear' opx_buildSl' opx_mkSl' opx_callv' opx_invoke' callX_of' callX_on'
attribute [simp] hid_kv atE_def optT_some optT_none opt2_some opt2_none orCall_some orCall_none condB_true condB_false condB_not guardB_tt guardB_ff guardB_tf guardB_ft guardB_tup appO_some copyO_some callV_fn invV_here invV_load invV_next
  loadV_ptr storeV_ptr nilckV_ptr nilckV_fn convV_int faddrV_ptr fieldV_agg iaddrV_sl iaddrAV_ptr indexV_agg indexSV_str extractV_tup lenSl_sl lenStr_str capV_sl eqVc_def eqVa_agg buildV_def buildSlV_def allocV_def mkSlV_int sliceX_sl
/-! ### loops -/
/-- A loop that is entered with just the slots that it may look at. -/
def execLoop (Γ : Ctx) (live : List Nat) (b : St) (e : Env) (m : Mem) (K : KX) (t : Tag b) (t' : Tag K) : Prop :=
  ∃ (I : Nat → Env → Mem → Prop) (n : Nat), I n e m ∧ ∀ n e m, I n e m → exec Γ b e m (thenX (fun e m _ => ∃ n', n' < n ∧ I n' (keep live e) m) K)
theorem exec_loopE {Γ : Ctx} (live : List Nat) (b : St) (e : Env) (m : Mem) (K : KX) : exec Γ (.loop live b) e m K = execLoop Γ live b (keep live e) m K .mk .mk := eqI rfl
attribute [simp↓] exec_loopE
/-- These slots, of which some are turned. -/
def enU : List Nat → List (Nat × V) → Env → Env
  | [], _, _ => Env.none
  | d :: ds, ch, e => (enU ds ch e).put (some d) (match ch.lookup d with | some v => v | none => e d)
theorem enU_nil (ch : List (Nat × V)) (e : Env) : enU [] ch e = Env.none := eqI rfl
theorem enU_cons (d : Nat) (ds : List Nat) (ch : List (Nat × V)) (e : Env) : enU (d :: ds) ch e = (enU ds ch e).put (some d) (match ch.lookup d with | some v => v | none => e d) := eqI rfl
attribute [simp] enU_nil enU_cons List.lookup_cons List.lookup_nil
/-- What a loop turns, what holds, and how much is left. -/
structure Lp (σ : Type) where
  ch : σ → List (Nat × V)
  M : σ → Mem
  I : σ → Prop
  μ : σ → Nat
/-- The end of a round: one of the states again, with less before it. -/
def again {σ : Type} (live : List Nat) (L : Lp σ) (e : Env) (s : σ) (e' : Env) (m' : Mem) (t : Tag L) (t' : Tag e) : Prop :=
  ∃ s', L.I s' ∧ L.μ s' < L.μ s ∧ e' = enU live (L.ch s') e ∧ m' = L.M s'
theorem again_mk {σ : Type} {live : List Nat} {ch : σ → List (Nat × V)} {M : σ → Mem} {I : σ → Prop} {μ : σ → Nat} {e : Env} {s : σ} {e' : Env} {m' : Mem} {t : Tag (Lp.mk ch M I μ)} {t' : Tag e}
    (s' : σ) (h1 : I s') (h2 : μ s' < μ s) (h3 : e' = enU live (ch s') e) (h4 : m' = M s') : again live ⟨ch, M, I, μ⟩ e s e' m' t t' := ⟨s', h1, h2, h3, h4⟩
/-- A LOOP: what it turns (ch, M), what holds (I), and how much is left (μ). -/
theorem exec_loopU {Γ : Ctx} {live : List Nat} {b : St} {K : KX} {e : Env} {m : Mem} {t : Tag b} {t' : Tag K} {σ : Type} (ch : σ → List (Nat × V)) (M : σ → Mem) (I : σ → Prop) (μ : σ → Nat) (s : σ)
    (hm : m = M s) (hs : I s) (he : e = enU live (ch s) e)
    (hstep : ∀ s, I s → atE (enU live (ch s) e) (M s) (fun e1 m1 => exec Γ b e1 m1 (thenX (fun e' m' _ => again live ⟨ch, M, I, μ⟩ e s (keep live e') m' .mk .mk) K)) .mk) : execLoop Γ live b e m K t t' := by
  refine ⟨fun n e' m' => ∃ s, I s ∧ μ s = n ∧ e' = enU live (ch s) e ∧ m' = M s, μ s, ⟨s, hs, rfl, he, hm⟩, ?_⟩
  rintro n _ _ ⟨s, hs, rfl, rfl, rfl⟩
  have := hstep s hs
  have h2 : (thenX (fun e' m' _ => ∃ n', n' < μ s ∧ ∃ s', I s' ∧ μ s' = n' ∧ keep live e' = enU live (ch s') e ∧ m' = M s') K) = (thenX (fun e' m' _ => again live ⟨ch, M, I, μ⟩ e s (keep live e') m' .mk .mk) K) := by
    funext ex e m
    cases ex <;> try rfl
    simp only [thenX, again]
    apply propext
    exact ⟨fun ⟨n', h1, s', h2, h3, h4, h5⟩ => ⟨s', h2, by omega, h4, h5⟩, fun ⟨s', h2, h3, h4, h5⟩ => ⟨μ s', h3, s', h2, rfl, h4, h5⟩⟩
  rw [h2]; exact this
/-! ### slices of one's own, more than one -/
/-- The name of what it points into. -/
def V.addr : V → Option Nat
  | .sl (some (p, _, _)) _ _ => some p
  | _ => none
theorem Own.addr_lt {n0 : Nat} {m : Mem} {sz : Nat} {v : V} {es : List (List V)} (h : Own n0 m sz v es) {p : Nat} (hp : v.addr = some p) : n0 ≤ p ∧ p < m.next := by
  rcases h with ⟨rfl, rfl⟩ | ⟨q, rfl, h1, h2, h3, h4⟩
  · cases hp
  · simp only [V.addr, Option.some.injEq] at hp; subst hp; exact ⟨h1, h2⟩
theorem Own.of_ne {n0 : Nat} {m : Mem} {sz : Nat} {v : V} {es : List (List V)} (h : Own n0 m sz v es) (hne : es ≠ []) : ∃ q, v = .sl (some (q, 0, sz)) es.length none ∧ n0 ≤ q ∧ q < m.next ∧ m.obj q = some (.row sz es true) := by
  rcases h with ⟨rfl, rfl⟩ | ⟨q, rfl, h1, h2, h3, h4⟩
  · exact absurd rfl hne
  · exact ⟨q, rfl, h1, h2, h3⟩
theorem Own.grow {n0 : Nat} {m m' : Mem} {sz : Nat} {v : V} {es : List (List V)} (h : Own n0 m sz v es) (hg : m.Grew m') : Own n0 m' sz v es := h.keep hg.next fun p _ hp => hg.obj p hp
theorem appendX_own2 {n0 sz bytes : Nat} {m : Mem} {v : V} {es new : List (List V)} {K : KV} (h : Own n0 m sz v es) (hn : n0 ≤ m.next) (hnew : new ≠ []) (hb : (es.length + new.length) * bytes ≤ 140737488355328) (hl : es.length + new.length ≤ 9223372036854775807)
    (k : ∀ v' m', Own n0 m' sz v' (es ++ new) → m.But n0 v m' → m'.next = m.next + 1 → v'.addr = some m.next → K v' m') : appendX sz bytes m v new K := by
  rcases h with ⟨rfl, rfl⟩ | ⟨q, rfl, h1, h2, h3, h4⟩
  · simp only [appendX, if_neg hnew]
    rw [if_pos (by simp only [room]; simp only [List.length_nil, Nat.zero_add] at hb hl; exact ⟨hb, hl⟩)]
    refine k _ _ (.inr ⟨m.next, by simp, hn, by rw [new_next]; omega, by simp, by simpa using hnew⟩) ⟨by rw [new_next]; omega, fun p hp _ => by rw [new_obj, if_neg (by omega)]⟩ (by rw [new_next]) rfl
  · simp only [appendX, if_neg hnew, h3]
    rw [if_neg (by simp)]
    have hnl : 0 < new.length := List.length_pos_iff.2 hnew
    rw [if_neg (by omega), if_pos ⟨by simp only [room]; exact hb, hl, by omega⟩]
    rw [if_pos (by simp)]
    refine k _ _ (.inr ⟨m.next, by simp, hn, by rw [upd_next, new_next]; omega, ?_, by simp [h4]⟩) ⟨by rw [upd_next, new_next]; omega, fun p hp hv => ?_⟩ (by rw [upd_next, new_next]) rfl
    · rw [upd_obj, if_neg (by omega), new_obj, if_pos rfl]; simp
    · have : p ≠ q := by
        intro e; subst e
        rcases hv with hv | hv
        · omega
        · exact hv _ _ _ _ rfl
      rw [upd_obj, if_neg this, new_obj, if_neg (by omega)]
/-- An append to a slice of one's own, of memory that has grown since. -/
theorem appendX_own3 {n0 sz bytes : Nat} {m M : Mem} {v : V} {es new : List (List V)} {K : KV} (h : Own n0 m sz v es) (hg : m.Grew M) (hn : n0 ≤ m.next) (hnew : new ≠ []) (hb : (es.length + new.length) * bytes ≤ 140737488355328) (hl : es.length + new.length ≤ 9223372036854775807)
    (k : ∀ v' m', Own n0 m' sz v' (es ++ new) → (∀ p, p < M.next → (p < n0 ∨ m.next ≤ p ∨ v.addr ≠ some p) → m'.obj p = M.obj p) → m'.next = M.next + 1 → v'.addr = some M.next → K v' m') : appendX sz bytes M v new K := by
  refine appendX_own2 (h.grow hg) (Nat.le_trans hn hg.next) hnew hb hl fun v' m' h1 h2 h3 h4 => k v' m' h1 (fun p hp hc => h2.obj p hp ?_) h3 h4
  by_cases hp0 : p < n0
  · exact .inl hp0
  · right
    intro i z n c e
    subst e
    rcases hc with hc | hc | hc
    · omega
    · have := (h.addr_lt (p := p) rfl).2; omega
    · exact hc rfl
/-- Elements of a slice that is cut from one of one's own. -/
theorem Own.sub {n0 : Nat} {m : Mem} {sz : Nat} {v : V} {es : List (List V)} (h : Own n0 m sz v es) (l h' : Nat) (hl : l ≤ h') (hh : h' ≤ es.length) : ∃ w, sliceV sz (match v with | .sl a _ _ => a | _ => none) l h' (none.map (· - l)) = some w ∧ Slc m sz w ((es.take h').drop l) := by
  rcases h with ⟨rfl, rfl⟩ | ⟨q, rfl, h1, h2, h3, h4⟩
  · refine ⟨_, rfl, none, some 0, ?_, fun hne => absurd (by simp) hne⟩
    simp
  · by_cases h0 : l = 0
    · subst h0
      refine ⟨_, by simp only [sliceV, if_true]; rfl, _, none, by simp; rw [Nat.min_eq_left hh], fun _ => ⟨q, 0, es, true, rfl, h3, by simp; omega, fun j hj => ?_⟩⟩
      simp at hj ⊢
      rw [List.getElem?_take_of_lt (by omega)]
    · refine ⟨_, by simp only [sliceV, if_neg h0, if_true]; rfl, _, none, by simp; rw [Nat.min_eq_left hh], fun _ => ⟨q, 0 + l, es, true, rfl, h3, by simp; omega, fun j hj => ?_⟩⟩
      simp at hj ⊢
      rw [List.getElem?_take_of_lt (by omega)]
theorem Slc.len {m : Mem} {sz : Nat} {v : V} {es : List (List V)} (h : Slc m sz v es) : ∃ a c, v = .sl a es.length c := let ⟨a, c, h1, _⟩ := h; ⟨a, c, h1⟩
theorem Slc.of_ne {m : Mem} {sz : Nat} {v : V} {es : List (List V)} (h : Slc m sz v es) (hne : es ≠ []) : ∃ c r i full rw, v = .sl (some (r, i, sz)) es.length c ∧ m.obj r = some (.row sz full rw) ∧ i + es.length ≤ full.length ∧ ∀ j, j < es.length → full[i + j]? = es[j]? := by
  obtain ⟨a, c, h1, h2⟩ := h
  obtain ⟨r, i, full, rw, rfl, h3, h4, h5⟩ := h2 hne
  exact ⟨c, r, i, full, rw, h1, h3, h4, h5⟩
/-! ### slices that are read -/
/-- A slice that is there, whose elements are these. -/
structure Sl (m : Mem) (sz : Nat) (v : V) (es : List (List V)) : Prop where
  ex : ∃ a c, v = .sl a es.length c ∧ (es ≠ [] → ∃ r i full rw, a = some (r, i, sz) ∧ r < m.next ∧ m.obj r = some (.row sz full rw) ∧ i + es.length ≤ full.length ∧ ∀ j, j < es.length → full[i + j]? = es[j]?)
theorem Slc.sl {m : Mem} (hf : m.Fresh) {sz : Nat} {v : V} {es : List (List V)} (h : Slc m sz v es) : Sl m sz v es := by
  obtain ⟨a, c, rfl, h2⟩ := h
  refine ⟨a, c, rfl, fun hne => ?_⟩
  obtain ⟨r, i, full, rw, h3, h4, h5⟩ := h2 hne
  exact ⟨r, i, full, rw, h3, hf r _ h4, h4, h5⟩
theorem Sl.slc {m : Mem} {sz : Nat} {v : V} {es : List (List V)} (h : Sl m sz v es) : Slc m sz v es := by
  obtain ⟨a, c, rfl, h2⟩ := h.ex
  refine ⟨a, c, rfl, fun hne => ?_⟩
  obtain ⟨r, i, full, rw, h3, _, h4, h5⟩ := h2 hne
  exact ⟨r, i, full, rw, h3, h4, h5⟩
theorem Own.sl {n0 : Nat} {m : Mem} {sz : Nat} {v : V} {es : List (List V)} (h : Own n0 m sz v es) : Sl m sz v es := by
  rcases h with ⟨rfl, rfl⟩ | ⟨q, rfl, h1, h2, h3, h4⟩
  · exact ⟨none, some 0, rfl, fun hne => absurd rfl hne⟩
  · exact ⟨_, none, rfl, fun _ => ⟨q, 0, es, true, rfl, h2, h3, by omega, fun j _ => by rw [Nat.zero_add]⟩⟩
theorem Sl.nil (m : Mem) (sz : Nat) (a : Option (Nat × Nat × Nat)) (c : Option Nat) : Sl m sz (.sl a 0 c) [] := ⟨a, c, rfl, fun h => absurd rfl h⟩
theorem Sl.keep {m m' : Mem} {sz : Nat} {v : V} {es : List (List V)} (h : Sl m sz v es) (hn : m.next ≤ m'.next) (ho : ∀ p, p < m.next → v.addr = some p → m'.obj p = m.obj p) : Sl m' sz v es := by
  obtain ⟨a, c, rfl, h2⟩ := h.ex
  refine ⟨a, c, rfl, fun hne => ?_⟩
  obtain ⟨r, i, full, rw, rfl, h3, h4, h5⟩ := h2 hne
  exact ⟨r, i, full, rw, rfl, Nat.lt_of_lt_of_le h3 hn, by rw [ho r h3 rfl]; exact h4, h5⟩
theorem Sl.grow {m m' : Mem} {sz : Nat} {v : V} {es : List (List V)} (h : Sl m sz v es) (hg : m.Grew m') : Sl m' sz v es := h.keep hg.next fun p hp _ => hg.obj p hp
theorem Sl.lenSl {m : Mem} {sz : Nat} {v : V} {es : List (List V)} (h : Sl m sz v es) : lenSl v = some (.int .i64 es.length) := by
  obtain ⟨a, c, rfl, _⟩ := h.ex; rfl
theorem Sl.at {m : Mem} {sz : Nat} {v : V} {es : List (List V)} (h : Sl m sz v es) {i : Nat} {x : List V} (hx : es[i]? = some x) (k : IntKind) :
    ∃ p q full rw, iaddrV sz v (.int k i) = some (.ptr (some (p, q, 0))) ∧ p < m.next ∧ m.obj p = some (.row sz full rw) ∧ full[q]? = some x ∧ v.addr = some p := by
  obtain ⟨a, c, rfl, h2⟩ := h.ex
  have hi : i < es.length := (List.getElem?_eq_some_iff.1 hx).1
  obtain ⟨r, j, full, rw, rfl, h3, h4, h5, h6⟩ := h2 (fun e => by subst e; simp at hi)
  refine ⟨r, j + i, full, rw, ?_, h3, h4, by rw [h6 i hi]; exact hx, rfl⟩
  rw [iaddrV_sl, if_pos ⟨by omega, by omega, rfl⟩]; simp
theorem Sl.elts {m : Mem} {sz : Nat} {v : V} {es : List (List V)} (h : Sl m sz v es) : eltsOf sz m v = some es := by
  obtain ⟨a, c, rfl, h2⟩ := h.ex
  cases a with
  | none =>
    have : es = [] := by
      cases es with
      | nil => rfl
      | cons e es => obtain ⟨r, i, full, rw, h3, _⟩ := h2 (by simp); cases h3
    subst this; rfl
  | some a =>
    obtain ⟨r, i, z⟩ := a
    simp only [eltsOf]
    split
    · rename_i h0; rw [List.eq_nil_of_length_eq_zero h0]
    · rename_i h0
      obtain ⟨r', i', full, rw, h3, h4, h5, h6, h7⟩ := h2 (fun e => h0 (by rw [e]; rfl))
      injection h3 with h3; injection h3 with h3 h8; injection h8 with h8 h9; subst h3; subst h8; subst h9
      simp only [Mem.elts, h5, true_and]
      rw [if_pos h6]
      congr 1
      apply List.ext_getElem?
      intro j
      by_cases hj : j < es.length
      · rw [List.getElem?_take_of_lt hj, List.getElem?_drop]; exact h7 j hj
      · rw [List.getElem?_eq_none (by simp; omega), List.getElem?_eq_none (by omega)]
/-- A part of it. -/
theorem Sl.part {m : Mem} {sz : Nat} {v : V} {es : List (List V)} (h : Sl m sz v es) (lo hi : Nat) (hl : lo ≤ hi) (hh : hi ≤ es.length) (c' : Option Nat) :
    ∃ w, sliceV sz (match v with | .sl a _ _ => a | _ => none) lo hi c' = some w ∧ Sl m sz w ((es.take hi).drop lo) ∧ (w.addr = none ∨ w.addr = v.addr) := by
  obtain ⟨a, c, rfl, h2⟩ := h.ex
  have hlen : ((es.take hi).drop lo).length = hi - lo := by simp; omega
  cases a with
  | none =>
    have : es = [] := by
      cases es with
      | nil => rfl
      | cons e es => obtain ⟨r, i, full, rw, h3, _⟩ := h2 (by simp); cases h3
    subst this
    exact ⟨_, rfl, by simpa using Sl.nil m sz none (some 0), .inl rfl⟩
  | some a =>
    obtain ⟨r, i, z⟩ := a
    by_cases h0 : lo = 0
    · subst h0
      refine ⟨.sl (some (r, i, z)) hi c', by simp only [sliceV, if_true], ⟨some (r, i, z), c', by rw [hlen, Nat.sub_zero], fun hne => ?_⟩, .inr rfl⟩
      obtain ⟨r', i', full, rw, h3, h4, h5, h6, h7⟩ := h2 (fun e => hne (by rw [e]; simp))
      injection h3 with h3; injection h3 with h3 h8; injection h8 with h8 h9; subst h3; subst h8; subst h9
      refine ⟨_, _, full, rw, rfl, h4, h5, by rw [hlen]; omega, fun j hj => ?_⟩
      rw [hlen] at hj
      rw [h7 j (by omega), List.drop_zero, List.getElem?_take_of_lt (by omega)]
    · by_cases hz : es = []
      · subst hz
        have : lo = 0 := by simp at hh; omega
        exact absurd this h0
      obtain ⟨r', i', full, rw, h3, h4, h5, h6, h7⟩ := h2 hz
      injection h3 with h3; injection h3 with h3 h8; injection h8 with h8 h9; subst h3; subst h8; subst h9
      refine ⟨.sl (some (r, i + lo, z)) (hi - lo) c', by obtain ⟨_, _, _, _, e, _⟩ := h2 hz; simp at e; simp only [sliceV, if_neg h0, e, if_true], ⟨some (r, i + lo, z), c', by rw [hlen], fun hne => ?_⟩, .inr rfl⟩
      refine ⟨_, _, full, rw, rfl, h4, h5, by rw [hlen]; omega, fun j hj => ?_⟩
      rw [hlen] at hj
      rw [Nat.add_assoc, h7 (lo + j) (by omega), List.getElem?_drop, List.getElem?_take_of_lt (by omega)]
theorem Sl.cut {m : Mem} {sz : Nat} {v : V} {es : List (List V)} (h : Sl m sz v es) {lo hi : Option V} (l r : Nat) (hlo : lo = none ∧ l = 0 ∨ ∃ k, lo = some (.int k l)) (hhi : hi = none ∧ r = es.length ∨ ∃ k, hi = some (.int k r)) (hl : l ≤ r) (hr : r ≤ es.length) :
    ∃ w, sliceX sz v lo hi none = some w ∧ Sl m sz w ((es.take r).drop l) ∧ (w.addr = none ∨ w.addr = v.addr) := by
  obtain ⟨a, c, rfl, _⟩ := h.ex
  have e1 : sliceB es.length c lo hi none = some (l, r, c.map (· - l)) := by
    have hm : r ≤ Nat.max es.length (c.getD es.length) := Nat.le_trans hr (Nat.le_max_left _ _)
    have hz : ∀ n : Nat, (0 : Int) ≤ n := fun n => by omega
    rcases hlo with ⟨rfl, rfl⟩ | ⟨k, rfl⟩ <;> rcases hhi with ⟨rfl, rfl⟩ | ⟨k', rfl⟩ <;> simp only [sliceB, natOf, hz, if_true, Int.toNat_natCast] <;> rw [if_pos ⟨hl, hm⟩]
  obtain ⟨w, h1, h2⟩ := h.part l r hl hr (c.map (· - l))
  refine ⟨w, ?_, h2⟩
  simp only [sliceX, e1]
  exact h1
end Go.AM
