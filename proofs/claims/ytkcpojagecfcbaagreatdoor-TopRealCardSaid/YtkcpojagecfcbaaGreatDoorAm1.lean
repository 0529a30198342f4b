/-
  THE ABSTRACT MACHINE, ITS WORDS: values, memory and statements of a plain machine; what each does. No Go program here.
-/
import Derived.WalkKit
import Derived.Below
import Derived.Orders
namespace Go.AM
open Go
set_option linter.unusedVariables false
/-- A value of the plain machine. Addresses name objects by numbers of the machine's own. -/
inductive V where
  | undef
  | bool (b : Bool)
  | int (k : IntKind) (n : Int)
  | str (s : ByteArray)
  | ptr (a : Option (Nat × Nat × Nat))
  | sl (a : Option (Nat × Nat × Nat)) (len : Nat) (cap : Option Nat)
  | map (r : Option Nat)
  | fn (f : FuncId) (first captured : List V)
  | nilFn
  | ifc (t : TypeId) (v : V)
  | nilIfc
  | agg (cs : List V)
  | tup (vs : List V)
  deriving Inhabited
def V.cells : V → List V
  | .agg cs => cs
  | v => [v]
/-- May it lie in one cell? -/
def V.isCell : V → Bool
  | .undef | .agg _ | .tup _ => false
  | _ => true
/-- An object: a row of elements of 'sz' cells each (may it be written?), or a map. -/
inductive Obj where
  | row (sz : Nat) (es : List (List V)) (rw : Bool)
  | map (es : List (V × V)) (g : List Nat × Nat)
  | iter (r : Option Nat) (since : Nat) (seen : List Nat) (stepped : Nat)
  deriving Inhabited
structure Mem where
  obj : Nat → Option Obj
  next : Nat
def Mem.empty : Mem := ⟨fun _ => none, 0⟩
/-- Object r is o (or gone). -/
def Mem.upd (m : Mem) (r : Nat) (o : Option Obj) : Mem := ⟨fun q => if q = r then o else m.obj q, m.next⟩
/-- A new object. -/
def Mem.new (m : Mem) (o : Obj) : Mem := ⟨fun q => if q = m.next then some o else m.obj q, m.next + 1⟩
abbrev Env := Nat → V
def Env.put (e : Env) (d : Option Nat) (v : V) : Env :=
  match d with
  | some d => fun t => if t = d then v else e t
  | none => e
def Env.args : List V → Env := fun l t => l.getD t .undef
inductive Opd where
  | t (n : Nat)
  | c (v : V)
  | f (f : FuncId)
  deriving Inhabited
def ev (e : Env) : Opd → V
  | .t n => e n
  | .c v => v
  | .f f => .fn f [] []
/-- What a cell that is compared holds. -/
inductive CK where
  | bool | int | str | ptr | sl | map
  deriving DecidableEq
def ckOk : CK → V → Bool
  | .bool, .bool _ => true
  | .int, .int _ _ => true
  | .str, .str _ => true
  | .ptr, .ptr _ => true
  | .sl, .sl _ _ _ => true
  | .map, .map _ => true
  | _, _ => false
def ckAll : List CK → List V → Bool
  | [], [] => true
  | k :: ks, x :: xs => ckOk k x && ckAll ks xs
  | _, _ => false
inductive IR where
  | bad
  | mov (x : Opd)
  | pick (c a b : Opd)
  | alloc (z : List V)
  | box (x : Opd)
  | build (z : List V) (parts : List (Nat × Nat × Opd))
  | buildSl (sz : Nat) (z : List V) (parts : List (Nat × Nat × Opd))
  | load (agg : Bool) (n : Nat) (x : Opd)
  | store (n : Nat) (x y : Opd)
  | nilck (x : Opd)
  | bin (op : BinOp) (x y : Opd)
  | eq (neg : Bool) (agg : Bool) (ks : List CK) (x y : Opd)
  | un (op : UnOp) (x : Opd)
  | conv (k : IntKind) (x : Opd)
  | convS (x : Opd)
  | convBS (x : Opd)
  | mkIfc (t : TypeId) (x : Opd)
  | mkFn (f : FuncId) (first captured : List Opd)
  | mkMap
  | range (x : Opd)
  | next (x : Opd)
  | entry (x : Opd)
  | mkSl (z : List V) (bytes : Nat) (l c : Opd)
  | appZ (z : List V) (bytes : Nat) (s n : Opd)
  | slice (sz : Nat) (x : Opd) (lo hi mx : Option Opd)
  | sliceS (x : Opd) (lo hi : Option Opd)
  | sliceM (sz : Nat) (x lo hi : Opd)
  | faddr (off : Nat) (x : Opd)
  | field (agg : Bool) (off n : Nat) (x : Opd)
  | iaddr (sz : Nat) (x i : Opd)
  | iaddrA (n sz : Nat) (x i : Opd)
  | index (agg : Bool) (n sz : Nat) (x i : Opd)
  | indexS (x i : Opd)
  | lookup (z : V) (x i : Opd) (ok pk : Bool)
  | mapUpd (m k v : Opd) (pk : Bool)
  | extract (x : Opd) (i : Nat)
  | tassert (t : TypeId) (z : V) (x : Opd) (ok : Bool)
  | call (f : Opd) (args : List Opd)
  | invoke (tbl : List (TypeId × FuncId × Option (Bool × Nat))) (x : Opd) (args : List Opd)
  | app (sz bytes : Nat) (s x : Opd)
  | len (k : CK) (x : Opd)
  | cap (x : Opd)
  | copy (sz : Nat) (d s : Opd)
  | clear (z : List V) (x : Opd)
  | max (xs : List Opd)
  | min (xs : List Opd)
  | delete (m k : Opd) (pk : Bool)
  deriving Inhabited
structure IOp where
  dst : Option Nat
  op : IR
  guard : Option (Nat × Bool)
  deriving Inhabited
/-! ### what operations on values come to -/
def intBin (op : BinOp) (k : IntKind) (a b : Int) : Option V :=
  match op with
  | .add => some (.int k (k.wrap (a + b)))
  | .sub => some (.int k (k.wrap (a - b)))
  | .mul => some (.int k (k.wrap (a * b)))
  | .quo => if b = 0 then none else some (.int k (k.wrap (a.tdiv b)))
  | .rem => if b = 0 then none else some (.int k (a.tmod b))
  | .and => some (.int k (k.wrap ((BitVec.ofInt k.bits a &&& BitVec.ofInt k.bits b).toNat : Nat)))
  | .or => some (.int k (k.wrap ((BitVec.ofInt k.bits a ||| BitVec.ofInt k.bits b).toNat : Nat)))
  | .xor => some (.int k (k.wrap ((BitVec.ofInt k.bits a ^^^ BitVec.ofInt k.bits b).toNat : Nat)))
  | .andNot => some (.int k (k.wrap ((BitVec.ofInt k.bits a &&& ~~~BitVec.ofInt k.bits b).toNat : Nat)))
  | .eql => some (.bool (a == b))
  | .neq => some (.bool (a != b))
  | .lss => some (.bool (a < b))
  | .leq => some (.bool (a ≤ b))
  | .gtr => some (.bool (a > b))
  | .geq => some (.bool (a ≥ b))
  | _ => none
def binV (op : BinOp) (x y : V) : Option V :=
  match x, y with
  | .int k a, .int k' b =>
    match op with
    | .shl => if b < 0 then none else some (.int k (k.wrap (a * 2 ^ (Nat.min b.toNat k.bits))))
    | .shr => if b < 0 then none else some (.int k (a.fdiv (2 ^ (Nat.min b.toNat k.bits))))
    | op => if k = k' then intBin op k a b else none
  | .str a, .str b =>
    match op with
    | .eql => some (.bool (a.toList == b.toList))
    | .neq => some (.bool !(a.toList == b.toList))
    | _ => none
  | _, _ => none
/-- Are two cells alike? Of whole numbers, bools, texts, and what is nil. -/
def eqC : V → V → Option Bool
  | .bool a, .bool b => some (a == b)
  | .int k a, .int k' b => if k = k' then some (a == b) else none
  | .str a, .str b => some (a == b)
  | .ptr none, .ptr b => some b.isNone
  | .ptr (some _), .ptr none => some false
  | .sl none _ _, .sl b _ _ => some b.isNone
  | .sl (some _) _ _, .sl none _ _ => some false
  | .map none, .map b => some b.isNone
  | .map (some _), .map none => some false
  | .agg [.int k a, .int l b], .agg [.int k' a', .int l' b'] => if k = k' ∧ l = l' then some (a == a' && b == b') else none
  | _, _ => none
def eqCs : List V → List V → Option Bool
  | [], [] => some true
  | x :: xs, y :: ys => match eqC x y with
    | some true => eqCs xs ys
    | some false => match eqCs xs ys with
      | some _ => some false
      | none => none
    | none => none
  | _, _ => none
def unV : UnOp → V → Option V
  | .neg, .int k n => some (.int k (k.wrap (0 - n)))
  | .xor, .int k n => some (.int k (k.wrap ((BitVec.ofInt k.bits (if k.signed then -1 else k.max) ^^^ BitVec.ofInt k.bits n).toNat : Nat)))
  | .not, .bool b => some (.bool !b)
  | _, _ => none
def splice (e : List V) (j : Nat) (cs : List V) : List V := e.take j ++ cs ++ e.drop (j + cs.length)
def fillV : List V → List (Nat × Nat × V) → Option (List V)
  | z, [] => some z
  | z, (off, n, v) :: rest => if v.cells.length = n ∧ off + n ≤ z.length ∧ v.cells.all V.isCell then fillV (splice z off v.cells) rest else none
def max2V : V → V → Option V
  | .int k x, .int k' y => if k = k' then some (.int k (if y > x then y else x)) else none
  | _, _ => none
def min2V : V → V → Option V
  | .int k x, .int k' y => if k = k' then some (.int k (if y < x then y else x)) else none
  | _, _ => none
def foldG (f : V → V → Option V) : V → List V → Option V
  | x, [] => some x
  | x, y :: r => match f x y with
    | some z => foldG f z r
    | none => none
def foldV (f : V → V → Option V) : List V → Option V
  | [] => none
  | x :: r => foldG f x r
/-- A bound of a slice expression. -/
def natOf : V → Option Nat
  | .int _ n => if 0 ≤ n then some n.toNat else none
  | _ => none
def partV (agg : Bool) (cs : List V) (off n : Nat) : Option V :=
  if agg then (if off + n ≤ cs.length then some (.agg ((cs.drop off).take n)) else none)
  else cs[off]?
/-! ### memory -/
/-- The cells of an element. -/
def Mem.elt (m : Mem) (r i : Nat) : Option (List V) :=
  match m.obj r with
  | some (.row _ es _) => es[i]?
  | _ => none
/-- n elements of 'sz' cells from i on. -/
def Mem.elts (m : Mem) (sz r i n : Nat) : Option (List (List V)) :=
  match m.obj r with
  | some (.row sz' es _) => if sz' = sz ∧ i + n ≤ es.length then some ((es.drop i).take n) else none
  | _ => none
/-- The elements that a slice (or a text) hands to append or copy. -/
def eltsOf (sz : Nat) (m : Mem) : V → Option (List (List V))
  | .sl none _ _ => some []
  | .sl (some (r, i, _)) n _ => if n = 0 then some [] else m.elts sz r i n
  | .str s => if sz = 1 then some (s.data.toList.map fun b => [.int .u8 b.toNat]) else none
  | _ => none
def bytesOfCells : List (List V) → Option (List UInt8)
  | [] => some []
  | [.int .u8 n] :: r => match bytesOfCells r with
    | some l => some (UInt8.ofNat n.toNat :: l)
    | none => none
  | _ => none
abbrev KV := V → Mem → Prop
def opt (o : Option V) (m : Mem) (K : KV) : Prop :=
  match o with
  | some v => K v m
  | none => False
/-- The greatest number of bytes that a slice may grow to here. -/
def room : Nat := 140737488355328
/-- append(s, new...): elements of 'sz' cells. -/
def appendX (sz bytes : Nat) (m : Mem) (s : V) (new : List (List V)) (K : KV) : Prop :=
  match s with
  | .sl none _ _ =>
    if new = [] then K s m
    else if new.length * bytes ≤ room ∧ new.length ≤ 9223372036854775807 then
      K (.sl (some (m.next, 0, sz)) new.length none) (m.new (.row sz new true))
    else False
  | .sl (some (r, i, z)) n c =>
    if new = [] then K s m
    else match m.obj r with
      | some (.row sz' es rw) =>
        if sz' ≠ sz then False else
        if i + n + new.length ≤ es.length ∧ (∀ c', c = some c' → n + new.length ≤ c') then
          if rw then K (.sl (some (r, i, z)) (n + new.length) c) (m.upd r (some (.row sz (es.take (i + n) ++ new ++ es.drop (i + n + new.length)) rw))) else False
        else if (n + new.length) * bytes ≤ room ∧ n + new.length ≤ 9223372036854775807 ∧ i + n ≤ es.length then
          match c with
          | some c' =>
            if c' < n + new.length then K (.sl (some (m.next, 0, sz)) (n + new.length) none) (m.new (.row sz ((es.drop i).take n ++ new) true)) else False
          | none =>
            if rw ∧ i + n = es.length then K (.sl (some (m.next, 0, sz)) (n + new.length) none) ((m.new (.row sz (es.drop i ++ new) true)).upd r none) else False
        else False
      | _ => False
  | _ => False
/-- The object's pointer is not nil. -/
def findM : List (V × V) → V → Option (Option V)
  | [], _ => some none
  | (k, v) :: r, x => match eqC x k with
    | some true => some (some v)
    | some false => findM r x
    | none => none
def setM : List (V × V) → V → V → Option (List (V × V))
  | [], x, v => some [(x, v)]
  | (k, u) :: r, x, v => match eqC x k with
    | some true => some ((k, v) :: r)
    | some false => (setM r x v).map fun l => (k, u) :: l
    | none => none
def delM : List (V × V) → V → Option (List (V × V))
  | [], _ => some []
  | (k, u) :: r, x => match eqC x k with
    | some true => some r
    | some false => (delM r x).map fun l => (k, u) :: l
    | none => none
def idxM : List (V × V) → V → Option Nat
  | [], _ => none
  | (k, _) :: r, x => match eqC x k with
    | some true => some 0
    | some false => (idxM r x).map (· + 1)
    | none => none
/-- The stamps of a map's entries, and its clock: behind an update; behind a deletion. -/
def stU (es : List (V × V)) (k : V) (g : List Nat × Nat) : List Nat × Nat :=
  match findM es k with
  | some none => (g.1 ++ [g.2], g.2 + 1)
  | _ => g
def stD (es : List (V × V)) (k : V) (g : List Nat × Nat) : List Nat × Nat :=
  match idxM es k with
  | some j => (g.1.eraseIdx j, g.2)
  | none => g
/-- A range over a map begins. -/
def rangeX (m : Mem) (x : V) (K : KV) : Prop :=
  match x with
  | .map none => K (.ptr (some (m.next, 0, 0))) (m.new (.iter none 0 [] 0))
  | .map (some r) => match m.obj r with
    | some (.map _ g) => K (.ptr (some (m.next, 0, 0))) (m.new (.iter (some r) g.2 [] g.2))
    | _ => False
  | _ => False
/-- It goes on: any entry that was not seen. Nothing may have come since it began. -/
def nextX (m : Mem) (x : V) (K : KV) : Prop :=
  match x with
  | .ptr (some (q, 0, 0)) => match m.obj q with
    | some (.iter none _ _ _) => K (.tup [.bool false]) m
    | some (.iter (some r) since seen stepped) => match m.obj r with
      | some (.map es g) => g.2 = since ∧ stepped = since ∧ ((∀ s ∈ g.1, s ∈ seen) → K (.tup [.bool false]) m) ∧
          ∀ (i : Nat) (k v : V) (s : Nat), es[i]? = some (k, v) → g.1[i]? = some s → s ∉ seen → K (.tup [.bool true, k, v]) (m.upd q (some (.iter (some r) since (seen ++ [s]) since)))
      | _ => False
    | _ => False
  | _ => False
/-- The entry that was told last. -/
def entryX (m : Mem) (x : V) (K : KV) : Prop :=
  match x with
  | .ptr (some (q, 0, 0)) => match m.obj q with
    | some (.iter (some r) _ seen stepped) => match m.obj r, seen.getLast? with
      | some (.map es g), some s => g.2 = stepped ∧ ∃ (i : Nat) (k v : V), es[i]? = some (k, v) ∧ g.1[i]? = some s ∧ K (.tup [k, v]) m
      | _, _ => False
    | _ => False
  | _ => False
/-- A key: a whole number, or two of them. -/
def keyOk : Bool → V → Bool
  | false, .int _ _ => true
  | true, .agg [.int _ _, .int _ _] => true
  | _, _ => false
/-- What is called: a spec of the functions whose answer is one, and of others. -/
structure Ctx where
  det : FuncId → List V → Mem → Option (V × Mem)
  non : FuncId → List V → Mem → KV → Prop
def callX (Γ : Ctx) (f : FuncId) (args : List V) (m : Mem) (K : KV) : Prop :=
  match Γ.det f args m with
  | some (r, m') => K r m'
  | none => Γ.non f args m K
/-- The bounds of a slice expression over n elements, of which c is the room (if it is known): from, to, the room behind. -/
def sliceB (n : Nat) (c : Option Nat) (lo hi mx : Option V) : Option (Nat × Nat × Option Nat) :=
  match (match lo with | some l => natOf l | none => some 0), (match hi with | some h => natOf h | none => some n) with
  | some l, some h =>
    match mx with
    | none => if l ≤ h ∧ h ≤ Nat.max n (c.getD n) then some (l, h, c.map (· - l)) else none
    | some v => match hi, natOf v with
      | some _, some k => if l ≤ h ∧ h ≤ k ∧ k ≤ Nat.max n (c.getD n) then some (l, h, some (k - l)) else none
      | _, _ => none
  | _, _ => none
def sliceV (sz : Nat) (a : Option (Nat × Nat × Nat)) (l h : Nat) (c' : Option Nat) : Option V :=
  match a with
  | none => some (.sl none 0 (some 0))
  | some (r, i, z) =>
    if l = 0 then some (.sl (some (r, i, z)) h c')
    else if z = sz then some (.sl (some (r, i + l, z)) (h - l) c') else none
/-- A part of a slice, which may go beyond its end where memory tells what lies there. -/
def sliceMV (sz : Nat) (m : Mem) (x lo hi : V) : Option V :=
  match x with
  | .sl (some (r, i, z)) n none =>
    match m.obj r with
    | some (.row _ es _) => match natOf lo, natOf hi with
      | some l, some h => if l ≤ h ∧ h ≤ Nat.max n (es.length - i) then sliceV sz (some (r, i, z)) l h none else none
      | _, _ => none
    | _ => none
  | .sl a n c => match sliceB n c (some lo) (some hi) none with
    | some (l, h, c') => sliceV sz a l h c'
    | none => none
  | _ => none
def copyX (sz : Nat) (m : Mem) (d : V) (es : List (List V)) (K : KV) : Prop :=
  match d with
  | .sl none _ _ => K (.int .i64 0) m
  | .sl (some (r, i, _)) n _ =>
    match m.obj r with
    | some (.row sz' old true) =>
      if sz' = sz ∧ i + Nat.min es.length n ≤ old.length then
        K (.int .i64 (Nat.min es.length n)) (m.upd r (some (.row sz' (old.take i ++ es.take (Nat.min es.length n) ++ old.drop (i + Nat.min es.length n)) true)))
      else False
    | _ => False
  | _ => False
def clearX (z : List V) (m : Mem) (x : V) (K : KV) : Prop :=
  match x with
  | .sl none _ _ => K (.tup []) m
  | .sl (some (r, i, _)) n _ =>
    if n = 0 then K (.tup []) m else
    match m.obj r with
    | some (.row sz old true) => if i + n ≤ old.length ∧ z.length = sz ∧ z.all V.isCell then K (.tup []) (m.upd r (some (.row sz (old.take i ++ List.replicate n z ++ old.drop (i + n)) true))) else False
    | _ => False
  | _ => False
/-- What a method's receiver is: the value as it is, or what lies behind the pointer. -/
def recvV (m : Mem) (ld : Option (Bool × Nat)) (v : V) : Option V :=
  match ld with
  | none => some v
  | some (agg, n) => match v with
    | .ptr (some (r, i, j)) => match m.elt r i with
      | some cs => partV agg cs j n
      | none => none
    | _ => none
/-- A method called through an interface: by a table of the types behind it. -/
def invX (Γ : Ctx) (tbl : List (TypeId × FuncId × Option (Bool × Nat))) (x : V) (args : List V) (m : Mem) (K : KV) : Prop :=
  match x with
  | .ifc t v => match tbl.find? (·.1 == t) with
    | some (_, f, ld) => match recvV m ld v with
      | some y => callX Γ f (y :: args) m K
      | none => False
    | none => False
  | _ => False
def opx (Γ : Ctx) (o : IR) (e : Env) (m : Mem) (K : KV) : Prop :=
  match o with
  | .bad => False
  | .mov x => K (ev e x) m
  | .pick c a b =>
    match ev e c with
    | .bool t => K (if t then ev e a else ev e b) m
    | _ => False
  | .alloc z => if z.all V.isCell ∧ 0 < z.length then K (.ptr (some (m.next, 0, 0))) (m.new (.row z.length [z] true)) else False
  | .box x => if (ev e x).cells.all V.isCell ∧ 0 < (ev e x).cells.length then K (.ptr (some (m.next, 0, 0))) (m.new (.row (ev e x).cells.length [(ev e x).cells] true)) else False
  | .build z parts => if z.all V.isCell then opt ((fillV z (parts.map fun (o, n, x) => (o, n, ev e x))).map .agg) m K else False
  | .buildSl sz z parts =>
    match fillV z (parts.map fun (o, n, x) => (o, n, ev e x)) with
    | some cs => if z.all V.isCell ∧ 0 < sz then K (.sl (some (m.next, 0, sz)) (z.length / sz) (some (z.length / sz))) (m.new (.row sz ((List.range (z.length / sz)).map fun i => (cs.drop (i * sz)).take sz) true)) else False
    | none => False
  | .load agg n x =>
    match ev e x with
    | .ptr (some (r, i, j)) => match m.elt r i with
      | some cs => opt (partV agg cs j n) m K
      | none => False
    | _ => False
  | .store n x y =>
    match ev e x with
    | .ptr (some (r, i, j)) => match m.obj r with
      | some (.row sz es true) => match es[i]? with
        | some cs => if (ev e y).cells.length = n ∧ j + n ≤ cs.length ∧ (ev e y).cells.all V.isCell then K (.tup []) (m.upd r (some (.row sz (es.set i (splice cs j (ev e y).cells)) true))) else False
        | none => False
      | _ => False
    | _ => False
  | .nilck x =>
    match ev e x with
    | .ptr (some a) => K (.ptr (some a)) m
    | .fn f a b => K (.fn f a b) m
    | _ => False
  | .bin op x y => opt (binV op (ev e x) (ev e y)) m K
  | .eq neg agg ks x y =>
    match agg, ev e x, ev e y with
    | true, .agg xs, .agg ys => if ckAll ks xs ∧ ckAll ks ys then opt ((eqCs xs ys).map fun b => .bool (if neg then !b else b)) m K else False
    | false, a, b => if ckAll ks [a] then opt ((eqC a b).map fun b => .bool (if neg then !b else b)) m K else False
    | _, _, _ => False
  | .un op x => opt (unV op (ev e x)) m K
  | .conv k x =>
    match ev e x with
    | .int _ n => K (.int k (k.wrap n)) m
    | _ => False
  | .convS x =>
    match ev e x with
    | .str s => K (.str s) m
    | _ => False
  | .convBS x =>
    match ev e x with
    | .sl a n c => match eltsOf 1 m (.sl a n c) with
      | some es => match bytesOfCells es with
        | some l => K (.str ⟨l.toArray⟩) m
        | none => False
      | none => False
    | _ => False
  | .mkIfc t x => K (.ifc t (ev e x)) m
  | .mkFn f a b => K (.fn f (a.map (ev e)) (b.map (ev e))) m
  | .mkMap => K (.map (some m.next)) (m.new (.map [] ([], 0)))
  | .range x => rangeX m (ev e x) K
  | .next x => nextX m (ev e x) K
  | .entry x => entryX m (ev e x) K
  | .appZ z bytes s n =>
    match ev e s, ev e n with
    | .sl (some (r, i, zz)) l (some c), .int .i64 k =>
      if 0 < k ∧ (c : Int) < l + k ∧ (l + k) * bytes ≤ 140737488355328 ∧ l + k ≤ 9223372036854775807 ∧ 0 < z.length ∧ z.all V.isCell = true then
        match m.obj r with
        | some (.row sz es rw) => if sz = z.length ∧ i + l ≤ es.length then K (.sl (some (m.next, 0, sz)) (l + k.toNat) none) (m.new (.row sz ((es.drop i).take l ++ List.replicate k.toNat z) true)) else False
        | _ => False
      else False
    | _, _ => False
  | .mkSl z bytes l c =>
    match ev e l, ev e c with
    | .int .i64 a, .int .i64 b =>
      if 0 ≤ a ∧ a ≤ b ∧ b * bytes ≤ 281474976710656 ∧ 0 < z.length ∧ z.all V.isCell then K (.sl (some (m.next, 0, z.length)) a.toNat (some b.toNat)) (m.new (.row z.length (List.replicate b.toNat z) true)) else False
    | _, _ => False
  | .slice sz x lo hi mx =>
    match ev e x with
    | .sl a n c => match sliceB n c (lo.map (ev e)) (hi.map (ev e)) (mx.map (ev e)) with
      | some (l, h, c') => opt (sliceV sz a l h c') m K
      | none => False
    | _ => False
  | .sliceS x lo hi =>
    match ev e x with
    | .str s => match sliceB s.size (some s.size) (lo.map (ev e)) (hi.map (ev e)) none with
      | some (l, h, _) => K (.str (s.extract l h)) m
      | none => False
    | _ => False
  | .sliceM sz x lo hi => opt (sliceMV sz m (ev e x) (ev e lo) (ev e hi)) m K
  | .faddr off x =>
    match ev e x with
    | .ptr (some (r, i, j)) => K (.ptr (some (r, i, j + off))) m
    | _ => False
  | .field agg off n x =>
    match ev e x with
    | .agg cs => opt (partV agg cs off n) m K
    | _ => False
  | .iaddr sz x i =>
    match ev e x, ev e i with
    | .sl (some (r, i0, z)) n _, .int _ k => if 0 ≤ k ∧ k < n ∧ z = sz then K (.ptr (some (r, i0 + k.toNat, 0))) m else False
    | _, _ => False
  | .iaddrA n sz x i =>
    match ev e x, ev e i with
    | .ptr (some (r, i0, j)), .int _ k => if 0 ≤ k ∧ k < n then K (.ptr (some (r, i0, j + k.toNat * sz))) m else False
    | _, _ => False
  | .index agg n sz x i =>
    match ev e x, ev e i with
    | .agg cs, .int _ k => if 0 ≤ k ∧ k < n then opt (partV agg cs (k.toNat * sz) sz) m K else False
    | _, _ => False
  | .indexS x i =>
    match ev e x, ev e i with
    | .str s, .int _ k => if 0 ≤ k then (match s.data.toList[k.toNat]? with | some b => K (.int .u8 b.toNat) m | none => False) else False
    | _, _ => False
  | .lookup z x i ok pk =>
    if keyOk pk (ev e i) then
      match ev e x with
      | .map none => K (if ok then .tup [z, .bool false] else z) m
      | .map (some r) => match m.obj r with
        | some (.map es _) => match findM es (ev e i) with
          | some (some v) => K (if ok then .tup [v, .bool true] else v) m
          | some none => K (if ok then .tup [z, .bool false] else z) m
          | none => False
        | _ => False
      | _ => False
    else False
  | .mapUpd x k v pk =>
    if keyOk pk (ev e k) then
      match ev e x with
      | .map (some r) => match m.obj r with
        | some (.map es g) => match setM es (ev e k) (ev e v) with
          | some es' => K (.tup []) (m.upd r (some (.map es' (stU es (ev e k) g))))
          | none => False
        | _ => False
      | _ => False
    else False
  | .extract x i =>
    match ev e x with
    | .tup vs => opt vs[i]? m K
    | _ => False
  | .tassert t z x ok =>
    match ev e x with
    | .ifc t' v => if t' = t then K (if ok then .tup [v, .bool true] else v) m else if ok then K (.tup [z, .bool false]) m else False
    | .nilIfc => if ok then K (.tup [z, .bool false]) m else False
    | _ => False
  | .call f args =>
    match ev e f with
    | .fn g a b => callX Γ g (a ++ args.map (ev e) ++ b) m K
    | _ => False
  | .invoke tbl x args => invX Γ tbl (ev e x) (args.map (ev e)) m K
  | .app sz bytes s x =>
    match eltsOf sz m (ev e x) with
    | some new => if 0 < sz then appendX sz bytes m (ev e s) new K else False
    | none => False
  | .len k x =>
    match k, ev e x with
    | .str, .str s => K (.int .i64 s.size) m
    | .sl, .sl _ n _ => K (.int .i64 n) m
    | .map, .map none => K (.int .i64 0) m
    | .map, .map (some r) => match m.obj r with
      | some (.map es _) => K (.int .i64 es.length) m
      | _ => False
    | _, _ => False
  | .cap x =>
    match ev e x with
    | .sl _ _ (some c) => K (.int .i64 c) m
    | _ => False
  | .copy sz d s =>
    match eltsOf sz m (ev e s) with
    | some es => copyX sz m (ev e d) es K
    | none => False
  | .clear z x => clearX z m (ev e x) K
  | .max xs => opt (foldV max2V (xs.map (ev e))) m K
  | .min xs => opt (foldV min2V (xs.map (ev e))) m K
  | .delete x k pk =>
    if keyOk pk (ev e k) then
      match ev e x with
      | .map none => K (.tup []) m
      | .map (some r) => match m.obj r with
        | some (.map es g) => match delM es (ev e k) with
          | some es' => K (.tup []) (m.upd r (some (.map es' (stD es (ev e k) g))))
          | none => False
        | _ => False
      | _ => False
    else False
/-- Is an operation with this guard carried out? -/
def gwant (g : Option (Nat × Bool)) (e : Env) : Option Bool :=
  match g with
  | none => some true
  | some (t, want) => match e t with
    | .bool c => some (c == want)
    | .tup _ => some false
    | _ => none
def opsx (Γ : Ctx) : List IOp → Env → Mem → (Env → Mem → Prop) → Prop
  | [], e, m, K => K e m
  | o :: os, e, m, K =>
    match gwant o.guard e with
    | some true => opx Γ o.op e m fun v m' => opsx Γ os (e.put o.dst v) m' K
    | some false => opsx Γ os (e.put o.dst (.tup [])) m K
    | none => False
end Go.AM
