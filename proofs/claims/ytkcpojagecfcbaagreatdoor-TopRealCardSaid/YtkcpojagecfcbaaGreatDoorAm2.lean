/-
  THE ABSTRACT MACHINE AND THE MODEL's MEMORY: how values and memory of the plain machine stand for those of the model. No Go program here.
-/
import Derived.Test.YtkcpojagecfcbaaGreatDoorAm1
import Derived.Laws.IdiomCopy
namespace Go.AM
open Go
set_option linter.unusedVariables false
/-- Where an object lies: a block, a first cell, the size of an element, how many elements there is room for. -/
structure Loc where
  block : Nat
  base : Nat
  sz : Nat
  cap : Nat
def Loc.at (l : Loc) (i j : Nat) : Addr := ⟨l.block, l.base + i * l.sz + j, none⟩
abbrev Pl := Nat → Option Loc
def Pl.le (β β' : Pl) : Prop := ∀ r l, β r = some l → β' r = some l
theorem Pl.le_refl (β : Pl) : Pl.le β β := fun _ _ h => h
theorem Pl.le_trans {a b c : Pl} (h : Pl.le a b) (k : Pl.le b c) : Pl.le a c := fun r l e => k r l (h r l e)
mutual
/-- The value of the model that one of the plain machine stands for. -/
def VR (β : Pl) : V → Value → Prop
  | .undef, _ => True
  | .bool b, v => v = .bool b
  | .int k n, v => v = .int k n
  | .str s, v => v = .string s
  | .ptr none, v => v = .pointer none
  | .ptr (some (r, i, j)), v => ∃ l, β r = some l ∧ v = .pointer (some (l.at i j))
  | .sl none n c, v => n = 0 ∧ c = some 0 ∧ v = .slice none 0 0
  | .sl (some (r, i, z)) n c, v => ∃ l a cap, β r = some l ∧ v = .slice (some a) n cap ∧ cap = c.getD (l.cap - i) ∧ n ≤ cap ∧ (cap ≠ 0 → a = l.at i 0) ∧ l.sz = z
  | .map none, v => v = .map none
  | .map (some r), v => ∃ l, β r = some l ∧ v = .map (some l.block)
  | .fn f a b, v => ∃ xs ys, v = .func (.func f) xs ys ∧ VRs β a xs.toList ∧ VRs β b ys.toList
  | .nilFn, v => v = .nilFunc
  | .ifc t x, v => ∃ y, v = .iface t y ∧ VR β x y
  | .nilIfc, v => v = .nilIface
  | .agg cs, v => ∃ xs, v = .agg xs ∧ VRs β cs xs.toList
  | .tup cs, v => ∃ xs, v = .tuple xs ∧ VRs β cs xs.toList
def VRs (β : Pl) : List V → List Value → Prop
  | [], ys => ys = []
  | x :: xs, ys => ∃ y ys', ys = y :: ys' ∧ VR β x y ∧ VRs β xs ys'
end
mutual
theorem VR.mono {β β' : Pl} (h : Pl.le β β') : ∀ (x : V) (v : Value), VR β x v → VR β' x v
  | .undef, _, _ => by simp [VR]
  | .bool b, v, e => by simpa [VR] using e
  | .int k n, v, e => by simpa [VR] using e
  | .str s, v, e => by simpa [VR] using e
  | .ptr none, v, e => by simpa [VR] using e
  | .ptr (some (r, i, j)), v, e => by
    simp only [VR] at e ⊢; obtain ⟨l, h1, h2⟩ := e; exact ⟨l, h _ _ h1, h2⟩
  | .sl none n c, v, e => by simpa [VR] using e
  | .sl (some (r, i, z)) n c, v, e => by
    simp only [VR] at e ⊢; obtain ⟨l, a, cap, h1, h2⟩ := e; exact ⟨l, a, cap, h _ _ h1, h2⟩
  | .map none, v, e => by simpa [VR] using e
  | .map (some r), v, e => by
    simp only [VR] at e ⊢; obtain ⟨l, h1, h2⟩ := e; exact ⟨l, h _ _ h1, h2⟩
  | .fn f a b, v, e => by
    simp only [VR] at e ⊢; obtain ⟨xs, ys, h1, h2, h3⟩ := e; exact ⟨xs, ys, h1, VRs.mono h a _ h2, VRs.mono h b _ h3⟩
  | .nilFn, v, e => by simpa [VR] using e
  | .ifc t x, v, e => by
    simp only [VR] at e ⊢; obtain ⟨y, h1, h2⟩ := e; exact ⟨y, h1, VR.mono h x _ h2⟩
  | .nilIfc, v, e => by simpa [VR] using e
  | .agg cs, v, e => by
    simp only [VR] at e ⊢; obtain ⟨xs, h1, h2⟩ := e; exact ⟨xs, h1, VRs.mono h cs _ h2⟩
  | .tup cs, v, e => by
    simp only [VR] at e ⊢; obtain ⟨xs, h1, h2⟩ := e; exact ⟨xs, h1, VRs.mono h cs _ h2⟩
theorem VRs.mono {β β' : Pl} (h : Pl.le β β') : ∀ (xs : List V) (vs : List Value), VRs β xs vs → VRs β' xs vs
  | [], vs, e => by simpa [VRs] using e
  | x :: xs, vs, e => by
    simp only [VRs] at e ⊢; obtain ⟨y, ys, h1, h2, h3⟩ := e; exact ⟨y, ys, h1, VR.mono h x _ h2, VRs.mono h xs _ h3⟩
end
theorem VRs.length {β : Pl} : ∀ {xs : List V} {vs : List Value}, VRs β xs vs → xs.length = vs.length
  | [], vs, e => by simp only [VRs] at e; subst e; rfl
  | x :: xs, vs, e => by simp only [VRs] at e; obtain ⟨y, ys, rfl, _, h⟩ := e; simp [VRs.length h]
theorem VRs.get {β : Pl} : ∀ {xs : List V} {vs : List Value}, VRs β xs vs → ∀ (i : Nat) (x : V), xs[i]? = some x → ∃ v, vs[i]? = some v ∧ VR β x v
  | [], vs, e, i, x, h => by simp at h
  | x0 :: xs, vs, e, i, x, h => by
    simp only [VRs] at e; obtain ⟨y, ys, rfl, h1, h2⟩ := e
    cases i with
    | zero => simp at h; subst h; exact ⟨y, by simp, h1⟩
    | succ i => simp at h; obtain ⟨v, hv, hr⟩ := VRs.get h2 i x h; exact ⟨v, by simpa using hv, hr⟩
theorem VRs.append {β : Pl} : ∀ {xs ys : List V} {vs us : List Value}, VRs β xs vs → VRs β ys us → VRs β (xs ++ ys) (vs ++ us)
  | [], ys, vs, us, e, k => by simp only [VRs] at e; subst e; simpa using k
  | x :: xs, ys, vs, us, e, k => by
    simp only [VRs] at e; obtain ⟨y, ws, rfl, h1, h2⟩ := e
    simp only [List.cons_append, VRs]; exact ⟨y, ws ++ us, rfl, h1, VRs.append h2 k⟩
theorem VRs.take {β : Pl} : ∀ {xs : List V} {vs : List Value} (n : Nat), VRs β xs vs → VRs β (xs.take n) (vs.take n)
  | [], vs, n, e => by simp only [VRs] at e; subst e; simp [VRs]
  | x :: xs, vs, n, e => by
    simp only [VRs] at e; obtain ⟨y, ws, rfl, h1, h2⟩ := e
    cases n with
    | zero => simp [VRs]
    | succ n => simp only [List.take_succ_cons, VRs]; exact ⟨y, _, rfl, h1, VRs.take n h2⟩
theorem VRs.drop {β : Pl} : ∀ {xs : List V} {vs : List Value} (n : Nat), VRs β xs vs → VRs β (xs.drop n) (vs.drop n)
  | [], vs, n, e => by simp only [VRs] at e; subst e; simp [VRs]
  | x :: xs, vs, n, e => by
    simp only [VRs] at e; obtain ⟨y, ws, rfl, h1, h2⟩ := e
    cases n with
    | zero => simp only [List.drop_zero, VRs]; exact ⟨y, ws, rfl, h1, h2⟩
    | succ n => simpa using VRs.drop n h2
/-- The cells of a value stand for those of its model. -/
theorem VR.cells {β : Pl} {x : V} {v : Value} (h : VR β x v) (hc : x.cells.all V.isCell = true) : VRs β x.cells v.cells.toList := by
  cases x <;> simp only [V.cells, VR] at h ⊢
  case undef => simp [V.cells, V.isCell] at hc
  case agg cs => obtain ⟨xs, rfl, h⟩ := h; exact h
  case tup cs => simp [V.cells, V.isCell] at hc
  case ptr a => rcases a with _ | ⟨r, i, j⟩ <;> simp only [VR] at h <;> (first | (subst h; simp [Value.cells, VRs, VR]) | (obtain ⟨l, h1, rfl⟩ := h; simp only [Value.cells, VRs, VR]; exact ⟨_, _, rfl, ⟨l, h1, rfl⟩, rfl⟩))
  case sl a n c => rcases a with _ | ⟨r, i, z⟩ <;> simp only [VR] at h <;> (first | (obtain ⟨h1, h2, rfl⟩ := h; simp [Value.cells, VRs, VR, h1, h2]) | (obtain ⟨l, a, cap, h1, rfl, h2⟩ := h; simp only [Value.cells, VRs, VR]; exact ⟨_, _, rfl, ⟨l, a, cap, h1, rfl, h2⟩, rfl⟩))
  case map a => rcases a with _ | r <;> simp only [VR] at h <;> (first | (subst h; simp [Value.cells, VRs, VR]) | (obtain ⟨l, h1, rfl⟩ := h; simp only [Value.cells, VRs, VR]; exact ⟨_, _, rfl, ⟨l, h1, rfl⟩, rfl⟩))
  case fn f a b => obtain ⟨xs, ys, rfl, h1, h2⟩ := h; simp only [Value.cells, VRs, VR]; exact ⟨_, _, rfl, ⟨xs, ys, rfl, h1, h2⟩, rfl⟩
  case ifc t x => obtain ⟨y, rfl, h1⟩ := h; simp only [Value.cells, VRs, VR]; exact ⟨_, _, rfl, ⟨y, rfl, h1⟩, rfl⟩
  all_goals (subst h; simp [Value.cells, VRs, VR])
theorem VR.oneCell {β : Pl} {x : V} {v : Value} (h : VR β x v) (hc : x.isCell = true) : v.oneCell' = true := by
  cases x <;> simp only [V.isCell, VR] at h hc
  case ptr a => rcases a with _ | ⟨r, i, j⟩ <;> simp only [VR] at h <;> (first | (subst h; rfl) | (obtain ⟨l, h1, rfl⟩ := h; rfl))
  case sl a n c => rcases a with _ | ⟨r, i, z⟩ <;> simp only [VR] at h <;> (first | (obtain ⟨h1, h2, rfl⟩ := h; rfl) | (obtain ⟨l, a, cap, h1, rfl, h2⟩ := h; rfl))
  case map a => rcases a with _ | r <;> simp only [VR] at h <;> (first | (subst h; rfl) | (obtain ⟨l, h1, rfl⟩ := h; rfl))
  case fn f a b => obtain ⟨xs, ys, rfl, h1, h2⟩ := h; rfl
  case ifc t x => obtain ⟨y, rfl, h1⟩ := h; rfl
  all_goals first | (subst h; rfl) | (exact absurd hc (by simp))
/-! ### memory -/
def inLoc (l : Loc) (a : Addr) : Prop := a.block = l.block ∧ l.base ≤ a.off ∧ a.off < l.base + l.cap * l.sz
theorem inLoc_at {l : Loc} {i j : Nat} (hi : i < l.cap) (hj : j < l.sz) : inLoc l (l.at i j) := by
  refine ⟨rfl, by simp [Loc.at]; omega, ?_⟩
  have : (i + 1) * l.sz ≤ l.cap * l.sz := Nat.mul_le_mul_right _ hi
  rw [Nat.add_mul] at this
  simp [Loc.at]; omega
/-- A row lies at its place. -/
structure RowR (base : Nat) (β : Pl) (w : World) (l : Loc) (sz : Nat) (es : List (List V)) (rw : Bool) : Prop where
  szeq : l.sz = sz
  pos : 0 < sz
  len : es.length ≤ l.cap
  lt : l.block < w.heap.size
  own : rw = true → base ≤ l.block ∧ ∀ i j, i < l.cap → j < sz → (∃ v, w.cell? (l.at i j) = some v) ∧ w.frozen? (l.at i j) = false
  cells : ∀ i e, es[i]? = some e → e.length = sz ∧ ∀ j v, e[j]? = some v → v.isCell = true ∧ ∃ cv, VR β v cv ∧ w.cell? (l.at i j) = some cv
  rest : rw = true → ∀ i j, es.length ≤ i → i < l.cap → j < sz → ∃ u v, u.isCell = true ∧ (∀ β', VR β' u v) ∧ w.cell? (l.at i j) = some v
  cold : rw = true → ∀ off, w.frozen? ⟨l.block, off, none⟩ = false
structure MapR (base : Nat) (β : Pl) (w : World) (l : Loc) (es : List (V × V)) (g : List Nat × Nat) : Prop where
  ge : base ≤ l.block
  ex : ∃ (ces : Array MapEntry), w.heap[l.block]? = some (.map ces g.2) ∧ VRs β (es.map (·.1)) (ces.toList.map (·.key)) ∧ VRs β (es.map (·.2)) (ces.toList.map (·.val)) ∧
    ces.toList.map (·.born) = g.1 ∧ g.1.Nodup ∧ ∀ x ∈ g.1, x < g.2
/-- What a range over a map goes by. -/
structure IterR (base : Nat) (β : Pl) (w : World) (l : Loc) (r : Option Nat) (since : Nat) (seen : List Nat) (stepped : Nat) : Prop where
  ge : base ≤ l.block
  b0 : l.base = 0
  ex : ∃ mr : Option Nat, (∀ q, r = some q → ∃ lq, β q = some lq ∧ mr = some lq.block) ∧ (r = none → mr = none) ∧ w.heap[l.block]? = some (.mapIter mr since seen.toArray stepped)
def ObjR (base : Nat) (β : Pl) (w : World) (l : Loc) : Obj → Prop
  | .row sz es rw => RowR base β w l sz es rw
  | .map es g => MapR base β w l es g
  | .iter r a b c => IterR base β w l r a b c
def Obj.rw : Obj → Bool
  | .row _ _ b => b
  | _ => true
def Apart : Obj → Obj → Loc → Loc → Prop
  | .row _ _ _, .row _ _ _, l, l' => l.block ≠ l'.block ∨ l.base + l.cap * l.sz ≤ l'.base ∨ l'.base + l'.cap * l'.sz ≤ l.base
  | _, _, l, l' => l.block ≠ l'.block
/-- What the one package-level table that is laid reads as (of chapters that have one; its block, and its numbers). -/
def glTab : List Int := [0, 1, 28, 2, 29, 14, 24, 3, 30, 22, 20, 15, 25, 17, 4, 8, 31, 27, 13, 23, 21, 19, 16, 7, 26, 12, 18, 6, 11, 5, 10, 9]
structure Gl (base : Nat) (w : World) : Prop where
  lt : 0 < base
  cells : ∀ i x, glTab[i]? = some x → w.cell? ⟨0, i, none⟩ = some (.int .u8 x)
theorem Gl.below {base base' : Nat} {w w' : World} (h : Gl base w) (hb : RowKit.Below base w w') (hl : 0 < base') : Gl base' w' :=
  ⟨hl, fun i x hx => (hb.cell (p := ⟨0, i, none⟩) h.lt).trans (h.cells i x hx)⟩
structure MR (base : Nat) (w0 : World) (β : Pl) (m : Mem) (w : World) : Prop where
  below : RowKit.Below base w0 w
  le : base ≤ w.heap.size
  dom : ∀ r l, β r = some l → r < m.next
  has : ∀ r o, m.obj r = some o → ∃ l, β r = some l
  objs : ∀ r l o, β r = some l → m.obj r = some o → ObjR base β w l o
  apart : ∀ r r' l l' o o', r ≠ r' → β r = some l → β r' = some l' → m.obj r = some o → m.obj r' = some o' → (o.rw = true ∨ o'.rw = true) → Apart o o' l l'
  drawn : w0.drawn ≤ w.drawn
  gl : Gl base w0
theorem MR.fresh {base : Nat} {w0 : World} {β : Pl} {m : Mem} {w : World} (h : MR base w0 β m w) : ∀ r o, m.obj r = some o → r < m.next :=
  fun r o ho => let ⟨l, hl⟩ := h.has r o ho; h.dom r l hl
/-- From w to w' nothing turned but the cells of S, and what is new. -/
structure Chg (w w' : World) (S : Addr → Prop) : Prop where
  os : w'.os = w.os
  tape : w'.tape = w.tape
  output : w'.output = w.output
  size : w.heap.size ≤ w'.heap.size
  cell : ∀ a, a.block < w.heap.size → ¬ S a → w'.cell? a = w.cell? a
  frozen : ∀ a, a.block < w.heap.size → w'.frozen? a = w.frozen? a
  block : ∀ b, b < w.heap.size → (∀ a, S a → a.block ≠ b) → w'.heap[b]? = w.heap[b]?
  drawn : w.drawn ≤ w'.drawn
theorem Chg.refl (w : World) (S : Addr → Prop) : Chg w w S := ⟨rfl, rfl, rfl, Nat.le_refl _, fun _ _ _ => rfl, fun _ _ => rfl, fun _ _ _ => rfl, Nat.le_refl _⟩
theorem Chg.drew (w : World) : Chg w w.drew (fun _ => False) := ⟨rfl, rfl, rfl, Nat.le_refl _, fun _ _ _ => rfl, fun _ _ => rfl, fun _ _ _ => rfl, Nat.le_succ _⟩
theorem Chg.trans {a b c : World} {S T : Addr → Prop} (h : Chg a b S) (k : Chg b c T) : Chg a c (fun x => S x ∨ (T x ∧ x.block < a.heap.size)) :=
  ⟨k.os.trans h.os, k.tape.trans h.tape, k.output.trans h.output, Nat.le_trans h.size k.size,
   fun x hx hn => (k.cell x (Nat.lt_of_lt_of_le hx h.size) (fun t => hn (.inr ⟨t, hx⟩))).trans (h.cell x hx fun s => hn (.inl s)),
   fun x hx => (k.frozen x (Nat.lt_of_lt_of_le hx h.size)).trans (h.frozen x hx),
   fun b hb hn => (k.block b (Nat.lt_of_lt_of_le hb h.size) (fun x t e => hn x (.inr ⟨t, by omega⟩) e)).trans (h.block b hb fun x s => hn x (.inl s)), Nat.le_trans h.drawn k.drawn⟩
theorem Chg.below {w w' : World} {S : Addr → Prop} {base : Nat} (h : Chg w w' S) (hb : base ≤ w.heap.size) (hS : ∀ a, S a → base ≤ a.block) : RowKit.Below base w w' :=
  ⟨h.os, h.tape, h.output, h.size, fun k hk => h.block k (by omega) fun a s => by have := hS a s; omega⟩
theorem Chg.alloc (w : World) (o : Go.Obj) : Chg w (w.alloc o) (fun _ => False) := by
  refine ⟨rfl, rfl, rfl, by simp, fun a ha _ => World.cell?_alloc_lt w o a ha, fun a ha => World.frozen?_alloc_old w o a (by omega), fun b hb _ => RowKit.Below.heap_alloc w o b hb, Nat.le_refl _⟩
def Clear (S : Addr → Prop) (o : Obj) (l : Loc) : Prop :=
  match o with
  | .row _ _ _ => ∀ a, S a → ¬ inLoc l a
  | _ => ∀ a, S a → a.block ≠ l.block
theorem ObjR.keep {base : Nat} {β β' : Pl} {w w' : World} {S : Addr → Prop} {l : Loc} {o : Obj} (h : ObjR base β w l o) (hβ : Pl.le β β') (c : Chg w w' S) (k : Clear S o l) : ObjR base β' w' l o := by
  cases o with
  | row sz es rw =>
    simp only [ObjR, Clear] at h k ⊢
    have key : ∀ i j, i < l.cap → j < sz → w'.cell? (l.at i j) = w.cell? (l.at i j) := fun i j hi hj =>
      c.cell _ h.lt fun s => k _ s (inLoc_at hi (by rw [h.szeq]; exact hj))
    refine ⟨h.szeq, h.pos, h.len, Nat.lt_of_lt_of_le h.lt c.size, fun hr => ⟨(h.own hr).1, fun i j hi hj => ?_⟩, fun i e he => ?_, ?_, fun hr off => by rw [c.frozen _ h.lt]; exact h.cold hr off⟩
    · rw [key i j hi hj, c.frozen _ h.lt]; exact (h.own hr).2 i j hi hj
    · obtain ⟨h1, h2⟩ := h.cells i e he
      refine ⟨h1, fun j v hv => ?_⟩
      obtain ⟨hc, cv, h3, h4⟩ := h2 j v hv
      have hi : i < es.length := (List.getElem?_eq_some_iff.1 he).1
      have hj : j < e.length := (List.getElem?_eq_some_iff.1 hv).1
      exact ⟨hc, cv, VR.mono hβ _ _ h3, by rw [key i j (Nat.lt_of_lt_of_le hi h.len) (by omega)]; exact h4⟩
    · intro hr i j h1 h2 h3
      obtain ⟨u, v, a1, a2, a3⟩ := h.rest hr i j h1 h2 h3
      exact ⟨u, v, a1, a2, by rw [key i j h2 h3]; exact a3⟩
  | iter r a b d =>
    simp only [ObjR, Clear] at h k ⊢
    obtain ⟨mr, h1, h2, h3⟩ := h.ex
    have hb : l.block < w.heap.size := by
      rcases Nat.lt_or_ge l.block w.heap.size with h' | h'
      · exact h'
      · rw [Array.getElem?_eq_none h'] at h3; cases h3
    exact ⟨h.ge, h.b0, mr, fun q hq => let ⟨lq, e1, e2⟩ := h1 q hq; ⟨lq, hβ _ _ e1, e2⟩, h2, by rw [c.block _ hb k]; exact h3⟩
  | map es g =>
    simp only [ObjR, Clear] at h k ⊢
    obtain ⟨ces, h1, h2, h3, h4⟩ := h.ex
    have hb : l.block < w.heap.size := by
      rcases Nat.lt_or_ge l.block w.heap.size with h' | h'
      · exact h'
      · rw [Array.getElem?_eq_none h'] at h1; cases h1
    exact ⟨h.ge, ces, by rw [c.block _ hb k]; exact h1, VRs.mono hβ _ _ h2, VRs.mono hβ _ _ h3, h4⟩
/-- A step that turns no object. -/
theorem MR.same {base : Nat} {w0 : World} {β : Pl} {m : Mem} {w w' : World} (h : MR base w0 β m w) (c : Chg w w' (fun _ => False)) : MR base w0 β m w' :=
  ⟨h.below.trans (c.below h.le (fun _ s => s.elim)), Nat.le_trans h.le c.size, h.dom, h.has,
   fun r l o hb ho => (h.objs r l o hb ho).keep (Pl.le_refl _) c (by cases o <;> exact fun _ s => s.elim), h.apart, Nat.le_trans h.drawn c.drawn, h.gl⟩
theorem MR.drew {base : Nat} {w0 : World} {β : Pl} {m : Mem} {w : World} (h : MR base w0 β m w) : MR base w0 β m w.drew := h.same (Chg.drew w)
/-- A step that turns one object. -/
theorem MR.step {base : Nat} {w0 : World} {β : Pl} {m : Mem} {w w' : World} {S : Addr → Prop} {r : Nat} {l : Loc} {o o' : Obj} (h : MR base w0 β m w) (hl : β r = some l) (ho : m.obj r = some o)
    (c : Chg w w' S) (hS : ∀ a, S a → base ≤ a.block) (hin : ∀ a, S a → match o with | .row _ _ _ => inLoc l a | _ => a.block = l.block) (hw : o.rw = true)
    (hkind : ∀ q lq, Apart o q l lq → Apart o' q l lq) (hkind' : ∀ q lq, Apart q o lq l → Apart q o' lq l) (hnew : ObjR base β w' l o') : MR base w0 β (m.upd r (some o')) w' := by
  have hclear : ∀ r' l' q, r' ≠ r → β r' = some l' → m.obj r' = some q → Clear S q l' := by
    intro r' l' q hne hb hq
    have ha := h.apart r r' l l' o q (Ne.symm hne) hl hb ho hq (.inl hw)
    cases q with
    | map es g => intro a s; have := hin a s; cases o <;> simp only [Apart] at ha this <;> (first | (have := this.1; omega) | omega)
    | iter r1 a1 b1 c1 => intro a s; have := hin a s; cases o <;> simp only [Apart] at ha this <;> (first | (have := this.1; omega) | omega)
    | row sz es rw =>
      intro a s hi
      have := hin a s
      cases o <;> simp only [Apart, inLoc] at ha this hi <;> omega
  refine ⟨h.below.trans (c.below h.le hS), Nat.le_trans h.le c.size, h.dom, ?_, ?_, ?_, Nat.le_trans h.drawn c.drawn, h.gl⟩
  · intro q o1 hq
    simp only [Mem.upd] at hq ⊢
    by_cases e : q = r
    · subst e; exact ⟨l, hl⟩
    · rw [if_neg e] at hq; exact h.has _ _ hq
  · intro q lq o1 hb hq
    simp only [Mem.upd] at hq
    by_cases e : q = r
    · subst e
      rw [if_pos rfl] at hq; injection hq with hq; subst hq
      rw [hl] at hb; injection hb with hb; subst hb; exact hnew
    · rw [if_neg e] at hq
      exact (h.objs q lq o1 hb hq).keep (Pl.le_refl _) c (hclear q lq o1 e hb hq)
  · intro q q' lq lq' o1 o2 hne hb hb' hq hq' hrw
    simp only [Mem.upd] at hq hq'
    by_cases e : q = r
    · subst e
      rw [if_pos rfl] at hq; injection hq with hq; subst hq
      rw [hl] at hb; injection hb with hb; subst hb
      rw [if_neg (Ne.symm hne)] at hq'
      exact hkind _ _ (h.apart q q' _ lq' o o2 hne hl hb' ho hq' (.inl hw))
    · rw [if_neg e] at hq
      by_cases e' : q' = r
      · subst e'
        rw [if_pos rfl] at hq'; injection hq' with hq'; subst hq'
        rw [hl] at hb'; injection hb' with hb'; subst hb'
        exact hkind' _ _ (h.apart q q' lq _ o1 o hne hb hl hq ho (.inr hw))
      · rw [if_neg e'] at hq'
        exact h.apart q q' lq lq' o1 o2 hne hb hb' hq hq' hrw
/-- An object is forgotten. -/
theorem MR.forget {base : Nat} {w0 : World} {β : Pl} {m : Mem} {w : World} (h : MR base w0 β m w) (r : Nat) : MR base w0 β (m.upd r none) w := by
  refine ⟨h.below, h.le, h.dom, fun q o hq => ?_, fun q l o hb hq => ?_, fun q q' l l' o o' hne hb hb' hq hq' hrw => ?_, h.drawn, h.gl⟩
  · simp only [Mem.upd] at hq ⊢; split at hq
    · cases hq
    · exact h.has q o hq
  · simp only [Mem.upd] at hq; split at hq
    · cases hq
    · exact h.objs q l o hb hq
  · simp only [Mem.upd] at hq hq'; split at hq
    · cases hq
    · split at hq'
      · cases hq'
      · exact h.apart q q' l l' o o' hne hb hb' hq hq' hrw
/-- A new object, at a place that no other one has. -/
theorem MR.add {base : Nat} {w0 : World} {β : Pl} {m : Mem} {w w' : World} {l : Loc} {o : Obj} (h : MR base w0 β m w) (c : Chg w w' (fun _ => False))
    (hap : ∀ r' l' o', β r' = some l' → m.obj r' = some o' → Apart o o' l l' ∧ Apart o' o l' l)
    (hnew : ObjR base (fun q => if q = m.next then some l else β q) w' l o) :
    MR base w0 (fun q => if q = m.next then some l else β q) (m.new o) w' ∧ Pl.le β (fun q => if q = m.next then some l else β q) := by
  have hle : Pl.le β (fun q => if q = m.next then some l else β q) := fun r l' hr => by
    have := h.dom r l' hr
    show (if r = m.next then some l else β r) = some l'
    rw [if_neg (by omega)]; exact hr
  refine ⟨⟨h.below.trans (c.below h.le (fun _ s => s.elim)), Nat.le_trans h.le c.size, ?_, ?_, ?_, ?_, Nat.le_trans h.drawn c.drawn, h.gl⟩, hle⟩
  · intro r l' hr
    simp only [Mem.new]
    by_cases e : r = m.next
    · omega
    · simp only [if_neg e] at hr; have := h.dom r l' hr; omega
  · intro r q hq
    simp only [Mem.new] at hq ⊢
    by_cases e : r = m.next
    · exact ⟨l, by rw [if_pos e]⟩
    · rw [if_neg e] at hq; obtain ⟨l', hl'⟩ := h.has r q hq; exact ⟨l', by rw [if_neg e]; exact hl'⟩
  · intro r l' q hb hq
    simp only [Mem.new] at hq
    by_cases e : r = m.next
    · subst e
      rw [if_pos rfl] at hq; injection hq with hq; subst hq
      simp only [if_pos] at hb; injection hb with hb; subst hb; exact hnew
    · rw [if_neg e] at hq
      simp only [if_neg e] at hb
      exact (h.objs r l' q hb hq).keep hle c (by cases q <;> exact fun _ s => s.elim)
  · intro r r' l1 l2 o1 o2 hne hb hb' hq hq' hrw
    simp only [Mem.new] at hq hq'
    by_cases e : r = m.next
    · subst e
      rw [if_pos rfl] at hq; injection hq with hq; subst hq
      simp only [if_pos] at hb; injection hb with hb; subst hb
      rw [if_neg (Ne.symm hne)] at hq'
      simp only [if_neg (Ne.symm hne)] at hb'
      exact (hap r' l2 o2 hb' hq').1
    · rw [if_neg e] at hq
      simp only [if_neg e] at hb
      by_cases e' : r' = m.next
      · subst e'
        rw [if_pos rfl] at hq'; injection hq' with hq'; subst hq'
        simp only [if_pos] at hb'; injection hb' with hb'; subst hb'
        exact (hap r l1 o1 hb hq).2
      · rw [if_neg e'] at hq'
        simp only [if_neg e'] at hb'
        exact h.apart r r' l1 l2 o1 o2 hne hb hb' hq hq' hrw
theorem ObjR.block_lt {base : Nat} {β : Pl} {w : World} {l : Loc} {o : Obj} (h : ObjR base β w l o) : l.block < w.heap.size := by
  cases o with
  | row sz es rw => exact h.lt
  | map es g =>
    obtain ⟨ces, h1, _⟩ := h.ex
    rcases Nat.lt_or_ge l.block w.heap.size with h' | h'
    · exact h'
    · rw [Array.getElem?_eq_none h'] at h1; cases h1
  | iter r a b d =>
    obtain ⟨mr, _, _, h1⟩ := h.ex
    rcases Nat.lt_or_ge l.block w.heap.size with h' | h'
    · exact h'
    · rw [Array.getElem?_eq_none h'] at h1; cases h1
theorem Apart.of_block {o o' : Obj} {l l' : Loc} (h : l.block ≠ l'.block) : Apart o o' l l' := by
  cases o <;> cases o' <;> simp [Apart, h]
/-- A new object in a new block. -/
theorem MR.alloc {base : Nat} {w0 : World} {β : Pl} {m : Mem} {w : World} {l : Loc} {o : Obj} (h : MR base w0 β m w) (go : Go.Obj) (hl : l.block = w.heap.size)
    (hnew : ∀ β', Pl.le β β' → ObjR base β' (w.alloc go) l o) :
    ∃ β', MR base w0 β' (m.new o) (w.alloc go) ∧ Pl.le β β' ∧ β' m.next = some l := by
  have hle : Pl.le β (fun q => if q = m.next then some l else β q) := fun r l' hr => by
    have := h.dom r l' hr
    show (if r = m.next then some l else β r) = some l'
    rw [if_neg (by omega)]; exact hr
  have := h.add (l := l) (o := o) (Chg.alloc w go) (fun r' l' o' hb ho => by
    have := (h.objs r' l' o' hb ho).block_lt
    exact ⟨Apart.of_block (by omega), Apart.of_block (by omega)⟩) (hnew _ hle)
  exact ⟨_, this.1, this.2, by simp⟩
/-- The environment. -/
def EnvR (β : Pl) (e : Env) (tmps : Array Value) : Prop := ∀ t, VR β (e t) (tmps.getD t undef)
theorem EnvR.mono {β β' : Pl} (h : Pl.le β β') {e : Env} {t : Array Value} (k : EnvR β e t) : EnvR β' e t := fun i => VR.mono h _ _ (k i)
theorem EnvR.put {β : Pl} {e : Env} {a : Act} (k : EnvR β e a.tmps) {x : V} {v : Value} (h : VR β x v) (d : Option Nat) (hd : ∀ t, d = some t → t < a.tmps.size) : EnvR β (e.put d x) (a.put d v).tmps := by
  cases d with
  | none => exact k
  | some d =>
    intro t
    have hd := hd d rfl
    simp only [Env.put, Act.put]
    by_cases e1 : t = d
    · subst e1; rw [if_pos rfl]; simp [hd, h]
    · rw [if_neg e1]; have := k t; simp only [Array.getD_eq_getD_getElem?] at this ⊢
      rw [Array.getElem?_setIfInBounds_ne (Ne.symm e1)]; exact this
end Go.AM
