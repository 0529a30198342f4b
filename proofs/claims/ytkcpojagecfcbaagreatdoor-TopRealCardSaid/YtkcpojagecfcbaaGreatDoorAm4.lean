/-
  THE ABSTRACT MACHINE AND THE MODEL: operations on values alone. No Go program here.
-/
import Derived.ChangeKeysEq
import Derived.Test.YtkcpojagecfcbaaGreatDoorAm3
namespace Go.AM
open Go
set_option linter.unusedVariables false
/-! ### operands -/
def cellOf : Value → V
  | .bool b => .bool b
  | .int k n => .int k n
  | .string s => .str s
  | .pointer none => .ptr none
  | .slice none 0 0 => .sl none 0 (some 0)
  | .map none => .map none
  | .nilFunc => .nilFn
  | .nilIface => .nilIfc
  | .tuple ⟨[]⟩ => .tup []
  | _ => .undef
def ofVal : Value → V
  | .agg cs => .agg (cs.toList.map cellOf)
  | v => cellOf v
theorem cellOf_rel (β : Pl) (v : Value) : VR β (cellOf v) v := by
  unfold cellOf
  split <;> simp [VR, VRs]
theorem ofVal_rel (β : Pl) (v : Value) : VR β (ofVal v) v := by
  unfold ofVal
  split
  · rename_i cs
    simp only [VR]
    refine ⟨cs, rfl, ?_⟩
    generalize cs.toList = l
    induction l with
    | nil => simp [VRs]
    | cons v l ih => simp only [List.map_cons, VRs]; exact ⟨v, l, rfl, cellOf_rel β v, ih⟩
  · exact cellOf_rel β _
def opd : Operand → Opd
  | .tmp t => .t t
  | .const v => .c (ofVal v)
  | .func f => .f f
  | .global _ => .c .undef
theorem ev_rel {β : Pl} {e : Env} {a : Act} (hE : EnvR β e a.tmps) (x : Operand) : VR β (ev e (opd x)) (a.eval x) := by
  cases x with
  | tmp t => exact hE t
  | const v => exact ofVal_rel β v
  | global g => simp [opd, ev, VR]
  | func f => simp [opd, ev, VR, VRs, Act.eval]
theorem evs_rel {β : Pl} {e : Env} {a : Act} (hE : EnvR β e a.tmps) : ∀ xs : List Operand, VRs β ((xs.map opd).map (ev e)) (xs.map a.eval)
  | [] => by simp [VRs]
  | x :: xs => by simp only [List.map_cons, VRs]; exact ⟨_, _, rfl, ev_rel hE x, evs_rel hE xs⟩
section
variable {P : Program} {base : Nat} {w0 : World} {β : Pl} {m : Mem} {w : World} {K : KV}
/-! ### numbers -/
theorem gives_intBin {op : BinOp} {k : IntKind} {a b : Int} {v : V} (h : intBin op k a b = some v) : ∃ u, (binOp op 0 (.int k a) (.int k b)).run P w = .ok u w ∧ VR β v u := by
  cases op <;> simp only [intBin] at h
  case shl => cases h
  case shr => cases h
  case quo => split at h <;> first | (cases h; done) | (rename_i h0; injection h with h; subst h; refine ⟨_, ?_, by simp only [VR]; rfl⟩; simp [binOp, Op.intDiv, h0])
  case rem => split at h <;> first | (cases h; done) | (rename_i h0; injection h with h; subst h; refine ⟨_, ?_, by simp only [VR]; rfl⟩; simp [binOp, Op.intDiv, h0])
  all_goals (injection h with h; subst h; refine ⟨_, ?_, by simp only [VR]; rfl⟩; simp [binOp, Op.intArith, Op.intBits, Op.intCmp])
theorem binOp_int_type (op : BinOp) (t : TypeId) (k k' : IntKind) (a b : Int) : binOp op t (.int k a) (.int k' b) = binOp op 0 (.int k a) (.int k' b) := by
  cases op <;> simp [binOp]
theorem gives_bin {op : BinOp} {t : TypeId} {x y : V} {x' y' : Value} (hx : VR β x x') (hy : VR β y y') {v : V} (h : binV op x y = some v) : ∃ u, (binOp op t x' y').run P w = .ok u w ∧ VR β v u := by
  cases x <;> cases y <;> simp only [binV] at h <;> try (exact absurd h (by simp))
  · rename_i k a k' b
    simp only [VR] at hx hy; subst hx; subst hy
    rw [binOp_int_type]
    split at h
    · split at h
      · cases h
      · rename_i hb; injection h with h; subst h
        refine ⟨_, ?_, by simp only [VR]; rfl⟩
        have : ¬ (b < 0) := hb
        simp [binOp, Op.shift, this]
    · split at h
      · cases h
      · rename_i hb; injection h with h; subst h
        refine ⟨_, ?_, by simp only [VR]; rfl⟩
        have : ¬ (b < 0) := hb
        simp [binOp, Op.shift, this]
    · split at h
      · rename_i hk; subst hk; exact gives_intBin h
      · cases h
  · rename_i a b
    simp only [VR] at hx hy; subst hx; subst hy
    cases op <;> simp only [] at h <;> first
      | (cases h; done)
      | (injection h with h; subst h; refine ⟨_, ?_, by simp only [VR]; rfl⟩; simp [binOp, Op.stringOp])
theorem gives_un {op : UnOp} {x : V} {x' : Value} (hx : VR β x x') {v : V} (h : unV op x = some v) : ∃ u, (Op.unary op x').run P w = .ok u w ∧ VR β v u := by
  cases op <;> cases x <;> simp only [unV] at h <;> first
    | (cases h; done)
    | (injection h with h; subst h; simp only [VR] at hx; subst hx; refine ⟨_, ?_, by simp only [VR]; rfl⟩; simp [Op.unary, Op.intArith, Op.intBits])
/-! ### equality -/
/-- What the cells of a type hold, that can be compared cell by cell: whole numbers, bools, texts, and structs of such. -/
def tagsF (P : Program) (tags : TypeId → Option (List CK)) : List Field → Nat → Option (List CK)
  | [], _ => some []
  | f :: fs, o =>
    if f.offset = o ∧ f.name ≠ "_" then
      match tags f.type, P.info? f.type with
      | some ks, some i => if ks.length = i.size then (tagsF P tags fs (o + i.size)).map (ks ++ ·) else none
      | _, _ => none
    else none
def eqTags (P : Program) : Nat → TypeId → Option (List CK)
  | 0, _ => none
  | d + 1, t =>
    match P.info? t, P.underlying t with
    | some i, some .bool => if i.size = 1 then some [.bool] else none
    | some i, some (.int _) => if i.size = 1 then some [.int] else none
    | some i, some .string => if i.size = 1 then some [.str] else none
    | some i, some (.struct fs) =>
      if P.stoodInHeld t then none
      else match tagsF P (eqTags P d) fs.toList 0 with
        | some ks => if ks.length = i.size then some ks else none
        | none => none
    | some i, some (.array n e) =>
      match eqTags P d e, P.info? e with
      | some ks, some ei => if ks.length = ei.size ∧ n * ei.size = i.size then some (List.replicate n ks).flatten else none
      | _, _ => none
    | _, _ => none
theorem eqCs_append : ∀ {a1 b1 a2 b2 : List V} {b : Bool}, a1.length = b1.length → eqCs (a1 ++ a2) (b1 ++ b2) = some b → ∃ x y, eqCs a1 b1 = some x ∧ eqCs a2 b2 = some y ∧ b = (x && y)
  | [], [], a2, b2, b, _, h => ⟨true, b, rfl, by simpa using h, by simp⟩
  | [], y :: ys, a2, b2, b, hl, h => by simp at hl
  | x :: xs, [], a2, b2, b, hl, h => by simp at hl
  | x :: xs, y :: ys, a2, b2, b, hl, h => by
    simp only [List.cons_append, eqCs] at h
    cases hc : eqC x y with
    | none => rw [hc] at h; simp at h
    | some c =>
      rw [hc] at h
      cases c with
      | true =>
        simp only at h
        obtain ⟨p, q, h1, h2, h3⟩ := eqCs_append (by simpa using hl) h
        exact ⟨p, q, by simp [eqCs, hc, h1], h2, h3⟩
      | false =>
        simp only at h
        cases hr : eqCs (xs ++ a2) (ys ++ b2) with
        | none => rw [hr] at h; simp at h
        | some r =>
          rw [hr] at h; simp at h; subst h
          obtain ⟨p, q, h1, h2, h3⟩ := eqCs_append (by simpa using hl) hr
          exact ⟨false, q, by simp [eqCs, hc, h1], h2, by simp⟩
theorem eqC_of_cs {x y : V} {b : Bool} (h : eqCs [x] [y] = some b) : eqC x y = some b := by
  simp only [eqCs] at h
  cases hc : eqC x y with
  | none => rw [hc] at h; simp at h
  | some c => rw [hc] at h; cases c <;> simpa using h
theorem equalIn_cell {d : Nat} {t : TypeId} {x y : V} {x' y' : Value} (hx : VR β x x') (hy : VR β y y') {b : Bool} (h : eqC x y = some b)
    (ht : (P.underlying t = some .bool ∧ ckOk .bool x = true) ∨ (∃ k, P.underlying t = some (.int k) ∧ ckOk .int x = true) ∨ (P.underlying t = some .string ∧ ckOk .str x = true) ∨ (∃ e, P.underlying t = some (.pointer e) ∧ ckOk .ptr x = true) ∨ (∃ e, P.underlying t = some (.slice e) ∧ ckOk .sl x = true) ∨ (∃ k e, P.underlying t = some (.map k e) ∧ ckOk .map x = true)) :
    (Op.equalIn (d + 1) t x' y').run P w = .ok b w := by
  rcases ht with ⟨ht, hk⟩ | ⟨k, ht, hk⟩ | ⟨ht, hk⟩ | ⟨e, ht, hk⟩ | ⟨e, ht, hk⟩ | ⟨k, e, ht, hk⟩
  · cases x <;> simp only [ckOk, Bool.false_eq_true] at hk
    rename_i p
    cases y <;> simp only [eqC] at h <;> first | (cases h; done) | skip
    injection h with h; subst h
    simp only [VR] at hx hy; subst hx; subst hy
    rw [run_equalIn_bool' w d t _ _ ht]
  · cases x <;> simp only [ckOk, Bool.false_eq_true] at hk
    rename_i k1 p
    cases y <;> simp only [eqC] at h <;> first | (cases h; done) | skip
    rename_i k2 q
    split at h
    · rename_i hk; subst hk; injection h with h; subst h
      simp only [VR] at hx hy; subst hx; subst hy
      rw [run_equalIn_int w d t _ _ _ _ ht]
    · cases h
  · cases x <;> simp only [ckOk, Bool.false_eq_true] at hk
    rename_i p
    cases y <;> simp only [eqC] at h <;> first | (cases h; done) | skip
    injection h with h; subst h
    simp only [VR] at hx hy; subst hx; subst hy
    rw [run_equalIn_string w d t _ _ ht, beq_toListBytes]
  · cases x <;> simp only [ckOk, Bool.false_eq_true] at hk
    rename_i p
    rcases p with _ | ⟨r, i, j⟩
    · cases y <;> simp only [eqC] at h <;> first | (cases h; done) | skip
      rename_i q
      injection h with h; subst h
      simp only [VR] at hx; subst hx
      rcases q with _ | ⟨r, i, j⟩ <;> simp only [VR] at hy
      · subst hy; simp [Op.equalIn, run_underlying ht]
      · obtain ⟨l, _, rfl⟩ := hy; simp [Op.equalIn, run_underlying ht]
    · cases y <;> simp only [eqC] at h <;> first | (cases h; done) | skip
      rename_i q
      cases q with
      | some q => simp at h
      | none =>
        injection h with h; subst h
        simp only [VR] at hx hy; subst hy
        obtain ⟨l, _, rfl⟩ := hx
        simp [Op.equalIn, run_underlying ht]
  · cases x <;> simp only [ckOk, Bool.false_eq_true] at hk
    rename_i p n c
    rcases p with _ | ⟨r, i, zz⟩
    · cases y <;> simp only [eqC] at h <;> first | (cases h; done) | skip
      rename_i q n' c'
      injection h with h; subst h
      simp only [VR] at hx; obtain ⟨_, _, rfl⟩ := hx
      rcases q with _ | ⟨r, i, zz⟩ <;> simp only [VR] at hy
      · obtain ⟨_, _, rfl⟩ := hy; simp [Op.equalIn, run_underlying ht]
      · obtain ⟨l, a, cap, _, rfl, _⟩ := hy; simp [Op.equalIn, run_underlying ht]
    · cases y <;> simp only [eqC] at h <;> first | (cases h; done) | skip
      rename_i q n' c'
      cases q with
      | some q => simp at h
      | none =>
        injection h with h; subst h
        simp only [VR] at hx hy; obtain ⟨_, _, rfl⟩ := hy
        obtain ⟨l, a, cap, _, rfl, _⟩ := hx
        simp [Op.equalIn, run_underlying ht]
  · cases x <;> simp only [ckOk, Bool.false_eq_true] at hk
    rename_i p
    rcases p with _ | r
    · cases y <;> simp only [eqC] at h <;> first | (cases h; done) | skip
      rename_i q
      injection h with h; subst h
      simp only [VR] at hx; subst hx
      rcases q with _ | r <;> simp only [VR] at hy
      · subst hy; simp [Op.equalIn, run_underlying ht]
      · obtain ⟨l, _, rfl⟩ := hy; simp [Op.equalIn, run_underlying ht]
    · cases y <;> simp only [eqC] at h <;> first | (cases h; done) | skip
      rename_i q
      cases q with
      | some q => simp at h
      | none =>
        injection h with h; subst h
        simp only [VR] at hx hy; subst hy
        obtain ⟨l, _, rfl⟩ := hx
        simp [Op.equalIn, run_underlying ht]
theorem extract_rel {as : List V} {xs : Array Value} (h : VRs β as xs.toList) (o n : Nat) (hn : o + n ≤ as.length) : VRs β ((as.drop o).take n) (xs.extract o (o + n)).toList := by
  have := (h.drop o).take n
  rw [Array.toList_extract, List.extract_eq_take_drop, show o + n - o = n by omega]; exact this
/-- A value of a type, out of its cells. -/
def valOf (P : Program) (t : TypeId) (xs : Array Value) : Value :=
  match P.underlying t with
  | some d => if aggD d then .agg xs else xs.getD 0 undef
  | none => undef
theorem one_cell {l : List V} (h : l.length = 1) : ∃ x, l = [x] := by
  match l, h with
  | [x], _ => exact ⟨x, rfl⟩
theorem part_run {t : TypeId} {i : TypeInfo} {d : TypeDesc} (hi : P.info? t = some i) (hd : P.underlying t = some d) (xs : Array Value) (o : Nat) (ho : o + i.size ≤ xs.size) (h1 : aggD d = false → i.size = 1) :
    (part t xs o).run P w = .ok (valOf P t (xs.extract o (o + i.size))) w := by
  unfold part valOf
  simp only [Sem.run_bind, run_isAgg' hd, Result.andThen_ok, hd]
  cases hagg : aggD d with
  | true => simp [run_sizeOf' hi]
  | false =>
    have h1 := h1 hagg
    have hlt : o < xs.size := by omega
    have hlt2 : 0 < (xs.extract o (o + i.size)).size := by simp; omega
    simp only [Bool.false_eq_true, if_false, Array.getElem?_eq_getElem hlt, Array.getD_eq_getD_getElem?, Array.getElem?_eq_getElem hlt2, Option.getD_some, Sem.run_pure]
    simp
theorem ckAll_length : ∀ {ks : List CK} {xs : List V}, ckAll ks xs = true → xs.length = ks.length
  | [], [], _ => rfl
  | [], _ :: _, h => by simp [ckAll] at h
  | _ :: _, [], h => by simp [ckAll] at h
  | k :: ks, x :: xs, h => by simp only [ckAll, Bool.and_eq_true] at h; simp [ckAll_length h.2]
theorem ckAll_append : ∀ {k1 k2 : List CK} {xs : List V}, ckAll (k1 ++ k2) xs = true → ckAll k1 (xs.take k1.length) = true ∧ ckAll k2 (xs.drop k1.length) = true
  | [], k2, xs, h => by simpa [ckAll] using h
  | k :: k1, k2, [], h => by simp [ckAll] at h
  | k :: k1, k2, x :: xs, h => by
    simp only [List.cons_append, ckAll, Bool.and_eq_true] at h
    have := ckAll_append h.2
    simp only [List.length_cons, List.take_succ_cons, List.drop_succ_cons, ckAll, Bool.and_eq_true]
    exact ⟨⟨h.1, this.1⟩, this.2⟩
theorem eqTags_info {d : Nat} {t : TypeId} {ks : List CK} (h : eqTags P d t = some ks) : ∃ i dd, P.info? t = some i ∧ P.underlying t = some dd ∧ ks.length = i.size ∧ (aggD dd = false → i.size = 1) := by
  cases d with
  | zero => simp [eqTags] at h
  | succ d =>
    simp only [eqTags] at h
    split at h
    · rename_i i h1 h2; split at h
      · rename_i hs; injection h with h; subst h; exact ⟨_, _, h1, h2, by simp [hs], fun _ => hs⟩
      · cases h
    · rename_i i k h1 h2; split at h
      · rename_i hs; injection h with h; subst h; exact ⟨_, _, h1, h2, by simp [hs], fun _ => hs⟩
      · cases h
    · rename_i i h1 h2; split at h
      · rename_i hs; injection h with h; subst h; exact ⟨_, _, h1, h2, by simp [hs], fun _ => hs⟩
      · cases h
    · rename_i i fs h1 h2; split at h
      · cases h
      · split at h
        · split at h
          · rename_i hl; injection h with h; subst h; exact ⟨_, _, h1, h2, hl, fun hf => by simp [aggD] at hf⟩
          · cases h
        · cases h
    · rename_i i n e h1 h2; split at h
      · split at h
        · rename_i ks' ei _ _ hl; injection h with h; subst h
          exact ⟨_, _, h1, h2, by rw [List.length_flatten, List.map_replicate, List.sum_replicate_nat, hl.1]; exact hl.2, fun hf => by simp [aggD] at hf⟩
        · cases h
      · cases h
    · cases h
theorem equalIn_ty : ∀ (d : Nat) (t : TypeId) {ks : List CK} {as bs : List V} {xs ys : Array Value} {b : Bool} (D : Nat), eqTags P d t = some ks → VRs β as xs.toList → VRs β bs ys.toList → ckAll ks as = true → bs.length = as.length → eqCs as bs = some b → d ≤ D →
    (Op.equalIn D t (valOf P t xs) (valOf P t ys)).run P w = .ok b w
  | 0, t, ks, as, bs, xs, ys, b, D, h, _, _, _, _, _, _ => by simp [eqTags] at h
  | d + 1, t, ks, as, bs, xs, ys, b, 0, h, _, _, _, _, _, hD => by omega
  | d + 1, t, ks, as, bs, xs, ys, b, D + 1, h, hx, hy, hk, hlb, he, hD => by
    have cellcase : ∀ dd c, P.underlying t = some dd → aggD dd = false → ks = [c] → ((dd = .bool ∧ c = .bool) ∨ (∃ k, dd = .int k ∧ c = .int) ∨ (dd = .string ∧ c = .str)) →
        (Op.equalIn (D + 1) t (valOf P t xs) (valOf P t ys)).run P w = .ok b w := by
      intro dd c hd hagg hs hdd
      subst hs
      have hla := ckAll_length hk
      obtain ⟨x, rfl⟩ := one_cell (by rw [hla]; rfl : as.length = 1)
      obtain ⟨y, rfl⟩ := one_cell (by rw [hlb]; rfl : bs.length = 1)
      simp only [VRs] at hx hy
      obtain ⟨x', xr, hx1, hx2, hx3⟩ := hx
      obtain ⟨y', yr, hy1, hy2, hy3⟩ := hy
      subst hx3; subst hy3
      have e1 : valOf P t xs = x' := by
        have : xs = #[x'] := Array.ext' (by simpa using hx1)
        subst this; simp [valOf, hd, hagg]
      have e2 : valOf P t ys = y' := by
        have : ys = #[y'] := Array.ext' (by simpa using hy1)
        subst this; simp [valOf, hd, hagg]
      rw [e1, e2]
      simp only [ckAll, Bool.and_true] at hk
      refine equalIn_cell hx2 hy2 (eqC_of_cs he) ?_
      rcases hdd with ⟨rfl, rfl⟩ | ⟨k, rfl, rfl⟩ | ⟨rfl, rfl⟩
      · exact .inl ⟨hd, hk⟩
      · exact .inr (.inl ⟨k, hd, hk⟩)
      · exact .inr (.inr (.inl ⟨hd, hk⟩))
    simp only [eqTags] at h
    split at h
    · rename_i i h1 hd; split at h
      · injection h with h; exact cellcase _ .bool hd rfl h.symm (.inl ⟨rfl, rfl⟩)
      · cases h
    · rename_i i k h1 hd; split at h
      · injection h with h; exact cellcase _ .int hd rfl h.symm (.inr (.inl ⟨k, rfl, rfl⟩))
      · cases h
    · rename_i i h1 hd; split at h
      · injection h with h; exact cellcase _ .str hd rfl h.symm (.inr (.inr ⟨rfl, rfl⟩))
      · cases h
    · rename_i i fs hi hd
      split at h
      · cases h
      · rename_i h1
        have h1 : P.stoodInHeld t = false := by simpa using h1
        split at h
        · rename_i ks' htags
          split at h
          · rename_i hlen; injection h with h; subst h
            have ht : P.underlying t = some (.struct (P.fieldsOf t)) := by rw [hd]; simp [Program.fieldsOf, hd]
            have ef : (P.fieldsOf t) = fs := by simp [Program.fieldsOf, hd]
            have e1 : valOf P t xs = .agg xs := by simp [valOf, hd, aggD]
            have e2 : valOf P t ys = .agg ys := by simp [valOf, hd, aggD]
            rw [e1, e2, run_equalIn_struct w D t xs ys ht h1, ef]
            have hla := ckAll_length hk
            have hxs : xs.size = as.length := by rw [hx.length, Array.length_toList]
            have hys : ys.size = as.length := by rw [← hlb, hy.length, Array.length_toList]
            have key : ∀ (l : List Field) (o : Nat) (b : Bool) (kl : List CK), o ≤ as.length → tagsF P (eqTags P d) l o = some kl → ckAll kl (as.drop o) = true → eqCs (as.drop o) (bs.drop o) = some b → (Op.eqFields D xs ys l).run P w = .ok b w := by
              intro l
              induction l with
              | nil =>
                intro o b kl hole htl hkl he
                simp only [tagsF, Option.some.injEq] at htl; subst htl
                have h0 := ckAll_length hkl
                have h0' : (as.drop o) = [] := List.eq_nil_of_length_eq_zero (by simpa using h0)
                have h0'' : (bs.drop o) = [] := List.eq_nil_of_length_eq_zero (by simp at h0 ⊢; omega)
                rw [h0', h0''] at he
                simp only [eqCs, Option.some.injEq] at he; subst he
                simp [Op.eqFields]
              | cons f l ih =>
                intro o b kl hole htl hkl he
                simp only [tagsF] at htl
                split at htl
                · rename_i hcond
                  obtain ⟨ho, hn⟩ := hcond
                  split at htl
                  · rename_i k1 fi hk1 hfi
                    split at htl
                    · rename_i hl1
                      rw [Option.map_eq_some_iff] at htl
                      obtain ⟨k2, hk2, rfl⟩ := htl
                      have hc := ckAll_append hkl
                      have hlenkl := ckAll_length hkl
                      simp only [List.length_append, List.length_drop] at hlenkl
                      rw [hl1] at hc hlenkl
                      have hsp : ∀ (zs : List V), zs.drop o = (zs.drop o).take fi.size ++ zs.drop (o + fi.size) := fun zs => by rw [← List.drop_drop, List.take_append_drop]
                      rw [hsp as, hsp bs] at he
                      rw [List.drop_drop] at hc
                      obtain ⟨p, q, g1, g2, g3⟩ := eqCs_append (by simp; omega) he
                      obtain ⟨fi', fd, hfi', hfd, hsz, hone⟩ := eqTags_info hk1
                      rw [hfi] at hfi'; injection hfi' with hfi'; subst hfi'
                      have hpx := part_run (w := w) hfi hfd xs o (by omega) hone
                      have hpy := part_run (w := w) hfi hfd ys o (by omega) hone
                      have hrec := equalIn_ty d f.type D hk1 (extract_rel hx o fi.size (by omega)) (extract_rel hy o fi.size (by omega)) hc.1 (by simp; omega) g1 (by omega)
                      have hih := ih (o + fi.size) q k2 (by omega) hk2 hc.2 g2
                      simp only [Op.eqFields, hn, ne_eq, not_false_eq_true, if_true, ho, Sem.run_bind, hpx, hpy, Result.andThen_ok, hrec]
                      subst g3
                      cases p with
                      | true => simpa using hih
                      | false => simp
                    · cases htl
                  · cases htl
                · cases htl
            exact key fs.toList 0 b _ (Nat.zero_le _) htags (by simpa using hk) (by simpa using he)
          · cases h
        · cases h
    · rename_i i n el hi hd
      split at h
      · rename_i ks' ei hks hei
        split at h
        · rename_i hlen
          obtain ⟨hlen, hlen2⟩ := hlen
          injection h with h; subst h
          have e1 : valOf P t xs = .agg xs := by simp [valOf, hd, aggD]
          have e2 : valOf P t ys = .agg ys := by simp [valOf, hd, aggD]
          have hcs : P.cellsOf el = ei.size := by simp [Program.cellsOf, hei]
          rw [e1, e2, run_equalIn_array w D xs ys hd hei, hcs, List.range_eq_range']
          have hla := ckAll_length hk
          rw [List.length_flatten, List.map_replicate, List.sum_replicate_nat, hlen] at hla
          have hxs : xs.size = as.length := by rw [hx.length, Array.length_toList]
          have hys : ys.size = as.length := by rw [← hlb, hy.length, Array.length_toList]
          obtain ⟨fi', fd, hfi', hfd, hsz, hone⟩ := eqTags_info hks
          rw [hei] at hfi'; injection hfi' with hfi'; subst hfi'
          have key : ∀ (k j : Nat) (b : Bool), (j + k) * ei.size = as.length → ckAll (List.replicate k ks').flatten (as.drop (j * ei.size)) = true → eqCs (as.drop (j * ei.size)) (bs.drop (j * ei.size)) = some b → (Op.eqItems D el ei.size xs ys (List.range' j k)).run P w = .ok b w := by
            intro k
            induction k with
            | zero =>
              intro j b hj hkl he
              have h0' : (as.drop (j * ei.size)) = [] := List.drop_of_length_le (by rw [← hj]; simp)
              have h0'' : (bs.drop (j * ei.size)) = [] := List.drop_of_length_le (by rw [hlb, ← hj]; simp)
              rw [h0', h0''] at he
              simp only [eqCs, Option.some.injEq] at he; subst he
              simp [Op.eqItems]
            | succ k ih =>
              intro j b hj hkl he
              rw [List.replicate_succ, List.flatten_cons] at hkl
              have hc := ckAll_append hkl
              rw [hlen] at hc
              have hj2 : (j + 1) * ei.size ≤ as.length := by rw [← hj]; exact Nat.mul_le_mul_right _ (by omega)
              rw [Nat.add_mul, Nat.one_mul] at hj2
              have hsp : ∀ (zs : List V), zs.drop (j * ei.size) = (zs.drop (j * ei.size)).take ei.size ++ zs.drop (j * ei.size + ei.size) := fun zs => by rw [← List.drop_drop, List.take_append_drop]
              rw [hsp as, hsp bs] at he
              rw [List.drop_drop] at hc
              obtain ⟨p, q, g1, g2, g3⟩ := eqCs_append (by simp; omega) he
              have hpx := part_run (w := w) hei hfd xs (j * ei.size) (by omega) hone
              have hpy := part_run (w := w) hei hfd ys (j * ei.size) (by omega) hone
              have hrec := equalIn_ty d el D hks (extract_rel hx (j * ei.size) ei.size (by omega)) (extract_rel hy (j * ei.size) ei.size (by omega)) hc.1 (by simp; omega) g1 (by omega)
              have hjs : j * ei.size + ei.size = (j + 1) * ei.size := by rw [Nat.add_mul, Nat.one_mul]
              rw [hjs] at hc g2
              have hih := ih (j + 1) q (by rw [← hj]; congr 1; omega) hc.2 g2
              simp only [List.range'_succ, Op.eqItems, Sem.run_bind, hpx, hpy, Result.andThen_ok, hrec]
              subst g3
              cases p with
              | true => simpa using hih
              | false => simp
          exact key n 0 b (by rw [Nat.zero_add]; exact hla.symm) (by simpa using hk) (by simpa using he)
        · cases h
      · cases h
    · cases h
end
end Go.AM
