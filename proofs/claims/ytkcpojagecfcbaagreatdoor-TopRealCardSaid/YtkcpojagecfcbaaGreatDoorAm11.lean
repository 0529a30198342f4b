/-
  THE ABSTRACT MACHINE AND THE MODEL: REGIONS, in the order of the text, and in whatever order is drawn. No Go program here.
-/
import Derived.Test.YtkcpojagecfcbaaGreatDoorAm10
namespace Go.AM
open Go
set_option linter.unusedVariables false
/-! ### the compiler: regions -/
def compOper (P : Program) (ops : Array Oper) (o : Oper) : IOp :=
  match o.guard with
  | none => ⟨o.dst, compOp P o.op, none⟩
  | some (j, b) => match (ops[j]?).bind (·.dst) with
    | some d => ⟨o.dst, compOp P o.op, some (d, b)⟩
    | none => ⟨o.dst, .bad, none⟩
def IOp.looks (o : IOp) : List Nat := slotsOf o.op.opds ++ (match o.guard with | some (d, _) => [d] | none => [])
/-- x doesn't write where y looks. -/
def IOp.clearOf (x y : IOp) : Bool := match x.dst with | some d => !(y.looks).contains d | none => true
/-- They write at two places. -/
def IOp.dstNe (x y : IOp) : Bool := match x.dst with | some d => y.dst != some d | none => true
/-- The orders of a region: an operation, and what comes behind it; or one of two. -/
inductive DTree where
  | done
  | op (o : IOp) (t : DTree)
  | alt (a b : DTree)
def dexec (Γ : Ctx) : DTree → Env → Mem → (Env → Mem → Prop) → Prop
  | .done, e, m, K => K e m
  | .op o t, e, m, K =>
    match gwant o.guard e with
    | some true => opx Γ o.op e m fun v m' => dexec Γ t (e.put o.dst v) m' K
    | some false => dexec Γ t (e.put o.dst (.tup [])) m K
    | none => False
  | .alt a b, e, m, K => dexec Γ a e m K ∧ dexec Γ b e m K
/-- Does j wait for i? -/
def waits (before : Array Nat) (j i : Nat) : Bool := (before.getD j 0).testBit i
/-- May an operation be taken at once? It doesn't turn memory; it writes where no other one writes, nor looks ahead of it; what hasn't come and doesn't wait for it doesn't write where it looks, and turns no memory if it reads. -/
def eager (ios : Array IOp) (before : Array Nat) (listed : Array Bool) (i : Nat) : Bool :=
  match ios[i]? with
  | none => false
  | some o =>
    decide (o.op.cls ≤ 1) && o.clearOf o && (List.range ios.size).all fun j =>
      (j == i) ||
      (match ios[j]? with
       | some oj => o.dstNe oj && (waits before j i || (o.clearOf oj && (listed.getD j true || (oj.clearOf o && (decide (o.op.cls = 0) || decide (oj.op.cls ≤ 1) || oj.op.adds)))))
       | none => false)
def mkTree (ops : Array Oper) (ios : Array IOp) (before : Array Nat) : Nat → Array Bool → DTree
  | 0, _ => .done
  | n + 1, listed =>
    match (Region.ready .any ops listed).find? (eager ios before listed) with
    | some i => .op (ios.getD i default) (mkTree ops ios before n (listed.setIfInBounds i true))
    | none =>
      match Region.ready .any ops listed with
      | [] => .done
      | i :: is => is.foldl (fun t j => .alt t (.op (ios.getD j default) (mkTree ops ios before n (listed.setIfInBounds j true)))) (.op (ios.getD i default) (mkTree ops ios before n (listed.setIfInBounds i true)))
/-- 'before' tells what it is to tell: each operation waits for those of its edges, and for those that they wait for; edges go back. -/
def beforeOk (ops : Array Oper) (before : Array Nat) : Bool :=
  (List.range ops.size).all fun j =>
    (List.range ops.size).all fun i =>
      !(waits before j i) || (match ops[j]? with
        | some o => o.after.any fun e => Region.binds .any e && (e.on == i || waits before e.on i) && decide (e.on < j)
        | none => false)
def edgesBack (ops : Array Oper) : Bool :=
  (List.range ops.size).all fun j => match ops[j]? with
    | some o => o.after.all fun e => !Region.binds .any e || decide (e.on < j)
    | none => true
section
variable {P : Program} {base : Nat} {w0 : World} {Γ : Ctx}
/-- What is told of a compiled operation: it is bad, or its guard is the operation's. -/
theorem compOper_cases (P : Program) (ops : Array Oper) (o : Oper) : (compOper P ops o).op = .bad ∧ (compOper P ops o).guard = none ∨ (compOper P ops o).op = compOp P o.op ∧
    ((o.guard = none ∧ (compOper P ops o).guard = none) ∨ ∃ j b d, o.guard = some (j, b) ∧ (ops[j]?).bind (·.dst) = some d ∧ (compOper P ops o).guard = some (d, b)) := by
  unfold compOper
  cases hg : o.guard with
  | none => exact .inr ⟨rfl, .inl ⟨rfl, rfl⟩⟩
  | some g =>
    obtain ⟨j, b⟩ := g
    simp only
    cases hd : (ops[j]?).bind (·.dst) with
    | none => exact .inl ⟨rfl, rfl⟩
    | some d => exact .inr ⟨rfl, .inr ⟨j, b, d, rfl, hd, rfl⟩⟩
theorem compOper_dst (P : Program) (ops : Array Oper) (o : Oper) : (compOper P ops o).dst = o.dst := by
  unfold compOper; split
  · rfl
  · split <;> rfl
theorem gwant_rel {β : Pl} {e : Env} {a : Act} {ops : Array Oper} {o : Oper} (hnb : (compOper P ops o).op = compOp P o.op ∧
    ((o.guard = none ∧ (compOper P ops o).guard = none) ∨ ∃ j b d, o.guard = some (j, b) ∧ (ops[j]?).bind (·.dst) = some d ∧ (compOper P ops o).guard = some (d, b)))
    (hg : ∀ d b, (compOper P ops o).guard = some (d, b) → VR β (e d) (a.tmps.getD d undef)) {b : Bool} (h : gwant (compOper P ops o).guard e = some b) :
    Region.wanted o (yielded ops a.tmps) = b := by
  unfold Region.wanted
  rcases hnb.2 with ⟨h1, h2⟩ | ⟨j, want, d, h1, hd, h2⟩
  · rw [h2] at h; simp only [gwant, Option.some.injEq] at h; rw [h1]; exact h
  · rw [h2] at h
    have hv := hg d want h2
    rw [h1]
    simp only
    simp only [gwant] at h
    split at h
    · rename_i c hc
      injection h with h; subst h
      rw [hc] at hv; simp only [VR] at hv
      have ht : a.tmps[d]? = some (.bool c) := by
        rw [Array.getD_eq_getD_getElem?] at hv
        cases hx : a.tmps[d]? with
        | none => rw [hx] at hv; simp [undef] at hv
        | some y => rw [hx] at hv; simp at hv; rw [hv]
      have hy : yielded ops a.tmps j = some c := by simp [yielded, hd, ht]
      rw [hy]; cases c <;> cases want <;> rfl
    · rename_i vs hc
      injection h with h; subst h
      rw [hc] at hv; simp only [VR] at hv
      obtain ⟨xs, hxs, _⟩ := hv
      have hy : yielded ops a.tmps j = none := by
        unfold yielded
        rw [hd]
        rw [Array.getD_eq_getD_getElem?] at hxs
        cases hx : a.tmps[d]? with
        | none => simp [hx]
        | some y => rw [hx] at hxs; simp at hxs; simp [hx, hxs]
      rw [hy]; rfl
    · cases h
/-- The state behind a region's operations. -/
def RegQ (base : Nat) (w0 : World) (β : Pl) (n : Nat) (K : Env → Mem → Prop) (Q : Exit → Act → World → Prop) : Prop :=
  ∀ a' w' e' m' β', Pl.le β β' → EnvR β' e' a'.tmps → MR base w0 β' m' w' → a'.defers = [] → a'.tmps.size = n → K e' m' → Q .normal a' w'
theorem opsx_sound (hΓ : CtxOk P Γ) {ops : Array Oper} {n : Nat} {Q : Exit → Act → World → Prop} : ∀ (l : List Oper) {β : Pl} {m : Mem} {w : World} {e : Env} {a : Act} {K : Env → Mem → Prop}, (∀ o ∈ l, ∀ d, o.dst = some d → d < n) → a.tmps.size = n → a.defers = [] →
    EnvR β e a.tmps → MR base w0 β m w → opsx Γ (l.map (compOper P ops)) e m K → RegQ base w0 β n K Q → wpList P ops Q l a w
  | [], β, m, w, e, a, K, hd, hn, hdf, hE, hM, h, hQ => by
    simp only [List.map_nil, opsx] at h
    exact hQ a w e m β (Pl.le_refl _) hE hM hdf hn h
  | o :: l, β, m, w, e, a, K, hd, hn, hdf, hE, hM, h, hQ => by
    simp only [List.map_cons, opsx] at h
    unfold wpList
    rcases compOper_cases P ops o with ⟨hb, hg0⟩ | hnb
    · rw [hg0] at h; simp only [gwant] at h; rw [hb] at h; exact h.elim
    · rw [hnb.1, compOper_dst] at h
      split at h
      · rename_i hg
        have hw := gwant_rel hnb (fun d b _ => hE d) hg
        rw [hw]; simp only [if_true]
        left
        refine (op_sound hΓ hE hM h).wp (fun v w' ⟨β', r, m', h1, h2, h3, h4⟩ => ?_)
        exact opsx_sound hΓ l (fun o' ho' => hd o' (by simp [ho'])) (by cases o.dst <;> simp [Act.put, hn]) (by cases o.dst <;> simpa [Act.put] using hdf)
          ((hE.mono h1).put h2 o.dst (fun t ht => by rw [hn]; exact hd o (by simp) t ht)) h3 h4 (fun a' w' e' m' β'' g1 => hQ a' w' e' m' β'' (Pl.le_trans h1 g1))
      · rename_i hg
        have hw := gwant_rel hnb (fun d b _ => hE d) hg
        rw [hw]; simp only [Bool.false_eq_true, if_false]
        exact opsx_sound hΓ l (fun o' ho' => hd o' (by simp [ho'])) (by cases o.dst <;> simp [Act.put, hn]) (by cases o.dst <;> simpa [Act.put] using hdf)
          (hE.put (by simp [VR, VRs, undef]) o.dst (fun t ht => by rw [hn]; exact hd o (by simp) t ht)) hM h hQ
      · exact h.elim
end
end Go.AM
