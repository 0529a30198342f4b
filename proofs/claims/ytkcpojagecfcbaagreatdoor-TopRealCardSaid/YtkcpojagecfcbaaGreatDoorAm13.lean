/-
  THE ABSTRACT MACHINE: statements and functions; a program's code turned into them; EACH IS SOUND. No Go program here.
-/
import Derived.Test.YtkcpojagecfcbaaGreatDoorAm12
import Derived.LoopN
import Derived.ScopeJumps
namespace Go.AM
open Go
set_option linter.unusedVariables false
inductive St where
  | skip
  | bad
  | region (ops : List IOp)
  | draw (mrg : Bool) (live : List Nat) (t : DTree)
  | seq (a b : St)
  | cond (c : Opd) (a b : St)
  | block (id : Nat) (b : St)
  | loop (live : List Nat) (b : St)
  | exit (id : Nat)
  | ret
  | jump (l : Nat) (live : List Nat) (p r : St)
  | goto (l : Nat)
inductive Ex where
  | normal
  | exit (id : Nat)
  | ret
  | goto (l : Nat)
abbrev KX := Ex → Env → Mem → Prop
/-- Only these slots are kept. -/
def Env.none : Env := fun _ => .undef
def keep : List Nat → Env → Env
  | [], _ => Env.none
  | d :: ds, e => (keep ds e).put (some d) (e d)
def thenX (f : Env → Mem → KX → Prop) (K : KX) : KX
  | .normal, e, m => f e m K
  | .exit i, e, m => K (.exit i) e m
  | .ret, e, m => K .ret e m
  | .goto l, e, m => K (.goto l) e m
def blockX (id : Nat) (K : KX) : KX
  | .exit i, e, m => if i = id then K .normal e m else K (.exit i) e m
  | .normal, e, m => K .normal e m
  | .ret, e, m => K .ret e m
  | .goto l, e, m => K (.goto l) e m
/-- Ahead of a label. -/
def aheadX (J : Env → Mem → Prop) (K : KX) : KX
  | .normal, e, m => J e m
  | .exit i, e, m => K (.exit i) e m
  | .ret, e, m => K .ret e m
  | .goto _, _, _ => False
/-- Behind a label: by a goto back to it. -/
def jumpX (l : Nat) (J : Env → Mem → Prop) (K : KX) : KX
  | .goto i, e, m => i = l ∧ J e m
  | .normal, e, m => K .normal e m
  | .exit i, e, m => K (.exit i) e m
  | .ret, e, m => K .ret e m
def exec (Γ : Ctx) : St → Env → Mem → KX → Prop
  | .skip, e, m, K => K .normal e m
  | .bad, _, _, _ => False
  | .region ops, e, m, K => opsx Γ ops e m fun e m => K .normal e m
  | .draw false live t, e, m, K => dexec Γ t e m fun e m => K .normal (keep live e) m
  | .draw true live t, e, m, K => ∃ J : Env → Mem → Prop, dexec Γ t e m (fun e2 m2 => J (keep live e2) m2) ∧ ∀ e' m', J e' m' → K .normal e' m'
  | .seq a b, e, m, K => exec Γ a e m (thenX (exec Γ b) K)
  | .cond c a b, e, m, K =>
    match ev e c with
    | .bool true => exec Γ a e m K
    | .bool false => exec Γ b e m K
    | _ => False
  | .block id b, e, m, K => exec Γ b e m (blockX id K)
  | .loop live b, e, m, K => ∃ (I : Nat → Env → Mem → Prop) (n : Nat), I n (keep live e) m ∧ ∀ n e m, I n e m → exec Γ b e m (thenX (fun e m _ => ∃ n', n' < n ∧ I n' (keep live e) m) K)
  | .exit id, e, m, K => K (.exit id) e m
  | .ret, e, m, K => K .ret e m
  | .jump l live p r, e, m, K => ∃ I : Nat → Env → Mem → Prop, exec Γ p e m (aheadX (fun e m => ∃ n, I n (keep live e) m) K) ∧ ∀ n e m, I n e m → exec Γ r e m (jumpX l (fun e m => ∃ n', n' < n ∧ I n' (keep live e) m) K)
  | .goto l, e, m, K => K (.goto l) e m
/-- A result: a slot; or what lies behind the pointer in a slot. -/
inductive RV where
  | slot (t : Nat)
  | cell (t : Nat) (agg : Bool) (n : Nat)
structure IFn where
  body : St
  results : List RV
def resOf (m : Mem) (e : Env) : RV → Option V
  | .slot t => some (e t)
  | .cell t agg n => match e t with
    | .ptr (some (r, i, j)) => match m.elt r i with
      | some cs => partV agg cs j n
      | none => none
    | _ => none
def resAll (m : Mem) (e : Env) : List RV → Option (List V)
  | [] => some []
  | r :: rs => match resOf m e r, resAll m e rs with
    | some v, some vs => some (v :: vs)
    | _, _ => none
def resV (m : Mem) (e : Env) (rs : List RV) : Option V :=
  match resAll m e rs with
  | some [v] => some v
  | some vs => some (.tup vs)
  | none => none
def endX (rs : List RV) (K : KV) : KX
  | .normal, e, m => opt (resV m e rs) m K
  | .ret, e, m => opt (resV m e rs) m K
  | .exit _, _, _ => False
  | .goto _, _, _ => False
def runF (Γ : Ctx) (fn : IFn) (args : List V) (m : Mem) (K : KV) : Prop := exec Γ fn.body (Env.args args) m (endX fn.results K)
/-! ### the compiler -/
def tmpsOf (l : List Operand) : List Nat := l.filterMap fun | .tmp t => some t | _ => none
def addAll (xs ys : List Nat) : List Nat := xs.foldl (fun acc x => if acc.contains x then acc else x :: acc) ys
def liveOps (ops : Array Oper) : List Oper → List Nat → List Nat
  | [], out => out
  | o :: os, out =>
    let l := liveOps ops os out
    let l := match o.dst with | some d => l.filter (· != d) | none => l
    let l := addAll (tmpsOf o.op.operands.toList) l
    match o.guard with
    | some (j, _) => match (ops[j]?).bind (·.dst) with
      | some d => addAll [d] l
      | none => l
    | none => l
/-- The slots that may be looked at yet. Nothing rests on it. -/
def liveIn (ret : List Nat) : Code → List (Nat × List Nat) → List Nat → List Nat
  | .region _ ops _, _, out => liveOps ops ops.toList out
  | .seq a b, xs, out => liveIn ret a xs (liveIn ret b xs out)
  | .cond c a b, xs, out => addAll (tmpsOf [c]) (addAll (liveIn ret a xs out) (liveIn ret b xs out))
  | .block id b, xs, out => liveIn ret b ((id, out) :: xs) out
  | .loop b, xs, out => liveIn ret b xs []
  | .exit id, xs, out => (xs.lookup id).getD []
  | .ret, _, _ => ret
  | .scope b, xs, out => liveIn ret b xs out
  | .goto l, xs, _ => (xs.lookup (1000000 + l)).getD []
  | _, _, out => out
def insertN (x : Nat) : List Nat → List Nat
  | [] => [x]
  | y :: ys => if x ≤ y then x :: y :: ys else y :: insertN x ys
def sortN (l : List Nat) : List Nat := l.foldr insertN []
def dstOk (n : Nat) (ops : Array Oper) : Bool := ops.toList.all fun o => match o.dst with | some d => decide (d < n) | none => true
/-- Do two operations that turn memory stand in no order? -/
def loose (ios : Array IOp) (bf : Array Nat) : Bool :=
  (List.range ios.size).any fun j => (List.range j).any fun i => decide ((ios.getD i default).op.cls = 2) && decide ((ios.getD j default).op.cls = 2) && !waits bf j i
def DTree.hasAlt : DTree → Bool
  | .done => false
  | .op _ t => t.hasAlt
  | .alt _ _ => true
def cc (P : Program) (n : Nat) (ret : List Nat) : Code → List (Nat × List Nat) → List Nat → St
  | .skip, _, _ => .skip
  | .region _ ops false, _, _ => if dstOk n ops then .region (ops.toList.map (compOper P ops)) else .bad
  | .region _ ops true, _, out =>
    if dstOk n ops && edgesBack ops && beforeOk ops (Region.before ops) then
      .draw ((mkTree ops (ops.map (compOper P ops)) (Region.before ops) ops.size (Array.replicate ops.size false)).hasAlt && !loose (ops.map (compOper P ops)) (Region.before ops)) (sortN out) (mkTree ops (ops.map (compOper P ops)) (Region.before ops) ops.size (Array.replicate ops.size false))
    else .bad
  | .seq a b, xs, out => .seq (cc P n ret a xs (liveIn ret b xs out)) (cc P n ret b xs out)
  | .cond c a b, xs, out => .cond (opd c) (cc P n ret a xs out) (cc P n ret b xs out)
  | .block id b, xs, out => .block id (cc P n ret b ((id, out) :: xs) out)
  | .loop b, xs, out => .loop (sortN (liveIn ret b xs [])) (cc P n ret b xs (liveIn ret b xs []))
  | .exit id, _, _ => .exit id
  | .ret, _, _ => .ret
  | .goto l, _, _ => .goto l
  | .scope (.seq (.label l) r), xs, out => .jump l (sortN (liveIn ret r xs out)) .skip (cc P n ret r ((1000000 + l, liveIn ret r xs out) :: xs) out)
  | .scope (.seq p (.seq (.label l) r)), xs, out => if (findLabel p l).isNone then .jump l (sortN (liveIn ret r xs out)) (cc P n ret p xs (liveIn ret r xs out)) (cc P n ret r ((1000000 + l, liveIn ret r xs out) :: xs) out) else .bad
  | _, _, _ => .bad
def compRes (P : Program) : List ResultVar → Option (List RV)
  | [] => some []
  | .tmp t :: r => (compRes P r).map (.slot t :: ·)
  | .cell a t :: r => match P.info? t, P.underlying t, compRes P r with
    | some i, some d, some rs => some (.cell a (aggD d) i.size :: rs)
    | _, _, _ => none
def retOf : List ResultVar → List Nat
  | [] => []
  | .tmp t :: r => t :: retOf r
  | .cell a _ :: r => a :: retOf r
def compFn (P : Program) (fn : Func) : Option IFn :=
  match fn.body, compRes P fn.results.toList with
  | some c, some rs => some ⟨cc P fn.ntmps (retOf fn.results.toList) c [] (retOf fn.results.toList), rs⟩
  | _, _ => none
/-! ### soundness -/
theorem keep_rel {β : Pl} {e : Env} {t : Array Value} (h : EnvR β e t) : ∀ l, EnvR β (keep l e) t
  | [] => fun i => by simp [keep, Env.none, VR]
  | d :: ds => fun i => by
    simp only [keep, Env.put]
    split
    · rename_i hd; subst hd; exact h _
    · exact keep_rel h ds i
section
variable {P : Program} {base : Nat} {w0 : World} {Γ : Ctx}
/-- The state behind a statement. -/
def CodeQ (base : Nat) (w0 : World) (β : Pl) (n : Nat) (K : KX) : Exit → Act → World → Prop :=
  fun x a w => ∃ β' e m ex, Pl.le β β' ∧ EnvR β' e a.tmps ∧ MR base w0 β' m w ∧ a.defers = [] ∧ a.tmps.size = n ∧ K ex e m ∧
    (match ex with | .normal => x = .normal | .exit i => x = .exit i | .ret => x = .ret | .goto l => x = .goto l)
theorem CodeQ.mono {β β' : Pl} {n : Nat} {K : KX} (h : Pl.le β β') : ∀ x a w, CodeQ base w0 β' n K x a w → CodeQ base w0 β n K x a w :=
  fun x a w ⟨β'', e, m, ex, h1, h2⟩ => ⟨β'', e, m, ex, Pl.le_trans h h1, h2⟩
theorem dst_of_ok {n : Nat} {ops : Array Oper} (h : dstOk n ops = true) : ∀ o ∈ ops.toList, ∀ d, o.dst = some d → d < n := by
  intro o ho d hd
  have := (List.all_eq_true.1 h) o ho
  rw [hd] at this; simpa using this
theorem cnt_replicate (k : Nat) : cnt (Array.replicate k false) = k := by
  simp [cnt]
theorem rounds_mono {c : Code} {Q Q' : Exit → Act → World → Prop} (hq : ∀ e a w, Q e a w → Q' e a w) : ∀ (k : Nat) {a : Act} {w : World}, Code.rounds P c Q k a w → Code.rounds P c Q' k a w
  | 0, _, _, h => h
  | k + 1, a, w, h => by
    rw [rounds_succ] at h ⊢
    refine Code.wp_mono ?_ h
    intro x a1 w1 g
    cases x <;> first | exact rounds_mono hq k g | exact hq _ _ _ g
theorem cc_sound_n (hΓ : CtxOk P Γ) (hm : P.follows .mixedOrders = true) {n : Nat} {ret : List Nat} : ∀ (N : Nat) (c : Code), SizeOf.sizeOf c ≤ N → ∀ {xs : List (Nat × List Nat)} {out : List Nat} {β : Pl} {m : Mem} {w : World} {e : Env} {a : Act} {K : KX},
    EnvR β e a.tmps → MR base w0 β m w → a.defers = [] → a.tmps.size = n → exec Γ (cc P n ret c xs out) e m K → c.wp P (CodeQ base w0 β n K) a w := by
  intro N
  induction N with
  | zero => intro c hN; exact absurd hN (by cases c <;> simp)
  | succ N IH =>
  intro c hN
  cases c with
  | skip => intro xs out β m w e a K hE hM hd hn h; exact wp_skip ⟨β, e, m, .normal, Pl.le_refl _, hE, hM, hd, hn, h, rfl⟩
  | ret => intro xs out β m w e a K hE hM hd hn h; exact wp_ret ⟨β, e, m, .ret, Pl.le_refl _, hE, hM, hd, hn, h, rfl⟩
  | exit id => intro xs out β m w e a K hE hM hd hn h; exact wp_exit ⟨β, e, m, .exit id, Pl.le_refl _, hE, hM, hd, hn, h, rfl⟩
  | region id ops draw =>
    intro xs out β m w e a K hE hM hd hn h
    cases draw with
    | false =>
      simp only [cc] at h
      split at h
      · rename_i hok
        simp only [exec] at h
        refine wp_region_list ?_
        exact opsx_sound hΓ ops.toList (dst_of_ok hok) hn hd hE hM h (fun a' w' e' m' β' g1 g2 g3 g4 g5 g6 => ⟨β', e', m', .normal, g1, g2, g3, g4, g5, g6, rfl⟩)
      · exact h.elim
    | true =>
      simp only [cc] at h
      split at h
      · rename_i hok
        simp only [Bool.and_eq_true] at hok
        obtain ⟨⟨hok1, hok2⟩, hok3⟩ := hok
        refine wp_region_any hm ?_
        have ok : RegOk P ops (ops.map (compOper P ops)) (Region.before ops) n := ⟨rfl, hok2, hok3, fun j o ho d hd => dst_of_ok hok1 o (by simpa using Array.mem_of_getElem? ho) d hd⟩
        have hun : ∀ i, ¬ un (Array.replicate ops.size false) i → ¬ i < ops.size := by
          intro i hi hlt
          exact hi (by simp [un, hlt])
        have hcl : closed ops (Array.replicate ops.size false) := by
          intro j o ho hj
          exact absurd (Array.getElem?_eq_some_iff.1 ho).1 (hun j hj)
        have hmid : Mid P base w0 Γ ops (ops.map (compOper P ops)) (Region.before ops) n (Array.replicate ops.size false) (Array.replicate ops.size false) β e m a { w with drawn := w.drawn + 1 } :=
          ⟨by simp, by simp, fun _ h => h, hcl, hcl, fun p o h1 h2 => absurd h1 h2, fun t => .inr (hE t), hM.drew, hn, hd⟩
        generalize hmg : ((mkTree ops (ops.map (compOper P ops)) (Region.before ops) ops.size (Array.replicate ops.size false)).hasAlt && !loose (ops.map (compOper P ops)) (Region.before ops)) = mg at h
        cases mg with
        | false =>
          simp only [exec] at h
          exact drawn hΓ ok ops.size ops.size (by rw [cnt_replicate]; exact Nat.le_refl _) (by rw [cnt_replicate]; exact Nat.le_refl _) hmid h (fun a' w' e' m' β' g1 g2 g3 g4 g5 g6 => ⟨β', _, m', .normal, g1, keep_rel g2 _, g3, g4, g5, g6, rfl⟩)
        | true =>
          simp only [exec] at h
          obtain ⟨J, h1, h2⟩ := h
          exact drawn hΓ ok ops.size ops.size (by rw [cnt_replicate]; exact Nat.le_refl _) (by rw [cnt_replicate]; exact Nat.le_refl _) hmid h1 (fun a' w' e' m' β' g1 g2 g3 g4 g5 g6 => ⟨β', _, m', .normal, g1, keep_rel g2 _, g3, g4, g5, h2 _ _ g6, rfl⟩)
      · exact h.elim
  | seq x y =>
    have ihx := fun {xs} {out} {β} {m} {w} {e} {a} {K} => @IH x (by simp at hN; omega) xs out β m w e a K
    have ihy := fun {xs} {out} {β} {m} {w} {e} {a} {K} => @IH y (by simp at hN; omega) xs out β m w e a K
    intro xs out β m w e a K hE hM hd hn h
    simp only [cc, exec] at h
    refine wp_seq (Code.wp_mono ?_ (ihx hE hM hd hn h))
    intro x1 a1 w1 ⟨β', e', m', ex, g1, g2, g3, g4, g5, g6, g7⟩
    cases ex with
    | normal =>
      subst g7
      simp only [thenX] at g6
      exact Code.wp_mono (CodeQ.mono g1) (ihy g2 g3 g4 g5 g6)
    | exit i => subst g7; exact ⟨β', e', m', .exit i, g1, g2, g3, g4, g5, g6, rfl⟩
    | ret => subst g7; exact ⟨β', e', m', .ret, g1, g2, g3, g4, g5, g6, rfl⟩
    | goto i => subst g7; exact ⟨β', e', m', .goto i, g1, g2, g3, g4, g5, g6, rfl⟩
  | cond c x y =>
    have ihx := fun {xs} {out} {β} {m} {w} {e} {a} {K} => @IH x (by simp at hN; omega) xs out β m w e a K
    have ihy := fun {xs} {out} {β} {m} {w} {e} {a} {K} => @IH y (by simp at hN; omega) xs out β m w e a K
    intro xs out β m w e a K hE hM hd hn h
    simp only [cc, exec] at h
    have hc := ev_rel hE c
    split at h
    · rename_i hv
      rw [hv] at hc; simp only [VR] at hc
      exact wp_cond_true hc (ihx hE hM hd hn h)
    · rename_i hv
      rw [hv] at hc; simp only [VR] at hc
      exact wp_cond_false hc (ihy hE hM hd hn h)
    · exact h.elim
  | block id b =>
    have ih := fun {xs} {out} {β} {m} {w} {e} {a} {K} => @IH b (by simp at hN; omega) xs out β m w e a K
    intro xs out β m w e a K hE hM hd hn h
    simp only [cc, exec] at h
    refine wp_block (Code.wp_mono ?_ (ih hE hM hd hn h))
    intro x1 a1 w1 ⟨β', e', m', ex, g1, g2, g3, g4, g5, g6, g7⟩
    cases ex with
    | normal => subst g7; exact ⟨β', e', m', .normal, g1, g2, g3, g4, g5, g6, rfl⟩
    | ret => subst g7; exact ⟨β', e', m', .ret, g1, g2, g3, g4, g5, g6, rfl⟩
    | goto i => subst g7; exact ⟨β', e', m', .goto i, g1, g2, g3, g4, g5, g6, rfl⟩
    | exit i =>
      subst g7
      simp only [blockX] at g6
      simp only [Exit.inBlock]
      split at g6
      · rename_i hi; rw [if_pos hi]; exact ⟨β', e', m', .normal, g1, g2, g3, g4, g5, g6, rfl⟩
      · rename_i hi; rw [if_neg hi]; exact ⟨β', e', m', .exit i, g1, g2, g3, g4, g5, g6, rfl⟩
  | loop b =>
    have ih := fun {xs} {out} {β} {m} {w} {e} {a} {K} => @IH b (by simp at hN; omega) xs out β m w e a K
    intro xs out β m w e a K hE hM hd hn h
    simp only [cc, exec] at h
    obtain ⟨I, k, h0, hI⟩ := h
    have key : ∀ N k, k ≤ N → ∀ {β : Pl} {m : Mem} {w : World} {e : Env} {a : Act}, EnvR β e a.tmps → MR base w0 β m w → a.defers = [] → a.tmps.size = n → I k e m → Code.rounds P b (CodeQ base w0 β n K) (N + 1) a w := by
      intro N
      induction N with
      | zero =>
        intro k hk β m w e a hE hM hd hn h
        rw [rounds_succ]
        refine Code.wp_mono ?_ (ih hE hM hd hn (hI k e m h))
        intro x1 a1 w1 ⟨β', e', m', ex, g1, g2, g3, g4, g5, g6, g7⟩
        cases ex with
        | normal => simp only [thenX] at g6; obtain ⟨n', hn', _⟩ := g6; omega
        | exit i => subst g7; exact ⟨β', e', m', .exit i, g1, g2, g3, g4, g5, g6, rfl⟩
        | ret => subst g7; exact ⟨β', e', m', .ret, g1, g2, g3, g4, g5, g6, rfl⟩
        | goto i => subst g7; exact ⟨β', e', m', .goto i, g1, g2, g3, g4, g5, g6, rfl⟩
      | succ N ihN =>
        intro k hk β m w e a hE hM hd hn h
        rw [rounds_succ]
        refine Code.wp_mono ?_ (ih hE hM hd hn (hI k e m h))
        intro x1 a1 w1 ⟨β', e', m', ex, g1, g2, g3, g4, g5, g6, g7⟩
        cases ex with
        | normal =>
          subst g7
          simp only [thenX] at g6
          obtain ⟨n', hn', hi'⟩ := g6
          exact rounds_mono (CodeQ.mono g1) (N + 1) (ihN n' (by omega) (keep_rel g2 _) g3 g4 g5 hi')
        | exit i => subst g7; exact ⟨β', e', m', .exit i, g1, g2, g3, g4, g5, g6, rfl⟩
        | ret => subst g7; exact ⟨β', e', m', .ret, g1, g2, g3, g4, g5, g6, rfl⟩
        | goto i => subst g7; exact ⟨β', e', m', .goto i, g1, g2, g3, g4, g5, g6, rfl⟩
    exact wp_loop_rounds (k + 1) (key k k (Nat.le_refl _) (keep_rel hE _) hM hd hn h0)
  | rangeFunc f ps as b => intro xs out β m w e a K hE hM hd hn h; exact h.elim
  | label l => intro xs out β m w e a K hE hM hd hn h; exact h.elim
  | goto l => intro xs out β m w e a K hE hM hd hn h; exact wp_goto ⟨β, e, m, .goto l, Pl.le_refl _, hE, hM, hd, hn, h, rfl⟩
  | refuse why => intro xs out β m w e a K hE hM hd hn h; exact h.elim
  | scope b =>
    intro xs out β m w e a K hE hM hd hn h
    have main : ∀ (l : Nat) (p r full : Code) (live : List Nat) (sp sr : St), findLabel full l = some (.seq .skip r) → SizeOf.sizeOf r ≤ N →
        (∀ Q, p.wp P (Exit.then (fun a w => r.wp P Q a w) Q) a w → full.wp P Q a w) →
        (∀ K, exec Γ sp e m K → p.wp P (CodeQ base w0 β n K) a w) → (∃ xs out, sr = cc P n ret r xs out) → exec Γ (.jump l live sp sr) e m K → (Code.scope full).wp P (CodeQ base w0 β n K) a w := by
      intro l p r full live sp sr hf hr hfull hp ⟨xs', out', hsr⟩ h
      subst hsr
      simp only [exec] at h
      obtain ⟨I, h1, h2⟩ := h
      let Jn : Nat → Act → World → Prop := fun k a w => ∃ β' e m, Pl.le β β' ∧ EnvR β' e a.tmps ∧ MR base w0 β' m w ∧ a.defers = [] ∧ a.tmps.size = n ∧ I k e m
      have least : ∀ (p : Nat → Prop) (k : Nat), p k → ∃ n, p n ∧ ∀ k, p k → n ≤ k := by
        intro p k
        induction k using Nat.strongRecOn with
        | _ k ih =>
          intro hk
          by_cases hq : ∃ j, j < k ∧ p j
          · obtain ⟨j, hj, hpj⟩ := hq
            exact ih j hj hpj
          · exact ⟨k, hk, fun j hj => Nat.le_of_not_lt fun hlt => hq ⟨j, hlt, hj⟩⟩
      have hμ : ∃ μ : Act → World → Nat, ∀ a w, (∃ k, Jn k a w) → Jn (μ a w) a w ∧ ∀ k, Jn k a w → μ a w ≤ k := by
        classical
        refine ⟨fun a w => if h : ∃ k, Jn k a w then Classical.choose (least (fun k => Jn k a w) h.choose h.choose_spec) else 0, fun a w hh => ?_⟩
        simp only [dif_pos hh]
        exact Classical.choose_spec (least (fun k => Jn k a w) hh.choose hh.choose_spec)
      obtain ⟨μ, hμ⟩ := hμ
      have pass : ∀ k a w, Jn k a w → r.wp P (Exit.jump l (fun a' w' => (∃ k, Jn k a' w') ∧ μ a' w' < k) (CodeQ base w0 β n K)) a w := by
        intro k a w ⟨β', e, m, g1, g2, g3, g4, g5, g6⟩
        refine Code.wp_mono ?_ (IH r hr g2 g3 g4 g5 (h2 k e m g6))
        intro x a1 w1 ⟨β'', e', m', ex, k1, k2, k3, k4, k5, k6, k7⟩
        have hle := Pl.le_trans g1 k1
        cases ex with
        | normal => subst k7; exact ⟨β'', e', m', .normal, hle, k2, k3, k4, k5, k6, rfl⟩
        | exit i => subst k7; exact ⟨β'', e', m', .exit i, hle, k2, k3, k4, k5, k6, rfl⟩
        | ret => subst k7; exact ⟨β'', e', m', .ret, hle, k2, k3, k4, k5, k6, rfl⟩
        | goto i =>
          subst k7
          simp only [jumpX] at k6
          obtain ⟨rfl, k', hk', hI⟩ := k6
          have hJ : Jn k' a1 w1 := ⟨β'', _, m', hle, keep_rel k2 _, k3, k4, k5, hI⟩
          exact ⟨rfl, ⟨k', hJ⟩, Nat.lt_of_le_of_lt ((hμ a1 w1 ⟨k', hJ⟩).2 k' hJ) hk'⟩
      refine wp_scope_jumps l (fun a w => ∃ k, Jn k a w) μ hf ?_ ?_
      · refine hfull _ (Code.wp_mono ?_ (hp _ h1))
        intro x a1 w1 ⟨β', e', m', ex, k1, k2, k3, k4, k5, k6, k7⟩
        cases ex with
        | normal =>
          subst k7
          simp only [aheadX] at k6
          obtain ⟨k, hI⟩ := k6
          refine Code.wp_mono ?_ (pass k a1 w1 ⟨β', _, m', k1, keep_rel k2 _, k3, k4, k5, hI⟩)
          intro x a2 w2 hx
          cases x <;> first | exact hx | exact ⟨hx.1, hx.2.1⟩
        | exit i => subst k7; exact ⟨β', e', m', .exit i, k1, k2, k3, k4, k5, k6, rfl⟩
        | ret => subst k7; exact ⟨β', e', m', .ret, k1, k2, k3, k4, k5, k6, rfl⟩
        | goto i => exact k6.elim
      · intro a1 w1 hJ
        obtain ⟨hk, _⟩ := hμ a1 w1 hJ
        exact wp_seq (wp_skip (pass _ a1 w1 hk))
    have skipL : ∀ {l : Nat} {r : Code} {Q : Exit → Act → World → Prop} {a : Act} {w : World}, r.wp P Q a w → (Code.seq (.label l) r).wp P Q a w := fun h => wp_seq (wp_label h)
    unfold cc at h
    split at h
    case h_11 l r heq =>
      injection heq with heq; subst heq
      exact main l (.label l) r _ _ _ _ (by simp [findLabel]) (by simp at hN; omega) (fun Q hq => wp_seq hq) (fun K hK => wp_label ⟨β, e, m, .normal, Pl.le_refl _, hE, hM, hd, hn, by simpa only [exec] using hK, rfl⟩) ⟨_, _, rfl⟩ h
    case h_12 p l r hne heq =>
      injection heq with heq; subst heq
      split at h
      · rename_i hnone
        have hnone : findLabel p l = none := by simpa using hnone
        exact main l p r _ _ _ _ (by simp [findLabel, hnone]) (by simp at hN; omega) (fun Q hq => wp_seq (Code.wp_mono (by
          intro x a1 w1 hx
          cases x <;> first | exact skipL hx | exact hx) hq)) (fun K hK => IH p (by simp at hN; omega) hE hM hd hn hK) ⟨_, _, rfl⟩ h
      · exact h.elim
    case h_13 => exact h.elim
    all_goals (rename_i heq; cases heq)
theorem cc_sound (hΓ : CtxOk P Γ) (hm : P.follows .mixedOrders = true) {n : Nat} {ret : List Nat} (c : Code) {xs : List (Nat × List Nat)} {out : List Nat} {β : Pl} {m : Mem} {w : World} {e : Env} {a : Act} {K : KX}
    (hE : EnvR β e a.tmps) (hM : MR base w0 β m w) (hd : a.defers = []) (hn : a.tmps.size = n) (h : exec Γ (cc P n ret c xs out) e m K) : c.wp P (CodeQ base w0 β n K) a w :=
  cc_sound_n hΓ hm _ c (Nat.le_refl _) hE hM hd hn h
end
end Go.AM
