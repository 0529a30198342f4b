/-
  THE ABSTRACT MACHINE AND THE MODEL: maps whose keys are whole numbers. No Go program here.
-/
import Derived.Test.YtkcpojagecfcbaaGreatDoorAm6
namespace Go.AM
open Go
set_option linter.unusedVariables false
set_option linter.unusedSimpArgs false
section
variable {P : Program} {base : Nat} {w0 : World} {β : Pl} {m : Mem} {w : World} {K : KV}
/-- Entries, as the model has them. -/
def EntR (β : Pl) (es : List (V × V)) (ces : List MapEntry) : Prop := VRs β (es.map (·.1)) (ces.map (·.key)) ∧ VRs β (es.map (·.2)) (ces.map (·.val))
theorem EntR.nil (β : Pl) : EntR β [] [] := ⟨by simp [VRs], by simp [VRs]⟩
theorem EntR.cons {β : Pl} {e : V × V} {es : List (V × V)} {c : MapEntry} {ces : List MapEntry} : EntR β (e :: es) (c :: ces) ↔ VR β e.1 c.key ∧ VR β e.2 c.val ∧ EntR β es ces := by
  simp only [EntR, List.map_cons, VRs]
  constructor
  · rintro ⟨⟨_, _, h1, h2, h3⟩, ⟨_, _, h4, h5, h6⟩⟩
    injection h1 with a b; subst a; subst b
    injection h4 with a b; subst a; subst b
    exact ⟨h2, h5, h3, h6⟩
  · rintro ⟨h1, h2, h3, h4⟩
    exact ⟨⟨_, _, rfl, h1, h3⟩, ⟨_, _, rfl, h2, h4⟩⟩
theorem EntR.cases {β : Pl} {e : V × V} {es : List (V × V)} {ces : List MapEntry} (h : EntR β (e :: es) ces) : ∃ c cs, ces = c :: cs := by
  have := h.1
  simp only [List.map_cons, VRs] at this
  obtain ⟨y, ys, h1, _⟩ := this
  cases ces with
  | nil => simp at h1
  | cons c cs => exact ⟨c, cs, rfl⟩
theorem EntR.nil_inv {β : Pl} {ces : List MapEntry} (h : EntR β [] ces) : ces = [] := by
  have := h.1
  simp only [List.map_nil, VRs] at this
  simpa using this
theorem EntR.length {β : Pl} {es : List (V × V)} {ces : List MapEntry} (h : EntR β es ces) : es.length = ces.length := by
  have := h.1.length
  simpa using this
theorem EntR.app {β : Pl} {e : V × V} {c : MapEntry} : ∀ {es : List (V × V)} {ces : List MapEntry}, EntR β es ces → VR β e.1 c.key → VR β e.2 c.val → EntR β (es ++ [e]) (ces ++ [c])
  | [], ces, h, h1, h2 => by
    rw [h.nil_inv]; exact EntR.cons.2 ⟨h1, h2, EntR.nil β⟩
  | x :: es, ces, h, h1, h2 => by
    obtain ⟨d, cs, rfl⟩ := h.cases
    obtain ⟨a1, a2, a3⟩ := EntR.cons.1 h
    exact EntR.cons.2 ⟨a1, a2, EntR.app a3 h1 h2⟩
/-- A key: a whole number, or two of them. -/
inductive KeyV : V → Value → Prop where
  | int (k : IntKind) (a : Int) : KeyV (.int k a) (.int k a)
  | pair (k l : IntKind) (a b : Int) : KeyV (.agg [.int k a, .int l b]) (.agg #[.int k a, .int l b])
theorem KeyV.vr {key : V} {ck : Value} (h : KeyV key ck) (β : Pl) : VR β key ck := by
  cases h
  · simp [VR]
  · simp only [VR, VRs]; exact ⟨_, rfl, _, _, rfl, rfl, _, _, rfl, rfl, rfl⟩
theorem KeyV.of_rel {key : V} {ck : Value} (h : KeyV key ck) {β : Pl} {v : Value} (hv : VR β key v) : v = ck := by
  cases h with
  | int k a => simpa [VR] using hv
  | pair k l a b =>
    simp only [VR, VRs] at hv
    obtain ⟨vs, rfl, _, _, e1, rfl, _, _, rfl, rfl, rfl⟩ := hv
    congr 1
    exact Array.ext' (by simpa using e1)
/-- A key that is another one. -/
inductive KeyD : Value → Value → Prop where
  | int (k : IntKind) (a b : Int) : a ≠ b → KeyD (.int k a) (.int k b)
  | pair (k l : IntKind) (a b a' b' : Int) : ¬ (a = a' ∧ b = b') → KeyD (.agg #[.int k a, .int l b]) (.agg #[.int k a', .int l b'])
/-- Where a key is found. -/
inductive FindR (ck : Value) : List MapEntry → Nat → Option (Nat × Value) → Prop where
  | nil (i : Nat) : FindR ck [] i none
  | hit (c : MapEntry) (cs : List MapEntry) (i : Nat) : c.key = ck → FindR ck (c :: cs) i (some (i, c.val))
  | miss (c : MapEntry) (cs : List MapEntry) (i : Nat) (r : Option (Nat × Value)) : KeyD ck c.key → FindR ck cs (i + 1) r → FindR ck (c :: cs) i r
theorem KeyD.ne {ck y : Value} (h : KeyD ck y) : y ≠ ck := by
  cases h with
  | int k a b h => intro e; injection e with _ e; exact h e.symm
  | pair k l a b a' b' h =>
    intro e
    injection e with e
    simp at e
    exact h ⟨e.1.symm, e.2.symm⟩
theorem FindR.det {ck : Value} {es : List MapEntry} {i : Nat} {r : Option (Nat × Value)} (h : FindR ck es i r) : ∀ {r' : Option (Nat × Value)}, FindR ck es i r' → r = r' := by
  induction h with
  | nil i => intro r' h; cases h; rfl
  | hit c cs i e =>
    intro r' h
    cases h with
    | hit _ _ _ _ => rfl
    | miss _ _ _ _ hd _ => exact absurd e hd.ne
  | miss c cs i r hd _ ih =>
    intro r' h
    cases h with
    | hit _ _ _ e => exact absurd e hd.ne
    | miss _ _ _ _ _ h => exact ih h
/-- What is kept of a key, as the model and the plain machine ask it. -/
theorem same_eq {β : Pl} {key : V} {ck : Value} (hk : KeyV key ck) {x : V} {y : Value} (h : VR β x y) {b : Bool} (hb : eqC key x = some b) : (b = true → x = key ∧ y = ck) ∧ (b = false → KeyD ck y) := by
  cases hk with
  | int k a =>
    cases x <;> simp only [eqC] at hb <;> try (cases hb; done)
    rename_i k' n
    simp only [VR] at h; subst h
    split at hb
    · rename_i hk; subst hk
      injection hb with hb
      subst hb
      refine ⟨fun ht => ?_, fun ht => ?_⟩
      · have : a = n := by simpa using ht
        subst this; exact ⟨rfl, rfl⟩
      · exact .int _ _ _ (by simpa using ht)
    · cases hb
  | pair k l a c =>
    cases x <;> try (simp [eqC] at hb; done)
    rename_i cs
    simp only [VR] at h
    obtain ⟨vs, rfl, h2⟩ := h
    match cs, hb, h2 with
    | [], hb, _ => simp [eqC] at hb
    | [p], hb, _ => cases p <;> simp [eqC] at hb
    | p :: q :: r :: cs, hb, _ => cases p <;> cases q <;> simp [eqC] at hb
    | [p, q], hb, h2 =>
      cases p <;> try (simp [eqC] at hb; done)
      cases q <;> try (simp [eqC] at hb; done)
      rename_i k' a' l' c'
      simp only [VRs, VR] at h2
      obtain ⟨_, _, e1, rfl, _, _, rfl, rfl, rfl⟩ := h2
      simp only [eqC] at hb
      split at hb
      · rename_i hkk
        obtain ⟨rfl, rfl⟩ := hkk
        injection hb with hb
        subst hb
        have ev : vs = #[.int k a', .int l c'] := Array.ext' (by simpa using e1)
        subst ev
        refine ⟨fun ht => ?_, fun ht => ?_⟩
        · have ht : a = a' ∧ c = c' := by simpa using ht
          obtain ⟨rfl, rfl⟩ := ht
          exact ⟨rfl, rfl⟩
        · refine .pair _ _ _ _ _ _ fun e => ?_
          simp [e.1, e.2] at ht
      · cases hb
theorem find_sound {β : Pl} {key : V} {ck : Value} (hk : KeyV key ck) : ∀ {es : List (V × V)} {ces : List MapEntry} (i0 : Nat), EntR β es ces → ∀ {r}, findM es key = some r →
    (r = none ∧ FindR ck ces i0 none) ∨ ∃ j v c, r = some v ∧ ces[j]? = some c ∧ c.key = ck ∧ VR β v c.val ∧ FindR ck ces i0 (some (i0 + j, c.val))
  | [], ces, i0, h, r, hr => by
    rw [h.nil_inv]
    simp only [findM] at hr; injection hr with hr
    exact .inl ⟨hr.symm, .nil _⟩
  | (x, u) :: es, ces, i0, h, r, hr => by
    obtain ⟨c, cs, rfl⟩ := h.cases
    obtain ⟨h1, h2, h3⟩ := EntR.cons.1 h
    simp only [findM] at hr
    split at hr
    · rename_i hq
      obtain ⟨e1, e2⟩ := (same_eq hk h1 hq).1 rfl
      injection hr with hr; subst hr
      exact .inr ⟨0, u, c, rfl, rfl, e2, h2, .hit _ _ _ e2⟩
    · rename_i hq
      have e1 := (same_eq hk h1 hq).2 rfl
      rcases find_sound hk (i0 + 1) h3 hr with ⟨rfl, q⟩ | ⟨j, v, c', rfl, q1, q2, q3, q4⟩
      · exact .inl ⟨rfl, .miss _ _ _ _ e1 q⟩
      · exact .inr ⟨j + 1, v, c', rfl, by simpa using q1, q2, q3, by rw [show i0 + (j + 1) = i0 + 1 + j by omega]; exact .miss _ _ _ _ e1 q4⟩
    · cases hr
theorem set_sound {β : Pl} {key : V} {ck : Value} (hk : KeyV key ck) {v : V} {cv : Value} (hv : VR β v cv) : ∀ {es es' : List (V × V)} {ces : List MapEntry} (i0 : Nat), EntR β es ces → setM es key v = some es' →
    (FindR ck ces i0 none ∧ es' = es ++ [(key, v)]) ∨
    ∃ j c, ces[j]? = some c ∧ c.key = ck ∧ FindR ck ces i0 (some (i0 + j, c.val)) ∧ EntR β es' (ces.set j { c with key := ck, val := cv })
  | [], es', ces, i0, h, hr => by
    rw [h.nil_inv]
    simp only [setM] at hr; injection hr with hr
    exact .inl ⟨.nil _, hr.symm⟩
  | (x, u) :: es, es', ces, i0, h, hr => by
    obtain ⟨c, cs, rfl⟩ := h.cases
    obtain ⟨h1, h2, h3⟩ := EntR.cons.1 h
    simp only [setM] at hr
    split at hr
    · rename_i hq
      obtain ⟨e1, e2⟩ := (same_eq hk h1 hq).1 rfl
      injection hr with hr; subst hr
      refine .inr ⟨0, c, rfl, e2, .hit _ _ _ e2, ?_⟩
      simp only [List.set_cons_zero]
      exact EntR.cons.2 ⟨by rw [e1]; exact hk.vr β, hv, h3⟩
    · rename_i hq
      have e1 := (same_eq hk h1 hq).2 rfl
      rw [Option.map_eq_some_iff] at hr
      obtain ⟨l, hl, rfl⟩ := hr
      rcases set_sound hk hv (i0 + 1) h3 hl with ⟨q, rfl⟩ | ⟨j, c', q1, q2, q3, q4⟩
      · exact .inl ⟨.miss _ _ _ _ e1 q, rfl⟩
      · refine .inr ⟨j + 1, c', by simpa using q1, q2, by rw [show i0 + (j + 1) = i0 + 1 + j by omega]; exact .miss _ _ _ _ e1 q3, ?_⟩
        simp only [List.set_cons_succ]
        exact EntR.cons.2 ⟨h1, h2, q4⟩
    · cases hr
theorem del_sound {β : Pl} {key : V} {ck : Value} (hk : KeyV key ck) : ∀ {es es' : List (V × V)} {ces : List MapEntry} (i0 : Nat), EntR β es ces → delM es key = some es' →
    (FindR ck ces i0 none ∧ es' = es ∧ idxM es key = none) ∨
    ∃ j c, j < ces.length ∧ FindR ck ces i0 (some (i0 + j, c)) ∧ EntR β es' (ces.eraseIdx j) ∧ idxM es key = some j
  | [], es', ces, i0, h, hr => by
    rw [h.nil_inv]
    simp only [delM] at hr; injection hr with hr
    exact .inl ⟨.nil _, hr.symm, rfl⟩
  | (x, u) :: es, es', ces, i0, h, hr => by
    obtain ⟨c, cs, rfl⟩ := h.cases
    obtain ⟨h1, h2, h3⟩ := EntR.cons.1 h
    simp only [delM] at hr
    split at hr
    · rename_i hq
      obtain ⟨e1, e2⟩ := (same_eq hk h1 hq).1 rfl
      injection hr with hr; subst hr
      exact .inr ⟨0, c.val, by simp, .hit _ _ _ e2, by simpa using h3, by simp [idxM, hq]⟩
    · rename_i hq
      have e1 := (same_eq hk h1 hq).2 rfl
      rw [Option.map_eq_some_iff] at hr
      obtain ⟨l, hl, rfl⟩ := hr
      rcases del_sound hk (i0 + 1) h3 hl with ⟨q, rfl, q0⟩ | ⟨j, c', q1, q2, q3, q4⟩
      · exact .inl ⟨.miss _ _ _ _ e1 q, rfl, by simp [idxM, hq, q0]⟩
      · refine .inr ⟨j + 1, c', by simp; omega, by rw [show i0 + (j + 1) = i0 + 1 + j by omega]; exact .miss _ _ _ _ e1 q2, ?_⟩
        refine ⟨?_, by simp [idxM, hq, q4]⟩
        simp only [List.eraseIdx_cons_succ]
        exact EntR.cons.2 ⟨h1, h2, q3⟩
    · cases hr
theorem setM_find {x v : V} : ∀ {es es' : List (V × V)}, setM es x v = some es' → ∃ r, findM es x = some r
  | [], _, _ => ⟨none, rfl⟩
  | (k, u) :: es, es', h => by
    simp only [setM] at h
    simp only [findM]
    split at h
    · exact ⟨_, rfl⟩
    · rw [Option.map_eq_some_iff] at h
      obtain ⟨l, hl, _⟩ := h
      exact setM_find hl
    · cases h
/-! ### the operations -/
def lookK (z : V) (ok : Bool) (i : V) (m : Mem) (K : KV) : V → Prop
  | .map none => K (if ok then .tup [z, .bool false] else z) m
  | .map (some r) => match m.obj r with
    | some (.map es _) => match findM es i with
      | some (some v) => K (if ok then .tup [v, .bool true] else v) m
      | some none => K (if ok then .tup [z, .bool false] else z) m
      | none => False
    | _ => False
  | _ => False
def delK (i : V) (m : Mem) (K : KV) : V → Prop
  | .map none => K (.tup []) m
  | .map (some r) => match m.obj r with
    | some (.map es g) => match delM es i with
      | some es' => K (.tup []) (m.upd r (some (.map es' (stD es i g))))
      | none => False
    | _ => False
  | _ => False
def lenK (m : Mem) (K : KV) : V → Prop
  | .map none => K (.int .i64 0) m
  | .map (some r) => match m.obj r with
    | some (.map es _) => K (.int .i64 es.length) m
    | _ => False
  | _ => False
/-- A type of keys: whole numbers, or structs of two. -/
inductive KeyT (P : Program) (kT : TypeId) : Value → Prop where
  | int (kk k : IntKind) (a : Int) : P.underlying kT = some (.int kk) → KeyT P kT (.int k a)
  | pair (fs : Array Field) (k l : IntKind) (a b : Int) : P.underlying kT = some (.struct fs) → eqTags P 20 kT = some [.int, .int] → (∀ f ∈ fs, (∃ fi fk, P.info? f.type = some fi ∧ fi.size = 1 ∧ P.underlying f.type = some (.int fk)) ∧ f.offset < 2) → KeyT P kT (.agg #[.int k a, .int l b])
theorem run_checkKeyI {kT : TypeId} {ck : Value} (hk : KeyT P kT ck) (b : Bool) (n : Nat) : (Instr.checkKey b (n + 2) kT ck).run P w = .ok () w := by
  cases hk with
  | int kk k a hk =>
    unfold Instr.checkKey
    simp [run_underlying hk]
  | pair fs k l a c hk ht hf =>
    unfold Instr.checkKey
    simp only [Sem.run_bind, run_underlying hk, Result.andThen_ok]
    rw [← Array.forIn_toList]
    have hf' : ∀ f ∈ fs.toList, (∃ fi fk, P.info? f.type = some fi ∧ fi.size = 1 ∧ P.underlying f.type = some (.int fk)) ∧ f.offset < 2 := fun f h => hf f (by simpa using h)
    generalize fs.toList = l' at hf'
    induction l' with
    | nil => simp
    | cons f r ih =>
      obtain ⟨⟨fi, fk, h1, h2, h3⟩, h4⟩ := hf' f (by simp)
      have hp := part_run (w := w) h1 h3 #[.int k a, .int l c] f.offset (by simp; omega) (fun _ => h2)
      have hv : ∃ k' a', valOf P f.type ((#[Value.int k a, .int l c]).extract f.offset (f.offset + fi.size)) = .int k' a' := by
        rcases Nat.lt_or_ge f.offset 1 with w | w
        · have : f.offset = 0 := by omega
          rw [this, h2]
          exact ⟨k, a, by simp [valOf, h3, aggD]⟩
        · have : f.offset = 1 := by omega
          rw [this, h2]
          exact ⟨l, c, by simp [valOf, h3, aggD]⟩
      obtain ⟨k', a', hv⟩ := hv
      rw [hv] at hp
      have hc : (Instr.checkKey b (n + 1) f.type (.int k' a')).run P w = .ok () w := by
        unfold Instr.checkKey
        simp [run_underlying h3]
      have := ih fun g hg => hf' g (by simp [hg])
      simp only [List.forIn_cons, Sem.run_bind]
      by_cases hn : f.name ≠ "_"
      · simp only [if_pos hn, Sem.run_bind, hp, hc, Result.andThen_ok, Sem.run_pure]
        exact this
      · simp only [if_neg hn, Sem.run_pure, Result.andThen_ok]
        exact this
theorem run_equal_pair {kT : TypeId} {fs : Array Field} (hk : P.underlying kT = some (.struct fs)) (ht : eqTags P 20 kT = some [.int, .int]) {k l : IntKind} {a b a' b' : Int} :
    (Op.equal kT (.agg #[.int k a, .int l b]) (.agg #[.int k a', .int l b'])).run P w = .ok (a == a' && b == b') w := by
  have hv : ∀ xs, valOf P kT xs = .agg xs := fun xs => by simp [valOf, hk, aggD]
  have h := equalIn_ty (P := P) (β := fun _ => none) (w := w) 20 kT (as := [.int k a, .int l b]) (bs := [.int k a', .int l b']) (xs := #[.int k a, .int l b]) (ys := #[.int k a', .int l b']) (b := (a == a' && b == b')) 10000 ht
    (by simp only [VRs, VR]; exact ⟨_, _, rfl, rfl, _, _, rfl, rfl, rfl⟩) (by simp only [VRs, VR]; exact ⟨_, _, rfl, rfl, _, _, rfl, rfl, rfl⟩) (by simp [ckAll, ckOk]) rfl (by
      simp only [eqCs, eqC, if_true]
      cases (a == a') <;> cases (b == b') <;> simp) (by omega)
  rw [hv, hv] at h
  exact h
theorem run_findKeyI {kT : TypeId} {ck : Value} {es : List MapEntry} {r : Option (Nat × Value)} (hk : KeyT P kT ck) (h : FindR ck es 0 r) : (Instr.findKey kT ck es).run P w = .ok r w := by
  cases hk with
  | int kk k a hk =>
    have key : ∀ es i r, FindR (.int k a) es i r → Instr.findNow (.int kk) (.int k a) es i = some r := by
      intro es i r h
      induction h with
      | nil i => rfl
      | hit c cs i e => simp [Instr.findNow, e, Instr.sameNow]
      | miss c cs i r hd _ ih =>
        obtain ⟨x, hx⟩ : ∃ x, c.key = x := ⟨_, rfl⟩
        rw [hx] at hd
        cases hd with
        | int _ _ b hne =>
          have : (a == b) = false := by simpa using hne
          simp [Instr.findNow, hx, Instr.sameNow, this, ih]
    simp [Instr.findKey, run_underlying hk, key _ _ _ h]
  | pair fs k l a c hk ht hf =>
    have key : ∀ es i r, FindR (.agg #[.int k a, .int l c]) es i r → (Instr.findAsking kT (.agg #[.int k a, .int l c]) es i).run P w = .ok r w := by
      intro es i r h
      induction h with
      | nil i => simp [Instr.findAsking]
      | hit c' cs i e =>
        simp only [Instr.findAsking, Sem.run_bind, e, run_equal_pair hk ht, Result.andThen_ok]
        simp
      | miss c' cs i r hd _ ih =>
        obtain ⟨x, hx⟩ : ∃ x, c'.key = x := ⟨_, rfl⟩
        rw [hx] at hd
        cases hd with
        | pair _ _ _ _ a' b' hne =>
          have : (a == a' && c == b') = false := by
            cases h1 : (a == a' && c == b') with
            | false => rfl
            | true => exact absurd (by simpa using h1) hne
          simp only [Instr.findAsking, Sem.run_bind, hx, run_equal_pair hk ht, Result.andThen_ok, this]
          simpa using ih
    cases es with
    | nil => cases h; simp [Instr.findKey, run_underlying hk, Instr.findNow]
    | cons e es =>
      have hn : Instr.findNow (.struct fs) (.agg #[.int k a, .int l c]) (e :: es) 0 = none := by simp [Instr.findNow, Instr.sameNow]
      simp only [Instr.findKey, Sem.run_bind, run_underlying hk, Result.andThen_ok, hn]
      exact key _ _ _ h
theorem run_stays {key : V} {ck : Value} (h : KeyV key ck) : (Instr.keyThatStays ck ck).run P w = .ok ck w := by
  cases h <;> simp [Instr.keyThatStays, Instr.sameBits]
theorem run_getMap {r : Nat} {ces : Array MapEntry} {clock : Nat} (h : w.heap[r]? = some (.map ces clock)) : (getObj r).run P w = .ok (.map ces clock) w := by
  simp [getObj, Sem.run, h]
theorem run_setMap {r : Nat} {ces : Array MapEntry} {clock : Nat} (o : Go.Obj) (h : w.heap[r]? = some (.map ces clock)) : (setObj r o).run P w = .ok () { w with heap := w.heap.setIfInBounds r o } := by
  simp [setObj, Sem.run, h]
theorem gives_lookup {xT kT eT : TypeId} {key : V} {ck : Value} (hkv : KeyV key ck) {i : TypeInfo} {z : Value} (ht : P.underlying xT = some (.map kT eT)) (hk : KeyT P kT ck) (hi : P.info? eT = some i) (hz : i.zero = some z)
    (hM : MR base w0 β m w) {x : V} {x' : Value} (hx : VR β x x') {ok : Bool}
    (hK : lookK (ofVal z) ok key m K x) : Gives P (Instr.lookup xT x' ck ok) w (Post base w0 β K) := by
  have hzr := ofVal_rel β z
  have none' : ∀ (b : Bool), VR β (if b then .tup [ofVal z, .bool false] else ofVal z) (if b then .tuple #[z, .bool false] else z) := fun b => by
    cases b
    · exact hzr
    · simp only [if_true, VR, VRs]; exact ⟨_, rfl, _, _, rfl, hzr, _, _, rfl, rfl, rfl⟩
  have zrun : (zeroValue eT).run P w = .ok z w := run_zeroValue' hi hz w
  cases x <;> (try (exact hK.elim))
  rename_i r
  cases r with
  | none =>
    simp only [VR] at hx; subst hx
    refine Gives.of_run (v := if ok then .tuple #[z, .bool false] else z) (w' := w) ?_ (Post.same hM (none' ok) hK)
    have e1 := run_findKeyI (w := w) (es := []) (r := none) hk (.nil _)
    simp [Instr.lookup, run_underlying ht, run_checkKeyI hk, e1, zrun]
  | some r =>
    simp only [lookK, delK, lenK] at hK
    simp only [VR] at hx
    obtain ⟨l, hl, rfl⟩ := hx
    split at hK
    · rename_i es g ho
      have hR : MapR base β w l es g := hM.objs r l _ hl ho
      obtain ⟨ces, h1, h2, h3, h4⟩ := hR.ex
      have hE : EntR β es ces.toList := ⟨h2, h3⟩
      split at hK
      · rename_i v hf
        rcases find_sound hkv 0 hE hf with ⟨q, _⟩ | ⟨j, v', c, q1, q2, q3, q4, q5⟩
        · cases q
        · injection q1 with q1; subst q1
          have e1 := run_findKeyI (w := w) hk q5
          refine Gives.of_run (v := if ok then .tuple #[c.val, .bool true] else c.val) (w' := w) ?_ (Post.same hM ?_ hK)
          · simp [Instr.lookup, run_underlying ht, run_checkKeyI hk, run_getMap h1, e1]
          · cases ok
            · exact q4
            · simp only [if_true, VR, VRs]; exact ⟨_, rfl, _, _, rfl, q4, _, _, rfl, rfl, rfl⟩
      · rename_i hf
        rcases find_sound hkv 0 hE hf with ⟨_, q⟩ | ⟨j, v', c, q1, _⟩
        · have e1 := run_findKeyI (w := w) hk q
          refine Gives.of_run (v := if ok then .tuple #[z, .bool false] else z) (w' := w) ?_ (Post.same hM (none' ok) hK)
          simp [Instr.lookup, run_underlying ht, run_checkKeyI hk, run_getMap h1, e1, zrun]
        · cases q1
      · exact hK.elim
    · exact hK.elim
/-- A map that turns. -/
theorem chg_map {r : Nat} {ces : Array MapEntry} {clock : Nat} (h : w.heap[r]? = some (.map ces clock)) (ces' : Array MapEntry) (clock' : Nat) : Chg w { w with heap := w.heap.setIfInBounds r (.map ces' clock') } (fun a => a.block = r) := by
  have hlt : r < w.heap.size := by
    rcases Nat.lt_or_ge r w.heap.size with q | q
    · exact q
    · rw [Array.getElem?_eq_none q] at h; cases h
  refine ⟨rfl, rfl, rfl, by simp, fun a ha hn => ?_, fun a ha => ?_, fun b hb hn => ?_, Nat.le_refl _⟩
  · simp only [World.cell?]
    rw [Array.getElem?_setIfInBounds_ne (fun e => hn e.symm)]
  · simp only [World.frozen?]
    by_cases e : r = a.block
    · subst e
      rw [Array.getElem?_setIfInBounds_self_of_lt hlt, h]
    · rw [Array.getElem?_setIfInBounds_ne e]
  · have := hn ⟨r, 0, none⟩ rfl
    rw [Array.getElem?_setIfInBounds_ne this]
theorem MR.map {r : Nat} {l : Loc} {es es' : List (V × V)} {g g' : List Nat × Nat} {ces ces' : Array MapEntry} (hM : MR base w0 β m w) (hl : β r = some l) (ho : m.obj r = some (.map es g)) (h1 : w.heap[l.block]? = some (.map ces g.2))
    (hE : EntR β es' ces'.toList) (hb : ces'.toList.map (·.born) = g'.1 ∧ g'.1.Nodup ∧ ∀ x ∈ g'.1, x < g'.2) : MR base w0 β (m.upd r (some (.map es' g'))) { w with heap := w.heap.setIfInBounds l.block (.map ces' g'.2) } := by
  have hR : MapR base β w l es g := hM.objs r l _ hl ho
  have hlt : l.block < w.heap.size := (show ObjR base β w l (.map es g) from hR).block_lt
  refine hM.step hl ho (chg_map h1 ces' g'.2) (fun a ha => by rw [ha]; exact hR.ge) (fun a ha => ha) rfl (fun q lq h => ?_) (fun q lq h => ?_) ?_
  · cases q <;> exact h
  · cases q <;> exact h
  · exact ⟨hR.ge, ces', by rw [Array.getElem?_setIfInBounds_self_of_lt hlt], hE.1, hE.2, hb⟩
theorem gives_mapUpd {xT kT eT : TypeId} {key : V} {ck : Value} (hkv : KeyV key ck) (ht : P.underlying xT = some (.map kT eT)) (hk : KeyT P kT ck)
    (hM : MR base w0 β m w) {r : Nat} {x' : Value} (hx : VR β (.map (some r)) x') {v : V} {v' : Value} (hv : VR β v v') {es es' : List (V × V)} {g : List Nat × Nat} (ho : m.obj r = some (.map es g)) (hs : setM es key v = some es') :
    ∃ w', (Instr.mapUpdate xT x' ck v').run P w = .ok () w' ∧ MR base w0 β (m.upd r (some (.map es' (stU es key g)))) w' := by
  simp only [VR] at hx
  obtain ⟨l, hl, rfl⟩ := hx
  have hR : MapR base β w l es g := hM.objs r l _ hl ho
  obtain ⟨ces, h1, h2, h3, h0, h4, h5⟩ := hR.ex
  have hE : EntR β es ces.toList := ⟨h2, h3⟩
  obtain ⟨fr, hfr⟩ := setM_find hs
  rcases set_sound hkv hv 0 hE hs with ⟨q, rfl⟩ | ⟨j, c, q1, q2, q3, q4⟩
  · have e1 := run_findKeyI (w := w) hk q
    have hst : stU es key g = (g.1 ++ [g.2], g.2 + 1) := by
      rcases find_sound hkv 0 hE hfr with ⟨rfl, _⟩ | ⟨j, v', c, _, _, _, _, q5⟩
      · simp [stU, hfr]
      · have := q.det q5; cases this
    rw [hst]
    refine ⟨_, ?_, hM.map hl ho h1 (g' := (g.1 ++ [g.2], g.2 + 1)) (ces' := ces.push { key := ck, val := v', born := g.2 }) ?_ ⟨?_, ?_, ?_⟩⟩
    · simp [Instr.mapUpdate, run_underlying ht, run_checkKeyI hk, run_getMap h1, e1, run_setMap _ h1]
    · simpa using hE.app (e := (key, v)) (c := { key := ck, val := v', born := g.2 }) (hkv.vr β) hv
    · simp [h0]
    · simp only [List.nodup_append]
      refine ⟨h4, by simp, fun x hx y hy e => ?_⟩
      have := h5 x hx
      have : y = g.2 := by simpa using hy
      omega
    · intro x hx
      simp only [List.mem_append, List.mem_singleton] at hx
      rcases hx with hx | rfl
      · have := h5 x hx; show x < g.2 + 1; omega
      · show g.2 < g.2 + 1; omega
  · have e1 := run_findKeyI (w := w) hk q3
    have hst : stU es key g = g := by
      rcases find_sound hkv 0 hE hfr with ⟨_, q6⟩ | ⟨j, v', c, rfl, _⟩
      · have := q3.det q6; cases this
      · simp [stU, hfr]
    rw [hst]
    have hj : j < ces.size := by
      have := (List.getElem?_eq_some_iff.1 q1).1; simpa using this
    have hcj : ces[j]? = some c := by rw [← Array.getElem?_toList]; exact q1
    have hml : (ces.modify j fun e => { e with key := ck, val := v' }).toList = ces.toList.set j { c with key := ck, val := v' } := by
      rw [Array.toList_modify]
      apply List.ext_getElem?
      intro y
      rw [List.getElem?_modify, List.getElem?_set]
      by_cases e : j = y
      · subst e
        rw [q1, if_pos rfl, if_pos (by simpa using hj)]; simp
      · rw [if_neg e]; simp [e]
    refine ⟨_, ?_, hM.map hl ho h1 (g' := g) (ces' := ces.modify j fun e => { e with key := ck, val := v' }) ?_ ⟨?_, h4, h5⟩⟩
    · simp [Instr.mapUpdate, run_underlying ht, run_checkKeyI hk, run_getMap h1, e1, run_setMap _ h1, hcj, q2, run_stays hkv]
    · rw [hml]; exact q4
    · rw [hml, List.map_set, ← h0]
      apply List.ext_getElem?
      intro y
      rw [List.getElem?_set]
      split
      · rename_i e; subst e
        rw [List.getElem?_map, q1]
        split
        · rfl
        · rename_i hn; simp at hn; omega
      · rfl
theorem gives_delete {xT kT eT ty kT' : TypeId} {key : V} {ck : Value} (hkv : KeyV key ck) (ht : P.underlying xT = some (.map kT eT)) (hk : KeyT P kT ck)
    (hM : MR base w0 β m w) {x : V} {x' : Value} (hx : VR β x x')
    (hK : delK key m K x) : Gives P (Builtin.delete_ #[xT, kT'] ty #[x', ck]) w (Post base w0 β K) := by
  cases x <;> (try (exact hK.elim))
  rename_i r
  cases r with
  | none =>
    simp only [VR] at hx; subst hx
    refine Gives.of_run (v := .tuple #[]) (w' := w) ?_ (Post.same hM (by simp [VR, VRs]) hK)
    simp [Builtin.delete_, run_underlying ht, run_checkKeyI hk]
  | some r =>
    simp only [lookK, delK, lenK] at hK
    simp only [VR] at hx
    obtain ⟨l, hl, rfl⟩ := hx
    split at hK
    · rename_i es g ho
      have hR : MapR base β w l es g := hM.objs r l _ hl ho
      obtain ⟨ces, h1, h2, h3, h0, h4, h5⟩ := hR.ex
      have hE : EntR β es ces.toList := ⟨h2, h3⟩
      split at hK
      · rename_i es' hd
        rcases del_sound hkv 0 hE hd with ⟨q, rfl, q0⟩ | ⟨j, c, q1, q2, q3, q4⟩
        · have e1 := run_findKeyI (w := w) hk q
          have hst : stD es' key g = g := by simp [stD, q0]
          rw [hst] at hK
          refine ⟨.tuple #[], _, ?_, β, _, _, Pl.le_refl _, by simp [VR, VRs], hM.map hl ho h1 (g' := g) (ces' := ces) hE ⟨h0, h4, h5⟩, hK⟩
          simp [Builtin.delete_, run_underlying ht, run_checkKeyI hk, run_getMap h1, e1, run_setMap _ h1]
        · have e1 := run_findKeyI (w := w) hk q2
          have hj : j < ces.size := by simpa using q1
          have he : (ces.eraseIdxIfInBounds j).toList = ces.toList.eraseIdx j := by
            rw [Array.eraseIdxIfInBounds_eq, dif_pos hj]; simp
          have hst : stD es key g = (g.1.eraseIdx j, g.2) := by simp [stD, q4]
          rw [hst] at hK
          refine ⟨.tuple #[], _, ?_, β, _, _, Pl.le_refl _, by simp [VR, VRs], hM.map hl ho h1 (g' := (g.1.eraseIdx j, g.2)) (ces' := ces.eraseIdxIfInBounds j) (by rw [he]; exact q3) ⟨?_, ?_, ?_⟩, hK⟩
          · simp [Builtin.delete_, run_underlying ht, run_checkKeyI hk, run_getMap h1, e1, run_setMap _ h1]
          · rw [he, ← h0]
            apply List.ext_getElem?
            intro y
            simp only [List.getElem?_map, List.getElem?_eraseIdx]
            split <;> rfl
          · exact h4.sublist (List.eraseIdx_sublist _ _)
          · intro x hx
            exact h5 x (List.mem_of_mem_eraseIdx hx)
      · exact hK.elim
    · exact hK.elim
theorem gives_lenMap {xT kT eT ty : TypeId} (ht : P.underlying xT = some (.map kT eT)) (hM : MR base w0 β m w) {x : V} {x' : Value} (hx : VR β x x')
    (hK : lenK m K x) : Gives P (Builtin.len_ #[xT] ty #[x']) w (Post base w0 β K) := by
  cases x <;> (try (exact hK.elim))
  rename_i r
  cases r with
  | none =>
    simp only [VR] at hx; subst hx
    refine Gives.of_run (v := .int .i64 0) (w' := w) ?_ (Post.same hM (by simp only [VR]) hK)
    simp [Builtin.len_, run_underlying ht, goInt]
  | some r =>
    simp only [lookK, delK, lenK] at hK
    simp only [VR] at hx
    obtain ⟨l, hl, rfl⟩ := hx
    split at hK
    · rename_i es g ho
      have hR : MapR base β w l es g := hM.objs r l _ hl ho
      obtain ⟨ces, h1, h2, h3, h4, h5⟩ := hR.ex
      have hle : es.length = ces.size := by have := (show EntR β es ces.toList from ⟨h2, h3⟩).length; simpa using this
      refine Gives.of_run (v := .int .i64 ces.size) (w' := w) ?_ (Post.same hM (by simp only [VR, hle]) hK)
      simp [Builtin.len_, run_underlying ht, run_getMap h1, goInt]
    · exact hK.elim
theorem gives_makeMap {t : TypeId} (hM : MR base w0 β m w) (hK : K (.map (some m.next)) (m.new (.map [] ([], 0)))) : Gives P (Instr.makeMap t none) w (Post base w0 β K) := by
  obtain ⟨β', h1, h2, h3⟩ := hM.alloc (l := ⟨w.heap.size, 0, 1, 0⟩) (o := .map [] ([], 0)) (.map #[] 0) rfl (fun β' hle => ⟨hM.le, #[], (by show (w.heap.push _)[w.heap.size]? = _; simp), by simp [VRs], by simp [VRs], by simp, by simp, by simp⟩)
  refine ⟨.map (some w.heap.size), w.alloc (.map #[] 0), ?_, β', _, _, h2, ?_, h1, hK⟩
  · simp [Instr.makeMap]
  · simp only [VR]; exact ⟨_, h3, rfl⟩
/-! ### a range over a map -/
theorem run_getIter {r : Nat} {mr : Option Nat} {a c : Nat} {b : Array Nat} (h : w.heap[r]? = some (.mapIter mr a b c)) : (getObj r).run P w = .ok (.mapIter mr a b c) w := by
  simp [getObj, Sem.run, h]
theorem run_setIter {r : Nat} {mr : Option Nat} {a c : Nat} {b : Array Nat} (o : Go.Obj) (h : w.heap[r]? = some (.mapIter mr a b c)) : (setObj r o).run P w = .ok () { w with heap := w.heap.setIfInBounds r o } := by
  simp [setObj, Sem.run, h]
theorem chg_iter {r : Nat} {mr : Option Nat} {a c a' c' : Nat} {b b' : Array Nat} (h : w.heap[r]? = some (.mapIter mr a b c)) : Chg w { w with heap := w.heap.setIfInBounds r (.mapIter mr a' b' c') } (fun a => a.block = r) := by
  have hlt : r < w.heap.size := by
    rcases Nat.lt_or_ge r w.heap.size with q | q
    · exact q
    · rw [Array.getElem?_eq_none q] at h; cases h
  refine ⟨rfl, rfl, rfl, by simp, fun a ha hn => ?_, fun a ha => ?_, fun b hb hn => ?_, Nat.le_refl _⟩
  · simp only [World.cell?]
    rw [Array.getElem?_setIfInBounds_ne (fun e => hn e.symm)]
  · simp only [World.frozen?]
    by_cases e : r = a.block
    · subst e
      rw [Array.getElem?_setIfInBounds_self_of_lt hlt, h]
    · rw [Array.getElem?_setIfInBounds_ne e]
  · have := hn ⟨r, 0, none⟩ rfl
    rw [Array.getElem?_setIfInBounds_ne this]
theorem gives_range {xT kT eT : TypeId} (ht : P.underlying xT = some (.map kT eT)) (hM : MR base w0 β m w) {x : V} {x' : Value} (hx : VR β x x')
    (hK : rangeX m x K) : Gives P (Instr.range xT x') w (Post base w0 β K) := by
  cases x <;> (try (exact hK.elim))
  rename_i r
  cases r with
  | none =>
    simp only [VR] at hx; subst hx
    simp only [rangeX] at hK
    obtain ⟨β', h1, h2, h3⟩ := hM.alloc (l := ⟨w.heap.size, 0, 1, 0⟩) (o := .iter none 0 [] 0) (.mapIter none 0 #[] 0) rfl (fun β' hle => ⟨hM.le, rfl, none, by simp, by simp, (by show (w.heap.push _)[w.heap.size]? = _; simp)⟩)
    refine ⟨.pointer (some ⟨w.heap.size, 0, none⟩), w.alloc (.mapIter none 0 #[] 0), ?_, β', _, _, h2, ?_, h1, hK⟩
    · simp [Instr.range, run_underlying ht]
    · simp only [VR]; exact ⟨_, h3, rfl⟩
  | some r =>
    simp only [rangeX] at hK
    simp only [VR] at hx
    obtain ⟨l, hl, rfl⟩ := hx
    split at hK
    · rename_i es g ho
      have hR : MapR base β w l es g := hM.objs r l _ hl ho
      obtain ⟨ces, h1, _⟩ := hR.ex
      obtain ⟨β', a1, a2, a3⟩ := hM.alloc (l := ⟨w.heap.size, 0, 1, 0⟩) (o := .iter (some r) g.2 [] g.2) (.mapIter (some l.block) g.2 #[] g.2) rfl (fun β' hle => ⟨hM.le, rfl, some l.block, fun q hq => by injection hq with hq; subst hq; exact ⟨l, hle _ _ hl, rfl⟩, by simp, (by show (w.heap.push _)[w.heap.size]? = _; simp)⟩)
      refine ⟨.pointer (some ⟨w.heap.size, 0, none⟩), w.alloc (.mapIter (some l.block) g.2 #[] g.2), ?_, β', _, _, a2, ?_, a1, hK⟩
      · simp [Instr.range, run_underlying ht, run_getMap h1]
      · simp only [VR]; exact ⟨_, a3, rfl⟩
    · exact hK.elim
theorem gives_next {ty : TypeId} (hM : MR base w0 β m w) {x : V} {x' : Value} (hx : VR β x x')
    (hK : nextX m x K) : Gives P (Instr.next x' false ty) w (Post base w0 β K) := by
  unfold nextX at hK
  split at hK
  case h_2 => exact hK.elim
  rename_i q
  simp only [VR] at hx
  obtain ⟨l, hl, rfl⟩ := hx
  split at hK
  case h_3 => exact hK.elim
  · rename_i since seen stepped ho
    have hR : IterR base β w l none since seen stepped := hM.objs q l _ hl ho
    obtain ⟨mr, h1, h2, h3⟩ := hR.ex
    obtain rfl := h2 rfl
    refine Gives.of_run (v := .tuple #[.bool false]) (w' := w) ?_ (Post.same hM (by simp [VR, VRs]) hK)
    simp [Instr.next, Loc.at, hR.b0, run_getIter h3]
  · rename_i r since seen stepped ho
    have hR : IterR base β w l (some r) since seen stepped := hM.objs q l _ hl ho
    obtain ⟨mr, h1, h2, h3⟩ := hR.ex
    obtain ⟨lr, hlr, rfl⟩ := h1 r rfl
    split at hK
    case h_2 => exact hK.elim
    rename_i es g hor
    have hRm : MapR base β w lr es g := hM.objs r lr _ hlr hor
    obtain ⟨ces, m1, m2, m3, m4, m5, m6⟩ := hRm.ex
    obtain ⟨e1, e2, hK1, hK2⟩ := hK
    subst e2
    have hborn : ∀ x ∈ ces, x.born < stepped := fun x hx => by
      have := m6 x.born (by rw [← m4]; exact List.mem_map.2 ⟨x, by simpa using hx, rfl⟩)
      omega
    have hB : ces.filter (fun a => decide (stepped ≤ a.born) && !decide (a.born ∈ seen)) = #[] := by
      apply Array.filter_eq_empty_iff.2
      intro x hx
      have := hborn x hx
      have : ¬ stepped ≤ x.born := by omega
      simp [this]
    have hc1 : ¬ ((¬ seen = [] ∧ ¬ ces = #[]) ∧ ∀ (i : Nat) (x : i < ces.size), stepped ≤ ces[i].born) := by
      rintro ⟨⟨_, h0⟩, h⟩
      have hpos : 0 < ces.size := by
        rcases Nat.eq_zero_or_pos ces.size with hz | hz
        · exact absurd (Array.size_eq_zero_iff.1 hz) h0
        · exact hz
      have h7 := h 0 hpos
      have := hborn ces[0] (Array.getElem_mem hpos)
      omega
    have hoff : l.at 0 0 = ⟨l.block, 0, none⟩ := by simp [Loc.at, hR.b0]
    rw [hoff]
    subst e1
    obtain ⟨A, hA⟩ : ∃ A, ces.filter (fun a => decide (a.born < g.2) && !decide (a.born ∈ seen)) = A := ⟨_, rfl⟩
    by_cases hall : ∀ a ∈ ces, a.born < g.2 → a.born ∈ seen
    · have hseen : ∀ s ∈ g.1, s ∈ seen := fun s hs => by
        rw [← m4] at hs
        obtain ⟨c, hc, rfl⟩ := List.mem_map.1 hs
        exact hall c (by simpa using hc) (hborn c (by simpa using hc))
      have hA0 : A = #[] := by
        rw [← hA]
        apply Array.filter_eq_empty_iff.2
        intro x hx
        simp [hall x hx (hborn x hx)]
      refine Gives.of_run (v := .tuple #[.bool false]) (w' := w) ?_ (Post.same hM (by simp [VR, VRs]) (hK1 hseen))
      simp only [Instr.next]
      simp [run_getIter h3, run_getMap m1, hc1, hB, hA, hA0, Question.forced]
      simp [if_pos hall]
    · have hpos : 0 < A.size := by
        rcases Nat.eq_zero_or_pos A.size with hz | hz
        · exfalso
          apply hall
          intro a ha h7
          rw [Array.size_eq_zero_iff.1 hz] at hA
          have := Array.filter_eq_empty_iff.1 hA a ha
          simpa [h7] using this
        · exact hz
      have hin : ∀ (i : Nat) (hi : i < A.size), ∃ (j : Nat) (k v : V), es[j]? = some (k, v) ∧ g.1[j]? = some A[i].born ∧ A[i].born ∉ seen ∧ VR β k A[i].key ∧ VR β v A[i].val := by
        intro i hi
        have hmem : A[i] ∈ A := Array.getElem_mem hi
        obtain ⟨y, hy⟩ : ∃ y, A[i] = y := ⟨_, rfl⟩
        rw [hy] at hmem ⊢
        rw [← hA, Array.mem_filter] at hmem
        obtain ⟨h7, h8⟩ := hmem
        simp only [Bool.and_eq_true, decide_eq_true_eq, Bool.not_eq_true', decide_eq_false_iff_not] at h8
        obtain ⟨j, hj⟩ := List.mem_iff_getElem?.1 (Array.mem_toList_iff.2 h7)
        obtain ⟨z, hz⟩ : ∃ z, es[j]? = some z := ⟨_, List.getElem?_eq_getElem (by
          have := (show EntR β es ces.toList from ⟨m2, m3⟩).length
          have := (List.getElem?_eq_some_iff.1 hj).1
          omega)⟩
        obtain ⟨k, v⟩ := z
        obtain ⟨k', b1, b2⟩ := m2.get j k (by simp [hz])
        obtain ⟨v', b3, b4⟩ := m3.get j v (by simp [hz])
        rw [List.getElem?_map, hj] at b1 b3
        injection b1 with b1; injection b3 with b3; subst b1; subst b3
        exact ⟨j, k, v, hz, by rw [← m4, List.getElem?_map, hj]; rfl, h8.2, b2, b4⟩
      have fin : ∀ (w2 : World) (i : Nat) (hi : i < A.size), MR base w0 β m w2 → w2.heap = w.heap → Post base w0 β K (.tuple #[.bool true, A[i].key, A[i].val]) { w2 with heap := w2.heap.setIfInBounds l.block (.mapIter (some lr.block) g.2 (seen ++ [A[i].born]).toArray g.2) } := by
        intro w2 i hi hM2 hh
        obtain ⟨j, k, v, c1, c2, c3, c4, c5⟩ := hin i hi
        have h3' : w2.heap[l.block]? = some (.mapIter (some lr.block) g.2 seen.toArray g.2) := by rw [hh]; exact h3
        refine ⟨β, _, _, Pl.le_refl _, ?_, hM2.step hl ho (chg_iter h3') (fun a ha => by rw [ha]; exact hR.ge) (fun a ha => ha) rfl (fun q lq h => ?_) (fun q lq h => ?_) ?_, hK2 j k v _ c1 c2 c3⟩
        · simp only [VR, VRs]; exact ⟨_, rfl, _, _, rfl, rfl, _, _, rfl, c4, _, _, rfl, c5, rfl⟩
        · cases q <;> exact h
        · cases q <;> exact h
        · have hlt : l.block < w2.heap.size := by
            rcases Nat.lt_or_ge l.block w2.heap.size with q | q
            · exact q
            · rw [Array.getElem?_eq_none q] at h3'; cases h3'
          exact ⟨hR.ge, hR.b0, some lr.block, h1, h2, by rw [Array.getElem?_setIfInBounds_self_of_lt hlt]⟩
      by_cases h1' : A.size ≤ 1
      · refine ⟨.tuple #[.bool true, A[0].key, A[0].val], _, ?_, fin w 0 hpos hM rfl⟩
        simp only [Instr.next]
        simp [run_getIter h3, run_getMap m1, hc1, hB, hall, hA, Question.forced, h1', hpos, run_setIter _ h3]
      · obtain ⟨i, hi, hieq⟩ : ∃ i, i < A.size ∧ (Question.mapNext A.size).cut (w.tape w.drawn (.mapNext A.size)) = i := ⟨_, Nat.mod_lt _ hpos, rfl⟩
        have h3' : w.drew.heap[l.block]? = some (.mapIter (some lr.block) g.2 seen.toArray g.2) := h3
        refine ⟨.tuple #[.bool true, A[i].key, A[i].val], _, ?_, fin w.drew i hi hM.drew rfl⟩
        simp only [Instr.next]
        simp [run_getIter h3, run_getMap m1, hc1, hB, hall, hA, Question.forced, h1', hi, hieq, run_setIter _ h3']
theorem gives_entry (hM : MR base w0 β m w) {x : V} {x' : Value} (hx : VR β x x')
    (hK : entryX m x K) : Gives P (Instr.entry x') w (Post base w0 β K) := by
  unfold entryX at hK
  split at hK
  case h_2 => exact hK.elim
  rename_i q
  simp only [VR] at hx
  obtain ⟨l, hl, rfl⟩ := hx
  split at hK
  case h_2 => exact hK.elim
  rename_i r since seen stepped ho
  have hR : IterR base β w l (some r) since seen stepped := hM.objs q l _ hl ho
  obtain ⟨mr, h1, h2, h3⟩ := hR.ex
  obtain ⟨lr, hlr, rfl⟩ := h1 r rfl
  split at hK
  case h_2 => exact hK.elim
  rename_i es g s hor hs
  have hRm : MapR base β w lr es g := hM.objs r lr _ hlr hor
  obtain ⟨ces, m1, m2, m3, m4, m5, m6⟩ := hRm.ex
  obtain ⟨rfl, i, k, v, c1, c2, hK⟩ := hK
  have hoff : l.at 0 0 = ⟨l.block, 0, none⟩ := by simp [Loc.at, hR.b0]
  rw [hoff]
  have hlen := (show EntR β es ces.toList from ⟨m2, m3⟩).length
  have hi : i < ces.toList.length := by have := (List.getElem?_eq_some_iff.1 c1).1; omega
  obtain ⟨c, hc⟩ : ∃ c, ces.toList[i]? = some c := ⟨_, List.getElem?_eq_getElem hi⟩
  have hcb : c.born = s := by
    rw [← m4, List.getElem?_map, hc] at c2; injection c2
  obtain ⟨k', b1, b2⟩ := m2.get i k (by simp [c1])
  obtain ⟨v', b3, b4⟩ := m3.get i v (by simp [c1])
  rw [List.getElem?_map, hc] at b1 b3
  injection b1 with b1; injection b3 with b3; subst b1; subst b3
  have hfind : ces.find? (fun e => e.born == s) = some c := by
    rw [← Array.find?_toList]
    rw [List.find?_eq_some_iff_getElem]
    refine ⟨by simp [hcb], i, hi, (List.getElem?_eq_some_iff.1 hc).2, fun j hj => ?_⟩
    have hn := m5
    rw [← m4] at hn
    have := (List.nodup_iff_pairwise_ne.1 hn)
    rw [List.pairwise_iff_getElem] at this
    have hsz : ces.toList.length = ces.size := by simp
    have := this j i (by simp; omega) (by simpa using hi) hj
    simp only [List.getElem_map] at this
    have e2 : ces.toList[i].born = s := by rw [(List.getElem?_eq_some_iff.1 hc).2]; exact hcb
    rw [e2] at this
    simpa using this
  refine Gives.of_run (v := .tuple #[c.key, c.val]) (w' := w) ?_ (Post.same hM (by simp only [VR, VRs]; exact ⟨_, rfl, _, _, rfl, b2, _, _, rfl, b4, rfl⟩) hK)
  simp only [Instr.entry]
  simp [run_getIter h3, run_getMap m1, hs, hfind]
end
end Go.AM
