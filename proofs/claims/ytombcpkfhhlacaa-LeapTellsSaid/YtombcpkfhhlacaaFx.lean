/-
  WHAT EACH FUNCTION of this seat computes, in plain words.
-/
import Derived.Test.YtombcpkfhhlacaaCx
namespace Go.Proofs.Ytombcpkfhhlacaa
open Go Go.AM
set_option linter.unusedVariables false

def clampT (t : Int) : Int := min (max t (-2199023255552)) 2199023255552
theorem clamp_in (t : Int) : -2199023255552 ≤ clampT t ∧ clampT t ≤ 2199023255552 := by unfold clampT; omega

def F11 : AFn
  | [.int .i64 t], m => some (.int .i64 (clampT t), m)
  | _, _ => none
theorem s11 : ASpec Try.prog 11 F11 := by
  intro args m r m' h
  unfold F11 at h; split at h <;> cases h
  refine run_calls (ctx_nil _) hm c11 (by simp) ?_
  simp [b11, clampT]
theorem s17 : ASpec Try.prog 17 F11 := by
  intro args m r m' h
  unfold F11 at h; split at h <;> cases h
  refine run_calls (ctx_nil _) hm c17 (by simp) ?_
  simp [b17, clampT]

abbrev L1 : List (FuncId × AFn) := [(11, F11), (17, F11)]
theorem x1 : CtxOk Try.prog (Ctx.of L1) := ctx_cons (ctx_cons (ctx_nil _) s17) s11

def F21 : AFn
  | [.int .i64 i, .ptr (some (c1, 0, 0)), .ptr (some (c2, 0, 0))], m => (match m.obj c1, m.obj c2 with
    | some (.row 1 [[.sl a n c]] _), some (.row 1 [[.int .i64 x]] _) => (match m.ints .i64 (.sl a n c) with
      | some zs => if 0 ≤ i ∧ i < zs.length then some (.bool (decide (clampT x < nth zs i.toNat)), m) else none
      | none => none)
    | _, _ => none)
  | _, _ => none
theorem s21 : ASpec Try.prog 21 F21 := by
  intro args m r m' h
  unfold F21 at h; split at h
  · split at h
    · rename_i h1 h2
      split at h
      · rename_i zs hz
        split at h <;> cases h
        rename_i i _ _ _ _ a n c _ x _ _ hi
        refine run_calls x1 hm c21 (by simp) ?_
        obtain ⟨hl, hs⟩ := Mem.ints_some hz
        obtain ⟨r, j, es, rw, rfl, ho, hle, he, hg⟩ := hs (by omega)
        have hgi := hg i.toNat (by omega)
        simp [b21, h1, h2, F11, hi.1, show i < (n : Int) by omega, ho, hgi]
      · cases h
    · cases h
  · cases h

def F20 : AFn
  | [.int .i64 i, .ptr (some (c1, 0, 0)), .ptr (some (c2, 0, 0))], m => (match m.obj c1, m.obj c2 with
    | some (.row 1 [[.sl a n c]] _), some (.row 1 [[.int .i64 x]] _) => (match m.ints .i64 (.sl a n c) with
      | some zs => if 0 ≤ i ∧ i < zs.length ∧ zs.length ≤ 256 ∧ 0 ≤ nth zs i.toNat ∧ nth zs i.toNat ≤ 1099511627776 then some (.bool (decide (x < nth zs i.toNat + i)), m) else none
      | none => none)
    | _, _ => none)
  | _, _ => none
theorem s20 : ASpec Try.prog 20 F20 := by
  intro args m r m' h
  unfold F20 at h; split at h
  · split at h
    · rename_i h1 h2
      split at h
      · rename_i zs hz
        split at h <;> cases h
        rename_i i _ _ _ _ a n c _ x _ _ hi
        refine run_calls x1 hm c20 (by simp) ?_
        obtain ⟨hl, hs⟩ := Mem.ints_some hz
        obtain ⟨r, j, es, rw, rfl, ho, hle, he, hg⟩ := hs (by omega)
        have hgi := hg i.toNat (by omega)
        generalize nth zs i.toNat = z at hi hgi ⊢
        simp [b20, h1, h2, hi.1, show i < (n : Int) by omega, ho, hgi, IntWalk.i64_in (z + i) (by omega)]
      · cases h
    · cases h
  · cases h

abbrev L2 : List (FuncId × AFn) := (21, F21) :: (20, F20) :: L1
theorem x2 : CtxOk Try.prog (Ctx.of L2) := ctx_cons (ctx_cons x1 s20) s21
theorem s19 : ASpec Try.prog 19 (searchF L2) := search_spec x2 hm c19 (by omega)

def F18 : AFn
  | [.ptr none], m => some (.sl none 0 (some 0), m)
  | [.ptr (some (r, 0, 0))], m => (match m.obj r with
    | some (.row 1 [[.sl a n c]] _) => some (.sl a n c, m)
    | _ => none)
  | _, _ => none
theorem s18 : ASpec Try.prog 18 F18 := by
  intro args m r m' h
  unfold F18 at h; split at h
  · cases h
    refine run_calls x2 hm c18 (by simp) ?_
    simp [b18]
  · split at h <;> cases h
    rename_i ho
    refine run_calls x2 hm c18 (by simp) ?_
    simp [b18, ho]
  · cases h

noncomputable abbrev L3 : List (FuncId × AFn) := (18, F18) :: (19, searchF L2) :: L2
theorem x3 : CtxOk Try.prog (Ctx.of L3) := ctx_cons (ctx_cons x2 s19) s18

/-- The steps of a table. -/
def stepsOf (m : Mem) : V → Option (List Int)
  | .ptr none => some []
  | .ptr (some (r, 0, 0)) => (match m.obj r with
    | some (.row 1 [[.sl a n c]] _) => m.ints .i64 (.sl a n c)
    | _ => none)
  | _ => none

def okAt (zs : List Int) (i : Nat) : Prop := 0 ≤ nth zs i ∧ nth zs i ≤ 1099511627776 ∧ (0 < i → nth zs (i - 1) + 2 ≤ nth zs i)
instance (zs : List Int) (i : Nat) : Decidable (okAt zs i) := by unfold okAt; infer_instance
/-- Steps that may be. -/
def Steps (zs : List Int) : Prop := zs.length ≤ 256 ∧ ∀ i, i < zs.length → okAt zs i
instance (zs : List Int) : Decidable (Steps zs) := by unfold Steps; infer_instance

theorem Steps.le {zs : List Int} (h : Steps zs) : ∀ j i, i < j → j < zs.length → nth zs i + 2 ≤ nth zs j
  | 0, i, hi, _ => by omega
  | j + 1, i, hi, hj => by
    have h1 := (h.2 (j + 1) hj).2.2 (by omega)
    simp only [Nat.add_sub_cancel] at h1
    by_cases e : i = j
    · subst e; exact h1
    · have := Steps.le h j i (by omega) (by omega); omega

theorem Steps.sorted {zs : List Int} (h : Steps zs) : zs.Pairwise (· ≤ ·) := by
  rw [List.pairwise_iff_getElem]
  intro i j hi hj hij
  have := h.le j i hij hj
  rw [nth_elem hi, nth_elem hj]; omega

def above (zs : List Int) (x : Int) : Nat := zs.countP fun z => decide (z ≤ clampT x)

def F16 : AFn
  | [.ptr p, .int .i64 x], m => (match stepsOf m (.ptr p) with
    | some zs => if Steps zs then some (.int .i64 (above zs x), m) else none
    | none => none)
  | _, _ => none

theorem s16 : ASpec Try.prog 16 F16 := by
  intro args m r m' h
  unfold F16 at h; split at h
  · rename_i p x
    split at h
    · rename_i zs hz
      split at h <;> cases h
      rename_i hs
      refine ACalls.forget (run_callsW x3 hm c16 (by simp) fun hf => ?_)
      have hf1 := new_fresh hf (.row 1 [[.int .i64 x]] true)
      obtain ⟨a, n, c, hF, hi⟩ : ∃ a n c, F18 [.ptr p] (m.new (.row 1 [[.int .i64 x]] true)) = some (.sl a n c, m.new (.row 1 [[.int .i64 x]] true)) ∧ m.ints .i64 (.sl a n c) = some zs := by
        unfold stepsOf at hz
        split at hz
        · rename_i e; injection e with e; subst e
          injection hz with hz; subst hz
          exact ⟨none, 0, some 0, rfl, by simp [Mem.ints]⟩
        · rename_i r e; injection e with e; subst e
          split at hz
          · rename_i a n c q ho
            exact ⟨a, n, c, by simp only [F18, new_keep hf _ _ _ ho], hz⟩
          · cases hz
        · cases hz
      obtain ⟨hl, _⟩ := Mem.ints_some hi
      obtain ⟨ht, hc⟩ := cut_sorted hs.sorted (clampT x)
      have hS := searchF_eq (l := L2) (n := n) (g := 21) (caps := [.ptr (some (m.next + 1, 0, 0)), .ptr (some (m.next, 0, 0))]) (m := (m.new (.row 1 [[.int .i64 x]] true)).new (.row 1 [[.sl a n c]] true)) (fun i => decide (clampT x < nth zs i)) (by have := hs.1; omega)
        (fun i hi2 => by
          have := Mem.ints_keep (Mem.ints_keep hi (new_keep hf (.row 1 [[.int .i64 x]] true))) (new_keep hf1 (.row 1 [[.sl a n c]] true))
          simp [F21, this, hl, hi2]) (by rw [← hl]; exact ht) (by rw [← hl]; exact hc)
      have hu : ((m.new (.row 1 [[.int .i64 x]] true)).new (.row 1 [[.sl none 0 (some 0)]] true)).upd (m.next + 1) (some (.row 1 [[.sl a n c]] true)) = (m.new (.row 1 [[.int .i64 x]] true)).new (.row 1 [[.sl a n c]] true) := upd_new _ _ _ rfl
      simp [b16, hF, hu, hS, V.flat, above]
      refine ⟨by omega, fun q hq => ?_⟩
      rw [if_neg (by omega), if_neg (by omega)]
    · cases h
  · cases h


/-- right: may the steps be? -/
def F8 : AFn
  | [.sl a n c], m => (match m.ints .i64 (.sl a n c) with
    | some zs => if n ≤ 1000000 then some (.bool (decide (Steps zs)), m) else none
    | none => none)
  | _, _ => none
theorem s8 : ASpec Try.prog 8 F8 := by
  intro args m r m' h
  unfold F8 at h; split at h
  · split at h
    · rename_i zs hz
      split at h <;> cases h
      rename_i a n c _ hn
      refine run_calls x3 hm c8 (by simp) ?_
      obtain ⟨hl, hs⟩ := Mem.ints_some hz
      simp [b8]
      refine exec_loop (σ := Nat) (fun i => en [(0, .sl a n c), (5, .sl a n c), (6, .int .i64 n), (7, .int .i64 i)]) (fun _ => m) (fun i => i ≤ n ∧ ∀ j, j < i → okAt zs j) (fun i => n - i) ?_ (s := 0) ?_ ?_
      · intro i ⟨h1, h2⟩
        by_cases hi : (i : Int) < n
        · obtain ⟨r, j, es, rw, rfl, ho, hle, he, hg⟩ := hs (by omega)
          have hgi := hg i (by omega)
          have hbad : ¬ okAt zs i → ¬ Steps zs := fun h k => h (k.2 i (by omega))
          generalize hz0 : nth zs i = z at hgi
          by_cases c1 : z < 0
          · have := hbad (fun k => by have := k.1; omega)
            simp [hi, ho, hgi, c1, this]
          by_cases c2 : 1099511627776 < z
          · have := hbad (fun k => by have := k.2.1; omega)
            simp [hi, ho, hgi, c1, c2, this]
          have next : okAt zs i → ∀ j, j < i + 1 → okAt zs j := fun h j hj => by
            by_cases e : j = i
            · subst e; exact h
            · exact h2 j (by omega)
          by_cases c3 : ¬ 0 < i
          · simp [hi, ho, hgi, c1, c2, c3, IntWalk.i64_in ((i : Int) + 1) (by omega)]
            exact ⟨i + 1, ⟨by omega, next ⟨by omega, by omega, by omega⟩⟩, by omega, rfl⟩
          · have hp := hg (i - 1) (by omega)
            have hpo := h2 (i - 1) (by omega)
            generalize hz1 : nth zs (i - 1) = y at hp hpo
            have hyb : 0 ≤ y ∧ y ≤ 1099511627776 := by have := hpo.1; have := hpo.2.1; omega
            have e1 : ((i : Int) - 1).toNat = i - 1 := by omega
            have e2 : IntKind.i64.wrap ((i : Int) - 1) = (i : Int) - 1 := IntWalk.i64_in _ (by omega)
            have e3 := IntWalk.i64_in (z - y) (by omega)
            by_cases c4 : z - y < 2
            · have := hbad (fun k => by have := k.2.2 (by omega); omega)
              simp [hi, ho, hgi, c1, c2, show 0 < i by omega, e2, e1, show (1 : Int) ≤ i by omega, show (i : Int) - 1 < n by omega, hp, e3, c4, this]
            · have hok : okAt zs i := ⟨by omega, by omega, by omega⟩
              simp [hi, ho, hgi, c1, c2, show 0 < i by omega, e2, e1, show (1 : Int) ≤ i by omega, show (i : Int) - 1 < n by omega, hp, e3, c4, IntWalk.i64_in ((i : Int) + 1) (by omega)]
              exact ⟨i + 1, ⟨by omega, next hok⟩, by omega, rfl⟩
        · have : i = n := by omega
          subst this
          simp
          by_cases hle : i ≤ 256
          · have : Steps zs := ⟨by omega, fun j hj => h2 j (by omega)⟩
            simp [this]; omega
          · have : ¬ Steps zs := fun k => hle (by have := k.1; omega)
            simp [this]; omega
      · exact ⟨by omega, fun j hj => by omega⟩
      · simp
    · cases h
  · cases h


/-- slices.Clone. -/
def F15 : AFn
  | [.sl none 0 (some 0)], m => some (.sl none 0 (some 0), m)
  | [.sl (some p) n c], m => (match m.ints .i64 (.sl (some p) n c) with
    | some zs => if n ≤ 1000000 then (if n = 0 then some (.sl (some (m.next, 0, 1)) 0 (some 0), m.new (.row 1 [] true))
      else some (.sl (some (m.next + 1, 0, 1)) n none, (m.new (.row 1 [] true)).new (.row 1 (rowI .i64 zs) true))) else none
    | none => none)
  | _, _ => none
theorem s15 : ASpec Try.prog 15 F15 := by
  intro args m r m' h
  unfold F15 at h; split at h
  · cases h
    refine run_calls x3 hm c15 (by simp) ?_
    simp [b15]
  · split at h
    · rename_i zs hz
      split at h
      · rename_i p n c _ hn
        refine run_callsW x3 hm c15 (by simp) fun hf => ?_
        obtain ⟨hl, _⟩ := Mem.ints_some hz
        have hi := Mem.ints_elts (Mem.ints_keep hz (new_keep hf (.row 1 [] true)))
        split at h
        · rename_i h0
          cases h
          subst h0
          have : zs = [] := List.eq_nil_of_length_eq_zero hl
          subst this
          simp [b15, hi, rowI, appendX]
        · rename_i h0
          cases h
          have hne : rowI .i64 zs ≠ [] := fun e => h0 (by rw [← hl, (rowI_eq_nil _ _).1 e]; rfl)
          simp [b15, hi, appendX, hne, rowI_length, hl, room, h0]
          omega
      · cases h
    · cases h
  · cases h

noncomputable abbrev L4 : List (FuncId × AFn) := (15, F15) :: (16, F16) :: (8, F8) :: L3
theorem x4 : CtxOk Try.prog (Ctx.of L4) := ctx_cons (ctx_cons (ctx_cons x3 s8) s16) s15

/-- New: a table of steps that may be. -/
def F7 : AFn
  | [.sl a n c], m => (match m.ints .i64 (.sl a n c) with
    | some zs => if Steps zs then (match F15 [.sl a n c] m with
      | some (v, m1) => if v.isCell then some (.ptr (some (m1.next, 0, 0)), m1.new (.row 1 [[v]] true)) else none
      | none => none) else if n ≤ 1000000 then some (.ptr none, m) else none
    | none => none)
  | _, _ => none
theorem s7 : ASpec Try.prog 7 F7 := by
  intro args m r m' h
  unfold F7 at h; split at h
  · split at h
    · rename_i zs hz
      rename_i a n c _
      refine run_calls x4 hm c7 (by simp) ?_
      obtain ⟨hl, hs⟩ := Mem.ints_some hz
      have hk : (Steps zs → ∃ v m1, F15 [.sl a n c] m = some (v, m1) ∧ v.isCell = true ∧ r = .ptr (some (m1.next, 0, 0)) ∧ m' = m1.new (.row 1 [[v]] true)) ∧ (¬ Steps zs → r = .ptr none ∧ m' = m) ∧ n ≤ 1000000 := by
        split at h
        · rename_i hst
          split at h
          · rename_i v m1 hv
            split at h
            · rename_i hc; cases h
              exact ⟨fun _ => ⟨v, m1, hv, hc, rfl, rfl⟩, fun k => absurd hst k, by have := hst.1; omega⟩
            · cases h
          · cases h
        · rename_i hst
          split at h
          · rename_i hn; cases h
            exact ⟨fun k => absurd k hst, fun _ => ⟨rfl, rfl⟩, hn⟩
          · cases h
      obtain ⟨hk1, hk2, hn⟩ := hk
      by_cases hlen : (256 : Int) < n
      · have := hk2 (fun k => by have := k.1; omega)
        simp [b7, hlen, this.1, this.2]
      simp [b7, hlen]
      refine exec_loop (σ := Nat) (fun i => en [(0, .sl a n c), (8, .sl a n c), (9, .int .i64 n), (10, .int .i64 i)]) (fun _ => m) (fun i => i ≤ n ∧ ∀ j, j < i → okAt zs j) (fun i => n - i) ?_ (s := 0) ?_ ?_
      · intro i ⟨h1, h2⟩
        by_cases hi : (i : Int) < n
        · obtain ⟨r, j, es, rw, rfl, ho, hle, he, hg⟩ := hs (by omega)
          have hgi := hg i (by omega)
          have hbad : ¬ okAt zs i → ¬ Steps zs := fun h k => h (k.2 i (by omega))
          generalize hz0 : nth zs i = z at hgi
          by_cases c1 : z < 0
          · have := hk2 (hbad (fun k => by have := k.1; omega))
            simp [hi, ho, hgi, c1, this.1, this.2]
          by_cases c2 : 1099511627776 < z
          · have := hk2 (hbad (fun k => by have := k.2.1; omega))
            simp [hi, ho, hgi, c1, c2, this.1, this.2]
          have next : okAt zs i → ∀ j, j < i + 1 → okAt zs j := fun h j hj => by
            by_cases e : j = i
            · subst e; exact h
            · exact h2 j (by omega)
          by_cases c3 : ¬ 0 < i
          · simp [hi, ho, hgi, c1, c2, c3, IntWalk.i64_in ((i : Int) + 1) (by omega)]
            exact ⟨i + 1, ⟨by omega, next ⟨by omega, by omega, by omega⟩⟩, by omega, rfl⟩
          · have hp := hg (i - 1) (by omega)
            have hpo := h2 (i - 1) (by omega)
            generalize hz1 : nth zs (i - 1) = y at hp hpo
            have hyb : 0 ≤ y ∧ y ≤ 1099511627776 := by have := hpo.1; have := hpo.2.1; omega
            have e1 : ((i : Int) - 1).toNat = i - 1 := by omega
            have e2 : IntKind.i64.wrap ((i : Int) - 1) = (i : Int) - 1 := IntWalk.i64_in _ (by omega)
            have e3 := IntWalk.i64_in (y + 2) (by omega)
            by_cases c4 : z < y + 2
            · have := hk2 (hbad (fun k => by have := k.2.2 (by omega); omega))
              simp [hi, ho, hgi, c1, c2, show 0 < i by omega, e2, e1, show (1 : Int) ≤ i by omega, show (i : Int) - 1 < n by omega, hp, e3, c4, this.1, this.2]
            · have hok : okAt zs i := ⟨by omega, by omega, by omega⟩
              simp [hi, ho, hgi, c1, c2, show 0 < i by omega, e2, e1, show (1 : Int) ≤ i by omega, show (i : Int) - 1 < n by omega, hp, e3, c4, IntWalk.i64_in ((i : Int) + 1) (by omega)]
              exact ⟨i + 1, ⟨by omega, next hok⟩, by omega, rfl⟩
        · have : i = n := by omega
          subst this
          obtain ⟨v, m1, hv, hc, e1, e2⟩ := hk1 ⟨by omega, fun j hj => h2 j (by omega)⟩
          subst e1; subst e2
          simp [hv]
          clear hk1 hk2 h hv
          cases v <;> first | (simp [V.isCell] at hc; done) | simp
      · exact ⟨by omega, fun j hj => by omega⟩
      · simp
    · cases h
  · cases h

def F9 : AFn
  | [.ptr p, .int .i64 x], m => F16 [.ptr p, .int .i64 x] m
  | _, _ => none
theorem s9 : ASpec Try.prog 9 F9 := by
  intro args m r m' h
  unfold F9 at h; split at h
  · refine run_calls x4 hm c9 (by simp) ?_
    simp [b9, h]
  · cases h

theorem above_le (zs : List Int) (x : Int) : above zs x ≤ zs.length := List.countP_le_length

def F10 : AFn
  | [.ptr p, .int .i64 x], m => (match stepsOf m (.ptr p) with
    | some zs => if Steps zs then some (.int .i64 (clampT x + above zs x), m) else none
    | none => none)
  | _, _ => none
theorem s10 : ASpec Try.prog 10 F10 := by
  intro args m r m' h
  unfold F10 at h; split at h
  · rename_i p x
    split at h
    · rename_i zs hz
      split at h <;> cases h
      rename_i hs
      refine run_calls x4 hm c10 (by simp) ?_
      have h1 := clamp_in x
      have h2 := above_le zs x
      have h3 := hs.1
      simp [b10, F11, F16, hz, hs, IntWalk.i64_in (clampT x + above zs x) (by omega)]
    · cases h
  · cases h

def F12 : AFn
  | [.ptr p, .int .i64 x], m => (match stepsOf m (.ptr p) with
    | some zs => if Steps zs then (if above zs x < zs.length then some (.tup [.int .i64 (nth zs (above zs x)), .bool true], m) else some (.tup [.int .i64 0, .bool false], m)) else none
    | none => none)
  | _, _ => none
theorem s12 : ASpec Try.prog 12 F12 := by
  intro args m r m' h
  unfold F12 at h; split at h
  · rename_i p x
    split at h
    · rename_i zs hz
      split at h
      · rename_i hs
        refine run_calls x4 hm c12 (by simp) ?_
        obtain ⟨a, n, c, hF, hi⟩ : ∃ a n c, F18 [.ptr p] m = some (.sl a n c, m) ∧ m.ints .i64 (.sl a n c) = some zs := by
          have hz2 := hz
          unfold stepsOf at hz2
          split at hz2
          · rename_i e; injection e with e; subst e
            injection hz2 with hz2; subst hz2
            exact ⟨none, 0, some 0, rfl, by simp [Mem.ints]⟩
          · rename_i r e; injection e with e; subst e
            split at hz2
            · rename_i a n c q ho
              exact ⟨a, n, c, by simp only [F18, ho], hz2⟩
            · cases hz2
          · cases hz2
        obtain ⟨hl, hg⟩ := Mem.ints_some hi
        by_cases hlt : above zs x < zs.length
        · rw [if_pos hlt] at h; cases h
          obtain ⟨r, j, es, rw, rfl, ho, hle, he, hg⟩ := hg (by omega)
          have hgi := hg (above zs x) (by omega)
          simp [b12, hF, F16, hz, hs, show above zs x < n by omega, ho, hgi]
        · rw [if_neg hlt] at h; cases h
          simp [b12, hF, F16, hz, hs, show ¬ above zs x < n by omega]
      · cases h
    · cases h
  · cases h

noncomputable abbrev L5 : List (FuncId × AFn) := (10, F10) :: (9, F9) :: (12, F12) :: (7, F7) :: L4
theorem x5 : CtxOk Try.prog (Ctx.of L5) := ctx_cons (ctx_cons (ctx_cons (ctx_cons x4 s7) s12) s9) s10

def F13 : AFn
  | [.ptr p, .int .i64 x, .int .i64 y], m => (match stepsOf m (.ptr p) with
    | some zs => if Steps zs then some (.int .i64 ((clampT y + above zs y) - (clampT x + above zs x)), m) else none
    | none => none)
  | _, _ => none
theorem s13 : ASpec Try.prog 13 F13 := by
  intro args m r m' h
  unfold F13 at h; split at h
  · rename_i p x y
    split at h
    · rename_i zs hz
      split at h <;> cases h
      rename_i hs
      refine run_calls x5 hm c13 (by simp) ?_
      have h1 := clamp_in x
      have h2 := above_le zs x
      have h3 := hs.1
      have h4 := clamp_in y
      have h5 := above_le zs y
      simp [b13, F10, hz, hs, IntWalk.i64_in ((clampT y + above zs y) - (clampT x + above zs x)) (by omega)]
    · cases h
  · cases h

/-- How many steps are at, or ahead of, an even second. -/
def ahead (zs : List Int) (e : Int) : Nat := cutN (fun i => decide (e < nth zs i + i)) zs.length

theorem Steps.turns {zs : List Int} (h : Steps zs) (e : Int) : Turns (fun i => decide (e < nth zs i + i)) zs.length := by
  intro i j hij hj hi
  simp only [decide_eq_true_eq] at hi ⊢
  by_cases e : i = j
  · subst e; exact hi
  · have := h.le j i (by omega) hj; omega

def plainZ (zs : List Int) (e : Int) : Int × Bool :=
  if 0 < ahead zs e ∧ nth zs (ahead zs e - 1) + ahead zs e - 1 = e then (nth zs (ahead zs e - 1) - 1, true) else (e - ahead zs e, false)

def F14 : AFn
  | [.ptr p, .int .i64 x], m => (match stepsOf m (.ptr p) with
    | some zs => if Steps zs then some (.tup [.int .i64 (plainZ zs (clampT x)).1, .bool (plainZ zs (clampT x)).2], m) else none
    | none => none)
  | _, _ => none

theorem slice_of {m : Mem} (hf : m.Fresh) {p : Option (Nat × Nat × Nat)} {zs : List Int} (hz : stepsOf m (.ptr p) = some zs) :
    ∃ a n c, m.ints .i64 (.sl a n c) = some zs ∧ ∀ m2 : Mem, (∀ q o, m.obj q = some o → m2.obj q = some o) → F18 [.ptr p] m2 = some (.sl a n c, m2) := by
  unfold stepsOf at hz
  split at hz
  · rename_i e; injection e with e; subst e
    injection hz with hz; subst hz
    exact ⟨none, 0, some 0, by simp [Mem.ints], fun m2 _ => rfl⟩
  · rename_i r e; injection e with e; subst e
    split at hz
    · rename_i a n c q ho
      exact ⟨a, n, c, hz, fun m2 hk => by simp only [F18, hk _ _ ho]⟩
    · cases hz
  · cases hz

theorem s14 : ASpec Try.prog 14 F14 := by
  intro args m r m' h
  unfold F14 at h; split at h
  · rename_i p x
    split at h
    · rename_i zs hz
      split at h <;> cases h
      rename_i hs
      refine ACalls.forget (run_callsW x5 hm c14 (by simp) fun hf => ?_)
      obtain ⟨a, n, c, hi, hF⟩ := slice_of hf hz
      have hx := clamp_in x
      generalize hy : clampT x = y at hx
      generalize hA : (Obj.row 1 [[V.int .i64 x]] true) = A
      generalize hB : (Obj.row 1 [[V.int .i64 y]] true) = B
      have k1 := new_keep hf B
      have hf1 := new_fresh hf B
      have hF1 := hF _ k1
      have hi1 := Mem.ints_keep hi k1
      have k2 := new_keep hf1 (.row 1 [[.sl a n c]] true)
      have hi2 := Mem.ints_keep hi1 k2
      have hu1 : (m.new A).upd m.next (some B) = m.new B := upd_new _ _ _ rfl
      have hu2 : ((m.new B).new (.row 1 [[.sl none 0 (some 0)]] true)).upd (m.next + 1) (some (.row 1 [[.sl a n c]] true)) = (m.new B).new (.row 1 [[.sl a n c]] true) := upd_new _ _ _ rfl
      obtain ⟨hl, hg⟩ := Mem.ints_some hi2
      have hcut := cutN_ok (hs.turns y)
      have h256 := hs.1
      have hS := searchF_eq (l := L2) (n := n) (g := 20) (caps := [.ptr (some (m.next + 1, 0, 0)), .ptr (some (m.next, 0, 0))]) (m := (m.new B).new (.row 1 [[.sl a n c]] true)) (fun i => decide (y < nth zs i + i)) (by omega)
        (fun i hi3 => by
          have hb := (hs.2 i (by omega))
          subst hB
          simp [F20, hi2, hl, hi3, hb.1, hb.2.1]; omega) (by rw [← hl]; exact hs.turns y) (by rw [← hl]; exact hcut)
      have ha : cutN (fun i => decide (y < nth zs i + i)) zs.length = ahead zs y := rfl
      rw [ha] at hS
      have hle : ahead zs y ≤ zs.length := hcut.1
      subst hA; subst hB
      by_cases h0 : 0 < ahead zs y
      · obtain ⟨r, j, es, rw, rfl, ho, hle2, he, hg⟩ := hg (by omega)
        have hgi := hg (ahead zs y - 1) (by omega)
        have hb := hs.2 (ahead zs y - 1) (by omega)
        have hb1 := hb.1
        have hb2 := hb.2.1
        have e1 : IntKind.i64.wrap ((ahead zs y : Int) - 1) = (ahead zs y : Int) - 1 := IntWalk.i64_in _ (by omega)
        have e2 : ((ahead zs y : Int) - 1).toNat = ahead zs y - 1 := by omega
        generalize hn0 : ahead zs y = N at *
        generalize hz0 : nth zs (N - 1) = z at *
        have e3 : IntKind.i64.wrap (z + N) = z + N := IntWalk.i64_in _ (by omega)
        have e4 : IntKind.i64.wrap (z + N - 1) = z + N - 1 := IntWalk.i64_in _ (by omega)
        have e5 : IntKind.i64.wrap (z - 1) = z - 1 := IntWalk.i64_in _ (by omega)
        have e6 : IntKind.i64.wrap (y - N) = y - N := IntWalk.i64_in _ (by omega)
        simp only [new_obj, new_next] at ho
        by_cases h1 : z + N - 1 = y
        · have hp : plainZ zs y = (z - 1, true) := by unfold plainZ; rw [hn0, hz0, if_pos ⟨h0, h1⟩]
          simp [b14, F11, hy, hu1, hF1, hu2, hS, V.flat, V.flats, h0, e1, e2, e3, e5, ho, hgi, h1, show (1 : Int) ≤ N by omega, hp]
          have e7 := IntWalk.i64_in y (by omega)
          and_intros
          all_goals first | omega | exact e7 | (intro q hq; rw [if_neg (by omega), if_neg (by omega)])
        · have hp : plainZ zs y = (y - N, false) := by unfold plainZ; rw [hn0, hz0, if_neg (by omega)]
          simp [b14, F11, hy, hu1, hF1, hu2, hS, V.flat, V.flats, h0, e1, e2, e3, e4, e6, ho, hgi, h1, show (1 : Int) ≤ N by omega, hp]
          and_intros
          all_goals first | omega | (intro q hq; rw [if_neg (by omega), if_neg (by omega)])
      · have hp : plainZ zs y = (y, false) := by unfold plainZ; rw [if_neg (by omega)]; simp; omega
        have hn0 : ahead zs y = 0 := by omega
        rw [hn0] at hS
        simp at hS
        simp [b14, F11, hy, hu1, hF1, hu2, hS, V.flat, V.flats, hp, IntWalk.i64_in y (by omega)]
        refine ⟨by omega, fun q hq => ?_⟩
        rw [if_neg (by omega), if_neg (by omega)]
    · cases h
  · cases h

end Go.Proofs.Ytombcpkfhhlacaa
