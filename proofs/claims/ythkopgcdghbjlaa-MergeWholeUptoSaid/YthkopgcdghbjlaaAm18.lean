/-
  THE ABSTRACT MACHINE: rows of whole numbers read; sort.Search, whatever it is asked. No Go program here but that one of Go's library.
-/
import Derived.Test.YthkopgcdghbjlaaAm17
namespace Go.AM
open Go
set_option linter.unusedVariables false

/-! ### rows of whole numbers -/

/-- A row whose elements are whole numbers. -/
def rowI (k : IntKind) (zs : List Int) : List (List V) := zs.map fun z => [.int k z]

/-- The i-th number of a row. -/
def nth (zs : List Int) (i : Nat) : Int := zs.getD i 0
theorem nth_get {zs : List Int} {i : Nat} (h : i < zs.length) : zs[i]? = some (nth zs i) := by
  rw [nth, List.getD, List.getElem?_eq_getElem h]; rfl
theorem nth_elem {zs : List Int} {i : Nat} (h : i < zs.length) : zs[i] = nth zs i := by
  have := nth_get h
  rw [List.getElem?_eq_getElem h] at this; injection this
theorem nth_zero (z : Int) (zs : List Int) : nth (z :: zs) 0 = z := eqI rfl
theorem nth_succ (z : Int) (zs : List Int) (i : Nat) : nth (z :: zs) (i + 1) = nth zs i := by simp [nth]
theorem nth_mem {zs : List Int} {i : Nat} (h : i < zs.length) : nth zs i ∈ zs := by rw [← nth_elem h]; exact List.getElem_mem h

theorem rowI_length (k : IntKind) (zs : List Int) : (rowI k zs).length = zs.length := by simp [rowI]
theorem rowI_get (k : IntKind) (zs : List Int) (i : Nat) : (rowI k zs)[i]? = (zs[i]?).map fun z => [.int k z] := by simp [rowI]
theorem rowI_take (k : IntKind) (zs : List Int) (n : Nat) : (rowI k zs).take n = rowI k (zs.take n) := by simp [rowI]
theorem rowI_drop (k : IntKind) (zs : List Int) (n : Nat) : (rowI k zs).drop n = rowI k (zs.drop n) := by simp [rowI]
theorem rowI_append (k : IntKind) (xs ys : List Int) : rowI k xs ++ rowI k ys = rowI k (xs ++ ys) := by simp [rowI]
theorem rowI_nil (k : IntKind) : rowI k [] = [] := rfl
theorem rowI_eq_nil (k : IntKind) (zs : List Int) : rowI k zs = [] ↔ zs = [] := by simp [rowI]

def intsOf (k : IntKind) : List (List V) → Option (List Int)
  | [] => some []
  | [.int k' z] :: r => if k' = k then (intsOf k r).map (z :: ·) else none
  | _ => none
theorem intsOf_rowI (k : IntKind) : ∀ zs, intsOf k (rowI k zs) = some zs
  | [] => rfl
  | z :: zs => by
    have := intsOf_rowI k zs
    simp only [rowI] at this
    simp [rowI, intsOf, this]
theorem intsOf_some {k : IntKind} : ∀ {es : List (List V)} {zs : List Int}, intsOf k es = some zs → es = rowI k zs
  | [], zs, h => by simp only [intsOf, Option.some.injEq] at h; subst h; rfl
  | e :: es, zs, h => by
    unfold intsOf at h
    split at h
    · rename_i heq; cases heq
    · rename_i k' z r heq
      injection heq with h1 h2; subst h1; subst h2
      split at h
      · rename_i hk; subst hk
        cases hr : intsOf k' es with
        | none => rw [hr] at h; cases h
        | some ys =>
          rw [hr] at h; simp only [Option.map_some, Option.some.injEq] at h; subst h
          rw [intsOf_some hr]; rfl
      · cases h
    · cases h

/-- The whole numbers of a slice. -/
def Mem.ints (m : Mem) (k : IntKind) : V → Option (List Int)
  | .sl a n c => if n = 0 then some [] else
    match a with
    | some (r, i, 1) => (m.elts 1 r i n).bind (intsOf k)
    | _ => none
  | _ => none

theorem Mem.ints_nil (m : Mem) (k : IntKind) (a : Option (Nat × Nat × Nat)) (c : Option Nat) : m.ints k (.sl a 0 c) = some [] := by simp [Mem.ints]

theorem Mem.ints_row {m : Mem} {k : IntKind} {r i n : Nat} {c : Option Nat} {es : List (List V)} {rw : Bool} (h : m.obj r = some (.row 1 es rw)) (hn : i + n ≤ es.length) :
    m.ints k (.sl (some (r, i, 1)) n c) = intsOf k ((es.drop i).take n) := by
  simp only [Mem.ints]
  split
  · rename_i h0; subst h0; simp [intsOf]
  · simp [Mem.elts, h, hn]

/-- What a slice of whole numbers is. -/
theorem Mem.ints_some {m : Mem} {k : IntKind} {a : Option (Nat × Nat × Nat)} {n : Nat} {c : Option Nat} {zs : List Int} (h : m.ints k (.sl a n c) = some zs) :
    zs.length = n ∧ (n ≠ 0 → ∃ r i es rw, a = some (r, i, 1) ∧ m.obj r = some (.row 1 es rw) ∧ i + n ≤ es.length ∧ (es.drop i).take n = rowI k zs ∧ ∀ j, j < n → es[i + j]? = some [.int k (nth zs j)]) := by
  simp only [Mem.ints] at h
  split at h
  · rename_i h0; subst h0
    injection h with h; subst h; simp
  · rename_i hne
    split at h
    · rename_i r i
      simp only [Mem.elts] at h
      split at h
      · rename_i sz es rw ho
        split at h
        · rename_i hc
          obtain ⟨rfl, hle⟩ := hc
          simp only [Option.bind_some] at h
          have he := intsOf_some h
          have hl : zs.length = n := by
            have := congrArg List.length he
            simp [rowI] at this; omega
          refine ⟨hl, fun _ => ⟨r, i, es, rw, rfl, ho, hle, he, fun j hj => ?_⟩⟩
          have h1 : ((es.drop i).take n)[j]? = es[i + j]? := by rw [List.getElem?_take_of_lt hj, List.getElem?_drop]
          rw [← h1, he, rowI_get, nth_get (by omega)]; rfl
        · simp at h
      · simp at h
    · cases h

/-- The elements that it hands on. -/
theorem Mem.ints_elts {m : Mem} {k : IntKind} {a : Option (Nat × Nat × Nat)} {n : Nat} {c : Option Nat} {zs : List Int} (h : m.ints k (.sl a n c) = some zs) : eltsOf 1 m (.sl a n c) = some (rowI k zs) := by
  obtain ⟨hl, h1⟩ := Mem.ints_some h
  by_cases hn : n = 0
  · subst hn
    have : zs = [] := List.eq_nil_of_length_eq_zero hl
    subst this
    cases a <;> simp [eltsOf, rowI]
  · obtain ⟨r, i, es, rw, rfl, ho, hle, he, _⟩ := h1 hn
    simp [eltsOf, hn, Mem.elts, ho, hle, he]

theorem Mem.ints_keep {m m' : Mem} {k : IntKind} {v : V} {zs : List Int} (h : m.ints k v = some zs) (hk : ∀ q o, m.obj q = some o → m'.obj q = some o) : m'.ints k v = some zs := by
  cases v <;> first | (simp [Mem.ints] at h; done) | skip
  rename_i a n c
  simp only [Mem.ints] at h ⊢
  split at h
  · rename_i h0; rw [if_pos h0]; exact h
  · rename_i h0; rw [if_neg h0]
    split at h
    · rename_i r i
      cases ho : m.obj r with
      | none => simp [Mem.elts, ho] at h
      | some o => simpa only [Mem.elts, ho, hk r o ho] using h
    · cases h

theorem arg_ints {m : Mem} {k : IntKind} {zs : List Int} {a : Option (Nat × Nat × Nat)} {c : Option Nat} (h : a = some (m.next, 0, 1) ∨ (a = none ∧ c = some 0 ∧ zs = [])) : (m.arg 1 (rowI k zs)).ints k (.sl a zs.length c) = some zs := by
  by_cases hz : zs = []
  · subst hz; simp [Mem.ints]
  · have ha := arg_some h hz
    subst ha
    have h1 : zs.length ≠ 0 := fun e => hz (List.eq_nil_of_length_eq_zero e)
    have h2 : rowI k zs ≠ [] := fun e => hz ((rowI_eq_nil _ _).1 e)
    have h3 : (rowI k zs).take zs.length = rowI k zs := by rw [rowI_take, List.take_length]
    simp [Mem.ints, h1, Mem.elts, Mem.arg, h2, rowI_length, h3, intsOf_rowI]

theorem new_keep {m : Mem} (hf : m.Fresh) (o : Obj) : ∀ q x, m.obj q = some x → (m.new o).obj q = some x := by
  intro q x hx
  have := hf q x hx
  rw [new_obj, if_neg (by omega)]; exact hx
theorem new_fresh {m : Mem} (hf : m.Fresh) (o : Obj) : (m.new o).Fresh := by
  intro q x hx
  rw [new_obj] at hx
  rw [new_next]
  split at hx
  · omega
  · have := hf q x hx; omega

/-! ### sort.Search -/

/-- Its code, as the compiler tells it. -/
def bSearch : IFn := ⟨
 .seq
 (.region [⟨(some 4), .mov (.c (.int .i64 0)), none⟩]) <|
 .seq
 (.region [⟨(some 8), .mov (.t 0), none⟩,
    ⟨(some 5), .mov (.c (.int .i64 0)), none⟩,
    ⟨(some 6), .mov (.t 8), none⟩]) <|
 .seq
 (.block 0 <|
  .loop [1, 5, 6] <|
   .seq
   (.seq
    (.region [⟨(some 9), .mov (.t 5), none⟩,
       ⟨(some 10), .mov (.t 6), none⟩,
       ⟨(some 11), .bin .lss (.t 9) (.t 10), none⟩]) <|
    .cond (.t 11)
     (.skip)
     (.exit 0)) <|
   .block 1 <|
   .seq
   (.region [⟨(some 12), .mov (.t 5), none⟩,
      ⟨(some 13), .mov (.t 6), none⟩,
      ⟨(some 14), .bin .add (.t 12) (.t 13), none⟩,
      ⟨(some 15), .conv .u64 (.t 14), none⟩,
      ⟨(some 16), .bin .shr (.t 15) (.c (.int .u64 1)), none⟩,
      ⟨(some 17), .conv .i64 (.t 16), none⟩,
      ⟨(some 7), .mov (.t 17), none⟩]) <|
   .seq
   (.region [⟨(some 18), .mov (.t 1), none⟩,
      ⟨(some 19), .mov (.t 7), none⟩,
      ⟨(some 20), .call (.t 18) [(.t 19)], none⟩,
      ⟨(some 21), .un .not (.t 20), none⟩]) <|
   .cond (.t 21)
    (.region [⟨(some 22), .mov (.t 7), none⟩,
       ⟨(some 23), .bin .add (.t 22) (.c (.int .i64 1)), none⟩,
       ⟨(some 5), .mov (.t 23), none⟩])
    (.region [⟨(some 24), .mov (.t 7), none⟩,
       ⟨(some 6), .mov (.t 24), none⟩])) <|
 .seq
 (.region [⟨(some 25), .mov (.t 5), none⟩,
    ⟨(some 4), .mov (.t 25), none⟩]) <|
 .ret, [.slot 4]⟩

/-- The place where a search ends: all ahead of it no, all from it on yes. -/
def Cut (p : Nat → Bool) (n r : Nat) : Prop := r ≤ n ∧ (∀ i, i < r → p i = false) ∧ ∀ i, r ≤ i → i < n → p i = true

theorem Cut.unique {p : Nat → Bool} {n r r' : Nat} (h : Cut p n r) (k : Cut p n r') : r = r' := by
  rcases Nat.lt_trichotomy r r' with hl | hl | hl
  · have h1 := h.2.2 r (Nat.le_refl _) (by have := k.1; omega)
    have h2 := k.2.1 r hl
    rw [h1] at h2; cases h2
  · exact hl
  · have h1 := k.2.2 r' (Nat.le_refl _) (by have := h.1; omega)
    have h2 := h.2.1 r' hl
    rw [h1] at h2; cases h2

/-- Where p turns from no to yes once. -/
def Turns (p : Nat → Bool) (n : Nat) : Prop := ∀ i j, i ≤ j → j < n → p i = true → p j = true

theorem run_search {l : List (FuncId × AFn)} {n : Nat} {g : FuncId} {caps : List V} {m : Mem} {K : KV} (p : Nat → Bool) (hn : n ≤ 4611686018427387904) (hp : ∀ i, i < n → look l g (.int .i64 i :: caps) m = some (.bool (p i), m))
    (ht : Turns p n) {r : Nat} (hr : Cut p n r) (hk : K (.int .i64 r) m) : runF (Ctx.of l) bSearch [.int .i64 n, .fn g [] caps] m K := by
  simp [bSearch]
  refine exec_loop (σ := Nat × Nat) (fun (i, j) => en [(1, .fn g [] caps), (5, .int .i64 i), (6, .int .i64 j)]) (fun _ => m)
    (fun (i, j) => i ≤ j ∧ j ≤ n ∧ (∀ q, q < i → p q = false) ∧ (∀ q, j ≤ q → q < n → p q = true)) (fun (i, j) => j - i) ?_ (s := (0, n)) ?_ ?_
  · intro (i, j) ⟨h1, h2, h3, h4⟩
    by_cases h : (i : Int) < j
    · have e1 : IntKind.u64.wrap (IntKind.i64.wrap ((i : Int) + j)) = ((i + j : Nat) : Int) := by
        rw [IntWalk.i64_in _ (by omega), IntWalk.u64_in _ (by omega)]; omega
      have e2 : IntKind.u64.wrap (((i + j : Nat) : Int).fdiv 2) = (((i + j) / 2 : Nat) : Int) := by
        rw [IntWalk.u64_in _ (by rw [Int.fdiv_eq_ediv_of_nonneg _ (by omega)]; omega), Int.fdiv_eq_ediv_of_nonneg _ (by omega)]; omega
      have e2' : ((i : Int) + j).fdiv 2 = (((i + j) / 2 : Nat) : Int) := by
        rw [Int.fdiv_eq_ediv_of_nonneg _ (by omega)]; omega
      have e3 : IntKind.i64.wrap (((i + j) / 2 : Nat) : Int) = (((i + j) / 2 : Nat) : Int) := IntWalk.i64_in _ (by omega)
      have hq := hp ((i + j) / 2) (by omega)
      generalize hh : (i + j) / 2 = q at e2 e2' e3 hq
      cases hb : p q with
      | true =>
        rw [hb] at hq
        simp [h, e1, e2', e3, hq]
        exact ⟨i, q, ⟨by omega, by omega, h3, fun x h5 h6 => ht q x h5 h6 hb⟩, by omega, rfl⟩
      | false =>
        rw [hb] at hq
        simp [h, e1, e2', e3, hq, IntWalk.i64_in ((q : Int) + 1) (by omega)]
        refine ⟨q + 1, j, ⟨by omega, by omega, fun x hx => ?_, h4⟩, by omega, rfl⟩
        cases hx2 : p x with
        | false => rfl
        | true => have := ht x q (by omega) (by omega) hx2; rw [hb] at this; cases this
    · have : i = j := by omega
      subst this
      simp
      have : i = r := Cut.unique ⟨h2, h3, h4⟩ hr
      rw [this]; exact hk
  · refine ⟨by omega, Nat.le_refl _, fun q hq => by omega, fun q h1 h2 => by omega⟩
  · simp

theorem cut_exists {p : Nat → Bool} : ∀ {n : Nat}, Turns p n → ∃ r, Cut p n r
  | 0, _ => ⟨0, Nat.le_refl _, fun i h => by omega, fun i h1 h2 => by omega⟩
  | n + 1, h => by
    obtain ⟨r, h1, h2, h3⟩ := cut_exists (p := p) (n := n) (fun i j hij hj hi => h i j hij (by omega) hi)
    cases hp : p n with
    | false =>
      have : r = n := by
        rcases Nat.lt_or_ge r n with hl | hl
        · have := h r n (by omega) (by omega) (h3 r (Nat.le_refl _) hl); rw [hp] at this; cases this
        · omega
      subst this
      refine ⟨r + 1, Nat.le_refl _, fun i hi => ?_, fun i h4 h5 => by omega⟩
      by_cases e : i = r
      · subst e; exact hp
      · exact h2 i (by omega)
    | true =>
      refine ⟨r, by omega, h2, fun i h4 h5 => ?_⟩
      by_cases e : i = n
      · subst e; exact hp
      · exact h3 i h4 (by omega)

/-- How many say no. -/
def cutN (p : Nat → Bool) : Nat → Nat
  | 0 => 0
  | n + 1 => if p n then cutN p n else cutN p n + 1

theorem cutN_ok {p : Nat → Bool} : ∀ {n : Nat}, Turns p n → Cut p n (cutN p n)
  | 0, _ => ⟨Nat.le_refl _, fun i h => by simp [cutN] at h, fun i h1 h2 => by omega⟩
  | n + 1, h => by
    obtain ⟨h1, h2, h3⟩ := cutN_ok (p := p) (n := n) (fun i j hij hj hi => h i j hij (by omega) hi)
    cases hp : p n with
    | false =>
      have : cutN p n = n := by
        rcases Nat.lt_or_ge (cutN p n) n with hl | hl
        · have := h (cutN p n) n (by omega) (by omega) (h3 _ (Nat.le_refl _) hl); rw [hp] at this; cases this
        · omega
      simp only [cutN, hp, this]
      refine ⟨Nat.le_refl _, fun i hi => ?_, fun i h4 h5 => by simp at h4; omega⟩
      by_cases e : i = n
      · subst e; exact hp
      · exact h2 i (by simp at hi; omega)
    | true =>
      simp only [cutN, hp, if_true]
      refine ⟨by omega, h2, fun i h4 h5 => ?_⟩
      by_cases e : i = n
      · subst e; exact hp
      · exact h3 i h4 (by omega)

/-- Of a row that never falls: how many are no greater. -/
theorem cut_sorted {zs : List Int} (h : zs.Pairwise (· ≤ ·)) (x : Int) : Turns (fun i => decide (x < nth zs i)) zs.length ∧ Cut (fun i => decide (x < nth zs i)) zs.length (zs.countP fun z => decide (z ≤ x)) := by
  induction zs with
  | nil => exact ⟨fun i j _ hj => by simp at hj, by simp, fun i hi => by simp at hi, fun i h1 h2 => by simp at h2⟩
  | cons z zs ih =>
    rw [List.pairwise_cons] at h
    obtain ⟨h1, h2, h3, h4⟩ := ih h.2
    have hz : ∀ j, j < zs.length → z ≤ nth zs j := fun j hj => by
      exact h.1 _ (nth_mem hj)
    refine ⟨?_, ?_⟩
    · intro i j hij hj hi
      cases j with
      | zero => have : i = 0 := by omega
                subst this; exact hi
      | succ j =>
        cases i with
        | zero =>
          simp [nth_zero] at hi
          simp [nth_succ]
          have := hz j (by simpa using hj); omega
        | succ i =>
          simp only [nth_succ] at hi ⊢
          exact h1 i j (by omega) (by simpa using hj) hi
    · rw [List.countP_cons]
      by_cases hx : z ≤ x
      · simp only [hx, decide_true, if_true]
        refine ⟨by simpa using h2, fun i hi => ?_, fun i hi hi2 => ?_⟩
        · cases i with
          | zero => simp [nth_zero]; omega
          | succ i => simp only [nth_succ]; exact h3 i (by omega)
        · cases i with
          | zero => omega
          | succ i => simp only [nth_succ]; exact h4 i (by omega) (by simpa using hi2)
      · have h0 : zs.countP (fun z => decide (z ≤ x)) = 0 := by
          rw [List.countP_eq_zero]
          intro y hy
          have := h.1 y hy
          simp; omega
        simp only [hx, decide_false, h0]
        refine ⟨by simp, fun i hi => by simp at hi, fun i hi hi2 => ?_⟩
        cases i with
        | zero => simp [nth_zero]; omega
        | succ i => simp [nth_succ]; have := hz i (by simpa using hi2); omega

open Classical in
/-- What sort.Search computes, of a function whose answers are told by l, and turn from no to yes once. -/
noncomputable def searchF (l : List (FuncId × AFn)) : AFn
  | [.int .i64 n, .fn g [] caps], m =>
    if h : ∃ (r : Nat) (p : Nat → Bool), 0 ≤ n ∧ n ≤ 4611686018427387904 ∧ (∀ i : Nat, i < n.toNat → look l g (.int .i64 i :: caps) m = some (.bool (p i), m)) ∧ Turns p n.toNat ∧ Cut p n.toNat r then some (.int .i64 h.choose, m) else none
  | _, _ => none

theorem search_spec {P : Program} {l : List (FuncId × AFn)} (hl : CtxOk P (Ctx.of l)) (hm : P.follows .mixedOrders = true) {f : FuncId} {n : Nat} (hc : Code1 P f n bSearch) (hn : 2 ≤ n) : ASpec P f (searchF l) := by
  intro args m r m' h
  unfold searchF at h
  split at h
  · split at h
    · rename_i hh
      cases h
      obtain ⟨p, h1, h2, h3, h4, h5⟩ := hh.choose_spec
      refine run_calls hl hm hc (by simpa using hn) ?_
      obtain ⟨k, rfl⟩ := Int.eq_ofNat_of_zero_le h1
      exact run_search p (by omega) (by simpa using h3) (by simpa using h4) (by simpa using h5) ⟨rfl, rfl⟩
    · cases h
  · cases h

theorem searchF_eq {l : List (FuncId × AFn)} {n : Nat} {g : FuncId} {caps : List V} {m : Mem} (p : Nat → Bool) (hn : n ≤ 4611686018427387904) (hp : ∀ i, i < n → look l g (.int .i64 i :: caps) m = some (.bool (p i), m))
    (ht : Turns p n) {r : Nat} (hr : Cut p n r) : searchF l [.int .i64 n, .fn g [] caps] m = some (.int .i64 r, m) := by
  have hh : ∃ (r : Nat) (p : Nat → Bool), 0 ≤ (n : Int) ∧ (n : Int) ≤ 4611686018427387904 ∧ (∀ i : Nat, i < (n : Int).toNat → look l g (.int .i64 i :: caps) m = some (.bool (p i), m)) ∧ Turns p (n : Int).toNat ∧ Cut p (n : Int).toNat r :=
    ⟨r, p, by omega, by omega, by simpa using hp, by simpa using ht, by simpa using hr⟩
  have e : searchF l [.int .i64 n, .fn g [] caps] m = some (.int .i64 hh.choose, m) := by
    simp only [searchF]; rw [dif_pos hh]
  rw [e]
  obtain ⟨p', _, _, h3, _, h5⟩ := hh.choose_spec
  simp only [Int.toNat_natCast] at h3 h5
  have : ∀ i, i < n → p' i = p i := by
    intro i hi
    have h1 := h3 i hi
    rw [hp i hi] at h1
    simp only [Option.some.injEq, Prod.mk.injEq, V.bool.injEq, and_true] at h1
    exact h1.symm
  have hc : Cut p n hh.choose := ⟨h5.1, fun i hi => by rw [← this i (by have := h5.1; omega)]; exact h5.2.1 i hi, fun i h1 h2 => by rw [← this i h2]; exact h5.2.2 i h1 h2⟩
  rw [Cut.unique hc hr]

end Go.AM
