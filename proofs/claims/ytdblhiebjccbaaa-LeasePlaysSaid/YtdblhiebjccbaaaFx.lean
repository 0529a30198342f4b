/-
  WHAT EACH FUNCTION of this seat computes, in plain words: a desk, its things, who holds them.
-/
import Derived.Test.YtdblhiebjccbaaaCx
import Derived.Test.YtdblhiebjccbaaaAm24
namespace Go.Proofs.Ytdblhiebjccbaaa
open Go Go.AM
set_option linter.unusedVariables false
set_option linter.unusedSimpArgs false
set_option maxRecDepth 8000
set_option maxHeartbeats 4000000

/-- Into bounds. -/
def cl (t : Int) : Int := min (max t (-4611686018427387903)) 4611686018427387903
theorem cl_rng (t : Int) : -4611686018427387903 ≤ cl t ∧ cl t ≤ 4611686018427387903 := by unfold cl; omega
theorem cl_id {t : Int} (h1 : -4611686018427387903 ≤ t) (h2 : t ≤ 4611686018427387903) : cl t = t := by unfold cl; omega
def addT (a b : Int) : Int := if 4611686018427387903 ≤ a then 4611686018427387903 else cl (cl a + cl b)
def subT (a b : Int) : Int := if 4611686018427387903 ≤ a then 4611686018427387903 else cl (cl a - cl b)
def F19 : AFn
  | [.int .i64 t], m => some (.int .i64 (cl t), m)
  | _, _ => none
theorem s19 : ASpec Try.prog 19 F19 := by
  intro args m r m' h
  unfold F19 at h; split at h <;> cases h
  refine run_on (ctx_nil _) hm c19 (by simp) fun hf => ?_
  simp [b19, cl]
def F20 : AFn
  | [.int .i64 t], m => some (.bool (decide (4611686018427387903 ≤ t)), m)
  | _, _ => none
theorem s20 : ASpec Try.prog 20 F20 := by
  intro args m r m' h
  unfold F20 at h; split at h <;> cases h
  refine run_on (ctx_nil _) hm c20 (by simp) fun hf => ?_
  simp [b20]
abbrev L0 : List (FuncId × AFn) := [(19, F19), (20, F20)]
theorem x0 : CtxOk Try.prog (Ctx.of L0) := ctx_cons (ctx_cons (ctx_nil _) s20) s19
def F18 : AFn
  | [.int .i64 a, .int .i64 b], m => some (.int .i64 (addT a b), m)
  | _, _ => none
theorem s18 : ASpec Try.prog 18 F18 := by
  intro args m r m' h
  unfold F18 at h; split at h <;> cases h
  rename_i a b
  have h1 := cl_rng a
  have h2 := cl_rng b
  refine run_on x0 hm c18 (by simp) fun hf => ?_
  by_cases ha : 4611686018427387903 ≤ a
  · simp (disch := omega) [b18, F19, F20, addT, ha]
  · simp (disch := omega) [b18, F19, F20, addT, ha]
def F17 : AFn
  | [.int .i64 a, .int .i64 b], m => some (.int .i64 (subT a b), m)
  | _, _ => none
theorem s17 : ASpec Try.prog 17 F17 := by
  intro args m r m' h
  unfold F17 at h; split at h <;> cases h
  rename_i a b
  have h1 := cl_rng a
  have h2 := cl_rng b
  refine run_on x0 hm c17 (by simp) fun hf => ?_
  by_cases ha : 4611686018427387903 ≤ a
  · simp (disch := omega) [b17, F19, F20, subT, ha]
  · simp (disch := omega) [b17, F19, F20, subT, ha]
def F16 : AFn
  | [.ptr none], m => some (.int .i64 1, m)
  | [.ptr (some _)], m => some (.int .i64 2, m)
  | _, _ => none
theorem s16 : ASpec Try.prog 16 F16 := by
  intro args m r m' h
  unfold F16 at h; split at h <;> cases h
  · refine run_on (ctx_nil _) hm c16 (by simp) fun hf => ?_
    simp [b16]
  · refine run_on (ctx_nil _) hm c16 (by simp) fun hf => ?_
    simp [b16]
abbrev L1 : List (FuncId × AFn) := [(16, F16), (17, F17), (18, F18), (19, F19)]
theorem x1 : CtxOk Try.prog (Ctx.of L1) := ctx_cons (ctx_cons (ctx_cons (ctx_cons (ctx_nil _) s19) s18) s17) s16

/-- Who holds a thing. -/
structure Hd where
  who : Int
  tok : Int
  en : Int
def Hd.cs (x : Hd) : List V := [.int .i64 x.who, .int .i64 x.tok, .int .i64 x.en]
def Hd.v (x : Hd) : V := .agg x.cs
/-- A desk. -/
structure Dk where
  grace : Int
  now : Int
  h : Nat → Hd
  g : Nat → Bool
structure Cs (cs : List V) (D : Dk) : Prop where
  len : cs.length = 1026
  c0 : cs[0]? = some (.int .i64 D.grace)
  c1 : cs[1]? = some (.int .i64 D.now)
  cw : ∀ i, i < 256 → cs[2 + i * 3]? = some (.int .i64 (D.h i).who)
  ct : ∀ i, i < 256 → cs[2 + i * 3 + 1]? = some (.int .i64 (D.h i).tok)
  ce : ∀ i, i < 256 → cs[2 + i * 3 + 2]? = some (.int .i64 (D.h i).en)
  cg : ∀ i, i < 256 → cs[770 + i]? = some (.bool (D.g i))
structure Desk (m : Mem) (r : Nat) (D : Dk) : Prop where
  lt : r < m.next
  obj : ∃ cs, m.obj r = some (.row 1026 [cs] true) ∧ Cs cs D

theorem Desk.keep {m m' : Mem} {r : Nat} {D : Dk} (h : Desk m r D) (hn : m.next ≤ m'.next) (ho : m'.obj r = m.obj r) : Desk m' r D := ⟨by have := h.lt; omega, by rw [ho]; exact h.obj⟩
theorem Desk.grow {m m' : Mem} {r : Nat} {D : Dk} (h : Desk m r D) (hg : m.Grew m') : Desk m' r D := h.keep hg.next (hg.obj r h.lt)

theorem spl {cs : List V} {i : Nat} (h : i < cs.length) (x : V) : cs.take i ++ x :: cs.drop (i + 1) = cs.set i x := by rw [List.set_eq_take_append_cons_drop, if_pos h]

theorem Cs.now {cs : List V} {D : Dk} (h : Cs cs D) (x : Int) : Cs (cs.set 1 (.int .i64 x)) {D with now := x} := by
  refine ⟨by simp [h.len], ?_, ?_, fun i hi => ?_, fun i hi => ?_, fun i hi => ?_, fun i hi => ?_⟩
  · rw [List.getElem?_set_ne (by omega)]; exact h.c0
  · rw [List.getElem?_set_self (by rw [h.len]; omega)]
  · rw [List.getElem?_set_ne (by omega)]; exact h.cw i hi
  · rw [List.getElem?_set_ne (by omega)]; exact h.ct i hi
  · rw [List.getElem?_set_ne (by omega)]; exact h.ce i hi
  · rw [List.getElem?_set_ne (by omega)]; exact h.cg i hi
theorem Cs.give {cs : List V} {D : Dk} (h : Cs cs D) {i : Nat} (hi : i < 256) (x : Bool) : Cs (cs.set (770 + i) (.bool x)) {D with g := fun j => if j = i then x else D.g j} := by
  refine ⟨by simp [h.len], ?_, ?_, fun j hj => ?_, fun j hj => ?_, fun j hj => ?_, fun j hj => ?_⟩
  · rw [List.getElem?_set_ne (by omega)]; exact h.c0
  · rw [List.getElem?_set_ne (by omega)]; exact h.c1
  · rw [List.getElem?_set_ne (by omega)]; exact h.cw j hj
  · rw [List.getElem?_set_ne (by omega)]; exact h.ct j hj
  · rw [List.getElem?_set_ne (by omega)]; exact h.ce j hj
  · by_cases e : j = i
    · subst e
      rw [List.getElem?_set_self (by rw [h.len]; omega)]; simp
    · rw [List.getElem?_set_ne (by omega)]; simp only [if_neg e]; exact h.cg j hj
theorem Cs.en {cs : List V} {D : Dk} (h : Cs cs D) {i : Nat} (hi : i < 256) (x : Int) : Cs (cs.set (2 + i * 3 + 2) (.int .i64 x)) {D with h := fun j => if j = i then {D.h i with en := x} else D.h j} := by
  refine ⟨by simp [h.len], ?_, ?_, fun j hj => ?_, fun j hj => ?_, fun j hj => ?_, fun j hj => ?_⟩
  · rw [List.getElem?_set_ne (by omega)]; exact h.c0
  · rw [List.getElem?_set_ne (by omega)]; exact h.c1
  · rw [List.getElem?_set_ne (by omega), h.cw j hj]; by_cases e : j = i <;> simp [e]
  · rw [List.getElem?_set_ne (by omega), h.ct j hj]; by_cases e : j = i <;> simp [e]
  · by_cases e : j = i
    · subst e
      rw [List.getElem?_set_self (by rw [h.len]; omega)]; simp
    · rw [List.getElem?_set_ne (by omega)]; simp only [if_neg e]; exact h.ce j hj
  · rw [List.getElem?_set_ne (by omega)]; exact h.cg j hj
theorem Cs.hold {cs : List V} {D : Dk} (h : Cs cs D) {i : Nat} (hi : i < 256) (x : Hd) : Cs (cs.take (2 + i * 3) ++ x.cs ++ cs.drop (2 + i * 3 + 3)) {D with h := fun j => if j = i then x else D.h j} := by
  have e := fun j => patch_get cs x.cs (2 + i * 3) j (by rw [h.len]; simp [Hd.cs]; omega)
  have el : x.cs.length = 3 := rfl
  rw [el] at e
  refine ⟨by have := patch_length cs x.cs (2 + i * 3) (by rw [h.len, el]; omega); rw [el] at this; rw [this, h.len], ?_, ?_, fun j hj => ?_, fun j hj => ?_, fun j hj => ?_, fun j hj => ?_⟩
  · rw [e, if_pos (by omega)]; exact h.c0
  · rw [e, if_pos (by omega)]; exact h.c1
  · rw [e]
    by_cases q : j = i
    · subst q
      rw [if_neg (by omega), if_pos (by omega), Nat.sub_self]; simp [Hd.cs]
    · simp only [if_neg q]
      by_cases q2 : 2 + j * 3 < 2 + i * 3
      · rw [if_pos q2]; exact h.cw j hj
      · rw [if_neg q2, if_neg (by omega)]; exact h.cw j hj
  · rw [e]
    by_cases q : j = i
    · subst q
      rw [if_neg (by omega), if_pos (by omega), show 2 + j * 3 + 1 - (2 + j * 3) = 1 by omega]; simp [Hd.cs]
    · simp only [if_neg q]
      by_cases q2 : 2 + j * 3 + 1 < 2 + i * 3
      · rw [if_pos q2]; exact h.ct j hj
      · rw [if_neg q2, if_neg (by omega)]; exact h.ct j hj
  · rw [e]
    by_cases q : j = i
    · subst q
      rw [if_neg (by omega), if_pos (by omega), show 2 + j * 3 + 2 - (2 + j * 3) = 2 by omega]; simp [Hd.cs]
    · simp only [if_neg q]
      by_cases q2 : 2 + j * 3 + 2 < 2 + i * 3
      · rw [if_pos q2]; exact h.ce j hj
      · rw [if_neg q2, if_neg (by omega)]; exact h.ce j hj
  · rw [e, if_neg (by omega), if_neg (by omega)]; exact h.cg j hj

/-! ### New -/

def nRow (g : Int) : List V := .int .i64 g :: .int .i64 (-4611686018427387903) :: zRow.drop 2
theorem z_drop : zRow.drop 2 = List.replicate 768 (.int .i64 0) ++ List.replicate 256 (.bool false) := by rfl
theorem z_len : zRow.length = 1026 := by decide
theorem z_ok : zRow.all V.okc = true := by decide
theorem z_ok2 : (zRow.drop 2).all V.okc = true := by decide
theorem nRow_len (g : Int) : (nRow g).length = 1026 := by simp [nRow, z_len]
def Dk.new (g : Int) : Dk := ⟨g, -4611686018427387903, fun _ => ⟨0, 0, 0⟩, fun _ => true⟩
theorem nRow_cs (g : Int) : Cs (nRow g) ⟨g, -4611686018427387903, fun _ => ⟨0, 0, 0⟩, fun _ => false⟩ := by
  have h2 : ∀ j, 2 ≤ j → j < 770 → (nRow g)[j]? = some (.int .i64 0) := by
    intro j a b
    obtain ⟨k, rfl⟩ : ∃ k, j = k + 2 := ⟨j - 2, by omega⟩
    show (zRow.drop 2)[k]? = _
    rw [z_drop]
    rw [List.getElem?_append_left (by simp; omega), List.getElem?_replicate, if_pos (by omega)]
  refine ⟨nRow_len g, rfl, rfl, fun j hj => h2 _ (by omega) (by omega), fun j hj => h2 _ (by omega) (by omega), fun j hj => h2 _ (by omega) (by omega), fun j hj => ?_⟩
  rw [show 770 + j = (768 + j) + 2 by omega]
  show (zRow.drop 2)[768 + j]? = _
  rw [z_drop]
  rw [List.getElem?_append_right (by simp), List.getElem?_replicate, if_pos (by simp; omega)]

theorem new_none {m : Mem} {g : Int} (hg : g < 0 ∨ 1099511627776 < g) {K : KV} (h : K (.ptr none) m) : ACalls Try.prog 6 [.int .i64 g] m K := by
  refine run_on (ctx_nil _) hm c6 (by simp) fun hf => ?_
  by_cases h1 : g < 0
  · simp (disch := omega) [b6]
    exact h
  · simp (disch := omega) [b6]
    exact h
theorem new_calls {m : Mem} {g : Int} (hg : 0 ≤ g ∧ g ≤ 1099511627776) {K : KV} (h : ∀ r m', Desk m' r (Dk.new g) → m.next ≤ r → m.Grew m' → K (.ptr (some (r, 0, 0))) m') : ACalls Try.prog 6 [.int .i64 g] m K := by
  refine run_on (ctx_nil _) hm c6 (by simp) fun hf => ?_
  simp (disch := omega) [b6, z_len, z_ok, z_ok2]
  refine exec_loopU (σ := Nat × Mem) (fun (i, _) => [(14, .int .i64 i)]) (fun (_, M) => M) (fun (i, M) => i ≤ 256 ∧ m.Grew M ∧ Desk M m.next ⟨g, -4611686018427387903, fun _ => ⟨0, 0, 0⟩, fun j => decide (j < i)⟩) (fun (i, _) => 256 - i) (0, m.new (.row 1026 [nRow g] true)) rfl
    (by dsimp only; exact ⟨by omega, Mem.Grew.new m _, by simp, nRow g, by simp, by simpa using nRow_cs g⟩) (by simp) ?_
  intro (i, M) ⟨a1, a2, a3⟩

  by_cases hi : i < 256
  · obtain ⟨cs, o1, o2⟩ := a3.obj
    have hl := o2.len
    simp (disch := omega) [-getElem?_pos, o1, hl, spl]
    refine again_mk (i + 1, M.upd m.next (some (.row 1026 [cs.set (770 + i) (.bool true)] true))) ?_ (by dsimp only; omega) (by simp) rfl
    dsimp only
    refine ⟨by omega, a2.upd (Nat.le_refl _) _, by simpa using a3.lt, cs.set (770 + i) (.bool true), by simp, ?_⟩
    have := o2.give hi true
    refine cast (congrArg (Cs _) ?_) this
    simp only [Dk.mk.injEq, true_and]
    funext j
    by_cases e : j = i
    · subst e; simp
    · simp only [if_neg e]
      by_cases q : j < i
      · rw [decide_eq_true q, decide_eq_true (by omega)]
      · rw [decide_eq_false q, decide_eq_false (by omega)]
  · have : i = 256 := by omega
    subst this
    simp (disch := omega)
    refine h _ _ ⟨a3.lt, ?_⟩ (Nat.le_refl _) a2
    obtain ⟨cs, o1, o2⟩ := a3.obj
    refine ⟨cs, o1, o2.len, o2.c0, o2.c1, o2.cw, o2.ct, o2.ce, fun j hj => ?_⟩
    rw [o2.cg j hj]; simp [Dk.new, hj]

/-! ### what is done at a desk -/

def Dk.tick (D : Dk) (now : Int) : Dk := {D with now := max D.now (cl now)}
def Dk.held (D : Dk) (i : Nat) : Bool := !D.g i && decide (D.now < (D.h i).en)

theorem at_none {m : Mem} {r : Nat} {now th : Int} (ht : th < 0 ∨ 256 ≤ th) {K : KV} (h : K (.ptr none) m) : ACalls Try.prog 14 [.ptr (some (r, 0, 0)), .int .i64 now, .int .i64 th] m K := by
  refine run_on x1 hm c14 (by simp) fun hf => ?_
  by_cases h1 : th < 0
  · simp (disch := omega) [b14]
    exact h
  · simp (disch := omega) [b14]
    exact h
theorem at_nil {m : Mem} {now th : Int} {K : KV} (h : K (.ptr none) m) : ACalls Try.prog 14 [.ptr none, .int .i64 now, .int .i64 th] m K := by
  refine run_on x1 hm c14 (by simp) fun hf => ?_
  simp (disch := omega) [b14]
  exact h
theorem at_calls {m : Mem} {r : Nat} {D : Dk} (hD : Desk m r D) {now : Int} {i : Nat} (hi : i < 256) {K : KV}
    (h : ∀ m', Desk m' r (D.tick now) → Stp m m' [r] [r] → K (.ptr (some (r, 0, 2 + i * 3))) m') : ACalls Try.prog 14 [.ptr (some (r, 0, 0)), .int .i64 now, .int .i64 i] m K := by
  refine run_on x1 hm c14 (by simp) fun hf => ?_
  obtain ⟨cs, o1, o2⟩ := hD.obj
  have hl := o2.len
  have e1 := o2.c1
  simp (disch := omega) [-getElem?_pos, b14]
  refine drawT_one ⟨_, _, by simp (disch := omega) [-getElem?_pos, o1, e1, hl, F19, spl]; exact ⟨rfl, rfl⟩, ?_⟩
  simp (disch := omega) [-getElem?_pos]
  exact h _ ⟨by simpa using hD.lt, _, by rw [upd_obj, if_pos rfl], o2.now _⟩ (Stp.upd m (by simp) _)
theorem held_calls {m : Mem} {r : Nat} {D : Dk} (hD : Desk m r D) {i : Nat} (hi : i < 256) {K : KV} (h : K (.bool (D.held i)) m) : ACalls Try.prog 15 [.ptr (some (r, 0, 0)), .int .i64 i] m K := by
  refine run_on (ctx_nil _) hm c15 (by simp) fun hf => ?_
  obtain ⟨cs, o1, o2⟩ := hD.obj
  have hl := o2.len
  have e1 := o2.c1
  have e2 := o2.cg i hi
  have e3 := o2.ce i hi
  unfold Dk.held at h
  cases hg : D.g i with
  | true =>
    rw [hg] at e2 h
    simp (disch := omega) [-getElem?_pos, b15, o1, e2]
    exact h
  | false =>
    rw [hg] at e2 h
    simp (disch := omega) [-getElem?_pos, b15, o1, e1, e2, e3, ← Nat.add_assoc]
    simpa using h
end Go.Proofs.Ytdblhiebjccbaaa
