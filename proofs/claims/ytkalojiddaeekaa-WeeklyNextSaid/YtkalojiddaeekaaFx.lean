/-
  ALARMS OF THE WEEK, in plain words: a set of them, where one stands; coming, going, switching.
-/
import Derived.Test.YtkalojiddaeekaaCx
namespace Go.Proofs.Ytkalojiddaeekaa
open Go Go.AM
set_option linter.unusedVariables false
set_option linter.unusedSimpArgs false
set_option maxRecDepth 60000
set_option maxHeartbeats 4000000

/-- An alarm: its ID, its minute, its days, is it off? -/
abbrev Al := Int × Int × Int × Bool
def al (a : Al) : List V := [.int .i64 a.1, .int .i64 a.2.1, .int .i64 a.2.2.1, .bool a.2.2.2]
def rtA (a : Al) : Prop := 0 ≤ a.2.1 ∧ a.2.1 < 1440 ∧ 0 < a.2.2.1 ∧ a.2.2.1 < 128
instance (a : Al) : Decidable (rtA a) := by unfold rtA; infer_instance
theorem al_get {L : List Al} {i : Nat} {a : Al} (h : L[i]? = some a) : (L.map al)[i]? = some (al a) := by simp [h]
theorem al_len (L : List Al) : ∀ x ∈ L.map al, x.length = 4 := fun x hx => by obtain ⟨a, _, rfl⟩ := List.mem_map.1 hx; rfl

def cmpI (a b : Int) : Int := if a < b then -1 else if b < a then 1 else 0
def F30 : AFn
  | [.int .i64 _], m => some (.bool false, m)
  | _, _ => none
theorem s30 : ASpec Try.prog 30 F30 := by
  intro args m r m' h
  unfold F30 at h; split at h <;> cases h
  refine run_on (ctx_nil _) hm c30 (by simp) fun hf => ?_
  simp [b30]
abbrev L2 : List (FuncId × AFn) := [(30, F30)]
theorem x2 : CtxOk Try.prog (Ctx.of L2) := ctx_cons (ctx_nil _) s30
def F27 : AFn
  | [.int .i64 a, .int .i64 b], m => some (.int .i64 (cmpI a b), m)
  | _, _ => none
theorem s27 : ASpec Try.prog 27 F27 := by
  intro args m r m' h
  unfold F27 at h; split at h <;> cases h
  rename_i a b
  refine run_on x2 hm c27 (by simp) fun hf => ?_
  unfold cmpI
  by_cases h1 : a < b
  · rw [if_pos h1]; simp (disch := omega) [b27, F30]
  · by_cases h2 : b < a
    · rw [if_neg h1, if_pos h2]; simp (disch := omega) [b27, F30]
    · rw [if_neg h1, if_neg h2]; simp (disch := omega) [b27, F30]
abbrev L3 : List (FuncId × AFn) := [(27, F27)]
theorem x3 : CtxOk Try.prog (Ctx.of L3) := ctx_cons (ctx_nil _) s27
theorem cmp26 {a : Al} {q : Int} {m : Mem} {K : KV} (h : ∀ m', m.Grew m' → K (.int .i64 (cmpI a.1 q)) m') : ACalls Try.prog 26 [.agg (al a), .int .i64 q] m K := by
  refine run_on x3 hm c26 (by simp) fun hf => ?_
  have g := Mem.Grew.new m (.row 4 [al a] true)
  simp only [al] at g ⊢
  simp (disch := omega) [-getElem?_pos, b26, F27]
  exact h _ g

theorem right22 {m : Mem} {a : Al} {K : KV} (h : ∀ m', m.Grew m' → K (.bool (decide (rtA a))) m') : ACalls Try.prog 22 [.agg (al a)] m K := by
  refine run_on (ctx_nil _) hm c22 (by simp) fun hf => ?_
  have g := Mem.Grew.new m (.row 4 [al a] true)
  simp only [al] at g ⊢
  by_cases h1 : 0 ≤ a.2.1
  · by_cases h2 : a.2.1 < 1440
    · by_cases h3 : 0 < a.2.2.1
      · by_cases h4 : a.2.2.1 < 128
        · rw [decide_eq_true (show rtA a from ⟨h1, h2, h3, h4⟩)] at h
          simp (disch := omega) [-getElem?_pos, b22]
          exact h _ g
        · rw [decide_eq_false (show ¬ rtA a from fun h => h4 h.2.2.2)] at h
          simp (disch := omega) [-getElem?_pos, b22]
          exact h _ g
      · rw [decide_eq_false (show ¬ rtA a from fun h => h3 h.2.2.1)] at h
        simp (disch := omega) [-getElem?_pos, b22]
        exact h _ g
    · rw [decide_eq_false (show ¬ rtA a from fun h => h2 h.2.1)] at h
      simp (disch := omega) [-getElem?_pos, b22]
      exact h _ g
  · rw [decide_eq_false (show ¬ rtA a from fun h => h1 h.1)] at h
    simp (disch := omega) [-getElem?_pos, b22]
    exact h _ g

/-- A set of alarms lies here. -/
structure Wk (m : Mem) (D : List Nat) (s : Nat) (L : List Al) : Prop where
  up : L.Pairwise fun a b => a.1 < b.1
  rt : ∀ a ∈ L, rtA a
  len : L.length ≤ 64
  ex : ∃ v : V, D = s :: v.fp ∧ s < m.next ∧ m.obj s = some (.row 1 [[v]] true) ∧ Ows m 4 v (L.map al) ∧ s ∉ v.fp
theorem Wk.lt {m : Mem} {D : List Nat} {s : Nat} {L : List Al} (h : Wk m D s L) : ∀ p ∈ D, p < m.next := by
  obtain ⟨v, rfl, h1, h2, h3, h4⟩ := h.ex
  intro p hp
  rcases List.mem_cons.1 hp with rfl | hp
  · exact h1
  · exact h3.lt p hp
theorem Wk.keep {m m' : Mem} {D : List Nat} {s : Nat} {L : List Al} (h : Wk m D s L) (hn : m.next ≤ m'.next) (ho : ∀ p ∈ D, m'.obj p = m.obj p) : Wk m' D s L := by
  obtain ⟨v, rfl, h1, h2, h3, h4⟩ := h.ex
  exact ⟨h.up, h.rt, h.len, v, rfl, by omega, by rw [ho s (by simp)]; exact h2, h3.keep hn (fun p hp => ho p (by simp [hp])), h4⟩
theorem Wk.grow {m m' : Mem} {D : List Nat} {s : Nat} {L : List Al} (h : Wk m D s L) (hg : m.Grew m') : Wk m' D s L := h.keep hg.next fun p hp => hg.obj p (h.lt p hp)

theorem new_calls {m : Mem} {K : KV} (h : ∀ s m', Wk m' [s] s [] → m.next ≤ s → m.Grew m' → K (.ptr (some (s, 0, 0))) m') : ACalls Try.prog 14 [] m K := by
  refine run_on (ctx_nil _) hm c14 (by simp) fun hf => ?_
  simp (disch := omega) [b14]
  exact h m.next _ ⟨List.Pairwise.nil, by simp, by simp, .sl none 0 (some 0), rfl, by simp, by simp, Ows.nil _ _, by simp [V.fp]⟩ (Nat.le_refl _) (Mem.Grew.new _ _)

/-- Where an ID stands, or would. -/
structure Plc (L : List Al) (q : Int) (k : Nat) (b : Bool) : Prop where
  le : k ≤ L.length
  lo : ∀ a ∈ L.take k, a.1 < q
  hi : ∀ a ∈ L.drop k, q ≤ a.1
  there : b = true ↔ ∃ a, L[k]? = some a ∧ a.1 = q
def cfA (q : Int) : List V → Int
  | .int .i64 a :: _ => cmpI a q
  | _ => 0
theorem cmpI_rng (a b : Int) : -1 ≤ cmpI a b ∧ cmpI a b ≤ 1 := by unfold cmpI; split; omega; split <;> omega
theorem cmpI_neg {a b : Int} : cmpI a b < 0 ↔ a < b := by unfold cmpI; split; omega; split <;> omega
theorem cmpI_zero {a b : Int} : cmpI a b = 0 ↔ a = b := by unfold cmpI; split; omega; split <;> omega
theorem cfA_al (q : Int) (a : Al) : cfA q (al a) = cmpI a.1 q := rfl
theorem cfA_rng (q : Int) (x : List V) : -9223372036854775808 ≤ cfA q x ∧ cfA q x ≤ 9223372036854775807 := by
  unfold cfA
  split
  · rename_i a _; have := cmpI_rng a q; omega
  · omega

theorem place_nil {m : Mem} {q : Int} {K : KV} (h : K (.tup [.int .i64 0, .bool false]) m) : ACalls Try.prog 21 [.ptr none, .int .i64 q] m K := by
  refine run_on (ctx_nil _) hm c21 (by simp) fun hf => ?_
  simp (disch := omega) [b21]
  exact h
theorem place_calls {m : Mem} {D : List Nat} {s : Nat} {L : List Al} (hW : Wk m D s L) {q : Int} {K : KV} (h : ∀ k b m', Plc L q k b → m.Grew m' → K (.tup [.int .i64 (k : Nat), .bool b]) m') : ACalls Try.prog 21 [.ptr (some (s, 0, 0)), .int .i64 q] m K := by
  obtain ⟨v, rfl, h1, h2, h3, h4⟩ := hW.ex
  have hlen := hW.len
  refine run_on (ctx_nil _) hm c21 (by simp) fun hf => ?_
  simp (disch := omega) [-getElem?_pos, b21, h2]
  refine binSearch_calls hm (sz := 4) c25 (by omega) (cfA q) h3.sl (by rw [List.length_map]; omega) (al_len L) (cfA_rng q) (fun M K x hx hK => ?_) ?_ (fun k m' b1 b2 b3 g => ?_)
  · obtain ⟨a, _, rfl⟩ := List.mem_map.1 hx
    exact cmp26 hK
  · rw [List.pairwise_map]
    exact hW.up.imp fun {a b} hab hb => by
      rw [cfA_al, cmpI_neg] at hb ⊢; omega
  · rw [List.length_map] at b1
    simp (disch := omega) [-getElem?_pos]
    have hp : Plc L q k (match (L.map al)[k]? with | some x => decide (cfA q x = 0) | none => false) := by
      refine ⟨b1, fun a ha => ?_, fun a ha => ?_, ?_⟩
      · have := b2 (al a) (by rw [← List.map_take]; exact List.mem_map.2 ⟨a, ha, rfl⟩)
        rwa [cfA_al, cmpI_neg] at this
      · have := b3 (al a) (by rw [← List.map_drop]; exact List.mem_map.2 ⟨a, ha, rfl⟩)
        rw [cfA_al] at this
        have e := cmpI_neg (a := a.1) (b := q)
        omega
      · rw [List.getElem?_map]
        cases hk : L[k]? with
        | none => simp
        | some a =>
          simp only [Option.map_some, decide_eq_true_eq, cfA_al, cmpI_zero]
          constructor
          · intro e; exact ⟨a, rfl, e⟩
          · rintro ⟨c, e1, e2⟩; injection e1 with e1; subst e1; exact e2
    rw [List.getElem?_map] at hp
    exact h k _ m' hp g
end Go.Proofs.Ytkalojiddaeekaa
