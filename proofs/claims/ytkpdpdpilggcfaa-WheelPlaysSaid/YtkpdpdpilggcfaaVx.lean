/-
  WHAT A WHEEL's functions do: New, Advance, Put, Drop, Len, Left, Now.
-/
import Derived.Test.YtkpdpdpilggcfaaZx
namespace Go.Proofs.Ytkpdpdpilggcfaa
open Go Go.AM
set_option linter.unusedVariables false
set_option linter.unusedSimpArgs false
set_option maxRecDepth 60000
set_option maxHeartbeats 4000000

def row0 (q : Nat) : List V := .int .i64 0 :: .int .i64 0 :: (List.replicate 64 (.sl none 0 (some 0)) ++ [.map (some q)])
theorem wc0 (q : Nat) : Wc (row0 q) 0 0 (fun _ => .sl none 0 (some 0)) q := by
  refine ⟨rfl, rfl, rfl, fun s hs => ?_, rfl⟩
  rw [Nat.add_comm 2 s]
  show (List.replicate 64 (V.sl none 0 (some 0)) ++ [.map (some q)])[s]? = _
  rw [List.getElem?_append_left (by simp; omega), List.getElem?_replicate, if_pos hs]
theorem new_calls {m : Mem} {K : KV} (h : ∀ m' D r, Whl 0 m' D r 0 [] → m.Grew m' → (∀ p ∈ D, m.next ≤ p) → K (.ptr (some (r, 0, 0))) m') : ACalls Try.prog 7 [] m K := by
  refine run_on (ctx_nil _) hm c7 (by simp) fun hf => ?_
  have g1 := (Mem.Grew.new m (.map [] ([], 0))).trans (Mem.Grew.new _ (.row 67 [row0 m.next] true))
  have hL : Lay ((m.new (.map [] ([], 0))).new (.row 67 [row0 m.next] true)) (m.next + 1) m.next 0 0 (fun _ => .sl none 0 (some 0)) (fun _ => []) [] ([], 0) := ⟨by simp, by simp; omega, by omega, ⟨row0 m.next, by simp, wc0 _⟩, by rw [newO _ (by simp)]; simp [mapI], fun s hs => Ows.nil _ _, fun s t _ _ _ p hp => by simp [V.fp] at hp, fun s hs => by simp [V.fp]⟩
  have hh := h _ (fpW (m.next + 1) m.next (fun _ => .sl none 0 (some 0))) (m.next + 1) ⟨List.Pairwise.nil, by simp, by simp, by simp, by omega, m.next, 0, _, _, _, _, rfl, hL, ⟨fun s hs x => by simp, fun s hs => by simp⟩, by simp, by omega, Due.nil.imp fun x => by simp, GOk.nil⟩ g1 (fun p hp => by
    rcases mem_fpW.1 hp with rfl | rfl | ⟨s, hs, hp⟩
    · omega
    · omega
    · simp [V.fp] at hp)
  simp (disch := omega) [-getElem?_pos, b7]
  exact hh
theorem len_calls {c : Nat} {m : Mem} {D : List Nat} {r n : Nat} {R : List It} (hW : Whl c m D r n R) {K : KV} (h : K (.int .i64 R.length) m) : ACalls Try.prog 10 [.ptr (some (r, 0, 0))] m K := by
  obtain ⟨q, sq, v, S, l, g, rfl, hL, hF, hsq, hsq2, hDu, hG⟩ := hW.ex
  refine run_on (ctx_nil _) hm c10 (by simp) fun hf => ?_
  obtain ⟨cs, o1, o2⟩ := hL.row
  have em := o2.cm
  have el := o2.len
  have hmp := hL.mp
  have hlen := hDu.len
  simp (disch := omega) [-getElem?_pos, b10, o1, em, el, hmp, mapI_length, hlen]
  exact h
theorem now_calls {c : Nat} {m : Mem} {D : List Nat} {r n : Nat} {R : List It} (hW : Whl c m D r n R) {K : KV} (h : K (.int .i64 n) m) : ACalls Try.prog 16 [.ptr (some (r, 0, 0))] m K := by
  obtain ⟨q, sq, v, S, l, g, rfl, hL, hF, hsq, hsq2, hDu, hG⟩ := hW.ex
  refine run_on (ctx_nil _) hm c16 (by simp) fun hf => ?_
  obtain ⟨cs, o1, o2⟩ := hL.row
  have e0 := o2.c0
  have el := o2.len
  simp (disch := omega) [-getElem?_pos, b16, o1, e0, el]
  exact h
theorem left_yes {c : Nat} {m : Mem} {D : List Nat} {r n : Nat} {R : List It} (hW : Whl c m D r n R) {x : It} (hx : x ∈ R) {K : KV} (h : K (.tup [.int .i64 ((x.2.1 : Int) - n), .bool true]) m) : ACalls Try.prog 14 [.ptr (some (r, 0, 0)), .int .i64 x.1] m K := by
  have hd := hW.due x hx
  have hb := hW.bn
  obtain ⟨q, sq, v, S, l, g, rfl, hL, hF, hsq, hsq2, hDu, hG⟩ := hW.ex
  refine run_on (ctx_nil _) hm c14 (by simp) fun hf => ?_
  obtain ⟨cs, o1, o2⟩ := hL.row
  have e0 := o2.c0
  have em := o2.cm
  have el := o2.len
  have hmp := hL.mp
  have hg := hDu.get x hx
  simp (disch := omega) [-getElem?_pos, b14, o1, e0, em, el, hmp, findM_mapI, hg]
  exact h
/-- Those that are due later; what fires in some ticks. -/
def rest (R : List It) (N : Nat) : List It := R.filter fun x => decide (N < x.2.1)
theorem rest_all {R : List It} {n : Nat} (h : ∀ x ∈ R, n < x.2.1) : rest R n = R := List.filter_eq_self.2 fun x hx => by simpa using h x hx
theorem rest_next (R : List It) (N : Nat) : leftAt (rest R N) (N + 1) = rest R (N + 1) := by
  unfold leftAt rest
  rw [List.filter_filter]
  refine List.filter_congr fun x _ => ?_
  by_cases h : N < x.2.1
  · by_cases h2 : x.2.1 = N + 1
    · simp [h2]
    · simp [h, h2]; omega
  · simp [h]; omega
theorem fire_rest (R : List It) (N : Nat) : fireAt (rest R N) (N + 1) = fireAt R (N + 1) := by
  unfold fireAt rest
  rw [List.filter_filter]
  refine List.filter_congr fun x _ => ?_
  by_cases h : x.2.1 = N + 1
  · simp [h]
  · simp [h]
def outR (R : List It) (n : Nat) : Nat → List Int
  | 0 => []
  | k + 1 => outR R n k ++ (fireAt R (n + k + 1)).map (·.1)
theorem outR_len {R : List It} {n : Nat} (h : ∀ x ∈ R, n < x.2.1) : ∀ k, (outR R n k).length + (rest R (n + k)).length = R.length
  | 0 => by rw [Nat.add_zero, rest_all h]; simp [outR]
  | k + 1 => by
    have ih := outR_len h k
    have h2 := fire_left (rest R (n + k)) (n + k + 1)
    rw [fire_rest, rest_next] at h2
    rw [outR, List.length_append, List.length_map, ← Nat.add_assoc]
    omega
theorem advance_calls {c : Nat} {m : Mem} {D : List Nat} {r n : Nat} {R : List It} (hW : Whl c m D r n R) {z : Int} {k : Nat} (hk : min (max z 0) 65535 = k) (hn : n + k ≤ 1152921504606846976) {K : KV}
    (h : ∀ m' D' v, Whl c m' D' r (n + k) (rest R (n + k)) → Stp m m' D D' → Exa m' 1 v (rowI .i64 (outR R n k)) → (∀ p ∈ v.fp, m.next ≤ p ∧ p ∉ D') → K v m') : ACalls Try.prog 9 [.ptr (some (r, 0, 0)), .int .i64 z] m K := by
  have hRl := hW.len
  have hdue : ∀ x ∈ R, n < x.2.1 := fun x hx => (hW.due x hx).1
  refine run_on (ctx_nil _) hm c9 (by simp) fun hf => ?_
  have hW0 : Whl c m D r (n + 0) (rest R (n + 0)) := by rw [Nat.add_zero, rest_all hdue]; exact hW
  simp (disch := omega) [-getElem?_pos, b9, hk]
  refine exec_loopU (σ := Nat × V × List Nat × Mem) (fun (i, w, _, _) => [(5, w), (11, .int .i64 i)]) (fun (_, _, _, M) => M) (fun (i, w, D', M) => i ≤ k ∧ Whl c M D' r (n + i) (rest R (n + i)) ∧ Stp m M D D' ∧ Exa M 1 w (rowI .i64 (outR R n i)) ∧ ∀ p ∈ w.fp, m.next ≤ p ∧ p ∉ D') (fun (i, _, _, _) => k - i) (0, .sl none 0 (some 0), D, m) rfl
    (by dsimp only; exact ⟨by omega, hW0, Stp.refl _ _, Exa.nil _ _, by simp [V.fp]⟩) (by simp) ?_
  intro (i, w, D', M) ⟨a1, a2, a3, a4, a5⟩
  by_cases hi : i < k
  case neg =>
    have : i = k := by omega
    subst this
    simp (disch := omega) [-getElem?_pos]
    exact h _ _ _ a2 a3 a4 a5
  simp (disch := omega) [-getElem?_pos]
  refine tick_calls a2 (by omega) fun M2 D2 v2 b1 b2 b3 b4 => ?_
  rw [rest_next, fire_rest] at *
  have k1 := b3.sl.elts
  have hl1 := outR_len hdue (i + 1)
  rw [outR, List.length_append, List.length_map] at hl1
  have hw2 : Exa M2 1 w (rowI .i64 (outR R n i)) := a4.keep b2.next fun p hp => b2.obj p (a4.ows.lt p hp) (a5 p hp).2
  simp (disch := omega) [-getElem?_pos, k1]
  refine hw2.app (by rw [rowI_length, rowI_length, List.length_map]; omega) (by rw [rowI_length, rowI_length, List.length_map]; omega) fun w' M3 e1 e2 e3 => ?_
  rw [rowI_append] at e1
  have hdw : ∀ p ∈ D2, p ∉ w.fp := b2.apart (E := w.fp) a4.ows.lt (fun p hp hq => (a5 p hq).2 hp)
  have hlt2 := b1.lt
  have b1' : Whl c M3 D2 r (n + i + 1) (rest R (n + i + 1)) := b1.step e2 (fun p hp hq => hdw p hq hp)
  simp (disch := omega) [-getElem?_pos]
  exact again_mk (i + 1, w', D2, M3) (by
    dsimp only
    refine ⟨by omega, b1', ⟨by have := a3.next; have := b2.next; have := e2.next; omega, fun p hp hne => ?_, fun p hp => ?_⟩, e1, fun p hp => ?_⟩
    · have hpM : p < M.next := by have := a3.next; omega
      have hnD : p ∉ D' := fun e => by
        rcases a3.fp p e with w | w
        · exact hne w
        · omega
      rw [e2.obj p (by have := b2.next; omega) (fun e => by have := (a5 p e).1; omega), b2.obj p hpM hnD, a3.obj p hp hne]
    · exact (a3.trans b2).fp p hp
    · rcases e2.fp p hp with q | q
      · exact ⟨(a5 p q).1, fun e => hdw p e q⟩
      · exact ⟨by have := a3.next; have := b2.next; omega, fun e => by have := hlt2 p e; omega⟩) (by dsimp only; omega) (by simp) rfl
end Go.Proofs.Ytkpdpdpilggcfaa
