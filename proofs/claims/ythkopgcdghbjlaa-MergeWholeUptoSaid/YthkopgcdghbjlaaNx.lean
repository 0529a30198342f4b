/-
  ROWS, of what comes in.
-/
import Derived.Test.YthkopgcdghbjlaaMx
import Derived.Test.YthkopgcdghbjlaaAm33
namespace Go.Proofs.Ythkopgcdghbjlaa
open Go Go.AM
set_option linter.unusedVariables false
set_option linter.unusedSimpArgs false
set_option maxRecDepth 60000
set_option maxHeartbeats 8000000

/-- Rows of items lie here. -/
structure Rws (m : Mem) (v : V) (Ls : List (List It)) : Prop where
  ex : ∃ es : List (List V), Sl m 1 v es ∧ es.length = Ls.length ∧ ∀ (i : Nat) (l : List It), Ls[i]? = some l → ∃ w, es[i]? = some [w] ∧ Sl m 2 w (rowP l)
theorem Rws.grow {m m' : Mem} {v : V} {Ls : List (List It)} (h : Rws m v Ls) (g : m.Grew m') : Rws m' v Ls := by
  obtain ⟨es, h1, h2, h3⟩ := h.ex
  exact ⟨es, h1.grow g, h2, fun i l hl => by obtain ⟨w, a, b⟩ := h3 i l hl; exact ⟨w, a, b.grow g⟩⟩
theorem items_of {m : Mem} : ∀ (es : List (List V)), (∀ e ∈ es, Is m (.struct [.int .i64, .int .i64]) e) → ∃ l : List It, es = rowP l
  | [], _ => ⟨[], rfl⟩
  | e :: es, h => by
    obtain ⟨l, rfl⟩ := items_of es fun x hx => h x (by simp [hx])
    have h1 := h e (by simp)
    simp only [Is, Iss] at h1
    obtain ⟨_, _, rfl, ⟨a, rfl, _⟩, _, _, rfl, ⟨b, rfl, _⟩, rfl⟩ := h1
    exact ⟨(a, b) :: l, rfl⟩
abbrev shR : Sh := .slice 1 (.slice 2 (.struct [.int .i64, .int .i64]))
theorem rws_of {m : Mem} (hf : m.Fresh) {v : V} (h : IsV m shR v) : ∃ Ls, Rws m v Ls ∧ Ls.length ≤ maxLen ∧ ∀ l ∈ Ls, l.length ≤ maxLen := by
  obtain ⟨es, h1, h2, h3⟩ := h.slR hf
  have key : ∀ es : List (List V), (∀ e ∈ es, Is m (.slice 2 (.struct [.int .i64, .int .i64])) e) → ∃ Ls : List (List It), es.length = Ls.length ∧ (∀ (i : Nat) (l : List It), Ls[i]? = some l → ∃ w, es[i]? = some [w] ∧ Sl m 2 w (rowP l)) ∧ ∀ l ∈ Ls, l.length ≤ maxLen := by
    intro es
    induction es with
    | nil => exact fun _ => ⟨[], rfl, by simp, by simp⟩
    | cons e es ih =>
      intro h
      obtain ⟨Ls, a1, a2, a3⟩ := ih fun x hx => h x (by simp [hx])
      have he := h e (by simp)
      have he2 := he
      simp only [Is] at he2
      obtain ⟨a, n, c, rfl, _⟩ := he2
      have hv : IsV m (.slice 2 (.struct [.int .i64, .int .i64])) (.sl a n c) := by simpa only [IsV] using he
      obtain ⟨es', b1, b2, b3⟩ := hv.slR hf
      obtain ⟨l, rfl⟩ := items_of es' b3
      refine ⟨l :: Ls, by simp [a1], fun i l' hl => ?_, fun l' hl => ?_⟩
      · cases i with
        | zero => simp at hl; subst hl; exact ⟨_, rfl, b1⟩
        | succ i => simp at hl ⊢; exact a2 i l' hl
      · rcases List.mem_cons.1 hl with rfl | hl
        · rw [rowP_length] at b2; exact b2
        · exact a3 l' hl
  obtain ⟨Ls, a1, a2, a3⟩ := key es h3
  exact ⟨Ls, ⟨es, h1, a1, a2⟩, by omega, a3⟩

def rowO (l : List It) (i : Nat) : List Ot := l.map fun x => (x.1, x.2, (i : Int))
def flatO : List (List It) → Nat → List Ot
  | [], _ => []
  | l :: Ls, i => rowO l i ++ flatO Ls (i + 1)
theorem flatO_app : ∀ (A : List (List It)) (l : List It) (i : Nat), flatO (A ++ [l]) i = flatO A i ++ rowO l (i + A.length)
  | [], l, i => by simp [flatO]
  | a :: A, l, i => by simp only [List.cons_append, flatO, flatO_app A l (i + 1), List.append_assoc, List.length_cons]; rw [show i + 1 + A.length = i + (A.length + 1) by omega]
theorem flatO_take {Ls : List (List It)} {k : Nat} {l : List It} (h : Ls[k]? = some l) : flatO (Ls.take (k + 1)) 0 = flatO (Ls.take k) 0 ++ rowO l k := by
  have hl := (List.getElem?_eq_some_iff.1 h).1
  rw [takeS h, flatO_app, List.length_take, Nat.min_eq_left (by omega), Nat.zero_add]
theorem flatO_le : ∀ (A B : List (List It)) (i : Nat), (flatO A i).length ≤ (flatO (A ++ B) i).length
  | [], B, i => by simp [flatO]
  | a :: A, B, i => by simp only [List.cons_append, flatO, List.length_append]; have := flatO_le A B (i + 1); omega
theorem flatO_len {Ls : List (List It)} (k : Nat) : (flatO (Ls.take k) 0).length ≤ (flatO Ls 0).length := by
  have := flatO_le (Ls.take k) (Ls.drop k) 0
  rwa [List.take_append_drop] at this
theorem flatO_mem : ∀ (Ls : List (List It)) (i : Nat), ∀ l ∈ Ls, l.length ≤ (flatO Ls i).length
  | [], i, l, h => by cases h
  | a :: Ls, i, l, h => by
    simp only [flatO, List.length_append]
    rcases List.mem_cons.1 h with rfl | h
    · have : (rowO l i).length = l.length := by unfold rowO; rw [List.length_map]
      omega
    · have := flatO_mem Ls (i + 1) l h; omega
theorem sum_ge : ∀ (ks : List Nat), (∀ k ∈ ks, 1 ≤ k) → ks.length ≤ ks.sum
  | [], _ => by simp
  | k :: ks, h => by have := sum_ge ks fun x hx => h x (by simp [hx]); have := h k (by simp); simp only [List.length_cons, List.sum_cons]; omega
theorem rws_ofK {m : Mem} (hf : m.Fresh) {v : V} {b : Nat} (h : IsVK m shR v b) : ∃ Ls, Rws m v Ls ∧ Ls.length + (flatO Ls 0).length ≤ b := by
  obtain ⟨es, ks, h1, h2, h3, h4⟩ := h.slR hf
  have key : ∀ (es : List (List V)) (ks : List Nat) (n : Nat), ks.length = es.length → (∀ (i : Nat) (e : List V) (k : Nat), es[i]? = some e → ks[i]? = some k → IsK m (.slice 2 (.struct [.int .i64, .int .i64])) e k) → ∃ Ls : List (List It), es.length = Ls.length ∧ (∀ (i : Nat) (l : List It), Ls[i]? = some l → ∃ w, es[i]? = some [w] ∧ Sl m 2 w (rowP l)) ∧ Ls.length + (flatO Ls n).length ≤ ks.sum := by
    intro es
    induction es with
    | nil => exact fun ks n hk _ => ⟨[], rfl, by simp, by simp [flatO]⟩
    | cons e es ih =>
      intro ks n hk h
      cases ks with
      | nil => simp at hk
      | cons k ks =>
      obtain ⟨Ls, a1, a2, a3⟩ := ih ks (n + 1) (by simpa using hk) fun i x y hx hy => h (i + 1) x y (by simpa using hx) (by simpa using hy)
      have he := h 0 e k (by simp) (by simp)
      have he2 := he
      simp only [IsK] at he2
      obtain ⟨a, n', c, rfl, _⟩ := he2
      have hv : IsVK m (.slice 2 (.struct [.int .i64, .int .i64])) (.sl a n' c) k := by simpa only [IsVK] using he
      obtain ⟨es', ks', b1, b2, b3, b4⟩ := hv.slR hf
      obtain ⟨l, rfl⟩ := items_of (m := m) es' (fun x hx => by
        obtain ⟨i, hi⟩ := List.getElem?_of_mem hx
        have hil := (List.getElem?_eq_some_iff.1 hi).1
        exact IsK.is _ _ _ (b3 i x _ hi (List.getElem?_eq_getElem (by omega))))
      have hks : ks'.length ≤ ks'.sum := sum_ge ks' fun k hk => by
        obtain ⟨i, hi⟩ := List.getElem?_of_mem hk
        have hil := (List.getElem?_eq_some_iff.1 hi).1
        have := b3 i _ k (List.getElem?_eq_getElem (by omega)) hi
        simp only [IsK] at this
        obtain ⟨j, _, h⟩ := this; omega
      rw [rowP_length] at b2
      refine ⟨l :: Ls, by simp [a1], fun i l' hl => ?_, ?_⟩
      · cases i with
        | zero => simp at hl; subst hl; exact ⟨_, rfl, b1⟩
        | succ i => simp at hl ⊢; exact a2 i l' hl
      · have : (rowO l n).length = l.length := by unfold rowO; rw [List.length_map]
        simp only [List.length_cons, List.sum_cons, flatO, List.length_append]; omega
  obtain ⟨Ls, a1, a2, a3⟩ := key es ks 0 h2 h3
  exact ⟨Ls, ⟨es, h1, a1, a2⟩, by omega⟩
def Good (Ls : List (List It)) : Prop := Ls.length ≤ 64 ∧ ∀ l ∈ Ls, Adj l

theorem rows_calls {m : Mem} {v : V} {Ls : List (List It)} (hR : Rws m v Ls) (htot : (flatO Ls 0).length ≤ 1600000) (hb : ∀ l ∈ Ls, l.length ≤ 4611686018427387904) {K : KV}
    (h1 : ∀ m', ¬ Good Ls → m.Grew m' → K (.tup [.sl none 0 (some 0), .int .i64 2]) m')
    (h2 : ∀ u m' S, Good Ls → S.Perm (flatO Ls 0).zipIdx → Srt S → Ows m' 3 u ((fst S).map ot) → m.Grew m' → (∀ p ∈ u.fp, m.next ≤ p) → K (.tup [u, .int .i64 0]) m') : ACalls Try.prog 8 [v] m K := by
  refine run_on (ctx_nil _) hm c8 (by simp) fun hf => ?_
  obtain ⟨es, hv, hvl, hve⟩ := hR.ex
  have hv1 := hv.lenSl
  obtain ⟨N, hN⟩ : ∃ N, Ls.length = N := ⟨_, rfl⟩
  rw [hvl, hN] at hv1
  by_cases h64 : 64 < N
  · simp (disch := omega) [-getElem?_pos, b8, hv1]
    exact h1 _ (fun g => by have := g.1; omega) (Mem.Grew.refl _)
  simp (disch := omega) [-getElem?_pos, b8, hv1]
  refine exec_loopU (σ := Nat × V × Mem) (fun (i, u, _) => [(4, u), (14, .int .i64 i)]) (fun (_, _, M) => M) (fun (i, u, M) => i ≤ N ∧ (∀ l ∈ Ls.take i, Adj l) ∧ Ows M 3 u ((flatO (Ls.take i) 0).map ot) ∧ m.Grew M ∧ ∀ p ∈ u.fp, m.next ≤ p) (fun (i, _, _) => N - i) (0, .sl none 0 (some 0), m) rfl
    (by dsimp only; exact ⟨by omega, by simp, Ows.nil _ _, Mem.Grew.refl _, by simp [V.fp]⟩) (by simp) ?_
  intro (i, u, M) ⟨a1, a2, a3, a4, a5⟩
  by_cases hi : i < N
  case neg =>
    have : i = N := by omega
    subst this
    rw [← hN, List.take_length] at a2 a3
    simp (disch := omega) [-getElem?_pos]
    refine sort_stable a3 (by omega) fun m' S p1 p2 p3 p4 => ?_
    simp (disch := omega) [-getElem?_pos]
    exact h2 u m' S ⟨by omega, a2⟩ p1 p2 p3 (p4.toGrew a4 a5) a5
  obtain ⟨l, hl⟩ : ∃ l, Ls[i]? = some l := ⟨_, List.getElem?_eq_getElem (by omega)⟩
  obtain ⟨w, hw1, hw2⟩ := hve i l hl
  obtain ⟨p, q, full, rw, z1, z2, z3, z4, _⟩ := (hv.grow a4).at hw1 .i64
  have hll := hb l (mem_of_idx hl)
  simp (disch := omega) [-getElem?_pos, z1, z3, z4]
  refine sorted15 (hw2.grow a4) hll fun b M2 hb2 g2 => ?_
  have gg := a4.trans g2
  cases b with
  | false =>
    simp (disch := omega) [-getElem?_pos]
    exact h1 _ (fun g => by have := hb2.2 (g.2 l (mem_of_idx hl)); cases this) gg
  | true =>
    have hadj := hb2.1 rfl
    have hwl := hw2.lenSl
    rw [rowP_length] at hwl
    obtain ⟨n, hn⟩ : ∃ n, l.length = n := ⟨_, rfl⟩
    rw [hn] at hwl hll
    have hft := flatO_take hl
    have hfl := flatO_len (Ls := Ls) (i + 1)
    rw [hft, List.length_append] at hfl
    have hrl : (rowO l i).length = n := by unfold rowO; rw [List.length_map, hn]
    simp (disch := omega) [-getElem?_pos, hwl]
    refine exec_loopU (σ := Nat × V × Mem) (fun (k, u', _) => [(4, u'), (24, .int .i64 k)]) (fun (_, _, M) => M) (fun (k, u', M') => k ≤ n ∧ Ows M' 3 u' ((flatO (Ls.take i) 0 ++ (rowO l i).take k).map ot) ∧ m.Grew M' ∧ ∀ p ∈ u'.fp, m.next ≤ p) (fun (k, _, _) => n - k) (0, u, M2) rfl
      (by dsimp only; exact ⟨by omega, by simpa using a3.grow g2, gg, a5⟩) (by simp) ?_
    intro (k, u', M') ⟨b1, b2, b3, b4⟩
    by_cases hk : k < n
    case neg =>
      have : k = n := by omega
      subst this
      rw [← hrl, List.take_length, ← hft] at b2
      simp (disch := omega) [-getElem?_pos]
      exact again_mk (i + 1, u', M') (by dsimp only; exact ⟨by omega, fun l' hl' => by
        rw [takeS hl] at hl'
        rcases List.mem_append.1 hl' with hl' | hl'
        · exact a2 l' hl'
        · simp only [List.mem_singleton] at hl'; subst hl'; exact hadj, b2, b3, b4⟩) (by dsimp only; omega) (by simp) rfl
    obtain ⟨p, q, full, rw, z1, z2, z3, z4, _⟩ := (hw2.grow b3).at (rowP_get (l := l) (i := k) (by omega)) .i64
    have hx : (rowO l i)[k]? = some ((nthP l k).1, (nthP l k).2, (i : Int)) := by unfold rowO; rw [List.getElem?_map, nthP_get (by omega)]; rfl
    have gS := (Mem.Grew.new M' (.row 2 [[.int .i64 (nthP l k).1, .int .i64 (nthP l k).2]] true)).trans (Mem.Grew.new _ (.row 3 [[.int .i64 (nthP l k).1, .int .i64 (nthP l k).2, .int .i64 i]] true))
    have hlt : ((flatO (Ls.take i) 0 ++ (rowO l i).take k).map ot).length ≤ 1600000 := by rw [List.length_map, List.length_append, List.length_take]; omega
    simp (disch := omega) [-getElem?_pos, z1, z3, z4, eltsOf, Mem.elts]
    refine (b2.grow gS).app (by omega) (by omega) fun u2 M3 e1 e2 e3 => ?_
    have e : (flatO (Ls.take i) 0 ++ (rowO l i).take k).map ot ++ [[.int .i64 (nthP l k).1, .int .i64 (nthP l k).2, .int .i64 i]] = (flatO (Ls.take i) 0 ++ (rowO l i).take (k + 1)).map ot := by rw [takeS hx]; simp [ot]
    rw [e] at e1
    have s7 := (Stp.grow gS u'.fp).trans e2
    simp (disch := omega) [-getElem?_pos]
    exact again_mk (k + 1, u2, M3) (by dsimp only; exact ⟨by omega, e1, s7.toGrew b3 b4, s7.ge b3.next b4⟩) (by dsimp only; omega) (by simp) rfl
end Go.Proofs.Ythkopgcdghbjlaa
