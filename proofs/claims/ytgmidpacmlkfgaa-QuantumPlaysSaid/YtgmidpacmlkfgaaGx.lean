/-
  WHAT THE OTHER FUNCTIONS of this seat compute, in plain words.
-/
import Derived.Test.YtgmidpacmlkfgaaFx
namespace Go.Proofs.Ytgmidpacmlkfgaa
open Go Go.AM
set_option linter.unusedVariables false
set_option linter.unusedSimpArgs false
set_option maxRecDepth 8000
set_option maxHeartbeats 4000000

/-- A turn's ticks. -/
def tk (turn : Int) (j : Jb) : Int := min j.2 turn
/-- The round behind a turn of the first job. -/
def Rd.after (w : Rd) (j : Jb) (rest : List Jb) : Rd := ⟨w.turn, w.now + tk w.turn j, if j.2 - tk w.turn j = 0 then rest else rest ++ [(j.1, j.2 - tk w.turn j)]⟩
/-- A turn, as it lies. -/
def turnC (w : Rd) (j : Jb) : List V := [.int .i64 j.1, .int .i64 w.now, .int .i64 (tk w.turn j), .bool (decide (j.2 - tk w.turn j = 0))]

theorem next_nil {m : Mem} {K : KV} (h : ∀ m', m.Grew m' → K (.tup [.agg [.int .i64 0, .int .i64 0, .int .i64 0, .bool false], .bool false]) m') : ACalls Try.prog 10 [.ptr none] m K := by
  refine run_on x1 hm c10 (by simp) fun hf => ?_
  simp (disch := omega) [b10]
  exact h _ (Mem.Grew.new _ _)

theorem next_calls {m : Mem} {D : List Nat} {r : Nat} {w : Rd} (hR : Round m D r w) (hb : w.now ≤ 999990000) {K : KV}
    (h1 : w.l = [] → ∀ m', Round m' D r w → Stp m m' D D → K (.tup [.agg [.int .i64 0, .int .i64 0, .int .i64 0, .bool false], .bool false]) m')
    (h2 : ∀ j rest, w.l = j :: rest → ∀ m' D', Round m' D' r (w.after j rest) → Stp m m' D D' → K (.tup [.agg (turnC w j), .bool true]) m') : ACalls Try.prog 10 [.ptr (some (r, 0, 0))] m K := by
  have hR1 := hR.grow (Mem.Grew.new m (.row 4 [[.int .i64 0, .int .i64 0, .int .i64 0, .bool false]] true))
  obtain ⟨v, rfl, g1, g2, g3, g4⟩ := hR.ex
  have hlen := hR.len
  have hv1 := g3.sl.lenSl
  simp only [List.length_map] at hv1
  refine run_on x1 hm c10 (by simp) fun hf => ?_
  cases hl : w.l with
  | nil =>
    rw [hl] at hv1
    simp at hv1
    simp (disch := omega) [b10, g2, hv1]
    exact h1 hl _ hR1 (Stp.new _ _ _)
  | cons j rest =>
    have hj := hR.ok j (by rw [hl]; simp)
    have ht := hR.turn
    have hn0 := hR.now
    have hlr : w.l.length = rest.length + 1 := by rw [hl]; rfl
    obtain ⟨n, hn⟩ : ∃ n, tk w.turn j = n := ⟨_, rfl⟩
    have hn2 : min j.2 w.turn = n := hn
    obtain ⟨p, q, full, rw, b1, b2, b3, b4, b5⟩ := g3.sl.at (i := 0) (x := jb j) (by rw [hl]; rfl) .i64
    simp only [jb] at b4
    simp at b1
    rw [hlr] at hv1
    obtain ⟨v1, q1, q2, q3⟩ := g3.cutLM .i64 .i64 .i64 1 (by simp <;> omega)
    simp only [List.length_map, hlr] at q1
    have k1 := q2.sl.cs
    have k2 := q2.sl.okc
    have e1 : (0 : Int) < rest.length + 1 := by omega
    simp at q1
    simp (disch := omega) [-getElem?_pos, b10, g2, hv1, b1, b3, b4, q1, k1, k2, hn2]
    have hrn : r ∉ v1.fp := fun e => g4 (q3 r e)
    have q2' : Ows m 2 v1 (rest.map jb) := by
      have : (w.l.map jb).drop 1 = rest.map jb := by rw [hl]; rfl
      rw [← this]; exact q2
    have hlt := g3.lt
    have hrn : r ∉ v1.fp := fun e => g4 (q3 r e)
    have q2' : Ows m 2 v1 (rest.map jb) := by
      have : (w.l.map jb).drop 1 = rest.map jb := by rw [hl]; rfl
      rw [← this]; exact q2
    have hlt := g3.lt
    have hlt1 := q2'.lt
    by_cases hz : j.2 - n = 0
    · simp (disch := omega) [-getElem?_pos, hz]
      have e2 : turnC w j = [.int .i64 j.1, .int .i64 w.now, .int .i64 n, .bool true] := by simp only [turnC, hn, hz]; rfl
      replace h2 := h2 j rest hl
      rw [e2] at h2
      refine h2 _ (r :: v1.fp) ⟨ht, by simp only [Rd.after, hn]; omega, fun x hx => ?_, ?_, v1, rfl, by simp; omega, by simp (disch := omega) [Rd.after, hn], ?_, hrn⟩ ⟨by simp; omega, fun p hp hd => ?_, fun p hp => ?_⟩
      · simp only [Rd.after, hn, hz, if_true] at hx
        exact hR.ok x (by rw [hl]; simp [hx])
      · simp only [Rd.after, hn, hz, if_true]; omega
      · have : (w.after j rest).l = rest := by simp only [Rd.after, hn, hz, if_true]
        rw [this]
        refine q2'.keep (by simp <;> omega) fun p hp => ?_
        have h5 := hlt1 p hp
        have h6 : p ≠ r := fun e => hrn (by rw [← e]; exact hp)
        simp (disch := omega)
      · simp only [List.mem_cons, not_or] at hd
        have := hd.1
        simp (disch := omega)
      · rcases List.mem_cons.1 hp with rfl | hp
        · exact .inl (by simp)
        · exact .inl (by simp [q3 p hp])
    · have e2 : turnC w j = [.int .i64 j.1, .int .i64 w.now, .int .i64 n, .bool false] := by simp only [turnC, hn, hz]; rfl
      replace h2 := h2 j rest hl
      rw [e2] at h2
      simp (disch := omega) [-getElem?_pos, hz, eltsOf, Mem.elts]
      have hQ : ∀ M : Mem, m.next ≤ M.next → (∀ p ∈ v1.fp, M.obj p = m.obj p) → Ows M 2 v1 (rest.map jb) := fun M h h' => q2'.keep h h'
      refine (hQ _ ?_ ?_).app (by simp <;> omega) (by simp <;> omega) fun v2 m2 w1 w2 w3 => ?_
      · simp; omega
      · intro p hp
        have h5 := hlt1 p hp
        have h6 : p ≠ r := fun e => hrn (by rw [← e]; exact hp)
        simp (disch := omega)
      have o1 := w2.obj r (by simp <;> omega) hrn
      have o2 := w2.obj m.next (by simp <;> omega) (fun e => by have := hlt1 _ e; omega)
      have o3 := w2.obj (m.next + 1 + 1) (by simp <;> omega) (fun e => by have := hlt1 _ e; omega)
      have hn2 := w2.next
      simp (disch := omega) at o1 o2 o3 hn2
      have k3 := w1.sl.cs
      have k4 := w1.sl.okc
      have hrn2 : r ∉ v2.fp := fun e => by
        rcases w2.fp r e with q | q
        · exact hrn q
        · simp at q; omega
      simp (disch := omega) [-getElem?_pos, o1, o2, o3, k3, k4]
      refine h2 _ (r :: v2.fp) ⟨ht, by simp only [Rd.after, hn]; omega, fun x hx => ?_, ?_, v2, rfl, by simp; omega, by simp (disch := omega) [Rd.after, hn], ?_, hrn2⟩ ⟨by simp; omega, fun p hp hd => ?_, fun p hp => ?_⟩
      · simp only [Rd.after, hn, hz, if_false] at hx
        rcases List.mem_append.1 hx with hx | hx
        · exact hR.ok x (by rw [hl]; simp [hx])
        · simp at hx; subst hx; exact ⟨by dsimp only; omega, by dsimp only; omega⟩
      · simp only [Rd.after, hn, hz, if_false]; rw [List.length_append]; simp only [List.length_cons, List.length_nil]; omega
      · have : (w.after j rest).l.map jb = rest.map jb ++ [[.int .i64 j.1, .int .i64 (j.2 - n)]] := by simp only [Rd.after, hn, hz, if_false]; simp [jb]
        rw [this]
        refine w1.keep (by simp) fun p hp => ?_
        have h6 : p ≠ r := fun e => hrn2 (by rw [← e]; exact hp)
        have h7 : p ≠ m.next := fun e => by
          rcases w2.fp p hp with q | q
          · have := hlt1 p q; omega
          · simp at q; omega
        simp (disch := omega)
      · simp only [List.mem_cons, not_or] at hd
        have := hd.1
        have h8 := w2.obj p (by simp <;> omega) (fun e => hd.2 (q3 p e))
        simp (disch := omega) at h8
        simp (disch := omega) [h8]
      · rcases List.mem_cons.1 hp with rfl | hp
        · exact .inl (by simp)
        · rcases w2.fp p hp with q | q
          · exact .inl (by simp [q3 p q])
          · right; simp at q; omega

/-- Now. -/
theorem now_calls {m : Mem} {D : List Nat} {r : Nat} {w : Rd} (hR : Round m D r w) {K : KV} (h : K (.int .i64 w.now) m) : ACalls Try.prog 12 [.ptr (some (r, 0, 0))] m K := by
  obtain ⟨v, rfl, g1, g2, g3, g4⟩ := hR.ex
  refine run_on x1 hm c12 (by simp) fun hf => ?_
  simp (disch := omega) [b12, g2]
  exact h

def leftI : List Jb → Int
  | [] => 0
  | j :: l => j.2 + leftI l
theorem leftI_append : ∀ (a b : List Jb), leftI (a ++ b) = leftI a + leftI b
  | [], b => by simp [leftI]
  | j :: a, b => by simp only [List.cons_append, leftI, leftI_append a b]; omega
theorem leftI_snoc (l : List Jb) (j : Jb) : leftI (l ++ [j]) = leftI l + j.2 := by rw [leftI_append]; simp [leftI]
theorem leftI_le : ∀ (l : List Jb), (∀ j ∈ l, 1 ≤ j.2 ∧ j.2 ≤ 10000) → l.length ≤ leftI l ∧ leftI l ≤ l.length * 10000
  | [], _ => by simp [leftI]
  | j :: l, h => by
    have h1 := h j (by simp)
    have h2 := leftI_le l fun x hx => h x (by simp [hx])
    simp only [leftI, List.length_cons]; omega

/-- Left. -/
theorem left_calls {m : Mem} {D : List Nat} {r : Nat} {w : Rd} (hR : Round m D r w) {K : KV} (h : ∀ m', m.Grew m' → K (.int .i64 (leftI w.l)) m') : ACalls Try.prog 13 [.ptr (some (r, 0, 0))] m K := by
  obtain ⟨v, rfl, g1, g2, g3, g4⟩ := hR.ex
  have hlen := hR.len
  have hv1 := g3.sl.lenSl
  simp only [List.length_map] at hv1
  refine run_on x1 hm c13 (by simp) fun hf => ?_
  simp (disch := omega) [b13, g2, hv1]
  refine exec_loopU (σ := Nat × Mem) (fun (i, _) => [(3, .int .i64 (leftI (w.l.take i))), (13, .int .i64 i)]) (fun (_, M) => M) (fun (i, M) => i ≤ w.l.length ∧ m.Grew M) (fun (i, _) => w.l.length - i) (0, m) rfl ⟨by omega, Mem.Grew.refl m⟩ (by simp [leftI]) ?_
  intro (i, M) ⟨a1, a2⟩
  by_cases hi : i < w.l.length
  · obtain ⟨j, hj⟩ : ∃ j, w.l[i]? = some j := ⟨_, List.getElem?_eq_getElem hi⟩
    obtain ⟨p, q, full, rw, b1, b2, b3, b4, b5⟩ := (g3.grow a2).sl.at (jb_map_get hj) .i64
    simp only [jb] at b4
    have hb := leftI_le (w.l.take i) (fun x hx => hR.ok x (List.mem_of_mem_take hx))
    have hjk := hR.ok j (mem_of_idx hj)
    have hl2 : (w.l.take i).length = i := by simp; omega
    have e1 : leftI (w.l.take (i + 1)) = leftI (w.l.take i) + j.2 := by rw [takeS hj, leftI_snoc]
    simp (disch := omega) [-getElem?_pos, b1, b3, b4]
    exact again_mk (i + 1, _) (by dsimp only; exact ⟨by omega, a2.trans (Mem.Grew.new M (.row 2 [[.int .i64 j.1, .int .i64 j.2]] true))⟩) (by dsimp only; omega) (by simp [e1]) rfl
  · have : i = w.l.length := by omega
    subst this
    simp (disch := omega)
    exact h M a2

/-- Row. -/
theorem row_calls {m : Mem} {D : List Nat} {r : Nat} {w : Rd} (hR : Round m D r w) {K : KV} (h : ∀ v' m', Ows m' 1 v' (rowI .i64 (w.l.map (·.1))) → m.Grew m' → K v' m') : ACalls Try.prog 11 [.ptr (some (r, 0, 0))] m K := by
  obtain ⟨v, rfl, g1, g2, g3, g4⟩ := hR.ex
  have hlen := hR.len
  have hv1 := g3.sl.lenSl
  simp only [List.length_map] at hv1
  refine run_on x1 hm c11 (by simp) fun hf => ?_
  simp (disch := omega) [b11, g2, hv1]
  refine exec_loopU (σ := Nat × V × Mem) (fun (i, u, _) => [(3, u), (13, .int .i64 i)]) (fun (_, _, M) => M) (fun (i, u, M) => i ≤ w.l.length ∧ m.Grew M ∧ Ows M 1 u (rowI .i64 ((w.l.take i).map (·.1))) ∧ ∀ p ∈ u.fp, m.next ≤ p) (fun (i, _) => w.l.length - i) (0, .sl none 0 (some 0), m) rfl
    ⟨by omega, Mem.Grew.refl m, Ows.nil _ _, by simp [V.fp]⟩ (by simp) ?_
  intro (i, u, M) ⟨a1, a2, a3, a4⟩
  by_cases hi : i < w.l.length
  · obtain ⟨j, hj⟩ : ∃ j, w.l[i]? = some j := ⟨_, List.getElem?_eq_getElem hi⟩
    obtain ⟨p, q, full, rw, b1, b2, b3, b4, b5⟩ := (g3.grow a2).sl.at (jb_map_get hj) .i64
    simp only [jb] at b4
    have hl2 : (w.l.take i).length = i := by simp; omega
    have e1 : rowI .i64 ((w.l.take (i + 1)).map (·.1)) = rowI .i64 ((w.l.take i).map (·.1)) ++ [[.int .i64 j.1]] := by rw [takeS hj]; simp [rowI]
    simp (disch := omega) [-getElem?_pos, b1, b3, b4, eltsOf, Mem.elts]
    have hg := (Mem.Grew.new M (.row 2 [[.int .i64 j.1, .int .i64 j.2]] true)).trans (Mem.Grew.new _ (.row 1 [[.int .i64 j.1]] true))
    refine (a3.grow hg).app (by rw [rowI_length]; simp; omega) (by rw [rowI_length]; simp; omega) fun u' M' w1 w2 w3 => ?_
    simp (disch := omega)
    refine again_mk (i + 1, u', M') ?_ (by dsimp only; omega) (by simp) rfl
    dsimp only
    rw [e1]
    exact ⟨by omega, w2.toGrew (a2.trans hg) a4, w1, w2.ge (a2.trans hg).next a4⟩
  · have : i = w.l.length := by omega
    subst this
    rw [List.take_length] at a3
    simp (disch := omega)
    exact h u M a3 a2

end Go.Proofs.Ytgmidpacmlkfgaa
