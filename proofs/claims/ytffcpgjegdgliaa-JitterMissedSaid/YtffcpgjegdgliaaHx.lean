/-
  WHOLE NUMBERS IN ORDER, as the document sorts them; gaps; the middle one.
-/
import Derived.Test.YtffcpgjegdgliaaGx
import Derived.Test.YtffcpgjegdgliaaSx
namespace Go.Proofs.Ytffcpgjegdgliaa
open Go Go.AM
set_option linter.unusedVariables false
set_option linter.unusedSimpArgs false
set_option maxRecDepth 8000
set_option maxHeartbeats 4000000

/-- Where a duration is put among ordered ones. -/
def pos (x : Int) : List Int → Nat
  | [] => 0
  | y :: l => if y ≤ x then pos x l + 1 else 0
theorem pos_le (x : Int) : ∀ l : List Int, pos x l ≤ l.length
  | [] => by simp [pos]
  | y :: l => by have := pos_le x l; simp only [pos, List.length_cons]; split <;> omega
def ins (x : Int) (l : List Int) : List Int := l.take (pos x l) ++ [x] ++ l.drop (pos x l)
def srt (l : List Int) : List Int := l.foldl (fun r t => ins t r) []
theorem srt_snoc (l : List Int) (t : Int) : srt (l ++ [t]) = ins t (srt l) := by simp [srt]
theorem ins_perm (x : Int) (l : List Int) : (ins x l).Perm (x :: l) := by
  unfold ins
  have h : (l.take (pos x l) ++ [x]).Perm (x :: l.take (pos x l)) := List.perm_append_comm
  have h2 := h.append_right (l.drop (pos x l))
  rw [List.cons_append, List.take_append_drop] at h2
  exact h2
theorem ins_sorted (x : Int) : ∀ l : List Int, l.Pairwise (· ≤ ·) → (ins x l).Pairwise (· ≤ ·)
  | [], _ => by simp [ins, pos]
  | y :: l, h => by
    rw [List.pairwise_cons] at h
    by_cases hy : y ≤ x
    · have e : ins x (y :: l) = y :: ins x l := by unfold ins; simp only [pos, if_pos hy]; simp
      rw [e, List.pairwise_cons]
      refine ⟨fun z hz => ?_, ins_sorted x l h.2⟩
      rcases List.mem_cons.1 ((ins_perm x l).mem_iff.1 hz) with rfl | hz
      · exact hy
      · exact h.1 z hz
    · have e : ins x (y :: l) = x :: y :: l := by unfold ins; simp only [pos, if_neg hy]; simp
      rw [e, List.pairwise_cons, List.pairwise_cons]
      refine ⟨fun z hz => ?_, h⟩
      rcases List.mem_cons.1 hz with rfl | hz
      · omega
      · have := h.1 z hz; omega
theorem rev_ind {P : List Int → Prop} (h0 : P []) (h1 : ∀ l t, P l → P (l ++ [t])) (l : List Int) : P l := by
  have : ∀ r : List Int, P r.reverse := fun r => by
    induction r with
    | nil => exact h0
    | cons x r ih => rw [List.reverse_cons]; exact h1 _ _ ih
  rw [← List.reverse_reverse l]; exact this _
theorem srt_perm : ∀ l : List Int, (srt l).Perm l := by
  intro l
  induction l using rev_ind with
  | h0 => exact List.Perm.refl _
  | h1 l t ih =>
    rw [srt_snoc]
    refine (ins_perm _ _).trans ?_
    have h1 : (t :: srt l).Perm (t :: l) := ih.cons _
    exact h1.trans (List.perm_append_comm (l₁ := [t]) (l₂ := l))
theorem srt_sorted : ∀ l : List Int, (srt l).Pairwise (· ≤ ·) := by
  intro l
  induction l using rev_ind with
  | h0 => exact List.Pairwise.nil
  | h1 l t ih => rw [srt_snoc]; exact ins_sorted _ _ ih
theorem srt_length (l : List Int) : (srt l).length = l.length := by rw [(srt_perm l).length_eq]
theorem pos_spec (x : Int) : ∀ (l : List Int) (i : Nat), i < pos x l → nth l i ≤ x
  | [], i, h => by simp [pos] at h
  | y :: l, i, h => by
    simp only [pos] at h
    split at h
    · cases i with
      | zero => rw [nth_zero]; assumption
      | succ i => rw [nth_succ]; exact pos_spec x l i (by omega)
    · omega
theorem pos_end (x : Int) : ∀ (l : List Int), pos x l < l.length → x < nth l (pos x l)
  | [], h => by simp [pos] at h
  | y :: l, h => by
    by_cases hy : y ≤ x
    · simp only [pos, if_pos hy] at h ⊢
      rw [nth_succ]; exact pos_end x l (by simpa using h)
    · simp only [pos, if_neg hy]
      rw [nth_zero]; omega

/-- sorted. -/
theorem sorted_calls {m : Mem} {v : V} {l : List Int} (hv : Sl m 1 v (rowI .i64 l)) (hl : l.length ≤ 10000) {K : KV} (h : ∀ v' m', Ows m' 1 v' (rowI .i64 (srt l)) → m.Grew m' → (∀ p ∈ v'.fp, m.next ≤ p) → K v' m') : ACalls Try.prog 14 [v] m K := by
  obtain ⟨N, hN, hv1⟩ := len1 hv
  refine run_on x0 hm c14 (by simp) fun hf => ?_
  simp (disch := omega) [b14, hv1]
  refine exec_loopU (σ := Nat × V × Mem) (fun (i, u, _) => [(3, u), (9, .int .i64 i)]) (fun (_, _, M) => M) (fun (i, u, M) => i ≤ N ∧ m.Grew M ∧ Ows M 1 u (rowI .i64 (srt (l.take i))) ∧ ∀ p ∈ u.fp, m.next ≤ p) (fun (i, _, _) => N - i) (0, .sl none 0 (some 0), m) rfl
    ⟨by omega, Mem.Grew.refl m, Ows.nil _ _, by simp [V.fp]⟩ (by simp) ?_
  intro (i, u, M) ⟨a1, a2, a3, a4⟩
  by_cases hi : i < N
  · obtain ⟨p, q, full, rw, z1, z2, z3, z4⟩ := at1 (hv.grow a2) (y := i) (by omega)
    obtain ⟨R, hR⟩ : ∃ R, srt (l.take i) = R := ⟨_, rfl⟩
    have hRl : R.length = i := by rw [← hR, srt_length]; simp; omega
    have hnext : srt (l.take (i + 1)) = ins (nth l i) R := by rw [takeS (nth_get (by omega)), srt_snoc, hR]
    rw [hR] at a3
    obtain ⟨c, hc⟩ : ∃ c, nth l i = c := ⟨_, rfl⟩
    rw [hc] at hnext z4
    have hul := a3.sl.lenSl
    rw [rowI_length, hRl] at hul
    simp (disch := omega) [-getElem?_pos, z1, z3, z4]
    have hpl := pos_le c R
    refine exec_loopU (σ := Nat) (fun at' => [(6, .int .i64 at')]) (fun _ => M) (fun at' => at' ≤ pos c R) (fun at' => pos c R - at') 0 rfl (Nat.zero_le _) (by simp) ?_
    intro at' ha
    by_cases hp : at' < pos c R
    · obtain ⟨p', q', full', rw', y1, y2, y3, y4⟩ := at1 a3.sl (y := at') (by omega)
      have hle := pos_spec c R at' hp
      simp (disch := omega) [-getElem?_pos, hul, y1, y3, y4]
      exact again_mk (at' + 1) (by omega) (by omega) (by simp) rfl
    · have : at' = pos c R := by omega
      subst this
      obtain ⟨vL, hL1, hL2, hL3⟩ := a3.sl.cutR .i64 (pos c R) (by rw [rowI_length]; omega)
      obtain ⟨vR, hR1, hR2, hR3⟩ := a3.sl.cutL .i64 (pos c R) (by rw [rowI_length]; omega)
      rw [rowI_take] at hL2
      rw [rowI_drop] at hR2
      have hlen1 : (R.take (pos c R)).length = pos c R := by simp; omega
      have hlen2 : (R.drop (pos c R)).length = i - pos c R := by simp; omega
      have hres : rowI .i64 (ins c R) = rowI .i64 (R.take (pos c R)) ++ [[.int .i64 c]] ++ rowI .i64 (R.drop (pos c R)) := by unfold ins; simp [rowI]
      have stp0 : ∀ (m' : Mem) (v' : V), M.Grew m' → (∀ p ∈ v'.fp, M.next ≤ p) → Stp M m' [] v'.fp := fun m' v' hg hp => ⟨hg.next, fun p h _ => hg.obj p h, fun p h => .inr (hp p h)⟩
      have fin : ∀ (m' : Mem) (v' : V), Stp M m' [] v'.fp → Exa m' 1 v' (rowI .i64 (ins c R)) → i + 1 ≤ N ∧ m.Grew m' ∧ Ows m' 1 v' (rowI .i64 (srt (l.take (i + 1)))) ∧ ∀ p ∈ v'.fp, m.next ≤ p := fun m' v' hs hx =>
        ⟨by omega, hs.toGrew a2 (by simp), by rw [hnext]; exact hx.ows, hs.ge a2.next (by simp)⟩
      have keepL : ∀ m', (∀ p, p < M.next → m'.obj p = M.obj p) → M.next ≤ m'.next → eltsOf 1 m' vL = some (rowI .i64 (R.take (pos c R))) := fun m' ho hn => (hL2.keep hn fun p hp _ => ho p hp).elts
      have keepR : ∀ m', (∀ p, p < M.next → m'.obj p = M.obj p) → M.next ≤ m'.next → eltsOf 1 m' vR = some (rowI .i64 (R.drop (pos c R))) := fun m' ho hn => (hR2.keep hn fun p hp _ => ho p hp).elts
      clear hL2 hR2 hL3 hR3
      by_cases hend : pos c R < i
      case' pos =>
        obtain ⟨p', q', full', rw', y1, y2, y3, y4⟩ := at1 a3.sl (y := pos c R) (by omega)
        have hgt := pos_end c R (by omega)
        simp (disch := omega) [-getElem?_pos, hul, y1, y3, y4, hL1, hR1]
        clear y1 y2 y3 y4 hgt
      case' neg =>
        simp (disch := omega) [-getElem?_pos, hul, hL1, hR1]
      all_goals
        clear z1 z2 z3 z4 hul hL1 hR1 hend
        refine ⟨⟨?_, ?_⟩, ?_⟩
        · have hg := Mem.Grew.new M (.row 1 [] true)
          rw [keepL _ hg.obj hg.next]
          simp (disch := omega)
          refine (Exa.lit (m := M) (es := []) (n := 0) rfl).app (by rw [rowI_length]; simp; omega) (by rw [rowI_length]; simp; omega) fun f1 M1 e1 e2 e3 => ?_
          rw [List.nil_append] at e1
          have s1 : Stp M M1 [] f1.fp := (⟨hg.next, fun p hp _ => hg.obj p hp, fun p hp => by simp [V.fp] at hp; exact .inr (by omega)⟩ : Stp M _ [] (V.sl (some (M.next, 0, 1)) 0 (some 0)).fp).trans e2
          simp (disch := omega) [eltsOf, Mem.elts]
          refine (e1.grow (Mem.Grew.new M1 (.row 1 [[.int .i64 c]] true))).app (by rw [rowI_length]; simp; omega) (by rw [rowI_length]; simp; omega) fun f2 M2 e4 e5 e6 => ?_
          have s2 : Stp M M2 [] f2.fp := s1.trans ((Stp.new M1 _ f1.fp).trans e5)
          simp (disch := omega)
          rw [keepR _ (fun p hp => s2.obj p hp (by simp)) s2.next]
          simp (disch := omega)
          refine e4.app (by rw [List.length_append, rowI_length, rowI_length]; simp; omega) (by rw [List.length_append, rowI_length, rowI_length]; simp; omega) fun f3 M3 e7 e8 e9 => ?_
          rw [← hres] at e7
          simp (disch := omega)
          exact again_mk (i + 1, f3, M3) (by dsimp only; exact fin M3 f3 (s2.trans e8) e7) (by dsimp only; omega) (by simp) rfl
        · have hg := (Mem.Grew.new M (.row 1 [] true)).trans (Mem.Grew.new _ (.row 1 [[.int .i64 c]] true))
          rw [keepL _ hg.obj hg.next]
          simp (disch := omega)
          refine (Exa.of (m := (M.new (.row 1 [] true)).new (.row 1 [[.int .i64 c]] true)) (q := M.next) (es := []) (n := 0) rfl (by simp <;> omega) (by simp (disch := omega))).app (by rw [rowI_length]; simp; omega) (by rw [rowI_length]; simp; omega) fun f1 M1 e1 e2 e3 => ?_
          rw [List.nil_append] at e1
          have s1 : Stp M M1 [] f1.fp := (⟨hg.next, fun p hp _ => hg.obj p hp, fun p hp => by simp [V.fp] at hp; exact .inr (by omega)⟩ : Stp M _ [] (V.sl (some (M.next, 0, 1)) 0 (some 0)).fp).trans e2
          have k1 := e2.obj (M.next + 1) (by simp <;> omega) (by simp [V.fp] <;> omega)
          simp (disch := omega) at k1
          simp (disch := omega) [eltsOf, Mem.elts, k1]
          refine e1.app (by rw [rowI_length]; simp; omega) (by rw [rowI_length]; simp; omega) fun f2 M2 e4 e5 e6 => ?_
          have s2 : Stp M M2 [] f2.fp := s1.trans e5
          simp (disch := omega)
          rw [keepR _ (fun p hp => s2.obj p hp (by simp)) s2.next]
          simp (disch := omega)
          refine e4.app (by rw [List.length_append, rowI_length, rowI_length]; simp; omega) (by rw [List.length_append, rowI_length, rowI_length]; simp; omega) fun f3 M3 e7 e8 e9 => ?_
          rw [← hres] at e7
          simp (disch := omega)
          exact again_mk (i + 1, f3, M3) (by dsimp only; exact fin M3 f3 (s2.trans e8) e7) (by dsimp only; omega) (by simp) rfl
        · have hg := (Mem.Grew.new M (.row 1 [[.int .i64 c]] true)).trans (Mem.Grew.new _ (.row 1 [] true))
          rw [keepL _ hg.obj hg.next]
          simp (disch := omega)
          refine (Exa.of (m := (M.new (.row 1 [[.int .i64 c]] true)).new (.row 1 [] true)) (q := M.next + 1) (es := []) (n := 0) rfl (by simp <;> omega) (by simp (disch := omega))).app (by rw [rowI_length]; simp; omega) (by rw [rowI_length]; simp; omega) fun f1 M1 e1 e2 e3 => ?_
          rw [List.nil_append] at e1
          have s1 : Stp M M1 [] f1.fp := (⟨hg.next, fun p hp _ => hg.obj p hp, fun p hp => by simp [V.fp] at hp; exact .inr (by omega)⟩ : Stp M _ [] (V.sl (some (M.next + 1, 0, 1)) 0 (some 0)).fp).trans e2
          have k1 := e2.obj (M.next) (by simp <;> omega) (by simp [V.fp] <;> omega)
          simp (disch := omega) at k1
          simp (disch := omega) [eltsOf, Mem.elts, k1]
          refine e1.app (by rw [rowI_length]; simp; omega) (by rw [rowI_length]; simp; omega) fun f2 M2 e4 e5 e6 => ?_
          have s2 : Stp M M2 [] f2.fp := s1.trans e5
          simp (disch := omega)
          rw [keepR _ (fun p hp => s2.obj p hp (by simp)) s2.next]
          simp (disch := omega)
          refine e4.app (by rw [List.length_append, rowI_length, rowI_length]; simp; omega) (by rw [List.length_append, rowI_length, rowI_length]; simp; omega) fun f3 M3 e7 e8 e9 => ?_
          rw [← hres] at e7
          simp (disch := omega)
          exact again_mk (i + 1, f3, M3) (by dsimp only; exact fin M3 f3 (s2.trans e8) e7) (by dsimp only; omega) (by simp) rfl
  · have : i = N := by omega
    subst this
    have htk : l.take i = l := by rw [← hN, List.take_length]
    rw [htk] at a3
    simp (disch := omega)
    exact h _ _ a3 a2 a4

end Go.Proofs.Ytffcpgjegdgliaa
