/-
  JITTERERRORS, of what the functions of this seat do.
-/
import Derived.Test.YtffcpgjegdgliaaFx
namespace Go.Proofs.Ytffcpgjegdgliaa
open Go Go.AM
set_option linter.unusedVariables false
set_option linter.unusedSimpArgs false
set_option maxRecDepth 8000
set_option maxHeartbeats 4000000

def mnL (es : List Int) : Int := es.foldl (fun a e => min a e) 1099511627776
def mxL (es : List Int) : Int := es.foldl (fun a e => max a e) (-1099511627776)
def smL (es : List Int) : Int := es.foldl (fun a e => a + e) 0
def abL (es : List Int) : Int := es.foldl (fun a e => a + max e (-e)) 0
theorem mnL_snoc (es : List Int) (e : Int) : mnL (es ++ [e]) = min (mnL es) e := by simp [mnL]
theorem mxL_snoc (es : List Int) (e : Int) : mxL (es ++ [e]) = max (mxL es) e := by simp [mxL]
theorem smL_snoc (es : List Int) (e : Int) : smL (es ++ [e]) = smL es + e := by simp [smL]
theorem abL_snoc (es : List Int) (e : Int) : abL (es ++ [e]) = abL es + max e (-e) := by simp [abL]
theorem foldl_rng {g : Int → Int → Int} {B : Int} (hg : ∀ a e, -B ≤ e → e ≤ B → a - B ≤ g a e ∧ g a e ≤ a + B) : ∀ (es : List Int) (a : Int), (∀ e ∈ es, -B ≤ e ∧ e ≤ B) → a - B * es.length ≤ es.foldl g a ∧ es.foldl g a ≤ a + B * es.length
  | [], a, h => by simp
  | e :: es, a, h => by
    have h1 := foldl_rng hg es (g a e) fun x hx => h x (by simp [hx])
    have h2 := hg a e (h e (by simp)).1 (h e (by simp)).2
    simp only [List.foldl_cons, List.length_cons, Int.natCast_add, Int.natCast_one, Int.mul_add]
    omega

/-- The errors of times. -/
def ers (f p : Int) (zs : List Int) : List Int := zs.map (errI f p)
theorem ers_take {f p : Int} {zs : List Int} {i : Nat} {t : Int} (h : zs[i]? = some t) : ers f p (zs.take (i + 1)) = ers f p (zs.take i) ++ [errI f p t] := by
  unfold ers; rw [List.take_add_one, h]; simp
theorem ers_rng {f p : Int} (hp : Per p) (zs : List Int) : ∀ e ∈ ers f p zs, -1099511627776 ≤ e ∧ e ≤ 1099511627776 := by
  intro e he
  obtain ⟨t, _, rfl⟩ := List.mem_map.1 he
  exact ⟨(errI_rng hp).1, (errI_rng hp).2.1⟩
theorem sums_rng {f p : Int} (hp : Per p) (zs : List Int) {N : Nat} (hN : zs.length ≤ N) : -1099511627776 * N ≤ smL (ers f p zs) ∧ smL (ers f p zs) ≤ 1099511627776 * N ∧ -1099511627776 * N ≤ abL (ers f p zs) ∧ abL (ers f p zs) ≤ 1099511627776 * N := by
  have h1 := foldl_rng (g := fun a e => a + e) (B := 1099511627776) (fun a e h h' => by omega) (ers f p zs) 0 (ers_rng hp zs)
  have h2 := foldl_rng (g := fun a e => a + max e (-e)) (B := 1099511627776) (fun a e h h' => by omega) (ers f p zs) 0 (ers_rng hp zs)
  have hl : (ers f p zs).length = zs.length := by simp [ers]
  rw [hl] at h1 h2
  unfold smL abL
  omega

def ofI (f p : Int) (zs : List Int) : List V := if zs = [] ∨ ¬ Per p then [.int .i64 0, .int .i64 0, .int .i64 0, .int .i64 0, .int .i64 0]
  else [.int .i64 zs.length, .int .i64 (mnL (ers f p zs)), .int .i64 (mxL (ers f p zs)), .int .i64 (smL (ers f p zs)), .int .i64 (abL (ers f p zs))]

theorem of_calls {m : Mem} {v : V} {zs : List Int} (hv : Sl m 1 v (rowI .i64 zs)) (hl : zs.length ≤ 200) {f p : Int} {K : KV} (h : ∀ m', m.Grew m' → K (.agg (ofI f p zs)) m') : ACalls Try.prog 8 [v, .int .i64 f, .int .i64 p] m K := by
  refine run_on x1 hm c8 (by simp) fun hf => ?_
  obtain ⟨N, hN, hv1⟩ := len1 hv
  unfold ofI at h
  by_cases h0 : N = 0
  · subst h0
    rw [if_pos (.inl (List.eq_nil_of_length_eq_zero hN))] at h
    simp (disch := omega) [-getElem?_pos, b8, hv1]
    exact h _ (Mem.Grew.new m _)
  by_cases hp : Per p
  case neg =>
    rw [if_pos (.inr hp)] at h
    have hpp := decide_eq_false hp
    simp (disch := omega) [-getElem?_pos, b8, hv1, F16, hpp]
    exact h _ (Mem.Grew.new m _)
  rw [if_neg (by rintro (e | e)
                 · rw [e] at hN; simp at hN; omega
                 · exact e hp)] at h
  have hpp := decide_eq_true hp
  simp (disch := omega) [-getElem?_pos, b8, hv1, F16, hpp]
  refine exec_loopU (σ := Nat) (fun i => [(23, .int .i64 i)]) (fun i => (m.new (.row 5 [[.int .i64 0, .int .i64 0, .int .i64 0, .int .i64 0, .int .i64 0]] true)).new (.row 5 [[.int .i64 i, .int .i64 (mnL (ers f p (zs.take i))), .int .i64 (mxL (ers f p (zs.take i))), .int .i64 (smL (ers f p (zs.take i))), .int .i64 (abL (ers f p (zs.take i)))]] true))
    (fun i => i ≤ N) (fun i => N - i) 0 rfl (by omega) (by simp [ers, mnL, mxL, smL, abL]) ?_
  intro i a1
  by_cases hi : i < N
  · obtain ⟨q, j, full, rw, b1, b2, b3, b4⟩ := at1 hv (y := i) (by omega)
    have hs := sums_rng (f := f) hp (zs.take i) (N := 200) (by simp; omega)
    have e1 := ers_take (f := f) (p := p) (nth_get (show i < zs.length by omega))
    have e2 : errF f p (nth zs i) = errI f p (nth zs i) := if_pos hp
    have er := errI_rng (f := f) (t := nth zs i) hp
    obtain ⟨x, hx⟩ : ∃ x, errI f p (nth zs i) = x := ⟨_, rfl⟩
    rw [hx] at e1 e2 er
    obtain ⟨es, hes⟩ : ∃ es, ers f p (zs.take i) = es := ⟨_, rfl⟩
    rw [hes] at e1 hs ⊢
    simp (disch := omega) [-getElem?_pos, b1, b3, b4, F10, e2]
    refine again_mk (i + 1) (by omega) (by omega) (by simp) ?_
    rw [e1, mnL_snoc, mxL_snoc, smL_snoc, abL_snoc]
    rfl
  · have : i = N := by omega
    subst this
    rw [List.take_of_length_le (by omega)]
    rw [hN] at h
    simp (disch := omega) [-getElem?_pos]
    exact h _ ((Mem.Grew.new m _).trans (Mem.Grew.new _ _))

theorem errors (m0 : Mem) (x0 x1' x2' : V) (h0 : IsV m0 (.slice 1 (.int .i64)) x0) (h1 : IsV m0 (.int .i64) x1') (h2 : IsV m0 (.int .i64) x2') : ACalls Try.prog 3 [x0, x1', x2'] m0 (fun r _ => r = .bool true) := by
  obtain ⟨f, rfl, _⟩ := h1.int
  obtain ⟨p, rfl, _⟩ := h2.int
  refine run_on x1 hm c3 (by simp) fun hf => ?_
  obtain ⟨zs, hv, hml, hwf⟩ := h0.slI hf
  obtain ⟨N, hN, hv1⟩ := len1 hv
  by_cases hl : (200 : Int) < N
  · simp (disch := omega) [b3, F7, hv1]
  simp (disch := omega) [b3, F7, hv1]
  refine of_calls hv (by omega) fun m1 g1 => ?_
  unfold ofI
  by_cases hp : Per p
  case neg =>
    rw [if_pos (.inr hp)]
    unfold Per at hp
    by_cases hp1 : p < 1
    · simp (disch := omega) [-getElem?_pos]
    · simp (disch := omega) [-getElem?_pos]
  obtain ⟨p1, p2⟩ := hp
  have hp : Per p := ⟨p1, p2⟩
  by_cases h00 : N = 0
  · subst h00
    rw [if_pos (.inl (List.eq_nil_of_length_eq_zero hN))]
    simp (disch := omega) [-getElem?_pos, hv1]
  rw [if_neg (by rintro (e | e)
                 · rw [e] at hN; simp at hN; omega
                 · exact e hp), hN]
  simp (disch := omega) [-getElem?_pos, hv1]
  have hv2 := hv.grow (g1.trans (Mem.Grew.new m1 (.row 5 [[.int .i64 N, .int .i64 (mnL (ers f p zs)), .int .i64 (mxL (ers f p zs)), .int .i64 (smL (ers f p zs)), .int .i64 (abL (ers f p zs))]] true)))
  refine exec_loopU (σ := Nat) (fun i => [(8, .int .i64 (mnL (ers f p (zs.take i)))), (9, .int .i64 (mxL (ers f p (zs.take i)))), (10, .int .i64 (smL (ers f p (zs.take i)))), (11, .int .i64 (abL (ers f p (zs.take i)))), (40, .int .i64 i)]) (fun _ => m1.new (.row 5 [[.int .i64 N, .int .i64 (mnL (ers f p zs)), .int .i64 (mxL (ers f p zs)), .int .i64 (smL (ers f p zs)), .int .i64 (abL (ers f p zs))]] true))
    (fun i => i ≤ N) (fun i => N - i) 0 rfl (by omega) (by simp [ers, mnL, mxL, smL, abL]) ?_
  intro i a1
  by_cases hi : i < N
  · obtain ⟨q, j, full, rw, b1, b2, b3, b4⟩ := at1 (hv.grow g1) (y := i) (by omega)
    have hs := sums_rng (f := f) hp (zs.take i) (N := 200) (by simp; omega)
    have e1 := ers_take (f := f) (p := p) (nth_get (show i < zs.length by omega))
    have e2 : errF f p (nth zs i) = errI f p (nth zs i) := if_pos hp
    have er := errI_rng (f := f) (t := nth zs i) hp
    obtain ⟨x, hx⟩ : ∃ x, errI f p (nth zs i) = x := ⟨_, rfl⟩
    rw [hx] at e1 e2 er
    obtain ⟨es, hes⟩ : ∃ es, ers f p (zs.take i) = es := ⟨_, rfl⟩
    rw [hes] at e1 hs ⊢
    obtain ⟨ez, hez⟩ : ∃ es, ers f p zs = es := ⟨_, rfl⟩
    rw [hez]
    clear hez hv2
    simp (disch := omega) [-getElem?_pos, b1, b3, b4, F9, F10, e2, hx, hp]
    refine again_mk (i + 1) (by omega) (by omega) ?_ rfl
    rw [e1, mnL_snoc, mxL_snoc, smL_snoc, abL_snoc]
    simp
  · have : i = N := by omega
    subst this
    rw [List.take_of_length_le (by omega)]
    simp (disch := omega) [-getElem?_pos, hv1]
end Go.Proofs.Ytffcpgjegdgliaa
