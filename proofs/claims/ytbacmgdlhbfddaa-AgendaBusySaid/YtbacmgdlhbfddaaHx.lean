/-
  THE SET OF ANY SPANS, of what the functions of this seat do.
-/
import Derived.Test.YtbacmgdlhbfddaaSx
namespace Go.Proofs.Ytbacmgdlhbfddaa
open Go Go.AM
set_option linter.unusedVariables false
set_option linter.unusedSimpArgs false
set_option maxRecDepth 60000
set_option maxHeartbeats 4000000

/-- What came of the first spans of a row that rises. -/
structure Mg (R : List Sp) (i : Nat) (out : List Sp) : Prop where
  rs : RS out
  inn : ∀ t, Inn out t = Inn (R.take i) t
  low : ∀ y ∈ out, ∀ j, i ≤ j → j < R.length → y.1 ≤ (nthP R j).1
  len : out.length ≤ i
theorem Mg.zero (R : List Sp) : Mg R 0 [] := ⟨RS.nil, fun t => rfl, by simp, by simp⟩
structure Rw (R : List Sp) : Prop where
  rt : ∀ x ∈ R, rt x
  up : R.Pairwise fun x y => x.1 ≤ y.1
theorem Rw.at' {R : List Sp} (h : Rw R) {i j : Nat} (hij : i < j) (hj : j < R.length) : (nthP R i).1 ≤ (nthP R j).1 := by
  have := (List.pairwise_iff_getElem.1 h.up) i j (by omega) hj hij
  have e1 := nthP_get (l := R) (i := i) (by omega)
  have e2 := nthP_get (l := R) (i := j) hj
  rw [List.getElem?_eq_getElem (by omega)] at e1 e2
  injection e1 with e1; injection e2 with e2
  rw [← e1, ← e2]; exact this
theorem Rw.lowNext {R : List Sp} (h : Rw R) {i : Nat} (hi : i < R.length) : ∀ j, i + 1 ≤ j → j < R.length → (nthP R i).1 ≤ (nthP R j).1 := fun j h1 h2 => h.at' (by omega) h2
theorem Mg.push {R : List Sp} {i : Nat} {out : List Sp} (hR : Rw R) (hi : i < R.length) (h : Mg R i out) (hg : ∀ o y, out = o ++ [y] → y.2 < (nthP R i).1) : Mg R (i + 1) (out ++ [nthP R i]) := by
  have hx := hR.rt _ (nthP_mem hi)
  refine ⟨?_, fun t => by rw [inn_app, h.inn, takeP hi, inn_app], fun y hy j h1 h2 => ?_, by simp; exact h.len⟩
  · rcases List.eq_nil_or_concat out with rfl | ⟨o, y, rfl⟩
    · exact RS.app.2 ⟨RS.nil, hx, by simp⟩
    · rw [List.concat_eq_append] at *
      exact h.rs.push hx (hg o y rfl)
  · rcases List.mem_append.1 hy with q | q
    · exact h.low y q j (by omega) h2
    · rw [List.mem_singleton.1 q]; exact hR.lowNext hi j h1 h2
theorem Mg.join {R : List Sp} {i : Nat} {o : List Sp} {y : Sp} (hR : Rw R) (hi : i < R.length) (h : Mg R i (o ++ [y])) (hg : (nthP R i).1 ≤ y.2) : Mg R (i + 1) (o ++ [(y.1, max y.2 (nthP R i).2)]) := by
  have hx := hR.rt _ (nthP_mem hi)
  have hl := h.low y (by simp) i (Nat.le_refl _) hi
  obtain ⟨h1, h2, h3⟩ := RS.app.1 h.rs
  have hy : rt (y.1, max y.2 (nthP R i).2) := by
    obtain ⟨a1, a2, a3⟩ := hx
    obtain ⟨b1, b2, b3⟩ := h2
    exact ⟨b1, by dsimp only; omega, by dsimp only; omega⟩
  refine ⟨RS.app.2 ⟨h1, hy, h3⟩, fun t => ?_, fun z hz j h1 h2 => ?_, by have := h.len; simp at this ⊢; omega⟩
  · have hin := h.inn t
    rw [takeP hi, inn_app (R.take i), ← hin, inn_app, inn_app, inn_one, inn_one, inn_one, Bool.or_assoc]
    congr 1
    rw [Bool.eq_iff_iff, Bool.or_eq_true, inB_iff, inB_iff, inB_iff]
    constructor
    · rintro ⟨_, q1, q2⟩
      dsimp only at q1 q2
      rcases Int.lt_or_le t y.2 with w | w
      · exact .inl ⟨h2, q1, w⟩
      · exact .inr ⟨hx, by omega, by omega⟩
    · rintro (⟨_, q1, q2⟩ | ⟨_, q1, q2⟩)
      · exact ⟨hy, q1, by dsimp only; omega⟩
      · exact ⟨hy, by dsimp only; omega, by dsimp only; omega⟩
  · rcases List.mem_append.1 hz with q | q
    · exact h.low z (by simp [q]) j (by omega) h2
    · rw [List.mem_singleton.1 q]; exact Int.le_trans hl (hR.lowNext hi j h1 h2)

theorem inn_perm {A B : List Sp} (h : A.Perm B) (t : Int) : Inn A t = Inn B t := by
  rw [Bool.eq_iff_iff, inn_iff, inn_iff]
  constructor
  · rintro ⟨x, hx, r⟩; exact ⟨x, h.mem_iff.1 hx, r⟩
  · rintro ⟨x, hx, r⟩; exact ⟨x, h.mem_iff.2 hx, r⟩
theorem inn_filter (l : List Sp) (t : Int) : Inn (l.filter fun x => decide (rt x)) t = Inn l t := by
  rw [Bool.eq_iff_iff, inn_iff, inn_iff]
  constructor
  · rintro ⟨x, hx, r⟩; exact ⟨x, (List.mem_filter.1 hx).1, r⟩
  · rintro ⟨x, hx, r⟩; exact ⟨x, List.mem_filter.2 ⟨hx, by simpa using r.1⟩, r⟩
theorem filter_row (l : List Sp) (p : List V → Bool) (hp : ∀ x : Sp, p [.int .i64 x.1, .int .i64 x.2] = !decide (rt x)) : (rowP l).filter (fun x => !p x) = rowP (l.filter fun x => decide (rt x)) := by
  unfold rowP
  rw [List.filter_map]
  congr 1
  apply List.filter_congr
  intro x _
  simp [hp]
/-- A row's pair, of its cells. -/
def pV : List V → Bool
  | [.int .i64 a, .int .i64 b] => !decide (rt (a, b))
  | _ => false
theorem row_cells (l : List Sp) : ∀ x ∈ rowP l, x.length = 1 + 1 ∧ x.all V.isCell = true := fun x hx => by
  obtain ⟨y, _, rfl⟩ := List.mem_map.1 hx
  simp
theorem rowP_app (A B : List Sp) : rowP (A ++ B) = rowP A ++ rowP B := by simp [rowP]
theorem rowP_setLast (o : List Sp) (y z : Sp) : (rowP (o ++ [y])).set o.length [.int .i64 z.1, .int .i64 z.2] = rowP (o ++ [z]) := by
  rw [rowP_app, List.set_append_right _ _ (by rw [rowP_length]; omega), rowP_length, Nat.sub_self, rowP_app]; rfl

theorem sortP_calls {m : Mem} {v : V} {d : List Sp} (ho : Ows m 2 v (rowP d)) (hl : d.length ≤ 1000) {K : KV} (h : ∀ R m', R.Perm d → R.Pairwise (fun x y => x.1 ≤ y.1) → Ows m' 2 v (rowP R) → Stp m m' v.fp v.fp → K (.tup []) m') : ACalls Try.prog 35 [v, .fn 36 [] []] m K := by
  by_cases h0 : d = []
  · subst h0
    exact sort_none ho.sl.lenSl (h _ _ (List.Perm.refl _) List.Pairwise.nil ho (Stp.refl _ _))
  · refine Ows.sortF c35.body c36.body eiP (fun _ => rfl) cfP sortsP (fun x y => cmp25 x y) (d := d) (by rw [ec_row]; exact ho) h0 (by omega) fun d' m2 e1 e2 e3 e4 e5 => ?_
    exact h _ _ e1 (e2.imp fun h => befP h) e3 e4

theorem of_calls {m : Mem} {v : V} {l : List Sp} (hv : Sl m 2 v (rowP l)) (hl : l.length ≤ 1000) {K : KV} (h : ∀ v' m' W, RS W → (∀ t, Inn W t = Inn l t) → W.length ≤ l.length → m.Grew m' → Sl m' 2 v' (rowP W) → K v' m') : ACalls Try.prog 20 [v] m K := by
  refine run_on (ctx_nil _) hm c20 (by simp) fun hf => ?_
  simp (disch := omega) [-getElem?_pos, b20]
  refine clone_calls (ctx_nil _) hm (sz := 1) (bytes := 16) c33 (by omega) hv (by rw [rowP_length]; omega) (by rw [rowP_length]; omega) fun v1 m1 ho1 g1 fp1 => ?_
  simp (disch := omega) [-getElem?_pos]
  refine deleteFunc_calls' hm (sz := 1) (z := [.int .i64 0, .int .i64 0]) c45 (by omega) c32 (by omega) (g := 34) pV ho1 (row_cells l) rfl rfl (by rw [rowP_length]; omega) (fun M K x hx hK => ?_) fun v2 m2 ho2 st2 fp2 => ?_
  · obtain ⟨y, _, rfl⟩ := List.mem_map.1 hx
    exact not22 (x := y) hK
  rw [filter_row l pV fun x => rfl] at ho2
  have g2 := st2.toGrew g1 fp1
  have hlen : (l.filter fun x => decide (rt x)).length ≤ l.length := List.length_filter_le _ _
  have hin := inn_filter l
  have hrt : ∀ x ∈ l.filter (fun x => decide (rt x)), rt x := fun x hx => by simpa using (List.mem_filter.1 hx).2
  rw [← fp2] at fp1
  generalize l.filter (fun x => decide (rt x)) = R0 at *
  simp (disch := omega) [-getElem?_pos]
  refine sortP_calls ho2 (by omega) fun R m3 hp hup ho3 st3 => ?_
  have g3 := st3.toGrew g2 fp1
  have hRl := hp.length_eq
  have hR : Rw R := ⟨fun x hx => hrt x (hp.mem_iff.1 hx), hup⟩
  have hinR : ∀ t, Inn R t = Inn l t := fun t => by rw [inn_perm hp]; exact hin t
  clear hp hup hrt ho2 ho1 st2 st3 hin
  obtain ⟨N, hN, hv1⟩ := lenP ho3.sl
  simp (disch := omega) [-getElem?_pos, hv1]
  refine exec_loopU (σ := Nat × V × List Sp × Mem) (fun (i, u, _, _) => [(4, u), (15, .int .i64 i)]) (fun (_, _, _, M) => M) (fun (i, u, out, M) => i ≤ N ∧ Mg R i out ∧ Exa M 2 u (rowP out) ∧ Ows M 2 v2 (rowP R) ∧ m.Grew M ∧ (∀ p ∈ u.fp, m.next ≤ p ∧ p ∉ v2.fp)) (fun (i, _, _, _) => N - i) (0, .sl none 0 (some 0), [], m3) rfl
    (by dsimp only; exact ⟨by omega, Mg.zero R, Exa.nil _ _, ho3, g3, by simp [V.fp]⟩) (by simp) ?_
  clear ho3 g3
  intro (i, u, out, M) ⟨a1, a2, a3, a4, a5, a6⟩
  by_cases hi : i < N
  case neg =>
    have : i = N := by omega
    subst this
    simp (disch := omega) [-getElem?_pos]
    refine h _ _ out a2.rs (fun t => by rw [a2.inn, ← hN, List.take_length]; exact hinR t) ?_ a5 a3.ows.sl
    have := a2.len; omega
  obtain ⟨p, q, full, rw, z1, z2, z3, z4⟩ := atP a4.sl (y := i) (by omega)
  have hlo := a2.len
  obtain ⟨x, hx⟩ : ∃ x, nthP R i = x := ⟨_, rfl⟩
  rw [hx] at z4
  have gN := Mem.Grew.new M (.row 2 [[.int .i64 x.1, .int .i64 x.2]] true)
  have oN : (M.new (.row 2 [[.int .i64 x.1, .int .i64 x.2]] true)).obj M.next = some (.row 2 [[.int .i64 x.1, .int .i64 x.2]] true) := by simp
  have bN : M.next < (M.new (.row 2 [[.int .i64 x.1, .int .i64 x.2]] true)).next := by simp
  have hu1 := a3.ows.sl.lenSl
  rw [rowP_length] at hu1
  have fin : ∀ (u : V) (out : List Sp) (M : Mem), Exa M 2 u (rowP out) → Ows M 2 v2 (rowP R) → m.Grew M → (∀ p ∈ u.fp, m.next ≤ p ∧ p ∉ v2.fp) → out.length ≤ i → ∀ {K : KV},
      (∀ u' M', Exa M' 2 u' (rowP (out ++ [x])) → Ows M' 2 v2 (rowP R) → m.Grew M' → (∀ p ∈ u'.fp, m.next ≤ p ∧ p ∉ v2.fp) → K u' M') →
      appendX 2 16 ((M.new (.row 2 [[.int .i64 x.1, .int .i64 x.2]] true)).new (.row 2 [[.int .i64 x.1, .int .i64 x.2]] true)) u [[.int .i64 x.1, .int .i64 x.2]] K := by
    intro u out M a3 a4 a5 a6 hlo K k
    have gg := (Mem.Grew.new M (.row 2 [[.int .i64 x.1, .int .i64 x.2]] true)).trans (Mem.Grew.new _ (.row 2 [[.int .i64 x.1, .int .i64 x.2]] true))
    refine (a3.grow gg).app (by rw [rowP_length]; simp; omega) (by rw [rowP_length]; simp; omega) fun u' M' w1 w2 w3 => ?_
    have lt : ∀ p ∈ v2.fp, p < ((M.new (.row 2 [[.int .i64 x.1, .int .i64 x.2]] true)).new (.row 2 [[.int .i64 x.1, .int .i64 x.2]] true)).next := fun p hp => by have := a4.lt p hp; have := gg.next; omega
    exact k u' M' (by rw [rowP_app]; exact w1) ((a4.grow gg).step w2 fun p hp => (a6 p hp).2) (w2.toGrew (a5.trans gg) fun p hp => (a6 p hp).1) (fun p hp => ⟨w2.ge (by have := (a5.trans gg).next; omega) (fun p hp => (a6 p hp).1) p hp, w2.apart lt (fun p hp => (a6 p hp).2) p hp⟩)
  rcases List.eq_nil_or_concat out with rfl | ⟨o, y, rfl⟩
  · have hm := a2.push hR (by omega) (fun o y e => by simp at e)
    rw [hx] at hm
    simp (disch := omega) [-getElem?_pos, z1, z3, z4, hu1, eltsOf, Mem.elts]
    refine fin u [] M a3 a4 a5 a6 hlo fun u' M' w1 w2 w3 w4 => ?_
    simp (disch := omega) [-getElem?_pos]
    exact again_mk (i + 1, u', [] ++ [x], M') (by dsimp only; exact ⟨by omega, hm, w1, w2, w3, w4⟩) (by dsimp only; omega) (by simp) rfl
  · rw [List.concat_eq_append] at *
    have hm := a2.push hR (by omega)
    have hj := a2.join hR (by omega)
    rw [hx] at hm hj
    have gy := rowP_get (l := o ++ [y]) (i := o.length) (by simp)
    have ey : nthP (o ++ [y]) o.length = y := by simp [nthP]
    rw [ey] at gy
    have ln := rowP_length (o ++ [y])
    have ln2 : (o ++ [y]).length = o.length + 1 := by simp
    rw [ln2] at ln hu1 hlo
    obtain ⟨q', c, rfl, hq1, hq2, hq3⟩ : ∃ q' c, u = .sl (some (q', 0, 2)) (o.length + 1) c ∧ q' < M.next ∧ M.obj q' = some (.row 2 (rowP (o ++ [y])) true) ∧ (c = none ∨ c = some (o.length + 1)) := by
      rcases a3.ex with ⟨_, e⟩ | ⟨q', c, rfl, h1, h2, h3⟩
      · simp [rowP] at e
      · rw [ln] at h3; exact ⟨q', c, by rw [ln], h1, h2, h3⟩
    have el : ((o.length + 1 : Nat) : Int) - 1 = (o.length : Int) := by omega
    by_cases hg : y.2 < x.1
    · replace hm := hm (fun o' y' e => by
        have := List.append_inj_right' e rfl
        injection this with this
        rw [← this]; exact hg)
      simp (disch := omega) [-getElem?_pos, z1, z3, z4, hu1, eltsOf, Mem.elts, gy, el, hq2, ln]
      refine fin _ _ M a3 a4 a5 a6 (by rw [ln2]; exact hlo) fun u' M' w1 w2 w3 w4 => ?_
      simp (disch := omega) [-getElem?_pos]
      exact again_mk (i + 1, u', o ++ [y] ++ [x], M') (by dsimp only; exact ⟨by omega, hm, w1, w2, w3, w4⟩) (by dsimp only; omega) (by simp) rfl
    · replace hj := hj (by omega)
      have es := rowP_setLast o y (y.1, max y.2 x.2)
      simp (disch := omega) [-getElem?_pos, z1, z3, z4, hu1, gy, el, hq2, ln, es]
      have hq' : q' ∉ v2.fp := (a6 q' (by simp [V.fp])).2
      have hm' : m.next ≤ q' := (a6 q' (by simp [V.fp])).1
      have ln3 := rowP_length (o ++ [(y.1, max y.2 x.2)])
      have ln4 : (o ++ [(y.1, max y.2 x.2)]).length = o.length + 1 := by simp
      refine again_mk (i + 1, .sl (some (q', 0, 2)) (o.length + 1) c, o ++ [(y.1, max y.2 x.2)], _) (by
        dsimp only
        refine ⟨by omega, hj, ⟨.inr ⟨q', c, by rw [ln3, ln4], by simp; omega, by simp, by rw [ln3, ln4]; exact hq3⟩⟩, ?_, (a5.trans gN).upd hm' _, a6⟩
        exact (a4.grow gN).keep (Nat.le_refl _) fun p hp => if_neg fun e => hq' (by rw [← e]; exact hp)) (by dsimp only; omega) (by simp) rfl
end Go.Proofs.Ytbacmgdlhbfddaa
