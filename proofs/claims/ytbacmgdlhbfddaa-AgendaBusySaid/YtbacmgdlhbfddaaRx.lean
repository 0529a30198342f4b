/-
  AGENDAFINDS, AGENDABUSY, of what the functions of this seat do.
-/
import Derived.Test.YtbacmgdlhbfddaaQx
namespace Go.Proofs.Ytbacmgdlhbfddaa
open Go Go.AM
set_option linter.unusedVariables false
set_option linter.unusedSimpArgs false
set_option maxRecDepth 60000
set_option maxHeartbeats 8000000

abbrev shA : Sh := .slice 5 (.struct [.int .u8, .struct [.int .i64, .struct [.int .i64, .int .i64], .int .u64]])
abbrev L8 : List (FuncId × AFn) := [(5, F5)]
theorem x8 : CtxOk Try.prog (Ctx.of L8) := ctx_cons (ctx_nil _) s5

theorem made_calls' {z : Int} (q : Nat) (hz : z = q + 1) (hq : q < 64) {m0 : Mem} {v : V} {es : List (List V)} (hv : Sl m0 5 v es) (hes : ∀ e ∈ es, Is m0 (.struct [.int .u8, .struct [.int .i64, .struct [.int .i64, .int .i64], .int .u64]]) e) (hl : es.length ≤ 80) {K : KV}
    (h : ∀ s L D u m', Mir m0.next m' s ((18446744073709551615 / 2 ^ (63 - q) : Nat) : Int) L D u → L.length ≤ es.length → m0.Grew m' → K (.tup [.ptr (some (s, 0, 0)), u, .bool true]) m') : ACalls Try.prog 6 [.int .i64 z, v] m0 K := by
  have e : z = ((q + 1 : Nat) : Int) := by omega
  rw [e]
  have e2 : 64 - (q + 1) = 63 - q := by omega
  have := made_calls (pn := q + 1) (by omega) (by omega) hv hes hl (K := K)
  rw [e2] at this
  exact this h

def bzy (L : List Mt) (who t : Int) (k : Nat) : Bool := (L.take k).any fun a => meets a who && (decide (a.2.1 ≤ t) && decide (t < a.2.2.1))
theorem bzy_next {L : List Mt} {who t : Int} {a : Mt} {k : Nat} (h : L[k]? = some a) : bzy L who t (k + 1) = (bzy L who t k || (meets a who && (decide (a.2.1 ≤ t) && decide (t < a.2.2.1)))) := by
  unfold bzy; rw [takeS h, List.any_append]; simp
theorem bzy_all {L : List Mt} (hrt : ∀ a ∈ L, rt (spn a)) {who t : Int} : bzy L who t L.length = Inn (Bsy L who) t := by
  have hb := bsy_iff hrt (who := who) (t := t)
  have h2 : bzy L who t L.length = true ↔ ∃ a ∈ L, meets a who = true ∧ a.2.1 ≤ t ∧ t < a.2.2.1 := by
    unfold bzy; rw [List.take_length, List.any_eq_true]
    simp only [Bool.and_eq_true, decide_eq_true_eq]
  rw [Bool.eq_iff_iff, h2, hb]

theorem busy_law (m0 : Mem) (x0 x1 x2 x3 : V) (h0 : IsV m0 (.int .u8) x0) (h1 : IsV m0 shA x1) (h2 : IsV m0 (.int .u64) x2) (h3 : IsV m0 (.int .i64) x3) : ACalls Try.prog 4 [x0, x1, x2, x3] m0 (fun r _ => r = .bool true) := by
  obtain ⟨pp, rfl, hp⟩ := h0.int
  have hp := wf_u8 hp
  obtain ⟨who, rfl, _⟩ := h2.int
  obtain ⟨t, rfl, _⟩ := h3.int
  obtain ⟨q, hq⟩ : ∃ q : Nat, pp.tmod 64 = q := ⟨(pp.tmod 64).toNat, by rw [Int.tmod_eq_emod_of_nonneg (by omega)]; omega⟩
  have hq64 : q < 64 := by rw [Int.tmod_eq_emod_of_nonneg (by omega)] at hq; omega
  refine run_on x8 hm c4 (by simp) fun hf => ?_
  obtain ⟨es, hv, hml, hes⟩ := h1.slR hf
  have hv1 := hv.lenSl
  simp (disch := omega) [-getElem?_pos, b4, F5]
  by_cases hl : (60 : Int) < es.length
  · simp (disch := omega) [-getElem?_pos, hv1]
  simp (disch := omega) [-getElem?_pos, hv1, hq]
  refine made_calls' q (by omega) hq64 hv hes (by omega) fun s L D u m1 hP hLl gM => ?_
  obtain ⟨all, hall⟩ : ∃ x : Int, x = ((18446744073709551615 / 2 ^ (63 - q) : Nat) : Int) := ⟨_, rfl⟩
  rw [← hall] at hP
  have hlen := hP.W.len
  have hok := hP.W.ok
  have hrt : ∀ a ∈ L, rt (spn a) := fun a ha => (hok a ha).1
  have hu2 := hP.U.sl.lenSl
  obtain ⟨n, hn⟩ : ∃ n, L.length = n := ⟨_, rfl⟩
  have hbz := bzy_all hrt (who := who) (t := t)
  rw [List.length_map, hn] at hu2
  rw [hn] at hlen hbz
  simp (disch := omega) [-getElem?_pos, hu2]
  refine exec_loopU (σ := Nat × Mem) (fun (i, _) => [(12, .bool (bzy L who t i)), (32, .int .i64 i)]) (fun (_, M) => M) (fun (i, M) => i ≤ n ∧ m1.Grew M) (fun (i, _) => n - i) (0, m1) rfl ⟨by omega, Mem.Grew.refl _⟩ (by simp [bzy]) ?_
  intro (i, M) ⟨a1, a2⟩
  by_cases hin : i < n
  · obtain ⟨a, ha⟩ : ∃ a, L[i]? = some a := ⟨_, List.getElem?_eq_getElem (by omega)⟩
    obtain ⟨p, x, full, rw, z1, z2, z3, z4, _⟩ := (hP.U.grow a2).sl.at (mt_get ha) .i64
    simp only [mt] at z4
    have hbn := bzy_next (who := who) (t := t) ha
    have g4 := a2.trans (Mem.Grew.new M (.row 4 [[.int .i64 a.1, .int .i64 a.2.1, .int .i64 a.2.2.1, .int .u64 a.2.2.2]] true))
    cases hbb : bzy L who t i with
    | true =>
      rw [hbb, Bool.true_or] at hbn
      simp (disch := omega) [-getElem?_pos, z1, z3, z4, hbb]
      exact again_mk (i + 1, _) (by dsimp only; exact ⟨by omega, g4⟩) (by dsimp only; omega) (by simp [hbn, hbb]) rfl
    | false =>
      rw [hbb, Bool.false_or] at hbn
      unfold meets at hbn
      by_cases c1 : bAnd .u64 a.2.2.2 who = 0
      · simp only [c1, ne_eq, not_true_eq_false, decide_false, Bool.false_and] at hbn
        simp (disch := omega) [-getElem?_pos, z1, z3, z4, hbb, c1]
        exact again_mk (i + 1, _) (by dsimp only; exact ⟨by omega, g4⟩) (by dsimp only; omega) (by simp [hbn, hbb]) rfl
      by_cases c2 : a.2.1 ≤ t
      · by_cases c3 : t < a.2.2.1
        · simp only [c1, c2, c3, ne_eq, not_false_eq_true, decide_true, Bool.true_and] at hbn
          simp (disch := omega) [-getElem?_pos, z1, z3, z4, hbb, c1, c2, c3]
          exact again_mk (i + 1, _) (by dsimp only; exact ⟨by omega, g4⟩) (by dsimp only; omega) (by simp [hbn, hbb]) rfl
        · simp only [c1, c2, c3, ne_eq, not_false_eq_true, decide_true, Bool.true_and, decide_false] at hbn
          simp (disch := omega) [-getElem?_pos, z1, z3, z4, hbb, c1, c2, c3]
          exact again_mk (i + 1, _) (by dsimp only; exact ⟨by omega, g4⟩) (by dsimp only; omega) (by simp [hbn, hbb]) rfl
      · simp only [c1, c2, ne_eq, not_false_eq_true, decide_true, Bool.true_and, decide_false, Bool.false_and] at hbn
        simp (disch := omega) [-getElem?_pos, z1, z3, z4, hbb, c1, c2]
        exact again_mk (i + 1, _) (by dsimp only; exact ⟨by omega, g4⟩) (by dsimp only; omega) (by simp [hbn, hbb]) rfl
  have hien : i = n := by omega
  subst hien
  simp (disch := omega) [-getElem?_pos]
  refine busy_calls (hP.W.grow a2) fun v m2 W w1 w2 w3 w4 => ?_
  simp (disch := omega) [-getElem?_pos]
  refine has_calls w4 (by omega) fun m3 g3 => ?_
  rw [w1 t, ← hbz]
  simp (disch := omega) [-getElem?_pos]
  refine free10 ((hP.W.grow a2).grow (w3.trans g3)) fun f m4 hF g4 => ?_
  have hfb := fre_busy hok hF (who := who)
  rw [← hbz] at hfb
  have e1 : min ((63 : Int) - q).toNat 64 = 63 - q := by omega
  have e2 : (18446744073709551615 : Int).fdiv (2 ^ (63 - q)) = all := by
    rw [hall, Int.fdiv_eq_ediv_of_nonneg _ (by exact Int.le_of_lt (Int.pow_pos (by omega)))]
    exact (castdiv 18446744073709551615 (63 - q)).symm
  simp (disch := omega) [-getElem?_pos, hq, IntKind.bits, e1, e2]
  rw [← hfb]; simp

/-- Is one free, of the first, from a time on? -/
def frL (L : List Mt) (who t n : Int) (k : Nat) : Bool := (L.take k).all fun a => !meets a who || decide (min a.2.2.1 (t + n) ≤ max a.2.1 t)
theorem frL_next {L : List Mt} {who t n : Int} {a : Mt} {k : Nat} (h : L[k]? = some a) : frL L who t n (k + 1) = (frL L who t n k && (!meets a who || decide (min a.2.2.1 (t + n) ≤ max a.2.1 t))) := by
  unfold frL; rw [takeS h, List.all_append]; simp
theorem frL_all {L : List Mt} (hrt : ∀ a ∈ L, rt (spn a)) {who t n : Int} : frL L who t n L.length = true ↔ ∀ y, t ≤ y → y < t + n → Inn (Bsy L who) y = false := by
  unfold frL
  rw [List.take_length, List.all_eq_true]
  constructor
  · intro h y h1 h2
    rw [← Bool.not_eq_true]
    intro hb
    obtain ⟨a, ha, k1, k2, k3⟩ := (bsy_iff hrt).1 hb
    have := h a ha
    rw [k1, Bool.not_true, Bool.false_or, decide_eq_true_eq] at this
    omega
  · intro h a ha
    cases hm : meets a who with
    | false => rfl
    | true =>
      rw [Bool.not_true, Bool.false_or, decide_eq_true_eq]
      rcases Int.lt_or_le (max a.2.1 t) (min a.2.2.1 (t + n)) with w | w
      · have h1 := h (max a.2.1 t) (by omega) (by omega)
        have h2 := (bsy_iff hrt (who := who) (t := max a.2.1 t)).2 ⟨a, ha, hm, by omega, by omega⟩
        rw [h1] at h2; cases h2
      · exact w

theorem wf_i16 {n : Int} (h : (Lit.int .i16 n).wf = true) : -32768 ≤ n ∧ n ≤ 32767 := by simpa [IntKind.min, IntKind.max, IntKind.signed, IntKind.bits] using wf_int h

theorem finds_law (m0 : Mem) (x0 x1 x2 x3 x4 : V) (h0 : IsV m0 (.int .u8) x0) (h1 : IsV m0 shA x1) (h2 : IsV m0 (.int .u64) x2) (h3 : IsV m0 (.int .i16) x3) (h4 : IsV m0 (.int .u8) x4) : ACalls Try.prog 3 [x0, x1, x2, x3, x4] m0 (fun r _ => r = .bool true) := by
  obtain ⟨pp, rfl, hp⟩ := h0.int
  have hp := wf_u8 hp
  obtain ⟨who, rfl, _⟩ := h2.int
  obtain ⟨t, rfl, ht⟩ := h3.int
  have ht := wf_i16 ht
  obtain ⟨g, rfl, hg⟩ := h4.int
  have hg := wf_u8 hg
  obtain ⟨q, hq⟩ : ∃ q : Nat, pp.tmod 64 = q := ⟨(pp.tmod 64).toNat, by rw [Int.tmod_eq_emod_of_nonneg (by omega)]; omega⟩
  have hq64 : q < 64 := by rw [Int.tmod_eq_emod_of_nonneg (by omega)] at hq; omega
  refine run_on x8 hm c3 (by simp) fun hf => ?_
  obtain ⟨es, hv, hml, hes⟩ := h1.slR hf
  have hv1 := hv.lenSl
  simp (disch := omega) [-getElem?_pos, b3, F5]
  by_cases hl : (40 : Int) < es.length
  · simp (disch := omega) [-getElem?_pos, hv1]
  simp (disch := omega) [-getElem?_pos, hv1, hq]
  refine made_calls' q (by omega) hq64 hv hes (by omega) fun s L D u m1 hP hLl gM => ?_
  generalize ((18446744073709551615 / 2 ^ (63 - q) : Nat) : Int) = all at hP
  have hlen := hP.W.len
  have hok := hP.W.ok
  have hrt : ∀ a ∈ L, rt (spn a) := fun a ha => (hok a ha).1
  have hu2 := hP.U.sl.lenSl
  obtain ⟨n, hn⟩ : ∃ n, L.length = n := ⟨_, rfl⟩
  rw [List.length_map, hn] at hu2
  rw [hn] at hlen
  simp (disch := omega) [-getElem?_pos]
  by_cases hg0 : g = 0
  · subst hg0
    refine find_none (by omega) ?_
    simp (disch := omega) [-getElem?_pos]
  refine find_calls hP.W (by omega) (by omega) fun x m2 hF k3 k4 g2 => ?_
  by_cases he : x + g ≤ 1152921504606846976
  case neg =>
    rw [if_neg he]
    have hpos : 0 < n := by
      rcases Nat.eq_zero_or_pos n with w | w
      · exfalso
        have hL : L = [] := List.length_eq_zero_iff.1 (by omega)
        subst hL
        rcases Int.lt_or_le t x with w2 | w2
        · obtain ⟨y, _, _, hy⟩ := hF.first t (by omega) w2
          cases hy
        · omega
      · exact w
    simp (disch := omega) [-getElem?_pos, hg0, hu2]
  rw [if_pos he]
  have hle := hF.le
  simp (disch := omega) [-getElem?_pos, hg0]
  refine exec_loopU (σ := Int × Mem) (fun (y, _) => [(16, .int .i64 y)]) (fun (_, M) => M) (fun (y, M) => t ≤ y ∧ y ≤ x + 1 ∧ y ≤ t + 400 ∧ m2.Grew M) (fun (y, _) => (x + 1 - y).toNat) (t, m2) rfl ⟨by omega, by omega, by omega, Mem.Grew.refl _⟩ (by simp) ?_
  intro (y, M) ⟨a1, a2, a3, a4⟩
  by_cases hgo : y ≤ x ∧ y < t + 400
  · have hg1 := hgo.1
    have hg2 := hgo.2
    have hu3 := hu2
    simp (disch := omega) [-getElem?_pos, hu2]
    refine exec_loopU (σ := Nat × Mem) (fun (i, _) => [(17, .bool (frL L who y g i)), (82, .int .i64 i)]) (fun (_, M) => M) (fun (i, M) => i ≤ n ∧ m2.Grew M) (fun (i, _) => n - i) (0, M) rfl ⟨by omega, a4⟩ (by simp [frL]) ?_
    intro (i, M') ⟨b1, b2⟩
    by_cases hin : i < n
    · obtain ⟨a, ha⟩ : ∃ a, L[i]? = some a := ⟨_, List.getElem?_eq_getElem (by omega)⟩
      obtain ⟨p, c, full, rw, z1, z2, z3, z4, _⟩ := ((hP.U.grow g2).grow b2).sl.at (mt_get ha) .i64
      simp only [mt] at z4
      have hbn := frL_next (who := who) (t := y) (n := g) ha
      have g4 := b2.trans (Mem.Grew.new M' (.row 4 [[.int .i64 a.1, .int .i64 a.2.1, .int .i64 a.2.2.1, .int .u64 a.2.2.2]] true))
      cases hbb : frL L who y g i with
      | false =>
        rw [hbb, Bool.false_and] at hbn
        simp (disch := omega) [-getElem?_pos, z1, z3, z4, hbb]
        exact again_mk (i + 1, _) (by dsimp only; exact ⟨by omega, g4⟩) (by dsimp only; omega) (by simp [hbn, hbb]) rfl
      | true =>
        rw [hbb, Bool.true_and] at hbn
        unfold meets at hbn
        by_cases c1 : bAnd .u64 a.2.2.2 who = 0
        · simp only [c1, ne_eq, not_true_eq_false, decide_false, Bool.not_false, Bool.true_or] at hbn
          simp (disch := omega) [-getElem?_pos, z1, z3, z4, hbb, c1]
          exact again_mk (i + 1, _) (by dsimp only; exact ⟨by omega, g4⟩) (by dsimp only; omega) (by simp [hbn, hbb]) rfl
        simp only [c1, ne_eq, not_false_eq_true, decide_true, Bool.not_true, Bool.false_or] at hbn
        by_cases c2 : min a.2.2.1 (y + g) ≤ max a.2.1 y
        · rw [decide_eq_true c2] at hbn
          simp (disch := omega) [-getElem?_pos, z1, z3, z4, hbb, c1]
          exact again_mk (i + 1, _) (by dsimp only; exact ⟨by omega, g4⟩) (by dsimp only; omega) (by simp [hbn, hbb]) rfl
        · rw [decide_eq_false c2] at hbn
          simp (disch := omega) [-getElem?_pos, z1, z3, z4, hbb, c1]
          exact again_mk (i + 1, _) (by dsimp only; exact ⟨by omega, g4⟩) (by dsimp only; omega) (by simp [hbn, hbb]) rfl
    have hien : i = n := by omega
    subst hien
    have hfa := frL_all hrt (who := who) (t := y) (n := g)
    rw [hn] at hfa
    by_cases hyx : y = x
    · subst hyx
      have hft : frL L who y g i = true := hfa.2 hF.free
      simp (disch := omega) [-getElem?_pos, hft]
      exact again_mk (y + 1, M') (by dsimp only; exact ⟨by omega, by omega, by omega, b2⟩) (by dsimp only; omega) (by simp) rfl
    · have hft : frL L who y g i = false := by
        rw [← Bool.not_eq_true]
        intro e
        obtain ⟨z, k1, k2, k5⟩ := hF.first y (by omega) (by omega)
        rw [hfa.1 e z k1 k2] at k5; cases k5
      simp (disch := omega) [-getElem?_pos, hft]
      exact again_mk (y + 1, M') (by dsimp only; exact ⟨by omega, by omega, by omega, b2⟩) (by dsimp only; omega) (by simp) rfl
  have hend : ∀ (K : KV) (M : Mem), True := fun _ _ => trivial
  by_cases hx1 : y ≤ x
  case' pos =>
    have hx2 : ¬ y < t + 400 := fun e => hgo ⟨hx1, e⟩
    simp (disch := omega) [-getElem?_pos, hu2]
    clear hx2
  case' neg =>
    simp (disch := omega) [-getElem?_pos, hu2]
  all_goals
    refine exec_loopU (σ := Nat × Mem) (fun (i, _) => [(118, .int .i64 i)]) (fun (_, M) => M) (fun (i, M) => i ≤ n ∧ m2.Grew M) (fun (i, _) => n - i) (0, M) rfl ⟨by omega, a4⟩ (by simp) ?_
    intro (i, M') ⟨b1, b2⟩
    by_cases hin : i < n
    · obtain ⟨a, ha⟩ : ∃ a, L[i]? = some a := ⟨_, List.getElem?_eq_getElem (by omega)⟩
      obtain ⟨p, c, full, rw, z1, z2, z3, z4, _⟩ := ((hP.U.grow g2).grow b2).sl.at (mt_get ha) .i64
      simp only [mt] at z4
      have g4 := b2.trans (Mem.Grew.new M' (.row 4 [[.int .i64 a.1, .int .i64 a.2.1, .int .i64 a.2.2.1, .int .u64 a.2.2.2]] true))
      have hfa := frL_all hrt (who := who) (t := x) (n := g)
      have hft := hfa.2 hF.free
      unfold frL at hft
      rw [List.take_length, List.all_eq_true] at hft
      have hfa := hft a (mem_of_idx ha)
      unfold meets at hfa
      by_cases c1 : bAnd .u64 a.2.2.2 who = 0
      · simp (disch := omega) [-getElem?_pos, z1, z3, z4, c1]
        exact again_mk (i + 1, _) (by dsimp only; exact ⟨by omega, g4⟩) (by dsimp only; omega) (by simp) rfl
      · simp only [c1, ne_eq, not_false_eq_true, decide_true, Bool.not_true, Bool.false_or, decide_eq_true_eq] at hfa
        simp (disch := omega) [-getElem?_pos, z1, z3, z4, c1]
        exact again_mk (i + 1, _) (by dsimp only; exact ⟨by omega, g4⟩) (by dsimp only; omega) (by simp) rfl
    · have hien : i = n := by omega
      subst hien
      simp (disch := omega) [-getElem?_pos]
end Go.Proofs.Ytbacmgdlhbfddaa
