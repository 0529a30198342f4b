/-
  THE FACTS; WHEELPARTS.
-/
import Derived.Test.YtkpdpdpilggcfaaXx
namespace Go.Proofs.Ytkpdpdpilggcfaa
open Go Go.AM
set_option linter.unusedVariables false
set_option linter.unusedSimpArgs false
set_option maxRecDepth 60000
set_option maxHeartbeats 8000000

theorem now_nil {m : Mem} {K : KV} (h : K (.int .i64 0) m) : ACalls Try.prog 16 [.ptr none] m K := by
  refine run_on (ctx_nil _) hm c16 (by simp) fun hf => ?_
  simp (disch := omega) [-getElem?_pos, b16]
  exact h
theorem len_nil {m : Mem} {K : KV} (h : K (.int .i64 0) m) : ACalls Try.prog 10 [.ptr none] m K := by
  refine run_on (ctx_nil _) hm c10 (by simp) fun hf => ?_
  simp (disch := omega) [-getElem?_pos, b10]
  exact h
theorem fixed_calls {m : Mem} {K : KV} (h : ∀ m', m.Grew m' → K (.bool true) m') : ACalls Try.prog 6 [] m K := by
  refine run_on (ctx_nil _) hm c6 (by simp) fun hf => ?_
  simp (disch := omega) [-getElem?_pos, b6]
  refine new_calls fun m1 D1 r hW1 g1 hD1 => ?_
  simp (disch := omega) [-getElem?_pos]
  refine put_calls hW1 (by omega) fun m2 D2 R2 e2 hR2 hW2 hS2 => ?_
  have hh : ∃ s, e2 = 0 ∧ R2 = [(7, 3, s)] := by
    cases hR2 with
    | range w => omega
    | busy _ w => simp at w
    | full _ _ w => simp at w
    | ok _ _ _ d s hd =>
      have : d = 3 := by omega
      subst this
      exact ⟨s, rfl, rfl⟩
  obtain ⟨s1, rfl, rfl⟩ := hh
  have G2 := hS2.toGrew g1 hD1
  have ge2 := hS2.ge g1.next hD1
  simp (disch := omega) [-getElem?_pos]
  refine put_calls hW2 (by omega) fun m3 D3 R3 e3 hR3 hW3 hS3 => ?_
  have hh : ∃ s, e3 = 0 ∧ R3 = [(7, 3, s1), (8, 20, s)] := by
    cases hR3 with
    | range w => omega
    | busy _ w => simp at w
    | full _ _ w => simp at w
    | ok _ _ _ d s hd =>
      have : d = 20 := by omega
      subst this
      exact ⟨s, rfl, rfl⟩
  obtain ⟨s2, rfl, rfl⟩ := hh
  have G3 := hS3.toGrew G2 ge2
  have ge3 := hS3.ge G2.next ge2
  simp (disch := omega) [-getElem?_pos]
  refine advance_calls hW3 (k := 3) (by decide) (by omega) fun m4 D4 v4 hW4 hS4 u4 f4 => ?_
  have er : rest [(7, 3, s1), (8, 20, s2)] (0 + 3) = [(8, 20, s2)] := rfl
  have eo : outR [(7, 3, s1), (8, 20, s2)] 0 3 = [7] := rfl
  rw [er] at hW4
  rw [eo] at u4
  have G4 := hS4.toGrew G3 ge3
  have ge4 := hS4.ge G3.next ge3
  simp (disch := omega) [-getElem?_pos]
  refine left_yes hW4 (x := (8, 20, s2)) (by simp) ?_
  simp (disch := omega) [-getElem?_pos]
  refine advance_calls hW4 (k := 17) (by decide) (by omega) fun m5 D5 v5 hW5 hS5 u5 f5 => ?_
  have er : rest [((8 : Int), 20, s2)] (0 + 3 + 17) = [] := rfl
  have eo : outR [((8 : Int), 20, s2)] (0 + 3) 17 = [8] := rfl
  rw [er] at hW5
  rw [eo] at u5
  have G5 := hS5.toGrew G4 ge4
  have ge5 := hS5.ge G4.next ge4
  have u4' := u4.keep hS5.next fun p hp => hS5.obj p (u4.ows.lt p hp) (f4 p hp).2
  have x1 := u4'.ows.sl.lenSl
  have x2 := u5.ows.sl.lenSl
  obtain ⟨p, q, full, rw, z1, z2, z3, z4, _⟩ := u4'.ows.sl.at (i := 0) (x := [.int .i64 7]) rfl .i64
  obtain ⟨p', q', full', rw', y1, y2, y3, y4, _⟩ := u5.ows.sl.at (i := 0) (x := [.int .i64 8]) rfl .i64
  rw [rowI_length] at x1 x2
  simp (disch := omega) [-getElem?_pos] at x1 x2 z1 y1
  simp (disch := omega) [-getElem?_pos, x1, x2, z1, z3, z4, y1, y3, y4]
  refine len_calls hW5 ?_
  simp (disch := omega) [-getElem?_pos]
  refine now_calls hW5 ?_
  simp (disch := omega) [-getElem?_pos]
  refine put_calls hW5 (by omega) fun m6 D6 R6 e6 hR6 hW6 hS6 => ?_
  have hh : e6 = 6 := by
    cases hR6 with
    | range w => rfl
    | busy w _ => omega
    | full w _ _ => omega
    | ok w _ _ d s hd => omega
  subst hh
  have G6 := hS6.toGrew G5 ge5
  simp (disch := omega) [-getElem?_pos]
  refine put_nil ?_
  simp (disch := omega) [-getElem?_pos]
  refine drop_nil fun m7 g7 => ?_
  simp (disch := omega) [-getElem?_pos]
  refine now_nil ?_
  simp (disch := omega) [-getElem?_pos]
  refine len_nil ?_
  simp (disch := omega) [-getElem?_pos]
  exact h _ (G6.trans g7)

/-! ### parts -/
def pr (x : It) : Int × Nat := (x.1, x.2.1)
theorem fire_pr {R S : List It} (h : R.map pr = S.map pr) (N : Nat) : (fireAt R N).map (·.1) = (fireAt S N).map (·.1) := by
  unfold fireAt
  induction R generalizing S with
  | nil => cases S with
    | nil => rfl
    | cons b S => simp at h
  | cons a R ih =>
    cases S with
    | nil => simp at h
    | cons b S =>
      simp only [List.map_cons, List.cons.injEq] at h
      have hp : pr a = pr b := h.1
      have e1 : (pr a).1 = (pr b).1 := by rw [hp]
      have e2 : (pr a).2 = (pr b).2 := by rw [hp]
      simp only [pr] at e1 e2
      simp only [List.filter_cons, e2]
      split
      · simp only [List.map_cons, e1, ih h.2]
      · exact ih h.2
theorem rest_pr {R S : List It} (h : R.map pr = S.map pr) (N : Nat) : (rest R N).map pr = (rest S N).map pr := by
  unfold rest
  induction R generalizing S with
  | nil => cases S with
    | nil => rfl
    | cons b S => simp at h
  | cons a R ih =>
    cases S with
    | nil => simp at h
    | cons b S =>
      simp only [List.map_cons, List.cons.injEq] at h
      have hp : pr a = pr b := h.1
      have e2 : (pr a).2 = (pr b).2 := by rw [hp]
      simp only [pr] at e2
      simp only [List.filter_cons, e2]
      split
      · simp only [List.map_cons, h.1, ih h.2]
      · exact ih h.2
theorem out_pr {R S : List It} (h : R.map pr = S.map pr) (n : Nat) : ∀ k, outR R n k = outR S n k
  | 0 => rfl
  | k + 1 => by rw [outR, outR, out_pr h n k, fire_pr h]
theorem rest_rest (R : List It) {a b : Nat} (h : a ≤ b) : rest (rest R a) b = rest R b := by
  unfold rest
  rw [List.filter_filter]
  refine List.filter_congr fun x _ => ?_
  by_cases h2 : b < x.2.1
  · simp [h2]; omega
  · simp [h2]
theorem fire_rest' (R : List It) {a N : Nat} (h : a < N) : fireAt (rest R a) N = fireAt R N := by
  unfold fireAt rest
  rw [List.filter_filter]
  refine List.filter_congr fun x _ => ?_
  by_cases h2 : x.2.1 = N
  · simp [h2]; omega
  · simp [h2]
theorem out_rest (R : List It) (a n : Nat) (h : a ≤ n) : ∀ k, outR (rest R a) n k = outR R n k
  | 0 => rfl
  | k + 1 => by rw [outR, outR, out_rest R a n h k, fire_rest' R (by omega)]
theorem out_add (R : List It) (n a : Nat) : ∀ b, outR R n (a + b) = outR R n a ++ outR R (n + a) b
  | 0 => by simp [outR]
  | b + 1 => by
    rw [← Nat.add_assoc, outR, outR, out_add R n a b, List.append_assoc, Nat.add_assoc n a b]
theorem put_pr {R S R' S' : List It} {n : Nat} {id z e e' : Int} (h : R.map pr = S.map pr) (h1 : PutR R n id z R' e) (h2 : PutR S n id z S' e') : R'.map pr = S'.map pr ∧ e = e' := by
  have hlen := congrArg List.length h
  simp only [List.length_map] at hlen
  have hex : (∃ x ∈ R, x.1 = id) ↔ ∃ x ∈ S, x.1 = id := by
    have e1 : R.map (·.1) = S.map (·.1) := by
      have := congrArg (List.map Prod.fst) h
      simpa [List.map_map, Function.comp_def, pr] using this
    have : id ∈ R.map (·.1) ↔ id ∈ S.map (·.1) := by rw [e1]
    simpa [List.mem_map] using this
  cases h1 with
  | range w => cases h2 with
    | range _ => exact ⟨h, rfl⟩
    | busy w2 _ => omega
    | full w2 _ _ => omega
    | ok w2 _ _ _ _ _ => omega
  | busy w w1 => cases h2 with
    | range w2 => omega
    | busy _ _ => exact ⟨h, rfl⟩
    | full _ w2 _ => exact absurd (hex.1 w1) w2
    | ok _ w2 _ _ _ _ => exact absurd (hex.1 w1) w2
  | full w w1 w2 => cases h2 with
    | range w2 => omega
    | busy _ w3 => exact absurd (hex.2 w3) w1
    | full _ _ _ => exact ⟨h, rfl⟩
    | ok _ _ w3 _ _ _ => omega
  | ok w w1 w2 d s hd => cases h2 with
    | range w2 => omega
    | busy _ w3 => exact absurd (hex.2 w3) w1
    | full _ _ w3 => omega
    | ok _ _ w3 d' s' hd' =>
      have : d = d' := by omega
      subst this
      exact ⟨by rw [List.map_append, List.map_append, h]; rfl, rfl⟩

abbrev shL : Sh := .slice 3 (.struct [.int .u8, .int .i64, .int .i64])
theorem act_of {m : Mem} {e : List V} (h : Is m (.struct [.int .u8, .int .i64, .int .i64]) e) : ∃ k id z, e = [.int .u8 k, .int .i64 id, .int .i64 z] ∧ 0 ≤ k ∧ k ≤ 255 := by
  simp only [Is, Iss] at h
  obtain ⟨_, _, rfl, ⟨k, rfl, w⟩, _, _, rfl, ⟨a, rfl, _⟩, _, _, rfl, ⟨b, rfl, _⟩, rfl⟩ := h
  have := wf_u8 w
  exact ⟨k, a, b, by simp, by omega, by omega⟩
theorem wf_u16 {n : Int} (h : (Lit.int .u16 n).wf = true) : 0 ≤ n ∧ n ≤ 65535 := by simpa [IntKind.min, IntKind.max, IntKind.signed, IntKind.bits] using wf_int h

/-- Two wheels alike. -/
structure Two (c : Nat) (M : Mem) (D1 D2 : List Nat) (r1 r2 n : Nat) (R1 R2 : List It) : Prop where
  X : Whl c M D1 r1 n R1
  Y : Whl c M D2 r2 n R2
  dj : ∀ p ∈ D1, p ∉ D2
  eq : R1.map pr = R2.map pr

theorem parts_law (m0 : Mem) (x0 x1 x2 : V) (h0 : IsV m0 shL x0) (h1 : IsV m0 (.int .u16) x1) (h2 : IsV m0 (.int .u16) x2) : ACalls Try.prog 3 [x0, x1, x2] m0 (fun r _ => r = .bool true) := by
  obtain ⟨a0, rfl, ha⟩ := h1.int
  have ha := wf_u16 ha
  obtain ⟨b0, rfl, hb⟩ := h2.int
  have hb := wf_u16 hb
  obtain ⟨a, hae⟩ : ∃ a : Nat, a0.tmod 30000 = a := ⟨(a0.tmod 30000).toNat, by rw [Int.tmod_eq_emod_of_nonneg (by omega)]; omega⟩
  obtain ⟨b, hbe⟩ : ∃ b : Nat, b0.tmod 30000 = b := ⟨(b0.tmod 30000).toNat, by rw [Int.tmod_eq_emod_of_nonneg (by omega)]; omega⟩
  have ha2 : a < 30000 := by rw [Int.tmod_eq_emod_of_nonneg (by omega)] at hae; omega
  have hb2 : b < 30000 := by rw [Int.tmod_eq_emod_of_nonneg (by omega)] at hbe; omega
  refine run_on (ctx_nil _) hm c3 (by simp) fun hf => ?_
  simp (disch := omega) [-getElem?_pos, b3]
  refine fixed_calls fun m00 g00 => ?_
  obtain ⟨es, hv, hml, hes⟩ := h0.slR hf
  replace hv := hv.grow g00
  replace hes : ∀ e ∈ es, Is m00 _ e := fun e he => Is.mono (fun q o ho => by rw [g00.obj q (hf q o ho)]; exact ho) _ _ (hes e he)
  have hv1 := hv.lenSl
  by_cases hl : (60 : Int) < es.length
  · simp (disch := omega) [-getElem?_pos, hv1]
  simp (disch := omega) [-getElem?_pos, hv1]
  obtain ⟨N, hN⟩ : ∃ N, es.length = N := ⟨_, rfl⟩
  rw [hN] at hl hv1
  refine new_calls fun m1 D1 r1 hW1 g1 hD1 => ?_
  simp (disch := omega) [-getElem?_pos]
  refine new_calls fun m2 D2 r2 hW2 g2 hD2 => ?_
  simp (disch := omega) [-getElem?_pos, hv1]
  have hT : Two 0 m2 D1 D2 r1 r2 0 [] [] := ⟨hW1.grow g2, hW2, fun p hp hq => by have := hW1.lt p hp; have := hD2 p hq; omega, rfl⟩
  have G0 : m00.Grew m2 := g1.trans g2
  have hge : (∀ p ∈ D1, m00.next ≤ p) ∧ ∀ p ∈ D2, m00.next ≤ p := ⟨hD1, fun p hp => by have := hD2 p hp; have := g1.next; omega⟩
  clear hW1 hW2 hD1 hD2
  refine exec_loopU (σ := Nat × List Nat × List Nat × List It × List It × Mem) (fun (i, _, _, _, _, _) => [(23, .int .i64 i)]) (fun (_, _, _, _, _, M) => M) (fun (i, D1, D2, R1, R2, M) => i ≤ N ∧ Two i M D1 D2 r1 r2 0 R1 R2 ∧ m00.Grew M ∧ (∀ p ∈ D1, m00.next ≤ p) ∧ ∀ p ∈ D2, m00.next ≤ p) (fun (i, _, _, _, _, _) => N - i) (0, D1, D2, [], [], m2) rfl
    (by dsimp only; exact ⟨by omega, hT, G0, hge.1, hge.2⟩) (by simp) ?_
  clear hT G0 hge
  intro (i, D1, D2, R1, R2, M) ⟨a1, a2, a3, a4, a5⟩
  by_cases hi : i < N
  · obtain ⟨e, he⟩ : ∃ e, es[i]? = some e := ⟨_, List.getElem?_eq_getElem (by omega)⟩
    obtain ⟨kk, id, z, rfl, hk0, hk1⟩ := act_of (hes e (mem_of_idx he))
    obtain ⟨p, q, full, rw, z1, z2, z3, z4, _⟩ := (hv.grow a3).at he .i64
    have gN := Mem.Grew.new M (.row 3 [[.int .u8 kk, .int .i64 id, .int .i64 z]] true)
    have oA : (M.new (.row 3 [[.int .u8 kk, .int .i64 id, .int .i64 z]] true)).obj M.next = some (.row 3 [[.int .u8 kk, .int .i64 id, .int .i64 z]] true) := by simp
    have bA : M.next < (M.new (.row 3 [[.int .u8 kk, .int .i64 id, .int .i64 z]] true)).next := by simp
    have hA1 : M.next ∉ D1 := fun e => by have := a2.X.lt _ e; omega
    simp (disch := omega) [-getElem?_pos, z1, z3, z4]
    generalize M.new (.row 3 [[.int .u8 kk, .int .i64 id, .int .i64 z]] true) = M1 at *
    generalize M.next = A at *
    have X1 := a2.X.grow gN
    have Y1 := a2.Y.grow gN
    have G1 := a3.trans gN
    refine put_calls X1 (by omega) fun M2 D1' R1' e1 p1 X2 S2 => ?_
    have oA2 : M2.obj A = _ := (S2.obj A bA hA1).trans oA
    have Y2 := Y1.step S2 a2.dj
    have dj2 := S2.apart (E := D2) Y1.lt (fun p hp hq => a2.dj p hp hq)
    have G2 := S2.toGrew G1 a4
    have ge2 := S2.ge G1.next a4
    simp (disch := omega) [-getElem?_pos, oA2]
    refine put_calls Y2 (by omega) fun M3 D2' R2' e2 p2 Y3 S3 => ?_
    have X3 := X2.step S3 (fun p hp hq => dj2 p hq hp)
    have dj3 := S3.apart (E := D1') X2.lt (fun p hp hq => dj2 p hq hp)
    simp (disch := omega) [-getElem?_pos]
    exact again_mk (i + 1, D1', D2', R1', R2', M3) (by dsimp only; exact ⟨by omega, ⟨X3, Y3, fun p hp hq => dj3 p hq hp, (put_pr a2.eq p1 p2).1⟩, S3.toGrew G2 a5, fun p hp => ge2 p hp, S3.ge G2.next a5⟩) (by dsimp only; omega) (by simp) rfl
  have hiN : i = N := by omega
  subst hiN
  have hle1 := a2.X.len
  have hdue1 : ∀ x ∈ R1, 0 < x.2.1 := fun x hx => (a2.X.due x hx).1
  have hdue2 : ∀ x ∈ R2, 0 < x.2.1 := fun x hx => (a2.Y.due x hx).1
  simp (disch := omega) [-getElem?_pos, hae]
  refine advance_calls a2.X (k := a) (by omega) (by omega) fun M1 E1 v1 X1 S1 u1 f1 => ?_
  have Y1 := a2.Y.step S1 a2.dj
  have dj1 := S1.apart (E := D2) a2.Y.lt (fun p hp hq => a2.dj p hp hq)
  simp (disch := omega) [-getElem?_pos, hbe]
  refine advance_calls X1 (k := b) (by omega) (by omega) fun M2 E2 v2 X2 S2 u2 f2 => ?_
  have Y2 := Y1.step S2 dj1
  have dj2 := S2.apart (E := D2) Y1.lt (fun p hp hq => dj1 p hp hq)
  have u1' := u1.keep S2.next fun p hp => S2.obj p (u1.ows.lt p hp) (f1 p hp).2
  have dv2 := S2.apart (E := v1.fp) u1.ows.lt (fun p hp hq => (f1 p hq).2 hp)
  rw [Nat.zero_add] at X1 u2 X2
  have k2 := u2.ows.sl.elts
  have q1 := outR_len hdue1 a
  have q2 := outR_len hdue1 (a + b)
  have q3 := outR_len hdue2 (a + b)
  have eAB : outR R1 0 (a + b) = outR R1 0 a ++ outR (rest R1 a) a b := by rw [out_add, out_rest R1 a a (Nat.le_refl _), Nat.zero_add]
  have q4 := congrArg List.length eAB
  rw [List.length_append] at q4
  simp (disch := omega) [-getElem?_pos, k2]
  refine u1'.app (by rw [rowI_length, rowI_length]; omega) (by rw [rowI_length, rowI_length]; omega) fun v3 M3 w1 w2 w3 => ?_
  rw [rowI_append, ← eAB, out_pr a2.eq] at w1
  have X3 := X2.step w2 (fun p hp hq => dv2 p hq hp)
  have Y3 := Y2.step w2 (fun p hp hq => by have := (f1 p hp).1; have := a2.Y.lt p hq; omega)
  have hv3 : ∀ p ∈ v3.fp, p ∉ D2 := fun p hp hq => by
    have h3 := a2.Y.lt p hq
    rcases w2.fp p hp with w | w
    · have := (f1 p w).1; omega
    · have := S1.next; have := S2.next; omega
  simp (disch := omega) [-getElem?_pos, hae, hbe]
  refine advance_calls Y3 (k := a + b) (by omega) (by omega) fun M4 F2 v4 Y4 S4 u4 f4 => ?_
  have X4 := X3.step S4 (fun p hp hq => dj2 p hq hp)
  have w1' := w1.keep S4.next fun p hp => S4.obj p (w1.ows.lt p hp) (hv3 p hp)
  rw [Nat.zero_add] at Y4
  have l1 := w1'.ows.sl.lenSl
  have l2 := u4.ows.sl.lenSl
  rw [rowI_length] at l1 l2
  have elen : (rest (rest R1 a) (a + b)).length = (rest R2 (a + b)).length := by
    rw [rest_rest R1 (by omega)]
    have := congrArg List.length (rest_pr a2.eq (a + b))
    simpa using this
  generalize hoe : outR R2 0 (a + b) = o at *
  have hol : o.length ≤ 1024 := by have := a2.Y.len; omega
  simp (disch := omega) [-getElem?_pos, l1, l2]
  refine len_calls X4 ?_
  simp (disch := omega) [-getElem?_pos]
  refine len_calls Y4 ?_
  simp (disch := omega) [-getElem?_pos, elen, l1]
  refine exec_loopU (σ := Nat) (fun i => [(74, .int .i64 i)]) (fun _ => M4) (fun i => i ≤ o.length) (fun i => o.length - i) 0 rfl (by omega) (by simp) ?_
  intro j hj
  by_cases hjn : j < o.length
  · obtain ⟨x, hx⟩ : ∃ x, o[j]? = some x := ⟨_, List.getElem?_eq_getElem (by omega)⟩
    have hx' : (rowI .i64 o)[j]? = some [.int .i64 x] := by unfold rowI; simp [hx]
    obtain ⟨p, c, full, rw, z1, z2, z3, z4, _⟩ := w1'.ows.sl.at hx' .i64
    obtain ⟨p', c', full', rw', y1, y2, y3, y4, _⟩ := u4.ows.sl.at hx' .i64
    simp (disch := omega) [-getElem?_pos, z1, z3, z4, y1, y3, y4]
    exact again_mk (j + 1) (by omega) (by omega) (by simp) rfl
  · have : j = o.length := by omega
    subst this
    simp (disch := omega) [-getElem?_pos]
end Go.Proofs.Ytkpdpdpilggcfaa
