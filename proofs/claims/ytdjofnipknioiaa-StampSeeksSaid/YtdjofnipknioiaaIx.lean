/-
  ROWS AS BYTES: what puts them, the program's and the document's.
-/
import Derived.Test.YtdjofnipknioiaaHx
import Derived.Test.YtdjofnipknioiaaAm24
namespace Go.Proofs.Ytdjofnipknioiaa
open Go Go.AM
set_option linter.unusedVariables false
set_option linter.unusedSimpArgs false
set_option maxRecDepth 8000
set_option maxHeartbeats 4000000

/-- May a row be? -/
def Rt (l : List Int) : Prop := ∀ i, i < l.length → -4611686018427387904 ≤ nth l i ∧ nth l i ≤ 4611686018427387904 ∧ (0 < i → nth l (i - 1) ≤ nth l i)
instance (l : List Int) : Decidable (Rt l) := by unfold Rt; infer_instance

theorem right_calls {m : Mem} {v : V} {l : List Int} (hv : Sl m 1 v (rowI .i64 l)) (hl : l.length ≤ 1000000) {K : KV} (h : K (.bool (decide (Rt l))) m) : ACalls Try.prog 10 [v] m K := by
  obtain ⟨N, hN, hv1⟩ := len1 hv
  refine run_on (ctx_nil _) hm c10 (by simp) fun hf => ?_
  simp (disch := omega) [b10, hv1]
  refine exec_loopU (σ := Nat) (fun i => [(7, .int .i64 i)]) (fun _ => m) (fun i => i ≤ N ∧ ∀ j, j < i → -4611686018427387904 ≤ nth l j ∧ nth l j ≤ 4611686018427387904 ∧ (0 < j → nth l (j - 1) ≤ nth l j)) (fun i => N - i) 0 rfl ⟨by omega, fun j h1 => by omega⟩ (by simp) ?_
  intro i ⟨a1, a2⟩
  by_cases hi : i < N
  · obtain ⟨p, q, full, rw, z1, z2, z3, z4⟩ := at1 hv (y := i) (by omega)
    obtain ⟨t, ht⟩ : ∃ t, nth l i = t := ⟨_, rfl⟩
    rw [ht] at z4
    have bad : ¬ (-4611686018427387904 ≤ t ∧ t ≤ 4611686018427387904 ∧ (0 < i → nth l (i - 1) ≤ t)) → decide (Rt l) = false := fun hb => decide_eq_false fun hr => hb (by have := hr i (by omega); rw [ht] at this; exact this)
    by_cases h1 : t < -4611686018427387904
    · rw [bad (fun e => by omega)] at h
      clear bad a2
      simp (disch := omega) [-getElem?_pos, z1, z3, z4]
      exact h
    by_cases h2 : 4611686018427387904 < t
    · rw [bad (fun e => by omega)] at h
      clear bad a2
      simp (disch := omega) [-getElem?_pos, z1, z3, z4]
      exact h
    have next : (0 < i → nth l (i - 1) ≤ t) → ∀ j, j < i + 1 → -4611686018427387904 ≤ nth l j ∧ nth l j ≤ 4611686018427387904 ∧ (0 < j → nth l (j - 1) ≤ nth l j) := fun hh j hj => by
      by_cases e : j = i
      · subst e; rw [ht]; exact ⟨by omega, by omega, hh⟩
      · exact a2 j (by omega)
    clear a2
    by_cases h3 : 0 < i
    · obtain ⟨p', q', full', rw', z1', z2', z3', z4'⟩ := at1 hv (y := i - 1) (by omega)
      have ei : ((i - 1 : Nat) : Int) = (i : Int) - 1 := by omega
      rw [ei] at z1'
      by_cases h4 : t < nth l (i - 1)
      · rw [bad (fun e => by have := e.2.2 h3; omega)] at h
        clear bad next
        simp (disch := omega) [-getElem?_pos, z1, z3, z4, z1', z3', z4']
        exact h
      · replace next := next (fun _ => by omega)
        clear bad
        simp (disch := omega) [-getElem?_pos, z1, z3, z4, z1', z3', z4']
        exact again_mk (i + 1) ⟨by omega, next⟩ (by omega) (by simp) rfl
    · replace next := next (fun h => absurd h h3)
      clear bad
      simp (disch := omega) [-getElem?_pos, z1, z3, z4]
      exact again_mk (i + 1) ⟨by omega, next⟩ (by omega) (by simp) rfl
  · have : Rt l := fun j hj => a2 j (by omega)
    rw [decide_eq_true this] at h
    clear a2 this
    simp (disch := omega)
    exact h

theorem Srt.mono {l : List Int} (h : Srt l) : ∀ d i, i + d < l.length → nth l i ≤ nth l (i + d)
  | 0, i, _ => by rw [Nat.add_zero]; omega
  | d + 1, i, hd => by
    have h1 := h.mono d i (by omega)
    have h2 := h (i + d + 1) (by omega) (by omega)
    rw [show i + d + 1 - 1 = i + d by omega] at h2
    rw [show i + (d + 1) = i + d + 1 by omega]
    omega
theorem rt_iff (l : List Int) : Rt l ↔ Srt l ∧ (0 < l.length → -4611686018427387904 ≤ nth l 0 ∧ nth l (l.length - 1) ≤ 4611686018427387904) := by
  constructor
  · intro h
    exact ⟨fun i h1 h2 => (h i h2).2.2 h1, fun h0 => ⟨(h 0 h0).1, (h (l.length - 1) (by omega)).2.1⟩⟩
  · intro ⟨h1, h2⟩ i hi
    have h3 := h2 (by omega)
    have h4 := h1.mono i 0 (by omega)
    have h5 := h1.mono (l.length - 1 - i) i (by omega)
    rw [show i + (l.length - 1 - i) = l.length - 1 by omega] at h5
    rw [Nat.zero_add] at h4
    exact ⟨by omega, by omega, fun h0 => h1 i h0 hi⟩

/-- check. -/
def chkE (l : List Int) : Int := if 4096 < l.length then 10 else if Rt l then 0 else 2
theorem check_calls {m : Mem} {v : V} {l : List Int} (hv : Sl m 1 v (rowI .i64 l)) (hl : l.length ≤ 1000000) {K : KV} (h : K (.int .i64 (chkE l)) m) : ACalls Try.prog 16 [v] m K := by
  obtain ⟨N, hN, hv1⟩ := len1 hv
  refine run_on x1 hm c16 (by simp) fun hf => ?_
  by_cases h1 : (4096 : Int) < N
  · have e : chkE l = 10 := by unfold chkE; rw [if_pos (by omega)]
    rw [e] at h
    simp (disch := omega) [b16, hv1]
    exact h
  have hr := rt_iff l
  simp (disch := omega) [b16, hv1]
  refine sorted_calls hv hl ?_
  by_cases h2 : Srt l
  case neg =>
    have e : chkE l = 2 := by unfold chkE; rw [if_neg (by omega), if_neg (fun e => h2 (hr.1 e).1)]
    rw [e] at h
    rw [decide_eq_false h2]
    clear hr
    simp (disch := omega)
    exact h
  rw [decide_eq_true h2]
  by_cases h0 : 0 < N
  case neg =>
    have e : chkE l = 0 := by unfold chkE; rw [if_neg (by omega), if_pos (hr.2 ⟨h2, fun e => by omega⟩)]
    rw [e] at h
    clear hr
    simp (disch := omega) [hv1]
    exact h
  obtain ⟨p, q, full, rw, z1, z2, z3, z4⟩ := at1 hv (y := 0) (by omega)
  obtain ⟨p', q', full', rw', z1', z2', z3', z4'⟩ := at1 hv (y := N - 1) (by omega)
  have ei : ((N - 1 : Nat) : Int) = (N : Int) - 1 := by omega
  rw [ei] at z1'
  simp at z1
  by_cases h3 : nth l 0 < -4611686018427387904
  · have e : chkE l = 2 := by unfold chkE; rw [if_neg (by omega), if_neg (fun e => by have := (hr.1 e).2 (by omega); omega)]
    rw [e] at h
    clear hr
    simp (disch := omega) [-getElem?_pos, hv1, z1, z3, z4]
    exact h
  by_cases h4 : 4611686018427387904 < nth l (N - 1)
  · have e : chkE l = 2 := by unfold chkE; rw [if_neg (by omega), if_neg (fun e => by have := (hr.1 e).2 (by omega); rw [hN] at this; omega)]
    rw [e] at h
    clear hr
    simp (disch := omega) [-getElem?_pos, hv1, z1, z3, z4, z1', z3', z4']
    exact h
  · have e : chkE l = 0 := by unfold chkE; rw [if_neg (by omega), if_pos (hr.2 ⟨h2, fun e => ⟨by omega, by rw [hN]; omega⟩⟩)]
    rw [e] at h
    clear hr
    simp (disch := omega) [-getElem?_pos, hv1, z1, z3, z4, z1', z3', z4']
    exact h

/-- What is put for the i-th time, and for those from there on. -/
def code' (l : List Int) (i : Nat) : Nat := if i = 0 then sgn (nth l 0) else (nth l i - nth l (i - 1)).toNat
def encS (l : List Int) : Nat → Nat → List Int
  | _, 0 => []
  | i, k + 1 => numB (code' l i) ++ encS l (i + 1) k
/-- A row's bytes. -/
def bytesI (l : List Int) : List Int := numB l.length ++ encS l 0 l.length

theorem sgn_lt {t : Int} (h1 : -4611686018427387904 ≤ t) (h2 : t ≤ 4611686018427387904) : sgn t < 18446744073709551616 := by
  unfold sgn; split <;> omega
theorem code_lt {l : List Int} (hr : Rt l) {i : Nat} (hi : i < l.length) : code' l i < 18446744073709551616 := by
  unfold code'
  have h1 := hr i hi
  split
  · rename_i h0; subst h0; exact sgn_lt h1.1 h1.2.1
  · rename_i h0
    have h2 := hr (i - 1) (by omega)
    omega
theorem encS_len {l : List Int} (hr : Rt l) : ∀ (k i : Nat), i + k ≤ l.length → (encS l i k).length ≤ 10 * k
  | 0, i, _ => by simp [encS]
  | k + 1, i, h => by
    have h1 := numB_10 (code_lt hr (i := i) (by omega))
    have h2 := encS_len hr k (i + 1) (by omega)
    simp only [encS, List.length_append]; omega
theorem encS_rng {l : List Int} (hr : Rt l) : ∀ (k i : Nat), i + k ≤ l.length → ∀ x ∈ encS l i k, 0 ≤ x ∧ x ≤ 255
  | 0, i, _ => by simp [encS]
  | k + 1, i, h => by
    intro x hx
    simp only [encS] at hx
    rcases List.mem_append.1 hx with hx | hx
    · exact numB_rng 9 _ (by have := code_lt hr (i := i) (by omega); omega) x hx
    · exact encS_rng hr k (i + 1) (by omega) x hx
theorem bytes_rng {l : List Int} (hr : Rt l) (hl : l.length ≤ 100000) : ∀ x ∈ bytesI l, 0 ≤ x ∧ x ≤ 255 := by
  intro x hx
  rcases List.mem_append.1 hx with hx | hx
  · exact numB_rng 9 _ (by omega) x hx
  · exact encS_rng hr _ 0 (by omega) x hx
theorem bytes_len {l : List Int} (hr : Rt l) (hl : l.length ≤ 50000) : (bytesI l).length ≤ 10 * l.length + 10 := by
  have h1 := numB_10 (n := l.length) (by omega)
  have h2 := encS_len hr l.length 0 (by omega)
  unfold bytesI; rw [List.length_append]; omega

/-- The document's number. -/
theorem number21 : ∀ (n : Nat), n < 18446744073709551616 → ∀ (m : Mem) (K : KV), (∀ v' m', Exa m' 1 v' (rowI .u8 (numB n)) → m.Grew m' → (∀ p ∈ v'.fp, m.next ≤ p) → K v' m') → ACalls Try.prog 21 [.int .u64 n] m K := by
  intro n
  induction n using Nat.strongRecOn with
  | _ n ih =>
    intro hn m K h
    refine run_on (ctx_nil _) hm c21 (by simp) fun hf => ?_
    by_cases h1 : n < 128
    · simp (disch := omega) [b21]
      rw [numB_lt h1] at h
      exact h _ _ (Exa.lit (m := m) (es := rowI .u8 [(n : Int)]) rfl) (Mem.Grew.new _ _) (by simp [V.fp])
    · have e1 : ((n : Int)).tmod 128 = ((n % 128 : Nat) : Int) := by rw [Int.tmod_eq_emod_of_nonneg (by omega)]; omega
      have e2 : ((n : Int)).tdiv 128 = ((n / 128 : Nat) : Int) := by rw [Int.tdiv_eq_ediv_of_nonneg (by omega)]; omega
      simp (disch := omega) [b21, e1, e2]
      have e3 : ((n : Int) / 128) = ((n / 128 : Nat) : Int) := by omega
      rw [e3]
      have hlen := numB_10 (n := n / 128) (by omega)
      refine ih (n / 128) (by omega) (by omega) _ _ fun v' m' q1 q2 q3 => ?_
      have e4 := q1.ows.sl.elts
      simp (disch := omega) [e4]
      refine (Exa.of (es := [[.int .u8 ((n : Int) % 128 + 128)]]) rfl (by have := q2.next; simp at this; omega) (by rw [q2.obj m.next (by simp)]; simp)).app (by rw [rowI_length]; simp; omega) (by rw [rowI_length]; simp; omega) fun v2 m2 w1 w2 w3 => ?_
      simp (disch := omega)
      rw [numB_ge h1] at h
      have hs : Stp m m2 [] v2.fp := by
        have h5 : Stp m m' [] [m.next] := ⟨by have := q2.next; simp at this; omega, fun p hp _ => by rw [q2.obj p (by simp; omega), new_obj, if_neg (by omega)], fun p hp => by simp at hp; exact .inr (by omega)⟩
        exact h5.trans w2
      refine h v2 m2 ?_ ⟨hs.next, fun p hp => hs.obj p hp (by simp)⟩ (fun p hp => by rcases hs.fp p hp with q | q; simp at q; exact q)
      have e5 : rowI .u8 (((n % 128 + 128 : Nat) : Int) :: numB (n / 128)) = [[.int .u8 ((n : Int) % 128 + 128)]] ++ rowI .u8 (numB (n / 128)) := by
        have : ((n % 128 + 128 : Nat) : Int) = (n : Int) % 128 + 128 := by omega
        rw [this]; rfl
      rw [e5]; exact w1

/-- The document's bytes. -/
theorem bytes_calls {m : Mem} {v : V} {l : List Int} (hv : Sl m 1 v (rowI .i64 l)) (hr : Rt l) (hl : l.length ≤ 10000) {K : KV} (h : ∀ v' m', Exa m' 1 v' (rowI .u8 (bytesI l)) → m.Grew m' → (∀ p ∈ v'.fp, m.next ≤ p) → K v' m') : ACalls Try.prog 13 [v] m K := by
  obtain ⟨N, hN, hv1⟩ := len1 hv
  refine run_on (ctx_nil _) hm c13 (by simp) fun hf => ?_
  simp (disch := omega) [b13, hv1]
  refine number21 N (by omega) _ _ fun v1 m1 q1 q2 q3 => ?_
  simp (disch := omega) [hv1]
  refine exec_loopU (σ := Nat × List Int × V × Mem) (fun (i, _, u, _) => [(3, u), (12, .int .i64 i)]) (fun (_, _, _, M) => M) (fun (i, cs, u, M) => i ≤ N ∧ Exa M 1 u (rowI .u8 cs) ∧ cs ++ encS l i (N - i) = bytesI l ∧ m.Grew M ∧ (∀ p ∈ u.fp, m.next ≤ p)) (fun (i, _) => N - i) (0, numB N, v1, m1) rfl
    ⟨by omega, q1, by unfold bytesI; rw [hN]; rfl, q2, q3⟩ (by simp) ?_
  clear q1 q2 q3
  intro (i, cs, u, M) ⟨a1, a2, a3, a4, a5⟩
  have hbl := bytes_len hr (by omega)
  rw [← a3, List.length_append] at hbl
  by_cases hi : i < N
  · obtain ⟨p, q, full, rw', z1, z2, z3, z4⟩ := at1 (hv.grow a4) (y := i) (by omega)
    have hri := hr i (by omega)
    obtain ⟨t, ht⟩ : ∃ t, nth l i = t := ⟨_, rfl⟩
    rw [ht] at z4 hri
    have hcl := code_lt hr (i := i) (by omega)
    obtain ⟨c, hc⟩ : ∃ c, code' l i = c := ⟨_, rfl⟩
    rw [hc] at hcl
    have h10 := numB_10 hcl
    have hk : N - i = (N - (i + 1)) + 1 := by omega
    rw [hk, encS, hc, ← List.append_assoc] at a3
    by_cases hi0 : 0 < i
    case' pos =>
      obtain ⟨p', q', full', rw2, z1', z2', z3', z4'⟩ := at1 (hv.grow a4) (y := i - 1) (by omega)
      have hri' := hr (i - 1) (by omega)
      have hri2 := hri.2.2 hi0
      have ei : ((i - 1 : Nat) : Int) = (i : Int) - 1 := by omega
      rw [ei] at z1'
      obtain ⟨la, hla⟩ : ∃ la, nth l (i - 1) = la := ⟨_, rfl⟩
      rw [hla] at z4' hri' hri2
      have ec : IntKind.u64.wrap (IntKind.u64.wrap t - IntKind.u64.wrap la) = c := by
        rw [← hc, code', if_neg (by omega), ht, hla, IntKind.wrap_u64, IntKind.wrap_u64, IntKind.wrap_u64]; omega
      simp (disch := omega) [-getElem?_pos, z1, z3, z4, z1', z3', z4', ec]
    case' neg =>
      have hi00 : i = 0 := by omega
      by_cases ht0 : t < 0
      case' pos =>
        have ec : 2 * -t - 1 = c := by rw [← hc, code', if_pos hi00, ← hi00, ht, sgn, if_pos ht0]; omega
        simp (disch := omega) [-getElem?_pos, z1, z3, z4, ec]
      case' neg =>
        have ec : 2 * t = c := by rw [← hc, code', if_pos hi00, ← hi00, ht, sgn, if_neg ht0]; omega
        simp (disch := omega) [-getElem?_pos, z1, z3, z4, ec]
    all_goals
      refine number21 c hcl _ _ fun v2 m2 q1 q2 q3 => ?_
      have e4 := q1.ows.sl.elts
      simp (disch := omega) [e4]
      refine (a2.grow q2).app (by rw [rowI_length, rowI_length]; omega) (by rw [rowI_length, rowI_length]; omega) fun v3 m3 w1 w2 w3 => ?_
      simp (disch := omega)
      have hs : Stp M m3 u.fp v3.fp := (Stp.grow q2 u.fp).trans w2
      refine again_mk (i + 1, cs ++ numB c, v3, m3) ?_ (by dsimp only; omega) (by simp) rfl
      dsimp only
      exact ⟨by omega, by rw [← rowI_append]; exact w1, a3, hs.toGrew a4 a5, hs.ge a4.next a5⟩
  · have : i = N := by omega
    subst this
    rw [Nat.sub_self, encS, List.append_nil] at a3
    subst a3
    simp (disch := omega)
    exact h _ _ a2 a4 a5

/-- Put. -/
theorem put9_calls {m : Mem} {v : V} {l : List Int} (hv : Sl m 1 v (rowI .i64 l)) (hl : l.length ≤ 10000) {K : KV}
    (h1 : chkE l ≠ 0 → K (.tup [.sl none 0 (some 0), .int .i64 (chkE l)]) m)
    (h2 : chkE l = 0 → Rt l → l.length ≤ 4096 → ∀ v' m', Ows m' 1 v' (rowI .u8 (bytesI l)) → m.Grew m' → (∀ p ∈ v'.fp, m.next ≤ p) → K (.tup [v', .int .i64 0]) m') : ACalls Try.prog 9 [v] m K := by
  obtain ⟨N, hN, hv1⟩ := len1 hv
  refine run_on (ctx_nil _) hm c9 (by simp) fun hf => ?_
  simp (disch := omega) [b9]
  refine check_calls hv (by omega) ?_
  by_cases he : chkE l = 0
  case neg =>
    simp (disch := omega) [he]
    exact h1 he
  have hr : Rt l := by
    unfold chkE at he
    split at he
    · omega
    · split at he
      · assumption
      · omega
  have hl2 : l.length ≤ 4096 := by
    unfold chkE at he
    split at he <;> omega
  replace h2 := h2 he hr hl2
  simp (disch := omega) [he, hv1]
  refine put_calls (bs := []) (n := N) (Ows.nil _ _) (by omega) (by simp) fun v1 m1 q1 q2 => ?_
  rw [List.nil_append] at q1
  simp (disch := omega) [hv1]
  refine exec_loopU (σ := Nat × List Int × V × Mem) (fun (i, _, u, _) => [(5, u), (19, .int .i64 i)]) (fun (_, _, _, M) => M) (fun (i, cs, u, M) => i ≤ N ∧ Ows M 1 u (rowI .u8 cs) ∧ cs ++ encS l i (N - i) = bytesI l ∧ m.Grew M ∧ (∀ p ∈ u.fp, m.next ≤ p)) (fun (i, _) => N - i) (0, numB N, v1, m1) rfl
    ⟨by omega, q1, by unfold bytesI; rw [hN]; rfl, q2.toGrew (Mem.Grew.refl m) (by simp [V.fp]), fun p hp => by rcases q2.fp p hp with q | q; simp [V.fp] at q; exact q⟩ (by simp) ?_
  clear q1 q2
  intro (i, cs, u, M) ⟨a1, a2, a3, a4, a5⟩
  have hbl := bytes_len hr (by omega)
  rw [← a3, List.length_append] at hbl
  by_cases hi : i < N
  · obtain ⟨p, q, full, rw', z1, z2, z3, z4⟩ := at1 (hv.grow a4) (y := i) (by omega)
    have hri := hr i (by omega)
    obtain ⟨t, ht⟩ : ∃ t, nth l i = t := ⟨_, rfl⟩
    rw [ht] at z4 hri
    have hcl := code_lt hr (i := i) (by omega)
    obtain ⟨c, hc⟩ : ∃ c, code' l i = c := ⟨_, rfl⟩
    rw [hc] at hcl
    have hk : N - i = (N - (i + 1)) + 1 := by omega
    rw [hk, encS, hc, ← List.append_assoc] at a3
    by_cases hi0 : 0 < i
    case' pos =>
      obtain ⟨p', q', full', rw2, z1', z2', z3', z4'⟩ := at1 (hv.grow a4) (y := i - 1) (by omega)
      have hri' := hr (i - 1) (by omega)
      have hri2 := hri.2.2 hi0
      have ei : ((i - 1 : Nat) : Int) = (i : Int) - 1 := by omega
      rw [ei] at z1'
      obtain ⟨la, hla⟩ : ∃ la, nth l (i - 1) = la := ⟨_, rfl⟩
      rw [hla] at z4' hri' hri2
      have ec : IntKind.u64.wrap (IntKind.u64.wrap t - IntKind.u64.wrap la) = c := by
        rw [← hc, code', if_neg (by omega), ht, hla, IntKind.wrap_u64, IntKind.wrap_u64, IntKind.wrap_u64]; omega
      simp (disch := omega) [-getElem?_pos, z1, z3, z4, z1', z3', z4', ec]
    case' neg =>
      have hi00 : i = 0 := by omega
      have ec : sgn t = c := by rw [← hc, code', if_pos hi00, ← hi00, ht]
      simp (disch := omega) [-getElem?_pos, z1, z3, z4]
      refine signed_calls (by omega) (by omega) ?_
      rw [ec]
      simp (disch := omega)
    all_goals
      refine put_calls a2 hcl (by omega) fun v3 m3 w1 w2 => ?_
      simp (disch := omega)
      refine again_mk (i + 1, cs ++ numB c, v3, m3) ?_ (by dsimp only; omega) (by simp) rfl
      dsimp only
      exact ⟨by omega, w1, a3, w2.toGrew a4 a5, w2.ge a4.next a5⟩
  · have : i = N := by omega
    subst this
    rw [Nat.sub_self, encS, List.append_nil] at a3
    subst a3
    simp (disch := omega)
    exact h2 _ _ a2 a4 a5

/-- Size. -/
theorem size_calls {m : Mem} {v : V} {l : List Int} (hv : Sl m 1 v (rowI .i64 l)) (hl : l.length ≤ 10000) {K : KV}
    (h : ∀ m', m.Grew m' → K (.int .i64 (if chkE l = 0 then ((bytesI l).length : Int) else 0)) m') : ACalls Try.prog 11 [v] m K := by
  refine run_on (ctx_nil _) hm c11 (by simp) fun hf => ?_
  simp (disch := omega) [b11]
  refine put9_calls hv hl (fun he => ?_) (fun he hr hl2 v' m' q1 q2 q3 => ?_)
  · rw [if_neg he] at h
    simp (disch := omega)
    exact h _ (Mem.Grew.refl m)
  · rw [if_pos he] at h
    have := q1.sl.lenSl
    rw [rowI_length] at this
    simp (disch := omega) [this]
    exact h _ q2

/-- same. -/
theorem same_calls {m : Mem} {v w : V} {a b : List Int} (hv : Sl m 1 v (rowI .i64 a)) (hw : Sl m 1 w (rowI .i64 b)) (hl : a.length ≤ 1000000) (hl2 : b.length ≤ 1000000) {K : KV} (h : K (.bool (decide (a = b))) m) : ACalls Try.prog 14 [v, w] m K := by
  obtain ⟨N, hN, hv1⟩ := len1 hv
  obtain ⟨N2, hN2, hw1⟩ := len1 hw
  refine run_on (ctx_nil _) hm c14 (by simp) fun hf => ?_
  by_cases hne : N = N2
  case neg =>
    rw [decide_eq_false (fun e => hne (by rw [← hN, ← hN2, e]))] at h
    simp (disch := omega) [b14, hv1, hw1]
    exact h
  subst hne
  simp (disch := omega) [b14, hv1, hw1]
  refine exec_loopU (σ := Nat) (fun i => [(13, .int .i64 i)]) (fun _ => m) (fun i => i ≤ N ∧ ∀ j, j < i → nth a j = nth b j) (fun i => N - i) 0 rfl ⟨by omega, fun j hj => by omega⟩ (by simp) ?_
  intro i ⟨a1, a2⟩
  by_cases hi : i < N
  · obtain ⟨p, q, full, rw', z1, z2, z3, z4⟩ := at1 hv (y := i) (by omega)
    obtain ⟨p', q', full', rw2, z1', z2', z3', z4'⟩ := at1 hw (y := i) (by omega)
    by_cases e : nth a i = nth b i
    · simp (disch := omega) [-getElem?_pos, z1, z3, z4, z1', z3', z4', e]
      refine again_mk (i + 1) ⟨by omega, fun j hj => ?_⟩ (by omega) (by simp) rfl
      by_cases ej : j = i
      · subst ej; exact e
      · exact a2 j (by omega)
    · rw [decide_eq_false (fun e2 => e (by rw [e2]))] at h
      simp (disch := omega) [-getElem?_pos, z1, z3, z4, z1', z3', z4', e]
      exact h
  · have : a = b := by
      apply List.ext_getElem?
      intro j
      by_cases hj : j < N
      · rw [nth_get (by omega), nth_get (by omega), a2 j (by omega)]
      · rw [List.getElem?_eq_none (by omega), List.getElem?_eq_none (by omega)]
    rw [decide_eq_true this] at h
    simp (disch := omega)
    exact h

end Go.Proofs.Ytdjofnipknioiaa
