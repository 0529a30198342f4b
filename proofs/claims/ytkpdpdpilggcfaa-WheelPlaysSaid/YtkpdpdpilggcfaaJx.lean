/-
  A PLAIN ROW of items: where one stands, which fire.
-/
import Derived.Test.YtkpdpdpilggcfaaYx
namespace Go.Proofs.Ytkpdpdpilggcfaa
open Go Go.AM
set_option linter.unusedVariables false
set_option linter.unusedSimpArgs false
set_option maxRecDepth 60000
set_option maxHeartbeats 8000000

def ip (x : It) : List V := [.int .i64 x.1, .int .i64 x.2.1]
theorem ip_get {L : List It} {i : Nat} {a : It} (h : L[i]? = some a) : (L.map ip)[i]? = some (ip a) := by simp [h]
def flatL (P : List It) (n : Nat) : Nat → List It
  | 0 => []
  | k + 1 => flatL P n k ++ fireAt P (n + k + 1)
theorem flat_ids (P : List It) (n : Nat) : ∀ k, (flatL P n k).map (·.1) = outR P n k
  | 0 => rfl
  | k + 1 => by rw [flatL, outR, List.map_append, flat_ids P n k]
theorem flat_le {P : List It} {n : Nat} : ∀ {k : Nat} {y : It}, y ∈ flatL P n k → y ∈ P ∧ n < y.2.1 ∧ y.2.1 ≤ n + k
  | 0, y, h => by simp [flatL] at h
  | k + 1, y, h => by
    rw [flatL] at h
    rcases List.mem_append.1 h with h | h
    · have := flat_le h; exact ⟨this.1, this.2.1, by omega⟩
    · obtain ⟨h1, h2⟩ := fire_mem.1 h
      exact ⟨h1, by omega, by omega⟩
theorem flat_sorted (P : List It) (n : Nat) : ∀ k, (flatL P n k).Pairwise fun x y => x.2.1 ≤ y.2.1
  | 0 => List.Pairwise.nil
  | k + 1 => by
    rw [flatL, List.pairwise_append]
    refine ⟨flat_sorted P n k, ?_, fun a ha b hb => ?_⟩
    · refine List.Pairwise.imp_of_mem (fun {a b} ha hb _ => ?_) (List.pairwise_of_forall (R := fun _ _ => True) (fun _ _ => trivial))
      have h1 := (fire_mem.1 ha).2
      have h2 := (fire_mem.1 hb).2
      omega
    · have h1 := flat_le ha
      have h2 := (fire_mem.1 hb).2
      omega
theorem fire_app (P : List It) (x : It) (N : Nat) : fireAt (P ++ [x]) N = fireAt P N ++ (if x.2.1 = N then [x] else []) := by
  unfold fireAt; rw [List.filter_append]
  by_cases h : x.2.1 = N <;> simp [h]
theorem flat_high {P : List It} {x : It} {n : Nat} : ∀ {k : Nat}, n + k < x.2.1 → flatL (P ++ [x]) n k = flatL P n k
  | 0, _ => rfl
  | k + 1, h => by rw [flatL, flatL, flat_high (by omega), fire_app, if_neg (by omega), List.append_nil]
theorem flat_ins {P : List It} {x : It} {n : Nat} : ∀ {k j : Nat}, n < x.2.1 → x.2.1 ≤ n + k → j ≤ (flatL P n k).length → (∀ y ∈ (flatL P n k).take j, y.2.1 ≤ x.2.1) → (∀ y ∈ (flatL P n k).drop j, x.2.1 < y.2.1) → (flatL P n k).take j ++ x :: (flatL P n k).drop j = flatL (P ++ [x]) n k
  | 0, j, h1, h2, _, _, _ => by omega
  | k + 1, j, h1, h2, h3, h4, h5 => by
    rw [flatL] at h3 h4 h5 ⊢
    rw [flatL, fire_app]
    by_cases e : x.2.1 = n + k + 1
    · have hd : (flatL P n k ++ fireAt P (n + k + 1)).drop j = [] := by
        cases hh : (flatL P n k ++ fireAt P (n + k + 1)).drop j with
        | nil => rfl
        | cons y L =>
          have h6 := h5 y (by rw [hh]; simp)
          have h7 : y ∈ flatL P n k ++ fireAt P (n + k + 1) := List.mem_of_mem_drop (i := j) (by rw [hh]; simp)
          rw [show flatL P n k ++ fireAt P (n + k + 1) = flatL P n (k + 1) from rfl] at h7
          have := flat_le h7
          omega
      have ht : (flatL P n k ++ fireAt P (n + k + 1)).take j = flatL P n k ++ fireAt P (n + k + 1) := by
        have := List.take_append_drop j (flatL P n k ++ fireAt P (n + k + 1))
        rw [hd, List.append_nil] at this
        exact this
      rw [ht, hd, flat_high (by omega), if_pos e, List.append_assoc]
    · have hj : j ≤ (flatL P n k).length := by
        rcases Nat.lt_or_ge (flatL P n k).length j with w | w
        · exfalso
          rw [List.length_append] at h3
          have hB : 0 < (fireAt P (n + k + 1)).length := by omega
          have hm : (fireAt P (n + k + 1))[0] ∈ (flatL P n k ++ fireAt P (n + k + 1)).take j := by
            refine List.mem_iff_getElem?.2 ⟨(flatL P n k).length, ?_⟩
            rw [List.getElem?_take_of_lt w, List.getElem?_append_right (Nat.le_refl _), Nat.sub_self, List.getElem?_eq_getElem hB]
          have h6 := h4 _ hm
          have h7 := (fire_mem.1 (List.getElem_mem hB)).2
          omega
        · exact w
      rw [List.take_append_of_le_length hj, List.drop_append_of_le_length hj] at *
      have ih := flat_ins (k := k) (P := P) h1 (by omega) hj h4 fun y hy => h5 y (List.mem_append.2 (.inl hy))
      rw [if_neg (by omega), List.append_nil, ← ih]
      simp
theorem rest_app (P : List It) (x : It) (N : Nat) : rest (P ++ [x]) N = rest P N ++ (if N < x.2.1 then [x] else []) := by
  unfold rest; rw [List.filter_append]
  by_cases h : N < x.2.1 <;> simp [h]
theorem flat_len {P : List It} {n : Nat} (h : ∀ x ∈ P, n < x.2.1) (k : Nat) : (flatL P n k).length + (rest P (n + k)).length = P.length := by
  rw [← outR_len h k, ← flat_ids, List.length_map]

/-! ### place -/
inductive PlR (R : List It) (id : Int) : Int → Prop
  | no (h : ¬ ∃ x ∈ R, x.1 = id) : PlR R id (-1)
  | at (j : Nat) (x : It) (h : R[j]? = some x) (e : x.1 = id) : PlR R id j
theorem place_calls {m : Mem} {v : V} {R : List It} (hv : Sl m 2 v (R.map ip)) (hl : R.length ≤ 100000) {id : Int} {K : KV} (h : ∀ f m', PlR R id f → m.Grew m' → K (.int .i64 f) m') : ACalls Try.prog 12 [v, .int .i64 id] m K := by
  have hv1 := hv.lenSl
  rw [List.length_map] at hv1
  obtain ⟨n, hn⟩ : ∃ n, R.length = n := ⟨_, rfl⟩
  rw [hn] at hv1 hl
  refine run_on (ctx_nil _) hm c12 (by simp) fun hf => ?_
  simp (disch := omega) [-getElem?_pos, b12, hv1]
  refine exec_loopU (σ := Nat × Mem) (fun (i, _) => [(9, .int .i64 i)]) (fun (_, M) => M) (fun (i, M) => i ≤ n ∧ m.Grew M ∧ ∀ x ∈ R.take i, x.1 ≠ id) (fun (i, _) => n - i) (0, m) rfl (by dsimp only; exact ⟨by omega, Mem.Grew.refl _, by simp⟩) (by simp) ?_
  intro (i, M) ⟨a1, a2, a3⟩
  by_cases hi : i < n
  · obtain ⟨x, hx⟩ : ∃ x, R[i]? = some x := ⟨_, List.getElem?_eq_getElem (by omega)⟩
    obtain ⟨p, c, full, rw, z1, z2, z3, z4, _⟩ := (hv.grow a2).at (ip_get hx) .i64
    simp only [ip] at z4
    have gS := a2.trans (Mem.Grew.new M (.row 2 [[.int .i64 x.1, .int .i64 x.2.1]] true))
    by_cases e : x.1 = id
    · simp (disch := omega) [-getElem?_pos, z1, z3, z4, e]
      rw [e] at gS
      exact h _ _ (.at i x hx e) gS
    · simp (disch := omega) [-getElem?_pos, z1, z3, z4, e]
      exact again_mk (i + 1, _) (by dsimp only; exact ⟨by omega, gS, fun y hy => by
        rw [takeS hx] at hy
        rcases List.mem_append.1 hy with hy | hy
        · exact a3 y hy
        · simp at hy; subst hy; exact e⟩) (by dsimp only; omega) (by simp) rfl
  · have : i = n := by omega
    subst this
    rw [← hn, List.take_length] at a3
    simp (disch := omega) [-getElem?_pos]
    exact h _ _ (.no fun ⟨x, hx, e⟩ => a3 x hx e) a2

/-! ### fire -/
theorem fire_calls {m : Mem} {v : V} {R : List It} (hv : Sl m 2 v (R.map ip)) (hl : R.length ≤ 1024) {n k N : Nat} (hN : N = n + k) (hdue : ∀ x ∈ R, n < x.2.1) {K : KV} (h : ∀ o u m', Ows m' 1 o (rowI .i64 (outR R n k)) → Ows m' 2 u ((rest R N).map ip) → (∀ p ∈ o.fp, m.next ≤ p) → (∀ p ∈ u.fp, m.next ≤ p) → m.Grew m' → K (.tup [o, u]) m') : ACalls Try.prog 13 [v, .int .i64 N] m K := by
  have hv1 := hv.lenSl
  rw [List.length_map] at hv1
  obtain ⟨nn, hnn⟩ : ∃ nn, R.length = nn := ⟨_, rfl⟩
  rw [hnn] at hv1 hl
  refine run_on (ctx_nil _) hm c13 (by simp) fun hf => ?_
  simp (disch := omega) [-getElem?_pos, b13, hv1]
  refine exec_loopU (σ := Nat × V × V × Mem) (fun (i, lf, du, _) => [(7, lf), (8, du), (16, .int .i64 i)]) (fun (_, _, _, M) => M) (fun (i, lf, du, M) => i ≤ nn ∧ Ows M 2 lf ((rest (R.take i) N).map ip) ∧ Ows M 2 du ((flatL (R.take i) n k).map ip) ∧ m.Grew M ∧ (∀ p ∈ lf.fp, m.next ≤ p ∧ p ∉ du.fp) ∧ ∀ p ∈ du.fp, m.next ≤ p) (fun (i, _, _, _) => nn - i) (0, .sl none 0 (some 0), .sl none 0 (some 0), m) rfl
    (by
      dsimp only
      have e : flatL [] n k = [] := List.eq_nil_iff_forall_not_mem.2 fun y hy => by have := (flat_le hy).1; simp at this
      rw [List.take_zero, e]
      exact ⟨by omega, Ows.nil _ _, Ows.nil _ _, Mem.Grew.refl _, by simp [V.fp], by simp [V.fp]⟩) (by simp) ?_
  intro (i, lf, du, M) ⟨a1, a2, a3, a4, a5, a6⟩
  have hdT : ∀ x ∈ R.take i, n < x.2.1 := fun x hx => hdue x (List.mem_of_mem_take hx)
  have hfl := flat_len hdT k
  rw [← hN, List.length_take, Nat.min_eq_left (by omega)] at hfl
  by_cases hi : i < nn
  case neg =>
    have : i = nn := by omega
    subst this
    rw [← hnn, List.take_length] at a2 a3
    rw [← hnn, List.take_length, hnn] at hfl
    obtain ⟨dn, hdn⟩ : ∃ dn, (flatL R n k).length = dn := ⟨_, rfl⟩
    have hdl := a3.sl.lenSl
    rw [List.length_map, hdn] at hdl
    simp (disch := omega) [-getElem?_pos, hdl]
    refine exec_loopU (σ := Nat × V × Mem) (fun (j, o, _) => [(6, o), (59, .int .i64 j)]) (fun (_, _, M) => M) (fun (j, o, M') => j ≤ dn ∧ Ows M' 1 o (rowI .i64 (((flatL R n k).take j).map (·.1))) ∧ M.Grew M' ∧ ∀ p ∈ o.fp, M.next ≤ p) (fun (j, _, _) => dn - j) (0, .sl none 0 (some 0), M) rfl
      (by dsimp only; exact ⟨by omega, Ows.nil _ _, Mem.Grew.refl _, by simp [V.fp]⟩) (by simp) ?_
    intro (j, o, M') ⟨b1, b2, b3, b4⟩
    by_cases hj : j < dn
    · obtain ⟨x, hx⟩ : ∃ x, (flatL R n k)[j]? = some x := ⟨_, List.getElem?_eq_getElem (by omega)⟩
      obtain ⟨p, c, full, rw, z1, z2, z3, z4, _⟩ := (a3.grow b3).sl.at (ip_get hx) .i64
      simp only [ip] at z4
      have gS := (Mem.Grew.new M' (.row 2 [[.int .i64 x.1, .int .i64 x.2.1]] true)).trans (Mem.Grew.new _ (.row 1 [[.int .i64 x.1]] true))
      have hlw : (rowI .i64 (((flatL R n k).take j).map (·.1))).length ≤ 1024 := by rw [rowI_length, List.length_map, List.length_take]; omega
      simp (disch := omega) [-getElem?_pos, z1, z3, z4, eltsOf, Mem.elts]
      refine (b2.grow gS).app (by omega) (by omega) fun o' M2 e1 e2 e3 => ?_
      have e : rowI .i64 (((flatL R n k).take j).map (·.1)) ++ [[.int .i64 x.1]] = rowI .i64 (((flatL R n k).take (j + 1)).map (·.1)) := by rw [takeS hx, List.map_append, ← rowI_append]; rfl
      rw [e] at e1
      have s7 := (Stp.grow gS o.fp).trans e2
      simp (disch := omega) [-getElem?_pos]
      exact again_mk (j + 1, o', M2) (by dsimp only; exact ⟨by omega, e1, s7.toGrew b3 b4, s7.ge b3.next b4⟩) (by dsimp only; omega) (by simp) rfl
    · have : j = dn := by omega
      subst this
      rw [← hdn, List.take_length, flat_ids] at b2
      simp (disch := omega) [-getElem?_pos]
      exact h _ _ _ b2 (a2.grow b3) (fun p hp => by have := b4 p hp; have := a4.next; omega) (fun p hp => (a5 p hp).1) (a4.trans b3)
  obtain ⟨x, hx⟩ : ∃ x, R[i]? = some x := ⟨_, List.getElem?_eq_getElem (by omega)⟩
  have hxn := hdue x (mem_of_idx hx)
  obtain ⟨p, c, full, rw, z1, z2, z3, z4, _⟩ := (hv.grow a4).at (ip_get hx) .i64
  simp only [ip] at z4
  have gN := Mem.Grew.new M (.row 2 [[.int .i64 x.1, .int .i64 x.2.1]] true)
  have oB : (M.new (.row 2 [[.int .i64 x.1, .int .i64 x.2.1]] true)).obj M.next = some (.row 2 [[.int .i64 x.1, .int .i64 x.2.1]] true) := by simp
  have bB : M.next < (M.new (.row 2 [[.int .i64 x.1, .int .i64 x.2.1]] true)).next := by simp
  by_cases hd : N < x.2.1
  · have hlf : ((rest (R.take i) N).map ip).length ≤ 1024 := by rw [List.length_map]; omega
    simp (disch := omega) [-getElem?_pos, z1, z3, z4, eltsOf, Mem.elts]
    have gS := gN.trans (Mem.Grew.new _ (.row 2 [[.int .i64 x.1, .int .i64 x.2.1]] true))
    refine (a2.grow gS).app (by omega) (by omega) fun lf' M2 e1 e2 e3 => ?_
    have e : (rest (R.take i) N).map ip ++ [[.int .i64 x.1, .int .i64 x.2.1]] = (rest (R.take (i + 1)) N).map ip := by rw [takeS hx, rest_app, if_pos hd, List.map_append]; rfl
    rw [e] at e1
    have s7 := (Stp.grow gS lf.fp).trans e2
    have hdu := a3.step s7 (fun p hp hq => (a5 p hp).2 hq)
    simp (disch := omega) [-getElem?_pos]
    exact again_mk (i + 1, lf', du, M2) (by
      dsimp only
      refine ⟨by omega, e1, by rw [takeS hx, flat_high (by omega)]; exact hdu, s7.toGrew a4 (fun p hp => (a5 p hp).1), fun p hp => ⟨s7.ge a4.next (fun p hp => (a5 p hp).1) p hp, fun hq => ?_⟩, a6⟩
      rcases s7.fp p hp with w | w
      · exact (a5 p w).2 hq
      · have := a3.lt p hq; omega) (by dsimp only; omega) (by simp) rfl
  have ha2 : Ows (M.new (.row 2 [[.int .i64 x.1, .int .i64 x.2.1]] true)) 2 lf ((rest (R.take (i + 1)) N).map ip) := by rw [takeS hx, rest_app, if_neg hd, List.append_nil]; exact a2.grow gN
  have ha3 := a3.grow gN
  have hG := a4.trans gN
  have hlf2 := a2.lt
  have hdl := a3.sl.lenSl
  simp (disch := omega) [-getElem?_pos, z1, z3, z4]
  generalize M.new (.row 2 [[.int .i64 x.1, .int .i64 x.2.1]] true) = m' at *
  generalize M.next = B at *
  obtain ⟨L, hL⟩ : ∃ L, flatL (R.take i) n k = L := ⟨_, rfl⟩
  have hLs : L.Pairwise fun x y => x.2.1 ≤ y.2.1 := by rw [← hL]; exact flat_sorted _ _ _
  have hins := fun j => flat_ins (P := R.take i) (x := x) (n := n) (k := k) (j := j) hxn (by omega)
  rw [hL] at ha3 hdl hins hfl
  rw [List.length_map] at hdl
  obtain ⟨w, hw⟩ : ∃ w, L.length = w := ⟨_, rfl⟩
  rw [hw] at hdl hfl
  clear a2 a3 gN z1 z2 z3 z4 a4
  refine exec_loopU (σ := Nat) (fun j => [(11, .int .i64 j)]) (fun _ => m') (fun j => j ≤ w ∧ ∀ a ∈ L.take j, a.2.1 ≤ x.2.1) (fun j => w - j) 0 rfl ⟨by omega, by simp⟩ (by simp) ?_
  intro j ⟨c1, c2⟩
  by_cases hgo : j < w ∧ ∀ a, L[j]? = some a → a.2.1 ≤ x.2.1
  · obtain ⟨a, ha⟩ : ∃ a, L[j]? = some a := ⟨_, List.getElem?_eq_getElem (by omega)⟩
    obtain ⟨p, q, full, rw, z1, z2, z3, z4, _⟩ := ha3.sl.at (ip_get ha) .i64
    simp only [ip] at z4
    have hlt := hgo.2 a ha
    have hjk := hgo.1
    simp (disch := omega) [-getElem?_pos, z1, z3, z4, oB, hdl]
    exact again_mk (j + 1) ⟨by omega, fun b hb => by rw [takeS ha] at hb; rcases List.mem_append.1 hb with hb | hb; exact c2 b hb; simp at hb; subst hb; exact hlt⟩ (by omega) (by simp) rfl
  have hhi : ∀ a ∈ L.drop j, x.2.1 < a.2.1 := by
    intro a ha
    obtain ⟨y, hy⟩ := List.mem_iff_getElem?.1 ha
    rw [List.getElem?_drop] at hy
    have hyl := List.getElem?_eq_some_iff.1 hy
    have hyl1 := hyl.1
    obtain ⟨b, hb⟩ : ∃ b, L[j]? = some b := ⟨_, List.getElem?_eq_getElem (by omega)⟩
    have hbl := List.getElem?_eq_some_iff.1 hb
    have h1 : ¬ b.2.1 ≤ x.2.1 := fun e => hgo ⟨by omega, fun c hc => by rw [hb] at hc; injection hc with hc; subst hc; exact e⟩
    by_cases e0 : y = 0
    · subst e0; rw [Nat.add_zero, hb] at hy; injection hy with hy; subst hy; omega
    · have := List.pairwise_iff_getElem.1 hLs j (j + y) hbl.1 hyl.1 (by omega)
      rw [hbl.2, hyl.2] at this
      omega
  have hres0 := hins j (by omega) c2 hhi
  obtain ⟨vL, hL1, hL2, hL3⟩ := ha3.cutR .i64 j (by rw [List.length_map]; omega)
  obtain ⟨vR, hR1, hR2, hR3⟩ := ha3.cutL .i64 j (by rw [List.length_map]; omega)
  have hlen1 : ((L.map ip).take j).length = j := by simp; omega
  have hlen2 : ((L.map ip).drop j).length = w - j := by simp; omega
  have hres : (flatL (R.take (i + 1)) n k).map ip = (L.map ip).take j ++ [[.int .i64 x.1, .int .i64 x.2.1]] ++ (L.map ip).drop j := by rw [takeS hx, ← hres0]; simp [ip]
  have keepL : ∀ m'', (∀ p, p < m'.next → m''.obj p = m'.obj p) → m'.next ≤ m''.next → eltsOf 2 m'' vL = some ((L.map ip).take j) := fun m'' ho hn => (hL2.keep hn fun p hp => ho p (hL2.lt p hp)).sl.elts
  have keepR : ∀ m'', (∀ p, p < m'.next → m''.obj p = m'.obj p) → m'.next ≤ m''.next → eltsOf 2 m'' vR = some ((L.map ip).drop j) := fun m'' ho hn => (hR2.keep hn fun p hp => ho p (hR2.lt p hp)).sl.elts
  have last : ∀ {M6 : Mem} {f3 : V}, Stp m' M6 [] f3.fp → Exa M6 2 f3 ((flatL (R.take (i + 1)) n k).map ip) → i + 1 ≤ nn ∧ Ows M6 2 lf ((rest (R.take (i + 1)) N).map ip) ∧ Ows M6 2 f3 ((flatL (R.take (i + 1)) n k).map ip) ∧ m.Grew M6 ∧ (∀ p ∈ lf.fp, m.next ≤ p ∧ p ∉ f3.fp) ∧ ∀ p ∈ f3.fp, m.next ≤ p := by
    intro M6 f3 s3 u3
    have gF : m'.Grew M6 := ⟨s3.next, fun p hp => s3.obj p hp (by simp)⟩
    have hf3 : ∀ p ∈ f3.fp, m'.next ≤ p := s3.ge (Nat.le_refl _) (by simp)
    exact ⟨by omega, ha2.grow gF, u3.ows, hG.trans gF, fun p hp => ⟨(a5 p hp).1, fun hq => by have := hf3 p hq; have := ha2.lt p hp; omega⟩, fun p hp => by have := hf3 p hp; have := hG.next; omega⟩
  by_cases hjk : j < w
  focus
    obtain ⟨b, hb⟩ : ∃ b, L[j]? = some b := ⟨_, List.getElem?_eq_getElem (by omega)⟩
    obtain ⟨p, q, full, rw, z1, z2, z3, z4, _⟩ := ha3.sl.at (ip_get hb) .i64
    simp only [ip] at z4
    have hnl : ¬ b.2.1 ≤ x.2.1 := fun h => hgo ⟨hjk, fun c hc => by rw [hb] at hc; injection hc with hc; subst hc; exact h⟩
    simp (disch := omega) [-getElem?_pos, z1, z3, z4, oB, hdl, hL1, hR1]
    clear z1 z2 z3 z4 hnl hb
  rotate_left
  focus
    simp (disch := omega) [-getElem?_pos, hdl, hL1, hR1, oB]
  all_goals
    clear hL1 hR1 hL2 hR2 hL3 hR3 hgo hhi hins
    refine ⟨⟨?_, ?_, ?_⟩, ⟨?_, ?_⟩, ?_⟩
    · have hg := Mem.Grew.new m' (.row 2 [] true)
      rw [keepL _ hg.obj hg.next]
      simp (disch := omega)
      refine (Exa.lit (m := m') (sz := 2) (es := []) (n := 0) rfl).app (by rw [hlen1]; simp; omega) (by rw [hlen1]; simp; omega) fun f1 M4 u1 u2 u3 => ?_
      rw [List.nil_append] at u1
      have s1 : Stp m' M4 [] f1.fp := (⟨hg.next, fun p hp _ => hg.obj p hp, fun p hp => by simp [V.fp] at hp; exact .inr (by omega)⟩ : Stp m' _ [] (V.sl (some (m'.next, 0, 2)) 0 (some 0)).fp).trans u2
      have k0 : M4.obj B = some (.row 2 [[.int .i64 x.1, .int .i64 x.2.1]] true) := by rw [s1.obj B bB (by simp)]; exact oB
      simp (disch := omega) [eltsOf, Mem.elts, k0]
      refine (u1.grow (Mem.Grew.new M4 (.row 2 [[.int .i64 x.1, .int .i64 x.2.1]] true))).app (by rw [hlen1]; simp; omega) (by rw [hlen1]; simp; omega) fun f2 M5 u4 u5 u6 => ?_
      have s2 : Stp m' M5 [] f2.fp := s1.trans ((Stp.new M4 _ f1.fp).trans u5)
      simp (disch := omega)
      rw [keepR _ (fun p hp => s2.obj p hp (by simp)) s2.next]
      simp (disch := omega)
      refine u4.app (by rw [List.length_append, hlen1, hlen2]; simp; omega) (by rw [List.length_append, hlen1, hlen2]; simp; omega) fun f3 M6 u7 u8 u9 => ?_
      rw [← hres] at u7
      have s3 := s2.trans u8
      simp (disch := omega) [-getElem?_pos]
      exact again_mk (i + 1, lf, f3, M6) (by dsimp only; exact last s3 u7) (by dsimp only; omega) (by simp) rfl
    · have hg := Mem.Grew.new m' (.row 2 [] true)
      rw [keepL _ hg.obj hg.next]
      simp (disch := omega)
      refine (Exa.lit (m := m') (sz := 2) (es := []) (n := 0) rfl).app (by rw [hlen1]; simp; omega) (by rw [hlen1]; simp; omega) fun f1 M4 u1 u2 u3 => ?_
      rw [List.nil_append] at u1
      have s1 : Stp m' M4 [] f1.fp := (⟨hg.next, fun p hp _ => hg.obj p hp, fun p hp => by simp [V.fp] at hp; exact .inr (by omega)⟩ : Stp m' _ [] (V.sl (some (m'.next, 0, 2)) 0 (some 0)).fp).trans u2
      have k0 : M4.obj B = some (.row 2 [[.int .i64 x.1, .int .i64 x.2.1]] true) := by rw [s1.obj B bB (by simp)]; exact oB
      simp (disch := omega) [eltsOf, Mem.elts, k0]
      refine (u1.grow (Mem.Grew.new M4 (.row 2 [[.int .i64 x.1, .int .i64 x.2.1]] true))).app (by rw [hlen1]; simp; omega) (by rw [hlen1]; simp; omega) fun f2 M5 u4 u5 u6 => ?_
      have s2 : Stp m' M5 [] f2.fp := s1.trans ((Stp.new M4 _ f1.fp).trans u5)
      simp (disch := omega)
      rw [keepR _ (fun p hp => s2.obj p hp (by simp)) s2.next]
      simp (disch := omega)
      refine u4.app (by rw [List.length_append, hlen1, hlen2]; simp; omega) (by rw [List.length_append, hlen1, hlen2]; simp; omega) fun f3 M6 u7 u8 u9 => ?_
      rw [← hres] at u7
      have s3 := s2.trans u8
      simp (disch := omega) [-getElem?_pos]
      exact again_mk (i + 1, lf, f3, M6) (by dsimp only; exact last s3 u7) (by dsimp only; omega) (by simp) rfl
    · have hg := (Mem.Grew.new m' (.row 2 [] true)).trans (Mem.Grew.new _ (.row 2 [[.int .i64 x.1, .int .i64 x.2.1]] true))
      rw [keepL _ hg.obj hg.next]
      simp (disch := omega)
      refine (Exa.of (m := (m'.new (.row 2 [] true)).new (.row 2 [[.int .i64 x.1, .int .i64 x.2.1]] true)) (sz := 2) (q := m'.next) (es := []) (n := 0) rfl (by simp <;> omega) (by simp (disch := omega))).app (by rw [hlen1]; simp; omega) (by rw [hlen1]; simp; omega) fun f1 M4 u1 u2 u3 => ?_
      rw [List.nil_append] at u1
      have s1 : Stp m' M4 [] f1.fp := (⟨hg.next, fun p hp _ => hg.obj p hp, fun p hp => by simp [V.fp] at hp; exact .inr (by omega)⟩ : Stp m' _ [] (V.sl (some (m'.next, 0, 2)) 0 (some 0)).fp).trans u2
      have k1 := u2.obj (m'.next + 1) (by simp <;> omega) (by simp [V.fp] <;> omega)
      simp (disch := omega) at k1
      simp (disch := omega) [eltsOf, Mem.elts, k1]
      refine u1.app (by rw [hlen1]; simp; omega) (by rw [hlen1]; simp; omega) fun f2 M5 u4 u5 u6 => ?_
      have s2 : Stp m' M5 [] f2.fp := s1.trans u5
      simp (disch := omega)
      rw [keepR _ (fun p hp => s2.obj p hp (by simp)) s2.next]
      simp (disch := omega)
      refine u4.app (by rw [List.length_append, hlen1, hlen2]; simp; omega) (by rw [List.length_append, hlen1, hlen2]; simp; omega) fun f3 M6 u7 u8 u9 => ?_
      rw [← hres] at u7
      have s3 := s2.trans u8
      simp (disch := omega) [-getElem?_pos]
      exact again_mk (i + 1, lf, f3, M6) (by dsimp only; exact last s3 u7) (by dsimp only; omega) (by simp) rfl
    · have hg := Mem.Grew.new m' (.row 2 [] true)
      rw [keepL _ hg.obj hg.next]
      simp (disch := omega)
      refine (Exa.lit (m := m') (sz := 2) (es := []) (n := 0) rfl).app (by rw [hlen1]; simp; omega) (by rw [hlen1]; simp; omega) fun f1 M4 u1 u2 u3 => ?_
      rw [List.nil_append] at u1
      have s1 : Stp m' M4 [] f1.fp := (⟨hg.next, fun p hp _ => hg.obj p hp, fun p hp => by simp [V.fp] at hp; exact .inr (by omega)⟩ : Stp m' _ [] (V.sl (some (m'.next, 0, 2)) 0 (some 0)).fp).trans u2
      have k0 : M4.obj B = some (.row 2 [[.int .i64 x.1, .int .i64 x.2.1]] true) := by rw [s1.obj B bB (by simp)]; exact oB
      simp (disch := omega) [eltsOf, Mem.elts, k0]
      refine (u1.grow (Mem.Grew.new M4 (.row 2 [[.int .i64 x.1, .int .i64 x.2.1]] true))).app (by rw [hlen1]; simp; omega) (by rw [hlen1]; simp; omega) fun f2 M5 u4 u5 u6 => ?_
      have s2 : Stp m' M5 [] f2.fp := s1.trans ((Stp.new M4 _ f1.fp).trans u5)
      simp (disch := omega)
      rw [keepR _ (fun p hp => s2.obj p hp (by simp)) s2.next]
      simp (disch := omega)
      refine u4.app (by rw [List.length_append, hlen1, hlen2]; simp; omega) (by rw [List.length_append, hlen1, hlen2]; simp; omega) fun f3 M6 u7 u8 u9 => ?_
      rw [← hres] at u7
      have s3 := s2.trans u8
      simp (disch := omega) [-getElem?_pos]
      exact again_mk (i + 1, lf, f3, M6) (by dsimp only; exact last s3 u7) (by dsimp only; omega) (by simp) rfl
    · have hg := (Mem.Grew.new m' (.row 2 [] true)).trans (Mem.Grew.new _ (.row 2 [[.int .i64 x.1, .int .i64 x.2.1]] true))
      rw [keepL _ hg.obj hg.next]
      simp (disch := omega)
      refine (Exa.of (m := (m'.new (.row 2 [] true)).new (.row 2 [[.int .i64 x.1, .int .i64 x.2.1]] true)) (sz := 2) (q := m'.next) (es := []) (n := 0) rfl (by simp <;> omega) (by simp (disch := omega))).app (by rw [hlen1]; simp; omega) (by rw [hlen1]; simp; omega) fun f1 M4 u1 u2 u3 => ?_
      rw [List.nil_append] at u1
      have s1 : Stp m' M4 [] f1.fp := (⟨hg.next, fun p hp _ => hg.obj p hp, fun p hp => by simp [V.fp] at hp; exact .inr (by omega)⟩ : Stp m' _ [] (V.sl (some (m'.next, 0, 2)) 0 (some 0)).fp).trans u2
      have k1 := u2.obj (m'.next + 1) (by simp <;> omega) (by simp [V.fp] <;> omega)
      simp (disch := omega) at k1
      simp (disch := omega) [eltsOf, Mem.elts, k1]
      refine u1.app (by rw [hlen1]; simp; omega) (by rw [hlen1]; simp; omega) fun f2 M5 u4 u5 u6 => ?_
      have s2 : Stp m' M5 [] f2.fp := s1.trans u5
      simp (disch := omega)
      rw [keepR _ (fun p hp => s2.obj p hp (by simp)) s2.next]
      simp (disch := omega)
      refine u4.app (by rw [List.length_append, hlen1, hlen2]; simp; omega) (by rw [List.length_append, hlen1, hlen2]; simp; omega) fun f3 M6 u7 u8 u9 => ?_
      rw [← hres] at u7
      have s3 := s2.trans u8
      simp (disch := omega) [-getElem?_pos]
      exact again_mk (i + 1, lf, f3, M6) (by dsimp only; exact last s3 u7) (by dsimp only; omega) (by simp) rfl
    · have hg := (Mem.Grew.new m' (.row 2 [[.int .i64 x.1, .int .i64 x.2.1]] true)).trans (Mem.Grew.new _ (.row 2 [] true))
      rw [keepL _ hg.obj hg.next]
      simp (disch := omega)
      refine (Exa.of (m := (m'.new (.row 2 [[.int .i64 x.1, .int .i64 x.2.1]] true)).new (.row 2 [] true)) (sz := 2) (q := m'.next + 1) (es := []) (n := 0) rfl (by simp <;> omega) (by simp (disch := omega))).app (by rw [hlen1]; simp; omega) (by rw [hlen1]; simp; omega) fun f1 M4 u1 u2 u3 => ?_
      rw [List.nil_append] at u1
      have s1 : Stp m' M4 [] f1.fp := (⟨hg.next, fun p hp _ => hg.obj p hp, fun p hp => by simp [V.fp] at hp; exact .inr (by omega)⟩ : Stp m' _ [] (V.sl (some (m'.next + 1, 0, 2)) 0 (some 0)).fp).trans u2
      have k1 := u2.obj (m'.next) (by simp <;> omega) (by simp [V.fp] <;> omega)
      simp (disch := omega) at k1
      simp (disch := omega) [eltsOf, Mem.elts, k1]
      refine u1.app (by rw [hlen1]; simp; omega) (by rw [hlen1]; simp; omega) fun f2 M5 u4 u5 u6 => ?_
      have s2 : Stp m' M5 [] f2.fp := s1.trans u5
      simp (disch := omega)
      rw [keepR _ (fun p hp => s2.obj p hp (by simp)) s2.next]
      simp (disch := omega)
      refine u4.app (by rw [List.length_append, hlen1, hlen2]; simp; omega) (by rw [List.length_append, hlen1, hlen2]; simp; omega) fun f3 M6 u7 u8 u9 => ?_
      rw [← hres] at u7
      have s3 := s2.trans u8
      simp (disch := omega) [-getElem?_pos]
      exact again_mk (i + 1, lf, f3, M6) (by dsimp only; exact last s3 u7) (by dsimp only; omega) (by simp) rfl
end Go.Proofs.Ytkpdpdpilggcfaa
