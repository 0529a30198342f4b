/-
  THE STATEMENTS of this seat, of what its functions compute.
-/
import Derived.Test.YtombcpkfhhlacaaFx
namespace Go.Proofs.Ytombcpkfhhlacaa
open Go Go.AM
set_option linter.unusedVariables false
set_option maxRecDepth 8000

def code : CodeL := [(6, 76, b6), (7, 40, b7), (8, 36, b8), (9, 8, b9), (10, 11, b10), (12, 21, b12), (13, 14, b13), (14, 39, b14), (15, 8, b15), (16, 12, b16), (17, 6, b17), (18, 9, b18), (19, 26, b19), (20, 13, b20), (21, 12, b21)]
theorem codeOk : CodeOk Try.prog code := ⟨c6, c7, c8, c9, c10, c12, c13, c14, c15, c16, c17, c18, c19, c20, c21, trivial⟩

/-- The facts. -/
def F6 : AFn
  | [], m => some (.bool true, m)
  | _, _ => none
theorem s6 : ASpec Try.prog 6 F6 := by
  intro args m r m' h
  unfold F6 at h; split at h <;> cases h
  exact reckon hm codeOk 20 20 rfl rfl (by kernel_rfl) _

noncomputable abbrev L6 : List (FuncId × AFn) := (6, F6) :: (13, F13) :: (14, F14) :: L5
theorem x6 : CtxOk Try.prog (Ctx.of L6) := ctx_cons (ctx_cons (ctx_cons x5 s14) s13) s6

theorem new_ok {m : Mem} (hf : m.Fresh) {zs : List Int} {a : Option (Nat × Nat × Nat)} {n : Nat} {c : Option Nat} (hi : m.ints .i64 (.sl a n c) = some zs) (ha : a.isSome = true ∨ (a = none ∧ c = some 0 ∧ n = 0)) (hs : Steps zs) :
    ∃ r m1, F7 [.sl a n c] m = some (.ptr (some (r, 0, 0)), m1) ∧ stepsOf m1 (.ptr (some (r, 0, 0))) = some zs ∧ ∀ q o, m.obj q = some o → m1.obj q = some o := by
  obtain ⟨hl, hg⟩ := Mem.ints_some hi
  rcases a with _ | p
  · rcases ha with h | ⟨_, rfl, rfl⟩
    · simp at h
    · have : zs = [] := List.eq_nil_of_length_eq_zero hl
      subst this
      refine ⟨m.next, m.new (.row 1 [[.sl none 0 (some 0)]] true), ?_, ?_, new_keep hf _⟩
      · simp [F7, Mem.ints, hs, F15]
      · simp [stepsOf, Mem.ints]
  · have hn : n ≤ 1000000 := by have := hs.1; omega
    by_cases h0 : n = 0
    · subst h0
      have : zs = [] := List.eq_nil_of_length_eq_zero hl
      subst this
      refine ⟨m.next + 1, (m.new (.row 1 [] true)).new (.row 1 [[.sl (some (m.next, 0, 1)) 0 (some 0)]] true), ?_, ?_, fun q o h => new_keep (new_fresh hf _) _ q o (new_keep hf _ q o h)⟩
      · simp [F7, Mem.ints, hs, F15]
      · simp [stepsOf, Mem.ints]
    · have hne : zs ≠ [] := fun e => h0 (by rw [← hl, e]; rfl)
      have hf1 := new_fresh hf (.row 1 [] true)
      have hf2 := new_fresh hf1 (.row 1 (rowI .i64 zs) true)
      refine ⟨m.next + 2, ((m.new (.row 1 [] true)).new (.row 1 (rowI .i64 zs) true)).new (.row 1 [[.sl (some (m.next + 1, 0, 1)) n none]] true), ?_, ?_, fun q o h => new_keep hf2 _ q o (new_keep hf1 _ q o (new_keep hf _ q o h))⟩
      · simp [F7, hi, hs, F15, hn, h0]
      · simp only [stepsOf, new_obj, new_next, if_true]
        rw [Mem.ints_row (es := rowI .i64 zs) (rw := true) (by simp) (by rw [rowI_length]; omega)]
        rw [List.drop_zero, rowI_take, List.take_of_length_le (by omega), intsOf_rowI]

theorem above_nth {zs : List Int} (hs : Steps zs) (x : Int) : (∀ i, i < above zs x → nth zs i ≤ clampT x) ∧ ∀ i, above zs x ≤ i → i < zs.length → clampT x < nth zs i := by
  obtain ⟨_, h1, h2, h3⟩ := cut_sorted hs.sorted (clampT x)
  refine ⟨fun i hi => ?_, fun i hi hi2 => ?_⟩
  · have := h2 i hi; simp at this; omega
  · have := h3 i hi hi2; simpa using this

theorem above_mono (zs : List Int) {x y : Int} (h : clampT x ≤ clampT y) : above zs x ≤ above zs y :=
  List.countP_mono_left fun z _ hz => by simp at hz ⊢; omega

theorem plain_even {zs : List Int} (hs : Steps zs) (x : Int) (hx : clampT x = x) : plainZ zs (x + above zs x) = (x, false) := by
  obtain ⟨h1, h2⟩ := above_nth hs x
  rw [hx] at h1 h2
  have hle := above_le zs x
  generalize above zs x = k at *
  have hk : ahead zs (x + k) = k := by
    refine Cut.unique (cutN_ok (hs.turns (x + k))) ⟨hle, fun i hi => ?_, fun i hi hi2 => ?_⟩
    · have := h1 i hi; simp; omega
    · have := h2 i hi hi2; simp; omega
  unfold plainZ
  rw [hk]
  by_cases h0 : 0 < k
  · have := h1 (k - 1) (by omega)
    rw [if_neg (by omega)]; simp
  · rw [if_neg (by omega)]; simp

theorem back (x more : Int) (hx : -2147483648 ≤ x ∧ x ≤ 2147483647) (hmo : 0 ≤ more ∧ more ≤ 65535) (zs : List Int) (a : Option (Nat × Nat × Nat)) (c : Option Nat) (ha : a = some (0, 0, 1) ∨ (a = none ∧ c = some 0 ∧ zs = [])) :
    ACalls Try.prog 5 [.sl a zs.length c, .int .i32 x, .int .u16 more] (Mem.empty.arg 1 (rowI .i64 zs)) (fun r _ => r = .bool true) := by
  refine run_callsW x6 hm c5 (by simp) fun hf => ?_
  have hi : (Mem.empty.arg 1 (rowI .i64 zs)).ints .i64 (.sl a zs.length c) = some zs := arg_ints ha
  generalize Mem.empty.arg 1 (rowI .i64 zs) = m0 at *
  by_cases hl : (60 : Int) < zs.length
  · simp [b5, F6, hl]
  have hn : zs.length ≤ 1000000 := by omega
  by_cases hs : Steps zs
  · obtain ⟨r, m1, h1, h2, h3⟩ := new_ok hf hi (by rcases ha with h | h; exact .inl (by rw [h]; rfl); exact .inr ⟨h.1, h.2.1, by rw [h.2.2]; rfl⟩) hs
    have hcx : clampT x = x := by unfold clampT; omega
    have hcm : clampT (x + more) = x + more := by unfold clampT; omega
    have hle := above_le zs x
    have hle2 := above_le zs (x + more)
    have hmono := above_mono zs (x := x) (y := x + more) (by omega)
    have hce : clampT (x + above zs x) = x + above zs x := by unfold clampT; omega
    have hp := plain_even hs x hcx
    simp [b5, F6, hl, F8, hi, hn, hs, h1, F10, F14, F13, h2, IntWalk.i64_in x (by omega), IntWalk.i64_in more (by omega), IntWalk.i64_in (x + more) (by omega), hcx, hcm, hce, hp, IntWalk.i64_in (x + above zs x + more) (by omega)]
    omega
  · simp [b5, F6, hl, F8, hi, hn, hs]

theorem tells (x y : Int) (zs : List Int) (a : Option (Nat × Nat × Nat)) (c : Option Nat) (ha : a = some (0, 0, 1) ∨ (a = none ∧ c = some 0 ∧ zs = [])) :
    ACalls Try.prog 3 [.sl a zs.length c, .int .i64 x, .int .i64 y] (Mem.empty.arg 1 (rowI .i64 zs)) (fun r _ => r = .bool true) := by
  refine run_callsW x6 hm c3 (by simp) fun hf => ?_
  have hi : (Mem.empty.arg 1 (rowI .i64 zs)).ints .i64 (.sl a zs.length c) = some zs := arg_ints ha
  generalize Mem.empty.arg 1 (rowI .i64 zs) = m0 at *
  by_cases hl : (60 : Int) < zs.length
  · simp [b3, F6, hl]
  have hn : zs.length ≤ 1000000 := by omega
  by_cases hs : Steps zs
  · obtain ⟨r, m1, h1, h2, h3⟩ := new_ok hf hi (by rcases ha with h | h; exact .inl (by rw [h]; rfl); exact .inr ⟨h.1, h.2.1, by rw [h.2.2]; rfl⟩) hs
    have hi1 := Mem.ints_keep hi h3
    obtain ⟨_, hg0⟩ := Mem.ints_some hi1
    have cx := clamp_in x
    have cy := clamp_in y
    have lx := above_le zs x
    have ly := above_le zs y
    obtain ⟨ux, vx⟩ := above_nth hs x
    obtain ⟨uy, vy⟩ := above_nth hs y
    simp [b3, F6, hl, F8, hi1, hn, hs, h1]
    refine exec_loop (σ := Nat × Int × Int × Int × Bool) (fun (i, p, q, nx, so) => en [(1, .int .i64 x), (2, .int .i64 y), (7, .ptr (some (r, 0, 0))), (8, .int .i64 p), (9, .int .i64 q), (10, .int .i64 nx), (11, .bool so), (42, .sl a zs.length c), (43, .int .i64 zs.length), (44, .int .i64 i)])
      (fun _ => m1) (fun (i, p, q, nx, so) => i ≤ zs.length ∧ ((i ≤ above zs x → p = i) ∧ (above zs x ≤ i → p = above zs x)) ∧ ((i ≤ above zs y → q = i) ∧ (above zs y ≤ i → q = above zs y)) ∧ (i ≤ above zs x → nx = 0 ∧ so = false) ∧ (above zs x < i → nx = nth zs (above zs x) ∧ so = true)) (fun (i, _, _, _, _) => zs.length - i) ?_ (s := (0, 0, 0, 0, false)) ?_ ?_
    · intro (i, p, q, nx, so) ⟨k1, kp, kq, k2, k3⟩
      by_cases hi2 : (i : Int) < zs.length
      · obtain ⟨rr, j, es, rw, rfl, ho, hle, he, hg⟩ := hg0 (by omega)
        clear hg0
        have hgi := hg i (by omega)
        have ux := ux i
        have uy := uy i
        have vx := vx i
        have vy := vy i
        generalize hz : nth zs i = z at hgi ux uy vx vy
        have ei := IntWalk.i64_in ((i : Int) + 1) (by omega)
        have ep := IntWalk.i64_in (p + 1) (by omega)
        have eq2 := IntWalk.i64_in (q + 1) (by omega)
        by_cases cA : i < above zs x
        · have zA := ux cA
          obtain ⟨rfl, rfl⟩ := k2 (by omega)
          by_cases cB : i < above zs y
          · have zB := uy cB
            simp [hi2, ho, hgi, F11, zA, zB, ei, ep, eq2, -Bool.exists_bool]
            exact ⟨i + 1, p + 1, q + 1, 0, false, ⟨by omega, by omega, by omega, fun _ => ⟨rfl, rfl⟩, by omega⟩, by omega, rfl⟩
          · have zB : ¬ z ≤ clampT y := by have := vy (by omega) (by omega); omega
            simp [hi2, ho, hgi, F11, zA, zB, ei, ep, eq2, -Bool.exists_bool]
            exact ⟨i + 1, p + 1, q, 0, false, ⟨by omega, by omega, by omega, fun _ => ⟨rfl, rfl⟩, by omega⟩, by omega, rfl⟩
        · have zA : ¬ z ≤ clampT x := by have := vx (by omega) (by omega); omega
          have hso : so = false ∧ i = above zs x ∨ so = true ∧ nx = nth zs (above zs x) ∧ above zs x < i := by
            by_cases h : above zs x < i
            · exact .inr ⟨(k3 h).2, (k3 h).1, h⟩
            · exact .inl ⟨(k2 (by omega)).2, by omega⟩
          rcases hso with ⟨rfl, hiA⟩ | ⟨rfl, hnx, hlt⟩
          · by_cases cB : i < above zs y
            · have zB := uy cB
              simp [hi2, ho, hgi, F11, zA, zB, ei, ep, eq2, -Bool.exists_bool]
              exact ⟨i + 1, p, q + 1, z, true, ⟨by omega, by omega, by omega, by omega, fun _ => ⟨by rw [← hiA]; exact hz.symm, rfl⟩⟩, by omega, rfl⟩
            · have zB : ¬ z ≤ clampT y := by have := vy (by omega) (by omega); omega
              simp [hi2, ho, hgi, F11, zA, zB, ei, ep, eq2, -Bool.exists_bool]
              exact ⟨i + 1, p, q, z, true, ⟨by omega, by omega, by omega, by omega, fun _ => ⟨by rw [← hiA]; exact hz.symm, rfl⟩⟩, by omega, rfl⟩
          · by_cases cB : i < above zs y
            · have zB := uy cB
              simp [hi2, ho, hgi, F11, zA, zB, ei, ep, eq2, -Bool.exists_bool]
              exact ⟨i + 1, p, q + 1, nx, true, ⟨by omega, by omega, by omega, by omega, fun _ => ⟨hnx, rfl⟩⟩, by omega, rfl⟩
            · have zB : ¬ z ≤ clampT y := by have := vy (by omega) (by omega); omega
              simp [hi2, ho, hgi, F11, zA, zB, ei, ep, eq2, -Bool.exists_bool]
              exact ⟨i + 1, p, q, nx, true, ⟨by omega, by omega, by omega, by omega, fun _ => ⟨hnx, rfl⟩⟩, by omega, rfl⟩
      · have : i = zs.length := by omega
        subst this
        have mx : p = above zs x := by omega
        have my : q = above zs y := by omega
        subst mx; subst my
        by_cases hk : above zs x < zs.length
        · obtain ⟨rfl, rfl⟩ := k3 hk
          simp [F9, F16, F12, F10, F13, F11, h2, hs, hk, IntWalk.i64_in (clampT x + above zs x) (by omega), IntWalk.i64_in (clampT y + above zs y) (by omega), IntWalk.i64_in (clampT y + above zs y - clampT x) (by omega), IntWalk.i64_in (clampT y + above zs y - clampT x - above zs x) (by omega)]
          omega
        · obtain ⟨rfl, rfl⟩ := k2 (by omega)
          simp [F9, F16, F12, F10, F13, F11, h2, hs, hk, IntWalk.i64_in (clampT x + above zs x) (by omega), IntWalk.i64_in (clampT y + above zs y) (by omega), IntWalk.i64_in (clampT y + above zs y - clampT x) (by omega), IntWalk.i64_in (clampT y + above zs y - clampT x - above zs x) (by omega)]
          omega
    · clear hg0; simp; omega
    · simp
  · have h1 : F7 [.sl a zs.length c] m0 = some (.ptr none, m0) := by simp [F7, hi, hs, hn]
    have h2 : stepsOf m0 (.ptr none) = some [] := rfl
    have h3 : Steps [] := ⟨by simp, fun i hi => by simp at hi⟩
    simp [b3, F6, hl, F8, hi, hn, hs, h1, F9, F16, F10, F11, h2, h3, above]

theorem count_cut {zs : List Int} (hs : Steps zs) {x : Int} {k : Nat} (h : Cut (fun i => decide (x < nth zs i)) zs.length k) : k ≤ zs.length ∧ (∀ i, i < k → nth zs i ≤ x) ∧ ∀ i, k ≤ i → i < zs.length → x < nth zs i :=
  ⟨h.1, fun i hi => by have := h.2.1 i hi; simp at this; omega, fun i h1 h2 => by have := h.2.2 i h1 h2; simpa using this⟩

/-- What a plain second tells: how many steps aren't above it. -/
theorem plain_tells {zs : List Int} (hs : Steps zs) (e p : Int) (b : Bool) (h : plainZ zs e = (p, b)) :
    ∃ k : Nat, k ≤ zs.length ∧ (∀ i, i < k → nth zs i ≤ p) ∧ (∀ i, k ≤ i → i < zs.length → p < nth zs i) ∧ (b = false → p + k = e) ∧ (b = true → p + k + 1 = e ∧ k < zs.length ∧ nth zs k = p + 1) := by
  obtain ⟨h1, h2, h3⟩ := cutN_ok (hs.turns e)
  have ha : cutN (fun i => decide (e < nth zs i + i)) zs.length = ahead zs e := rfl
  rw [ha] at h1 h2 h3
  unfold plainZ at h
  generalize ahead zs e = k at *
  have h2' : ∀ i, i < k → nth zs i + i ≤ e := fun i hi => by have := h2 i hi; simp at this; omega
  have h3' : ∀ i, k ≤ i → i < zs.length → e < nth zs i + i := fun i h4 h5 => by have := h3 i h4 h5; simpa using this
  clear h2 h3 ha
  split at h
  · rename_i hc
    injection h with e1 e2
    subst e1; subst e2
    refine ⟨k - 1, by omega, fun i hi => ?_, fun i h4 h5 => ?_, fun h => (by cases h), fun _ => ⟨by omega, by omega, by omega⟩⟩
    · have := hs.le (k - 1) i (by omega) (by omega); omega
    · by_cases e : i = k - 1
      · subst e; omega
      · have := hs.le i (k - 1) (by omega) h5; omega
  · rename_i hc
    injection h with e1 e2
    subst e1; subst e2
    refine ⟨k, h1, fun i hi => ?_, fun i h4 h5 => ?_, fun _ => by omega, fun h => (by cases h)⟩
    · have a1 := h2' (k - 1) (by omega)
      by_cases e : i = k - 1
      · subst e; omega
      · have := hs.le (k - 1) i (by omega) (by omega); omega
    · by_cases e : i = k
      · subst e; have := h3' i h4 h5; omega
      · have := h3' k (Nat.le_refl _) (by omega)
        have := hs.le i k (by omega) h5; omega

theorem plain (x : Int) (zs : List Int) (a : Option (Nat × Nat × Nat)) (c : Option Nat) (ha : a = some (0, 0, 1) ∨ (a = none ∧ c = some 0 ∧ zs = [])) :
    ACalls Try.prog 4 [.sl a zs.length c, .int .i64 x] (Mem.empty.arg 1 (rowI .i64 zs)) (fun r _ => r = .bool true) := by
  refine run_callsW x6 hm c4 (by simp) fun hf => ?_
  have hi : (Mem.empty.arg 1 (rowI .i64 zs)).ints .i64 (.sl a zs.length c) = some zs := arg_ints ha
  generalize Mem.empty.arg 1 (rowI .i64 zs) = m0 at *
  by_cases hl : (60 : Int) < zs.length
  · simp [b4, F6, hl]
  have hn : zs.length ≤ 1000000 := by omega
  by_cases hs : Steps zs
  · obtain ⟨r, m1, h1, h2, h3⟩ := new_ok hf hi (by rcases ha with h | h; exact .inl (by rw [h]; rfl); exact .inr ⟨h.1, h.2.1, by rw [h.2.2]; rfl⟩) hs
    have hi1 := Mem.ints_keep hi h3
    obtain ⟨_, hg0⟩ := Mem.ints_some hi1
    have cx := clamp_in x
    generalize hE : clampT x = e at cx
    obtain ⟨⟨p, b⟩, hp⟩ : ∃ q, plainZ zs e = q := ⟨_, rfl⟩
    obtain ⟨k, q1, q2, q3, q4, q5⟩ := plain_tells hs e p b hp
    have hpb : -2199023255552 - 300 ≤ p ∧ p ≤ 2199023255552 := by
      cases b with
      | false => have := q4 rfl; omega
      | true => have := q5 rfl; omega
    simp [b4, F6, hl, F8, hi, hn, hs, h1, F14, h2, hE, hp, F11]
    refine exec_loop (σ := Nat × Int) (fun (i, n) => en [(0, .sl a zs.length c), (6, .int .i64 p), (7, .bool b), (8, .int .i64 e), (9, .int .i64 n), (35, .sl a zs.length c), (36, .int .i64 zs.length), (37, .int .i64 i)])
      (fun _ => m1) (fun (i, n) => i ≤ zs.length ∧ (i ≤ k → n = i) ∧ (k ≤ i → n = k)) (fun (i, _) => zs.length - i) ?_ (s := (0, 0)) ?_ ?_
    · intro (i, n) ⟨k1, k2, k3⟩
      by_cases hi2 : (i : Int) < zs.length
      · obtain ⟨rr, j, es, rw, rfl, ho, hle, he, hg⟩ := hg0 (by omega)
        clear hg0
        have hgi := hg i (by omega)
        have q2 := q2 i
        have q3 := q3 i
        generalize hz : nth zs i = z at hgi q2 q3
        have ei := IntWalk.i64_in ((i : Int) + 1) (by omega)
        have en := IntWalk.i64_in (n + 1) (by omega)
        by_cases cA : i < k
        · have zA := q2 cA
          simp [hi2, ho, hgi, zA, ei, en]
          exact ⟨i + 1, n + 1, ⟨by omega, by omega, by omega⟩, by omega, rfl⟩
        · have zA : ¬ z ≤ p := by have := q3 (by omega) (by omega); omega
          simp [hi2, ho, hgi, zA, ei]
          exact ⟨i + 1, n, ⟨by omega, by omega, by omega⟩, by omega, rfl⟩
      · have : i = zs.length := by omega
        subst this
        have hk : n = k := by clear hg0; omega
        subst hk
        cases b with
        | false =>
          have := q4 rfl
          simp [IntWalk.i64_in (p + k) (by clear hg0; omega)]
          clear hg0; omega
        | true =>
          have := q5 rfl
          simp
          refine exec_loop (σ := Nat × Bool) (fun (i, st) => en [(6, .int .i64 p), (8, .int .i64 e), (9, .int .i64 k), (12, .bool st), (54, .sl a zs.length c), (55, .int .i64 zs.length), (56, .int .i64 i)])
            (fun _ => m1) (fun (i, st) => i ≤ zs.length ∧ (k < i → st = true)) (fun (i, _) => zs.length - i) ?_ (s := (0, false)) ?_ ?_
          · intro (i, st) ⟨k1, k2⟩
            by_cases hi2 : (i : Int) < zs.length
            · obtain ⟨rr, j, es, rw, rfl, ho, hle, he, hg⟩ := hg0 (by omega)
              clear hg0
              have hgi := hg i (by omega)
              have ei := IntWalk.i64_in ((i : Int) + 1) (by omega)
              have ep := IntWalk.i64_in (p + 1) (by omega)
              cases st with
              | true =>
                simp [hi2, ho, hgi, ei, ep, -Bool.exists_bool]
                exact ⟨i + 1, true, ⟨by omega, fun _ => rfl⟩, by omega, rfl⟩
              | false =>
                by_cases hz : nth zs i = p + 1
                · simp [hi2, ho, hgi, ei, ep, hz, -Bool.exists_bool]
                  exact ⟨i + 1, true, ⟨by omega, fun _ => rfl⟩, by omega, rfl⟩
                · simp [hi2, ho, hgi, ei, ep, hz, -Bool.exists_bool]
                  refine ⟨i + 1, false, ⟨by omega, fun h => ?_⟩, by omega, rfl⟩
                  by_cases e : i = k
                  · subst e; exact absurd this.2.2 hz
                  · exact k2 (by omega)
            · clear hg0
              have : i = zs.length := by omega
              subst this
              have := k2 (by omega)
              subst this
              simp [IntWalk.i64_in (p + k) (by omega), IntWalk.i64_in (p + k + 1) (by omega)]
              omega
          · simp
          · simp
    · clear hg0; simp; omega
    · simp
  · simp [b4, F6, hl, F8, hi, hn, hs]

end Go.Proofs.Ytombcpkfhhlacaa
