/-
  THE DOCUMENT'S PRODUCT, digit by digit, in plain words.
-/
import Derived.Test.YtdcliaineeklcaaIx
namespace Go.Proofs.Ytdcliaineeklcaa
open Go Go.AM
set_option linter.unusedVariables false
set_option linter.unusedSimpArgs false
set_option maxRecDepth 60000
set_option maxHeartbeats 4000000

def rowN (D : List Nat) : List (List V) := D.map fun d : Nat => [V.int .i64 (d : Int)]
def dg (D : List Nat) (i : Nat) : Nat := D.getD i 0
def valL : List Nat → Nat
  | [] => 0
  | d :: l => d + 65536 * valL l
theorem rowN_get {D : List Nat} {i : Nat} (h : i < D.length) : (rowN D)[i]? = some [.int .i64 (dg D i : Int)] := by
  simp [rowN, dg, h]
theorem rowN_length (D : List Nat) : (rowN D).length = D.length := by simp [rowN]
theorem rowN_set (D : List Nat) (i e : Nat) : (rowN D).set i [.int .i64 (e : Int)] = rowN (D.set i e) := by simp [rowN, List.map_set]
theorem dg_set {D : List Nat} {i e j : Nat} (h : i < D.length) : dg (D.set i e) j = if j = i then e else dg D j := by
  unfold dg
  simp only [List.getD_eq_getElem?_getD, List.getElem?_set]
  by_cases hj : i = j
  · subst hj; simp [h]
  · simp [hj, Ne.symm hj, show ¬ j = i by omega]
theorem valL_set : ∀ (D : List Nat) (i e : Nat), i < D.length → valL (D.set i e) + dg D i * 65536 ^ i = valL D + e * 65536 ^ i
  | [], i, e, h => absurd h (by simp)
  | d :: D, 0, e, h => by simp [valL, dg]; omega
  | d :: D, i + 1, e, h => by
    have ih := valL_set D i e (by simp at h; omega)
    simp only [List.set_cons_succ, valL]
    have : dg (d :: D) (i + 1) = dg D i := by simp [dg]
    rw [this, Nat.pow_succ]
    generalize dg D i = a at *
    generalize 65536 ^ i = p at *
    have e1 : a * (p * 65536) = 65536 * (a * p) := by grind
    have e2 : e * (p * 65536) = 65536 * (e * p) := by grind
    rw [e1, e2]; omega
theorem dig_lt (x i : Nat) : x / 2 ^ (16 * i) % 65536 < 65536 := Nat.mod_lt _ (by omega)
theorem pow16 (i : Nat) : 2 ^ (16 * i) = 65536 ^ i := by rw [Nat.pow_mul]
/-- A number's lower part grows by a digit. -/
theorem low_succ (x i : Nat) : x % 65536 ^ (i + 1) = x % 65536 ^ i + x / 65536 ^ i % 65536 * 65536 ^ i := by
  rw [Nat.pow_succ, Nat.mod_mul]
  grind

theorem inner_step {D : List Nat} {a b i k c : Nat} (hl : D.length = 9) (hi : i < 4) (hk : k < 4)
    (h : valL D + c * 65536 ^ (i + k) = a % 65536 ^ i * b + a / 65536 ^ i % 65536 * 65536 ^ i * (b % 65536 ^ k)) (hd : dg D (i + k) < 65536) (hc : c < 65536) :
    ∀ t, t = dg D (i + k) + (a / 65536 ^ i % 65536) * (b / 65536 ^ k % 65536) + c → t < 4294967296 ∧ t / 65536 < 65536 ∧ 
      valL (D.set (i + k) (t % 65536)) + t / 65536 * 65536 ^ (i + (k + 1)) = a % 65536 ^ i * b + a / 65536 ^ i % 65536 * 65536 ^ i * (b % 65536 ^ (k + 1)) := by
  intro t ht
  have hx : a / 65536 ^ i % 65536 < 65536 := Nat.mod_lt _ (by omega)
  have hy : b / 65536 ^ k % 65536 < 65536 := Nat.mod_lt _ (by omega)
  have hs := valL_set D (i + k) (t % 65536) (by omega)
  rw [low_succ, show i + (k + 1) = i + k + 1 by omega, Nat.pow_succ]
  have hp : 65536 ^ (i + k) = 65536 ^ i * 65536 ^ k := Nat.pow_add ..
  generalize a / 65536 ^ i % 65536 = x at *
  generalize b / 65536 ^ k % 65536 = y at *
  have hxy : x * y ≤ 65535 * 65535 := Nat.mul_le_mul (by omega) (by omega)
  have ht2 : t < 4294967296 := by omega
  refine ⟨ht2, by omega, ?_⟩
  have hdm : t = 65536 * (t / 65536) + t % 65536 := by omega
  generalize valL (D.set (i + k) (t % 65536)) = v' at *
  generalize valL D = v at *
  generalize dg D (i + k) = d at *
  generalize t / 65536 = q at *
  generalize t % 65536 = r at *
  generalize a % 65536 ^ i * b = A at *
  generalize b % 65536 ^ k = B at *
  generalize 65536 ^ (i + k) = P at *
  generalize 65536 ^ i = pi at *
  generalize 65536 ^ k = pk at *
  subst hp
  grind
/-- Digits so far: what counts in all rounds. -/
def Dig (D : List Nat) (n : Nat) : Prop := D.length = 9 ∧ (∀ j, dg D j < 65536) ∧ ∀ j, n ≤ j → dg D j = 0
theorem fd16 {x : Nat} {i : Nat} (h : i < 4) : Int.fdiv (x : Int) (2 ^ (16 * (i : Int)).toNat) = ((x / 65536 ^ i : Nat) : Int) := by
  rw [show (16 * (i : Int)).toNat = 16 * i by omega, show ((2 : Int) ^ (16 * i)) = ((65536 ^ i : Nat) : Int) by rw [← pow16]; push_cast; rfl, Int.fdiv_eq_ediv_of_nonneg _ (Int.natCast_nonneg _)]; rfl

theorem product_calls {m : Mem} {a b : Nat} (ha : a < 4294967296) (hb : b < 4611686018427387904) {K : KV} (h : ∀ v D m', Dig D 9 → valL D = a * b → m.Grew m' → Sl m' 1 v (rowN D) → K v m') : ACalls Try.prog 18 [.int .i64 a, .int .i64 b] m K := by
  refine run_on (ctx_nil _) hm c18 (by simp) fun hf => ?_
  have gB := Mem.Grew.new m (.row 1 (rowN [0, 0, 0, 0, 0, 0, 0, 0, 0]) true)
  have oB : (m.new (.row 1 (rowN [0, 0, 0, 0, 0, 0, 0, 0, 0]) true)).obj m.next = some (.row 1 (rowN [0, 0, 0, 0, 0, 0, 0, 0, 0]) true) := by simp
  have bB : m.next < (m.new (.row 1 (rowN [0, 0, 0, 0, 0, 0, 0, 0, 0]) true)).next := by simp
  have er : List.replicate 9 [V.int .i64 0] = rowN [0, 0, 0, 0, 0, 0, 0, 0, 0] := rfl
  simp (disch := omega) [-getElem?_pos, b18, er]
  have hz : ∀ j, dg [0, 0, 0, 0, 0, 0, 0, 0, 0] j = 0 := fun j => by
    rcases Nat.lt_or_ge j 9 with q | q
    · have : ∀ j : Fin 9, dg [0, 0, 0, 0, 0, 0, 0, 0, 0] j = 0 := by decide
      exact this ⟨j, q⟩
    · unfold dg; rw [List.getD_eq_getElem?_getD, List.getElem?_eq_none (by simpa using q)]; rfl
  have h0 : Dig [0, 0, 0, 0, 0, 0, 0, 0, 0] 4 := ⟨rfl, fun j => by rw [hz]; omega, fun j _ => hz j⟩
  have hv0 : valL [0, 0, 0, 0, 0, 0, 0, 0, 0] = 0 := rfl
  clear er hz
  generalize [0, 0, 0, 0, 0, 0, 0, 0, 0] = D0 at *
  generalize m.new (.row 1 (rowN D0) true) = m1 at *
  generalize hB : m.next = B at *
  refine exec_loopU (σ := Nat × List Nat × Mem) (fun (i, _, _) => [(6, .int .i64 i)]) (fun (_, _, M) => M) (fun (i, D, M) => i ≤ 4 ∧ Dig D (i + 4) ∧ valL D = a % 65536 ^ i * b ∧ M.obj B = some (.row 1 (rowN D) true) ∧ m.Grew M ∧ B < M.next) (fun (i, _, _) => 4 - i) (0, D0, m1) rfl
    (by dsimp only; exact ⟨by omega, h0, by rw [hv0]; simp [Nat.mod_one], oB, gB, bB⟩) (by simp) ?_
  intro (i, D, M) ⟨a1, a2, a3, a4, a5, a6⟩
  by_cases hi : i < 4
  · simp (disch := omega) [-getElem?_pos]
    refine exec_loopU (σ := Nat × Nat × List Nat × Mem) (fun (k, c, _, _) => [(7, .int .i64 c), (8, .int .i64 k)]) (fun (_, _, _, M) => M) (fun (k, c, D, M) => k ≤ 4 ∧ c < 65536 ∧ Dig D (i + 4) ∧ valL D + c * 65536 ^ (i + k) = a % 65536 ^ i * b + a / 65536 ^ i % 65536 * 65536 ^ i * (b % 65536 ^ k) ∧ M.obj B = some (.row 1 (rowN D) true) ∧ m.Grew M ∧ B < M.next) (fun (k, _, _, _) => 4 - k) (0, 0, D, M) rfl
      (by dsimp only; exact ⟨by omega, by omega, a2, by rw [a3]; simp [Nat.mod_one], a4, a5, a6⟩) (by simp) ?_
    clear a2 a3 a4 a5 a6
    intro (k, c, D, M) ⟨a2, a3, a4, a5, a6, a7, a8⟩
    obtain ⟨l1, l2, l3⟩ := a4
    by_cases hk : k < 4
    · have st := inner_step l1 hi hk a5 (l2 (i + k)) a3 _ rfl
      have f1 := fd16 (x := a) hi
      have f2 := fd16 (x := b) hk
      have g1 := rowN_get (D := D) (i := i + k) (by omega)
      have d1 := l2 (i + k)
      generalize hd : dg D (i + k) = d at *
      obtain ⟨T, hT⟩ : ∃ T, d + a / 65536 ^ i % 65536 * (b / 65536 ^ k % 65536) + c = T := ⟨_, rfl⟩
      rw [hT] at st
      obtain ⟨XA, hXA⟩ : ∃ XA, a / 65536 ^ i = XA := ⟨_, rfl⟩
      obtain ⟨YB, hYB⟩ : ∃ YB, b / 65536 ^ k = YB := ⟨_, rfl⟩
      rw [hXA] at f1 hT
      rw [hYB] at f2 hT
      have t1 : (XA : Int).tmod 65536 = ((XA % 65536 : Nat) : Int) := rfl
      have t2 : (YB : Int).tmod 65536 = ((YB % 65536 : Nat) : Int) := rfl
      have x1 : XA % 65536 < 65536 := Nat.mod_lt _ (by omega)
      have y1 : YB % 65536 < 65536 := Nat.mod_lt _ (by omega)
      generalize XA % 65536 = x at *
      generalize YB % 65536 = y at *
      have xy : x * y ≤ 65535 * 65535 := Nat.mul_le_mul (by omega) (by omega)
      obtain ⟨p, hp⟩ : ∃ p, x * y = p := ⟨_, rfl⟩
      rw [hp] at hT xy
      have ep : (x : Int) * (y : Int) = (p : Int) := by rw [← hp]; push_cast; rfl
      have ei : ((i : Int) + (k : Int)).toNat = i + k := by omega
      have eT : (d : Int) + (p : Int) + (c : Int) = (T : Int) := by omega
      obtain ⟨Q, hQ⟩ : ∃ Q, T / 65536 = Q := ⟨_, rfl⟩
      obtain ⟨R, hR⟩ : ∃ R, T % 65536 = R := ⟨_, rfl⟩
      have eQ : (T : Int).tdiv 65536 = (Q : Int) := by rw [← hQ]; rfl
      have eR : (T : Int).tmod 65536 = (R : Int) := by rw [← hR]; rfl
      rw [hQ, hR] at st
      have ln := rowN_length D
      have es := rowN_set D (i + k) R
      simp (disch := omega) [-getElem?_pos, f1, f2, a6, g1, t1, t2, ep, ei, eT, eQ, eR, ln, es]
      refine again_mk (k + 1, Q, D.set (i + k) R, _) (by
        dsimp only
        refine ⟨by omega, by omega, ⟨by simp [l1], fun j => by rw [dg_set (by omega)]; split; omega; exact l2 j, fun j hj => by rw [dg_set (by omega), if_neg (by omega)]; exact l3 j hj⟩, st.2.2, ?_, a7.upd (by omega) _, ?_⟩
        · simp
        · simpa using a8) (by dsimp only; omega) (by simp) rfl
    · have : k = 4 := by omega
      subst this
      have g1 := rowN_get (D := D) (i := i + 4) (by omega)
      have hz := l3 (i + 4) (by omega)
      have es := rowN_set D (i + 4) c
      have ln := rowN_length D
      have hs := valL_set D (i + 4) c (by omega)
      rw [hz] at g1 hs
      have ei : ((i : Int) + 4).toNat = i + 4 := by omega
      have eb : b % 65536 ^ 4 = b := Nat.mod_eq_of_lt (by omega)
      rw [eb] at a5
      simp (disch := omega) [-getElem?_pos, a6, g1, ei, ln, es]
      refine again_mk (i + 1, D.set (i + 4) c, _) (by
        dsimp only
        refine ⟨by omega, ⟨by simp [l1], fun j => by rw [dg_set (by omega)]; split; omega; exact l2 j, fun j hj => by rw [dg_set (by omega), if_neg (by omega)]; exact l3 j (by omega)⟩, ?_, ?_, a7.upd (by omega) _, ?_⟩
        · rw [low_succ, Nat.add_mul]; omega
        · simp
        · simpa using a8) (by dsimp only; omega) (by simp) rfl
  · have : i = 4 := by omega
    subst this
    have ea : a % 65536 ^ 4 = a := Nat.mod_eq_of_lt (by omega)
    rw [ea] at a3
    obtain ⟨l1, l2, l3⟩ := a2
    simp (disch := omega) [-getElem?_pos]
    refine h _ D _ ⟨l1, l2, fun j hj => l3 j (by omega)⟩ a3 a5 ?_
    exact (Exa.of (by rw [rowN_length, l1]) a6 a4).ows.sl
/-- What is left of digits. -/
def rs (D : List Nat) (i : Nat) : Nat := valL (D.drop i)
theorem rs_zero (D : List Nat) : rs D 0 = valL D := by simp [rs]
theorem rs_succ {D : List Nat} {i : Nat} (h : i < D.length) : rs D i = dg D i + 65536 * rs D (i + 1) := by
  unfold rs dg
  rw [List.drop_eq_getElem_cons h]
  simp [valL, h]
theorem rs_len {D : List Nat} : rs D D.length = 0 := by simp [rs, valL]

structure Hf (D D' : List Nat) (i : Nat) : Prop where
  dig : Dig D' 9
  same : ∀ j, i ≤ j → dg D' j = dg D j
  small : 0 < i → dg D' (i - 1) < 32768
  val : 2 * valL D' + (if i = 0 then 0 else dg D 0 % 2) = valL D + 65536 ^ i * rs D i

theorem Hf.zero {D : List Nat} (h : Dig D 9) : Hf D D 0 := ⟨h, fun _ _ => rfl, fun h => absurd h (by omega), by rw [rs_zero]; simp; omega⟩
/-- A digit is halved; nothing goes down. -/
theorem Hf.down0 {D D' : List Nat} {i : Nat} (hD : D.length = 9) (h : Hf D D' i) (hi : i < 9) (hl : i = 0 ∨ dg D i % 2 = 0) : Hf D (D'.set i (dg D i / 2)) (i + 1) := by
  obtain ⟨⟨l1, l2, l3⟩, h2, h3, h4⟩ := h
  have hx := h2 i (by omega)
  have hs := valL_set D' i (dg D i / 2) (by omega)
  have hr := rs_succ (D := D) (i := i) (by omega)
  have hb := l2 i
  rw [hx] at hs hb
  refine ⟨⟨by simp [l1], fun j => by rw [dg_set (by omega)]; split; omega; exact l2 j, fun j hj => by rw [dg_set (by omega), if_neg (by omega)]; exact l3 j hj⟩, fun j hj => by rw [dg_set (by omega), if_neg (by omega)]; exact h2 j (by omega), fun _ => ?_, ?_⟩
  · rw [Nat.add_sub_cancel, dg_set (by omega), if_pos rfl]; omega
  · rw [if_neg (by omega)]
    rcases Nat.eq_zero_or_pos i with z | z
    · subst z
      simp at *
      omega
    · rw [if_neg (by omega)] at h4
      have hl : dg D i % 2 = 0 := by omega
      rw [Nat.pow_succ]
      obtain ⟨q, hq⟩ : ∃ q, dg D i / 2 = q := ⟨_, rfl⟩
      have e : dg D i = 2 * q := by omega
      rw [hq] at hs ⊢
      rw [e] at hs hr
      generalize valL (D'.set i q) = v' at *
      generalize 65536 ^ i = P at *
      generalize rs D i = r at *
      generalize rs D (i + 1) = r1 at *
      generalize dg D 0 % 2 = l0 at *
      grind
/-- A digit is halved; what is left goes down. -/
theorem Hf.down1 {D D' : List Nat} {i : Nat} (hD : D.length = 9) (h : Hf D D' i) (hi : i < 9) (h0 : 0 < i) (hl : dg D i % 2 = 1) : Hf D ((D'.set i (dg D i / 2)).set (i - 1) (dg D' (i - 1) + 32768)) (i + 1) := by
  obtain ⟨⟨l1, l2, l3⟩, h2, h3, h4⟩ := h
  have hx := h2 i (by omega)
  have hs := valL_set D' i (dg D i / 2) (by omega)
  have hs2 := valL_set (D'.set i (dg D i / 2)) (i - 1) (dg D' (i - 1) + 32768) (by simp; omega)
  rw [dg_set (by omega), if_neg (by omega)] at hs2
  have hr := rs_succ (D := D) (i := i) (by omega)
  have hb := l2 i
  have h3 := h3 h0
  rw [hx] at hs hb
  have hlen : (D'.set i (dg D i / 2)).length = 9 := by simp [l1]
  have hd : ∀ j, dg ((D'.set i (dg D i / 2)).set (i - 1) (dg D' (i - 1) + 32768)) j = if j = i - 1 then dg D' (i - 1) + 32768 else if j = i then dg D i / 2 else dg D' j := fun j => by
    rw [dg_set (by omega), dg_set (by omega)]
  refine ⟨⟨by simp [l1], fun j => ?_, fun j hj => by rw [hd, if_neg (by omega), if_neg (by omega)]; exact l3 j hj⟩, fun j hj => by rw [hd, if_neg (by omega), if_neg (by omega)]; exact h2 j (by omega), fun _ => ?_, ?_⟩
  · rw [hd]; split; omega; split; omega; exact l2 j
  · rw [Nat.add_sub_cancel, hd, if_neg (by omega), if_pos rfl]; omega
  · rw [if_neg (by omega)]
    rw [if_neg (by omega)] at h4
    rw [Nat.pow_succ]
    obtain ⟨q, hq⟩ : ∃ q, dg D i / 2 = q := ⟨_, rfl⟩
    have e : dg D i = 2 * q + 1 := by omega
    rw [hq] at hs hs2 ⊢
    rw [e] at hs hr
    have hp : 65536 ^ i = 65536 ^ (i - 1) * 65536 := by rw [← Nat.pow_succ]; congr 1; omega
    generalize valL ((D'.set i q).set (i - 1) (dg D' (i - 1) + 32768)) = v2 at *
    generalize valL (D'.set i q) = v' at *
    generalize 65536 ^ i = P at *
    generalize 65536 ^ (i - 1) = P1 at *
    generalize rs D i = r at *
    generalize rs D (i + 1) = r1 at *
    generalize dg D 0 % 2 = l0 at *
    generalize dg D' (i - 1) = y at *
    subst hp
    grind
theorem Hf.done {D D' : List Nat} (hD : D.length = 9) (h : Hf D D' 9) : valL D' = valL D / 2 := by
  have h4 := h.val
  rw [← hD, rs_len, if_neg (by omega)] at h4
  have : valL D % 2 = dg D 0 % 2 := by
    have := rs_succ (D := D) (i := 0) (by omega)
    rw [rs_zero] at this; omega
  omega
end Go.Proofs.Ytdcliaineeklcaa
