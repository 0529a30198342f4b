/-
  READING UNDOES PUTTING, and the other way round. No program here.
-/
import Derived.Test.YtdjofnipknioiaaIx
namespace Go.Proofs.Ytdjofnipknioiaa
open Go Go.AM
set_option linter.unusedVariables false
set_option linter.unusedSimpArgs false
set_option maxRecDepth 8000
set_option maxHeartbeats 4000000

theorem takeG_num : ∀ (n i acc : Nat) (rest : List Int), (i = 0 ∨ n ≠ 0) → n * 128 ^ i < 18446744073709551616 → i ≤ 9 → takeG i acc (numB n ++ rest) = some (acc + n * 128 ^ i, i + (numB n).length) := by
  intro n
  induction n using Nat.strongRecOn with
  | _ n ih =>
    intro i acc rest h0 h1 h2
    have hpow : i = 9 → n ≤ 1 := fun e => by
      subst e
      have : (128 : Nat) ^ 9 = 9223372036854775808 := rfl
      rw [this] at h1; omega
    by_cases h : n < 128
    · rw [numB_lt h]
      simp only [List.singleton_append, takeG, List.length_singleton]
      rw [if_neg (by omega), if_pos (by omega), if_neg (by omega)]
      have : ((n : Int) % 128).toNat = n := by omega
      rw [this]
    · rw [numB_ge h]
      simp only [List.cons_append, takeG, List.length_cons]
      rw [if_neg (by omega), if_neg (by omega)]
      have e1 : (((n % 128 + 128 : Nat) : Int) % 128).toNat = n % 128 := by omega
      have hd : 128 ^ (i + 1) = 128 ^ i * 128 := Nat.pow_succ 128 i
      have e2 : n = n % 128 + n / 128 * 128 := by omega
      have e3 : n * 128 ^ i = n % 128 * 128 ^ i + n / 128 * 128 ^ (i + 1) := by
        conv => lhs; rw [e2]
        rw [Nat.add_mul, hd, Nat.mul_assoc, Nat.mul_comm 128 (128 ^ i)]
      rw [e1, ih (n / 128) (by omega) (i + 1) _ rest (.inr (by omega)) (by omega) (by omega)]
      congr 1
      rw [e3]
      congr 1 <;> omega

theorem take_num {n : Nat} (h : n < 18446744073709551616) (rest : List Int) : takeN (numB n ++ rest) = some (n, (numB n).length) := by
  unfold takeN
  rw [takeG_num n 0 0 rest (.inl rfl) (by simpa using h) (by omega)]
  simp

theorem takeG_is : ∀ (bs : List Int) (i acc n s : Nat), (∀ x ∈ bs, 0 ≤ x ∧ x ≤ 255) → takeG i acc bs = some (n, s) → ∃ m, bs.take (s - i) = numB m ∧ n = acc + m * 128 ^ i ∧ (i = 0 ∨ m ≠ 0)
  | [], i, acc, n, s, hb, h => by simp [takeG] at h
  | c :: bs, i, acc, n, s, hb, h => by
    have hc := hb c (by simp)
    have hs := takeG_lt _ _ _ _ _ h
    rw [takeG] at h
    split at h
    · cases h
    · split at h
      · split at h
        · cases h
        · injection h with h; injection h with h2 h3
          refine ⟨(c % 128).toNat, ?_, by omega, by omega⟩
          have : s - i = 1 := by omega
          rw [this, numB_lt (by omega)]
          simp; omega
      · rename_i h5
        obtain ⟨m, q1, q2, q3⟩ := takeG_is bs (i + 1) _ n s (fun x hx => hb x (by simp [hx])) h
        have hsi := takeG_lt _ _ _ _ _ h
        refine ⟨(c % 128).toNat + 128 * m, ?_, ?_, .inr (by omega)⟩
        · have : s - i = (s - (i + 1)) + 1 := by omega
          rw [this, List.take_succ_cons, q1, numB_ge (n := (c % 128).toNat + 128 * m) (by omega)]
          have e1 : ((c % 128).toNat + 128 * m) / 128 = m := by omega
          have e2 : ((((c % 128).toNat + 128 * m) % 128 + 128 : Nat) : Int) = c := by omega
          rw [e1, e2]
        · rw [q2, Nat.pow_succ, Nat.add_mul, Nat.mul_comm (128 ^ i) 128, ← Nat.mul_assoc m, Nat.mul_comm m 128]; omega

theorem take_is {bs : List Int} {n s : Nat} (hb : ∀ x ∈ bs, 0 ≤ x ∧ x ≤ 255) (h : takeN bs = some (n, s)) : bs = numB n ++ bs.drop s := by
  obtain ⟨m, q1, q2, q3⟩ := takeG_is bs 0 0 n s hb h
  simp at q1 q2
  conv => lhs; rw [← List.take_append_drop s bs]
  rw [q1, q2]

theorem dec_sgn {t : Int} : dec (sgn t) = t := by
  unfold dec sgn
  by_cases h : t < 0
  · rw [if_pos h, if_pos (by omega)]; omega
  · rw [if_neg h, if_neg (by omega)]; omega
theorem sgn_dec {c : Nat} : sgn (dec c) = c := by
  unfold dec sgn
  by_cases h : c % 2 = 1
  · rw [if_pos h, if_pos (by omega)]; omega
  · rw [if_neg h, if_neg (by omega)]; omega

theorem nth_take {l : List Int} {i j : Nat} (h : j < i) : nth (l.take i) j = nth l j := by
  unfold nth; simp only [List.getD_eq_getElem?_getD, List.getElem?_take_of_lt h]
theorem nth_app_lt {l r : List Int} {j : Nat} (h : j < l.length) : nth (l ++ r) j = nth l j := by
  unfold nth; simp only [List.getD_eq_getElem?_getD, List.getElem?_append_left h]
theorem nth_app_eq {l : List Int} {t : Int} : nth (l ++ [t]) l.length = t := by
  unfold nth; simp only [List.getD_eq_getElem?_getD, List.getElem?_append_right (Nat.le_refl _), Nat.sub_self]; rfl

theorem codeT_code {l : List Int} (hr : Rt l) {i : Nat} (hi : i < l.length) : codeT (l.take i) (code' l i) = some (nth l i) := by
  have h1 := hr i hi
  unfold codeT code'
  by_cases h0 : i = 0
  · subst h0
    rw [if_pos (by simp), if_pos rfl, dec_sgn, if_neg (by simp [big]; omega)]
  · have hne : l.take i ≠ [] := fun e => by have := congrArg List.length e; rw [List.length_take, List.length_nil] at this; omega
    have hlen : (l.take i).length = i := by simp; omega
    rw [if_neg hne, if_neg h0, hlen, nth_take (i := i) (j := i - 1) (by omega)]
    have h2 := h1.2.2 (by omega)
    have h3 := h1.2.1
    have hx : ¬ (4611686018427387904 - nth l (i - 1) < ((nth l i - nth l (i - 1)).toNat : Int)) := by omega
    rw [if_neg hx]
    congr 1; omega

theorem parse_enc {l : List Int} (hr : Rt l) (rest : List Int) : ∀ (k i : Nat), i + k = l.length → parse k (l.take i) (encS l i k ++ rest) = some (l, rest)
  | 0, i, h => by
    have : l.take i = l := List.take_of_length_le (by omega)
    simp only [parse, encS, List.nil_append, this]
  | k + 1, i, h => by
    simp only [parse, encS, List.append_assoc]
    rw [take_num (code_lt hr (by omega))]
    simp only
    rw [codeT_code hr (by omega)]
    simp only
    rw [List.drop_left, ← takeS (nth_get (by omega))]
    exact parse_enc hr rest k (i + 1) (by omega)

theorem read_bytes {l : List Int} (hr : Rt l) (hl : l.length ≤ 4096) (rest : List Int) : readP (bytesI l ++ rest) = if rest = [] then some l else none := by
  unfold readP bytesI
  rw [List.append_assoc, take_num (by omega)]
  simp only
  rw [if_neg (by omega), List.drop_left]
  have := parse_enc hr rest l.length 0 (by omega)
  rw [List.take_zero] at this
  rw [this]
  cases rest with
  | nil => rfl
  | cons x xs => rfl

theorem codeT_is {out : List Int} {c : Nat} {t : Int} (hr : Rt out) (h : codeT out c = some t) : Rt (out ++ [t]) ∧ code' (out ++ [t]) out.length = c := by
  unfold codeT at h
  by_cases h0 : out = []
  · subst h0
    rw [if_pos rfl] at h
    split at h
    · cases h
    · rename_i hb
      injection h with h; subst h
      simp [big] at hb
      refine ⟨fun i hi => ?_, ?_⟩
      · simp at hi; subst hi
        simp [nth]; omega
      · simp [code', nth]; exact sgn_dec
  · rw [if_neg h0] at h
    have hp := List.length_pos_iff.2 h0
    split at h
    · cases h
    · injection h with h
      have hl := hr (out.length - 1) (by omega)
      have e1 : nth (out ++ [t]) (out.length - 1) = nth out (out.length - 1) := nth_app_lt (by omega)
      refine ⟨fun i hi => ?_, ?_⟩
      · simp at hi
        by_cases hi2 : i < out.length
        · rw [nth_app_lt hi2]
          have := hr i hi2
          refine ⟨this.1, this.2.1, fun hh => ?_⟩
          rw [nth_app_lt (by omega)]; exact this.2.2 hh
        · have : i = out.length := by omega
          subst this
          rw [nth_app_eq, e1]; omega
      · rw [code', if_neg (by omega), nth_app_eq, e1]; omega

theorem parse_is : ∀ (k : Nat) (out bs l rest : List Int), (∀ x ∈ bs, 0 ≤ x ∧ x ≤ 255) → Rt out → parse k out bs = some (l, rest) → Rt l ∧ l.length = out.length + k ∧ l.take out.length = out ∧ bs = encS l out.length k ++ rest
  | 0, out, bs, l, rest, hb, hr, h => by
    rw [parse] at h; injection h with h; injection h with h1 h2
    subst h1; subst h2
    exact ⟨hr, by omega, by simp, by simp [encS]⟩
  | k + 1, out, bs, l, rest, hb, hr, h => by
    rw [parse] at h
    cases ht : takeN bs with
    | none => rw [ht] at h; cases h
    | some pr =>
      obtain ⟨c, s⟩ := pr
      rw [ht] at h
      simp only at h
      cases hc : codeT out c with
      | none => rw [hc] at h; cases h
      | some t =>
        rw [hc] at h
        simp only at h
        obtain ⟨r1, r2⟩ := codeT_is hr hc
        obtain ⟨q1, q2, q3, q4⟩ := parse_is k (out ++ [t]) (bs.drop s) l rest (fun x hx => hb x (List.mem_of_mem_drop hx)) r1 h
        simp only [List.length_append, List.length_singleton] at q2 q3 q4
        have e1 : l.take out.length = out := by
          have := congrArg (List.take out.length) q3
          rw [List.take_take, Nat.min_eq_left (by omega), List.take_left] at this; exact this
        have e2 : ∀ j, j < out.length + 1 → nth l j = nth (out ++ [t]) j := fun j hj => by rw [← q3, nth_take hj]
        have e3 : code' l out.length = c := by
          rw [← r2, code', code']
          by_cases h0 : out.length = 0
          · rw [if_pos h0, if_pos h0, e2 0 (by omega)]
          · rw [if_neg h0, if_neg h0, e2 _ (by omega), e2 _ (by omega)]
        refine ⟨q1, by omega, e1, ?_⟩
        rw [encS, e3, List.append_assoc, ← q4]
        exact take_is hb ht

theorem read_is {bs l : List Int} (hb : ∀ x ∈ bs, 0 ≤ x ∧ x ≤ 255) (h : readP bs = some l) : Rt l ∧ l.length ≤ 4096 ∧ bytesI l = bs := by
  unfold readP at h
  cases ht : takeN bs with
  | none => rw [ht] at h; cases h
  | some pr =>
    obtain ⟨n, s⟩ := pr
    rw [ht] at h
    simp only at h
    split at h
    · cases h
    · rename_i hn
      cases hp : parse n [] (bs.drop s) with
      | none => rw [hp] at h; cases h
      | some pr =>
        obtain ⟨l', rest⟩ := pr
        rw [hp] at h
        cases rest with
        | cons x xs => cases h
        | nil =>
          simp only [endP] at h
          injection h with h; subst h
          obtain ⟨q1, q2, q3, q4⟩ := parse_is n [] (bs.drop s) l' [] (fun x hx => hb x (List.mem_of_mem_drop hx)) (fun i hi => by simp at hi) hp
          simp at q2 q4
          refine ⟨q1, by omega, ?_⟩
          unfold bytesI
          rw [q2, ← q4]
          exact (take_is hb ht).symm

end Go.Proofs.Ytdjofnipknioiaa
