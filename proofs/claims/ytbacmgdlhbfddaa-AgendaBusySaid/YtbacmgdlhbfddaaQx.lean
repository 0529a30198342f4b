/-
  WHAT AN AGENDA's functions do: Busy, Find, Free; bits.
-/
import Derived.Test.YtbacmgdlhbfddaaOx
namespace Go.Proofs.Ytbacmgdlhbfddaa
open Go Go.AM
set_option linter.unusedVariables false
set_option linter.unusedSimpArgs false
set_option maxRecDepth 60000
set_option maxHeartbeats 8000000

/-! ### bits -/
def bt (w : Int) (i : Nat) : Bool := (BitVec.ofInt 64 w).getLsbD i
theorem ofNat_toNat (x : BitVec 64) : BitVec.ofInt 64 ((x.toNat : Nat) : Int) = x := by rw [BitVec.ofInt_natCast, BitVec.ofNat_toNat]; simp
theorem band_eq (a b : Int) : bAnd .u64 a b = ((BitVec.ofInt 64 a &&& BitVec.ofInt 64 b).toNat : Nat) := by
  have hl := (BitVec.ofInt 64 a &&& BitVec.ofInt 64 b).isLt
  unfold bAnd
  simp only [IntKind.bits]
  exact wu64 (by omega) (by omega)
theorem bandNot_eq (a b : Int) : bAndNot .u64 a b = ((BitVec.ofInt 64 a &&& ~~~BitVec.ofInt 64 b).toNat : Nat) := by
  have hl := (BitVec.ofInt 64 a &&& ~~~BitVec.ofInt 64 b).isLt
  unfold bAndNot
  simp only [IntKind.bits]
  exact wu64 (by omega) (by omega)
theorem bt_and (a b : Int) (i : Nat) : bt (bAnd .u64 a b) i = (bt a i && bt b i) := by
  unfold bt; rw [band_eq, ofNat_toNat, BitVec.getLsbD_and]
theorem bt_andNot (a b : Int) {i : Nat} (hi : i < 64) : bt (bAndNot .u64 a b) i = (bt a i && !bt b i) := by
  unfold bt; rw [bandNot_eq, ofNat_toNat, BitVec.getLsbD_and, BitVec.getLsbD_not]; simp [hi]
theorem bt_big (a : Int) {i : Nat} (hi : 64 ≤ i) : bt a i = false := by unfold bt; exact BitVec.getLsbD_of_ge _ _ hi
theorem bv_zero {x : BitVec 64} : ((x.toNat : Nat) : Int) = 0 ↔ ∀ i, i < 64 → x.getLsbD i = false := by
  constructor
  · intro h i hi
    have : x = 0#64 := BitVec.eq_of_toNat_eq (by simp; omega)
    rw [this]; simp
  · intro h
    have : x = 0#64 := BitVec.eq_of_getLsbD_eq fun i hi => by rw [h i hi]; simp
    rw [this]; rfl
theorem and_zero {a b : Int} : bAnd .u64 a b = 0 ↔ ∀ i, i < 64 → (bt a i && bt b i) = false := by
  rw [band_eq, bv_zero]
  simp only [BitVec.getLsbD_and]; rfl
theorem andNot_zero {a b : Int} : bAndNot .u64 a b = 0 ↔ ∀ i, i < 64 → bt a i = true → bt b i = true := by
  rw [bandNot_eq, bv_zero]
  constructor
  · intro h i hi ha
    have := h i hi
    rw [BitVec.getLsbD_and, BitVec.getLsbD_not] at this
    unfold bt at ha ⊢
    simpa [hi, ha] using this
  · intro h i hi
    rw [BitVec.getLsbD_and, BitVec.getLsbD_not]
    have := h i hi
    unfold bt at this
    cases e : (BitVec.ofInt 64 a).getLsbD i
    · simp
    · simp [hi, this e]
theorem and_eq {a b c d : Int} : bAnd .u64 a b = bAnd .u64 c d ↔ ∀ i, i < 64 → (bt a i && bt b i) = (bt c i && bt d i) := by
  constructor
  · intro h i hi
    rw [← bt_and, ← bt_and, h]
  · intro h
    rw [band_eq, band_eq]
    have : BitVec.ofInt 64 a &&& BitVec.ofInt 64 b = BitVec.ofInt 64 c &&& BitVec.ofInt 64 d := BitVec.eq_of_getLsbD_eq fun i hi => by
      rw [BitVec.getLsbD_and, BitVec.getLsbD_and]; exact h i hi
    rw [this]
theorem meets_iff {a : Mt} {who : Int} : meets a who = true ↔ ∃ i, i < 64 ∧ bt a.2.2.2 i = true ∧ bt who i = true := by
  unfold meets
  rw [decide_eq_true_eq, Ne, and_zero]
  constructor
  · intro h
    obtain ⟨i, hi⟩ := Classical.not_forall.1 h
    obtain ⟨h1, h2⟩ := Classical.not_imp.1 hi
    rw [Bool.not_eq_false, Bool.and_eq_true] at h2
    exact ⟨i, h1, h2⟩
  · rintro ⟨i, h1, h2, h3⟩ h
    have := h i h1
    rw [h2, h3] at this; cases this

/-! ### Busy -/
def spF (L : List Mt) (who : Int) (i : Nat) : List Sp := ((L.take i).filter fun a => meets a who).map spn
theorem spF_len (L : List Mt) (who : Int) (i : Nat) : (spF L who i).length ≤ i := by
  unfold spF; rw [List.length_map]
  have := List.length_filter_le (fun a => meets a who) (L.take i)
  rw [List.length_take] at this; omega
theorem spF_yes {L : List Mt} {who : Int} {a : Mt} {i : Nat} (h : L[i]? = some a) (hr : meets a who = true) : spF L who (i + 1) = spF L who i ++ [spn a] := by
  unfold spF; rw [takeS h, List.filter_append, List.map_append]; simp only [List.filter_cons, hr, if_true, List.filter_nil, List.map_cons, List.map_nil]
theorem spF_no {L : List Mt} {who : Int} {a : Mt} {i : Nat} (h : L[i]? = some a) (hr : meets a who = false) : spF L who (i + 1) = spF L who i := by
  unfold spF; rw [takeS h, List.filter_append, List.map_append]; simp only [List.filter_cons, hr, List.filter_nil, List.map_nil, List.append_nil]; simp
abbrev Bsy (L : List Mt) (who : Int) : List Sp := spF L who L.length
theorem bsy_iff {L : List Mt} (hrt : ∀ a ∈ L, rt (spn a)) {who t : Int} : Inn (Bsy L who) t = true ↔ ∃ a ∈ L, meets a who = true ∧ a.2.1 ≤ t ∧ t < a.2.2.1 := by
  rw [inn_iff]
  unfold Bsy spF
  rw [List.take_length]
  constructor
  · rintro ⟨x, hx, h1, h2, h3⟩
    obtain ⟨a, ha, rfl⟩ := List.mem_map.1 hx
    rw [List.mem_filter] at ha
    exact ⟨a, ha.1, ha.2, h2, h3⟩
  · rintro ⟨a, ha, h1, h2, h3⟩
    exact ⟨spn a, List.mem_map.2 ⟨a, List.mem_filter.2 ⟨ha, h1⟩, rfl⟩, hrt a ha, h2, h3⟩

theorem busy_calls {m : Mem} {D : List Nat} {r : Nat} {all : Int} {L : List Mt} (hA : Ag m D r all L) {who : Int} {K : KV} (h : ∀ v m' W, (∀ t, Inn W t = Inn (Bsy L who) t) → W.length ≤ 256 → m.Grew m' → Sl m' 2 v (rowP W) → K v m') : ACalls Try.prog 8 [.ptr (some (r, 0, 0)), .int .u64 who] m K := by
  have hlen := hA.len
  refine run_on (ctx_nil _) hm c8 (by simp) fun hf => ?_
  simp (disch := omega) [-getElem?_pos, b8]
  refine all_calls hA fun v m2 w1 w2 w3 => ?_
  have hv := w1.sl.lenSl
  rw [List.length_map] at hv
  obtain ⟨n, hn⟩ : ∃ n, L.length = n := ⟨_, rfl⟩
  unfold Bsy at h
  rw [hn] at hv hlen h
  simp (disch := omega) [-getElem?_pos, hv]
  refine exec_loopU (σ := Nat × V × Mem) (fun (i, u, _) => [(5, u), (11, .int .i64 i)]) (fun (_, _, M) => M) (fun (i, u, M) => i ≤ n ∧ Ows M 2 u (rowP (spF L who i)) ∧ m2.Grew M ∧ (∀ p ∈ u.fp, m2.next ≤ p)) (fun (i, _, _) => n - i) (0, .sl none 0 (some 0), m2) rfl
    (by dsimp only; exact ⟨by omega, Ows.nil _ _, Mem.Grew.refl m2, by simp [V.fp]⟩) (by simp) ?_
  intro (i, u, M) ⟨a1, a2, a3, a4⟩
  have hll := spF_len L who i
  by_cases hi : i < n
  case neg =>
    have : i = n := by omega
    subst this
    simp (disch := omega) [-getElem?_pos]
    refine of_calls a2.sl (by omega) fun v' m' W k1 k2 k3 k4 k5 => ?_
    simp (disch := omega) [-getElem?_pos]
    exact h _ _ W k2 (by omega) ((w2.trans a3).trans k4) k5
  obtain ⟨a, ha⟩ : ∃ a, L[i]? = some a := ⟨_, List.getElem?_eq_getElem (by omega)⟩
  obtain ⟨p, q, full, rw, z1, z2, z3, z4, _⟩ := (w1.grow a3).sl.at (mt_get ha) .i64
  simp only [mt] at z4
  have g4 := Mem.Grew.new M (.row 4 [[.int .i64 a.1, .int .i64 a.2.1, .int .i64 a.2.2.1, .int .u64 a.2.2.2]] true)
  by_cases hm0 : bAnd .u64 a.2.2.2 who = 0
  · have hmt : meets a who = false := by unfold meets; simp [hm0]
    simp (disch := omega) [-getElem?_pos, z1, z3, z4, hm0]
    exact again_mk (i + 1, u, _) (by dsimp only; rw [spF_no ha hmt]; exact ⟨by omega, a2.grow g4, a3.trans g4, a4⟩) (by dsimp only; omega) (by simp) rfl
  · have hmt : meets a who = true := by unfold meets; simp [hm0]
    simp (disch := omega) [-getElem?_pos, z1, z3, z4, hm0, eltsOf, Mem.elts]
    have g7 := g4.trans (Mem.Grew.new _ (.row 2 [[.int .i64 a.2.1, .int .i64 a.2.2.1]] true))
    refine (a2.grow g7).app (by rw [rowP_length]; omega) (by rw [rowP_length]; omega) fun u' M' e1 e2 e3 => ?_
    have s7 := (Stp.grow g7 u.fp).trans e2
    have e : rowP (spF L who i) ++ [[.int .i64 a.2.1, .int .i64 a.2.2.1]] = rowP (spF L who (i + 1)) := by rw [spF_yes ha hmt, rowP_app]; rfl
    rw [e] at e1
    simp (disch := omega)
    exact again_mk (i + 1, u', M') (by dsimp only; exact ⟨by omega, e1, s7.toGrew a3 a4, s7.ge a3.next a4⟩) (by dsimp only; omega) (by simp) rfl

/-! ### Free: who is, at a time -/
def Fre (all : Int) (L : List Mt) (t : Int) (k : Nat) (f : Int) : Prop := ∀ i, i < 64 → bt f i = (bt all i && !((L.take k).any fun a => decide (a.2.1 ≤ t ∧ t < a.2.2.1) && bt a.2.2.2 i))
theorem Fre.yes {all : Int} {L : List Mt} {t : Int} {k : Nat} {f : Int} (h : Fre all L t k f) {a : Mt} (ha : L[k]? = some a) (h1 : a.2.1 ≤ t) (h2 : t < a.2.2.1) : Fre all L t (k + 1) (bAndNot .u64 f a.2.2.2) := fun i hi => by
  rw [bt_andNot _ _ hi, h i hi, takeS ha, List.any_append]
  have : decide (a.2.1 ≤ t ∧ t < a.2.2.1) = true := decide_eq_true ⟨h1, h2⟩
  simp only [List.any_cons, List.any_nil, this, Bool.true_and, Bool.or_false]
  cases bt all i <;> cases ((L.take k).any fun a => decide (a.2.1 ≤ t ∧ t < a.2.2.1) && bt a.2.2.2 i) <;> cases bt a.2.2.2 i <;> rfl
theorem Fre.no {all : Int} {L : List Mt} {t : Int} {k : Nat} {f : Int} (h : Fre all L t k f) {a : Mt} (ha : L[k]? = some a) (h1 : ¬ (a.2.1 ≤ t ∧ t < a.2.2.1)) : Fre all L t (k + 1) f := fun i hi => by
  rw [h i hi, takeS ha, List.any_append]
  have : decide (a.2.1 ≤ t ∧ t < a.2.2.1) = false := decide_eq_false h1
  simp only [List.any_cons, List.any_nil, this, Bool.false_and, Bool.or_false]
theorem free10 {m : Mem} {D : List Nat} {r : Nat} {all : Int} {L : List Mt} (hA : Ag m D r all L) {t : Int} {K : KV} (h : ∀ f m', Fre all L t L.length f → m.Grew m' → K (.int .u64 f) m') : ACalls Try.prog 10 [.ptr (some (r, 0, 0)), .int .i64 t] m K := by
  have hlen := hA.len
  obtain ⟨v, rfl, q1, q2, q3, q4⟩ := hA.ex
  have hv := q3.sl.lenSl
  rw [List.length_map] at hv
  obtain ⟨n, hn⟩ : ∃ n, L.length = n := ⟨_, rfl⟩
  rw [hn] at hv hlen h
  refine run_on (ctx_nil _) hm c10 (by simp) fun hf => ?_
  simp (disch := omega) [-getElem?_pos, b10, q2, hv]
  refine exec_loopU (σ := Nat × Int × Mem) (fun (i, f, _) => [(5, .int .u64 f), (19, .int .i64 i)]) (fun (_, _, M) => M) (fun (i, f, M) => i ≤ n ∧ Fre all L t i f ∧ m.Grew M) (fun (i, _, _) => n - i) (0, all, m) rfl
    (by dsimp only; exact ⟨by omega, fun i hi => by simp, Mem.Grew.refl m⟩) (by simp) ?_
  intro (i, f, M) ⟨a1, a2, a3⟩
  by_cases hi : i < n
  case neg =>
    have : i = n := by omega
    subst this
    simp (disch := omega) [-getElem?_pos]
    exact h _ _ a2 a3
  obtain ⟨a, ha⟩ : ∃ a, L[i]? = some a := ⟨_, List.getElem?_eq_getElem (by omega)⟩
  obtain ⟨p, q, full, rw, z1, z2, z3, z4, _⟩ := (q3.grow a3).sl.at (mt_get ha) .i64
  simp only [mt] at z4
  have g4 := a3.trans (Mem.Grew.new M (.row 4 [[.int .i64 a.1, .int .i64 a.2.1, .int .i64 a.2.2.1, .int .u64 a.2.2.2]] true))
  by_cases h1 : a.2.1 ≤ t
  · by_cases h2 : t < a.2.2.1
    · simp (disch := omega) [-getElem?_pos, z1, z3, z4]
      exact again_mk (i + 1, _, _) (by dsimp only; exact ⟨by omega, a2.yes ha h1 h2, g4⟩) (by dsimp only; omega) (by simp) rfl
    · simp (disch := omega) [-getElem?_pos, z1, z3, z4]
      exact again_mk (i + 1, _, _) (by dsimp only; exact ⟨by omega, a2.no ha (fun e => h2 e.2), g4⟩) (by dsimp only; omega) (by simp) rfl
  · simp (disch := omega) [-getElem?_pos, z1, z3, z4]
    exact again_mk (i + 1, _, _) (by dsimp only; exact ⟨by omega, a2.no ha (fun e => h1 e.1), g4⟩) (by dsimp only; omega) (by simp) rfl
/-- Who is busy isn't among the free. -/
theorem fre_busy {all : Int} {L : List Mt} (hok : ∀ a ∈ L, okA all a) {t f who : Int} (h : Fre all L t L.length f) : decide (bAnd .u64 f who ≠ bAnd .u64 who all) = Inn (Bsy L who) t := by
  have hb := bsy_iff (fun a ha => (hok a ha).1) (who := who) (t := t)
  unfold Fre at h
  rw [List.take_length] at h
  cases hc : Inn (Bsy L who) t with
  | true =>
    obtain ⟨a, ha, h1, h2, h3⟩ := hb.1 hc
    obtain ⟨i, hi, k1, k2⟩ := meets_iff.1 h1
    refine decide_eq_true fun e => ?_
    have e1 := and_eq.1 e i hi
    have e2 := andNot_zero.1 (hok a ha).2.2 i hi k1
    have e3 := h i hi
    have e4 : (L.any fun a => decide (a.2.1 ≤ t ∧ t < a.2.2.1) && bt a.2.2.2 i) = true := List.any_eq_true.2 ⟨a, ha, by rw [decide_eq_true ⟨h2, h3⟩, k1]; rfl⟩
    rw [e4] at e3
    rw [e3, e2, k2] at e1
    cases e1
  | false =>
    refine decide_eq_false fun e => e (and_eq.2 fun i hi => ?_)
    rw [h i hi]
    cases hw : bt who i with
    | false => simp
    | true =>
      have e4 : (L.any fun a => decide (a.2.1 ≤ t ∧ t < a.2.2.1) && bt a.2.2.2 i) = false := by
        rw [List.any_eq_false]
        intro a ha e
        rw [Bool.and_eq_true, decide_eq_true_eq] at e
        have := hb.2 ⟨a, ha, meets_iff.2 ⟨i, hi, e.2, hw⟩, e.1.1, e.1.2⟩
        rw [hc] at this; cases this
      rw [e4]; simp

/-! ### Find -/
theorem find_none {m : Mem} {r : Nat} {who t n : Int} (hn : n < 1) {K : KV} (h : K (.tup [.int .i64 0, .bool false]) m) : ACalls Try.prog 7 [.ptr (some (r, 0, 0)), .int .u64 who, .int .i64 t, .int .i64 n] m K := by
  refine run_on (ctx_nil _) hm c7 (by simp) fun hf => ?_
  simp (disch := omega) [-getElem?_pos, b7]
  exact h
theorem find_calls {m : Mem} {D : List Nat} {r : Nat} {all : Int} {L : List Mt} (hA : Ag m D r all L) {who t n : Int} (ht : -32768 ≤ t ∧ t ≤ 32767) (hn : 1 ≤ n ∧ n ≤ 255) {K : KV} (h : ∀ x m', IsFree (Inn (Bsy L who)) t n x → -1152921504606846976 ≤ x → x ≤ 1152921504606846976 → m.Grew m' → K (if x + n ≤ 1152921504606846976 then .tup [.int .i64 x, .bool true] else .tup [.int .i64 0, .bool false]) m') : ACalls Try.prog 7 [.ptr (some (r, 0, 0)), .int .u64 who, .int .i64 t, .int .i64 n] m K := by
  refine run_on (ctx_nil _) hm c7 (by simp) fun hf => ?_
  simp (disch := omega) [-getElem?_pos, b7]
  have g0 := Mem.Grew.new m (.row 2 [[.int .i64 t, .int .i64 (t + 1)]] true)
  have hx := (Exa.lit (m := m) (sz := 2) (es := rowP [(t, t + 1)]) (n := 1) rfl).ows.sl
  refine right10 (l := [(t, t + 1)]) hx (by simp) fun b m1 hb g1 => ?_
  rw [rs_one] at hb
  obtain rfl : b = true := hb.2 ⟨by dsimp only; omega, by dsimp only; omega, by dsimp only; omega⟩
  have gA := g0.trans g1
  simp (disch := omega) [-getElem?_pos]
  refine busy_calls (hA.grow gA) fun v m2 W w1 w2 w3 w4 => ?_
  have hW : Inn W = Inn (Bsy L who) := funext w1
  simp (disch := omega) [-getElem?_pos]
  refine free_calls w4 (by omega) (by omega) (by omega) fun x m3 k1 k2 k3 k4 => ?_
  rw [hW, show max n 1 = n by omega] at k1
  simp (disch := omega) [-getElem?_pos]
  have g5 := Mem.Grew.new m3 (.row 2 [[.int .i64 x, .int .i64 (x + n)]] true)
  have hx := (Exa.lit (m := m3) (sz := 2) (es := rowP [(x, x + n)]) (n := 1) rfl).ows.sl
  refine right10 (l := [(x, x + n)]) hx (by simp) fun b m6 hb g6 => ?_
  rw [rs_one] at hb
  have gg := (((gA.trans w3).trans k2).trans g5).trans g6
  have hh := h x m6 k1 k3 k4 gg
  unfold rt at hb
  dsimp only at hb
  by_cases he : x + n ≤ 1152921504606846976
  · rw [if_pos he] at hh
    obtain rfl : b = true := hb.2 ⟨by omega, by omega, by omega⟩
    simp (disch := omega) [-getElem?_pos]
    exact hh
  · rw [if_neg he] at hh
    obtain rfl : b = false := by
      cases b
      · rfl
      · exact absurd (hb.1 rfl).2.1 (by omega)
    simp (disch := omega) [-getElem?_pos]
    exact hh
end Go.Proofs.Ytbacmgdlhbfddaa
