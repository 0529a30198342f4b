/-
  MADE: whatever meetings come and go: each answer is what a plain row tells.
-/
import Derived.Test.YtbacmgdlhbfddaaNx
namespace Go.Proofs.Ytbacmgdlhbfddaa
open Go Go.AM
set_option linter.unusedVariables false
set_option linter.unusedSimpArgs false
set_option maxRecDepth 60000
set_option maxHeartbeats 8000000

theorem all_pow : ∀ n : Fin 65, 18446744073709551615 / 2 ^ (64 - n.1) = 2 ^ n.1 - 1 := by decide
theorem andNot_nat (B C : Nat) : bAndNot .u64 (B : Int) (C : Int) = (((BitVec.ofNat 64 B &&& ~~~BitVec.ofNat 64 C).toNat : Nat) : Int) := by
  have hl := (BitVec.ofNat 64 B &&& ~~~BitVec.ofNat 64 C).isLt
  unfold bAndNot
  simp only [IntKind.bits, BitVec.ofInt_natCast]
  exact wu64 (by omega) (by omega)
/-- Of people alone who are there. -/
theorem who_ok {n : Nat} (hn : n ≤ 64) {B : Nat} (hB : B < 18446744073709551616) : bAndNot .u64 (B : Int) ((18446744073709551615 / 2 ^ (64 - n) : Nat) : Int) = 0 ↔ B < 2 ^ n := by
  have e := all_pow ⟨n, by omega⟩
  dsimp only at e
  rw [e, andNot_nat]
  constructor
  · intro h
    have h0 : (BitVec.ofNat 64 B &&& ~~~BitVec.ofNat 64 (2 ^ n - 1)).toNat = 0 := by omega
    refine Nat.lt_pow_two_of_testBit B fun i hi => ?_
    have h1 : (BitVec.ofNat 64 B &&& ~~~BitVec.ofNat 64 (2 ^ n - 1)).toNat.testBit i = Nat.testBit 0 i := congrArg (fun x => Nat.testBit x i) h0
    rw [BitVec.testBit_toNat, BitVec.getLsbD_and, BitVec.getLsbD_not, Nat.zero_testBit] at h1
    simp only [BitVec.getLsbD_ofNat, Nat.testBit_two_pow_sub_one] at h1
    by_cases h64 : i < 64
    · have h2 : decide (i < n) = false := decide_eq_false (by omega)
      simpa [h64, h2] using h1
    · refine Nat.testBit_lt_two_pow (Nat.lt_of_lt_of_le hB ?_)
      exact Nat.pow_le_pow_right (n := 2) (by omega) (show 64 ≤ i by omega)
  · intro h
    have h0 : (BitVec.ofNat 64 B &&& ~~~BitVec.ofNat 64 (2 ^ n - 1)).toNat = 0 := by
      refine Nat.eq_of_testBit_eq fun i => ?_
      rw [BitVec.testBit_toNat, BitVec.getLsbD_and, BitVec.getLsbD_not, Nat.zero_testBit]
      simp only [BitVec.getLsbD_ofNat, Nat.testBit_two_pow_sub_one]
      by_cases h64 : i < 64
      · by_cases hi : i < n
        · simp [h64, hi]
        · have : B.testBit i = false := Nat.testBit_lt_two_pow (Nat.lt_of_lt_of_le h (Nat.pow_le_pow_right (by omega) (by omega)))
          simp [h64, this]
      · simp [h64]
    rw [h0]; rfl
theorem who_shr {n : Nat} {B : Nat} : (B : Int).fdiv (2 ^ n) = 0 ↔ B < 2 ^ n := by
  have e : (B : Int).fdiv (2 ^ n) = ((B / 2 ^ n : Nat) : Int) := by
    rw [Int.fdiv_eq_ediv_of_nonneg _ (by exact Int.le_of_lt (Int.pow_pos (by omega)))]
    exact (castdiv B n).symm
  rw [e]
  have hp := Nat.two_pow_pos n
  have := Nat.div_eq_zero_iff_lt (x := B) hp
  omega

/-- Where an ID was seen last. -/
def Fnd (L : List Mt) (q : Int) (k : Nat) (f : Int) : Prop := (f = -1 ∧ ∀ j a, j < k → L[j]? = some a → a.1 ≠ q) ∨ ∃ j a, f = (j : Nat) ∧ j < k ∧ L[j]? = some a ∧ a.1 = q
theorem Fnd.zero (L : List Mt) (q : Int) : Fnd L q 0 (-1) := .inl ⟨rfl, fun j a h => by omega⟩
theorem Fnd.yes {L : List Mt} {q : Int} {k : Nat} {a : Mt} (h : L[k]? = some a) (e : a.1 = q) : Fnd L q (k + 1) k := .inr ⟨k, a, rfl, by omega, h, e⟩
theorem Fnd.no {L : List Mt} {q : Int} {k : Nat} {f : Int} (hF : Fnd L q k f) {a : Mt} (h : L[k]? = some a) (e : a.1 ≠ q) : Fnd L q (k + 1) f := by
  rcases hF with ⟨rfl, h1⟩ | ⟨j, b, rfl, h1, h2, h3⟩
  · refine .inl ⟨rfl, fun j b hj hb => ?_⟩
    by_cases e2 : j = k
    · subst e2; rw [h] at hb; injection hb with hb; subst hb; exact e
    · exact h1 j b (by omega) hb
  · exact .inr ⟨j, b, rfl, by omega, h2, h3⟩
theorem Fnd.all {L : List Mt} {q : Int} {f : Int} (hF : Fnd L q L.length f) : (f = -1 ∧ ¬ ∃ a ∈ L, a.1 = q) ∨ ∃ j a, f = (j : Nat) ∧ L[j]? = some a ∧ a.1 = q := by
  rcases hF with ⟨rfl, h1⟩ | ⟨j, b, rfl, h1, h2, h3⟩
  · refine .inl ⟨rfl, ?_⟩
    rintro ⟨a, ha, e⟩
    obtain ⟨j, hj⟩ := List.mem_iff_getElem?.1 ha
    exact h1 j a (List.getElem?_eq_some_iff.1 hj).1 hj e
  · exact .inr ⟨j, b, rfl, h2, h3⟩
/-- One place alone. -/
theorem Ag.at {m : Mem} {D : List Nat} {r : Nat} {all : Int} {L : List Mt} (h : Ag m D r all L) {i j : Nat} {a b : Mt} (h1 : L[i]? = some a) (h2 : L[j]? = some b) (e : a.1 = b.1) : i = j := by
  have hi := List.getElem?_eq_some_iff.1 h1
  have hj := List.getElem?_eq_some_iff.1 h2
  have hq := h.uq
  have hi1 := hi.1
  have hj1 := hj.1
  rw [List.nodup_iff_pairwise_ne, List.pairwise_iff_getElem] at hq
  rcases Nat.lt_trichotomy i j with w | w | w
  · have := hq i j (by rw [List.length_map]; exact hi.1) (by rw [List.length_map]; exact hj.1) w
    rw [List.getElem_map, List.getElem_map, hi.2, hj.2] at this; exact absurd e this
  · exact w
  · have := hq j i (by rw [List.length_map]; exact hj.1) (by rw [List.length_map]; exact hi.1) w
    rw [List.getElem_map, List.getElem_map, hi.2, hj.2] at this; exact absurd e.symm this

/-- Did one of the first clash? -/
def metL (L : List Mt) (x : Mt) (k : Nat) : Bool := (L.take k).any fun b => clL b x
theorem metL_next {L : List Mt} {x a : Mt} {k : Nat} (h : L[k]? = some a) : metL L x (k + 1) = (metL L x k || clL a x) := by
  unfold metL; rw [takeS h, List.any_append]; simp
theorem metL_all {L : List Mt} {x : Mt} : metL L x L.length = true ↔ ∃ b ∈ L, clL b x = true := by
  unfold metL; rw [List.take_length, List.any_eq_true]

/-- What goes on: an agenda, and a plain row of the same meetings. -/
structure Mir (n0 : Nat) (m : Mem) (s : Nat) (all : Int) (L : List Mt) (D : List Nat) (u : V) : Prop where
  W : Ag m D s all L
  U : Ows m 4 u (L.map mt)
  dj : ∀ p ∈ u.fp, p ∉ D
  geD : ∀ p ∈ D, n0 ≤ p
  geU : ∀ p ∈ u.fp, n0 ≤ p
theorem Mir.grow {n0 : Nat} {m m' : Mem} {s : Nat} {all : Int} {L : List Mt} {D : List Nat} {u : V} (h : Mir n0 m s all L D u) (g : m.Grew m') : Mir n0 m' s all L D u := ⟨h.W.grow g, h.U.grow g, h.dj, h.geD, h.geU⟩

theorem act_of {m : Mem} {e : List V} (h : Is m (.struct [.int .u8, .struct [.int .i64, .struct [.int .i64, .int .i64], .int .u64]]) e) : ∃ k id f t w, e = [.int .u8 k, .int .i64 id, .int .i64 f, .int .i64 t, .int .u64 ((w : Nat) : Int)] ∧ 0 ≤ k ∧ k ≤ 255 ∧ w < 18446744073709551616 := by
  simp only [Is, Iss] at h
  obtain ⟨_, _, rfl, ⟨k, rfl, w⟩, _, _, rfl, ⟨_, _, rfl, ⟨a, rfl, _⟩, _, _, rfl, ⟨_, _, rfl, ⟨b, rfl, _⟩, _, _, rfl, ⟨c, rfl, _⟩, rfl⟩, _, _, rfl, ⟨d, rfl, w2⟩, rfl⟩, rfl⟩ := h
  have := wf_u8 w
  have h2 := wf_u64 w2
  obtain ⟨d, rfl⟩ : ∃ n : Nat, d = n := ⟨d.toNat, by omega⟩
  exact ⟨k, a, b, c, d, by simp, by omega, by omega, by omega⟩

abbrev actC (kk id fr to : Int) (wh : Nat) : List V := [.int .u8 kk, .int .i64 id, .int .i64 fr, .int .i64 to, .int .u64 wh]

theorem made_calls {pn : Nat} (hpn : 1 ≤ pn) (hpn2 : pn ≤ 64) {m0 : Mem} {v : V} {es : List (List V)} (hv : Sl m0 5 v es) (hes : ∀ e ∈ es, Is m0 (.struct [.int .u8, .struct [.int .i64, .struct [.int .i64, .int .i64], .int .u64]]) e) (hl : es.length ≤ 80) {K : KV}
    (h : ∀ s L D u m', Mir m0.next m' s ((18446744073709551615 / 2 ^ (64 - pn) : Nat) : Int) L D u → L.length ≤ es.length → m0.Grew m' → K (.tup [.ptr (some (s, 0, 0)), u, .bool true]) m') : ACalls Try.prog 6 [.int .i64 pn, v] m0 K := by
  have hv1 := hv.lenSl
  obtain ⟨N, hN⟩ : ∃ N, es.length = N := ⟨_, rfl⟩
  rw [hN] at hv1 hl h
  refine run_on (ctx_nil _) hm c6 (by simp) fun hf => ?_
  simp (disch := omega) [-getElem?_pos, b6]
  refine new_calls hpn hpn2 fun s m1 hW1 hs1 g1 => ?_
  obtain ⟨all, hall⟩ : ∃ x : Int, x = ((18446744073709551615 / 2 ^ (64 - pn) : Nat) : Int) := ⟨_, rfl⟩
  rw [← hall] at hW1 h
  simp (disch := omega) [-getElem?_pos, hv1]
  refine exec_loopU (σ := Nat × List Mt × List Nat × V × Mem) (fun (i, _, _, u, _) => [(8, u), (22, .int .i64 i)]) (fun (_, _, _, _, M) => M)
    (fun (i, L, D, u, M) => i ≤ N ∧ L.length ≤ i ∧ Mir m0.next M s all L D u ∧ m0.Grew M) (fun (i, _, _, _, _) => N - i) (0, [], [s], .sl none 0 (some 0), m1) rfl
    (by dsimp only; exact ⟨by omega, by simp, ⟨hW1, Ows.nil _ _, by simp [V.fp], by simpa using hs1, by simp [V.fp]⟩, g1⟩) (by simp) ?_
  clear hW1 hs1 g1
  intro (i, L, D, u, M) ⟨a1, aL, hP, gM⟩
  by_cases hi : i < N
  case neg =>
    simp (disch := omega) [-getElem?_pos]
    exact h _ _ _ _ _ hP (by omega) gM
  obtain ⟨e, he⟩ : ∃ e, es[i]? = some e := ⟨_, List.getElem?_eq_getElem (by omega)⟩
  obtain ⟨kk, id, fr, to, wh, rfl, hk0, hk1, hwh⟩ := act_of (hes e (mem_of_idx he))
  obtain ⟨p, q, full, rw, z1, z2, z3, z4, _⟩ := (hv.grow gM).at he .i64
  have hU1 := hP.U.sl.lenSl
  rw [List.length_map] at hU1
  obtain ⟨n, hn⟩ : ∃ n, L.length = n := ⟨_, rfl⟩
  have hlen := hP.W.len
  rw [hn] at hU1 hlen aL
  have gN := (Mem.Grew.new M (.row 5 [[.int .u8 kk, .int .i64 id, .int .i64 fr, .int .i64 to, .int .u64 wh]] true)).trans (Mem.Grew.new _ (.row 4 [[.int .i64 id, .int .i64 fr, .int .i64 to, .int .u64 wh]] true))
  have oA : ((M.new (.row 5 [[.int .u8 kk, .int .i64 id, .int .i64 fr, .int .i64 to, .int .u64 wh]] true)).new (.row 4 [[.int .i64 id, .int .i64 fr, .int .i64 to, .int .u64 wh]] true)).obj M.next = some (.row 5 [[.int .u8 kk, .int .i64 id, .int .i64 fr, .int .i64 to, .int .u64 wh]] true) := by simp (disch := omega)
  have oB : ((M.new (.row 5 [[.int .u8 kk, .int .i64 id, .int .i64 fr, .int .i64 to, .int .u64 wh]] true)).new (.row 4 [[.int .i64 id, .int .i64 fr, .int .i64 to, .int .u64 wh]] true)).obj (M.next + 1) = some (.row 4 [[.int .i64 id, .int .i64 fr, .int .i64 to, .int .u64 wh]] true) := by simp (disch := omega)
  have bB : M.next + 1 < ((M.new (.row 5 [[.int .u8 kk, .int .i64 id, .int .i64 fr, .int .i64 to, .int .u64 wh]] true)).new (.row 4 [[.int .i64 id, .int .i64 fr, .int .i64 to, .int .u64 wh]] true)).next := by simp
  have hP' := hP.grow gN
  simp (disch := omega) [-getElem?_pos, z1, z3, z4, hU1]
  generalize (M.new (.row 5 [[.int .u8 kk, .int .i64 id, .int .i64 fr, .int .i64 to, .int .u64 wh]] true)).new (.row 4 [[.int .i64 id, .int .i64 fr, .int .i64 to, .int .u64 wh]] true) = M1 at *
  obtain ⟨B, hBe⟩ : ∃ B, B = M.next + 1 := ⟨_, rfl⟩
  rw [← hBe] at oB bB ⊢
  generalize hA : M.next = A at *
  replace gM := gM.trans gN
  have hAD : (A ∉ D ∧ A ∉ u.fp) ∧ B ∉ D ∧ B ∉ u.fp := ⟨⟨fun h => by have := hP.W.lt A h; omega, fun h => by have := hP.U.lt A h; omega⟩, fun h => by have := hP.W.lt B h; omega, fun h => by have := hP.U.lt B h; omega⟩
  have bA : A < M1.next := by omega
  clear hP z1 z2 z3 z4 gN he
  replace hP := hP'
  clear hP' hBe
  refine exec_loopU (σ := Nat × Int × Mem) (fun (k, f, _) => [(12, .int .i64 f), (13, .bool (metL L (id, fr, to, (wh : Int)) k)), (30, .int .i64 k)]) (fun (_, _, M) => M) (fun (k, f, M) => k ≤ n ∧ Fnd L id k f ∧ M1.Grew M) (fun (k, _, _) => n - k) (0, -1, M1) rfl
    (by dsimp only; exact ⟨by omega, Fnd.zero _ _, Mem.Grew.refl _⟩) (by simp [metL]) ?_
  intro (k, f, M2) ⟨b1, b2, b3⟩
  have oA2 : M2.obj A = some (.row 5 [[.int .u8 kk, .int .i64 id, .int .i64 fr, .int .i64 to, .int .u64 wh]] true) := by rw [b3.obj A bA]; exact oA
  have oB2 : M2.obj B = some (.row 4 [[.int .i64 id, .int .i64 fr, .int .i64 to, .int .u64 wh]] true) := by rw [b3.obj B bB]; exact oB
  have bA2 : A < M2.next := by have := b3.next; omega
  have bB2 : B < M2.next := by have := b3.next; omega
  by_cases hk : k < n
  · obtain ⟨a, ha⟩ : ∃ a, L[k]? = some a := ⟨_, List.getElem?_eq_getElem (by omega)⟩
    have hmn := metL_next (x := (id, fr, to, (wh : Int))) ha
    obtain ⟨p, q, full, rw, z1, z2, z3, z4, _⟩ := (hP.U.grow b3).sl.at (mt_get ha) .i64
    simp only [mt] at z4
    have gS := Mem.Grew.new M2 (.row 4 [[.int .i64 a.1, .int .i64 a.2.1, .int .i64 a.2.2.1, .int .u64 a.2.2.2]] true)
    have oS : (M2.new (.row 4 [[.int .i64 a.1, .int .i64 a.2.1, .int .i64 a.2.2.1, .int .u64 a.2.2.2]] true)).obj M2.next = some (.row 4 [[.int .i64 a.1, .int .i64 a.2.1, .int .i64 a.2.2.1, .int .u64 a.2.2.2]] true) := by simp
    by_cases e : a.1 = id
    · cases hmt : metL L (id, fr, to, (wh : Int)) k with
      | true =>
        rw [hmt, Bool.true_or] at hmn
        simp (disch := omega) [-getElem?_pos, z1, z3, z4, oB2, e, hmt]
        rw [e] at gS
        exact again_mk (k + 1, k, _) (by dsimp only; exact ⟨by omega, Fnd.yes ha e, b3.trans gS⟩) (by dsimp only; omega) (by simp [hmn, hmt]) rfl
      | false =>
        rw [hmt, Bool.false_or] at hmn
        simp (disch := omega) [-getElem?_pos, z1, z3, z4, oB2, e, hmt]
        refine clash16 (a := (id, a.2)) (b := (id, fr, to, (wh : Int))) fun M3 g3 => ?_
        have ec : clL (id, a.2) (id, fr, to, (wh : Int)) = clL a (id, fr, to, (wh : Int)) := rfl
        rw [e] at gS
        simp (disch := omega) [-getElem?_pos]
        exact again_mk (k + 1, k, _) (by dsimp only; exact ⟨by omega, Fnd.yes ha e, (b3.trans gS).trans g3⟩) (by dsimp only; omega) (by simp [hmn, ec]) rfl
    · cases hmt : metL L (id, fr, to, (wh : Int)) k with
      | true =>
        rw [hmt, Bool.true_or] at hmn
        simp (disch := omega) [-getElem?_pos, z1, z3, z4, oB2, e, hmt]
        exact again_mk (k + 1, f, _) (by dsimp only; exact ⟨by omega, b2.no ha e, b3.trans gS⟩) (by dsimp only; omega) (by simp [hmn, hmt]) rfl
      | false =>
        rw [hmt, Bool.false_or] at hmn
        simp (disch := omega) [-getElem?_pos, z1, z3, z4, oB2, e, hmt]
        refine clash16 (a := a) (b := (id, fr, to, (wh : Int))) fun M3 g3 => ?_
        simp (disch := omega) [-getElem?_pos]
        exact again_mk (k + 1, f, _) (by dsimp only; exact ⟨by omega, b2.no ha e, (b3.trans gS).trans g3⟩) (by dsimp only; omega) (by simp [hmn]) rfl
  have hkn : k = n := by omega
  subst hkn
  have hP2 := hP.grow b3
  replace gM := gM.trans b3
  have b2' := Fnd.all (by rw [hn]; exact b2)
  have hmet := metL_all (L := L) (x := (id, fr, to, (wh : Int)))
  rw [hn] at hmet
  clear hP b2 b3 oA oB bB bA hk hA
  have hrem : kk.tmod 2 = 0 ∨ kk.tmod 2 = 1 := by
    rw [Int.tmod_eq_emod_of_nonneg hk0]; omega
  rcases hrem with hq | hq
  case inr =>
    -- it goes
    simp (disch := omega) [-getElem?_pos, oA2, oB2, hq]
    refine drop_calls hP2.W fun m' D' L' b hR hW' hS => ?_
    have hU' := hP2.U.step hS (fun p hp hq => hP2.dj p hq hp)
    have gM' := hS.toGrew gM hP2.geD
    have hdj := hS.apart (E := u.fp) hP2.U.lt (fun p hp hq => hP2.dj p hq hp)
    have hge := hS.ge gM.next hP2.geD
    rcases b2' with ⟨rfl, e2⟩ | ⟨j, a, rfl, e2, e3⟩
    · cases hR with
      | one k2 b w1 w2 => exact absurd ⟨b, mem_of_idx w1, w2⟩ e2
      | no w =>
        simp (disch := omega) [-getElem?_pos]
        exact again_mk (i + 1, L, D', u, m') (by dsimp only; exact ⟨by omega, by omega, ⟨hW', hU', fun p hp hq => hdj p hq hp, hge, hP2.geU⟩, gM'⟩) (by dsimp only; omega) (by simp) rfl
    · have hj := (List.getElem?_eq_some_iff.1 e2).1
      cases hR with
      | no w => exact absurd ⟨a, mem_of_idx e2, e3⟩ w
      | one k2 b w1 w2 =>
        obtain rfl := hP2.W.at e2 w1 (by omega)
        obtain ⟨vL, hL1, hL2, hL3⟩ := hU'.cutR .i64 j (by rw [List.length_map]; omega)
        obtain ⟨vR, hR1, hR2, hR3⟩ := hU'.cutL .i64 (j + 1) (by rw [List.length_map]; omega)
        simp at hR1
        have hlen1 : ((L.map mt).take j).length = j := by simp; omega
        have hlen2 : ((L.map mt).drop (j + 1)).length = k - (j + 1) := by simp; omega
        have hg := Mem.Grew.new m' (.row 4 [] true)
        have eL := (hL2.grow hg).sl.elts
        simp (disch := omega) [-getElem?_pos, hL1, hR1, eL]
        refine (Exa.lit (m := m') (sz := 4) (es := []) (n := 0) rfl).app (by rw [hlen1]; simp; omega) (by rw [hlen1]; simp; omega) fun f1 M1 u1 u2 u3 => ?_
        rw [List.nil_append] at u1
        have s1 : Stp m' M1 [] f1.fp := (⟨hg.next, fun p hp _ => hg.obj p hp, fun p hp => by simp [V.fp] at hp; exact .inr (by omega)⟩ : Stp m' _ [] (V.sl (some (m'.next, 0, 4)) 0 (some 0)).fp).trans u2
        have eR := (hR2.keep s1.next fun p hp => s1.obj p (hR2.lt p hp) (by simp)).sl.elts
        simp (disch := omega) [-getElem?_pos, eR]
        refine u1.app (by rw [hlen1, hlen2]; omega) (by rw [hlen1, hlen2]; omega) fun f2 M2' u4 u5 u6 => ?_
        have s2 : Stp m' M2' [] f2.fp := s1.trans u5
        rw [← List.map_take, ← List.map_drop, ← List.map_append] at u4
        have gF : m'.Grew M2' := ⟨s2.next, fun p hp => s2.obj p hp (by simp)⟩
        have hf2 : ∀ p ∈ f2.fp, m'.next ≤ p := s2.ge (Nat.le_refl _) (by simp)
        simp (disch := omega) [-getElem?_pos]
        exact again_mk (i + 1, L.take j ++ L.drop (j + 1), D', f2, M2') (by dsimp only; exact ⟨by omega, by simp; omega, ⟨hW'.grow gF, u4.ows, fun p hp hq => by have := hf2 p hp; have := hW'.lt p hq; omega, hge, fun p hp => by have := hf2 p hp; have := gM'.next; omega⟩, gM'.trans gF⟩) (by dsimp only; omega) (by simp) rfl
  -- it comes
  have hadd : ∀ {M : Mem} {u : V} {K : KV}, Mir m0.next M s all L D u → (∀ m' D' L' r, AddR all L (id, fr, to, (wh : Int)) L' r → Ag m' D' s all L' → Stp M m' D D' → K (.int .i64 r) m') → ACalls Try.prog 12 [.ptr (some (s, 0, 0)), .agg [.int .i64 id, .int .i64 fr, .int .i64 to, .int .u64 wh]] M K := fun h1 h2 => add_calls (a := (id, fr, to, (wh : Int))) h1.W h2
  have fin : ∀ {M' m' : Mem} {D' : List Nat} {L' : List Mt} {u' : V}, L'.length ≤ i + 1 → M2.Grew M' → Ows M' 4 u' (L'.map mt) → (∀ p ∈ u'.fp, p ∉ D ∧ p < M'.next ∧ m0.next ≤ p) → Ag m' D' s all L' → Stp M' m' D D' → i + 1 ≤ N ∧ L'.length ≤ i + 1 ∧ Mir m0.next m' s all L' D' u' ∧ m0.Grew m' := fun {M' m' D' L' u'} h0 h1 h2 h3 h4 h5 =>
    ⟨by omega, h0, ⟨h4, h2.step h5 (fun p hp hq => (h3 p hq).1 hp), fun p hp hq => h5.apart (E := u'.fp) (fun p hp => (h3 p hp).2.1) (fun p hp hq => (h3 p hq).1 hp) p hq hp, h5.ge (gM.trans h1).next hP2.geD, fun p hp => (h3 p hp).2.2⟩, h5.toGrew (gM.trans h1) hP2.geD⟩
  have hfu : ∀ p ∈ u.fp, p ∉ D ∧ p < M2.next ∧ m0.next ≤ p := fun p hp => ⟨hP2.dj p hp, hP2.U.lt p hp, hP2.geU p hp⟩
  have oB3 : ∀ {M' : Mem}, M2.Grew M' → M'.obj B = some (.row 4 [[.int .i64 id, .int .i64 fr, .int .i64 to, .int .u64 wh]] true) := fun g => by rw [g.obj B bB2]; exact oB2
  have hwk := who_ok hpn2 hwh
  rw [← hall] at hwk
  have hws := who_shr (n := pn) (B := wh)
  have hw64 : pn = 64 → wh < 2 ^ pn := fun e => by rw [e]; exact hwh
  have hokA : okA all (id, fr, to, (wh : Int)) ↔ rt (fr, to) ∧ (wh : Int) ≠ 0 ∧ bAndNot .u64 (wh : Int) all = 0 := Iff.rfl
  clear hall
  simp (disch := omega) [-getElem?_pos, oA2, oB2, hq]
  refine right17 (x := (fr, to)) fun M3 g3 => ?_
  have oB3' := oB3 g3
  have hP3 := hP2.grow g3
  by_cases hok : okA all (id, fr, to, (wh : Int))
  case neg =>
    have tail : ∀ {c : V → St} , True := fun {_} => trivial
    by_cases hr : rt (fr, to)
    case neg =>
      simp (disch := omega) [-getElem?_pos, oB3', hr]
      refine hadd hP3 fun m' D' L' r hR hW' hS => ?_
      cases hR with
      | busy w _ => exact absurd w hok
      | full w _ _ _ => exact absurd w hok
      | ok w _ _ _ _ _ => exact absurd w hok
      | wrong w =>
        simp (disch := omega) [-getElem?_pos]
        exact again_mk (i + 1, L, D', u, m') (by dsimp only; exact fin (by omega) g3 (hP2.U.grow g3) (fun p hp => ⟨(hfu p hp).1, by have := (hfu p hp).2.1; have := g3.next; omega, (hfu p hp).2.2⟩) hW' hS) (by dsimp only; omega) (by simp) rfl
    by_cases hw0 : wh = 0
    · subst hw0
      simp (disch := omega) [-getElem?_pos, oB3', hr]
      refine hadd hP3 fun m' D' L' r hR hW' hS => ?_
      cases hR with
      | busy w _ => exact absurd w hok
      | full w _ _ _ => exact absurd w hok
      | ok w _ _ _ _ _ => exact absurd w hok
      | wrong w =>
        simp (disch := omega) [-getElem?_pos]
        exact again_mk (i + 1, L, D', u, m') (by dsimp only; exact fin (by omega) g3 (hP2.U.grow g3) (fun p hp => ⟨(hfu p hp).1, by have := (hfu p hp).2.1; have := g3.next; omega, (hfu p hp).2.2⟩) hW' hS) (by dsimp only; omega) (by simp) rfl
    have hnw : ¬ wh < 2 ^ pn := fun hlt => hok (hokA.2 ⟨hr, by omega, hwk.2 hlt⟩)
    have hp64 : pn < 64 := by
      rcases Nat.lt_or_ge pn 64 with w | w
      · exact w
      · exact absurd (hw64 (by omega)) hnw
    have hsn : ¬ (wh : Int).fdiv (2 ^ pn) = 0 := fun e => hnw (hws.1 e)
    have emin : min pn 64 = pn := by omega
    simp (disch := omega) [-getElem?_pos, oB3', hr, IntKind.bits, emin, hsn]
    refine hadd hP3 fun m' D' L' r hR hW' hS => ?_
    cases hR with
    | busy w _ => exact absurd w hok
    | full w _ _ _ => exact absurd w hok
    | ok w _ _ _ _ _ => exact absurd w hok
    | wrong w =>
      simp (disch := omega) [-getElem?_pos]
      exact again_mk (i + 1, L, D', u, m') (by dsimp only; exact fin (by omega) g3 (hP2.U.grow g3) (fun p hp => ⟨(hfu p hp).1, by have := (hfu p hp).2.1; have := g3.next; omega, (hfu p hp).2.2⟩) hW' hS) (by dsimp only; omega) (by simp) rfl
  have hok' := hokA.1 hok
  obtain ⟨hr, hw0, hw1⟩ := hok'
  have hlt := hwk.1 hw1
  have hw0' : ¬ wh = 0 := by omega
  have hse : (wh : Int).fdiv (2 ^ pn) = 0 := hws.2 hlt
  have clall : ∀ b ∈ L, clL b (id, fr, to, (wh : Int)) = clC b (id, fr, to, (wh : Int)) := fun b hb => cl_eq (hP2.W.ok b hb).1 hr
  have hbusy : ((∃ b ∈ L, b.1 = id) ∨ ∃ b ∈ L, clC b (id, fr, to, (wh : Int)) = true) → ∀ {K : KV}, (∀ m' D', i + 1 ≤ N ∧ L.length ≤ i + 1 ∧ Mir m0.next m' s all L D' u ∧ m0.Grew m' → K (.int .i64 9) m') → ACalls Try.prog 12 [.ptr (some (s, 0, 0)), .agg [.int .i64 id, .int .i64 fr, .int .i64 to, .int .u64 wh]] M3 K := by
    intro hc K hK
    refine hadd hP3 fun m' D' L' r hR hW' hS => ?_
    cases hR with
    | wrong w => exact absurd hok w
    | full _ w1 w2 _ => exact absurd hc (by rintro (h | h); exact w1 h; exact w2 h)
    | ok _ w1 w2 _ _ _ => exact absurd hc (by rintro (h | h); exact w1 h; exact w2 h)
    | busy _ _ => exact hK m' D' (fin (by omega) g3 (hP2.U.grow g3) (fun p hp => ⟨(hfu p hp).1, by have := (hfu p hp).2.1; have := g3.next; omega, (hfu p hp).2.2⟩) hW' hS)
  rcases b2' with ⟨rfl, e2⟩ | ⟨j, a, rfl, e2, e3⟩
  case inr =>
    have hj := (List.getElem?_eq_some_iff.1 e2).1
    by_cases hp64 : pn < 64
    · have emin : min pn 64 = pn := by omega
      simp (disch := omega) [-getElem?_pos, oB3', hr, hw0', IntKind.bits, emin, hse]
      refine hbusy (.inl ⟨a, mem_of_idx e2, e3⟩) fun m' D' hh => ?_
      simp (disch := omega) [-getElem?_pos]
      exact again_mk (i + 1, L, D', u, m') (by dsimp only; exact hh) (by dsimp only; omega) (by simp) rfl
    · simp (disch := omega) [-getElem?_pos, oB3', hr, hw0']
      refine hbusy (.inl ⟨a, mem_of_idx e2, e3⟩) fun m' D' hh => ?_
      simp (disch := omega) [-getElem?_pos]
      exact again_mk (i + 1, L, D', u, m') (by dsimp only; exact hh) (by dsimp only; omega) (by simp) rfl
  cases hmm : metL L (id, fr, to, (wh : Int)) k with
  | true =>
    have hc : ∃ b ∈ L, clC b (id, fr, to, (wh : Int)) = true := by
      obtain ⟨b, hb, e⟩ := hmet.1 hmm
      exact ⟨b, hb, by rw [← clall b hb]; exact e⟩
    by_cases hp64 : pn < 64
    · have emin : min pn 64 = pn := by omega
      simp (disch := omega) [-getElem?_pos, oB3', hr, hw0', IntKind.bits, emin, hse, hmm]
      refine hbusy (.inr hc) fun m' D' hh => ?_
      simp (disch := omega) [-getElem?_pos]
      exact again_mk (i + 1, L, D', u, m') (by dsimp only; exact hh) (by dsimp only; omega) (by simp [hmm]) rfl
    · simp (disch := omega) [-getElem?_pos, oB3', hr, hw0', hmm]
      refine hbusy (.inr hc) fun m' D' hh => ?_
      simp (disch := omega) [-getElem?_pos]
      exact again_mk (i + 1, L, D', u, m') (by dsimp only; exact hh) (by dsimp only; omega) (by simp [hmm]) rfl
  | false =>
  have hnc : ¬ ∃ b ∈ L, clC b (id, fr, to, (wh : Int)) = true := by
    rintro ⟨b, hb, e⟩
    have := hmet.2 ⟨b, hb, by rw [clall b hb]; exact e⟩
    rw [hmm] at this; cases this
  -- to it the same answer, whichever the width
  have hlast : ∀ {L' : List Mt} {r : Int}, AddR all L (id, fr, to, (wh : Int)) L' r → r = 0 ∧ ∃ kk, Plc L (id, fr, to, (wh : Int)) kk ∧ L' = insA L kk (id, fr, to, (wh : Int)) := fun {L' r} hR => by
    cases hR with
    | wrong w => exact absurd hok w
    | busy _ w => exact absurd w (by rintro (h | h); exact e2 h; exact hnc h)
    | full _ _ _ w => omega
    | ok _ _ _ _ kq hkq => exact ⟨rfl, kq, hkq, rfl⟩
  by_cases hp64 : pn < 64
  case' pos =>
    have emin : min pn 64 = pn := by omega
    simp (disch := omega) [-getElem?_pos, oB3', hr, hw0', IntKind.bits, emin, hse, hmm]
    clear emin
  case' neg =>
    simp (disch := omega) [-getElem?_pos, oB3', hr, hw0', hmm]
  all_goals
    clear hp64 hbusy hws hw64 hwk hokA clall fin
    refine hadd hP3 fun m' D' L' r hR hW' hS => ?_
    obtain ⟨rfl, kq, hkq, rfl⟩ := hlast hR
    have U' : Ows m' 4 u (L.map mt) := hP3.U.step hS (fun p hp hq => hP2.dj p hq hp)
    have gM' : m0.Grew m' := hS.toGrew (gM.trans g3) hP2.geD
    have oB4 : m'.obj B = some (.row 4 [[.int .i64 id, .int .i64 fr, .int .i64 to, .int .u64 wh]] true) := by rw [hS.obj B (by have := g3.next; omega) hAD.2.1]; exact oB3'
    have bB4 : B < m'.next := by have := g3.next; have := hS.next; omega
    have hge := hS.ge (gM.trans g3).next hP2.geD
    have hlen' := insA_len L hkq.le (id, fr, to, (wh : Int))
    have last : ∀ {M6 : Mem} {f3 : V}, Stp m' M6 [] f3.fp → Exa M6 4 f3 ((insA L kq (id, fr, to, (wh : Int))).map mt) → i + 1 ≤ N ∧ (insA L kq (id, fr, to, (wh : Int))).length ≤ i + 1 ∧ Mir m0.next M6 s all (insA L kq (id, fr, to, (wh : Int))) D' f3 ∧ m0.Grew M6 := by
      intro M6 f3 s3 u3
      have gF : m'.Grew M6 := ⟨s3.next, fun p hp => s3.obj p hp (by simp)⟩
      have hf3 : ∀ p ∈ f3.fp, m'.next ≤ p := s3.ge (Nat.le_refl _) (by simp)
      exact ⟨by omega, by omega, ⟨hW'.grow gF, u3.ows, fun p hp hq => by have := hf3 p hp; have := hW'.lt p hq; omega, hge, fun p hp => by have := hf3 p hp; have := gM'.next; omega⟩, gM'.trans gF⟩
    simp (disch := omega) [-getElem?_pos]
    refine exec_loopU (σ := Nat) (fun j => [(17, .int .i64 j)]) (fun _ => m') (fun j => j ≤ k ∧ ∀ a ∈ L.take j, ltM a (id, fr, to, (wh : Int))) (fun j => k - j) 0 rfl ⟨by omega, by simp⟩ (by simp) ?_
    intro j ⟨c1, c2⟩
    by_cases hgo : j < k ∧ ∀ a, L[j]? = some a → ltM a (id, fr, to, (wh : Int))
    · obtain ⟨a, ha⟩ : ∃ a, L[j]? = some a := ⟨_, List.getElem?_eq_getElem (by omega)⟩
      obtain ⟨p, q, full, rw, z1, z2, z3, z4, _⟩ := U'.sl.at (mt_get ha) .i64
      simp only [mt] at z4
      have hlt := hgo.2 a ha
      have hjk := hgo.1
      have hnx : ∀ b ∈ L.take (j + 1), ltM b (id, fr, to, (wh : Int)) := fun b hb => by rw [takeS ha] at hb; rcases List.mem_append.1 hb with hb | hb; exact c2 b hb; simp at hb; subst hb; exact hlt
      unfold ltM at hlt
      dsimp only at hlt
      by_cases w1 : a.2.1 < fr
      · simp (disch := omega) [-getElem?_pos, z1, z3, z4, oB4, hU1, w1]
        exact again_mk (j + 1) ⟨by omega, hnx⟩ (by omega) (by simp) rfl
      · have w2 : a.2.1 = fr := by omega
        have w3 : a.1 < id := by omega
        simp (disch := omega) [-getElem?_pos, z1, z3, z4, oB4, hU1, w2, w3]
        exact again_mk (j + 1) ⟨by omega, hnx⟩ (by omega) (by simp) rfl
    have hhi : ∀ a ∈ L.drop j, ¬ ltM a (id, fr, to, (wh : Int)) := by
      intro a ha
      obtain ⟨x, hx⟩ := List.mem_iff_getElem?.1 ha
      rw [List.getElem?_drop] at hx
      have hxl := List.getElem?_eq_some_iff.1 hx
      have hxl1 := hxl.1
      obtain ⟨b, hb⟩ : ∃ b, L[j]? = some b := ⟨_, List.getElem?_eq_getElem (by omega)⟩
      have hbl := List.getElem?_eq_some_iff.1 hb
      have h1 : ¬ ltM b (id, fr, to, (wh : Int)) := fun e => hgo ⟨by omega, fun c hc => by rw [hb] at hc; injection hc with hc; subst hc; exact e⟩
      by_cases e0 : x = 0
      · subst e0; rw [Nat.add_zero, hb] at hx; injection hx with hx; subst hx; exact h1
      · have := List.pairwise_iff_getElem.1 hP2.W.up j (j + x) hbl.1 hxl.1 (by omega)
        rw [hbl.2, hxl.2] at this
        exact fun e => h1 (ltM_trans this e)
    obtain rfl := hkq.uni (j := j) (by omega) c2 hhi
    obtain ⟨vL, hL1, hL2, hL3⟩ := U'.cutR .i64 kq (by rw [List.length_map]; omega)
    obtain ⟨vR, hR1, hR2, hR3⟩ := U'.cutL .i64 kq (by rw [List.length_map]; omega)
    have hlen1 : ((L.map mt).take kq).length = kq := by simp; omega
    have hlen2 : ((L.map mt).drop kq).length = k - kq := by simp; omega
    have hres : (insA L kq (id, fr, to, (wh : Int))).map mt = (L.map mt).take kq ++ [[.int .i64 id, .int .i64 fr, .int .i64 to, .int .u64 wh]] ++ (L.map mt).drop kq := by unfold insA; simp [mt]
    have keepL : ∀ m'', (∀ p, p < m'.next → m''.obj p = m'.obj p) → m'.next ≤ m''.next → eltsOf 4 m'' vL = some ((L.map mt).take kq) := fun m'' ho hn => (hL2.keep hn fun p hp => ho p (hL2.lt p hp)).sl.elts
    have keepR : ∀ m'', (∀ p, p < m'.next → m''.obj p = m'.obj p) → m'.next ≤ m''.next → eltsOf 4 m'' vR = some ((L.map mt).drop kq) := fun m'' ho hn => (hR2.keep hn fun p hp => ho p (hR2.lt p hp)).sl.elts
    by_cases hjk : kq < k
    focus
      obtain ⟨b, hb⟩ : ∃ b, L[kq]? = some b := ⟨_, List.getElem?_eq_getElem (by omega)⟩
      obtain ⟨p, q, full, rw, z1, z2, z3, z4, _⟩ := U'.sl.at (mt_get hb) .i64
      simp only [mt] at z4
      have hnl : ¬ ltM b (id, fr, to, (wh : Int)) := fun h => hgo ⟨hjk, fun c hc => by rw [hb] at hc; injection hc with hc; subst hc; exact h⟩
      unfold ltM at hnl
      dsimp only at hnl
      by_cases w2 : b.2.1 = fr
      focus
        have w3 : ¬ b.1 < id := by omega
        simp (disch := omega) [-getElem?_pos, z1, z3, z4, oB4, hU1, hL1, hR1, w2, w3]
        clear w3
      rotate_left
      focus
        have w1 : ¬ b.2.1 < fr := by omega
        simp (disch := omega) [-getElem?_pos, z1, z3, z4, oB4, hU1, hL1, hR1, w2, w1]
        clear w1
      all_goals
        clear z1 z2 z3 z4 hnl hb w2
    rotate_left 2
    focus
      simp (disch := omega) [-getElem?_pos, hU1, hL1, hR1, oB4]
    all_goals
      clear hL1 hR1 hL2 hR2 hL3 hR3 hgo hhi
      refine ⟨⟨?_, ?_, ?_⟩, ⟨?_, ?_⟩, ?_⟩
      · have hg := Mem.Grew.new m' (.row 4 [] true)
        rw [keepL _ hg.obj hg.next]
        simp (disch := omega)
        refine (Exa.lit (m := m') (sz := 4) (es := []) (n := 0) rfl).app (by rw [hlen1]; simp; omega) (by rw [hlen1]; simp; omega) fun f1 M4 u1 u2 u3 => ?_
        rw [List.nil_append] at u1
        have s1 : Stp m' M4 [] f1.fp := (⟨hg.next, fun p hp _ => hg.obj p hp, fun p hp => by simp [V.fp] at hp; exact .inr (by omega)⟩ : Stp m' _ [] (V.sl (some (m'.next, 0, 4)) 0 (some 0)).fp).trans u2
        have k0 : M4.obj B = some (.row 4 [[.int .i64 id, .int .i64 fr, .int .i64 to, .int .u64 wh]] true) := by rw [s1.obj B bB4 (by simp)]; exact oB4
        simp (disch := omega) [eltsOf, Mem.elts, k0]
        refine (u1.grow (Mem.Grew.new M4 (.row 4 [[.int .i64 id, .int .i64 fr, .int .i64 to, .int .u64 wh]] true))).app (by rw [hlen1]; simp; omega) (by rw [hlen1]; simp; omega) fun f2 M5 u4 u5 u6 => ?_
        have s2 : Stp m' M5 [] f2.fp := s1.trans ((Stp.new M4 _ f1.fp).trans u5)
        simp (disch := omega)
        rw [keepR _ (fun p hp => s2.obj p hp (by simp)) s2.next]
        simp (disch := omega)
        refine u4.app (by rw [List.length_append, hlen1, hlen2]; simp; omega) (by rw [List.length_append, hlen1, hlen2]; simp; omega) fun f3 M6 u7 u8 u9 => ?_
        rw [← hres] at u7
        have s3 := s2.trans u8
        simp (disch := omega) [-getElem?_pos]
        exact again_mk (i + 1, insA L kq (id, fr, to, (wh : Int)), D', f3, M6) (by dsimp only; exact last s3 u7) (by dsimp only; omega) (by simp [hmm]) rfl
      · have hg := Mem.Grew.new m' (.row 4 [] true)
        rw [keepL _ hg.obj hg.next]
        simp (disch := omega)
        refine (Exa.lit (m := m') (sz := 4) (es := []) (n := 0) rfl).app (by rw [hlen1]; simp; omega) (by rw [hlen1]; simp; omega) fun f1 M4 u1 u2 u3 => ?_
        rw [List.nil_append] at u1
        have s1 : Stp m' M4 [] f1.fp := (⟨hg.next, fun p hp _ => hg.obj p hp, fun p hp => by simp [V.fp] at hp; exact .inr (by omega)⟩ : Stp m' _ [] (V.sl (some (m'.next, 0, 4)) 0 (some 0)).fp).trans u2
        have k0 : M4.obj B = some (.row 4 [[.int .i64 id, .int .i64 fr, .int .i64 to, .int .u64 wh]] true) := by rw [s1.obj B bB4 (by simp)]; exact oB4
        simp (disch := omega) [eltsOf, Mem.elts, k0]
        refine (u1.grow (Mem.Grew.new M4 (.row 4 [[.int .i64 id, .int .i64 fr, .int .i64 to, .int .u64 wh]] true))).app (by rw [hlen1]; simp; omega) (by rw [hlen1]; simp; omega) fun f2 M5 u4 u5 u6 => ?_
        have s2 : Stp m' M5 [] f2.fp := s1.trans ((Stp.new M4 _ f1.fp).trans u5)
        simp (disch := omega)
        rw [keepR _ (fun p hp => s2.obj p hp (by simp)) s2.next]
        simp (disch := omega)
        refine u4.app (by rw [List.length_append, hlen1, hlen2]; simp; omega) (by rw [List.length_append, hlen1, hlen2]; simp; omega) fun f3 M6 u7 u8 u9 => ?_
        rw [← hres] at u7
        have s3 := s2.trans u8
        simp (disch := omega) [-getElem?_pos]
        exact again_mk (i + 1, insA L kq (id, fr, to, (wh : Int)), D', f3, M6) (by dsimp only; exact last s3 u7) (by dsimp only; omega) (by simp [hmm]) rfl
      · have hg := (Mem.Grew.new m' (.row 4 [] true)).trans (Mem.Grew.new _ (.row 4 [[.int .i64 id, .int .i64 fr, .int .i64 to, .int .u64 wh]] true))
        rw [keepL _ hg.obj hg.next]
        simp (disch := omega)
        refine (Exa.of (m := (m'.new (.row 4 [] true)).new (.row 4 [[.int .i64 id, .int .i64 fr, .int .i64 to, .int .u64 wh]] true)) (sz := 4) (q := m'.next) (es := []) (n := 0) rfl (by simp <;> omega) (by simp (disch := omega))).app (by rw [hlen1]; simp; omega) (by rw [hlen1]; simp; omega) fun f1 M4 u1 u2 u3 => ?_
        rw [List.nil_append] at u1
        have s1 : Stp m' M4 [] f1.fp := (⟨hg.next, fun p hp _ => hg.obj p hp, fun p hp => by simp [V.fp] at hp; exact .inr (by omega)⟩ : Stp m' _ [] (V.sl (some (m'.next, 0, 4)) 0 (some 0)).fp).trans u2
        have k1 := u2.obj (m'.next + 1) (by simp <;> omega) (by simp [V.fp] <;> omega)
        simp (disch := omega) at k1
        simp (disch := omega) [eltsOf, Mem.elts, k1]
        refine u1.app (by rw [hlen1]; simp; omega) (by rw [hlen1]; simp; omega) fun f2 M5 u4 u5 u6 => ?_
        have s2 : Stp m' M5 [] f2.fp := s1.trans u5
        simp (disch := omega)
        rw [keepR _ (fun p hp => s2.obj p hp (by simp)) s2.next]
        simp (disch := omega)
        refine u4.app (by rw [List.length_append, hlen1, hlen2]; simp; omega) (by rw [List.length_append, hlen1, hlen2]; simp; omega) fun f3 M6 u7 u8 u9 => ?_
        rw [← hres] at u7
        have s3 := s2.trans u8
        simp (disch := omega) [-getElem?_pos]
        exact again_mk (i + 1, insA L kq (id, fr, to, (wh : Int)), D', f3, M6) (by dsimp only; exact last s3 u7) (by dsimp only; omega) (by simp [hmm]) rfl
      · have hg := Mem.Grew.new m' (.row 4 [] true)
        rw [keepL _ hg.obj hg.next]
        simp (disch := omega)
        refine (Exa.lit (m := m') (sz := 4) (es := []) (n := 0) rfl).app (by rw [hlen1]; simp; omega) (by rw [hlen1]; simp; omega) fun f1 M4 u1 u2 u3 => ?_
        rw [List.nil_append] at u1
        have s1 : Stp m' M4 [] f1.fp := (⟨hg.next, fun p hp _ => hg.obj p hp, fun p hp => by simp [V.fp] at hp; exact .inr (by omega)⟩ : Stp m' _ [] (V.sl (some (m'.next, 0, 4)) 0 (some 0)).fp).trans u2
        have k0 : M4.obj B = some (.row 4 [[.int .i64 id, .int .i64 fr, .int .i64 to, .int .u64 wh]] true) := by rw [s1.obj B bB4 (by simp)]; exact oB4
        simp (disch := omega) [eltsOf, Mem.elts, k0]
        refine (u1.grow (Mem.Grew.new M4 (.row 4 [[.int .i64 id, .int .i64 fr, .int .i64 to, .int .u64 wh]] true))).app (by rw [hlen1]; simp; omega) (by rw [hlen1]; simp; omega) fun f2 M5 u4 u5 u6 => ?_
        have s2 : Stp m' M5 [] f2.fp := s1.trans ((Stp.new M4 _ f1.fp).trans u5)
        simp (disch := omega)
        rw [keepR _ (fun p hp => s2.obj p hp (by simp)) s2.next]
        simp (disch := omega)
        refine u4.app (by rw [List.length_append, hlen1, hlen2]; simp; omega) (by rw [List.length_append, hlen1, hlen2]; simp; omega) fun f3 M6 u7 u8 u9 => ?_
        rw [← hres] at u7
        have s3 := s2.trans u8
        simp (disch := omega) [-getElem?_pos]
        exact again_mk (i + 1, insA L kq (id, fr, to, (wh : Int)), D', f3, M6) (by dsimp only; exact last s3 u7) (by dsimp only; omega) (by simp [hmm]) rfl
      · have hg := (Mem.Grew.new m' (.row 4 [] true)).trans (Mem.Grew.new _ (.row 4 [[.int .i64 id, .int .i64 fr, .int .i64 to, .int .u64 wh]] true))
        rw [keepL _ hg.obj hg.next]
        simp (disch := omega)
        refine (Exa.of (m := (m'.new (.row 4 [] true)).new (.row 4 [[.int .i64 id, .int .i64 fr, .int .i64 to, .int .u64 wh]] true)) (sz := 4) (q := m'.next) (es := []) (n := 0) rfl (by simp <;> omega) (by simp (disch := omega))).app (by rw [hlen1]; simp; omega) (by rw [hlen1]; simp; omega) fun f1 M4 u1 u2 u3 => ?_
        rw [List.nil_append] at u1
        have s1 : Stp m' M4 [] f1.fp := (⟨hg.next, fun p hp _ => hg.obj p hp, fun p hp => by simp [V.fp] at hp; exact .inr (by omega)⟩ : Stp m' _ [] (V.sl (some (m'.next, 0, 4)) 0 (some 0)).fp).trans u2
        have k1 := u2.obj (m'.next + 1) (by simp <;> omega) (by simp [V.fp] <;> omega)
        simp (disch := omega) at k1
        simp (disch := omega) [eltsOf, Mem.elts, k1]
        refine u1.app (by rw [hlen1]; simp; omega) (by rw [hlen1]; simp; omega) fun f2 M5 u4 u5 u6 => ?_
        have s2 : Stp m' M5 [] f2.fp := s1.trans u5
        simp (disch := omega)
        rw [keepR _ (fun p hp => s2.obj p hp (by simp)) s2.next]
        simp (disch := omega)
        refine u4.app (by rw [List.length_append, hlen1, hlen2]; simp; omega) (by rw [List.length_append, hlen1, hlen2]; simp; omega) fun f3 M6 u7 u8 u9 => ?_
        rw [← hres] at u7
        have s3 := s2.trans u8
        simp (disch := omega) [-getElem?_pos]
        exact again_mk (i + 1, insA L kq (id, fr, to, (wh : Int)), D', f3, M6) (by dsimp only; exact last s3 u7) (by dsimp only; omega) (by simp [hmm]) rfl
      · have hg := (Mem.Grew.new m' (.row 4 [[.int .i64 id, .int .i64 fr, .int .i64 to, .int .u64 wh]] true)).trans (Mem.Grew.new _ (.row 4 [] true))
        rw [keepL _ hg.obj hg.next]
        simp (disch := omega)
        refine (Exa.of (m := (m'.new (.row 4 [[.int .i64 id, .int .i64 fr, .int .i64 to, .int .u64 wh]] true)).new (.row 4 [] true)) (sz := 4) (q := m'.next + 1) (es := []) (n := 0) rfl (by simp <;> omega) (by simp (disch := omega))).app (by rw [hlen1]; simp; omega) (by rw [hlen1]; simp; omega) fun f1 M4 u1 u2 u3 => ?_
        rw [List.nil_append] at u1
        have s1 : Stp m' M4 [] f1.fp := (⟨hg.next, fun p hp _ => hg.obj p hp, fun p hp => by simp [V.fp] at hp; exact .inr (by omega)⟩ : Stp m' _ [] (V.sl (some (m'.next + 1, 0, 4)) 0 (some 0)).fp).trans u2
        have k1 := u2.obj (m'.next) (by simp <;> omega) (by simp [V.fp] <;> omega)
        simp (disch := omega) at k1
        simp (disch := omega) [eltsOf, Mem.elts, k1]
        refine u1.app (by rw [hlen1]; simp; omega) (by rw [hlen1]; simp; omega) fun f2 M5 u4 u5 u6 => ?_
        have s2 : Stp m' M5 [] f2.fp := s1.trans u5
        simp (disch := omega)
        rw [keepR _ (fun p hp => s2.obj p hp (by simp)) s2.next]
        simp (disch := omega)
        refine u4.app (by rw [List.length_append, hlen1, hlen2]; simp; omega) (by rw [List.length_append, hlen1, hlen2]; simp; omega) fun f3 M6 u7 u8 u9 => ?_
        rw [← hres] at u7
        have s3 := s2.trans u8
        simp (disch := omega) [-getElem?_pos]
        exact again_mk (i + 1, insA L kq (id, fr, to, (wh : Int)), D', f3, M6) (by dsimp only; exact last s3 u7) (by dsimp only; omega) (by simp [hmm]) rfl
end Go.Proofs.Ytbacmgdlhbfddaa
