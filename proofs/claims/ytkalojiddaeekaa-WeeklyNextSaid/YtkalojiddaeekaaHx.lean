/-
  DROP, SWITCH, ALL, and which alarms ring, of what the functions of this seat do.
-/
import Derived.Test.YtkalojiddaeekaaGx
namespace Go.Proofs.Ytkalojiddaeekaa
open Go Go.AM
set_option linter.unusedVariables false
set_option linter.unusedSimpArgs false
set_option maxRecDepth 60000
set_option maxHeartbeats 4000000

theorem Wk.uni {m : Mem} {D : List Nat} {s : Nat} {L : List Al} (h : Wk m D s L) : (L.map (·.1)).Nodup := by
  rw [List.nodup_iff_pairwise_ne, List.pairwise_map]
  exact h.up.imp fun {a b} hab => by omega

/-- What a going alarm comes to. -/
inductive DropR (L : List Al) (q : Int) : List Al → Bool → Prop
  | no (h : ¬ ∃ a ∈ L, a.1 = q) : DropR L q L false
  | one (k : Nat) (a : Al) (h1 : L[k]? = some a) (h2 : a.1 = q) : DropR L q (L.take k ++ L.drop (k + 1)) true

theorem drop_calls {m : Mem} {D : List Nat} {s : Nat} {L : List Al} (hW : Wk m D s L) {q : Int} {K : KV} (h : ∀ m' D' L' b, DropR L q L' b → Wk m' D' s L' → Stp m m' D D' → K (.bool b) m') : ACalls Try.prog 17 [.ptr (some (s, 0, 0)), .int .i64 q] m K := by
  have hlen := hW.len
  refine run_on (ctx_nil _) hm c17 (by simp) fun hf => ?_
  simp (disch := omega) [-getElem?_pos, b17]
  refine place_calls hW fun k b m2 hp g2 => ?_
  have hW2 := hW.grow g2
  cases b with
  | false =>
    simp (disch := omega) [-getElem?_pos]
    exact h _ _ _ _ (.no fun hx => by have := (hp.none hW.up).2 hx; cases this) hW2 (Stp.grow g2 D)
  | true =>
    obtain ⟨a, hk, ha⟩ := hp.there.1 rfl
    have hkl := (List.getElem?_eq_some_iff.1 hk).1
    obtain ⟨v, rfl, q1, q2, q3, q4⟩ := hW2.ex
    simp (disch := omega) [-getElem?_pos, q2]
    refine delete_calls (ctx_nil _) hm c24 (by omega) q3 (by rw [List.length_map]; exact hkl) rfl rfl (by rw [List.length_map]; omega) fun v' m' w1 w2 w3 w4 => ?_
    have w5 := w2.obj s q1 q4
    rw [q2] at w5
    have v1 := w1.sl.okc
    have v2 := w1.sl.cs
    simp (disch := omega) [-getElem?_pos, w5, v1, v2]
    rw [← List.map_take, ← List.map_drop, ← List.map_append] at w1
    have hsv : s ∉ v'.fp := by rw [w4]; exact q4
    have hsub : (L.take k ++ L.drop (k + 1)).Sublist L := by
      conv => rhs; rw [← List.take_append_drop k L]
      exact (List.Sublist.refl _).append (List.drop_sublist_drop_left L (by omega))
    refine h _ (s :: v'.fp) _ _ (.one k a hk ha) ⟨hW.up.sublist hsub, fun b hb => hW.rt b (hsub.subset hb), by have := hsub.length_le; omega, v', rfl, by rw [upd_next]; omega, by simp, w1.keep (by simp) fun p hp => ?_, hsv⟩ ?_
    · rw [updO _ (fun e => hsv (by rw [← e]; exact hp))]
    · refine (Stp.grow g2 (s :: v.fp)).trans ((w2.mono (E := s :: v.fp) (E' := s :: v'.fp) (fun p hp => by simp [hp]) (fun p hp => ?_)).trans (Stp.upd _ (by simp) _))
      rcases List.mem_cons.1 hp with rfl | hp
      · exact .inl (by simp)
      · exact .inr (.inl hp)

/-- What a switching comes to. -/
inductive SwR (L : List Al) (q : Int) (y : Bool) : List Al → Bool → Prop
  | no (h : ¬ ∃ a ∈ L, a.1 = q) : SwR L q y L false
  | one (k : Nat) (a : Al) (h1 : L[k]? = some a) (h2 : a.1 = q) : SwR L q y (L.set k (a.1, a.2.1, a.2.2.1, y)) true

theorem set_up {L : List Al} (hu : L.Pairwise fun a b => a.1 < b.1) {k : Nat} {a b : Al} (h1 : L[k]? = some a) (h2 : b.1 = a.1) : (L.set k b).Pairwise fun a b => a.1 < b.1 := by
  have e : (L.set k b).map (·.1) = L.map (·.1) := by
    apply List.ext_getElem?
    intro j
    rw [List.getElem?_map, List.getElem?_map, List.getElem?_set]
    have := (List.getElem?_eq_some_iff.1 h1).1
    by_cases e : k = j
    · subst e; rw [h1]; simp [h2, this]
    · simp [e]
  have h3 : (L.map (·.1)).Pairwise (fun a b => a < b) := by rw [List.pairwise_map]; exact hu
  rw [← e, List.pairwise_map] at h3
  exact h3

theorem switch_calls {m : Mem} {D : List Nat} {s : Nat} {L : List Al} (hW : Wk m D s L) {q : Int} {y : Bool} {K : KV} (h : ∀ m' L' b, SwR L q y L' b → Wk m' D s L' → Stp m m' D D → K (.bool b) m') : ACalls Try.prog 16 [.ptr (some (s, 0, 0)), .int .i64 q, .bool y] m K := by
  have hlen := hW.len
  refine run_on (ctx_nil _) hm c16 (by simp) fun hf => ?_
  simp (disch := omega) [-getElem?_pos, b16]
  refine place_calls hW fun k b m2 hp g2 => ?_
  have hW2 := hW.grow g2
  cases b with
  | false =>
    simp (disch := omega) [-getElem?_pos]
    exact h _ _ _ (.no fun hx => by have := (hp.none hW.up).2 hx; cases this) hW2 (Stp.grow g2 D)
  | true =>
    obtain ⟨a, hk, ha⟩ := hp.there.1 rfl
    obtain ⟨v, rfl, q1, q2, q3, q4⟩ := hW2.ex
    obtain ⟨p, x, full, z1, z2, z3, z4, z5, z6⟩ := q3.at (al_get hk) .i64
    simp only [al] at z4
    simp (disch := omega) [-getElem?_pos, q2, z1, z3, z4, splice]
    have hps : s ≠ p := fun e => q4 (by rw [z5, e]; simp)
    have w1 := z6 [.int .i64 a.1, .int .i64 a.2.1, .int .i64 a.2.2.1, .bool y] (m2.upd p (some (.row 4 (full.set x [.int .i64 a.1, .int .i64 a.2.1, .int .i64 a.2.2.1, .bool y]) true))) (by simp) (by rw [upd_next]; exact z2)
    refine h _ _ _ (.one k a hk ha) ⟨set_up hW.up hk rfl, fun b hb => ?_, by rw [List.length_set]; omega, v, rfl, by rw [upd_next]; exact q1, by rw [updO _ hps]; exact q2, ?_, q4⟩ ((Stp.grow g2 _).trans (Stp.upd _ (by rw [z5]; simp) _))
    · rcases List.mem_or_eq_of_mem_set hb with hb | rfl
      · exact hW.rt b hb
      · exact hW.rt a (mem_of_idx hk)
    · rw [List.map_set]; exact w1

theorem all_nil {m : Mem} {K : KV} (h : K (.sl none 0 (some 0)) m) : ACalls Try.prog 8 [.ptr none] m K := by
  refine run_on (ctx_nil _) hm c8 (by simp) fun hf => ?_
  simp (disch := omega) [b8]
  exact h
theorem all_calls {m : Mem} {D : List Nat} {s : Nat} {L : List Al} (hW : Wk m D s L) {K : KV} (h : ∀ v m', Ows m' 4 v (L.map al) → m.Grew m' → (∀ p ∈ v.fp, m.next ≤ p) → K v m') : ACalls Try.prog 8 [.ptr (some (s, 0, 0))] m K := by
  obtain ⟨v, rfl, h1, h2, h3, h4⟩ := hW.ex
  have hlen := hW.len
  refine run_on (ctx_nil _) hm c8 (by simp) fun hf => ?_
  simp (disch := omega) [-getElem?_pos, b8, h2]
  refine clone_calls (ctx_nil _) hm c18 (by omega) h3.sl (by rw [List.length_map]; omega) (by rw [List.length_map]; omega) fun v' m' w1 w2 w3 => ?_
  simp (disch := omega)
  exact h v' m' w1 w2 w3

/-! ### which ring -/

theorem i64_toNat {a : Int} (h : 0 ≤ a) (h2 : a < 9223372036854775808) : (BitVec.ofInt 64 a).toNat = a.toNat := by
  rw [BitVec.toNat_ofInt]; congr 1; omega
theorem and1 {n : Int} (h : 0 ≤ n) (h2 : n < 9223372036854775808) : bAnd .i64 n 1 = n % 2 := by
  show IntKind.i64.wrap (((BitVec.ofInt 64 n) &&& (BitVec.ofInt 64 1)).toNat : Nat) = _
  rw [BitVec.toNat_and, i64_toNat h h2, i64_toNat (by omega) (by omega), show (1 : Int).toNat = 2 ^ 1 - 1 from rfl, Nat.and_two_pow_sub_one_eq_mod, w64 (by omega) (by omega)]
  omega

/-- Does it ring at a minute of the week? -/
def ring1 (w : Int) (a : Al) : Bool := !a.2.2.2 && (decide (w % 1440 = a.2.1) && decide (a.2.2.1 / (2 : Int) ^ (w / 1440).toNat % 2 = 1))
/-- The IDs of those that ring at a minute. -/
def ringsL (L : List Al) (q : Int) : List Int := (L.filter (ring1 (q % 10080))).map (·.1)

theorem within_eq (q : Int) : -10079 ≤ q.tmod 10080 ∧ q.tmod 10080 ≤ 10079 ∧ (q.tmod 10080 + 10080) % 10080 = q % 10080 := by
  by_cases h : 0 ≤ q
  · rw [Int.tmod_eq_emod_of_nonneg h]; omega
  · have e : q.tmod 10080 = -((-q) % 10080) := by
      rw [← Int.tmod_eq_emod_of_nonneg (show 0 ≤ -q by omega), Int.neg_tmod, Int.neg_neg]
    rw [e]; omega

def F20 : AFn
  | [.int .i64 q], m => some (.int .i64 (q % 10080), m)
  | _, _ => none
theorem s20 : ASpec Try.prog 20 F20 := by
  intro args m r m' h
  unfold F20 at h; split at h <;> cases h
  rename_i q
  refine run_on (ctx_nil _) hm c20 (by simp) fun hf => ?_
  obtain ⟨h1, h2, h3⟩ := within_eq q
  have h4 : (q.tmod 10080 + 10080).tmod 10080 = q % 10080 := by rw [Int.tmod_eq_emod_of_nonneg (by omega)]; exact h3
  simp (disch := omega) [-getElem?_pos, b20, h4]

/-- One alarm, at one minute of the week. -/
def F19 : AFn
  | [.agg [.int .i64 i, .int .i64 mi, .int .i64 d, .bool y], .int .i64 x], m => if 0 < d ∧ d < 128 ∧ 0 ≤ x ∧ x < 10080 then some (.bool (ring1 x (i, mi, d, y)), m.new (.row 4 [al (i, mi, d, y)] true)) else none
  | _, _ => none
theorem s19 : ASpec Try.prog 19 F19 := by
  intro args m r m' h
  unfold F19 at h; split at h
  case h_2 => cases h
  rename_i i mi d y x
  split at h
  case isFalse => cases h
  rename_i hc
  cases h
  refine run_on (ctx_nil _) hm c19 (by simp) fun hf => ?_
  have e1 : x.tmod 1440 = x % 1440 := Int.tmod_eq_emod_of_nonneg hc.2.2.1
  have e2 : x.tdiv 1440 = x / 1440 := Int.tdiv_eq_ediv_of_nonneg hc.2.2.1
  have h7 : x / 1440 < 7 := by omega
  have h0 : 0 ≤ x / 1440 := by omega
  obtain ⟨n, hn⟩ : ∃ n : Nat, x / 1440 = n := ⟨(x / 1440).toNat, by omega⟩
  rw [hn] at h7 h0
  have hmin : min n 64 = n := by omega
  have hpow : (1 : Int) ≤ 2 ^ n := by
    have := Int.pow_pos (n := 2) (m := n) (by omega)
    omega
  have hfd : d.fdiv (2 ^ n) = d / 2 ^ n := Int.fdiv_eq_ediv_of_nonneg _ (by omega)
  have hd1 : 0 ≤ d / 2 ^ n := Int.ediv_nonneg (by omega) (by omega)
  have hd2 : d / 2 ^ n ≤ d := Int.ediv_le_self _ (by omega)
  have ha := and1 (n := d / 2 ^ n) hd1 (by omega)
  unfold ring1
  simp only [al]
  cases y with
  | true =>
    simp (disch := omega) [-getElem?_pos, b19]
  | false =>
    by_cases hmi : x % 1440 = mi
    · simp (disch := omega) [-getElem?_pos, b19, e1, e2, hn, hmi, IntKind.bits, hmin, hfd, ha]
    · simp (disch := omega) [-getElem?_pos, b19, e1, e2, hn, hmi]
abbrev L4 : List (FuncId × AFn) := [(19, F19), (20, F20)]
theorem x4 : CtxOk Try.prog (Ctx.of L4) := ctx_cons (ctx_cons (ctx_nil _) s20) s19
end Go.Proofs.Ytkalojiddaeekaa
