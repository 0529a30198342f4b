/-
  ROWS READ FROM BYTES: what Read does.
-/
import Derived.Test.YtdjofnipknioiaaGx
namespace Go.Proofs.Ytdjofnipknioiaa
open Go Go.AM
set_option linter.unusedVariables false
set_option linter.unusedSimpArgs false
set_option maxRecDepth 8000
set_option maxHeartbeats 4000000

/-- A reader that has these bytes yet. -/
structure Rdr (m : Mem) (r : Nat) (bs : List Int) (bad : Bool) : Prop where
  rng : ∀ x ∈ bs, 0 ≤ x ∧ x ≤ 255
  len : bs.length ≤ 1000000
  ex : ∃ v, r < m.next ∧ m.obj r = some (.row 2 [[v, .bool bad]] true) ∧ Sl m 1 v (rowI .u8 bs) ∧ (bs ≠ [] → ∀ p, v.addr = some p → p < r)

theorem Rdr.lt {m : Mem} {r : Nat} {bs : List Int} {bad : Bool} (h : Rdr m r bs bad) : r < m.next := by obtain ⟨v, h1, _⟩ := h.ex; exact h1
theorem Rdr.grow {m m' : Mem} {r : Nat} {bs : List Int} {bad : Bool} (h : Rdr m r bs bad) (hg : m.Grew m') : Rdr m' r bs bad := by
  obtain ⟨v, h1, h2, h3, h4⟩ := h.ex
  have := hg.next
  exact ⟨h.rng, h.len, v, by omega, by rw [hg.obj r h1]; exact h2, h3.grow hg, h4⟩
/-- Nothing but what is not read is turned. -/
theorem Rdr.set {m : Mem} {r : Nat} {v : V} {bs : List Int} (hr : r < m.next) (h1 : ∀ x ∈ bs, 0 ≤ x ∧ x ≤ 255) (h2 : bs.length ≤ 1000000) (h3 : Sl m 1 v (rowI .u8 bs)) (h4 : bs ≠ [] → ∀ p, v.addr = some p → p < r) (b : Bool) :
    Rdr (m.upd r (some (.row 2 [[v, .bool b]] true))) r bs b :=
  by
  refine ⟨h1, h2, v, by simpa using hr, by simp, ?_, h4⟩
  by_cases hb : bs = []
  · obtain ⟨a, c, q1, q2⟩ := h3.ex
    exact ⟨a, c, q1, fun hne => absurd (by rw [hb]; rfl) hne⟩
  · exact h3.keep (by simp) (fun p hp e => by rw [upd_obj, if_neg (fun e2 => by have := h4 hb p e; omega)])

/-- What a reader has behind a number. -/
def numR (bs : List Int) : Nat × List Int × Bool := match takeN bs with
  | none => (0, bs, true)
  | some (n, s) => (n, bs.drop s, false)

theorem number_calls {m : Mem} {r : Nat} {bs : List Int} {bad : Bool} (h : Rdr m r bs bad) {K : KV} (k : ∀ m', Rdr m' r (numR bs).2.1 (bad || (numR bs).2.2) → Stp m m' [r] [r] → K (.int .u64 (numR bs).1) m') : ACalls Try.prog 19 [.ptr (some (r, 0, 0))] m K := by
  obtain ⟨v, h1, h2, h3, h4⟩ := h.ex
  refine run_on (ctx_nil _) hm c19 (by simp) fun hf => ?_
  have e1 := h3.cs
  have e2 := h3.okc
  simp (disch := omega) [b19, h2]
  refine take_calls h3 h.rng h.len ?_
  cases ht : takeN bs with
  | none =>
    have e : numR bs = (0, bs, true) := by unfold numR; rw [ht]
    rw [e] at k
    simp only [Bool.or_true] at k
    simp (disch := omega) [takeV, h2]
    exact k _ (Rdr.set h1 h.rng h.len h3 h4 true) (Stp.upd m (by simp) _)
  | some p =>
    obtain ⟨n, s⟩ := p
    have e : numR bs = (n, bs.drop s, false) := by unfold numR; rw [ht]
    rw [e] at k
    simp only [Bool.or_false] at k
    have hs := takeG_lt _ _ _ _ _ ht
    obtain ⟨w, q1, q2, q3⟩ := h3.cutL .i64 s (by rw [rowI_length]; omega)
    rw [rowI_drop] at q2
    have e3 := q2.cs
    have e4 := q2.okc
    simp (disch := omega) [takeV, h2, q1, e3, e4]
    refine k _ (Rdr.set h1 (fun x hx => h.rng x (List.mem_of_mem_drop hx)) (by have := h.len; simp; omega) q2 (fun hne p e => ?_) bad) (Stp.upd m (by simp) _)
    rcases q3 with q3 | q3
    · rw [q3] at e; cases e
    · rw [q3] at e; exact h4 (fun e2 => hne (by rw [e2]; simp)) p e

/-- The time of a number with its sign in its lowest bit. -/
def dec (n : Nat) : Int := if n % 2 = 1 then -((n / 2 : Nat) : Int) - 1 else ((n / 2 : Nat) : Int)
def big (t : Int) : Bool := decide (t < -4611686018427387904 ∨ 4611686018427387904 < t)

theorem fdiv2 (n : Nat) : Int.fdiv (n : Int) (2 ^ 1) = ((n / 2 : Nat) : Int) := by
  rw [Int.fdiv_eq_ediv_of_nonneg _ (by omega)]; simp

theorem step_bound {i acc d : Nat} (h1 : i ≤ 9) (a3 : acc < 2 ^ (7 * i)) (hd : d < 128) (hd2 : i = 9 → d ≤ 1) : acc + d * 2 ^ (7 * i) < 18446744073709551616 ∧ acc + d * 2 ^ (7 * i) < 2 ^ (7 * (i + 1)) := by
  have q : (2 : Nat) ^ (7 * (i + 1)) = 128 * 2 ^ (7 * i) := by rw [Nat.mul_add, Nat.pow_add]; omega
  have q2 : d * 2 ^ (7 * i) ≤ 127 * 2 ^ (7 * i) := Nat.mul_le_mul_right _ (by omega)
  by_cases h9 : i = 9
  · subst h9
    have p9 : (2 : Nat) ^ (7 * 9) = 9223372036854775808 := rfl
    rw [p9] at a3 q ⊢
    rw [q]
    omega
  · have q3 : (2 : Nat) ^ (7 * i) ≤ 2 ^ (7 * 8) := Nat.pow_le_pow_right (by omega) (by omega)
    simp only [show (2 : Nat) ^ (7 * 8) = 72057594037927936 from rfl] at q3
    omega
theorem takeG_bound : ∀ (bs : List Int) (i acc n s : Nat), (∀ x ∈ bs, 0 ≤ x ∧ x ≤ 255) → acc < 2 ^ (7 * i) → takeG i acc bs = some (n, s) → n < 18446744073709551616
  | [], i, acc, n, s, hb, ha, h => by simp [takeG] at h
  | c :: bs, i, acc, n, s, hb, ha, h => by
    have hc := hb c (by simp)
    rw [takeG, pow128] at h
    split at h
    · cases h
    · rename_i h1
      have := step_bound (i := i) (acc := acc) (d := (c % 128).toNat) (by omega) ha (by omega) (by omega)
      split at h
      · split at h
        · cases h
        · injection h with h; injection h with h2 h3
          omega
      · exact takeG_bound bs _ _ _ _ (fun x hx => hb x (by simp [hx])) this.2 h
theorem numR_lt {bs : List Int} (h : ∀ x ∈ bs, 0 ≤ x ∧ x ≤ 255) : (numR bs).1 < 18446744073709551616 := by
  unfold numR
  cases ht : takeN bs with
  | none => simp
  | some p =>
    obtain ⟨n, s⟩ := p
    exact takeG_bound bs 0 0 n s h (by simp) ht

theorem first_calls {m : Mem} {r : Nat} {bs : List Int} {bad : Bool} (h : Rdr m r bs bad) {K : KV} (k : ∀ m', Rdr m' r (numR bs).2.1 (bad || (numR bs).2.2 || big (dec (numR bs).1)) → Stp m m' [r] [r] → K (.int .i64 (dec (numR bs).1)) m') : ACalls Try.prog 20 [.ptr (some (r, 0, 0))] m K := by
  refine run_on (ctx_nil _) hm c20 (by simp) fun hf => ?_
  simp (disch := omega) [b20]
  have hlt := numR_lt h.rng
  refine number_calls h fun m1 r1 r2 => ?_
  obtain ⟨n, hn⟩ : ∃ n, (numR bs).1 = n := ⟨_, rfl⟩
  rw [hn] at hlt k ⊢
  obtain ⟨b0, hb0⟩ : ∃ b0, (bad || (numR bs).2.2) = b0 := ⟨_, rfl⟩
  rw [hb0] at r1 k
  obtain ⟨v, h1, h2, h3, h4⟩ := r1.ex
  have e1 := and1 (n := (n : Int)) (by omega) (by omega)
  have e2 := fdiv2 n
  simp at e2
  have e3 := h3.cs
  have e4 := h3.okc
  obtain ⟨t, ht⟩ : ∃ t, dec n = t := ⟨_, rfl⟩
  rw [ht] at k
  by_cases hodd : (n : Int) % 2 = 1
  case' pos =>
    have et : t = -((n : Int) / 2) - 1 := by rw [← ht, dec, if_pos (by omega)]; omega
    have eb : -((n : Int) / 2) - 1 = t := et.symm
    simp (disch := omega) [e1, e2, h2, eb]
  case' neg =>
    have et : t = (n : Int) / 2 := by rw [← ht, dec, if_neg (by omega)]; omega
    have eb : (n : Int) / 2 = t := et.symm
    simp (disch := omega) [e1, e2, h2, eb]
  all_goals
    clear et eb
    have hset := fun b => Rdr.set (r := r) h1 r1.rng r1.len h3 h4 b
    have hst : ∀ o, Stp m (m1.upd r o) [r] [r] := fun o => r2.trans (Stp.upd m1 (by simp) o)
    cases b0 with
    | true =>
      simp (disch := omega) [h2]
      exact k _ (by simpa using hset true) (hst _)
    | false =>
      by_cases g1 : t < -4611686018427387904
      · have e5 : big t = true := by simp [big, g1]
        rw [e5] at k
        simp (disch := omega) [h2]
        exact k _ (by simpa using hset true) (hst _)
      · by_cases g2 : 4611686018427387904 < t
        · have e5 : big t = true := by simp [big, g2]
          rw [e5] at k
          simp (disch := omega) [h2]
          exact k _ (by simpa using hset true) (hst _)
        · have e5 : big t = false := by simp [big]; omega
          rw [e5] at k
          simp (disch := omega) [h2]
          exact k _ (by simpa using hset false) (hst _)

/-- The next time of a row. -/
def codeT (out : List Int) (c : Nat) : Option Int :=
  if out = [] then (if big (dec c) = true then none else some (dec c)) else if 4611686018427387904 - nth out (out.length - 1) < c then none else some (nth out (out.length - 1) + c)
/-- So many times more of a row. -/
def parse : Nat → List Int → List Int → Option (List Int × List Int)
  | 0, out, bs => some (out, bs)
  | k + 1, out, bs => match takeN bs with
    | none => none
    | some (c, s) => match codeT out c with
      | none => none
      | some t => parse k (out ++ [t]) (bs.drop s)
def endP : Option (List Int × List Int) → Option (List Int)
  | some (l, []) => some l
  | _ => none
/-- What a row's bytes tell. -/
def readP (bs : List Int) : Option (List Int) := match takeN bs with
  | none => none
  | some (n, s) => if 4096 < n then none else endP (parse n [] (bs.drop s))

theorem read_calls {m : Mem} {v : V} {bs : List Int} (hv : Sl m 1 v (rowI .u8 bs)) (hb : ∀ x ∈ bs, 0 ≤ x ∧ x ≤ 255) (hl : bs.length ≤ 1000000) {K : KV}
    (h1 : ∀ l, readP bs = some l → ∀ v' m', Ows m' 1 v' (rowI .i64 l) → m.Grew m' → (∀ p ∈ v'.fp, m.next ≤ p) → K (.tup [v', .int .i64 0]) m')
    (h2 : readP bs = none → ∀ m', m.Grew m' → K (.tup [.sl none 0 (some 0), .int .i64 5]) m') : ACalls Try.prog 12 [v] m K := by
  refine run_on (ctx_nil _) hm c12 (by simp) fun hf => ?_
  have e1 := hv.cs
  have e2 := hv.okc
  simp (disch := omega) [b12, e1, e2]
  have hg0 := Mem.Grew.new m (.row 2 [[v, .bool false]] true)
  have hR : Rdr (m.new (.row 2 [[v, .bool false]] true)) m.next bs false := ⟨hb, hl, v, by simp, by simp, hv.grow hg0, fun hne p' e => by
    obtain ⟨z, hz⟩ : ∃ z, (rowI .u8 bs)[0]? = some z := ⟨_, List.getElem?_eq_getElem (by rw [rowI_length]; exact List.length_pos_iff.2 hne)⟩
    obtain ⟨p, q, full, rw', z1, z2, z3, z4, z5⟩ := hv.at hz .i64
    rw [z5] at e; injection e with e; omega⟩
  refine number_calls hR fun m1 r1 r2 => ?_
  have hg1 := r2.toGrew hg0 (by simp)
  have hlt := numR_lt hb
  clear hR hg0
  have hnx := r1.lt
  cases ht : takeN bs with
  | none =>
    have e : numR bs = (0, bs, true) := by unfold numR; rw [ht]
    rw [e] at r1
    obtain ⟨w, q1, q2, q3, q4⟩ := r1.ex
    have eR : readP bs = none := by unfold readP; rw [ht]
    simp (disch := omega) [e, q2]
    exact h2 eR _ hg1
  | some pr =>
    obtain ⟨n, s⟩ := pr
    have e : numR bs = (n, bs.drop s, false) := by unfold numR; rw [ht]
    rw [e] at r1 hlt ⊢
    obtain ⟨w, q1, q2, q3, q4⟩ := r1.ex
    simp only [Bool.or_false] at q2
    by_cases hn : 4096 < n
    · have eR : readP bs = none := by unfold readP; rw [ht]; simp only [if_pos hn]
      simp (disch := omega) [q2]
      exact h2 eR _ hg1
    · have eR : readP bs = endP (parse n [] (bs.drop s)) := by unfold readP; rw [ht]; simp only [if_neg hn]
      rw [eR] at h1 h2
      generalize bs.drop s = bs0 at *
      obtain ⟨R, hR⟩ : ∃ R, parse n [] bs0 = R := ⟨_, rfl⟩
      rw [hR] at h1 h2
      simp (disch := omega) [q2]
      refine exec_loopU (σ := Nat × List Int × V × List Int × Mem) (fun (i, _, u, _, _) => [(6, u), (26, .int .i64 i)]) (fun (_, _, _, _, M) => M)
        (fun (i, out, u, bs', M) => i ≤ n ∧ Rdr M m.next bs' false ∧ m.Grew M ∧ Ows M 1 u (rowI .i64 out) ∧ out.length = i ∧ (∀ p ∈ u.fp, m.next < p) ∧ parse (n - i) out bs' = R ∧ (∀ x ∈ out, -4611686018427387904 ≤ x ∧ x ≤ 4611686018427387904)) (fun (i, _) => n - i)
        (0, [], .sl none 0 (some 0), bs0, m1) rfl ⟨by omega, r1, hg1, Ows.nil _ _, rfl, by simp [V.fp], hR, by simp⟩ (by simp) ?_
      clear hR r1 q1 q2 q3 q4 hg1 hv hb hl e1 e2
      intro (i, out, u, bs', M) ⟨b1, b2, b3, b4, blen, b5, b6, b7⟩
      by_cases hi : i < n
      · have hk : n - i = (n - (i + 1)) + 1 := by omega
        rw [hk, parse] at b6
        by_cases hi0 : i = 0
        · have ho : out = [] := List.eq_nil_of_length_eq_zero (by omega)
          simp (disch := omega) [hi0]
          refine first_calls b2 fun M2 rr st => ?_
          have bu := b4.step st (fun p hp he => by simp at hp; subst hp; have := b5 _ he; omega)
          have bg := st.toGrew b3 (by simp)
          cases ht' : takeN bs' with
          | none =>
            rw [ht'] at b6
            have e : numR bs' = (0, bs', true) := by unfold numR; rw [ht']
            rw [e] at rr ⊢
            obtain ⟨w, y1, y2, y3, y4⟩ := rr.ex
            simp (disch := omega) [y2]
            exact h2 (by rw [← b6]; rfl) _ bg
          | some pr =>
            obtain ⟨c, s'⟩ := pr
            rw [ht'] at b6
            have e : numR bs' = (c, bs'.drop s', false) := by unfold numR; rw [ht']
            rw [e] at rr ⊢
            simp only [codeT, if_pos ho] at b6
            obtain ⟨t, htt⟩ : ∃ t, dec c = t := ⟨_, rfl⟩
            simp only [htt] at b6 rr ⊢
            by_cases hbig : big t = true
            · rw [if_pos hbig] at b6
              rw [hbig] at rr
              obtain ⟨w, y1, y2, y3, y4⟩ := rr.ex
              simp (disch := omega) [y2]
              exact h2 (by rw [← b6]; rfl) _ bg
            have hbf : big t = false := by simpa using hbig
            have hrng : -4611686018427387904 ≤ t ∧ t ≤ 4611686018427387904 := by simp [big] at hbf; omega
            rw [if_neg hbig] at b6
            rw [hbf] at rr
            simp only [Bool.or_false] at rr

            have w0 := rr.ex
            obtain ⟨w, y1, y2, y3, y4⟩ := w0
            simp (disch := omega) [y2, eltsOf, Mem.elts, hi0]
            refine (bu.grow (Mem.Grew.new M2 _)).app (by rw [rowI_length]; omega) (by rw [rowI_length]; omega) fun u' M3 g1 g2 g3 => ?_
            have g2' : Stp M2 M3 u.fp u'.fp := (Stp.new M2 _ u.fp).trans g2
            simp (disch := omega)
            refine again_mk (i + 1, out ++ [t], u', bs'.drop s', M3) ?_ (by dsimp only; omega) (by simp [hi0]) rfl
            dsimp only
            have hrl := rr.lt
            refine ⟨by omega, ?_, g2'.toGrew bg (fun p hp => by have := b5 p hp; omega), by rw [← rowI_append]; exact g1, by simp; omega, fun p hp => ?_, b6, fun x hx => ?_⟩
            · obtain ⟨w, y1, y2, y3, y4⟩ := rr.ex
              have := g2'.next
              refine ⟨rr.rng, rr.len, w, by omega, by rw [g2'.obj _ y1 (fun e => by have := b5 _ e; omega)]; exact y2, ?_, y4⟩
              by_cases hbn : bs'.drop s' = []
              · obtain ⟨a, c', q1, q2⟩ := y3.ex
                exact ⟨a, c', q1, fun hne => absurd (by rw [hbn]; rfl) hne⟩
              · exact y3.keep g2'.next (fun p hp e => g2'.obj p hp (fun e2 => by have := b5 _ e2; have := y4 hbn p e; omega))
            · rcases g2'.fp p hp with q | q
              · exact b5 p q
              · omega
            · rcases List.mem_append.1 hx with hx | hx
              · exact b7 x hx
              · simp at hx; subst hx; omega
        · have ho : out ≠ [] := fun e => by rw [e] at blen; simp at blen; omega
          simp (disch := omega)
          refine number_calls b2 fun M2 rr st => ?_
          have bu := b4.step st (fun p hp he => by simp at hp; subst hp; have := b5 _ he; omega)
          have bg := st.toGrew b3 (by simp)
          obtain ⟨p, q, full, rw', z1, z2, z3, z4⟩ := at1 bu.sl (y := i - 1) (by omega)
          have ei : ((i - 1 : Nat) : Int) = (i : Int) - 1 := by omega
          rw [ei] at z1
          have hlr := b7 _ (nth_mem (show i - 1 < out.length by omega))
          obtain ⟨la, hla⟩ : ∃ la, nth out (i - 1) = la := ⟨_, rfl⟩
          rw [hla] at hlr z4
          have w1 : IntKind.u64.wrap (4611686018427387904 - IntKind.u64.wrap la) = 4611686018427387904 - la := by rw [IntKind.wrap_u64, IntKind.wrap_u64]; omega
          cases ht' : takeN bs' with
          | none =>
            rw [ht'] at b6
            have e : numR bs' = (0, bs', true) := by unfold numR; rw [ht']
            rw [e] at rr ⊢
            obtain ⟨w, y1, y2, y3, y4⟩ := rr.ex
            have w2 : IntKind.i64.wrap (IntKind.u64.wrap (IntKind.u64.wrap la)) = la := by rw [IntKind.wrap_i64, IntKind.wrap_u64, IntKind.wrap_u64]; omega
            simp (disch := omega) [-getElem?_pos, y2, z1, z3, z4, w1, w2]
            exact h2 (by rw [← b6]; rfl) _ bg
          | some pr =>
            obtain ⟨c, s'⟩ := pr
            rw [ht'] at b6
            have e : numR bs' = (c, bs'.drop s', false) := by unfold numR; rw [ht']
            have hc2 := numR_lt b2.rng
            rw [e] at rr hc2 ⊢
            dsimp only at hc2
            simp only [codeT, if_neg ho, blen, hla] at b6
            simp only [Bool.or_false] at rr
            by_cases hbig : 4611686018427387904 - la < c
            · rw [if_pos hbig] at b6
              obtain ⟨w, y1, y2, y3, y4⟩ := rr.ex
              simp (disch := omega) [-getElem?_pos, y2, z1, z3, z4, w1]
              exact h2 (by rw [← b6]; rfl) _ bg
            rw [if_neg hbig] at b6
            obtain ⟨t, htt⟩ : ∃ t, la + c = t := ⟨_, rfl⟩
            have w2 : IntKind.i64.wrap (IntKind.u64.wrap (IntKind.u64.wrap la + c)) = t := by rw [IntKind.wrap_i64, IntKind.wrap_u64, IntKind.wrap_u64]; omega
            rw [htt] at b6
            have w0 := rr.ex
            obtain ⟨w, y1, y2, y3, y4⟩ := w0
            simp (disch := omega) [-getElem?_pos, y2, z1, z3, z4, w1, w2, eltsOf, Mem.elts]
            refine (bu.grow (Mem.Grew.new M2 _)).app (by rw [rowI_length]; omega) (by rw [rowI_length]; omega) fun u' M3 g1 g2 g3 => ?_
            have g2' : Stp M2 M3 u.fp u'.fp := (Stp.new M2 _ u.fp).trans g2
            simp (disch := omega)
            refine again_mk (i + 1, out ++ [t], u', bs'.drop s', M3) ?_ (by dsimp only; omega) (by simp) rfl
            dsimp only
            have hrl := rr.lt
            refine ⟨by omega, ?_, g2'.toGrew bg (fun p hp => by have := b5 p hp; omega), by rw [← rowI_append]; exact g1, by simp; omega, fun p hp => ?_, b6, fun x hx => ?_⟩
            · obtain ⟨w, y1, y2, y3, y4⟩ := rr.ex
              have := g2'.next
              refine ⟨rr.rng, rr.len, w, by omega, by rw [g2'.obj _ y1 (fun e => by have := b5 _ e; omega)]; exact y2, ?_, y4⟩
              by_cases hbn : bs'.drop s' = []
              · obtain ⟨a, c', q1, q2⟩ := y3.ex
                exact ⟨a, c', q1, fun hne => absurd (by rw [hbn]; rfl) hne⟩
              · exact y3.keep g2'.next (fun p hp e => g2'.obj p hp (fun e2 => by have := b5 _ e2; have := y4 hbn p e; omega))
            · rcases g2'.fp p hp with q | q
              · exact b5 p q
              · omega
            · rcases List.mem_append.1 hx with hx | hx
              · exact b7 x hx
              · simp at hx; subst hx; omega
      · have : i = n := by omega
        subst this
        rw [Nat.sub_self, parse] at b6
        obtain ⟨w, y1, y2, y3, y4⟩ := b2.ex
        have y5 := y3.lenSl
        rw [rowI_length] at y5
        cases hbs : bs' with
        | nil =>
          rw [hbs] at y5 b6
          simp at y5
          simp (disch := omega) [y2, y5]
          exact h1 out (by rw [← b6]; rfl) _ _ b4 b3 (fun p hp => by have := b5 p hp; omega)
        | cons z zs =>
          rw [hbs] at y5 b6
          simp at y5
          simp (disch := omega) [y2, y5]
          exact h2 (by rw [← b6]; rfl) _ b3

end Go.Proofs.Ytdjofnipknioiaa
