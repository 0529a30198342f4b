/-
  LEASEPLAYS, of what the functions of this seat do.
-/
import Derived.Test.YtdblhiebjccbaaaLx
import Derived.Test.YtdblhiebjccbaaaNx
namespace Go.Proofs.Ytdblhiebjccbaaa
open Go Go.AM
set_option linter.unusedVariables false
set_option linter.unusedSimpArgs false
set_option maxRecDepth 20000
set_option maxHeartbeats 16000000

theorem heldS_nil {m : Mem} {now : Int} {K : KV} (h : ∀ m', m.Grew m' → K (.sl none 0 (some 0)) m') : ACalls Try.prog 8 [.ptr none, .int .i64 now] m K := by
  refine run_on x1 hm c8 (by simp) fun hf => ?_
  simp (disch := omega) [-getElem?_pos, b8]
  refine exec_loopU (σ := Nat × Mem) (fun (i, _) => [(5, .sl none 0 (some 0)), (9, .int .i64 i)]) (fun (_, M) => M) (fun (i, M) => i ≤ 256 ∧ m.Grew M) (fun (i, _) => 256 - i) (0, m) rfl
    (by dsimp only; exact ⟨by omega, Mem.Grew.refl m⟩) (by simp) ?_
  intro (i, M) ⟨a1, a2⟩
  by_cases hi : i < 256
  · simp (disch := omega) [-getElem?_pos]
    refine of_nil fun M1 g1 => ?_
    simp (disch := omega) [-getElem?_pos, hd0, Hd.v, Hd.cs]
    refine again_mk (i + 1, _) ?_ (by dsimp only; omega) (by simp) rfl
    dsimp only
    exact ⟨by omega, (a2.trans g1).trans (Mem.Grew.new _ _)⟩
  · have : i = 256 := by omega
    subst this
    simp (disch := omega)
    exact h _ a2

/-- A thing more. -/
theorem Thgs.add {n0 : Nat} {M : Mem} {r q : Nat} {l : List (Int × V)} {g : List Nat × Nat} {T : Nat → Th} (h : Thgs n0 M r q l g T) {j : Nat} (hj : j < 256) (hn : getI l (j : Int) = none) (hr : r < M.next) (h0 : n0 ≤ M.next) :
    Thgs n0 ((M.new (.row 4 [[.int .i64 0, .int .i64 0, .int .i64 0, .bool true]] true)).upd q (some (.map (mapI (putI l (j : Int) (.ptr (some (M.next, 0, 0))))) (stU (mapI l) (.int .i64 (j : Int)) g)))) r q (putI l (j : Int) (.ptr (some (M.next, 0, 0)))) (stU (mapI l) (.int .i64 (j : Int)) g) T := by
  have hq := h.q1
  refine ⟨(keysI_put h.K _ _).1, h.G.put _ _, by simp, ⟨by simp; omega, hq.2⟩, fun k v hv => ?_, fun k k' t hk hk' => ?_, fun i hi hi2 => ?_⟩
  · rw [getI_put] at hv
    by_cases e : k = j
    · rw [if_pos e] at hv; injection hv with hv; subst hv
      refine ⟨j, M.next, e, hj, rfl, by simp, by omega, by omega, h0, ?_⟩
      rw [updO _ (by omega), new_obj, if_pos rfl, h.off j hj hn]; rfl
    · rw [if_neg e] at hv
      obtain ⟨i, t, a1, a2, a3, a4, a5, a6, a7, a8⟩ := h.ent k v hv
      exact ⟨i, t, a1, a2, a3, by simp; omega, a5, a6, a7, by rw [updO _ a6, newO _ (by omega)]; exact a8⟩
  · rw [getI_put] at hk hk'
    by_cases e : k = j
    · by_cases e' : k' = j
      · rw [e, e']
      · rw [if_pos e] at hk; rw [if_neg e'] at hk'
        obtain ⟨i, t', a1, a2, a3, a4, _⟩ := h.ent k' _ hk'
        simp only [Option.some.injEq, V.ptr.injEq, Prod.mk.injEq] at hk a3
        omega
    · by_cases e' : k' = j
      · rw [if_neg e] at hk; rw [if_pos e'] at hk'
        obtain ⟨i, t', a1, a2, a3, a4, _⟩ := h.ent k _ hk
        simp only [Option.some.injEq, V.ptr.injEq, Prod.mk.injEq] at hk' a3
        omega
      · rw [if_neg e] at hk; rw [if_neg e'] at hk'
        exact h.inj k k' t hk hk'
  · rw [getI_put] at hi2
    by_cases e : (i : Int) = j
    · rw [if_pos e] at hi2; cases hi2
    · rw [if_neg e] at hi2; exact h.off i hi hi2
/-- A thing turned. -/
def setT (T : Nat → Th) (j : Nat) (x : Th) : Nat → Th := fun k => if k = j then x else T k
theorem Thgs.set {n0 : Nat} {M M' : Mem} {r q : Nat} {l : List (Int × V)} {g : List Nat × Nat} {T : Nat → Th} (h : Thgs n0 M r q l g T) {j t : Nat} (hj : getI l (j : Int) = some (.ptr (some (t, 0, 0)))) (x : Th) (hn : M.next ≤ M'.next) (ht : M'.obj t = some (.row 4 [thc x] true)) (ho : ∀ p, p < M.next → p ≠ r → p ≠ t → M'.obj p = M.obj p) : Thgs n0 M' r q l g (setT T j x) := by
  obtain ⟨i0, t0, b1, b2, b3, b4, b5, b6, b7, b8⟩ := h.ent _ _ hj
  have e1 : i0 = j := by omega
  subst e1
  simp only [V.ptr.injEq, Option.some.injEq, Prod.mk.injEq, and_true] at b3
  subst b3
  have hq := h.q1
  refine ⟨h.K, h.G, by rw [ho q hq.1 hq.2.1 b6.symm]; exact h.Q, ⟨by omega, hq.2⟩, fun k v hv => ?_, h.inj, fun i hi hi2 => ?_⟩
  · obtain ⟨i, t', a1, a2, a3, a4, a5, a6, a7, a8⟩ := h.ent k v hv
    refine ⟨i, t', a1, a2, a3, by omega, a5, a6, a7, ?_⟩
    by_cases e : i = i0
    · subst e; subst a1
      rw [hj] at hv; injection hv with hv
      rw [← hv] at a3
      simp only [V.ptr.injEq, Option.some.injEq, Prod.mk.injEq, and_true] at a3
      subst a3
      rw [ht]; simp [setT]
    · have ne : t' ≠ t := fun e2 => by
        subst e2; subst a3
        have := h.inj _ _ _ hv hj
        omega
      rw [ho t' a4 a5 ne, a8]; simp [setT, e]
  · by_cases e : i = i0
    · subst e; rw [hj] at hi2; cases hi2
    · simp only [setT, if_neg e]; exact h.off i hi hi2

def TimeOk (dn n : Int) : Prop := (dn = n ∧ -1125899906842624 ≤ n ∧ n ≤ 1125899906842624) ∨ (dn = -4611686018427387903 ∧ n = -2305843009213693952)
theorem TimeOk.go {dn n a : Int} (h : TimeOk dn n) (h1 : -1125899906842624 ≤ a) (h2 : a ≤ 1125899906842624) : max dn (cl a) = max n a ∧ -1125899906842624 ≤ max n a ∧ max n a ≤ 1125899906842624 := by
  rw [cl_id (by omega) (by omega)]
  rcases h with ⟨rfl, h3, h4⟩ | ⟨rfl, rfl⟩
  · exact ⟨rfl, by omega, by omega⟩
  · omega
def Bd (T : Nat → Th) (k : Nat) : Prop := ∀ j, j < 256 → 0 ≤ (T j).1.tok ∧ (T j).1.tok ≤ k ∧ -1125899906842624 ≤ (T j).1.en ∧ (T j).1.en ≤ 2251799813685248
theorem Bd.more {T : Nat → Th} {k : Nat} (h : Bd T k) : Bd T (k + 1) := fun j hj => by have := h j hj; omega
theorem Bd.set {T : Nat → Th} {k : Nat} (h : Bd T k) {j : Nat} {x : Th} (h1 : 0 ≤ x.1.tok) (h2 : x.1.tok ≤ k + 1) (h3 : -1125899906842624 ≤ x.1.en) (h4 : x.1.en ≤ 2251799813685248) : Bd (setT T j x) (k + 1) := fun i hi => by
  unfold setT
  split
  · exact ⟨h1, by omega, h3, h4⟩
  · have := h i hi; omega
theorem add_id {a b : Int} (h1 : -4503599627370496 ≤ a) (h2 : a ≤ 4503599627370496) (h3 : -4503599627370496 ≤ b) (h4 : b ≤ 4503599627370496) : addT a b = a + b := by
  unfold addT; rw [if_neg (by omega), cl_id (t := a) (by omega) (by omega), cl_id (t := b) (by omega) (by omega), cl_id (by omega) (by omega)]
theorem sub_id {a b : Int} (h1 : -4503599627370496 ≤ a) (h2 : a ≤ 4503599627370496) (h3 : -4503599627370496 ≤ b) (h4 : b ≤ 4503599627370496) : subT a b = a - b := by
  unfold subT; rw [if_neg (by omega), cl_id (t := a) (by omega) (by omega), cl_id (t := b) (by omega) (by omega), cl_id (by omega) (by omega)]

theorem act_of {m : Mem} {e : List V} (h : Is m (.struct [.int .u8, .int .i64, .int .i64, .int .i64, .int .i64, .int .i64]) e) : ∃ k a th who tok long, e = [.int .u8 k, .int .i64 a, .int .i64 th, .int .i64 who, .int .i64 tok, .int .i64 long] ∧ 0 ≤ k ∧ k ≤ 255 := by
  simp only [Is, Iss] at h
  obtain ⟨_, _, rfl, ⟨k, rfl, w⟩, _, _, rfl, ⟨a, rfl, _⟩, _, _, rfl, ⟨b, rfl, _⟩, _, _, rfl, ⟨c, rfl, _⟩, _, _, rfl, ⟨d, rfl, _⟩, _, _, rfl, ⟨f, rfl, _⟩, rfl⟩ := h
  have := wf_u8 w
  exact ⟨k, a, b, c, d, f, by simp, by omega, by omega⟩

/-- All that goes on in a round. -/
structure Rnd (n0 : Nat) (M : Mem) (r q i : Nat) (gr now : Int) (l : List (Int × V)) (g : List Nat × Nat) (T : Nat → Th) (D : Dk) : Prop where
  tT : Thgs n0 M r q l g T
  dD : Desk M r D
  al : Alike D T
  gr : D.grace = gr
  now : TimeOk D.now now
  bd : Bd T i
  len : l.length ≤ i
theorem Rnd.grow {n0 : Nat} {M M' : Mem} {r q i : Nat} {gr now : Int} {l : List (Int × V)} {g : List Nat × Nat} {T : Nat → Th} {D : Dk} (h : Rnd n0 M r q i gr now l g T D) (hg : M.Grew M') : Rnd n0 M' r q i gr now l g T D := ⟨h.tT.grow hg, h.dD.grow hg, h.al, h.gr, h.now, h.bd, h.len⟩
theorem Rnd.more {n0 : Nat} {M : Mem} {r q i : Nat} {gr now : Int} {l : List (Int × V)} {g : List Nat × Nat} {T : Nat → Th} {D : Dk} (h : Rnd n0 M r q i gr now l g T D) : Rnd n0 M r q (i + 1) gr now l g T D := ⟨h.tT, h.dD, h.al, h.gr, h.now, h.bd.more, by have := h.len; omega⟩

abbrev shL : Sh := .slice 6 (.struct [.int .u8, .int .i64, .int .i64, .int .i64, .int .i64, .int .i64])
theorem lease_plays (m0 : Mem) (x0 x1' : V) (h0 : IsV m0 (.int .i64) x0) (h1 : IsV m0 shL x1') : ACalls Try.prog 3 [x0, x1'] m0 (fun r _ => r = .bool true) := by
  obtain ⟨gr, rfl, _⟩ := h0.int
  refine run_on (ctx_nil _) hm c3t (by simp) fun hf => ?_
  obtain ⟨es, hv, hml, hes⟩ := h1.slR hf
  simp (disch := omega) [-getElem?_pos, b3t]
  refine fixed_calls fun m00 g00 => ?_
  replace hv := hv.grow g00
  replace hes : ∀ e ∈ es, Is m00 _ e := fun e he => Is.mono (fun q o ho => by rw [g00.obj q (hf q o ho)]; exact ho) _ _ (hes e he)
  have hv1 := hv.lenSl
  obtain ⟨N, hN⟩ : ∃ N, es.length = N := ⟨_, rfl⟩
  rw [hN] at hv1
  by_cases hl : (80 : Int) < N
  · simp (disch := omega) [-getElem?_pos, hv1]
  simp (disch := omega) [-getElem?_pos, hv1]
  by_cases hg : gr < 0 ∨ 1099511627776 < gr
  · refine new_none hg ?_
    rcases hg with hg | hg
    case' inl => simp (disch := omega) [-getElem?_pos]
    case' inr =>
      by_cases hg2 : gr < 0
      case pos => omega
      simp (disch := omega) [-getElem?_pos]
    all_goals
      refine of_nil fun m2 g2 => ?_
      simp (disch := omega) [-getElem?_pos, hd0, Hd.v, Hd.cs]
      refine heldS_nil fun m3 g3 => ?_
      simp (disch := omega) [-getElem?_pos]
  refine new_calls (by omega) fun r m1 hD hr g1 => ?_
  simp (disch := omega) [-getElem?_pos, hv1]
  have gM := Mem.Grew.new m1 (.map [] ([], 0))
  have hD2 := hD.grow gM
  have hrl := hD.lt
  have gn1 := g1.next
  have hst : Rnd m00.next (m1.new (.map [] ([], 0))) r m1.next 0 gr (-2305843009213693952) [] ([], 0) (fun _ => (hd0, true)) (Dk.new gr) :=
    ⟨⟨List.nodup_nil, GOk.nil, by simp [mapI], ⟨by simp, by omega, by omega⟩, fun k v hv => by simp [getI] at hv, fun k k' t hk => by simp [getI] at hk, fun i hi _ => rfl⟩, hD2, fun i hi => ⟨rfl, rfl⟩, rfl, .inr ⟨rfl, rfl⟩, fun j hj => by simp [hd0], by simp⟩
  have hG := g1.trans gM
  generalize m1.new (.map [] ([], 0)) = m2 at *
  generalize m1.next = q at *
  clear hD hD2 gM g1 hrl gn1
  refine exec_loopU (σ := Nat × Int × List (Int × V) × (List Nat × Nat) × (Nat → Th) × Dk × Mem) (fun (i, now, _, _, _, _, _) => [(9, .int .i64 now), (61, .int .i64 i)]) (fun (_, _, _, _, _, _, M) => M)
    (fun (i, now, l, g, T, D, M) => i ≤ N ∧ Rnd m00.next M r q i gr now l g T D ∧ m00.Grew M) (fun (i, _, _, _, _, _, _) => N - i) (0, -2305843009213693952, [], ([], 0), fun _ => (hd0, true), Dk.new gr, m2) rfl
    (by dsimp only; exact ⟨by omega, hst, hG⟩) (by simp) ?_
  clear hst hG
  intro (i, now, l, g, T, D, M) ⟨a1, hR, gM⟩
  by_cases hi : i < N
  case neg => simp (disch := omega) [-getElem?_pos]
  obtain ⟨e, he⟩ : ∃ e, es[i]? = some e := ⟨_, List.getElem?_eq_getElem (by omega)⟩
  obtain ⟨kk, a, th, who, tok, long, rfl, hk0, hk1⟩ := act_of (hes e (mem_of_idx he))
  obtain ⟨p, x, full, rw, z1, z2, z3, z4, _⟩ := (hv.grow gM).at he .i64
  have gN := Mem.Grew.new M (.row 6 [[.int .u8 kk, .int .i64 a, .int .i64 th, .int .i64 who, .int .i64 tok, .int .i64 long]] true)
  have oA : (M.new (.row 6 [[.int .u8 kk, .int .i64 a, .int .i64 th, .int .i64 who, .int .i64 tok, .int .i64 long]] true)).obj M.next = some (.row 6 [[.int .u8 kk, .int .i64 a, .int .i64 th, .int .i64 who, .int .i64 tok, .int .i64 long]] true) := by simp
  have bA : M.next < (M.new (.row 6 [[.int .u8 kk, .int .i64 a, .int .i64 th, .int .i64 who, .int .i64 tok, .int .i64 long]] true)).next := by simp
  have hR' := hR.grow gN
  have hAr : M.next ≠ r ∧ M.next ≠ q := ⟨by have := hR.dD.lt; omega, by have := hR.tT.q1; omega⟩
  have hAt : ∀ k t, getI l k = some (.ptr (some (t, 0, 0))) → M.next ≠ t := fun k t hk e => by
    obtain ⟨i, t', _, _, b3, b4, _⟩ := hR.tT.ent k _ hk
    simp only [V.ptr.injEq, Option.some.injEq, Prod.mk.injEq, and_true] at b3
    omega
  simp (disch := omega) [-getElem?_pos, z1, z3, z4]
  replace gM := gM.trans gN
  generalize M.new (.row 6 [[.int .u8 kk, .int .i64 a, .int .i64 th, .int .i64 who, .int .i64 tok, .int .i64 long]] true) = M1 at *
  generalize M.next = A at *
  clear hR gN z1 z2 z3 z4 he
  unfold body41
  by_cases ha : a < -1125899906842624 ∨ 1125899906842624 < a
  · rcases ha with ha | ha
    · simp (disch := omega) [-getElem?_pos, oA]
    · by_cases ha2 : a < -1125899906842624
      · omega
      · simp (disch := omega) [-getElem?_pos, oA]
  have hax : -1125899906842624 ≤ a ∧ a ≤ 1125899906842624 := by omega
  clear ha
  have hrem : kk.tmod 3 = 0 ∨ kk.tmod 3 = 1 ∨ kk.tmod 3 = 2 := by
    rw [Int.tmod_eq_emod_of_nonneg hk0]; omega
  -- what may not be
  by_cases hbad : (kk.tmod 3 = 0 ∧ (who < 1 ∨ long < 1 ∨ 1099511627776 < long)) ∨ (kk.tmod 3 = 1 ∧ (long < 1 ∨ 1099511627776 < long)) ∨ th < 0 ∨ 256 ≤ th
  · have hth : (0 ≤ th ∧ th < 256) ∨ th < 0 ∨ (0 ≤ th ∧ 256 ≤ th) := by omega
    rcases hrem with hq | hq | hq
    · have hc : who < 1 ∨ (1 ≤ who ∧ long < 1) ∨ (1 ≤ who ∧ 1 ≤ long ∧ 1099511627776 < long) ∨ (1 ≤ who ∧ 1 ≤ long ∧ long ≤ 1099511627776) := by omega
      rcases hth with hth | hth | hth
      all_goals
        rcases hc with hc | hc | hc | hc
        all_goals first
          | omega
          | (simp (disch := omega) [-getElem?_pos, oA, hq]
             refine take_bad (by omega) fun M2 g2 => ?_
             simp (disch := omega) [-getElem?_pos]
             exact again_mk (i + 1, now, l, g, T, D, M2) (by dsimp only; exact ⟨by omega, (hR'.grow g2).more, gM.trans g2⟩) (by dsimp only; omega) (by simp) rfl)
    · have hc : long < 1 ∨ (1 ≤ long ∧ 1099511627776 < long) ∨ (1 ≤ long ∧ long ≤ 1099511627776) := by omega
      rcases hth with hth | hth | hth
      all_goals
        rcases hc with hc | hc | hc
        all_goals first
          | omega
          | (simp (disch := omega) [-getElem?_pos, oA, hq]
             refine renew_bad (by omega) fun M2 g2 => ?_
             simp (disch := omega) [-getElem?_pos]
             exact again_mk (i + 1, now, l, g, T, D, M2) (by dsimp only; exact ⟨by omega, (hR'.grow g2).more, gM.trans g2⟩) (by dsimp only; omega) (by simp) rfl)
    · rcases hth with hth | hth | hth
      · omega
      all_goals
        simp (disch := omega) [-getElem?_pos, oA, hq]
        refine give_bad (by omega) ?_
        simp (disch := omega) [-getElem?_pos]
        exact again_mk (i + 1, now, l, g, T, D, _) (by dsimp only; exact ⟨by omega, hR'.more, gM⟩) (by dsimp only; omega) (by simp) rfl
  have hb0 : 0 ≤ th ∧ th < 256 := by omega
  obtain ⟨j, rfl⟩ : ∃ j : Nat, th = j := ⟨th.toNat, by omega⟩
  have hj : j < 256 := by omega
  obtain ⟨nt1, nt2, nt3⟩ := hR'.now.go hax.1 hax.2
  obtain ⟨nw, hnw⟩ : ∃ nw, max now a = nw := ⟨_, rfl⟩
  rw [hnw] at nt1 nt2 nt3
  have htk : D.tick a = ⟨D.grace, nw, D.h, D.g⟩ := by simp only [Dk.tick, nt1]
  have htk2 : ∀ h g, (⟨D.grace, nw, h, g⟩ : Dk).tick a = ⟨D.grace, nw, h, g⟩ := fun h g => by
    have : max nw (cl a) = nw := by rw [cl_id (by omega) (by omega)]; omega
    simp only [Dk.tick, this]
  obtain ⟨hx1, hx2⟩ := hR'.al j hj
  obtain ⟨bd1, bd2, bd3, bd4⟩ := hR'.bd j hj
  have hgr := hR'.gr
  have hQ := hR'.tT.Q
  have hq1 := hR'.tT.q1
  have hlen := hR'.len
  have hDl := hR'.dD.lt
  have hn01 : m00.next ≤ M1.next := gM.next
  have hAr1 := hAr.1
  have hAr2 := hAr.2
  -- the end of a round
  have fin : ∀ {M3 : Mem} {l2 : List (Int × V)} {g2 : List Nat × Nat} {T2 : Nat → Th} {h2 : Nat → Hd} {gg : Nat → Bool}, Thgs m00.next M3 r q l2 g2 T2 → Desk M3 r ⟨D.grace, nw, h2, gg⟩ → Alike ⟨D.grace, nw, h2, gg⟩ T2 → Bd T2 (i + 1) → l2.length ≤ i + 1 → m00.Grew M3 → i + 1 ≤ N ∧ Rnd m00.next M3 r q (i + 1) gr nw l2 g2 T2 ⟨D.grace, nw, h2, gg⟩ ∧ m00.Grew M3 :=
    fun h1 h2 h3 h4 h5 h6 => ⟨by omega, ⟨h1, h2, h3, hgr, .inl ⟨rfl, nt2, nt3⟩, h4, h5⟩, h6⟩
  obtain ⟨⟨⟨w1, w2, w3⟩, w4⟩, hTj⟩ : ∃ w, T j = w := ⟨_, rfl⟩
  rw [hTj] at hx1 hx2 bd1 bd2 bd3 bd4
  dsimp only at hx1 hx2 bd1 bd2 bd3 bd4
  have hcls : w4 = true ∨ (w4 = false ∧ nw < w3) ∨ (w4 = false ∧ ¬ nw < w3) := by cases w4 <;> by_cases c : nw < w3 <;> simp [c]
  have hsome : w4 = false → ∃ t, getI l (j : Int) = some (.ptr (some (t, 0, 0))) ∧ t < M1.next ∧ t ≠ r ∧ t ≠ q ∧ m00.next ≤ t ∧ M1.obj t = some (.row 4 [[.int .i64 w1, .int .i64 w2, .int .i64 w3, .bool w4]] true) := fun h4 => by
    cases hgj : getI l (j : Int) with
    | none =>
      have := hR'.tT.off j hj hgj
      rw [hTj] at this
      injection this with _ this
      rw [h4] at this; cases this
    | some v =>
      obtain ⟨j', t, b1, b2, rfl, b4, b5, b6, b7, b8⟩ := hR'.tT.ent _ _ hgj
      obtain rfl : j' = j := by omega
      rw [hTj] at b8
      exact ⟨t, rfl, b4, b5, b6, b7, b8⟩
  have tk : ∀ {M2 M3 : Mem} {l2 : List (Int × V)} {g2 : List Nat × Nat}, Thgs m00.next M2 r q l2 g2 T → Stp M2 M3 [r] [r] → m00.Grew M2 → Thgs m00.next M3 r q l2 g2 T ∧ m00.Grew M3 ∧ ∀ p o, p < M2.next → p ≠ r → M2.obj p = some o → M3.obj p = some o := fun h1 h2 h3 =>
    ⟨h1.step h2, h2.toGrew h3 (by simpa using hr), fun p o hp hne ho => by rw [h2.obj p hp (by simpa using hne)]; exact ho⟩
  rcases hrem with hq | hq | hq
  · -- it is taken
    have hw : 1 ≤ who ∧ 1 ≤ long ∧ long ≤ 1099511627776 := by omega
    have hadd : addT nw long = nw + long := add_id (by omega) (by omega) (by omega) (by omega)
    have hsub : subT nw w3 = nw - w3 := sub_id (by omega) (by omega) (by omega) (by omega)
    have heq : (⟨D.grace, nw, D.h, D.g⟩ : Dk).held j = (!w4 && decide (nw < w3)) := by unfold Dk.held; dsimp only; rw [hx1, hx2]
    by_cases hbusy : w4 = false ∧ (nw < w3 ∨ (w1 ≠ who ∧ nw - w3 < gr))
    · obtain ⟨h4, hbz⟩ := hbusy
      have hb : D.take a j who long = (⟨D.grace, nw, D.h, D.g⟩, hd0, 9) := take_busy htk (by
        rw [heq]; dsimp only; rw [hx1, hx2, h4, hgr]; dsimp only; rw [hsub]
        rcases hbz with c | c
        · left; simpa using c
        · right; exact ⟨rfl, c⟩)
      obtain ⟨t, hgj, t1, t2, t3, t4, t5⟩ := hsome h4
      subst h4
      have hAt' := hAt _ _ hgj
      have hc : (nw < w3) ∨ (¬ nw < w3 ∧ w1 ≠ who ∧ nw - w3 < gr) := by omega
      rcases hc with hc | hc
      all_goals
        simp (disch := omega) [-getElem?_pos, oA, hq, hQ, hgj, hnw, t5]
        refine take_calls hR'.dD hj hw.1 hw.2.1 hw.2.2 (by rw [hx1]; dsimp only; omega) fun M3 hD3 s3 => ?_
        rw [hb] at hD3 ⊢
        obtain ⟨k1, k2, k3⟩ := tk hR'.tT s3 gM
        have oA3 := k3 _ _ bA hAr1 oA
        have t53 := k3 _ _ t1 t2 t5
        have n3 := s3.next
        simp (disch := omega) [-getElem?_pos, oA3, t53, hd0, Hd.v, Hd.cs, hc]
        refine tail_ok (grace := gr) (v := x1') (N := N) (i := i) (now := nw) (r := r) (q := q) (A := A) (by simp) (by simp) (by simp) (by simp) (by simp) (by simp) (by simp) (by simp) (newO _ (by omega) |>.trans oA3) ⟨by simp; omega, hAr1⟩ (k1.grow (Mem.Grew.new M3 _)) (hD3.grow (Mem.Grew.new M3 _)) (T := T) (fun j hj => hR'.al j hj) (htk2 _ _) rfl (by omega) fun e' M4 f0 f5 f8 f9 f59 f60 f61 hT4 hD4 s4 => ?_
        simp (disch := omega) [-getElem?_pos, f61]
        exact again_mk (i + 1, nw, l, g, T, _, M4) (by dsimp only; exact fin hT4 hD4 (fun j hj => hR'.al j hj) hR'.bd.more (by omega) (s4.toGrew (k2.trans (Mem.Grew.new M3 _)) (by simpa using hr))) (by dsimp only; omega) (by simp [f0, f5, f8, f9, f59, f60]) rfl
    · have hf := take_free (who := who) (long := long) (i := j) htk (by
        rw [heq]; dsimp only; rw [hx1, hx2, hgr]; dsimp only; rw [hsub]
        intro hh
        apply hbusy
        rcases hh with hh | ⟨hh1, hh2⟩
        · simp only [Bool.and_eq_true, Bool.not_eq_true', decide_eq_true_eq] at hh
          exact ⟨hh.1, .inl hh.2⟩
        · exact ⟨hh1, .inr hh2⟩)
      dsimp only at hf
      rw [hadd, hx1] at hf
      dsimp only at hf
      have hcl : w4 = true ∨ (w4 = false ∧ ¬ nw < w3 ∧ w1 = who) ∨ (w4 = false ∧ ¬ nw < w3 ∧ w1 ≠ who ∧ ¬ nw - w3 < gr) := by
        cases w4
        · right
          have c1 : ¬ nw < w3 := fun c => hbusy ⟨rfl, .inl c⟩
          by_cases c2 : w1 = who
          · exact .inl ⟨rfl, c1, c2⟩
          · exact .inr ⟨rfl, c1, c2, fun c => hbusy ⟨rfl, .inr ⟨c2, c⟩⟩⟩
        · exact .inl rfl
      clear hbusy heq hsub
      have hal : Alike ⟨D.grace, nw, fun k => if k = j then ⟨who, w2 + 1, nw + long⟩ else D.h k, fun k => if k = j then false else D.g k⟩ (setT T j (⟨who, w2 + 1, nw + long⟩, false)) := fun k hk => by
        unfold setT; dsimp only
        by_cases e : k = j
        · subst e; simp
        · simp only [if_neg e]; exact hR'.al k hk
      have hbd : Bd (setT T j (⟨who, w2 + 1, nw + long⟩, false)) (i + 1) := hR'.bd.set (by dsimp only; omega) (by dsimp only; omega) (by dsimp only; omega) (by dsimp only; omega)
      rcases hcl with rfl | ⟨rfl, c1, c2⟩ | ⟨rfl, c1, c2, c3⟩
      case' inl =>
        rcases hgj : getI l (j : Int) with _ | v
        case' none =>
          have hw0 := hR'.tT.off j hj hgj
          rw [hTj] at hw0
          simp only [hd0, Prod.mk.injEq, Hd.mk.injEq, and_true] at hw0
          obtain ⟨e1, e2, e3⟩ := hw0
          have hT2 := hR'.tT.add hj hgj hDl hn01
          have hD2 : Desk ((M1.new (.row 4 [[.int .i64 0, .int .i64 0, .int .i64 0, .bool true]] true)).upd q (some (.map (mapI (putI l (j : Int) (.ptr (some (M1.next, 0, 0))))) (stU (mapI l) (.int .i64 (j : Int)) g)))) r D := hR'.dD.keep (by simp) (by rw [updO _ (by omega), newO _ (by omega)])
          have gM2 := (gM.trans (Mem.Grew.new M1 (.row 4 [[.int .i64 0, .int .i64 0, .int .i64 0, .bool true]] true))).upd hq1.2.2 (some (.map (mapI (putI l (j : Int) (.ptr (some (M1.next, 0, 0))))) (stU (mapI l) (.int .i64 (j : Int)) g)))
          have oA2 : ((M1.new (.row 4 [[.int .i64 0, .int .i64 0, .int .i64 0, .bool true]] true)).upd q (some (.map (mapI (putI l (j : Int) (.ptr (some (M1.next, 0, 0))))) (stU (mapI l) (.int .i64 (j : Int)) g)))).obj A = some (.row 6 [[.int .u8 kk, .int .i64 a, .int .i64 j, .int .i64 who, .int .i64 tok, .int .i64 long]] true) := by rw [updO _ hAr2, newO _ (by omega)]; exact oA
          have t5 : ((M1.new (.row 4 [[.int .i64 0, .int .i64 0, .int .i64 0, .bool true]] true)).upd q (some (.map (mapI (putI l (j : Int) (.ptr (some (M1.next, 0, 0))))) (stU (mapI l) (.int .i64 (j : Int)) g)))).obj M1.next = some (.row 4 [[.int .i64 0, .int .i64 0, .int .i64 0, .bool true]] true) := by rw [updO _ (by omega), new_obj, if_pos rfl]
          have hg2 : getI (putI l (j : Int) (.ptr (some (M1.next, 0, 0)))) (j : Int) = some (.ptr (some (M1.next, 0, 0))) := by rw [getI_put, if_pos rfl]
          have hl2 : (putI l (j : Int) (.ptr (some (M1.next, 0, 0)))).length ≤ i + 1 := by
            have := (keysI_put hR'.tT.K (j : Int) (.ptr (some (M1.next, 0, 0)))).2.1
            rw [hgj, if_pos rfl] at this; omega
          have nM : ((M1.new (.row 4 [[.int .i64 0, .int .i64 0, .int .i64 0, .bool true]] true)).upd q (some (.map (mapI (putI l (j : Int) (.ptr (some (M1.next, 0, 0))))) (stU (mapI l) (.int .i64 (j : Int)) g)))).next = M1.next + 1 := by simp
          simp (disch := omega) [-getElem?_pos, oA, hq, hQ, hgj, hnw]
          generalize htn : M1.next = t at *
          generalize hlz : putI l (j : Int) (.ptr (some (t, 0, 0))) = l2 at *
          generalize hgz : stU (mapI l) (.int .i64 (j : Int)) g = g2 at *
          generalize (M1.new (.row 4 [[.int .i64 0, .int .i64 0, .int .i64 0, .bool true]] true)).upd q (some (.map (mapI l2) g2)) = M2 at *
          have t1 : t < M2.next := by omega
          have t2 : t ≠ r := by omega
          have t3 : t ≠ q := by omega
          have t4 : m00.next ≤ t := by omega
          have tA : A ≠ t := by omega
          have bA2 : A < M2.next := by omega
          replace t5 : M2.obj t = some (.row 4 [[.int .i64 w1, .int .i64 w2, .int .i64 w3, .bool true]] true) := by rw [e1, e2, e3]; exact t5
        case' some =>
          obtain ⟨j', t, b1, b2, rfl, t1, t2, t3, t4, t5⟩ := hR'.tT.ent _ _ hgj
          obtain rfl : j = j' := by omega
          rw [hTj] at t5
          simp only [thc] at t5
          have hg2 := hgj
          simp (disch := omega) [-getElem?_pos, oA, hq, hQ, hgj, hnw, t5]
          have tA := hAt _ _ hgj
          have hT2 := hR'.tT
          have hD2 := hR'.dD
          have gM2 := gM
          have oA2 := oA
          have bA2 := bA
          have hl2 : l.length ≤ i + 1 := by omega
          obtain ⟨M2, rfl⟩ : ∃ x, x = M1 := ⟨_, rfl⟩
          obtain ⟨l2, rfl⟩ : ∃ x, x = l := ⟨_, rfl⟩
          obtain ⟨g2, rfl⟩ : ∃ x, x = g := ⟨_, rfl⟩
      case' inr.inl =>
        obtain ⟨t, hgj, t1, t2, t3, t4, t5⟩ := hsome rfl
        have hg2 := hgj
        simp (disch := omega) [-getElem?_pos, oA, hq, hQ, hgj, hnw, t5]
        have tA := hAt _ _ hgj
        have hT2 := hR'.tT
        have hD2 := hR'.dD
        have gM2 := gM
        have oA2 := oA
        have bA2 := bA
        have hl2 : l.length ≤ i + 1 := by  omega
        obtain ⟨M2, rfl⟩ : ∃ x, x = M1 := ⟨_, rfl⟩
        obtain ⟨l2, rfl⟩ : ∃ x, x = l := ⟨_, rfl⟩
        obtain ⟨g2, rfl⟩ : ∃ x, x = g := ⟨_, rfl⟩
      case' inr.inr =>
        obtain ⟨t, hgj, t1, t2, t3, t4, t5⟩ := hsome rfl
        have hg2 := hgj
        simp (disch := omega) [-getElem?_pos, oA, hq, hQ, hgj, hnw, t5]
        have tA := hAt _ _ hgj
        have hT2 := hR'.tT
        have hD2 := hR'.dD
        have gM2 := gM
        have oA2 := oA
        have bA2 := bA
        have hl2 : l.length ≤ i + 1 := by  omega
        obtain ⟨M2, rfl⟩ : ∃ x, x = M1 := ⟨_, rfl⟩
        obtain ⟨l2, rfl⟩ : ∃ x, x = l := ⟨_, rfl⟩
        obtain ⟨g2, rfl⟩ : ∃ x, x = g := ⟨_, rfl⟩
      all_goals
        refine take_calls hD2 hj hw.1 hw.2.1 hw.2.2 (by rw [hx1]; dsimp only; omega) fun M3 hD3 s3 => ?_
        rw [hf] at hD3 ⊢
        obtain ⟨k1, k2, k3⟩ := tk hT2 s3 gM2
        have oA3 := k3 _ _ bA2 hAr1 oA2
        have t53 := k3 _ _ t1 t2 t5
        have n3 := s3.next
        simp (disch := omega) [-getElem?_pos, oA3, t53, Hd.v, Hd.cs]
        refine drawT_one ⟨_, _, by simp (disch := omega) [-getElem?_pos, oA3, t53, splice]; exact ⟨rfl, rfl⟩, ?_⟩
        simp (disch := omega) [-getElem?_pos, oA3, t53, splice]
        have tl3 : t < M3.next := by omega
        have Al3 : A < M3.next := by omega
        have rl3 := hD3.lt
        have g4 := Mem.Grew.new M3 (.row 3 [[.int .i64 who, .int .i64 (w2 + 1), .int .i64 (nw + long)]] true)
        have g5 := (k2.trans g4).upd t4 (some (.row 4 [[.int .i64 who, .int .i64 (w2 + 1), .int .i64 (nw + long), .bool false]] true))
        have hT5 : Thgs m00.next ((M3.new (.row 3 [[.int .i64 who, .int .i64 (w2 + 1), .int .i64 (nw + long)]] true)).upd t (some (.row 4 [[.int .i64 who, .int .i64 (w2 + 1), .int .i64 (nw + long), .bool false]] true))) r q l2 g2 (setT T j (⟨who, w2 + 1, nw + long⟩, false)) := k1.set hg2 _ (by simp) (by rw [upd_obj, if_pos rfl]; rfl) fun p h1 h2 h3 => by rw [updO _ h3, newO _ (by omega)]
        have hD5 := hD3.keep (m' := (M3.new (.row 3 [[.int .i64 who, .int .i64 (w2 + 1), .int .i64 (nw + long)]] true)).upd t (some (.row 4 [[.int .i64 who, .int .i64 (w2 + 1), .int .i64 (nw + long), .bool false]] true))) (by simp) (by rw [updO _ (by omega), newO _ (by omega)])
        have oA5 : ((M3.new (.row 3 [[.int .i64 who, .int .i64 (w2 + 1), .int .i64 (nw + long)]] true)).upd t (some (.row 4 [[.int .i64 who, .int .i64 (w2 + 1), .int .i64 (nw + long), .bool false]] true))).obj A = _ := (updO _ tA).trans ((newO _ (by omega)).trans oA3)
        refine tail_ok (grace := gr) (v := x1') (N := N) (i := i) (now := nw) (r := r) (q := q) (A := A) (by simp) (by simp) (by simp) (by simp) (by simp) (by simp) (by simp) (by simp) oA5 ⟨by simp; omega, hAr1⟩ hT5 hD5 hal (htk2 _ _) rfl (by omega) fun e' M4 f0 f5 f8 f9 f59 f60 f61 hT4 hD4 s4 => ?_
        simp (disch := omega) [-getElem?_pos, f61]
        exact again_mk (i + 1, nw, l2, g2, _, _, M4) (by dsimp only; exact fin hT4 hD4 hal hbd (by omega) (s4.toGrew g5 (by simpa using hr))) (by dsimp only; omega) (by simp [f0, f5, f8, f9, f59, f60]) rfl
  · -- it is renewed
    have hw : 1 ≤ long ∧ long ≤ 1099511627776 := by omega
    have hadd : addT nw long = nw + long := add_id (by omega) (by omega) (by omega) (by omega)
    have heq : (⟨D.grace, nw, D.h, D.g⟩ : Dk).held j = (!w4 && decide (nw < w3)) := by unfold Dk.held; dsimp only; rw [hx1, hx2]
    have hal : Alike ⟨D.grace, nw, D.h, D.g⟩ T := fun j hj => hR'.al j hj
    have hbd := hR'.bd.more
    by_cases hmt : w4 = false ∧ nw < w3 ∧ w2 = tok
    · obtain ⟨c1, c2, c3⟩ := hmt
      have hf : D.renew a j tok long = (⟨D.grace, nw, fun k => if k = j then ⟨w1, w2, max w3 (nw + long)⟩ else D.h k, D.g⟩, ⟨w1, w2, max w3 (nw + long)⟩, 0) := by
        unfold Dk.renew; dsimp only; rw [htk, heq]; dsimp only; rw [hx1, hadd]; dsimp only
        rw [if_neg (by simp [c1, c2, c3])]
      have hal2 : Alike ⟨D.grace, nw, fun k => if k = j then ⟨w1, w2, max w3 (nw + long)⟩ else D.h k, D.g⟩ (setT T j (⟨w1, w2, max w3 (nw + long)⟩, false)) := fun k hk => by
        unfold setT; dsimp only
        by_cases e : k = j
        · subst e; simp [hx2, c1]
        · simp only [if_neg e]; exact hR'.al k hk
      have hbd2 : Bd (setT T j (⟨w1, w2, max w3 (nw + long)⟩, false)) (i + 1) := hR'.bd.set (by dsimp only; omega) (by dsimp only; omega) (by dsimp only; omega) (by dsimp only; omega)
      subst c1
      obtain ⟨t, hgj, t1, t2, t3, t4, t5⟩ := hsome rfl
      have tA := hAt _ _ hgj
      simp (disch := omega) [-getElem?_pos, oA, hq, hQ, hgj, hnw, t5]
      refine renew_calls hR'.dD hj hw.1 hw.2 fun M3 hD3 s3 => ?_
      rw [hf] at hD3 ⊢
      obtain ⟨k1, k2, k3⟩ := tk hR'.tT s3 gM
      have oA3 := k3 _ _ bA hAr1 oA
      have t53 := k3 _ _ t1 t2 t5
      have n3 := s3.next
      simp (disch := omega) [-getElem?_pos, oA3, t53, Hd.v, Hd.cs, splice]
      have tl3 : t < M3.next := by omega
      have Al3 : A < M3.next := by omega
      have rl3 := hD3.lt
      have g4 := Mem.Grew.new M3 (.row 3 [[.int .i64 w1, .int .i64 w2, .int .i64 (max w3 (nw + long))]] true)
      have g5 := (k2.trans g4).upd t4 (some (.row 4 [[.int .i64 w1, .int .i64 w2, .int .i64 (max w3 (nw + long)), .bool false]] true))
      have hT5 : Thgs m00.next ((M3.new (.row 3 [[.int .i64 w1, .int .i64 w2, .int .i64 (max w3 (nw + long))]] true)).upd t (some (.row 4 [[.int .i64 w1, .int .i64 w2, .int .i64 (max w3 (nw + long)), .bool false]] true))) r q l g (setT T j (⟨w1, w2, max w3 (nw + long)⟩, false)) := k1.set hgj _ (by simp) (by rw [upd_obj, if_pos rfl]; rfl) fun p h1 h2 h3 => by rw [updO _ h3, newO _ (by omega)]
      have hD5 := hD3.keep (m' := (M3.new (.row 3 [[.int .i64 w1, .int .i64 w2, .int .i64 (max w3 (nw + long))]] true)).upd t (some (.row 4 [[.int .i64 w1, .int .i64 w2, .int .i64 (max w3 (nw + long)), .bool false]] true))) (by simp) (by rw [updO _ (by omega), newO _ (by omega)])
      have oA5 : ((M3.new (.row 3 [[.int .i64 w1, .int .i64 w2, .int .i64 (max w3 (nw + long))]] true)).upd t (some (.row 4 [[.int .i64 w1, .int .i64 w2, .int .i64 (max w3 (nw + long)), .bool false]] true))).obj A = _ := (updO _ tA).trans ((newO _ (by omega)).trans oA3)
      refine tail_ok (grace := gr) (v := x1') (N := N) (i := i) (now := nw) (r := r) (q := q) (A := A) (by simp) (by simp) (by simp) (by simp) (by simp) (by simp) (by simp) (by simp) oA5 ⟨by simp; omega, hAr1⟩ hT5 hD5 hal2 (htk2 _ _) rfl (by omega) fun e' M4 f0 f5 f8 f9 f59 f60 f61 hT4 hD4 s4 => ?_
      simp (disch := omega) [-getElem?_pos, f61]
      exact again_mk (i + 1, nw, l, g, _, _, M4) (by dsimp only; exact fin hT4 hD4 hal2 hbd2 (by omega) (s4.toGrew g5 (by simpa using hr))) (by dsimp only; omega) (by simp [f0, f5, f8, f9, f59, f60]) rfl
    · have hf : D.renew a j tok long = (⟨D.grace, nw, D.h, D.g⟩, hd0, 7) := by
        unfold Dk.renew; dsimp only; rw [htk, heq]; dsimp only; rw [hx1]; dsimp only
        rw [if_pos]
        cases w4
        · by_cases c : nw < w3
          · right; exact fun e => hmt ⟨rfl, c, e⟩
          · left; simp [c]
        · left; simp
      have hcl : w4 = true ∨ (w4 = false ∧ ¬ nw < w3) ∨ (w4 = false ∧ nw < w3 ∧ w2 ≠ tok) := by
        cases w4
        · right
          by_cases c : nw < w3
          · exact .inr ⟨rfl, c, fun e => hmt ⟨rfl, c, e⟩⟩
          · exact .inl ⟨rfl, c⟩
        · exact .inl rfl
      clear hmt
      rcases hcl with rfl | ⟨rfl, c1⟩ | ⟨rfl, c1, c2⟩
      case' inl =>
        rcases hgj : getI l (j : Int) with _ | v
        case' none =>
          have hw0 := hR'.tT.off j hj hgj
          rw [hTj] at hw0
          simp only [hd0, Prod.mk.injEq, Hd.mk.injEq, and_true] at hw0
          obtain ⟨e1, e2, e3⟩ := hw0
          have hT2 := hR'.tT.add hj hgj hDl hn01
          have hD2 : Desk ((M1.new (.row 4 [[.int .i64 0, .int .i64 0, .int .i64 0, .bool true]] true)).upd q (some (.map (mapI (putI l (j : Int) (.ptr (some (M1.next, 0, 0))))) (stU (mapI l) (.int .i64 (j : Int)) g)))) r D := hR'.dD.keep (by simp) (by rw [updO _ (by omega), newO _ (by omega)])
          have gM2 := (gM.trans (Mem.Grew.new M1 (.row 4 [[.int .i64 0, .int .i64 0, .int .i64 0, .bool true]] true))).upd hq1.2.2 (some (.map (mapI (putI l (j : Int) (.ptr (some (M1.next, 0, 0))))) (stU (mapI l) (.int .i64 (j : Int)) g)))
          have oA2 : ((M1.new (.row 4 [[.int .i64 0, .int .i64 0, .int .i64 0, .bool true]] true)).upd q (some (.map (mapI (putI l (j : Int) (.ptr (some (M1.next, 0, 0))))) (stU (mapI l) (.int .i64 (j : Int)) g)))).obj A = some (.row 6 [[.int .u8 kk, .int .i64 a, .int .i64 j, .int .i64 who, .int .i64 tok, .int .i64 long]] true) := by rw [updO _ hAr2, newO _ (by omega)]; exact oA
          have t5 : ((M1.new (.row 4 [[.int .i64 0, .int .i64 0, .int .i64 0, .bool true]] true)).upd q (some (.map (mapI (putI l (j : Int) (.ptr (some (M1.next, 0, 0))))) (stU (mapI l) (.int .i64 (j : Int)) g)))).obj M1.next = some (.row 4 [[.int .i64 0, .int .i64 0, .int .i64 0, .bool true]] true) := by rw [updO _ (by omega), new_obj, if_pos rfl]
          have hg2 : getI (putI l (j : Int) (.ptr (some (M1.next, 0, 0)))) (j : Int) = some (.ptr (some (M1.next, 0, 0))) := by rw [getI_put, if_pos rfl]
          have hl2 : (putI l (j : Int) (.ptr (some (M1.next, 0, 0)))).length ≤ i + 1 := by
            have := (keysI_put hR'.tT.K (j : Int) (.ptr (some (M1.next, 0, 0)))).2.1
            rw [hgj, if_pos rfl] at this; omega
          have nM : ((M1.new (.row 4 [[.int .i64 0, .int .i64 0, .int .i64 0, .bool true]] true)).upd q (some (.map (mapI (putI l (j : Int) (.ptr (some (M1.next, 0, 0))))) (stU (mapI l) (.int .i64 (j : Int)) g)))).next = M1.next + 1 := by simp
          simp (disch := omega) [-getElem?_pos, oA, hq, hQ, hgj, hnw]
          generalize htn : M1.next = t at *
          generalize hlz : putI l (j : Int) (.ptr (some (t, 0, 0))) = l2 at *
          generalize hgz : stU (mapI l) (.int .i64 (j : Int)) g = g2 at *
          generalize (M1.new (.row 4 [[.int .i64 0, .int .i64 0, .int .i64 0, .bool true]] true)).upd q (some (.map (mapI l2) g2)) = M2 at *
          have t1 : t < M2.next := by omega
          have t2 : t ≠ r := by omega
          have t3 : t ≠ q := by omega
          have t4 : m00.next ≤ t := by omega
          have tA : A ≠ t := by omega
          have bA2 : A < M2.next := by omega
          replace t5 : M2.obj t = some (.row 4 [[.int .i64 w1, .int .i64 w2, .int .i64 w3, .bool true]] true) := by rw [e1, e2, e3]; exact t5
        case' some =>
          obtain ⟨j', t, b1, b2, rfl, t1, t2, t3, t4, t5⟩ := hR'.tT.ent _ _ hgj
          obtain rfl : j = j' := by omega
          rw [hTj] at t5
          simp only [thc] at t5
          have hg2 := hgj
          simp (disch := omega) [-getElem?_pos, oA, hq, hQ, hgj, hnw, t5]
          have tA := hAt _ _ hgj
          have hT2 := hR'.tT
          have hD2 := hR'.dD
          have gM2 := gM
          have oA2 := oA
          have bA2 := bA
          have hl2 : l.length ≤ i + 1 := by omega
          obtain ⟨M2, rfl⟩ : ∃ x, x = M1 := ⟨_, rfl⟩
          obtain ⟨l2, rfl⟩ : ∃ x, x = l := ⟨_, rfl⟩
          obtain ⟨g2, rfl⟩ : ∃ x, x = g := ⟨_, rfl⟩
      case' inr.inl =>
        obtain ⟨t, hgj, t1, t2, t3, t4, t5⟩ := hsome rfl
        have hg2 := hgj
        simp (disch := omega) [-getElem?_pos, oA, hq, hQ, hgj, hnw, t5]
        have tA := hAt _ _ hgj
        have hT2 := hR'.tT
        have hD2 := hR'.dD
        have gM2 := gM
        have oA2 := oA
        have bA2 := bA
        have hl2 : l.length ≤ i + 1 := by  omega
        obtain ⟨M2, rfl⟩ : ∃ x, x = M1 := ⟨_, rfl⟩
        obtain ⟨l2, rfl⟩ : ∃ x, x = l := ⟨_, rfl⟩
        obtain ⟨g2, rfl⟩ : ∃ x, x = g := ⟨_, rfl⟩
      case' inr.inr =>
        obtain ⟨t, hgj, t1, t2, t3, t4, t5⟩ := hsome rfl
        have hg2 := hgj
        simp (disch := omega) [-getElem?_pos, oA, hq, hQ, hgj, hnw, t5]
        have tA := hAt _ _ hgj
        have hT2 := hR'.tT
        have hD2 := hR'.dD
        have gM2 := gM
        have oA2 := oA
        have bA2 := bA
        have hl2 : l.length ≤ i + 1 := by  omega
        obtain ⟨M2, rfl⟩ : ∃ x, x = M1 := ⟨_, rfl⟩
        obtain ⟨l2, rfl⟩ : ∃ x, x = l := ⟨_, rfl⟩
        obtain ⟨g2, rfl⟩ : ∃ x, x = g := ⟨_, rfl⟩
      all_goals
        refine renew_calls hD2 hj hw.1 hw.2 fun M3 hD3 s3 => ?_
        rw [hf] at hD3 ⊢
        obtain ⟨k1, k2, k3⟩ := tk hT2 s3 gM2
        have oA3 := k3 _ _ bA2 hAr1 oA2
        have t53 := k3 _ _ t1 t2 t5
        have n3 := s3.next
        simp (disch := omega) [-getElem?_pos, oA3, t53, hd0, Hd.v, Hd.cs]
        refine tail_ok (grace := gr) (v := x1') (N := N) (i := i) (now := nw) (r := r) (q := q) (A := A) (by simp) (by simp) (by simp) (by simp) (by simp) (by simp) (by simp) (by simp) (newO _ (by omega) |>.trans oA3) ⟨by simp; omega, hAr1⟩ (k1.grow (Mem.Grew.new M3 _)) (hD3.grow (Mem.Grew.new M3 _)) hal (htk2 _ _) rfl (by omega) fun e' M4 f0 f5 f8 f9 f59 f60 f61 hT4 hD4 s4 => ?_
        simp (disch := omega) [-getElem?_pos, f61]
        exact again_mk (i + 1, nw, l2, g2, T, _, M4) (by dsimp only; exact fin hT4 hD4 hal hbd (by omega) (s4.toGrew (k2.trans (Mem.Grew.new M3 _)) (by simpa using hr))) (by dsimp only; omega) (by simp [f0, f5, f8, f9, f59, f60]) rfl
  · -- it is given back
    have heq : (⟨D.grace, nw, D.h, D.g⟩ : Dk).held j = (!w4 && decide (nw < w3)) := by unfold Dk.held; dsimp only; rw [hx1, hx2]
    have hal : Alike ⟨D.grace, nw, D.h, D.g⟩ T := fun j hj => hR'.al j hj
    have hbd := hR'.bd.more
    by_cases hmt : w4 = false ∧ nw < w3 ∧ w2 = tok
    · obtain ⟨c1, c2, c3⟩ := hmt
      have hf : D.give a j tok = (⟨D.grace, nw, D.h, fun k => if k = j then true else D.g k⟩, 0) := by
        unfold Dk.give; dsimp only; rw [htk, heq]; dsimp only; rw [hx1]; dsimp only
        rw [if_neg (by simp [c1, c2, c3])]
      have hal2 : Alike ⟨D.grace, nw, D.h, fun k => if k = j then true else D.g k⟩ (setT T j (⟨w1, w2, w3⟩, true)) := fun k hk => by
        unfold setT; dsimp only
        by_cases e : k = j
        · subst e; simp [hx1]
        · simp only [if_neg e]; exact hR'.al k hk
      have hbd2 : Bd (setT T j (⟨w1, w2, w3⟩, true)) (i + 1) := hR'.bd.set (by dsimp only; omega) (by dsimp only; omega) (by dsimp only; omega) (by dsimp only; omega)
      subst c1
      obtain ⟨t, hgj, t1, t2, t3, t4, t5⟩ := hsome rfl
      have tA := hAt _ _ hgj
      simp (disch := omega) [-getElem?_pos, oA, hq, hQ, hgj, hnw, t5, splice]
      have g5 := gM.upd t4 (some (.row 4 [[.int .i64 w1, .int .i64 w2, .int .i64 w3, .bool true]] true))
      have hT5 : Thgs m00.next (M1.upd t (some (.row 4 [[.int .i64 w1, .int .i64 w2, .int .i64 w3, .bool true]] true))) r q l g (setT T j (⟨w1, w2, w3⟩, true)) := hR'.tT.set hgj _ (by simp) (by rw [upd_obj, if_pos rfl]; rfl) fun p h1 h2 h3 => by rw [updO _ h3]
      have hD5 := hR'.dD.keep (m' := M1.upd t (some (.row 4 [[.int .i64 w1, .int .i64 w2, .int .i64 w3, .bool true]] true))) (by simp) (by rw [updO _ (by omega)])
      have oA5 : (M1.upd t (some (.row 4 [[.int .i64 w1, .int .i64 w2, .int .i64 w3, .bool true]] true))).obj A = _ := (updO _ tA).trans oA
      have bA5 : A < (M1.upd t (some (.row 4 [[.int .i64 w1, .int .i64 w2, .int .i64 w3, .bool true]] true))).next := bA
      generalize M1.upd t (some (.row 4 [[.int .i64 w1, .int .i64 w2, .int .i64 w3, .bool true]] true)) = M2 at *
      refine give_calls hD5 hj fun M3 hD3 s3 => ?_
      rw [hf] at hD3 ⊢
      have oA3 : M3.obj A = _ := (s3.obj A bA5 (by simpa using hAr1)).trans oA5
      have n3 := s3.next
      simp (disch := omega) [-getElem?_pos]
      refine tail_ok (grace := gr) (v := x1') (N := N) (i := i) (now := nw) (r := r) (q := q) (A := A) (by simp) (by simp) (by simp) (by simp) (by simp) (by simp) (by simp) (by simp) oA3 ⟨by omega, hAr1⟩ (hT5.step s3) hD3 hal2 (htk2 _ _) rfl (by omega) fun e' M4 f0 f5 f8 f9 f59 f60 f61 hT4 hD4 s4 => ?_
      simp (disch := omega) [-getElem?_pos, f61]
      exact again_mk (i + 1, nw, l, g, _, _, M4) (by dsimp only; exact fin hT4 hD4 hal2 hbd2 (by omega) (s4.toGrew (s3.toGrew g5 (by simpa using hr)) (by simpa using hr))) (by dsimp only; omega) (by simp [f0, f5, f8, f9, f59, f60]) rfl
    · have hf : D.give a j tok = (⟨D.grace, nw, D.h, D.g⟩, 7) := by
        unfold Dk.give; dsimp only; rw [htk, heq]; dsimp only; rw [hx1]; dsimp only
        rw [if_pos]
        cases w4
        · by_cases c : nw < w3
          · right; exact fun e => hmt ⟨rfl, c, e⟩
          · left; simp [c]
        · left; simp
      have hcl : w4 = true ∨ (w4 = false ∧ ¬ nw < w3) ∨ (w4 = false ∧ nw < w3 ∧ w2 ≠ tok) := by
        cases w4
        · right
          by_cases c : nw < w3
          · exact .inr ⟨rfl, c, fun e => hmt ⟨rfl, c, e⟩⟩
          · exact .inl ⟨rfl, c⟩
        · exact .inl rfl
      clear hmt
      rcases hcl with rfl | ⟨rfl, c1⟩ | ⟨rfl, c1, c2⟩
      case' inl =>
        rcases hgj : getI l (j : Int) with _ | v
        case' none =>
          have hw0 := hR'.tT.off j hj hgj
          rw [hTj] at hw0
          simp only [hd0, Prod.mk.injEq, Hd.mk.injEq, and_true] at hw0
          obtain ⟨e1, e2, e3⟩ := hw0
          have hT2 := hR'.tT.add hj hgj hDl hn01
          have hD2 : Desk ((M1.new (.row 4 [[.int .i64 0, .int .i64 0, .int .i64 0, .bool true]] true)).upd q (some (.map (mapI (putI l (j : Int) (.ptr (some (M1.next, 0, 0))))) (stU (mapI l) (.int .i64 (j : Int)) g)))) r D := hR'.dD.keep (by simp) (by rw [updO _ (by omega), newO _ (by omega)])
          have gM2 := (gM.trans (Mem.Grew.new M1 (.row 4 [[.int .i64 0, .int .i64 0, .int .i64 0, .bool true]] true))).upd hq1.2.2 (some (.map (mapI (putI l (j : Int) (.ptr (some (M1.next, 0, 0))))) (stU (mapI l) (.int .i64 (j : Int)) g)))
          have oA2 : ((M1.new (.row 4 [[.int .i64 0, .int .i64 0, .int .i64 0, .bool true]] true)).upd q (some (.map (mapI (putI l (j : Int) (.ptr (some (M1.next, 0, 0))))) (stU (mapI l) (.int .i64 (j : Int)) g)))).obj A = some (.row 6 [[.int .u8 kk, .int .i64 a, .int .i64 j, .int .i64 who, .int .i64 tok, .int .i64 long]] true) := by rw [updO _ hAr2, newO _ (by omega)]; exact oA
          have t5 : ((M1.new (.row 4 [[.int .i64 0, .int .i64 0, .int .i64 0, .bool true]] true)).upd q (some (.map (mapI (putI l (j : Int) (.ptr (some (M1.next, 0, 0))))) (stU (mapI l) (.int .i64 (j : Int)) g)))).obj M1.next = some (.row 4 [[.int .i64 0, .int .i64 0, .int .i64 0, .bool true]] true) := by rw [updO _ (by omega), new_obj, if_pos rfl]
          have hg2 : getI (putI l (j : Int) (.ptr (some (M1.next, 0, 0)))) (j : Int) = some (.ptr (some (M1.next, 0, 0))) := by rw [getI_put, if_pos rfl]
          have hl2 : (putI l (j : Int) (.ptr (some (M1.next, 0, 0)))).length ≤ i + 1 := by
            have := (keysI_put hR'.tT.K (j : Int) (.ptr (some (M1.next, 0, 0)))).2.1
            rw [hgj, if_pos rfl] at this; omega
          have nM : ((M1.new (.row 4 [[.int .i64 0, .int .i64 0, .int .i64 0, .bool true]] true)).upd q (some (.map (mapI (putI l (j : Int) (.ptr (some (M1.next, 0, 0))))) (stU (mapI l) (.int .i64 (j : Int)) g)))).next = M1.next + 1 := by simp
          simp (disch := omega) [-getElem?_pos, oA, hq, hQ, hgj, hnw]
          generalize htn : M1.next = t at *
          generalize hlz : putI l (j : Int) (.ptr (some (t, 0, 0))) = l2 at *
          generalize hgz : stU (mapI l) (.int .i64 (j : Int)) g = g2 at *
          generalize (M1.new (.row 4 [[.int .i64 0, .int .i64 0, .int .i64 0, .bool true]] true)).upd q (some (.map (mapI l2) g2)) = M2 at *
          have t1 : t < M2.next := by omega
          have t2 : t ≠ r := by omega
          have t3 : t ≠ q := by omega
          have t4 : m00.next ≤ t := by omega
          have tA : A ≠ t := by omega
          have bA2 : A < M2.next := by omega
          replace t5 : M2.obj t = some (.row 4 [[.int .i64 w1, .int .i64 w2, .int .i64 w3, .bool true]] true) := by rw [e1, e2, e3]; exact t5
        case' some =>
          obtain ⟨j', t, b1, b2, rfl, t1, t2, t3, t4, t5⟩ := hR'.tT.ent _ _ hgj
          obtain rfl : j = j' := by omega
          rw [hTj] at t5
          simp only [thc] at t5
          have hg2 := hgj
          simp (disch := omega) [-getElem?_pos, oA, hq, hQ, hgj, hnw, t5]
          have tA := hAt _ _ hgj
          have hT2 := hR'.tT
          have hD2 := hR'.dD
          have gM2 := gM
          have oA2 := oA
          have bA2 := bA
          have hl2 : l.length ≤ i + 1 := by omega
          obtain ⟨M2, rfl⟩ : ∃ x, x = M1 := ⟨_, rfl⟩
          obtain ⟨l2, rfl⟩ : ∃ x, x = l := ⟨_, rfl⟩
          obtain ⟨g2, rfl⟩ : ∃ x, x = g := ⟨_, rfl⟩
      case' inr.inl =>
        obtain ⟨t, hgj, t1, t2, t3, t4, t5⟩ := hsome rfl
        have hg2 := hgj
        simp (disch := omega) [-getElem?_pos, oA, hq, hQ, hgj, hnw, t5]
        have tA := hAt _ _ hgj
        have hT2 := hR'.tT
        have hD2 := hR'.dD
        have gM2 := gM
        have oA2 := oA
        have bA2 := bA
        have hl2 : l.length ≤ i + 1 := by  omega
        obtain ⟨M2, rfl⟩ : ∃ x, x = M1 := ⟨_, rfl⟩
        obtain ⟨l2, rfl⟩ : ∃ x, x = l := ⟨_, rfl⟩
        obtain ⟨g2, rfl⟩ : ∃ x, x = g := ⟨_, rfl⟩
      case' inr.inr =>
        obtain ⟨t, hgj, t1, t2, t3, t4, t5⟩ := hsome rfl
        have hg2 := hgj
        simp (disch := omega) [-getElem?_pos, oA, hq, hQ, hgj, hnw, t5]
        have tA := hAt _ _ hgj
        have hT2 := hR'.tT
        have hD2 := hR'.dD
        have gM2 := gM
        have oA2 := oA
        have bA2 := bA
        have hl2 : l.length ≤ i + 1 := by  omega
        obtain ⟨M2, rfl⟩ : ∃ x, x = M1 := ⟨_, rfl⟩
        obtain ⟨l2, rfl⟩ : ∃ x, x = l := ⟨_, rfl⟩
        obtain ⟨g2, rfl⟩ : ∃ x, x = g := ⟨_, rfl⟩
      all_goals
        refine give_calls hD2 hj fun M3 hD3 s3 => ?_
        rw [hf] at hD3 ⊢
        obtain ⟨k1, k2, k3⟩ := tk hT2 s3 gM2
        have oA3 := k3 _ _ bA2 hAr1 oA2
        have n3 := s3.next
        simp (disch := omega) [-getElem?_pos]
        refine tail_ok (grace := gr) (v := x1') (N := N) (i := i) (now := nw) (r := r) (q := q) (A := A) (by simp) (by simp) (by simp) (by simp) (by simp) (by simp) (by simp) (by simp) oA3 ⟨by omega, hAr1⟩ k1 hD3 hal (htk2 _ _) rfl (by omega) fun e' M4 f0 f5 f8 f9 f59 f60 f61 hT4 hD4 s4 => ?_
        simp (disch := omega) [-getElem?_pos, f61]
        exact again_mk (i + 1, nw, l2, g2, T, _, M4) (by dsimp only; exact fin hT4 hD4 hal hbd (by omega) (s4.toGrew k2 (by simpa using hr))) (by dsimp only; omega) (by simp [f0, f5, f8, f9, f59, f60]) rfl
end Go.Proofs.Ytdblhiebjccbaaa
