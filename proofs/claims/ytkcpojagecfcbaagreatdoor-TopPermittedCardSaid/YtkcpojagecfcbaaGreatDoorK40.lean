/-
  WHAT FIRES IS PERMITTED: the law.
-/
import Derived.Test.YtkcpojagecfcbaaGreatDoorK39
namespace Go.Proofs.YtkcpojagecfcbaaGreatDoor
open Go Go.AM
set_option linter.unusedVariables false
set_option linter.unusedSimpArgs false
set_option maxRecDepth 60000
set_option maxHeartbeats 16000000
theorem ts_all {E : Eng} {t : Tmr} : t ∈ E.ts ↔ ∃ i, (t, i) ∈ E.all := by
  unfold Eng.ts
  rw [List.mem_map]
  exact ⟨fun ⟨x, hx, e⟩ => ⟨x.2, by rw [← e]; exact hx⟩, fun ⟨i, hi⟩ => ⟨_, hi, rfl⟩⟩
theorem Inv.tsNo {lo hi : Int} {E : Eng} (h : Inv lo hi E) {id : Int} (hg : getN E.wh id = none) : ∀ u ∈ E.ts, u.id ≠ id := fun u hu => by
  obtain ⟨i, hi⟩ := ts_all.1 hu
  exact h.noId hg hi
theorem Inv.tsCk {lo hi : Int} {E : Eng} (h : Inv lo hi E) {t : Tmr} (ht : t ∈ E.ts) : t.ck = 0 ∨ t.ck = 1 ∨ t.ck = 2 := by
  obtain ⟨i, hi⟩ := ts_all.1 ht
  obtain ⟨hi0, j, hj, q⟩ := all_mem.1 hi
  have := (h.pl i hi0 j hj t q).1
  omega
/-- The map is turned, and all else is as it was. -/
structure WStep (M M' : Mem) (w : Nat) (lm : List (Int × V)) (g : List Nat × Nat) : Prop where
  next : M.next ≤ M'.next
  obj : ∀ q, q < M.next → q ≠ w → M'.obj q = M.obj q
  at' : M'.obj w = some (.map (mapI lm) g)
theorem WStep.refl {M : Mem} {w : Nat} {lm : List (Int × V)} {g : List Nat × Nat} (h : M.obj w = some (.map (mapI lm) g)) : WStep M M w lm g := ⟨Nat.le_refl _, fun _ _ _ => rfl, h⟩
theorem WStep.new (M : Mem) (o : AM.Obj) (w : Nat) (lm : List (Int × V)) (g : List Nat × Nat) : WStep M ((M.new o).upd w (some (.map (mapI lm) g))) w lm g :=
  ⟨by simp, fun q hq hne => (updO _ hne).trans ((Mem.Grew.new M o).obj q hq), by simp⟩
theorem permitted_law (m0 : Mem) (x0 x1' x2' : V) (h0 : IsV m0 (.int .u8) x0) (h1 : IsV m0 (.int .u8) x1') (h2 : IsV m0 shT x2') : ACalls Tryz.prog 3 [x0, x1', x2'] m0 (fun r _ => r = .bool true) := by
  obtain ⟨c, rfl, hwc⟩ := h0.int
  obtain ⟨ls, rfl, hwl⟩ := h1.int
  replace hwc := wf_u8' hwc
  replace hwl := wf_u8' hwl
  refine run_on xP hm c3 (by simp) fun hf => ?_
  obtain ⟨es, hv, hml, hes⟩ := h2.slR hf
  obtain ⟨l, rfl⟩ := stqs_of hes
  simp (disch := omega) [-getElem?_pos, b3]
  refine run7 fun m00 g00 => ?_
  have hv1 := hv.lenSl
  rw [List.length_map] at hv1
  by_cases hl : (150 : Int) < l.length
  · simp (disch := omega) [-getElem?_pos, hv1]
  obtain ⟨n, hn, hn1, hn16⟩ : ∃ n : Nat, 1 + c.tmod 16 = (n : Int) ∧ 1 ≤ n ∧ n ≤ 16 := ⟨(1 + c.tmod 16).toNat, by rw [Int.tmod_eq_emod_of_nonneg hwc.1]; omega, by rw [Int.tmod_eq_emod_of_nonneg hwc.1]; omega, by rw [Int.tmod_eq_emod_of_nonneg hwc.1]; omega⟩
  have hc16 : 0 ≤ c.tmod 16 ∧ c.tmod 16 < 16 := by rw [Int.tmod_eq_emod_of_nonneg hwc.1]; omega
  simp (disch := omega) [-getElem?_pos, hv1]
  rw [hn]
  refine new8 (n := n) (lo := ls) (hi := ls + 1 + c) hn1 hn16 (by omega) (by omega) (by omega) (by omega) fun a M1 g1 e1 f1 => ?_
  have i1 : Inv ls (ls + 1 + c) (Eng.new n ls (ls + 1 + c)) := inv_new hn1 hn16
  have n00 := g00.next
  have f1' : ∀ p ∈ a.all n, m0.next ≤ p := fun p hp => by have := f1 p hp; omega
  have lt1 := e1.lts
  obtain ⟨MB, hMB⟩ : ∃ MB, (M1.new (pO Clk.new)).new (.map [] ([], 0)) = MB := ⟨_, rfl⟩
  have gB : M1.Grew MB := hMB ▸ (Mem.Grew.new _ _).trans (Mem.Grew.new _ _)
  have oP : MB.obj M1.next = some (pO Clk.new) := by rw [← hMB]; simp
  have oW : MB.obj (M1.next + 1) = some (.map (mapI []) ([], 0)) := by rw [← hMB]; simp [mapI]
  have nB : MB.next = M1.next + 1 + 1 := by rw [← hMB]; simp
  have n1 := g1.next
  simp (disch := omega) [-getElem?_pos, hv1, splice]
  unfold pO at hMB
  simp only [Clk.new] at hMB
  rw [hMB]
  have pn : M1.next ∉ a.all n := fun q => by have := lt1 _ q; omega
  have wn : M1.next + 1 ∉ a.all n := fun q => by have := lt1 _ q; omega
  have e1 := e1.grow gB
  have gM1 : m0.Grew MB := (g00.trans g1).trans gB
  have pge : m0.next ≤ M1.next := by omega
  clear lt1
  generalize M1.next = p at *
  refine exec_loopU (σ := Nat × Eng × List (Int × V) × (List Nat × Nat) × Mem) (fun (j, _, _, _, _) => [(45, .int .i64 j), (44, .int .i64 l.length), (43, x2'), (9, .map (some (p + 1))), (8, .ptr (some (p, 0, 0))), (7, .ptr (some (a.e, 0, 0)))]) (fun (_, _, _, _, M) => M)
    (fun (j, E, lm, g, M) => j ≤ l.length ∧ EngR M a E ∧ Inv ls (ls + 1 + c) E ∧ E.n = n ∧ m0.Grew M ∧ p + 1 < M.next ∧ M.obj p = some (pO E.C) ∧ M.obj (p + 1) = some (.map (mapI lm) g) ∧ Ther lm E.ts) (fun (j, _, _, _, _) => l.length - j)
    (0, Eng.new n ls (ls + 1 + c), [], ([], 0), MB) rfl ⟨by omega, e1, i1, rfl, gM1, by omega, oP, oW, ?_⟩ (by simp) ?_
  · have : (Eng.new n ls (ls + 1 + c)).ts = [] := by
      have h := i1.count
      have h0 : (Eng.new n ls (ls + 1 + c)).wh.length = 0 := rfl
      unfold Eng.ts
      rw [List.map_eq_nil_iff, ← List.length_eq_zero_iff]
      omega
    show Ther [] (Eng.new n ls (ls + 1 + c)).ts
    rw [this]
    exact ⟨List.nodup_nil, List.nodup_nil, fun t ht => (by cases ht), fun _ _ => rfl, rfl⟩
  clear e1 i1 f1 g1 gB oP oW hMB gM1
  intro (j, E, lm, g, M) ⟨a1, a2, a3, a4, a5, a6, a7, a8, a9⟩
  by_cases hj : j < l.length
  case neg =>
    obtain rfl : j = l.length := by omega
    simp (disch := omega) [-getElem?_pos]
    refine elen12 a2 ?_
    have hlm := a9.len
    have hts : E.ts.length = E.wh.length := by unfold Eng.ts; rw [List.length_map, a3.count]
    have hmi : (mapI lm).length = E.wh.length := by unfold mapI; rw [List.length_map, hlm, hts]
    simp (disch := omega) [-getElem?_pos, a8, hmi, hlm, hts]
  have hvM := hv.grow a5
  obtain ⟨pp, q, full, rw', d1, d2, d3, d4, _⟩ := hvM.at (i := j) (x := (l[j]).cs) (by simp [hj]) .i64
  obtain ⟨s, hs⟩ : ∃ s, l[j] = s := ⟨_, rfl⟩
  rw [hs] at d4
  obtain ⟨M2, hM2⟩ : ∃ M2, M.new (.row 8 [s.cs] true) = M2 := ⟨_, rfl⟩
  have g2 : M.Grew M2 := hM2 ▸ Mem.Grew.new _ _
  have oS : M2.obj M.next = some (.row 8 [s.cs] true) := by rw [← hM2]; simp
  have hn2 : M2.next = M.next + 1 := by rw [← hM2]; simp
  have lta := a2.lts
  rw [a4] at lta
  have hdo := fun {K1 : KV} => do9 (K := K1) (a2.grow g2) a3 (s := s)
  have hpl := fun {m C p} (hC : CkOk C) (ho : m.obj p = some (pO C)) {K : KV} => plain10 (m := m) hC ho (s := s) (K := K)
  unfold Stq.cs at d4 hM2 oS hdo hpl
  simp (disch := omega) [-getElem?_pos, d1, d2, d3, d4, splice, hM2, oS]
  refine hdo fun E' F x hd v2 M3 x1 x2 x3 => ?_
  clear hdo
  rw [a4] at x2
  obtain ⟨i3, f3⟩ := hd.inv a3
  have en : E'.n = n := f3.n.trans a4
  have hF := f3.len a3
  have lt3 := x1.lts
  rw [en] at lt3
  obtain ⟨L, G, ⟨hFL, hdue⟩, hperm, hG⟩ := f3.fr
  have hlen := x3.sl.lenSl
  rw [List.length_map] at hlen
  have n3 := x2.next
  have oS3 := (x2.obj M.next (by omega) (fun q => by have := lta _ q; omega)).trans oS
  have oP3 := (x2.obj p (by omega) pn).trans ((g2.obj p (by omega)).trans a7)
  have oW3 := (x2.obj (p + 1) (by omega) wn).trans ((g2.obj (p + 1) (by omega)).trans a8)
  simp (disch := omega) [-getElem?_pos, oS3]
  refine hpl a3.ck oP3 fun M4 hO => ?_
  clear hpl
  rw [← f3.ck] at hO
  have n4 := hO.next
  have oS4 := (hO.obj M.next (by omega) (by omega)).trans oS3
  have oW4 := (hO.obj (p + 1) (by omega) (by omega)).trans oW3
  have oP4 := hO.at'
  have e4 : EngR M4 a E' := x1.keep n4 fun q hq => hO.obj q (lt3 q (by rw [← en]; exact hq)) fun e => pn (by rw [← e, ← en]; exact hq)
  have gM4 : m0.Grew M4 := ⟨by have := a5.next; omega, fun q hq => (hO.obj q (by have := a5.next; omega) (by omega)).trans ((x2.toGrew (a5.trans g2) f1').obj q hq)⟩
  have hgt : ∀ u, lm.length = u → lm.length = u := fun _ q => q
  have w4 : p + 1 < M4.next := by omega
  have ckL : s.kind ≠ 1 → ∀ y ∈ L, y.1.ck = 0 ∨ y.1.ck = 1 ∨ y.1.ck = 2 := fun k1 y hy => by
    rw [if_neg fun q => k1 q.1] at hperm
    exact a3.tsCk (hperm.mem_iff.2 (List.mem_append.2 (.inl (List.mem_map.2 ⟨y, hy, rfl⟩))))
  have L1 : s.kind = 1 → L = [] := fun k1 => by
    have := (do_start hd k1).2.1
    rw [this] at hFL
    exact List.map_eq_nil_iff.1 hFL.symm
  have k12 : s.kind = 1 ∧ x = 0 ∨ s.kind = 1 ∧ x ≠ 0 ∨ s.kind = 2 ∧ x = 0 ∨ s.kind = 2 ∧ x ≠ 0 ∨ (s.kind ≠ 1 ∧ s.kind ≠ 2) := by omega
  have idle : ∀ {lm' : List (Int × V)} {T : List Tmr}, Ther lm' T → T = [] ++ T ∧ Ther lm' T := fun h => ⟨rfl, h⟩
  rcases k12 with ⟨k1, k2⟩ | ⟨k1, k2⟩ | ⟨k1, k2⟩ | ⟨k1, k2⟩ | ⟨k1, k2⟩
  case' pos.inl =>
    rw [k1] at oS4
    rw [if_pos ⟨k1, k2⟩] at hperm
    rw [if_neg (by omega)] at hG
    have hno := a3.tsNo (f3.c1 k1 k2)
    have hget := a9.no s.t.id hno
    have hT : Ther (putI lm s.t.id (.agg s.t.cs)) (L.map (·.1) ++ E'.ts) := (a9.put hno).perm (by rw [hG] at hperm; exact hperm)
    have ckL : ∀ y ∈ L, y.1.ck = 0 ∨ y.1.ck = 1 ∨ y.1.ck = 2 := fun y hy => by rw [L1 k1] at hy; cases hy
    obtain ⟨lm', hlm⟩ : ∃ lm', putI lm s.t.id (.agg s.t.cs) = lm' := ⟨_, rfl⟩
    have hw := WStep.new M4 (.row 5 [Tmr.zero.cs] true) (p + 1) lm' (stU (mapI lm) (.int .i64 s.t.id) g)
    rw [hlm] at hT
    unfold Tmr.cs at hlm
    unfold Tmr.cs Tmr.zero at hw
    simp (disch := omega) [-getElem?_pos, oS4, oW4, k2, hget, splice, hlen, hlm]
    generalize (M4.new (.row 5 [[.int .i64 0, .int .i64 0, .int .i64 0, .int .i64 0, .bool false]] true)).upd (p + 1) _ = M5 at *
    generalize stU (mapI lm) (.int .i64 s.t.id) g = g' at *
    clear hget hlm hno
  case' pos.inr.inl =>
    rw [k1] at oS4
    rw [if_neg (by omega)] at hperm
    rw [if_neg (by omega)] at hG
    have hT : Ther lm (L.map (·.1) ++ E'.ts) := a9.perm (by rw [hG] at hperm; exact hperm)
    have ckL : ∀ y ∈ L, y.1.ck = 0 ∨ y.1.ck = 1 ∨ y.1.ck = 2 := fun y hy => by rw [L1 k1] at hy; cases hy
    have hw := WStep.refl oW4
    simp (disch := omega) [-getElem?_pos, oS4, oW4, k2, splice, hlen]
  case' pos.inr.inr.inl =>
    rw [k1] at oS4
    rw [if_neg (by omega)] at hperm
    rw [if_pos ⟨k1, k2⟩] at hG
    obtain ⟨t, rfl, et⟩ := hG
    have hT0 : Ther lm (t :: (L.map (·.1) ++ E'.ts)) := a9.perm (hperm.trans List.perm_middle)
    have hget := hT0.get t (by simp)
    have hT := hT0.del
    rw [et] at hget hT
    have ckL := ckL (by omega)
    obtain ⟨lm', hlm⟩ : ∃ lm', delI lm s.n = lm' := ⟨_, rfl⟩
    have hw := WStep.new M4 (.row 5 [t.cs] true) (p + 1) lm' (stD (mapI lm) (.int .i64 s.n) g)
    rw [hlm] at hT
    unfold Tmr.cs at hget hw
    simp (disch := omega) [-getElem?_pos, oS4, oW4, k2, hget, splice, hlen, hlm]
    generalize (M4.new (.row 5 [[.int .i64 t.id, .int .i64 t.ck, .int .i64 t.soft, .int .i64 t.hard, .bool t.lazy]] true)).upd (p + 1) _ = M5 at *
    generalize stD (mapI lm) (.int .i64 s.n) g = g' at *
    clear hget hlm hT0 et
  case' pos.inr.inr.inr.inl =>
    rw [k1] at oS4
    rw [if_neg (by omega)] at hperm
    rw [if_neg (by omega)] at hG
    have hno : getN E.wh s.n = none := by
      have := f3.c2 k1
      cases hg : getN E.wh s.n with
      | none => rfl
      | some i => rw [hg] at this; exact absurd (this.2 rfl) k2
    have hno := a3.tsNo hno
    have hget := a9.no s.n hno
    have hT : Ther (delI lm s.n) (L.map (·.1) ++ E'.ts) := (a9.delNo hno).perm (by rw [hG] at hperm; exact hperm)
    have ckL := ckL (by omega)
    obtain ⟨lm', hlm⟩ : ∃ lm', delI lm s.n = lm' := ⟨_, rfl⟩
    have hw := WStep.new M4 (.row 5 [Tmr.zero.cs] true) (p + 1) lm' (stD (mapI lm) (.int .i64 s.n) g)
    rw [hlm] at hT
    unfold Tmr.cs Tmr.zero at hw
    simp (disch := omega) [-getElem?_pos, oS4, oW4, k2, hget, splice, hlen, hlm]
    generalize (M4.new (.row 5 [[.int .i64 0, .int .i64 0, .int .i64 0, .int .i64 0, .bool false]] true)).upd (p + 1) _ = M5 at *
    generalize stD (mapI lm) (.int .i64 s.n) g = g' at *
    clear hget hlm hno
  case' pos.inr.inr.inr.inr =>
    rw [if_neg (by omega)] at hperm
    rw [if_neg (by omega)] at hG
    have hT : Ther lm (L.map (·.1) ++ E'.ts) := a9.perm (by rw [hG] at hperm; exact hperm)
    have ckL := ckL (by omega)
    have hw := WStep.refl oW4
    simp (disch := omega) [-getElem?_pos, oS4, oW4, k1, k2, splice, hlen]
  all_goals
    obtain ⟨w1, w2, w3⟩ := hw
    have rg := i3.ck.rng
    have lF : F.length = L.length := by rw [hFL, List.length_map]
    refine exec_loopU (σ := Nat × List (Int × V) × (List Nat × Nat) × Mem) (fun (k, _, _, _) => [(101, .int .i64 k), (100, .int .i64 F.length), (99, v2), (45, .int .i64 j), (44, .int .i64 l.length), (43, x2'), (9, .map (some (p + 1))), (8, .ptr (some (p, 0, 0))), (7, .ptr (some (a.e, 0, 0)))]) (fun (_, _, _, M) => M)
      (fun (k, lm, g, M) => k ≤ L.length ∧ M4.next ≤ M.next ∧ (∀ q, q < M4.next → q ≠ p + 1 → M.obj q = M4.obj q) ∧ M.obj (p + 1) = some (.map (mapI lm) g) ∧ Ther lm ((L.drop k).map (·.1) ++ E'.ts)) (fun (k, _, _, _) => L.length - k)
      (0, _, _, _) rfl ⟨by omega, w1, w2, w3, hT⟩ (by simp) ?_
    clear w1 w2 w3 hT
    intro (k, lm, g, M6) ⟨b1, b2, b3, b4, b5⟩
    have oP6 := (b3 p (by omega) (by omega)).trans oP4
    by_cases hk : k < L.length
    · obtain ⟨y, hy⟩ : ∃ y, L[k] = y := ⟨_, rfl⟩
      have hym : y ∈ L := hy ▸ List.getElem_mem hk
      have hd := hdue y hym
      have hck := ckL y hym
      obtain ⟨t, i⟩ := y
      have hs6 : Sl M6 5 v2 (F.map Frd.cs) := x3.sl.keep (by omega) fun q hq ha => by
        have := (x3.addr_lt ha).1
        exact (b3 q (by omega) (by omega)).trans (hO.obj q hq (by omega))
      obtain ⟨pp, q, full, rw', d1, d2, d3, d4, _⟩ := hs6.at (i := k) (x := (frdOf E'.C i t).cs) (by rw [hFL]; simp [hk, hy]) .i64
      have eD : L.drop k = (t, i) :: L.drop (k + 1) := by rw [List.drop_eq_getElem_cons hk, hy]
      rw [eD, List.map_cons, List.cons_append] at b5
      have hget := b5.get t (by simp)
      have hT := b5.del
      unfold isDue at hd
      simp only [Bool.and_eq_true, decide_eq_true_eq] at hd
      obtain ⟨hd1, hd2⟩ := hd
      have e0 : E'.C.tm 0 = E'.C.mono := Int.add_zero _
      have rdr : ∀ z, t.ck = z → -1152921504606846976 ≤ E'.C.tm z.toNat ∧ E'.C.tm z.toNat ≤ 3458764513820540928 := fun z hz => by
        rw [← hz]
        rcases hck with e | e | e
        · rw [e]; show _ ≤ E'.C.tm 0 ∧ E'.C.tm 0 ≤ _; rw [e0]; omega
        · rw [e]; show _ ≤ E'.C.mono + E'.C.o1 ∧ E'.C.mono + E'.C.o1 ≤ _; omega
        · rw [e]; show _ ≤ E'.C.mono + E'.C.o2 ∧ E'.C.mono + E'.C.o2 ≤ _; omega
      have rdc := rdr t.ck rfl
      rw [cl_id (t := E'.C.tm t.ck.toNat) (by omega) (by omega)] at hd2
      obtain ⟨M7, hM7⟩ : ∃ M7, (M6.new (.row 5 [(frdOf E'.C i t).cs] true)).new (.row 5 [t.cs] true) = M7 := ⟨_, rfl⟩
      have g7 : M6.Grew M7 := hM7 ▸ (Mem.Grew.new _ _).trans (Mem.Grew.new _ _)
      have o19 : M7.obj M6.next = some (.row 5 [(frdOf E'.C i t).cs] true) := by rw [← hM7]; simp
      have o20 : M7.obj (M6.next + 1) = some (.row 5 [t.cs] true) := by rw [← hM7]; simp
      have n7 : M7.next = M6.next + 1 + 1 := by rw [← hM7]; simp
      have oP7 := (g7.obj p (by omega)).trans oP6
      have oW7 := (g7.obj (p + 1) (by omega)).trans b4
      unfold pO at oP7
      unfold Frd.cs frdOf at d4 hM7 o19
      unfold Tmr.cs at hget hM7 o20
      simp only [e0] at d4 hM7 o19
      simp (disch := omega) [-getElem?_pos, d1, d2, d3, d4, splice, b4, hget, hM7]
      refine drawT_one ⟨((((((((((Env.none.put (some 159) (V.bool false)).put (some 101) (V.int .i64 k)).put (some 100) (V.int .i64 F.length)).put (some 99) v2).put (some 45) (V.int .i64 j)).put (some 44) (V.int .i64 l.length)).put (some 43) x2').put (some 19) (V.ptr (some (M6.next, 0, 0)))).put (some 9) (V.map (some (p + 1)))).put (some 8) (V.ptr (some (p, 0, 0)))).put (some 7) (V.ptr (some (a.e, 0, 0))), M7, ?_, ?_⟩
      · rcases hck with e | e | e
        · rw [e] at o19 o20 hd2
          have hd2 : cl t.soft ≤ E'.C.mono := by rw [← e0]; exact hd2
          have o19 : M7.obj M6.next = some (.row 5 [[.int .i64 t.id, .int .i64 0, .int .i64 i, .int .i64 E'.C.mono, .int .i64 E'.C.mono]] true) := by rw [o19]; simp [e0]
          simp (disch := omega) [-getElem?_pos, o19, o20, oP7, F11]
        · rw [e] at o19 o20 hd2
          have hd2 : cl t.soft ≤ E'.C.mono + E'.C.o1 := hd2
          have o19 : M7.obj M6.next = some (.row 5 [[.int .i64 t.id, .int .i64 1, .int .i64 i, .int .i64 E'.C.mono, .int .i64 (E'.C.mono + E'.C.o1)]] true) := o19
          simp (disch := omega) [-getElem?_pos, o19, o20, oP7, F11]
        · rw [e] at o19 o20 hd2
          have hd2 : cl t.soft ≤ E'.C.mono + E'.C.o2 := hd2
          have o19 : M7.obj M6.next = some (.row 5 [[.int .i64 t.id, .int .i64 2, .int .i64 i, .int .i64 E'.C.mono, .int .i64 (E'.C.mono + E'.C.o2)]] true) := o19
          simp (disch := omega) [-getElem?_pos, o19, o20, oP7, F11]
      · simp (disch := omega) [-getElem?_pos, o19, oW7]
        exact again_mk (k + 1, delI lm t.id, _, _) ⟨by omega, by show M4.next ≤ M7.next; omega, fun q hq hne => (updO _ hne).trans ((g7.obj q (by omega)).trans (b3 q hq hne)), by simp; rfl, hT⟩ (by dsimp only; omega) (by simp) rfl
    · obtain rfl : k = L.length := by omega
      rw [List.drop_length, List.map_nil, List.nil_append] at b5
      simp (disch := omega) [-getElem?_pos, lF]
      have n4' := gM4.next
      exact again_mk (j + 1, E', lm, g, M6) ⟨by omega, e4.keep b2 fun q hq => b3 q (e4.lts q hq) fun e => wn (by rw [← e, ← en]; exact hq), i3, en, ⟨by show m0.next ≤ M6.next; omega, fun q hq => (b3 q (by omega) (by omega)).trans (gM4.obj q hq)⟩, by show p + 1 < M6.next; omega, oP6, b4, b5⟩ (by dsimp only; omega) (by simp) rfl
end Go.Proofs.YtkcpojagecfcbaaGreatDoor
