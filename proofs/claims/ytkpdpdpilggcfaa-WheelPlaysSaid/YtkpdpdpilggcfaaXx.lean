/-
  WHAT A WHEEL's functions do: Put, Drop, Next.
-/
import Derived.Test.YtkpdpdpilggcfaaVx
namespace Go.Proofs.Ytkpdpdpilggcfaa
open Go Go.AM
set_option linter.unusedVariables false
set_option linter.unusedSimpArgs false
set_option maxRecDepth 60000
set_option maxHeartbeats 4000000

/-! ### Put -/
inductive PutR (R : List It) (n : Nat) (id z : Int) : List It → Int → Prop
  | range (h : z < 1 ∨ 65535 < z) : PutR R n id z R 6
  | busy (h : 1 ≤ z ∧ z ≤ 65535) (h1 : ∃ x ∈ R, x.1 = id) : PutR R n id z R 9
  | full (h : 1 ≤ z ∧ z ≤ 65535) (h1 : ¬ ∃ x ∈ R, x.1 = id) (h2 : 1024 ≤ R.length) : PutR R n id z R 3
  | ok (h : 1 ≤ z ∧ z ≤ 65535) (h1 : ¬ ∃ x ∈ R, x.1 = id) (h2 : R.length < 1024) (d s : Nat) (hd : (d : Int) = n + z) : PutR R n id z (R ++ [(id, d, s)]) 0

theorem put_nil {id z : Int} {m : Mem} {K : KV} (h : K (.int .i64 1) m) : ACalls Try.prog 8 [.ptr none, .int .i64 id, .int .i64 z] m K := by
  refine run_on (ctx_nil _) hm c8 (by simp) fun hf => ?_
  simp (disch := omega) [-getElem?_pos, b8]
  exact h
theorem put_calls {c : Nat} {m : Mem} {D : List Nat} {r n : Nat} {R : List It} (hW : Whl c m D r n R) (hc : c < 1152921504606846976) {id z : Int} {K : KV}
    (h : ∀ m' D' R' e, PutR R n id z R' e → Whl (c + 1) m' D' r n R' → Stp m m' D D' → K (.int .i64 e) m') : ACalls Try.prog 8 [.ptr (some (r, 0, 0)), .int .i64 id, .int .i64 z] m K := by
  have hb := hW.bn
  have hRl := hW.len
  have hdue := hW.due
  have hups := hW.up
  have hids := hW.ids
  have hW1 : Whl (c + 1) m D r n R := by
    obtain ⟨q, sq, v, S, l, g, h1, hL, hF, hsq, hsq2, h2⟩ := hW.ex
    exact ⟨hups, hdue, hids, hRl, hb, q, sq, v, S, l, g, h1, hL, hF, hsq, by omega, h2⟩
  obtain ⟨q, sq, v, S, l, g, rfl, hL, hF, hsq, hsq2, hDu, hG⟩ := hW.ex
  refine run_on (ctx_nil _) hm c8 (by simp) fun hf => ?_
  obtain ⟨cs, o1, o2⟩ := hL.row
  have e0 := o2.c0
  have e1 := o2.c1
  have em := o2.cm
  have el := o2.len
  have hmp := hL.mp
  have hlen := hDu.len
  by_cases h1 : z < 1
  · simp (disch := omega) [-getElem?_pos, b8]
    exact h _ _ _ _ (.range (.inl h1)) hW1 (Stp.refl _ _)
  by_cases h2 : 65535 < z
  · simp (disch := omega) [-getElem?_pos, b8]
    exact h _ _ _ _ (.range (.inr h2)) hW1 (Stp.refl _ _)
  by_cases h3 : ∃ x ∈ R, x.1 = id
  · obtain ⟨x, hx, rfl⟩ := h3
    have hg := hDu.get x hx
    simp (disch := omega) [-getElem?_pos, b8, o1, em, el, hmp, findM_mapI, hg]
    exact h _ _ _ _ (.busy ⟨by omega, by omega⟩ ⟨x, hx, rfl⟩) hW1 (Stp.refl _ _)
  have hg := hDu.non id fun x hx e => h3 ⟨x, hx, e⟩
  by_cases h4 : 1024 ≤ R.length
  · simp (disch := omega) [-getElem?_pos, b8, o1, em, el, hmp, findM_mapI, hg, mapI_length, hlen]
    exact h _ _ _ _ (.full ⟨by omega, by omega⟩ h3 h4) hW1 (Stp.refl _ _)
  have hrq := hL.rq
  obtain ⟨sq', hs'⟩ : ∃ sq', sq + 1 = sq' := ⟨_, rfl⟩
  have hsi : (sq : Int) + 1 = (sq' : Int) := by omega
  obtain ⟨d, hd⟩ : ∃ d : Nat, (n : Int) + z = d := ⟨((n : Int) + z).toNat, by omega⟩
  have hcn := o2.seq sq'
  have e0' := hcn.c0
  have e1' := hcn.c1
  have em' := hcn.cm
  have el' := hcn.len
  have hL1 := hL.setRow hcn
  obtain ⟨hL2, hS2⟩ := hL1.setMap (putI l id (.int .i64 d)) (stU (mapI l) (.int .i64 id) g)
  have hS1 : Stp m (m.upd r (some (.row 67 [cs.set 1 (.int .i64 sq')] true))) (fpW r q v) (fpW r q v) := Stp.upd _ (mem_fpW.2 (.inl rfl)) _
  replace hS2 := hS1.trans hS2
  generalize hcs : cs.set 1 (.int .i64 sq') = cs2 at *
  simp (disch := omega) [-getElem?_pos, b8, o1, e1, em, el, hmp, findM_mapI, hg, mapI_length, hlen, hsi, spl, hcs, e0', e1', em', el', hd, setM_mapI]
  have hxn : (id, d, sq') ∉ R := fun hx => h3 ⟨_, hx, rfl⟩
  refine lay_calls (x := (id, d, sq')) hL2 (by omega) (by dsimp only; omega) (fun s hs => by have := hF.len (fun x s h => h.1) hs; omega) fun m' u w1 w2 => ?_
  simp (disch := omega) [-getElem?_pos]
  refine h m' _ (R ++ [(id, d, sq')]) 0 (.ok ⟨by omega, by omega⟩ h3 (by omega) d sq' (by omega)) ⟨?_, fun x hx => ?_, ?_, by rw [List.length_append]; simp; omega, hb, q, sq', _, _, _, _, rfl, w1, ?_, fun x hx => ?_, by omega, ?_, hG.put id (.int .i64 d)⟩ (hS2.trans w2)
  · rw [List.pairwise_append]
    refine ⟨hups, by simp, fun a ha b hb => ?_⟩
    simp only [List.mem_singleton] at hb
    subst hb
    have := hsq a ha
    dsimp only; omega
  · rcases List.mem_append.1 hx with hx | hx
    · exact hdue x hx
    · simp only [List.mem_singleton] at hx
      subst hx
      dsimp only; omega
  · rw [List.map_append, List.nodup_append]
    refine ⟨hids, by simp, fun a ha b hb => ?_⟩
    simp only [List.map_cons, List.map_nil, List.mem_singleton] at hb
    subst hb
    obtain ⟨x, hx, rfl⟩ := List.mem_map.1 ha
    exact fun e => h3 ⟨x, hx, e⟩
  · refine (hF.lay (ix_lt n d) (fun e => hxn e.1)).imp fun y s hs => ?_
    rw [List.mem_append, List.mem_singleton]
    constructor
    · rintro (⟨a, b⟩ | ⟨rfl, rfl⟩)
      · exact ⟨.inl a, b⟩
      · exact ⟨.inr rfl, rfl⟩
    · rintro ⟨a | rfl, b⟩
      · exact .inl ⟨a, b⟩
      · exact .inr ⟨rfl, b.symm⟩
  · rcases List.mem_append.1 hx with hx | hx
    · have := hsq x hx; omega
    · simp only [List.mem_singleton] at hx
      subst hx
      dsimp only; omega
  · have := hDu.put (x := (id, d, sq')) fun y hy e => h3 ⟨y, hy, e⟩
    rw [List.length_append]
    exact this.imp fun y => by simp

/-! ### Drop -/
inductive DropR (R : List It) (id : Int) : List It → Bool → Prop
  | no (h : ¬ ∃ x ∈ R, x.1 = id) : DropR R id R false
  | one (x : It) (hx : x ∈ R) (h : x.1 = id) : DropR R id (R.filter fun y => !decide (y.1 = id)) true
def isV (id : Int) : List V → Bool
  | .int .i64 a :: _ => decide (a = id)
  | _ => false
theorem filt_it (L : List It) (id : Int) : (L.map it).filter (fun x => !isV id x) = (L.filter fun y => !decide (y.1 = id)).map it := by
  induction L with
  | nil => rfl
  | cons a L ih =>
    have e : isV id (it a) = decide (a.1 = id) := rfl
    simp only [List.map_cons, List.filter_cons, e, ih]
    cases decide (a.1 = id) <;> rfl
theorem drop_nil {id : Int} {m : Mem} {K : KV} (h : ∀ m', m.Grew m' → K (.bool false) m') : ACalls Try.prog 11 [.ptr none, .int .i64 id] m K := by
  refine run_on (ctx_nil _) hm c11 (by simp) fun hf => ?_
  simp (disch := omega) [-getElem?_pos, b11]
  exact h _ (Mem.Grew.new m _)
theorem drop_calls {c : Nat} {m : Mem} {D : List Nat} {r n : Nat} {R : List It} (hW : Whl c m D r n R) {id : Int} {K : KV}
    (h : ∀ m' D' R' b, DropR R id R' b → Whl c m' D' r n R' → Stp m m' D D' → K (.bool b) m') : ACalls Try.prog 11 [.ptr (some (r, 0, 0)), .int .i64 id] m K := by
  have hb := hW.bn
  have hRl := hW.len
  have hdue := hW.due
  have hups := hW.up
  have hids := hW.ids
  have g1 := Mem.Grew.new m (.row 1 [[.int .i64 id]] true)
  have hW1 := hW.grow g1
  have oB : (m.new (.row 1 [[.int .i64 id]] true)).obj m.next = some (.row 1 [[.int .i64 id]] true) := by simp
  have bB : m.next < (m.new (.row 1 [[.int .i64 id]] true)).next := by simp
  have hBD : m.next ∉ D := fun e => by have := hW.lt _ e; omega
  refine run_on (ctx_nil _) hm c11 (by simp) fun hf => ?_
  have hrne : r < m.next ∧ r ≠ m.next := by
    obtain ⟨q, sq, v, S, l, g, rfl, hL, _⟩ := hW.ex
    have := hL.lt
    exact ⟨this, by omega⟩
  obtain ⟨q, sq, v, S, l, g, rfl, hL, hF, hsq, hsq2, hDu, hG⟩ := hW1.ex
  obtain ⟨cs, o1, o2⟩ := hL.row
  have o1m : m.obj r = some (.row 67 [cs] true) := by rw [newO _ hrne.2] at o1; exact o1
  have em := o2.cm
  have el := o2.len
  have hmp := hL.mp
  have hrB : m.next ≠ r := fun e => hBD (mem_fpW.2 (.inl e))
  have hqB : m.next ≠ q := fun e => hBD (mem_fpW.2 (.inr (.inl e)))
  have hmpm : m.obj q = some (.map (mapI l) g) := by rw [newO _ hqB.symm] at hmp; exact hmp
  by_cases h3 : ∃ x ∈ R, x.1 = id
  case neg =>
    have hg := hDu.non id fun x hx e => h3 ⟨x, hx, e⟩
    simp (disch := omega) [-getElem?_pos, b11, o1m, em, el, hmpm, oB, findM_mapI, hg]
    exact h _ _ _ _ (.no h3) hW1 (Stp.grow g1 _)
  obtain ⟨x, hx, rfl⟩ := h3
  have hg := hDu.get x hx
  have hxd := hdue x hx
  obtain ⟨hL2, hS2⟩ := hL.setMap (delI l x.1) (stD (mapI l) (.int .i64 x.1) g)
  simp (disch := omega) [-getElem?_pos, b11, o1m, em, el, hmpm, findM_mapI, delM_mapI, hg]
  generalize m.new (.row 1 [[.int .i64 x.1]] true) = m1 at *
  generalize m.next = B at *
  have oB2 : (m1.upd q (some (.map (mapI (delI l x.1)) (stD (mapI l) (.int .i64 x.1) g)))).obj B = some (.row 1 [[.int .i64 x.1]] true) := by rw [updO _ hqB]; exact oB
  have bB2 : B < (m1.upd q (some (.map (mapI (delI l x.1)) (stD (mapI l) (.int .i64 x.1) g)))).next := by rw [upd_next]; exact bB
  generalize m1.upd q (some (.map (mapI (delI l x.1)) (stD (mapI l) (.int .i64 x.1) g))) = m2 at *
  refine slot_calls hL2 (by omega) (by omega) fun m3 g3 => ?_
  have hs := ix_lt n x.2.1
  obtain ⟨s, hse⟩ : ∃ s, s = ix n x.2.1 := ⟨_, rfl⟩
  rw [← hse] at hs ⊢
  have hL3 := hL2.grow g3
  have oB3 : m3.obj B = some (.row 1 [[.int .i64 x.1]] true) := by rw [g3.obj B bB2]; exact oB2
  have bB3 : B < m3.next := by have := g3.next; omega
  obtain ⟨cs3, p1, p2⟩ := hL3.row
  have el3 := p2.len
  have ev3 := p2.cv s hs
  have hO := hL3.sl s hs
  have hBv : B ∉ (v s).fp := fun e => hBD (mem_fpW.2 (.inr (.inr ⟨s, hs, e⟩)))
  have hll := hF.len (fun x s h => h.1) hs
  simp (disch := omega) [-getElem?_pos, p1, el3, ev3]
  refine deleteFunc_callsC hm c26 (by omega) c20 (by omega) (a := []) (b := [.ptr (some (B, 0, 0))]) (sz := 2) (z := [.int .i64 0, .int .i64 0, .int .i64 0]) (isV x.1) hO (fun y hy => ?_) rfl rfl (by rw [List.length_map]; omega) (fun M K h1 h2 y hy hK => ?_) fun u m4 w1 w2 w3 => ?_
  · obtain ⟨a, _, rfl⟩ := List.mem_map.1 hy; exact ⟨rfl, rfl⟩
  · obtain ⟨a, _, rfl⟩ := List.mem_map.1 hy
    have oBM : M.obj B = some (.row 1 [[.int .i64 x.1]] true) := by rw [h2 B bB3 hBv]; exact oB3
    have bBM : B < M.next := by omega
    refine run_on (ctx_nil _) hm c21 (by simp) fun hf => ?_
    have g := Mem.Grew.new M (.row 3 [it a] true)
    have hK' := hK _ g
    simp only [it, isV] at hK' ⊢
    simp (disch := omega) [-getElem?_pos, -decN, -decY, b21, oBM]
    exact hK'
  · rw [filt_it] at w1
    have o4 := w2.obj r hL3.lt (hL3.nr s hs).1
    rw [p1] at o4
    have v1 := w1.sl.okc
    have v2 := w1.sl.cs
    simp (disch := omega) [-getElem?_pos, o4, el3, v1, v2, spl]
    obtain ⟨hL5, hS5⟩ := hL3.setSlot hs w1 w2 (p2.slot hs u)
    have hlenF : (R.filter fun y => !decide (y.1 = x.1)).length = R.length - 1 := by
      have h1 := hids
      have : (R.filter fun y : It => !decide (y.1 = x.1)).Perm (R.erase x) := by
        have hnd : R.Nodup := List.Pairwise.imp (fun h e => by rw [e] at h; omega) hups
        refine (List.perm_ext_iff_of_nodup (hnd.sublist List.filter_sublist) (hnd.erase x)).2 fun y => ?_
        rw [hnd.mem_erase_iff]
        simp only [List.mem_filter, Bool.not_eq_true', decide_eq_false_iff_not]
        exact ⟨fun ⟨a, b⟩ => ⟨fun e => b (by rw [e]), a⟩, fun ⟨a, b⟩ => ⟨b, fun e => a (id_inj hids b hx e)⟩⟩
      rw [this.length_eq, List.length_erase_of_mem hx]
    refine h _ _ _ _ (.one x hx rfl) ⟨hups.sublist List.filter_sublist, fun y hy => hdue y (List.mem_filter.1 hy).1, hids.sublist (List.filter_sublist.map _), by omega, hb, q, sq, _, _, _, _, rfl, hL5, ?_, fun y hy => hsq y (List.mem_filter.1 hy).1, hsq2, ?_, hG.del x.1⟩ ((((Stp.grow g1 _).trans hS2).trans (Stp.grow g3 _)).trans hS5)
    · refine ⟨fun t ht y => ?_, fun t ht => ?_⟩
      · rw [List.mem_filter]
        by_cases e : t = s
        · subst e
          rw [setv_self, List.mem_filter, hF.mem t ht y]
          exact ⟨fun ⟨⟨a, b⟩, c⟩ => ⟨⟨a, c⟩, b⟩, fun ⟨⟨a, c⟩, b⟩ => ⟨⟨a, b⟩, c⟩⟩
        · rw [setv_ne _ _ e, hF.mem t ht y]
          refine ⟨fun ⟨a, b⟩ => ⟨⟨a, ?_⟩, b⟩, fun ⟨⟨a, c⟩, b⟩ => ⟨a, b⟩⟩
          rw [Bool.not_eq_true', decide_eq_false_iff_not]
          intro e2
          have := id_inj hids a hx e2
          subst this
          exact e (b.symm.trans hse.symm)
      · by_cases e : t = s
        · subst e; rw [setv_self]; exact (hF.nd t ht).sublist List.filter_sublist
        · rw [setv_ne _ _ e]; exact hF.nd t ht
    · have := hDu.del hx fun y hy e => id_inj hids hy hx e
      rw [← hlenF] at this
      refine this.imp fun y => ?_
      rw [List.mem_filter, Bool.not_eq_true', decide_eq_false_iff_not]
      exact ⟨fun ⟨a, b⟩ => ⟨a, fun e => b (id_inj hids a hx e)⟩, fun ⟨a, b⟩ => ⟨a, fun e => b (by rw [e])⟩⟩

/-! ### Next -/
theorem getI_mem {l : List (Int × V)} (h : KeysI l) {k : Int} {v : V} : (k, v) ∈ l ↔ getI l k = some v := by
  induction l with
  | nil => simp [getI]
  | cons x l ih =>
    obtain ⟨b, u⟩ := x
    have h' : b ∉ l.map (·.1) ∧ KeysI l := by simpa [KeysI] using h
    simp only [List.mem_cons, Prod.mk.injEq, getI]
    by_cases e : k = b
    · subst e
      rw [if_pos rfl]
      constructor
      · rintro (⟨_, rfl⟩ | hm)
        · rfl
        · exact absurd (List.mem_map.2 ⟨_, hm, rfl⟩) h'.1
      · intro e; injection e with e; exact .inl ⟨rfl, e.symm⟩
    · rw [if_neg e, ← ih h'.2]
      constructor
      · rintro (⟨e2, _⟩ | hm)
        · exact absurd e2 e
        · exact hm
      · exact .inr
theorem next_none {c : Nat} {m : Mem} {D : List Nat} {r n : Nat} (hW : Whl c m D r n []) {K : KV} (h : K (.tup [.int .i64 0, .bool false]) m) : ACalls Try.prog 15 [.ptr (some (r, 0, 0))] m K := by
  refine run_on (ctx_nil _) hm c15 (by simp) fun hf => ?_
  simp (disch := omega) [-getElem?_pos, b15]
  refine len_calls hW ?_
  simp (disch := omega) [-getElem?_pos]
  exact h
theorem next_calls {c : Nat} {m : Mem} {D : List Nat} {r n : Nat} {R : List It} (hW : Whl c m D r n R) (h0 : R ≠ []) {K : KV} (h : ∀ m' (f : Nat), (∃ x ∈ R, x.2.1 = n + f) → (∀ x ∈ R, n + f ≤ x.2.1) → m.Grew m' → K (.tup [.int .i64 f, .bool true]) m') : ACalls Try.prog 15 [.ptr (some (r, 0, 0))] m K := by
  have hdue := hW.due
  have hb := hW.bn
  have hpos := List.length_pos_iff.2 h0
  refine run_on (ctx_nil _) hm c15 (by simp) fun hf => ?_
  simp (disch := omega) [-getElem?_pos, b15]
  refine len_calls hW ?_
  obtain ⟨q, sq, v, S, l, g, rfl, hL, hF, hsq, hsq2, hDu, hG⟩ := hW.ex
  obtain ⟨cs, o1, o2⟩ := hL.row
  have e0 := o2.c0
  have em := o2.cm
  have el := o2.len
  have hmp := hL.mp
  simp (disch := omega) [-getElem?_pos, o1, em, el, hmp]
  have gI := Mem.Grew.new m (.iter (some q) g.2 [] g.2)
  have oI : (m.new (.iter (some q) g.2 [] g.2)).obj m.next = some (.iter (some q) g.2 [] g.2) := by simp
  have bI : m.next < (m.new (.iter (some q) g.2 [] g.2)).next := by simp
  have hltr := hL.lt
  have hltq := hL.ltq
  generalize m.new (.iter (some q) g.2 [] g.2) = M1 at *
  generalize hIe : m.next = I at *
  have hent : ∀ k v, (k, v) ∈ mapI l → ∃ x ∈ R, v = .int .i64 x.2.1 := fun k v hm => by
    obtain ⟨⟨a, b⟩, hab, e⟩ := List.mem_map.1 hm
    injection e with e1 e2
    subst e2
    have h1 := (getI_mem hDu.ky).1 hab
    by_cases hx : ∃ x ∈ R, x.1 = a
    · obtain ⟨x, hx, rfl⟩ := hx
      rw [hDu.get x hx] at h1
      injection h1 with h1
      exact ⟨x, hx, h1.symm⟩
    · rw [hDu.non a fun x hx2 e => hx ⟨x, hx2, e⟩] at h1; cases h1
  have hall : ∀ x ∈ R, (V.int .i64 x.1, V.int .i64 x.2.1) ∈ mapI l := fun x hx => List.mem_map.2 ⟨(x.1, .int .i64 x.2.1), (getI_mem hDu.ky).2 (hDu.get x hx), rfl⟩
  refine exec_loopU (σ := Nat × List Nat × List (V × V) × Mem) (fun (f, _, _, _) => [(4, .int .i64 f)]) (fun (_, _, _, M) => M)
    (fun (f, seen, done, M2) => M2.obj I = some (.iter (some q) g.2 seen g.2) ∧ I < M2.next ∧ Visd (mapI l) g seen done ∧ m.Grew M2 ∧ done.length ≤ l.length ∧ f ≤ 65535 ∧ (f = 65535 ∨ ∃ x ∈ R, x.2.1 = n + f) ∧ ∀ k (d : Nat), (k, V.int .i64 d) ∈ done → n + f ≤ d) (fun (_, _, done, _) => l.length - done.length) (65535, [], [], M1) rfl
    (by dsimp only; exact ⟨oI, bI, Visd.nil _ _, gI, by simp, by omega, .inl rfl, by simp⟩) (by simp) ?_
  intro (f, seen, done, M2) ⟨a1, a2, a3, a4, a5, a6, a7, a8⟩
  have hM2 : M2.obj q = _ := (a4.obj q (by omega)).trans hmp
  simp (disch := omega) [-getElem?_pos]
  refine nextX_go a1 hM2 (fun hs => ?_) (fun j k v' s c1 c2 c3 => ?_)
  · have hp := a3.all hG hs
    simp (disch := omega) [-getElem?_pos]
    have hmin : ∀ x ∈ R, n + f ≤ x.2.1 := fun x hx => a8 _ _ (hp.symm.subset (hall x hx))
    refine h M2 f ?_ hmin a4
    rcases a7 with rfl | h7
    · obtain ⟨x, hx⟩ := List.exists_mem_of_ne_nil R h0
      have h1 := hmin x hx
      have h2 := hdue x hx
      exact ⟨x, hx, by omega⟩
    · exact h7
  · obtain ⟨x, hx, rfl⟩ := hent k v' (List.mem_of_getElem? c1)
    have hxd := hdue x hx
    simp (disch := omega) [-getElem?_pos]
    have oI2 : (M2.upd I (some (.iter (some q) g.2 (seen ++ [s]) g.2))).obj I = some (.iter (some q) g.2 (seen ++ [s]) g.2) := by simp
    have hq3 : (M2.upd I (some (.iter (some q) g.2 (seen ++ [s]) g.2))).obj q = some (.map (mapI l) g) := by rw [updO _ (by omega)]; exact hM2
    have hr3 : (M2.upd I (some (.iter (some q) g.2 (seen ++ [s]) g.2))).obj r = some (.row 67 [cs] true) := by rw [updO _ (by omega), a4.obj r (by omega)]; exact o1
    have g3 : m.Grew (M2.upd I (some (.iter (some q) g.2 (seen ++ [s]) g.2))) := a4.upd (by omega) _
    have n3 : (M2.upd I (some (.iter (some q) g.2 (seen ++ [s]) g.2))).next = M2.next := rfl
    generalize M2.upd I (some (.iter (some q) g.2 (seen ++ [s]) g.2)) = M3 at *
    refine entryX_go (s := s) (i := j) oI2 hq3 c1 c2 ?_
    obtain ⟨w, hw⟩ : ∃ w : Nat, x.2.1 = n + w := ⟨x.2.1 - n, by omega⟩
    have hwi : ((x.2.1 : Nat) : Int) - n = w := by omega
    simp (disch := omega) [-getElem?_pos, hr3, e0, el, hwi]
    have hst := a3.step c1 c2 c3
    have hsl := hst.len
    rw [mapI_length] at hsl
    have hmn : min (f : Int) w = ((min f w : Nat) : Int) := by omega
    exact again_mk (min f w, seen ++ [s], done ++ [(k, .int .i64 x.2.1)], M3) (by
      dsimp only
      refine ⟨oI2, by omega, hst, g3, hsl, by omega, ?_, fun k' d' hm => ?_⟩
      · rcases Nat.le_total w f with e | e
        · rw [Nat.min_eq_right e]; exact .inr ⟨x, hx, hw⟩
        · rw [Nat.min_eq_left e]; exact a7
      · rcases List.mem_append.1 hm with hm | hm
        · have := a8 k' d' hm; omega
        · simp only [List.mem_singleton, Prod.mk.injEq, V.int.injEq, true_and] at hm
          have := hm.2
          omega) (by dsimp only; simp at hsl ⊢; omega) (by simp [hmn]) rfl
end Go.Proofs.Ytkpdpdpilggcfaa
