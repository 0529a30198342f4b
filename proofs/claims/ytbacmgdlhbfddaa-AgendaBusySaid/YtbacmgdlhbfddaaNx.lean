/-
  ADD, of what the functions of this seat do.
-/
import Derived.Test.YtbacmgdlhbfddaaMx
namespace Go.Proofs.Ytbacmgdlhbfddaa
open Go Go.AM
set_option linter.unusedVariables false
set_option linter.unusedSimpArgs false
set_option maxRecDepth 60000
set_option maxHeartbeats 8000000

theorem no41 : ¬ Body Try.prog 41 := by
  rintro ⟨fn, h1, h2, _⟩
  rw [Try.func41] at h1
  injection h1 with h1
  subst h1
  revert h2
  decide
theorem over41 {m : Mem} {p i la q j lb : Nat} {ca cb : Option Nat} {es es2 : List (List V)} {K : KV} (h1 : p ≠ q) (h2 : m.obj p = some (.row 4 es true)) (h3 : m.obj q = some (.row 4 es2 true)) (h4 : i + la ≤ es.length) (h5 : j + lb ≤ es2.length) (h6 : 0 < la) (h7 : 0 < lb) (h : K (.bool false) m) : ACalls Try.prog 41 [.sl (some (p, i, 4)) la ca, .sl (some (q, j, 4)) lb cb] m K :=
  overlaps_calls no41 Try.func41 (by kernel_rfl) (by kernel_rfl) (by kernel_rfl) (tS := 27) (tR := 4) (e := 35) (by kernel_rfl) (by kernel_rfl) Try.sizeOf35 h1 h2 h3 h4 h5 h6 h7 h

/-- Where a meeting stands, or would. -/
structure Plc (L : List Mt) (a : Mt) (k : Nat) : Prop where
  le : k ≤ L.length
  lo : ∀ b ∈ L.take k, ltM b a
  hi : ∀ b ∈ L.drop k, ¬ ltM b a
theorem ltM_trans {a b c : Mt} (h1 : ltM a b) (h2 : ltM b c) : ltM a c := by unfold ltM at *; omega
theorem ltM_or {a b : Mt} (h : a.1 ≠ b.1) : ltM a b ∨ ltM b a := by unfold ltM; omega
theorem Plc.uni {L : List Mt} {a : Mt} {k j : Nat} (h : Plc L a k) (hj : j ≤ L.length) (h1 : ∀ b ∈ L.take j, ltM b a) (h2 : ∀ b ∈ L.drop j, ¬ ltM b a) : k = j := by
  rcases Nat.lt_trichotomy k j with w | w | w
  · have hk : k < L.length := by omega
    have a1 : L[k] ∈ L.take j := List.mem_iff_getElem?.2 ⟨k, by rw [List.getElem?_take_of_lt w, List.getElem?_eq_getElem hk]⟩
    have a2 : L[k] ∈ L.drop k := List.mem_iff_getElem?.2 ⟨0, by rw [List.getElem?_drop, Nat.add_zero, List.getElem?_eq_getElem hk]⟩
    exact absurd (h1 _ a1) (h.hi _ a2)
  · exact w
  · have hk : j < L.length := by have := h.le; omega
    have a1 : L[j] ∈ L.take k := List.mem_iff_getElem?.2 ⟨j, by rw [List.getElem?_take_of_lt w, List.getElem?_eq_getElem hk]⟩
    have a2 : L[j] ∈ L.drop j := List.mem_iff_getElem?.2 ⟨0, by rw [List.getElem?_drop, Nat.add_zero, List.getElem?_eq_getElem hk]⟩
    exact absurd (h.lo _ a1) (h2 _ a2)
def insA (L : List Mt) (k : Nat) (a : Mt) : List Mt := L.take k ++ a :: L.drop k
theorem insA_len (L : List Mt) {k : Nat} (hk : k ≤ L.length) (a : Mt) : (insA L k a).length = L.length + 1 := by unfold insA; simp; omega
theorem insA_mem {L : List Mt} {k : Nat} {a b : Mt} : b ∈ insA L k a ↔ b = a ∨ b ∈ L := by
  unfold insA
  conv => rhs; rw [← List.take_append_drop k L]
  simp only [List.mem_append, List.mem_cons]
  constructor
  · rintro (h | h | h) <;> simp [h]
  · rintro (h | h | h) <;> simp [h]
theorem insA_mt (L : List Mt) (k : Nat) (a : Mt) : (insA L k a).map mt = (L.map mt).take k ++ mt a :: (L.map mt).drop k := by unfold insA; simp
theorem insA_up {L : List Mt} (hu : L.Pairwise ltM) {a : Mt} (hn : ∀ b ∈ L, b.1 ≠ a.1) {k : Nat} (h : Plc L a k) : (insA L k a).Pairwise ltM := by
  unfold insA
  rw [List.pairwise_append]
  refine ⟨hu.sublist (List.take_sublist _ _), List.pairwise_cons.2 ⟨fun b hb => ?_, hu.sublist (List.drop_sublist _ _)⟩, fun b hb c hc => ?_⟩
  · rcases ltM_or (hn b (List.mem_of_mem_drop hb)) with w | w
    · exact absurd w (h.hi b hb)
    · exact w
  · have h1 := h.lo b hb
    rcases List.mem_cons.1 hc with rfl | hc
    · exact h1
    · rcases ltM_or (hn c (List.mem_of_mem_drop hc)) with w | w
      · exact absurd w (h.hi c hc)
      · exact ltM_trans h1 w
theorem insA_uq {L : List Mt} (hu : (L.map (·.1)).Nodup) {a : Mt} (hn : ∀ b ∈ L, b.1 ≠ a.1) (k : Nat) : ((insA L k a).map (·.1)).Nodup := by
  have hp : (insA L k a).Perm (a :: L) := by
    unfold insA
    refine List.perm_middle.trans ?_
    rw [List.take_append_drop]
  have := hp.map (·.1)
  rw [this.nodup_iff]
  rw [List.map_cons, List.nodup_cons]
  exact ⟨fun h => by obtain ⟨b, hb, e⟩ := List.mem_map.1 h; exact hn b hb e, hu⟩

/-- What a coming meeting comes to. -/
inductive AddR (all : Int) (L : List Mt) (a : Mt) : List Mt → Int → Prop
  | wrong (h : ¬ okA all a) : AddR all L a L 2
  | busy (h : okA all a) (h1 : (∃ b ∈ L, b.1 = a.1) ∨ ∃ b ∈ L, clC b a = true) : AddR all L a L 9
  | full (h : okA all a) (h1 : ¬ ∃ b ∈ L, b.1 = a.1) (h2 : ¬ ∃ b ∈ L, clC b a = true) (h3 : 256 ≤ L.length) : AddR all L a L 3
  | ok (h : okA all a) (h1 : ¬ ∃ b ∈ L, b.1 = a.1) (h2 : ¬ ∃ b ∈ L, clC b a = true) (h3 : L.length < 256) (k : Nat) (hk : Plc L a k) : AddR all L a (insA L k a) 0

def cfM (a : Mt) : List V → Int
  | [.int .i64 i, .int .i64 f, .int .i64 t, .int .u64 w] => cmpM (i, f, t, w) a
  | _ => 0
theorem cmpI_rng (a b : Int) : -1 ≤ cmpI a b ∧ cmpI a b ≤ 1 := by unfold cmpI; split; omega; split <;> omega
theorem cfM_mt (a b : Mt) : cfM a (mt b) = cmpM b a := rfl
theorem cfM_rng (a : Mt) (x : List V) : -9223372036854775808 ≤ cfM a x ∧ cfM a x ≤ 9223372036854775807 := by
  unfold cfM
  split
  · rename_i i f t w
    unfold cmpM
    have h1 := cmpI_rng f a.2.1
    have h2 := cmpI_rng i a.1
    dsimp only
    split <;> omega
  · omega
theorem rs_one {x : Sp} : RS [x] ↔ rt x := ⟨fun h => h.rt x (by simp), fun h => ⟨by simpa using h, by simp⟩⟩
theorem clI_all {L : List Mt} {x : Mt} (hn : ¬ ∃ b ∈ L, b.1 = x.1) : clI L x L.length = [] ↔ ¬ ∃ b ∈ L, clC b x = true := by
  unfold clI
  rw [List.take_length, List.map_eq_nil_iff, List.filter_eq_nil_iff]
  constructor
  · rintro h ⟨b, hb, hc⟩
    refine h b hb ?_
    have : isId x.1 b = false := by unfold isId; exact decide_eq_false fun e => hn ⟨b, hb, e⟩
    rw [this, hc]; rfl
  · rintro h b hb hc
    simp only [Bool.and_eq_true] at hc
    exact h ⟨b, hb, hc.2⟩

/-- slices.BinarySearchFunc, of meetings. -/
theorem bs23 {m : Mem} {v : V} {L : List Mt} {a : Mt} (hv : Sl m 4 v (L.map mt)) (hlen : L.length ≤ 256) (hs : L.Pairwise ltM) {K : KV} (h : ∀ (k : Nat) m' b, Plc L a k → m.Grew m' → K (.tup [.int .i64 k, .bool b]) m') : ACalls Try.prog 23 [v, .agg (mt a), .fn 24 [] []] m K := by
  have hv1 := hv.lenSl
  refine run_on (ctx_nil _) hm c23 (by simp) fun hf => ?_
  obtain ⟨N, hN⟩ : ∃ N, L.length = N := ⟨_, rfl⟩
  rw [List.length_map, hN] at hv1
  rw [hN] at hlen
  have g1 := Mem.Grew.new m (.row 4 [mt a] true)
  have oB : (m.new (.row 4 [mt a] true)).obj m.next = some (.row 4 [mt a] true) := by simp
  have bB : m.next < (m.new (.row 4 [mt a] true)).next := by simp
  simp only [mt] at g1 oB bB ⊢
  simp (disch := omega) [-getElem?_pos, b23, hv1]
  generalize m.new (.row 4 [[.int .i64 a.1, .int .i64 a.2.1, .int .i64 a.2.2.1, .int .u64 a.2.2.2]] true) = m1 at *
  generalize m.next = B at *
  have hmono : ∀ i j x y, i < j → L[i]? = some x → L[j]? = some y → ltM x y := fun i j x y hij hx hy => by
    have hjl := (List.getElem?_eq_some_iff.1 hy).1
    have hil := (List.getElem?_eq_some_iff.1 hx).1
    have := (List.pairwise_iff_getElem.1 hs) i j hil hjl hij
    rw [(List.getElem?_eq_some_iff.1 hx).2, (List.getElem?_eq_some_iff.1 hy).2] at this
    exact this
  refine exec_loopU (σ := Nat × Nat × Mem) (fun (lo, hi, _) => [(9, .int .i64 lo), (10, .int .i64 hi)]) (fun (_, _, M) => M) (fun (lo, hi, M) => lo ≤ hi ∧ hi ≤ N ∧ m1.Grew M ∧ (∀ j x, j < lo → L[j]? = some x → ltM x a) ∧ (∀ j x, hi ≤ j → L[j]? = some x → ¬ ltM x a)) (fun (lo, hi, _) => hi - lo) (0, N, m1) rfl
    (by dsimp only; exact ⟨by omega, by omega, Mem.Grew.refl m1, fun j x h1 => absurd h1 (by omega), fun j x h1 h2 => by have := (List.getElem?_eq_some_iff.1 h2).1; omega⟩) (by simp) ?_
  intro (lo, hi, M) ⟨a1, a2, a3, a4, a5⟩
  have oM : M.obj B = some (.row 4 [[.int .i64 a.1, .int .i64 a.2.1, .int .i64 a.2.2.1, .int .u64 a.2.2.2]] true) := by rw [a3.obj B bB]; exact oB
  by_cases hlt : lo < hi
  · obtain ⟨md, hmd⟩ : ∃ md, (lo + hi) / 2 = md := ⟨_, rfl⟩
    have e1 : Int.fdiv ((lo : Int) + hi) 2 = (md : Int) := by
      rw [Int.fdiv_eq_ediv_of_nonneg _ (by omega)]; omega
    obtain ⟨x, hx⟩ : ∃ x, L[md]? = some x := ⟨_, List.getElem?_eq_getElem (by omega)⟩
    obtain ⟨p, q, full, rw, z1, z2, z3, z4, _⟩ := (hv.grow (g1.trans a3)).at (mt_get hx) .i64
    simp only [mt] at z4
    have hc := ltM_cmp (a := x) (b := a)
    simp (disch := omega) [-getElem?_pos, e1, z1, z3, z4, oM]
    refine order24 (a := x) (b := a) fun M2 g2 => ?_
    have hr := cfM_rng a (mt x)
    rw [cfM_mt] at hr
    by_cases hneg : ltM x a
    · have hn2 := hc.1 hneg
      simp (disch := omega) [-getElem?_pos]
      exact again_mk (md + 1, hi, M2) (by
        dsimp only
        refine ⟨by omega, a2, a3.trans g2, fun j y hj hy => ?_, a5⟩
        by_cases e : j = md
        · subst e; rw [hx] at hy; injection hy with hy; subst hy; exact hneg
        · exact ltM_trans (hmono j md y x (by omega) hy hx) hneg) (by dsimp only; omega) (by simp) rfl
    · have hn2 : ¬ cmpM x a < 0 := fun e => hneg (hc.2 e)
      simp (disch := omega) [-getElem?_pos]
      exact again_mk (lo, md, M2) (by
        dsimp only
        refine ⟨by omega, by omega, a3.trans g2, a4, fun j y hj hy => ?_⟩
        by_cases e : j = md
        · subst e; rw [hx] at hy; injection hy with hy; subst hy; exact hneg
        · exact fun hl => hneg (ltM_trans (hmono md j x y (by omega) hx hy) hl)) (by dsimp only; omega) (by simp) rfl
  · have : lo = hi := by omega
    subst this
    have hp : Plc L a lo := ⟨by omega, fun x hx => by
      obtain ⟨j, hj⟩ := List.mem_iff_getElem?.1 hx
      have hjl := (List.getElem?_eq_some_iff.1 hj).1
      simp at hjl
      rw [List.getElem?_take_of_lt (by omega)] at hj
      exact a4 j x (by omega) hj, fun x hx => by
      obtain ⟨j, hj⟩ := List.mem_iff_getElem?.1 hx
      rw [List.getElem?_drop] at hj
      exact a5 (lo + j) x (by omega) hj⟩
    by_cases hlN : lo < N
    · obtain ⟨x, hx⟩ : ∃ x, L[lo]? = some x := ⟨_, List.getElem?_eq_getElem (by omega)⟩
      obtain ⟨p, q, full, rw, z1, z2, z3, z4, _⟩ := (hv.grow (g1.trans a3)).at (mt_get hx) .i64
      simp only [mt] at z4
      simp (disch := omega) [-getElem?_pos, z1, z3, z4, oM]
      refine order24 (a := x) (b := a) fun M2 g2 => ?_
      simp (disch := omega) [-getElem?_pos, -decN, -decY]
      exact h lo _ _ hp ((g1.trans a3).trans g2)
    · simp (disch := omega) [-getElem?_pos]
      exact h lo _ _ hp (g1.trans a3)

theorem add_nil {a : Mt} {m : Mem} {K : KV} (h : ∀ m', m.Grew m' → K (.int .i64 1) m') : ACalls Try.prog 12 [.ptr none, .agg (mt a)] m K := by
  refine run_on (ctx_nil _) hm c12 (by simp) fun hf => ?_
  have g := Mem.Grew.new m (.row 4 [mt a] true)
  simp only [mt] at g ⊢
  simp (disch := omega) [-getElem?_pos, b12]
  exact h _ g

theorem add_calls {m : Mem} {D : List Nat} {r : Nat} {all : Int} {L : List Mt} (hA : Ag m D r all L) {a : Mt} {K : KV} (h : ∀ m' D' L' c, AddR all L a L' c → Ag m' D' r all L' → Stp m m' D D' → K (.int .i64 c) m') : ACalls Try.prog 12 [.ptr (some (r, 0, 0)), .agg (mt a)] m K := by
  have hlen := hA.len
  refine run_on (ctx_nil _) hm c12 (by simp) fun hf => ?_
  have g1 := Mem.Grew.new m (.row 4 [mt a] true)
  have oB : (m.new (.row 4 [mt a] true)).obj m.next = some (.row 4 [mt a] true) := by simp
  have bB : m.next < (m.new (.row 4 [mt a] true)).next := by simp
  have hnx : (m.new (.row 4 [mt a] true)).next = m.next + 1 := by simp
  simp only [mt] at g1 oB bB hnx ⊢
  simp (disch := omega) [-getElem?_pos, b12]
  generalize m.new (.row 4 [[.int .i64 a.1, .int .i64 a.2.1, .int .i64 a.2.2.1, .int .u64 a.2.2.2]] true) = m1 at *
  generalize m.next = B at *
  have g2 := g1.trans (Mem.Grew.new m1 (.row 2 [[.int .i64 a.2.1, .int .i64 a.2.2.1]] true))
  have hx := (Exa.lit (m := m1) (sz := 2) (es := rowP [spn a]) (n := 1) rfl).ows.sl
  have hw : (m1.new (.row 2 (rowP [spn a]) true)) = m1.new (.row 2 [[.int .i64 a.2.1, .int .i64 a.2.2.1]] true) := rfl
  rw [hw] at hx
  have oB2 : (m1.new (.row 2 [[.int .i64 a.2.1, .int .i64 a.2.2.1]] true)).obj B = some (.row 4 [[.int .i64 a.1, .int .i64 a.2.1, .int .i64 a.2.2.1, .int .u64 a.2.2.2]] true) := by rw [newO _ (by omega)]; exact oB
  have bB2 : B < (m1.new (.row 2 [[.int .i64 a.2.1, .int .i64 a.2.2.1]] true)).next := by simp; omega
  rw [hnx] at hx
  generalize m1.new (.row 2 [[.int .i64 a.2.1, .int .i64 a.2.2.1]] true) = m2 at *
  clear hw g1 oB bB hnx
  refine right10 (l := [spn a]) hx (by simp) fun b m3 hb g3 => ?_
  rw [rs_one] at hb
  have g := g2.trans g3
  have oB3 : m3.obj B = some (.row 4 [[.int .i64 a.1, .int .i64 a.2.1, .int .i64 a.2.2.1, .int .u64 a.2.2.2]] true) := by rw [g3.obj B bB2]; exact oB2
  have bB3 : B < m3.next := by have := g3.next; omega
  have hA3 := hA.grow g
  clear hx oB2 bB2 g2
  have hok : okA all a ↔ (b = true ∧ a.2.2.2 ≠ 0 ∧ bAndNot .u64 a.2.2.2 all = 0) := by unfold okA; rw [hb]
  by_cases hk : okA all a
  case neg =>
    have hfin := h m3 D L 2 (.wrong hk) hA3 (Stp.grow g D)
    cases b with
    | false =>
      simp (disch := omega) [-getElem?_pos, oB3]
      exact hfin
    | true =>
      by_cases hw0 : a.2.2.2 = 0
      · simp (disch := omega) [-getElem?_pos, oB3, hw0]
        exact hfin
      · have hw1 : bAndNot .u64 a.2.2.2 all ≠ 0 := fun e => hk (hok.2 ⟨rfl, hw0, e⟩)
        obtain ⟨v, _, q1, q2, q3, q4⟩ := hA3.ex
        simp (disch := omega) [-getElem?_pos, oB3, hw0, q2, hw1]
        exact hfin
  obtain ⟨rfl, hw0, hw1⟩ := hok.1 hk
  obtain ⟨v, hDv, q1, q2, q3, q4⟩ := hA3.ex
  simp (disch := omega) [-getElem?_pos, oB3, hw0, q2, hw1]
  refine place_calls hA3 fun m4 g4 => ?_
  have G4 := g.trans g4
  have hA4 := hA3.grow g4
  have oB4 : m4.obj B = some (.row 4 [[.int .i64 a.1, .int .i64 a.2.1, .int .i64 a.2.2.1, .int .u64 a.2.2.2]] true) := by rw [g4.obj B bB3]; exact oB3
  have bB4 : B < m4.next := by have := g4.next; omega
  rcases idxI_cases (isId a.1) L with ⟨e1, e2⟩ | ⟨k, x, e1, e2, e3, e4⟩
  case inr =>
    rw [e1]
    simp (disch := omega) [-getElem?_pos]
    exact h _ _ _ _ (.busy hk (.inl ⟨x, mem_of_idx e2, by unfold isId at e3; simpa using e3⟩)) hA4 (Stp.grow G4 D)
  have hno : ¬ ∃ b ∈ L, b.1 = a.1 := fun ⟨b, hb, e⟩ => by have := e2 b hb; unfold isId at this; simp [e] at this
  rw [e1]
  simp (disch := omega) [-getElem?_pos, oB4]
  refine clashes_calls (x := a) hA4 fun u m5 zs hp hu g5 => ?_
  have G5 := G4.trans g5
  have hA5 := hA4.grow g5
  have oB5 : m5.obj B = some (.row 4 [[.int .i64 a.1, .int .i64 a.2.1, .int .i64 a.2.2.1, .int .u64 a.2.2.2]] true) := by rw [g5.obj B bB4]; exact oB4
  have bB5 : B < m5.next := by have := g5.next; omega
  have hul := hu.sl.lenSl
  rw [rowI_length] at hul
  have hzl : zs.length ≤ 256 := by have := hp.length_eq; have := clI_len L a L.length; omega
  by_cases hz : zs = []
  case neg =>
    have hpos := List.length_pos_iff.2 hz
    have hcl : ∃ b ∈ L, clC b a = true := by
      by_cases hc : ∃ b ∈ L, clC b a = true
      · exact hc
      · rw [(clI_all hno).2 hc] at hp
        exact absurd (List.perm_nil.1 hp) hz
    simp (disch := omega) [-getElem?_pos, hul]
    exact h _ _ _ _ (.busy hk (.inr hcl)) hA5 (Stp.grow G5 D)
  subst hz
  have hncl := (clI_all hno).1 (List.nil_perm.1 hp)
  simp only [List.length_nil] at hul
  obtain ⟨v5, hDv5, q5, q6, q7, q8⟩ := hA5.ex
  have hv5 := q7.sl.lenSl
  rw [List.length_map] at hv5
  by_cases hf256 : 256 ≤ L.length
  · simp (disch := omega) [-getElem?_pos, hul, q6, hv5]
    exact h _ _ _ _ (.full hk hno hncl hf256) hA5 (Stp.grow G5 D)
  simp (disch := omega) [-getElem?_pos, hul, q6, hv5, oB5]
  refine bs23 (a := a) q7.sl hlen hA.up fun k m6 bb hp g6 => ?_
  have G6 := G5.trans g6
  have q6' : m6.obj r = _ := (g6.obj r q5).trans q6
  have oB6 : m6.obj B = some (.row 4 [[.int .i64 a.1, .int .i64 a.2.1, .int .i64 a.2.2.1, .int .u64 a.2.2.2]] true) := by rw [g6.obj B bB5]; exact oB5
  have q7' := q7.grow g6
  have q5' : r < m6.next := by have := g6.next; omega
  simp (disch := omega) [-getElem?_pos, q6', oB6]
  have gC := Mem.Grew.new m6 (.row 4 [mt a] true)
  have oC : (m6.new (.row 4 [mt a] true)).obj m6.next = some (.row 4 [mt a] true) := by simp
  have sC : (m6.new (.row 4 [mt a] true)).obj r = some (.row 2 [[.int .u64 all, v5]] true) := by rw [gC.obj r q5']; exact q6'
  have bC : m6.next < (m6.new (.row 4 [mt a] true)).next := by simp
  have nC : m6.next ∉ v5.fp := fun e => by have := q7'.lt _ e; omega
  have nC2 : m6.next ≠ r := by omega
  have hle := hp.le
  simp only [mt] at gC oC sC bC ⊢
  generalize m6.new (.row 4 [[.int .i64 a.1, .int .i64 a.2.1, .int .i64 a.2.2.1, .int .u64 a.2.2.2]] true) = m7 at *
  generalize m6.next = C at *
  refine insert_calls hm c25 (sz := 3) (by omega) (z := [.int .i64 0, .int .i64 0, .int .i64 0, .int .u64 0]) rfl rfl over41 (q7'.grow gC) (x := mt a) rfl bC nC oC (by rw [List.length_map]; exact hle) (by rw [List.length_map]; omega) (by rw [List.length_map]; omega) fun v' m8 w1 w2 => ?_
  have w3 := w2.obj r (by have := gC.next; omega) q8
  rw [sC] at w3
  have v1 := w1.sl.okc
  have v2 := w1.sl.cs
  simp (disch := omega) [-getElem?_pos, w3, v1, v2, splice]
  rw [← insA_mt] at w1
  have hsv : r ∉ v'.fp := fun e => by
    rcases w2.fp r e with q | q
    · exact q8 q
    · have := gC.next; omega
  have w4 := w2.next
  have gC1 := gC.next
  have hno' : ∀ b ∈ L, b.1 ≠ a.1 := fun b hb e => hno ⟨b, hb, e⟩
  subst hDv5
  refine h _ (r :: v'.fp) _ _ (.ok hk hno hncl (by omega) k hp) ⟨insA_up hA.up hno' hp, fun b hb => ?_, insA_uq hA.uq hno' k, by rw [insA_len L hle]; omega, v', rfl, by rw [upd_next]; omega, by simp, w1.keep (by simp) fun p hp => ?_, hsv⟩ ?_
  · rcases insA_mem.1 hb with rfl | hb
    · exact hk
    · exact hA.ok b hb
  · rw [updO _ (fun e => hsv (by rw [← e]; exact hp))]
  · refine (Stp.grow (G6.trans gC) (r :: v5.fp)).trans ((w2.mono (E := r :: v5.fp) (E' := r :: v'.fp) (fun p hp => by simp [hp]) (fun p hp => ?_)).trans (Stp.upd _ (by simp) _))
    rcases List.mem_cons.1 hp with rfl | hp
    · exact .inl (by simp)
    · exact .inr (.inl hp)
end Go.Proofs.Ytbacmgdlhbfddaa
