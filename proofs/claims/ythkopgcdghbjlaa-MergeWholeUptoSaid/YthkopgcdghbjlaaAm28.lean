/-
  slices.IndexFunc and slices.DeleteFunc, whose closure is known by what it answers over any memory, and may make objects of its own.
-/
import Derived.Test.YthkopgcdghbjlaaAm27
namespace Go.AM
open Go
set_option linter.unusedVariables false
set_option linter.unusedSimpArgs false
set_option maxRecDepth 20000

theorem index_calls' {P : Program} (hm : P.follows .mixedOrders = true) {f : FuncId} {n : Nat} {sz : Nat} {agg : Bool} (hc : Code1 P f n (bIndexFunc sz agg)) (hn : 2 ≤ n)
    {es : List (List V)} {v : V} {m : Mem} {g : FuncId} {K : KV} (el : List V → V) (p : List V → Bool)
    (hs : Sl m sz v es) (hl : es.length ≤ 4611686018427387904) (hel : ∀ x ∈ es, partV agg x 0 sz = some (el x)) (hp : ∀ (M : Mem) (K : KV), m.Grew M → ∀ x ∈ es, (∀ M', M.Grew M' → K (.bool (p x)) M') → ACalls P g [el x] M K)
    (hk : ∀ M, m.Grew M → K (.int .i64 (idxI p es)) M) : ACalls P f [v, .fn g [] []] m K := by
  refine run_on (ctx_nil _) hm hc (by simpa using hn) fun hf => ?_
  have h1 := hs.lenSl
  simp (disch := omega) [bIndexFunc, h1]
  refine exec_loopU (σ := Nat × Mem) (fun (i, _) => [(8, .int .i64 i)]) (fun (_, M) => M) (fun (i, M) => i ≤ es.length ∧ (∀ y ∈ es.take i, p y = false) ∧ m.Grew M) (fun (i, _) => es.length - i) (0, m) rfl (by dsimp only; exact ⟨by omega, by simp, Mem.Grew.refl m⟩) (by simp) ?_
  intro (i, M) ⟨a1, a2, a3⟩
  by_cases hi : i < es.length
  · obtain ⟨x, hx⟩ : ∃ x, es[i]? = some x := ⟨_, List.getElem?_eq_getElem hi⟩
    obtain ⟨q, j, full, rw, b1, b2, b3, b4, b5⟩ := (hs.grow a3).at hx .i64
    have c1 := hel x (mem_of_idx hx)
    have c2 := hp M
    cases hpx : p x with
    | true =>
      simp (disch := omega) [-getElem?_pos, -partV, b1, b3, b4, c1]
      refine c2 _ a3 x (mem_of_idx hx) fun M' g' => ?_
      rw [hpx]
      simp (disch := omega) [-getElem?_pos]
      rw [idxI_some a2 hx hpx] at hk
      exact hk _ (a3.trans g')
    | false =>
      simp (disch := omega) [-getElem?_pos, -partV, b1, b3, b4, c1]
      refine c2 _ a3 x (mem_of_idx hx) fun M' g' => ?_
      rw [hpx]
      simp (disch := omega) [-getElem?_pos]
      refine again_mk (i + 1, M') (by
        dsimp only
        refine ⟨by omega, fun y hy => ?_, a3.trans g'⟩
        rw [List.take_add_one, hx] at hy
        simp at hy
        rcases hy with hy | rfl
        · exact a2 y hy
        · exact hpx) (by dsimp only; omega) (by simp) rfl
  · have : i = es.length := by omega
    subst this
    rw [List.take_length] at a2
    simp (disch := omega)
    rw [idxI_none a2] at hk; exact hk _ a3

theorem DelI.grow {m : Mem} {q i0 sz : Nat} {es full0 : List (List V)} {p : List V → Bool} {i j : Nat} {M M' : Mem} (h : DelI m q i0 sz es full0 p i j M) (hq : q < m.next) (g : M.Grew M') : DelI m q i0 sz es full0 p i j M' := by
  obtain ⟨h1, h2, h3, ⟨full, r1, r2⟩, h5, h6⟩ := h
  exact ⟨h1, h2, h3, ⟨full, by rw [g.obj q (by omega)]; exact r1, r2⟩, by have := g.next; omega, fun r hr hq => by rw [g.obj r (by omega)]; exact h6 r hr hq⟩

theorem deleteFunc_calls' {P : Program} (hm : P.follows .mixedOrders = true) {fi : FuncId} {ni : Nat} {sz : Nat} {z : List V} (hci : Code1 P fi ni (bIndexFunc (sz + 1) true)) (hni : 2 ≤ ni)
    {f : FuncId} {n : Nat} (hcd : Code1 P f n (bDeleteFunc fi (sz + 1) z)) (hn : 2 ≤ n)
    {m : Mem} {v : V} {es : List (List V)} {g : FuncId} {K : KV} (p : List V → Bool) (h : Ows m (sz + 1) v es) (hes : ∀ x ∈ es, x.length = sz + 1 ∧ x.all V.isCell = true) (hz : z.length = sz + 1) (hc : z.all V.isCell = true) (hl : es.length ≤ 4611686018427387904)
    (hp : ∀ (M : Mem) (K : KV), ∀ x ∈ es, (∀ M', M.Grew M' → K (.bool (p x)) M') → ACalls P g [.agg x] M K)
    (k : ∀ v' m', Ows m' (sz + 1) v' (es.filter fun x => !p x) → Stp m m' v.fp v'.fp → v'.fp = v.fp → K v' m') : ACalls P f [v, .fn g [] []] m K := by
  refine run_on (ctx_nil _) hm hcd (by simpa using hn) fun hf => ?_
  have hpa : ∀ x ∈ es, partV true x 0 (sz + 1) = some (.agg x) := fun x hx => by
    have := (hes x hx).1
    simp [partV, this, List.take_of_length_le]
  simp (disch := omega) [bDeleteFunc]
  refine index_calls' hm hci hni .agg p h.sl hl hpa (fun M K _ => hp M K) fun m1 g1 => ?_
  have h' := h.grow g1
  replace k : ∀ v' m', Ows m' (sz + 1) v' (es.filter fun x => !p x) → Stp m1 m' v.fp v'.fp → v'.fp = v.fp → K v' m' := fun v' m' a1 a2 a3 => k v' m' a1 (Stp.trans (Stp.grow g1 v.fp) a2) a3
  clear h
  have h := h'
  have hm1 := g1.next
  generalize m1 = m at *
  rcases idxI_cases p es with ⟨e1, e2⟩ | ⟨ii, xi, e1, e2, e3, e4⟩
  · rw [e1]
    simp (disch := omega)
    refine k _ _ ?_ (Stp.refl _ _) rfl
    rw [List.filter_eq_self.2 (fun x hx => by simp [e2 x hx])]; exact h
  have hi := (List.getElem?_eq_some_iff.1 e2).1
  rw [e1]
  rcases h.ex with ⟨rfl, rfl⟩ | ⟨q, i0, full, c, rfl, h1, h2, h3, h4, h5⟩
  · simp at hi
  simp (disch := omega) [decN, show ¬ (ii : Int) = -1 by omega]
  have hf0 : (es.take (ii + 1)).filter (fun x => !p x) = es.take ii := by
    rw [takeS e2, List.filter_append, List.filter_eq_self.2 (fun y hy => by simp [e4 y hy])]; simp [e3]
  refine exec_loopU (σ := Nat × Nat × Mem) (fun (i, j, _) => [(5, .int .i64 i), (6, .int .i64 j)]) (fun (_, _, M) => M) (fun (i, j, M) => DelI m q i0 (sz + 1) es full p i j M) (fun (_, j, _) => es.length - j) (ii, ii + 1, m) rfl
    ⟨by omega, by omega, by rw [hf0]; simp; omega, ⟨full, h2, rfl, fun x hx => by rw [hf0, h4 x (by omega), List.getElem?_take_of_lt hx], fun x _ hx => h4 x hx⟩, Nat.le_refl _, fun _ _ _ => rfl⟩ (by simp) ?_
  intro (i, j, M) hI
  obtain ⟨f, r1, r2, r3, r4⟩ := hI.row
  have hij := hI.ij
  have hnx := hI.next
  have hjn := hI.jn
  have hilen := hI.len
  by_cases hj : j < es.length
  · obtain ⟨x, hx⟩ : ∃ x, es[j]? = some x := ⟨_, List.getElem?_eq_getElem hj⟩
    have hxm := mem_of_idx hx
    obtain ⟨hx1, hx2⟩ := hes x hxm
    have c1 := r4 j hij hj
    rw [hx] at c1
    have c0 := loadV_ok r1 c1 hx1
    have c2 : allocV M z = _ := allocV_ok hz hc
    have c4 := storeV_ok (m := M.new (.row (sz + 1) [z] true)) (r := M.next) (i := 0) (es := [z]) (cs := z) (y := x) (sz := sz + 1) (by simp) rfl hz hx1 hx2
    simp only [List.set_cons_zero, upd_new'] at c4
    have c5 := fun (m2 : Mem) (o : m2.obj M.next = some (.row (sz + 1) [x] true)) => loadV_ok (m := m2) (r := M.next) (i := 0) (es := [x]) (cs := x) (sz := sz + 1) (rw := true) o rfl hx1
    have c3 := hp (M.new (.row (sz + 1) [x] true))
    have gN := Mem.Grew.new M (.row (sz + 1) [x] true)
    have oN : (M.new (.row (sz + 1) [x] true)).obj M.next = some (.row (sz + 1) [x] true) := by simp
    have bN : M.next < (M.new (.row (sz + 1) [x] true)).next := by simp
    have c50 := c5 _ oN
    cases hpx : p x with
    | true =>
      simp (disch := omega) [-getElem?_pos, -allocV_def, -storeV_ptr, -loadV_ptr, c0, c2, c4, c50]
      generalize M.new (.row (sz + 1) [x] true) = MN at *
      refine c3 _ x hxm fun M2 g2 => ?_
      rw [hpx]
      simp (disch := omega) [-getElem?_pos]
      refine again_mk (i, j + 1, M2) ?_ (by dsimp only; omega) (by simp) rfl
      have hf : (es.take (j + 1)).filter (fun x => !p x) = (es.take j).filter (fun x => !p x) := by rw [takeS hx, List.filter_append]; simp [hpx]
      obtain ⟨_, _, _, ⟨f, r1, r2, r3, r4⟩, _, hob⟩ := hI.grow h1 (gN.trans g2)
      show DelI m q i0 (sz + 1) es full p i (j + 1) _
      exact ⟨by omega, by omega, by rw [hf]; exact hI.len, ⟨f, r1, r2, fun y hy => by rw [hf]; exact r3 y hy, r4⟩, by have := (gN.trans g2).next; omega, hob⟩
    | false =>
      obtain ⟨w, hw⟩ : ∃ w, es[i]? = some w := ⟨_, List.getElem?_eq_getElem (by omega)⟩
      have hwl := (hes w (mem_of_idx hw)).1
      simp (disch := omega) [-getElem?_pos, -allocV_def, -storeV_ptr, -loadV_ptr, c0, c2, c4, c50]
      generalize M.new (.row (sz + 1) [x] true) = MN at *
      refine c3 _ x hxm fun M2 g2 => ?_
      rw [hpx]
      obtain ⟨_, _, _, ⟨f, r1, r2, r3, r4⟩, hn2, hob⟩ := hI.grow h1 (gN.trans g2)
      have c6 := r4 i (Nat.le_refl _) (by omega)
      rw [hw] at c6
      have c7 := storeV_ok (m := M2) (r := q) (i := i0 + i) (es := f) (cs := w) (y := x) (sz := sz + 1) r1 c6 hwl hx1 hx2
      have c52 := c5 M2 (by rw [g2.obj _ bN]; exact oN)
      simp (disch := omega) [-getElem?_pos, -allocV_def, -storeV_ptr, -loadV_ptr, c52, c7]
      refine again_mk (i + 1, j + 1, M2.upd q (some (.row (sz + 1) (f.set (i0 + i) x) true))) ?_ (by dsimp only; omega) (by simp) rfl
      have hf : (es.take (j + 1)).filter (fun x => !p x) = (es.take j).filter (fun x => !p x) ++ [x] := by rw [takeS hx, List.filter_append]; simp [hpx]
      show DelI m q i0 (sz + 1) es full p (i + 1) (j + 1) _
      refine ⟨by omega, by omega, by rw [hf]; simp; exact hI.len, ⟨f.set (i0 + i) x, by simp, by simp; exact r2, fun y hy => ?_, fun y h1 h2 => ?_⟩, by simp; omega, fun r h1 h2 => by rw [upd_obj, if_neg h2]; exact hob r h1 h2⟩
      · rw [hf]
        by_cases hy2 : y = i
        · subst hy2
          rw [List.getElem?_set_self (by omega), List.getElem?_append_right (by omega), hilen]; simp
        · rw [List.getElem?_set_ne (by omega), r3 y (by omega), List.getElem?_append_left (by omega)]
      · rw [List.getElem?_set_ne (by omega)]; exact r4 y (by omega) h2
  · have hj2 : j = es.length := by omega
    subst hj2
    rw [List.take_length] at r3 hilen
    have e5 := sliceX_L (sz + 1) q i0 es.length i c .i64 (by omega)
    have e6 := sliceX_R (sz + 1) q i0 es.length i c .i64 (by omega)
    simp (disch := omega) [-sliceX_sl, e5]
    refine clearX_at (sz := sz + 1) (full := f) r1 (by omega) hz (by simpa using hc) ?_
    have pl := patch_length f (List.replicate (es.length - i) z) (i0 + i) (by simp; omega)
    have pg := fun j => patch_get f (List.replicate (es.length - i) z) (i0 + i) j (by simp; omega)
    simp only [List.length_replicate] at pl pg
    generalize f.take (i0 + i) ++ List.replicate (es.length - i) z ++ f.drop (i0 + i + (es.length - i)) = f2 at *
    simp (disch := omega) [-sliceX_sl, e6]
    refine k _ _ ⟨.inr ⟨q, i0, f2, c, by rw [hilen], by simp; omega, by simp, by omega, fun x hx => ?_, fun k hk => ?_⟩⟩ ⟨by simp; omega, fun r hr hd => ?_, fun r hr => .inl hr⟩ rfl
    · rw [hilen] at hx
      rw [pg, if_pos (by omega)]; exact r3 x hx
    · have := h5 k hk
      omega
    · have : r ≠ q := fun e => hd (by simp [V.fp, e])
      rw [upd_obj, if_neg this]; exact hI.obj r hr this

end Go.AM
