/-
  THE ABSTRACT MACHINE AND THE MODEL: A REGION THAT DRAWS ITS ORDER: the orders that the plain machine walks stand for all. No Go program here.
-/
import Derived.Test.YtkcpojagecfcbaaGreatDoorAm11
namespace Go.AM
open Go
set_option linter.unusedVariables false
section
variable {P : Program} {base : Nat} {w0 : World} {Γ : Ctx}
def un (L : Array Bool) (i : Nat) : Prop := L.getD i true = false
theorem un_lt {L : Array Bool} {i : Nat} (h : un L i) : i < L.size := by
  unfold un at h
  rcases Nat.lt_or_ge i L.size with h' | h'
  · exact h'
  · simp [Array.getElem?_eq_none h'] at h
theorem not_un {L : Array Bool} {i : Nat} (h : L.getD i false = true) : ¬ un L i := by
  intro hu
  have hl := un_lt hu
  unfold un at hu
  simp [hl] at h hu
  rw [h] at hu; cases hu
theorem listed_of_not_un {L : Array Bool} {i : Nat} (hi : i < L.size) (h : ¬ un L i) : L.getD i false = true := by
  unfold un at h
  simp [hi] at h ⊢
  exact h
theorem un_set {L : Array Bool} {i j : Nat} (h : un (L.setIfInBounds i true) j) : un L j ∧ j ≠ i := by
  by_cases e : i = j
  · subst e
    have hl := un_lt h
    unfold un at h
    simp at hl
    simp [hl] at h
  · unfold un at h ⊢; rw [getD_set_ne true e] at h; exact ⟨h, Ne.symm e⟩
theorem un_of_set {L : Array Bool} {i j : Nat} (h : un L j) (hne : j ≠ i) : un (L.setIfInBounds i true) j := by
  unfold un at h ⊢; rw [getD_set_ne true (Ne.symm hne)]; exact h
/-- How many haven't come. -/
def cnt (L : Array Bool) : Nat := (L.toList.filter (!·)).length
theorem cnt_list : ∀ (l : List Bool) (i : Nat), l[i]? = some false → ((l.set i true).filter (!·)).length + 1 = (l.filter (!·)).length
  | [], i, h => by simp at h
  | b :: l, 0, h => by simp at h; subst h; simp
  | b :: l, i + 1, h => by
    have := cnt_list l i (by simpa using h)
    cases b <;> simp <;> omega
theorem cnt_set {L : Array Bool} {i : Nat} (h : un L i) : cnt (L.setIfInBounds i true) + 1 = cnt L := by
  have hl := un_lt h
  unfold un at h
  simp [hl] at h
  unfold cnt
  rw [Array.toList_setIfInBounds]
  exact cnt_list _ _ (by rw [Array.getElem?_toList, Array.getElem?_eq_getElem hl, h])
theorem cnt_zero {L : Array Bool} (h : cnt L = 0) (i : Nat) : ¬ un L i := by
  intro hu
  have := cnt_set hu
  omega
/-- The text of a region, and what is known of it by looking. -/
structure RegOk (P : Program) (ops : Array Oper) (ios : Array IOp) (bf : Array Nat) (n : Nat) : Prop where
  ios : ios = ops.map (compOper P ops)
  back : edgesBack ops = true
  bef : beforeOk ops bf = true
  dst : ∀ (j : Nat) (o : Oper), ops[j]? = some o → ∀ d, o.dst = some d → d < n
def closed (ops : Array Oper) (L : Array Bool) : Prop := ∀ (j : Nat) (o : Oper), ops[j]? = some o → ¬ un L j → ∀ e ∈ o.after, Region.binds .any e = true → ¬ un L e.on
theorem waits_closed {ops : Array Oper} {ios : Array IOp} {bf : Array Nat} {n : Nat} (ok : RegOk P ops ios bf n) {L : Array Bool} (hL : closed ops L) (hs : L.size = ops.size) : ∀ (j i : Nat), j < ops.size → ¬ un L j → waits bf j i = true → ¬ un L i := by
  intro j
  induction j using Nat.strongRecOn with
  | _ j ih =>
    intro i hj hun hw hui
    have hi : i < ops.size := by have := un_lt hui; omega
    have h1 := List.all_eq_true.1 (List.all_eq_true.1 ok.bef j (List.mem_range.2 hj)) i (List.mem_range.2 hi)
    rw [hw] at h1
    simp only [Bool.not_true, Bool.false_or] at h1
    split at h1
    · rename_i o ho
      obtain ⟨e, he, hb⟩ := Array.any_eq_true'.1 h1
      simp only [Bool.and_eq_true, Bool.or_eq_true, beq_iff_eq, decide_eq_true_eq] at hb
      obtain ⟨⟨hb1, hb2⟩, hb3⟩ := hb
      have hne := hL j o ho hun e he hb1
      rcases hb2 with hb2 | hb2
      · rw [hb2] at hne; exact hne hui
      · exact ih e.on hb3 i (by omega) hne hb2 hui
    · cases h1
/-- Of one that is ready all that it waits for has come. -/
theorem waits_ready {ops : Array Oper} {ios : Array IOp} {bf : Array Nat} {n : Nat} (ok : RegOk P ops ios bf n) {L : Array Bool} (hL : closed ops L) (hs : L.size = ops.size) {j i : Nat} (hr : j ∈ Region.ready .any ops L) (hw : waits bf j i = true) : ¬ un L i := by
  intro hui
  obtain ⟨hj, o, ho, hall⟩ := mem_ready.1 hr
  have hjl : j < ops.size := (Array.getElem?_eq_some_iff.1 ho).1
  have hi : i < ops.size := by have := un_lt hui; omega
  have h1 := List.all_eq_true.1 (List.all_eq_true.1 ok.bef j (List.mem_range.2 hjl)) i (List.mem_range.2 hi)
  rw [hw] at h1
  simp only [Bool.not_true, Bool.false_or] at h1
  rw [ho] at h1
  obtain ⟨e, he, hb⟩ := Array.any_eq_true'.1 h1
  simp only [Bool.and_eq_true, Bool.or_eq_true, beq_iff_eq, decide_eq_true_eq] at hb
  obtain ⟨⟨hb1, hb2⟩, hb3⟩ := hb
  have hne := not_un (hall e he hb1)
  rcases hb2 with hb2 | hb2
  · rw [hb2] at hne; exact hne hui
  · exact waits_closed ok hL hs e.on i (by omega) hne hb2 hui
theorem closed_set {ops : Array Oper} {L : Array Bool} (hL : closed ops L) {i : Nat} (hr : i ∈ Region.ready .any ops L) : closed ops (L.setIfInBounds i true) := by
  obtain ⟨hi, oi, hoi, hall⟩ := mem_ready.1 hr
  intro j o ho hun e he hb hue
  have hue' := (un_set hue).1
  by_cases hji : j = i
  · subst hji
    rw [hoi] at ho; injection ho with ho; subst ho
    exact not_un (hall e he hb) hue'
  · exact hL j o ho (fun h => hun (un_of_set h hji)) e he hb hue'
/-- What an operation that came ahead has answered. -/
def Held (Γ : Ctx) (o : IOp) (e : Env) (m : Mem) : Prop :=
  ∃ v, (∀ d, o.dst = some d → e d = v) ∧
    ((gwant o.guard e = some true ∧ ((o.op.cls = 0 ∧ ∀ m', Ans Γ o.op e m' v) ∨ (o.op.cls = 1 ∧ Ans Γ o.op e m v))) ∨ (gwant o.guard e = some false ∧ v = .tup []))
theorem looks_op {o : IOp} {t : Nat} (h : t ∈ slotsOf o.op.opds) : t ∈ o.looks := List.mem_append_left _ h
theorem looks_guard {o : IOp} {d : Nat} {b : Bool} (h : o.guard = some (d, b)) : d ∈ o.looks := List.mem_append_right _ (by rw [h]; simp)
theorem gwant_congr {o : IOp} {e e' : Env} (h : ∀ t ∈ o.looks, e t = e' t) : gwant o.guard e = gwant o.guard e' := by
  cases hg : o.guard with
  | none => rfl
  | some g => obtain ⟨d, b⟩ := g; simp only [gwant]; rw [h d (looks_guard hg)]
theorem ans_congr {o : IOp} {e e' : Env} {m : Mem} {v : V} (h : ∀ t ∈ o.looks, e t = e' t) (k : Ans Γ o.op e m v) : Ans Γ o.op e' m v := fun K hK => by
  rw [← opx_congr (fun t ht => h t (looks_op ht))]; exact k K hK
theorem Held.congr {o : IOp} {e e' : Env} {m : Mem} (h : ∀ t ∈ o.looks, e t = e' t) (hd : ∀ d, o.dst = some d → e d = e' d) (k : Held Γ o e m) : Held Γ o e' m := by
  obtain ⟨v, h1, h2⟩ := k
  refine ⟨v, fun d hdd => by rw [← hd d hdd]; exact h1 d hdd, ?_⟩
  rw [← gwant_congr h]
  rcases h2 with ⟨h2, h3⟩ | h2
  · exact .inl ⟨h2, h3.imp (fun ⟨a, b⟩ => ⟨a, fun m' => ans_congr h (b m')⟩) (fun ⟨a, b⟩ => ⟨a, ans_congr h b⟩)⟩
  · exact .inr h2
theorem Held.mem {o : IOp} {e : Env} {m m' : Mem} (k : Held Γ o e m) (hc : o.op.cls = 0) : Held Γ o e m' := by
  obtain ⟨v, h1, h2⟩ := k
  refine ⟨v, h1, ?_⟩
  rcases h2 with ⟨h2, ⟨h3, h4⟩ | ⟨h3, h4⟩⟩ | h2
  · exact .inl ⟨h2, .inl ⟨h3, h4⟩⟩
  · omega
  · exact .inr h2
theorem Held.new {o : IOp} {e : Env} {m m' : Mem} (k : Held Γ o e m) (hk : ∀ q x, m.obj q = some x → m'.obj q = some x) : Held Γ o e m' := by
  obtain ⟨v, h1, h2⟩ := k
  refine ⟨v, h1, ?_⟩
  rcases h2 with ⟨h2, ⟨h3, h4⟩ | ⟨h3, h4⟩⟩ | h2
  · exact .inl ⟨h2, .inl ⟨h3, h4⟩⟩
  · exact .inl ⟨h2, .inr ⟨h3, read_keep h3 hk h4⟩⟩
  · exact .inr h2
/-- The state in the middle of a region: L has come, L' in the plain machine. -/
structure Mid (P : Program) (base : Nat) (w0 : World) (Γ : Ctx) (ops : Array Oper) (ios : Array IOp) (bf : Array Nat) (n : Nat) (L L' : Array Bool) (β : Pl) (e : Env) (m : Mem) (a : Act) (w : World) : Prop where
  size : L.size = ops.size
  size' : L'.size = ops.size
  sub : ∀ i, un L' i → un L i
  cl : closed ops L
  cl' : closed ops L'
  held : ∀ (p : Nat) (o : IOp), un L p → ¬ un L' p → ios[p]? = some o → o.op.cls ≤ 1 ∧ (∀ d, o.dst = some d → d ∉ o.looks) ∧ Held Γ o e m ∧
    (∀ (j : Nat) (oj : IOp), j ≠ p → ios[j]? = some oj → (∀ d, o.dst = some d → oj.dst ≠ some d) ∧ (waits bf j p = true ∨ ∀ d, o.dst = some d → d ∉ oj.looks)) ∧
    (∀ (j : Nat) (oj : IOp), un L' j → ios[j]? = some oj → waits bf j p = true ∨ ((∀ d, oj.dst = some d → d ∉ o.looks) ∧ (o.op.cls = 0 ∨ oj.op.cls ≤ 1 ∨ oj.op.adds = true)))
  env : ∀ t, (∃ p o, un L p ∧ ¬ un L' p ∧ ios[p]? = some o ∧ o.dst = some t) ∨ VR β (e t) (a.tmps.getD t undef)
  mr : MR base w0 β m w
  tmps : a.tmps.size = n
  defers : a.defers = []
theorem clear_spec {x y : IOp} (h : x.clearOf y = true) : ∀ d, x.dst = some d → d ∉ y.looks := by
  intro d hd; simpa [IOp.clearOf, hd] using h
theorem ne_spec {x y : IOp} (h : x.dstNe y = true) : ∀ d, x.dst = some d → y.dst ≠ some d := by
  intro d hd; simpa [IOp.dstNe, hd] using h
variable {ops : Array Oper} {ios : Array IOp} {bf : Array Nat} {n : Nat}
/-- The slots at which one that is ready looks hold what they are to hold. -/
theorem Mid.looks (ok : RegOk P ops ios bf n) {L L' : Array Bool} {β : Pl} {e : Env} {m : Mem} {a : Act} {w : World} (h : Mid P base w0 Γ ops ios bf n L L' β e m a w) {i : Nat} {o : IOp} (hr : i ∈ Region.ready .any ops L) (ho : ios[i]? = some o) :
    ∀ t ∈ o.looks, VR β (e t) (a.tmps.getD t undef) := by
  intro t ht
  rcases h.env t with ⟨p, op, h1, h2, h3, h4⟩ | hv
  · exfalso
    have hui : un L i := (mem_ready.1 hr).1
    by_cases hip : i = p
    · subst hip
      rw [ho] at h3; injection h3 with h3; subst h3
      exact (h.held i o h1 h2 ho).2.1 t h4 ht
    · obtain ⟨_, _, _, hall, _⟩ := h.held p op h1 h2 h3
      rcases (hall i o hip ho).2 with hw | ha
      · exact waits_ready ok h.cl h.size hr hw h1
      · exact ha t h4 ht
  · exact hv
/-- The environment, but for what an operation doesn't look at. -/
def only (e : Env) (l : List Nat) : Env := fun t => if t ∈ l then e t else .undef
theorem only_in {e : Env} {l : List Nat} {t : Nat} (h : t ∈ l) : only e l t = e t := by simp [only, h]
theorem only_rel {β : Pl} {e : Env} {l : List Nat} {tm : Array Value} (h : ∀ t ∈ l, VR β (e t) (tm.getD t undef)) : EnvR β (only e l) tm := fun t => by
  unfold only; split
  · rename_i ht; exact h t ht
  · simp [VR]
/-- An operation that is ready is carried out. -/
theorem Mid.act (hΓ : CtxOk P Γ) (ok : RegOk P ops ios bf n) {L L' : Array Bool} {β : Pl} {e : Env} {m : Mem} {a : Act} {w : World} (h : Mid P base w0 Γ ops ios bf n L L' β e m a w) {i : Nat} {o : IOp} {go : Oper}
    (hr : i ∈ Region.ready .any ops L) (ho : ios[i]? = some o) (hgo : ops[i]? = some go) {K : KV} {next : Act → World → Prop} {Q : Exit → Act → World → Prop}
    (hk : (gwant o.guard e = some true ∧ opx Γ o.op e m K) ∨ (gwant o.guard e = some false ∧ K (.tup []) m))
    (hn : ∀ β' v u m' w', Pl.le β β' → VR β' v u → MR base w0 β' m' w' → K v m' → next (a.put go.dst u) w') : wpOp P ops Q i next a w := by
  have hlk := h.looks ok hr ho
  have hio : o = compOper P ops go := by
    rw [ok.ios, Array.getElem?_map, hgo] at ho; simp at ho; exact ho.symm
  unfold wpOp
  simp only [hgo]
  rcases compOper_cases P ops go with ⟨hb, hg0⟩ | hnb
  · rw [← hio] at hb hg0
    rcases hk with ⟨hg, hk⟩ | ⟨hg, hk⟩
    · rw [hb] at hk; exact hk.elim
    · rw [hg0] at hg; simp [gwant] at hg
  · have hE := only_rel hlk
    have hgw : ∀ b, gwant o.guard e = some b → Region.wanted go (yielded ops a.tmps) = b := by
      intro b hb
      refine gwant_rel (β := β) (e := e) hnb (fun d b' hd => ?_) (by rw [← hio]; exact hb)
      exact hlk d (looks_guard (by rw [hio]; exact hd))
    rcases hk with ⟨hg, hk⟩ | ⟨hg, hk⟩
    · rw [hgw true hg]; simp only [if_true]
      left
      have hk' : opx Γ (compOp P go.op) (only e o.looks) m K := by
        have h1 : o.op = compOp P go.op := by rw [hio]; exact hnb.1
        rw [← h1, opx_congr (e' := e) (fun t ht => only_in (looks_op ht))]; exact hk
      exact (op_sound hΓ hE h.mr hk').wp (fun v w' ⟨β', r, m', g1, g2, g3, g4⟩ => hn β' r v m' w' g1 g2 g3 g4)
    · rw [hgw false hg]; simp only [Bool.false_eq_true, if_false]
      exact hn β (.tup []) undef m w (Pl.le_refl _) (by simp [VR, VRs, undef]) h.mr hk
theorem put_dst {a : Act} {o : Option Nat} {u : Value} {t : Nat} : (a.put o u).tmps.getD t undef = if o = some t ∧ t < a.tmps.size then u else a.tmps.getD t undef := by
  cases o with
  | none => simp [Act.put]
  | some d =>
    by_cases h : d = t
    · subst h
      by_cases hl : d < a.tmps.size
      · simp [Act.put, hl]
      · simp [Act.put, hl]
    · have : ¬ (some d = some t ∧ t < a.tmps.size) := fun hh => h (by simpa using hh.1)
      rw [if_neg this]
      simp only [Act.put, Array.getD_eq_getD_getElem?, Array.getElem?_setIfInBounds_ne h]
theorem env_put {e : Env} {o : Option Nat} {v : V} {t : Nat} : (e.put o v) t = if o = some t then v else e t := by
  cases o with
  | none => simp [Env.put]
  | some d =>
    simp only [Env.put, Option.some.injEq]
    by_cases h : t = d
    · simp [h]
    · simp [h, Ne.symm h]
theorem foldl_alt {Γ : Ctx} {e : Env} {m : Mem} {K : Env → Mem → Prop} {f : Nat → DTree} : ∀ (l : List Nat) (t0 : DTree), dexec Γ (l.foldl (fun t j => .alt t (f j)) t0) e m K → dexec Γ t0 e m K ∧ ∀ j ∈ l, dexec Γ (f j) e m K
  | [], t0, h => ⟨h, fun j hj => by cases hj⟩
  | i :: l, t0, h => by
    obtain ⟨h1, h2⟩ := foldl_alt l _ h
    simp only [dexec] at h1
    refine ⟨h1.1, fun j hj => ?_⟩
    rcases List.mem_cons.1 hj with rfl | hj
    · exact h1.2
    · exact h2 j hj
theorem dexec_op {o : IOp} {t : DTree} {e : Env} {m : Mem} {K : Env → Mem → Prop} (h : dexec Γ (.op o t) e m K) : (gwant o.guard e = some true ∧ opx Γ o.op e m fun v m' => dexec Γ t (e.put o.dst v) m' K) ∨ (gwant o.guard e = some false ∧ dexec Γ t (e.put o.dst (.tup [])) m K) := by
  simp only [dexec] at h
  split at h
  · rename_i hg; exact .inl ⟨hg, h⟩
  · rename_i hg; exact .inr ⟨hg, h⟩
  · exact h.elim
/-- The state goes on: a ready operation has come in both. -/
theorem Mid.step (ok : RegOk P ops ios bf n) {L L' : Array Bool} {β β' : Pl} {e : Env} {m m' : Mem} {a : Act} {w w' : World} (h : Mid P base w0 Γ ops ios bf n L L' β e m a w) {i : Nat} {o : IOp} {go : Oper}
    (hr : i ∈ Region.ready .any ops L) (hi' : un L' i) (ho : ios[i]? = some o) (hgo : ops[i]? = some go) (hdst : o.dst = go.dst) {v : V} {u : Value} (hle : Pl.le β β') (hv : VR β' v u) (hM : MR base w0 β' m' w') (hm : m' = m ∨ (∃ x, m' = m.new x) ∨ (2 ≤ o.op.cls ∧ o.op.adds = false)) :
    Mid P base w0 Γ ops ios bf n (L.setIfInBounds i true) (L'.setIfInBounds i true) β' (e.put o.dst v) m' (a.put go.dst u) w' := by
  have hui : un L i := (mem_ready.1 hr).1
  refine ⟨by simp [h.size], by simp [h.size'], fun j hj => ?_, closed_set h.cl hr, ?_, ?_, ?_, hM, ?_, ?_⟩
  · obtain ⟨h1, h2⟩ := un_set hj; exact un_of_set (h.sub j h1) h2
  · refine closed_set h.cl' (mem_ready.2 ⟨hi', ?_⟩)
    obtain ⟨_, oi, hoi, hall⟩ := mem_ready.1 hr
    refine ⟨oi, hoi, fun ed he hb => ?_⟩
    have hne := not_un (hall ed he hb)
    have hlt : ed.on < L'.size := by
      rw [h.size']
      have hl := hall ed he hb
      rcases Nat.lt_or_ge ed.on L.size with hlt | hge
      · rw [← h.size]; exact hlt
      · simp [Array.getElem?_eq_none hge] at hl
    exact listed_of_not_un hlt (fun hh => hne (h.sub _ hh))
  · intro p op hp hp' hop
    obtain ⟨hp1, hpi⟩ := un_set hp
    have hp2 : ¬ un L' p := fun hh => hp' (un_of_set hh hpi)
    obtain ⟨c1, c2, c3, c4, c5⟩ := h.held p op hp1 hp2 hop
    have hap : (∀ d, o.dst = some d → d ∉ op.looks) ∧ (op.op.cls = 0 ∨ o.op.cls ≤ 1 ∨ o.op.adds = true) := by
      rcases c5 i o hi' ho with hw | hh
      · exact absurd hp1 (waits_ready ok h.cl h.size hr hw)
      · exact hh
    refine ⟨c1, c2, ?_, c4, fun j oj hj hoj => c5 j oj (un_set hj).1 hoj⟩
    have c3' : Held Γ op (e.put o.dst v) m := by
      refine c3.congr (fun t ht => ?_) (fun d hd => ?_)
      · rw [env_put]
        by_cases hh : o.dst = some t
        · exact absurd ht (hap.1 t hh)
        · rw [if_neg hh]
      · rw [env_put]
        by_cases hh : o.dst = some d
        · exact absurd hh ((c4 i o (Ne.symm hpi) ho).1 d hd)
        · rw [if_neg hh]
    rcases hm with hm | ⟨x, hm⟩ | ⟨hm, hm2⟩
    · rw [hm]; exact c3'
    · rw [hm]
      refine c3'.new (fun q y hq => ?_)
      have := h.mr.fresh q y hq
      simp only [Mem.new]
      rw [if_neg (by omega)]; exact hq
    · refine c3'.mem ?_
      rcases hap.2 with hh | hh | hh
      · exact hh
      · omega
      · rw [hm2] at hh; cases hh
  · intro t
    rw [env_put, put_dst]
    by_cases hh : o.dst = some t
    · right
      have hlt : t < a.tmps.size := by rw [h.tmps]; exact ok.dst i go hgo t (by rw [← hdst]; exact hh)
      rw [if_pos hh, if_pos ⟨by rw [← hdst]; exact hh, hlt⟩]; exact hv
    · rw [if_neg hh, if_neg (fun hc => hh (by rw [hdst]; exact hc.1))]
      rcases h.env t with ⟨p, op, h1, h2, h3, h4⟩ | hvv
      · left
        have hpi : p ≠ i := fun e => h2 (by rw [e]; exact hi')
        exact ⟨p, op, un_of_set h1 hpi, fun hc => h2 (un_set hc).1, h3, h4⟩
      · exact .inr (VR.mono hle _ _ hvv)
  · cases go.dst <;> simp [Act.put, h.tmps]
  · cases go.dst <;> simpa [Act.put] using h.defers
/-- One that came ahead comes now. -/
theorem Mid.catch_up (ok : RegOk P ops ios bf n) {L L' : Array Bool} {β β' : Pl} {e : Env} {m : Mem} {a : Act} {w w' : World} (h : Mid P base w0 Γ ops ios bf n L L' β e m a w) {i : Nat} {o : IOp} {go : Oper}
    (hr : i ∈ Region.ready .any ops L) (hi' : ¬ un L' i) (ho : ios[i]? = some o) (hgo : ops[i]? = some go) (hdst : o.dst = go.dst) {v : V} {u : Value} (hle : Pl.le β β') (hv : VR β' v u) (hM : MR base w0 β' m w') (hval : ∀ d, o.dst = some d → e d = v) :
    Mid P base w0 Γ ops ios bf n (L.setIfInBounds i true) L' β' e m (a.put go.dst u) w' := by
  have hui : un L i := (mem_ready.1 hr).1
  refine ⟨by simp [h.size], h.size', fun j hj => ?_, closed_set h.cl hr, h.cl', ?_, ?_, hM, ?_, ?_⟩
  · exact un_of_set (h.sub j hj) (fun e => hi' (by rw [← e]; exact hj))
  · intro p op hp hp' hop
    obtain ⟨hp1, hpi⟩ := un_set hp
    exact h.held p op hp1 hp' hop
  · intro t
    rw [put_dst]
    by_cases hh : o.dst = some t
    · right
      have hlt : t < a.tmps.size := by rw [h.tmps]; exact ok.dst i go hgo t (by rw [← hdst]; exact hh)
      rw [if_pos ⟨by rw [← hdst]; exact hh, hlt⟩, hval t hh]; exact hv
    · rw [if_neg (fun hc => hh (by rw [hdst]; exact hc.1))]
      rcases h.env t with ⟨p, op, h1, h2, h3, h4⟩ | hvv
      · left
        have hpi : p ≠ i := fun e => by
          subst e
          rw [ho] at h3; injection h3 with h3; subst h3
          exact hh h4
        exact ⟨p, op, un_of_set h1 hpi, h2, h3, h4⟩
      · exact .inr (VR.mono hle _ _ hvv)
  · cases go.dst <;> simp [Act.put, h.tmps]
  · cases go.dst <;> simpa [Act.put] using h.defers
/-- The plain machine goes ahead. -/
theorem Mid.ahead (ok : RegOk P ops ios bf n) {L L' : Array Bool} {β : Pl} {e : Env} {m : Mem} {a : Act} {w : World} (h : Mid P base w0 Γ ops ios bf n L L' β e m a w) {i : Nat} {o : IOp}
    (hr : i ∈ Region.ready .any ops L') (ho : ios[i]? = some o) (heag : eager ios bf L' i = true) {v : V} (hheld : (gwant o.guard e = some true ∧ ((o.op.cls = 0 ∧ ∀ m', Ans Γ o.op e m' v) ∨ (o.op.cls = 1 ∧ Ans Γ o.op e m v))) ∨ (gwant o.guard e = some false ∧ v = .tup [])) :
    Mid P base w0 Γ ops ios bf n L (L'.setIfInBounds i true) β (e.put o.dst v) m a w := by
  have hui' : un L' i := (mem_ready.1 hr).1
  have hui : un L i := h.sub i hui'
  unfold eager at heag
  rw [ho] at heag
  simp only [Bool.and_eq_true, decide_eq_true_eq, List.all_eq_true, List.mem_range] at heag
  obtain ⟨⟨hcls, hself⟩, hall⟩ := heag
  have hself' := clear_spec hself
  have hrel : ∀ (j : Nat) (oj : IOp), j ≠ i → ios[j]? = some oj → (∀ d, o.dst = some d → oj.dst ≠ some d) ∧ (waits bf j i = true ∨ ((∀ d, o.dst = some d → d ∉ oj.looks) ∧ (un L' j → (∀ d, oj.dst = some d → d ∉ o.looks) ∧ (o.op.cls = 0 ∨ oj.op.cls ≤ 1 ∨ oj.op.adds = true)))) := by
    intro j oj hji hoj
    have hjl : j < ios.size := (Array.getElem?_eq_some_iff.1 hoj).1
    have := hall j hjl
    rw [hoj] at this
    simp only [Bool.or_eq_true, beq_iff_eq, Bool.and_eq_true, decide_eq_true_eq] at this
    rcases this with this | ⟨h1, h2⟩
    · exact absurd this hji
    · refine ⟨ne_spec h1, ?_⟩
      rcases h2 with h2 | ⟨h2, h3⟩
      · exact .inl h2
      · refine .inr ⟨clear_spec h2, fun hu => ?_⟩
        rcases h3 with h3 | ⟨h3, h4⟩
        · unfold un at hu; rw [hu] at h3; cases h3
        · exact ⟨clear_spec h3, h4.elim (fun h4 => h4.elim .inl (fun h => .inr (.inl h))) (fun h => .inr (.inr h))⟩
  refine ⟨h.size, by simp [h.size'], fun j hj => h.sub j (un_set hj).1, h.cl, closed_set h.cl' hr, ?_, ?_, h.mr, h.tmps, h.defers⟩
  · intro p op hp hp' hop
    by_cases hpi : p = i
    · subst hpi
      rw [ho] at hop; injection hop with hop; subst hop
      refine ⟨hcls, hself', ?_, fun j oj hjp hoj => ?_, fun j oj hj hoj => ?_⟩
      · have hlk : ∀ t ∈ o.looks, e t = (e.put o.dst v) t := fun t ht => by
          rw [env_put]
          by_cases hh : o.dst = some t
          · exact absurd ht (hself' t hh)
          · rw [if_neg hh]
        refine ⟨v, fun d hd => by rw [env_put, if_pos hd], ?_⟩
        rw [← gwant_congr hlk]
        rcases hheld with ⟨h2, h3⟩ | h2
        · exact .inl ⟨h2, h3.imp (fun ⟨a, b⟩ => ⟨a, fun m' => ans_congr hlk (b m')⟩) (fun ⟨a, b⟩ => ⟨a, ans_congr hlk b⟩)⟩
        · exact .inr h2
      · obtain ⟨g1, g2⟩ := hrel j oj hjp hoj
        exact ⟨g1, g2.imp id (fun h => h.1)⟩
      · obtain ⟨hj1, hj2⟩ := un_set hj
        obtain ⟨g1, g2⟩ := hrel j oj hj2 hoj
        exact g2.imp id (fun h => h.2 hj1)
    · have hp2 : ¬ un L' p := fun hh => hp' (un_of_set hh hpi)
      obtain ⟨c1, c2, c3, c4, c5⟩ := h.held p op hp hp2 hop
      refine ⟨c1, c2, ?_, c4, fun j oj hj hoj => c5 j oj (un_set hj).1 hoj⟩
      obtain ⟨g1, g2⟩ := hrel p op hpi hop
      have hpl : p < ops.size := by have := un_lt hp; rw [h.size] at this; exact this
      have g3 : ∀ d, o.dst = some d → d ∉ op.looks := by
        rcases g2 with hw | hh
        · exact absurd hui' (waits_closed ok h.cl' h.size' p i hpl hp2 hw)
        · exact hh.1
      refine c3.congr (fun t ht => ?_) (fun d hd => ?_)
      · rw [env_put]
        by_cases hh : o.dst = some t
        · exact absurd ht (g3 t hh)
        · rw [if_neg hh]
      · rw [env_put]
        by_cases hh : o.dst = some d
        · exact absurd hd (g1 d hh)
        · rw [if_neg hh]
  · intro t
    rw [env_put]
    by_cases hh : o.dst = some t
    · exact .inl ⟨i, o, hui, fun hc => (un_set hc).2 rfl, ho, hh⟩
    · rw [if_neg hh]
      rcases h.env t with ⟨p, op, h1, h2, h3, h4⟩ | hvv
      · exact .inl ⟨p, op, h1, fun hc => h2 (un_set hc).1, h3, h4⟩
      · exact .inr hvv
theorem exists_ready (ok : RegOk P ops ios bf n) {L : Array Bool} (hs : L.size = ops.size) {i : Nat} (hi : un L i) : ∃ j, j ∈ Region.ready .any ops L := by
  induction i using Nat.strongRecOn with
  | _ i ih =>
    have hlt : i < ops.size := by have := un_lt hi; omega
    have hoi : ops[i]? = some ops[i] := Array.getElem?_eq_getElem hlt
    by_cases hall : ∀ e ∈ (ops[i]).after, Region.binds .any e = true → L.getD e.on false = true
    · exact ⟨i, mem_ready.2 ⟨hi, _, hoi, hall⟩⟩
    · have : ∃ e ∈ (ops[i]).after, Region.binds .any e = true ∧ ¬ L.getD e.on false = true := by
        apply Classical.byContradiction
        intro hn
        exact hall fun e he hb => Classical.byContradiction fun hc => hn ⟨e, he, hb, hc⟩
      obtain ⟨e, he, hb, hc⟩ := this
      have h1 := List.all_eq_true.1 ok.back i (List.mem_range.2 hlt)
      rw [hoi] at h1
      have h2 := (Array.all_eq_true'.1 h1) e he
      simp only [hb, Bool.not_true, Bool.false_or, decide_eq_true_eq] at h2
      have hu : un L e.on := by
        apply Classical.byContradiction
        intro hn
        exact hc (listed_of_not_un (by omega) hn)
      exact ih e.on h2 hu
/-- One that came ahead is carried out. -/
theorem catching (hΓ : CtxOk P Γ) (ok : RegOk P ops ios bf n) {L L' : Array Bool} {β : Pl} {e : Env} {m : Mem} {a : Act} {w : World} (h : Mid P base w0 Γ ops ios bf n L L' β e m a w) {i : Nat} (hr : i ∈ Region.ready .any ops L) (hi' : ¬ un L' i)
    {next : Act → World → Prop} {Q : Exit → Act → World → Prop} (hn : ∀ β' a' w', Pl.le β β' → Mid P base w0 Γ ops ios bf n (L.setIfInBounds i true) L' β' e m a' w' → next a' w') : wpOp P ops Q i next a w := by
  have hui : un L i := (mem_ready.1 hr).1
  have hil : i < ops.size := by have := un_lt hui; rw [h.size] at this; exact this
  have hios : ios[i]? = some (compOper P ops ops[i]) := by rw [ok.ios, Array.getElem?_map, Array.getElem?_eq_getElem hil]; rfl
  obtain ⟨c1, c2, ⟨v, hv1, hv2⟩, c4, c5⟩ := h.held i _ hui hi' hios
  refine h.act hΓ ok hr hios (Array.getElem?_eq_getElem hil) (K := fun r m2 => r = v ∧ m2 = m) ?_ (fun β' r u m' w' g1 g2 g3 ⟨g4, g5⟩ => ?_)
  · rcases hv2 with ⟨h2, ⟨h3, h4⟩ | ⟨h3, h4⟩⟩ | ⟨h2, h3⟩
    · exact .inl ⟨h2, h4 m _ ⟨rfl, rfl⟩⟩
    · exact .inl ⟨h2, h4 _ ⟨rfl, rfl⟩⟩
    · exact .inr ⟨h2, h3.symm, rfl⟩
  · subst g4; subst g5
    exact hn β' _ w' g1 (h.catch_up ok hr hi' hios (Array.getElem?_eq_getElem hil) (compOper_dst P ops ops[i]) g1 g2 g3 hv1)
theorem RegQ.mono {β β' : Pl} {K : Env → Mem → Prop} {Q : Exit → Act → World → Prop} (h : RegQ base w0 β n K Q) (hle : Pl.le β β') : RegQ base w0 β' n K Q :=
  fun a' w' e' m' β'' g => h a' w' e' m' β'' (Pl.le_trans hle g)
/-- All has come in the plain machine. -/
theorem finish (hΓ : CtxOk P Γ) (ok : RegOk P ops ios bf n) {Q : Exit → Act → World → Prop} {K : Env → Mem → Prop} : ∀ (k : Nat) {L L' : Array Bool} {β : Pl} {e : Env} {m : Mem} {a : Act} {w : World}, (∀ i, ¬ un L' i) → cnt L ≤ k →
    Mid P base w0 Γ ops ios bf n L L' β e m a w → K e m → RegQ base w0 β n K Q → wpAny P .any ops Q k L a w := by
  have done : ∀ {L L' : Array Bool} {β : Pl} {e : Env} {m : Mem} {a : Act} {w : World}, (∀ i, ¬ un L i) → Mid P base w0 Γ ops ios bf n L L' β e m a w → K e m → RegQ base w0 β n K Q → Q .normal a w := by
    intro L L' β e m a w hL hmid hd hQ
    refine hQ a w e m β (Pl.le_refl _) (fun t => ?_) hmid.mr hmid.defers hmid.tmps hd
    rcases hmid.env t with ⟨p, o, h1, _⟩ | h
    · exact absurd h1 (hL p)
    · exact h
  intro k
  induction k with
  | zero =>
    intro L L' β e m a w hN hk hmid hd hQ
    have hL : ∀ i, ¬ un L i := cnt_zero (by omega)
    refine ⟨?_, done hL hmid hd hQ⟩
    cases hr : Region.ready .any ops L with
    | nil => rfl
    | cons x xs => exact absurd ((mem_ready.1 (by rw [hr]; simp : x ∈ Region.ready .any ops L)).1) (hL x)
  | succ k ih =>
    intro L L' β e m a w hN hk hmid hd hQ
    refine ⟨fun hr => done (fun i hi => ?_) hmid hd hQ, fun i hi => ?_⟩
    · obtain ⟨j, hj⟩ := exists_ready ok hmid.size hi
      rw [hr] at hj; cases hj
    · refine catching hΓ ok hmid hi (hN i) (fun β' a' w' hle hm' => ih hN ?_ hm' hd (hQ.mono hle))
      have := cnt_set (mem_ready.1 hi).1
      omega
theorem drawn (hΓ : CtxOk P Γ) (ok : RegOk P ops ios bf n) {Q : Exit → Act → World → Prop} {K : Env → Mem → Prop} : ∀ (N k : Nat) {L L' : Array Bool} {β : Pl} {e : Env} {m : Mem} {a : Act} {w : World}, cnt L' ≤ N → cnt L ≤ k →
    Mid P base w0 Γ ops ios bf n L L' β e m a w → dexec Γ (mkTree ops ios bf N L') e m K → RegQ base w0 β n K Q → wpAny P .any ops Q k L a w := by
  intro N
  induction N with
  | zero =>
    intro k L L' β e m a w hN hk hmid hd hQ
    simp only [mkTree, dexec] at hd
    exact finish hΓ ok k (cnt_zero (by omega)) hk hmid hd hQ
  | succ N ihN =>
    intro k L L' β e m a w hN hk hmid hd hQ
    unfold mkTree at hd
    split at hd
    · -- one that may be taken at once
      rename_i p hp
      have hpr : p ∈ Region.ready .any ops L' := List.mem_of_find?_eq_some hp
      have hpe : eager ios bf L' p = true := List.find?_some hp
      have hup := (mem_ready.1 hpr).1
      have hpl : p < ops.size := by have := un_lt hup; rw [hmid.size'] at this; exact this
      have hios : ios[p]? = some (ios.getD p default) := by
        have : p < ios.size := by rw [ok.ios]; simpa using hpl
        simp [this]
      have hcls : (ios.getD p default).op.cls ≤ 1 := by
        have := hpe
        unfold eager at this
        rw [hios] at this
        simp only [Bool.and_eq_true, decide_eq_true_eq] at this
        exact this.1.1
      have hc := cnt_set hup
      rcases dexec_op hd with ⟨hg, hop⟩ | ⟨hg, hop⟩
      · by_cases h0 : (ios.getD p default).op.cls = 0
        · obtain ⟨v, hv1, hv2⟩ := opx_pure h0 hop
          exact ihN k (by omega) hk (hmid.ahead ok hpr hios hpe (.inl ⟨hg, .inl ⟨h0, hv2⟩⟩)) hv1 hQ
        · have h1 : (ios.getD p default).op.cls = 1 := by omega
          obtain ⟨v, hv1, hv2⟩ := opx_read h1 hop
          exact ihN k (by omega) hk (hmid.ahead ok hpr hios hpe (.inl ⟨hg, .inr ⟨h1, hv2⟩⟩)) hv1 hQ
      · exact ihN k (by omega) hk (hmid.ahead ok hpr hios hpe (.inr ⟨hg, rfl⟩)) hop hQ
    · split at hd
      · rename_i hr
        simp only [dexec] at hd
        refine finish hΓ ok k (fun i hi => ?_) hk hmid hd hQ
        obtain ⟨j, hj⟩ := exists_ready ok hmid.size' hi
        rw [hr] at hj; cases hj
      · rename_i i0 is hr
        obtain ⟨hd0, hds⟩ := foldl_alt (f := fun j => .op (ios.getD j default) (mkTree ops ios bf N (L'.setIfInBounds j true))) is _ hd
        have hbranch : ∀ j ∈ Region.ready .any ops L', dexec Γ (.op (ios.getD j default) (mkTree ops ios bf N (L'.setIfInBounds j true))) e m K := by
          intro j hj
          rw [hr] at hj
          rcases List.mem_cons.1 hj with rfl | hj
          · exact hd0
          · exact hds j hj
        have hi0 : un L' i0 := (mem_ready.1 (by rw [hr]; simp : i0 ∈ Region.ready .any ops L')).1
        clear hd hd0 hds
        induction k generalizing L β a w with
        | zero => exact absurd (hmid.sub _ hi0) (cnt_zero (by omega) _)
        | succ k ihk =>
          refine ⟨fun hrL => ?_, fun i hi => ?_⟩
          · obtain ⟨j, hj⟩ := exists_ready ok hmid.size (hmid.sub _ hi0)
            rw [hrL] at hj; cases hj
          · have hui := (mem_ready.1 hi).1
            have hcL := cnt_set hui
            by_cases hi' : un L' i
            · have hil : i < ops.size := by have := un_lt hui; rw [hmid.size] at this; exact this
              have hios : ios[i]? = some (ios.getD i default) := by
                have : i < ios.size := by rw [ok.ios]; simpa using hil
                simp [this]
              have hio : ios.getD i default = compOper P ops ops[i] := by
                rw [ok.ios, Array.getElem?_map, Array.getElem?_eq_getElem hil] at hios
                simp at hios
                rw [ok.ios]; simp [hil]
              have hir' : i ∈ Region.ready .any ops L' := by
                obtain ⟨_, o, ho, hall⟩ := mem_ready.1 hi
                refine mem_ready.2 ⟨hi', o, ho, fun ed he hb => ?_⟩
                have h1 := hall ed he hb
                have hlt : ed.on < L'.size := by
                  rw [hmid.size']
                  rcases Nat.lt_or_ge ed.on L.size with hlt | hge
                  · rw [← hmid.size]; exact hlt
                  · simp [Array.getElem?_eq_none hge] at h1
                exact listed_of_not_un hlt (fun hh => not_un h1 (hmid.sub _ hh))
              have hgo : ops[i]? = some ops[i] := Array.getElem?_eq_getElem hil
              have hdst : (ios.getD i default).dst = (ops[i]).dst := by rw [hio]; exact compOper_dst P ops ops[i]
              have hcL' := cnt_set hi'
              have go : ∀ (v : V) (u : Value) (m' : Mem) (w' : World) (β' : Pl), Pl.le β β' → VR β' v u → MR base w0 β' m' w' → (m' = m ∨ (∃ x, m' = m.new x) ∨ (2 ≤ (ios.getD i default).op.cls ∧ (ios.getD i default).op.adds = false)) → dexec Γ (mkTree ops ios bf N (L'.setIfInBounds i true)) (e.put (ios.getD i default).dst v) m' K →
                  wpAny P .any ops Q k (L.setIfInBounds i true) (a.put (ops[i]).dst u) w' := by
                intro v u m' w' β' g1 g2 g3 g4 g5
                exact ihN k (by omega) (by omega) (hmid.step ok hi hi' hios hgo hdst g1 g2 g3 g4) g5 (hQ.mono g1)
              rcases dexec_op (hbranch i hir') with ⟨hg, hop⟩ | ⟨hg, hop⟩
              · by_cases h2 : 2 ≤ (ios.getD i default).op.cls
                · by_cases had : (ios.getD i default).op.adds = true
                  · obtain ⟨v, x, hv1, hv2⟩ := opx_adds had hop
                    refine hmid.act hΓ ok hi hios hgo (K := fun r m2 => r = v ∧ m2 = m.new x) (.inl ⟨hg, hv2 _ ⟨rfl, rfl⟩⟩) (fun β' r u m' w' g1 g2 g3 ⟨g4, g5⟩ => ?_)
                    subst g4; subst g5
                    exact go r u _ w' β' g1 g2 g3 (.inr (.inl ⟨x, rfl⟩)) hv1
                  · exact hmid.act hΓ ok hi hios hgo (.inl ⟨hg, hop⟩) (fun β' v u m' w' g1 g2 g3 g4 => go v u m' w' β' g1 g2 g3 (.inr (.inr ⟨h2, by simpa using had⟩)) g4)
                · have hex : ∃ v, dexec Γ (mkTree ops ios bf N (L'.setIfInBounds i true)) (e.put (ios.getD i default).dst v) m K ∧ Ans Γ (ios.getD i default).op e m v := by
                    by_cases h0 : (ios.getD i default).op.cls = 0
                    · obtain ⟨v, hv1, hv2⟩ := opx_pure h0 hop; exact ⟨v, hv1, hv2 m⟩
                    · exact opx_read (by omega) hop
                  obtain ⟨v, hv1, hv2⟩ := hex
                  refine hmid.act hΓ ok hi hios hgo (K := fun r m2 => r = v ∧ m2 = m) (.inl ⟨hg, hv2 _ ⟨rfl, rfl⟩⟩) (fun β' r u m' w' g1 g2 g3 ⟨g4, g5⟩ => ?_)
                  subst g4; subst g5
                  exact go r u m' w' β' g1 g2 g3 (.inl rfl) hv1
              · refine hmid.act hΓ ok hi hios hgo (K := fun r m2 => r = .tup [] ∧ m2 = m) (.inr ⟨hg, rfl, rfl⟩) (fun β' r u m' w' g1 g2 g3 ⟨g4, g5⟩ => ?_)
                subst g4; subst g5
                exact go _ u m' w' β' g1 g2 g3 (.inl rfl) hop
            · exact catching hΓ ok hmid hi hi' (fun β' a' w' hle hm' => ihk (by omega) hm' (hQ.mono hle))
end
end Go.AM
