/-
  THE ABSTRACT MACHINE RECKONED OUT: a reader that runs code over memory laid out as a list; what it tells is so. No Go program here.
-/
import Derived.Test.YtkcpojagecfcbaaGreatDoorAm16
namespace Go.AM
open Go
set_option linter.unusedVariables false
abbrev LM := List (Option Obj)
def LM.mem (l : LM) : Mem := ⟨fun q => match l[q]? with | some o => o | none => none, l.length⟩
theorem Mem.ext2 {m m' : Mem} (h : ∀ q, m.obj q = m'.obj q) (k : m.next = m'.next) : m = m' := by
  cases m; cases m'
  simp only [Mem.mk.injEq]
  exact ⟨funext h, k⟩
theorem LM.new_mem (l : LM) (o : Obj) : l.mem.new o = LM.mem (l ++ [some o]) := by
  refine Mem.ext2 (fun q => ?_) (by simp [Mem.new, LM.mem])
  by_cases e : q = l.length
  · subst e
    have h1 : (l.mem.new o).obj l.length = some o := if_pos rfl
    rw [h1]; simp [LM.mem]
  · have h1 : (l.mem.new o).obj q = l.mem.obj q := if_neg e
    rw [h1]; simp only [LM.mem]
    rcases Nat.lt_or_ge q l.length with h | h
    · rw [List.getElem?_append_left h]
    · rw [List.getElem?_append_right h]
      have : ([some o] : LM)[q - l.length]? = none := List.getElem?_eq_none (by simp; omega)
      rw [this, List.getElem?_eq_none (by omega)]
theorem LM.upd_mem (l : LM) (r : Nat) (o : Option Obj) (h : r < l.length) : l.mem.upd r o = LM.mem (l.set r o) := by
  refine Mem.ext2 (fun q => ?_) (by simp [Mem.upd, LM.mem])
  by_cases e : q = r
  · subst e
    have h1 : (l.mem.upd q o).obj q = o := if_pos rfl
    rw [h1]; simp [LM.mem, h]
  · have h1 : (l.mem.upd r o).obj q = l.mem.obj q := if_neg e
    rw [h1]; simp only [LM.mem]
    rw [List.getElem?_set_ne (by omega)]
theorem LM.obj_lt {l : LM} {r : Nat} {o : Obj} (h : l.mem.obj r = some o) : r < l.length := by
  simp only [LM.mem] at h
  rcases Nat.lt_or_ge r l.length with h' | h'
  · exact h'
  · rw [List.getElem?_eq_none h'] at h; cases h
/-! ### likeness -/
mutual
def V.same : V → V → Bool
  | .undef, .undef => true
  | .bool a, .bool b => a == b
  | .int k a, .int k' b => decide (k = k') && decide (a = b)
  | .str a, .str b => decide (a = b)
  | .ptr a, .ptr b => decide (a = b)
  | .sl a n c, .sl b n' c' => decide (a = b) && decide (n = n') && decide (c = c')
  | .map a, .map b => decide (a = b)
  | .fn f a b, .fn f' a' b' => decide (f = f') && V.sames a a' && V.sames b b'
  | .nilFn, .nilFn => true
  | .ifc t x, .ifc t' y => decide (t = t') && V.same x y
  | .nilIfc, .nilIfc => true
  | .agg a, .agg b => V.sames a b
  | .tup a, .tup b => V.sames a b
  | _, _ => false
def V.sames : List V → List V → Bool
  | [], [] => true
  | x :: xs, y :: ys => V.same x y && V.sames xs ys
  | _, _ => false
end
mutual
theorem V.same_eq : ∀ (x y : V), V.same x y = true → x = y
  | .undef, y, h => by cases y <;> simp_all [V.same]
  | .bool a, y, h => by cases y <;> simp_all [V.same]
  | .int k a, y, h => by cases y <;> simp_all [V.same]
  | .str a, y, h => by cases y <;> simp_all [V.same]
  | .ptr a, y, h => by cases y <;> simp_all [V.same]
  | .sl a n c, y, h => by cases y <;> simp_all [V.same]
  | .map a, y, h => by cases y <;> simp_all [V.same]
  | .fn f a b, y, h => by
    cases y <;> simp only [V.same, Bool.and_eq_true, decide_eq_true_eq, Bool.false_eq_true] at h
    obtain ⟨⟨h1, h2⟩, h3⟩ := h
    rw [h1, V.sames_eq _ _ h2, V.sames_eq _ _ h3]
  | .nilFn, y, h => by cases y <;> simp_all [V.same]
  | .ifc t x, y, h => by
    cases y <;> simp only [V.same, Bool.and_eq_true, decide_eq_true_eq, Bool.false_eq_true] at h
    rw [h.1, V.same_eq _ _ h.2]
  | .nilIfc, y, h => by cases y <;> simp_all [V.same]
  | .agg a, y, h => by
    cases y <;> simp only [V.same, Bool.false_eq_true] at h
    rw [V.sames_eq _ _ h]
  | .tup a, y, h => by
    cases y <;> simp only [V.same, Bool.false_eq_true] at h
    rw [V.sames_eq _ _ h]
theorem V.sames_eq : ∀ (x y : List V), V.sames x y = true → x = y
  | [], y, h => by cases y <;> simp_all [V.sames]
  | x :: xs, y, h => by
    cases y <;> simp only [V.sames, Bool.and_eq_true, Bool.false_eq_true] at h
    rw [V.same_eq _ _ h.1, V.sames_eq _ _ h.2]
end
def rowsSame : List (List V) → List (List V) → Bool
  | [], [] => true
  | x :: xs, y :: ys => V.sames x y && rowsSame xs ys
  | _, _ => false
theorem rowsSame_eq : ∀ (x y : List (List V)), rowsSame x y = true → x = y
  | [], y, h => by cases y <;> simp_all [rowsSame]
  | x :: xs, y, h => by
    cases y <;> simp only [rowsSame, Bool.and_eq_true, Bool.false_eq_true] at h
    rw [V.sames_eq _ _ h.1, rowsSame_eq _ _ h.2]
def LM.same : LM → LM → Bool
  | [], [] => true
  | none :: xs, none :: ys => LM.same xs ys
  | some (.row sz es rw) :: xs, some (.row sz' es' rw') :: ys => decide (sz = sz') && rowsSame es es' && (rw == rw') && LM.same xs ys
  | _, _ => false
theorem LM.same_eq : ∀ (x y : LM), LM.same x y = true → x = y
  | [], y, h => by cases y <;> simp_all [LM.same]
  | none :: xs, y, h => by
    cases y with
    | nil => simp [LM.same] at h
    | cons o ys => cases o <;> simp only [LM.same, Bool.false_eq_true] at h; rw [LM.same_eq _ _ h]
  | some (.row sz es rw) :: xs, y, h => by
    cases y with
    | nil => simp [LM.same] at h
    | cons o ys =>
      rcases o with _ | o
      · simp [LM.same] at h
      · cases o <;> simp only [LM.same, Bool.and_eq_true, decide_eq_true_eq, Bool.false_eq_true, beq_iff_eq] at h
        obtain ⟨⟨⟨h1, h2⟩, h3⟩, h4⟩ := h
        rw [h1, rowsSame_eq _ _ h2, h3, LM.same_eq _ _ h4]
  | some (.map es g) :: xs, y, h => by
    cases y with
    | nil => simp [LM.same] at h
    | cons o ys => rcases o with _ | o <;> simp [LM.same] at h
  | some (.iter r a b c) :: xs, y, h => by
    cases y with
    | nil => simp [LM.same] at h
    | cons o ys => rcases o with _ | o <;> simp [LM.same] at h
/-! ### the reader -/
abbrev CallL := FuncId → List V → LM → Option (V × LM)
def capOk : Option Nat → Nat → Bool
  | some c, k => decide (k ≤ c)
  | none, _ => true
theorem capOk_iff (c : Option Nat) (k : Nat) : capOk c k = true ↔ ∀ c', c = some c' → k ≤ c' := by cases c <;> simp [capOk]
def appendL (sz bytes : Nat) (l : LM) (s : V) (new : List (List V)) : Option (V × LM) :=
  match s with
  | .sl none n c =>
    if rowsSame new [] then some (.sl none n c, l)
    else if new.length * bytes ≤ room ∧ new.length ≤ 9223372036854775807 then
      some (.sl (some (l.length, 0, sz)) new.length none, l ++ [some (.row sz new true)])
    else none
  | .sl (some (r, i, z)) n c =>
    if rowsSame new [] then some (.sl (some (r, i, z)) n c, l)
    else match l.mem.obj r with
      | some (.row sz' es rw) =>
        if sz' ≠ sz then none else
        if i + n + new.length ≤ es.length ∧ capOk c (n + new.length) = true then
          if rw then some (.sl (some (r, i, z)) (n + new.length) c, l.set r (some (.row sz (es.take (i + n) ++ new ++ es.drop (i + n + new.length)) rw))) else none
        else if (n + new.length) * bytes ≤ room ∧ n + new.length ≤ 9223372036854775807 ∧ i + n ≤ es.length then
          match c with
          | some c' =>
            if c' < n + new.length then some (.sl (some (l.length, 0, sz)) (n + new.length) none, l ++ [some (.row sz ((es.drop i).take n ++ new) true)]) else none
          | none =>
            if rw = true ∧ i + n = es.length then some (.sl (some (l.length, 0, sz)) (n + new.length) none, List.set (l ++ [some (Obj.row sz (es.drop i ++ new) true)]) r none) else none
        else none
      | _ => none
  | _ => none
def opL (call : CallL) (o : IR) (e : Env) (l : LM) : Option (V × LM) :=
  match o with
  | .alloc z => if z.all V.isCell = true ∧ 0 < z.length then some (.ptr (some (l.length, 0, 0)), l ++ [some (.row z.length [z] true)]) else none
  | .box x => if (ev e x).cells.all V.isCell = true ∧ 0 < (ev e x).cells.length then some (.ptr (some (l.length, 0, 0)), l ++ [some (.row (ev e x).cells.length [(ev e x).cells] true)]) else none
  | .buildSl sz z parts =>
    match fillV z (parts.map fun (o, n, x) => (o, n, ev e x)) with
    | some cs => if z.all V.isCell = true ∧ 0 < sz then some (.sl (some (l.length, 0, sz)) (z.length / sz) (some (z.length / sz)), l ++ [some (.row sz ((List.range (z.length / sz)).map fun i => (cs.drop (i * sz)).take sz) true)]) else none
    | none => none
  | .load agg n x =>
    match ev e x with
    | .ptr (some (r, i, j)) => match l.mem.elt r i with
      | some cs => match partV agg cs j n with
        | some v => some (v, l)
        | none => none
      | none => none
    | _ => none
  | .store n x y =>
    match ev e x with
    | .ptr (some (r, i, j)) => match l.mem.obj r with
      | some (.row sz es true) => match es[i]? with
        | some cs => if (ev e y).cells.length = n ∧ j + n ≤ cs.length ∧ (ev e y).cells.all V.isCell = true then some (.tup [], l.set r (some (.row sz (es.set i (splice cs j (ev e y).cells)) true))) else none
        | none => none
      | _ => none
    | _ => none
  | .convBS x =>
    match ev e x with
    | .sl a n c => match eltsOf 1 l.mem (.sl a n c) with
      | some es => match bytesOfCells es with
        | some bs => some (.str ⟨bs.toArray⟩, l)
        | none => none
      | none => none
    | _ => none
  | .mkSl z bytes a b =>
    match ev e a, ev e b with
    | .int .i64 a, .int .i64 b =>
      if 0 ≤ a ∧ a ≤ b ∧ b * bytes ≤ 281474976710656 ∧ 0 < z.length ∧ z.all V.isCell = true then some (.sl (some (l.length, 0, z.length)) a.toNat (some b.toNat), l ++ [some (.row z.length (List.replicate b.toNat z) true)]) else none
    | _, _ => none
  | .call f args =>
    match ev e f with
    | .fn g a b => call g (a ++ args.map (ev e) ++ b) l
    | _ => none
  | .invoke tbl x args =>
    match ev e x with
    | .ifc t v => match tbl.find? (·.1 == t) with
      | some (_, f, ld) => match recvV l.mem ld v with
        | some y => call f (y :: args.map (ev e)) l
        | none => none
      | none => none
    | _ => none
  | .app sz bytes s x =>
    match eltsOf sz l.mem (ev e x) with
    | some new => if 0 < sz then appendL sz bytes l (ev e s) new else none
    | none => none
  | .copy sz d s =>
    match eltsOf sz l.mem (ev e s) with
    | some es => match ev e d with
      | .sl none _ _ => some (.int .i64 0, l)
      | .sl (some (r, i, _)) n _ =>
        match l.mem.obj r with
        | some (.row sz' old true) =>
          if sz' = sz ∧ i + Nat.min es.length n ≤ old.length then
            some (.int .i64 (Nat.min es.length n), l.set r (some (.row sz' (old.take i ++ es.take (Nat.min es.length n) ++ old.drop (i + Nat.min es.length n)) true)))
          else none
        | _ => none
      | _ => none
    | none => none
  | .clear z x =>
    match ev e x with
    | .sl none _ _ => some (.tup [], l)
    | .sl (some (r, i, _)) n _ =>
      if n = 0 then some (.tup [], l) else
      match l.mem.obj r with
      | some (.row sz old true) => if i + n ≤ old.length ∧ z.length = sz ∧ z.all V.isCell = true then some (.tup [], l.set r (some (.row sz (old.take i ++ List.replicate n z ++ old.drop (i + n)) true))) else none
      | _ => none
    | _ => none
  | .sliceM sz x lo hi => match sliceMV sz l.mem (ev e x) (ev e lo) (ev e hi) with
    | some v => some (v, l)
    | none => none
  | o => if o.cls = 0 then (match pureV o e with | some v => some (v, l) | none => none) else none
theorem appendL_ok {sz bytes : Nat} {l : LM} {s : V} {new : List (List V)} {v : V} {l' : LM} (h : appendL sz bytes l s new = some (v, l')) {K : KV} (hk : K v l'.mem) : appendX sz bytes l.mem s new K := by
  unfold appendL at h
  unfold appendX
  split at h
  · rename_i n c
    split at h
    · rename_i hn
      have := rowsSame_eq _ _ hn; subst this
      injection h with h; injection h with h1 h2; subst h1; subst h2
      simp only [if_true]; exact hk
    · split at h
      · rename_i hn hc
        injection h with h; injection h with h1 h2; subst h1; subst h2
        have hne : new ≠ [] := by intro e; subst e; simp [rowsSame] at hn
        simp only [if_neg hne, if_pos hc]
        rw [LM.new_mem]; exact hk
      · cases h
  · rename_i r i z n c
    split at h
    · rename_i hn
      have := rowsSame_eq _ _ hn; subst this
      injection h with h; injection h with h1 h2; subst h1; subst h2
      simp only [if_true]; exact hk
    · rename_i hn
      have hne : new ≠ [] := by intro e; subst e; simp [rowsSame] at hn
      simp only [if_neg hne]
      split at h
      · rename_i sz' es rw ho
        have hlt := LM.obj_lt ho
        rw [ho]
        simp only
        split at h
        · cases h
        · rename_i hsz
          simp only [if_neg hsz]
          have hc := capOk_iff c (n + new.length)
          split at h
          · rename_i h1
            rw [if_pos ⟨h1.1, hc.1 h1.2⟩]
            split at h
            · rename_i hrw
              injection h with h; injection h with h1 h2; subst h1; subst h2
              rw [if_pos hrw, LM.upd_mem _ _ _ hlt]; exact hk
            · cases h
          · rename_i h1
            rw [if_neg (fun k => h1 ⟨k.1, hc.2 k.2⟩)]
            split at h
            · rename_i h2
              rw [if_pos h2]
              cases c with
              | some c' =>
                simp only at h ⊢
                split at h
                · rename_i h3
                  injection h with h; injection h with h4 h5; subst h4; subst h5
                  rw [if_pos h3, LM.new_mem]; exact hk
                · cases h
              | none =>
                simp only at h ⊢
                split at h
                · rename_i h3
                  injection h with h; injection h with h4 h5; subst h4; subst h5
                  rw [if_pos h3, LM.new_mem, LM.upd_mem _ _ _ (by simp; omega)]; exact hk
                · cases h
            · cases h
      · cases h
  · cases h
theorem opL_ok {Γ : Ctx} {call : CallL} (hcall : ∀ f args l r l', call f args l = some (r, l') → ∀ K : KV, K r l'.mem → callX Γ f args l.mem K) {o : IR} {e : Env} {l : LM} {v : V} {l' : LM} (h : opL call o e l = some (v, l')) {K : KV} (hk : K v l'.mem) : opx Γ o e l.mem K := by
  have pure : ∀ o : IR, (if o.cls = 0 then (match pureV o e with | some v => some (v, l) | none => none) else none) = some (v, l') → opx Γ o e l.mem K := by
    intro o h
    split at h
    · rename_i hc
      rw [opx_pureV hc]
      split at h
      · rename_i u hu
        injection h with h; injection h with h1 h2; subst h1; subst h2
        rw [hu]; exact hk
      · cases h
    · cases h
  unfold opL at h
  split at h
  · split at h
    · rename_i hc
      injection h with h; injection h with h1 h2; subst h1; subst h2
      rw [opx_alloc, if_pos hc, LM.new_mem]; exact hk
    · cases h
  · split at h
    · rename_i hc
      injection h with h; injection h with h1 h2; subst h1; subst h2
      rw [opx_box, if_pos hc, LM.new_mem]; exact hk
    · cases h
  · split at h
    · rename_i cs hf
      split at h
      · rename_i hc
        injection h with h; injection h with h1 h2; subst h1; subst h2
        rw [opx_buildSl, hf]; simp only; rw [if_pos hc, LM.new_mem]; exact hk
      · cases h
    · cases h
  · split at h
    · rename_i r i j hx
      split at h
      · rename_i cs hcs
        split at h
        · rename_i u hu
          injection h with h; injection h with h1 h2; subst h1; subst h2
          rw [opx_load, hx]; simp only; rw [hcs]; simp only; rw [hu]; exact hk
        · cases h
      · cases h
    · cases h
  · split at h
    · rename_i r i j hx
      split at h
      · rename_i sz es ho
        split at h
        · rename_i cs hcs
          split at h
          · rename_i hc
            injection h with h; injection h with h1 h2; subst h1; subst h2
            rw [opx_store, hx]; simp only; rw [ho]; simp only; rw [hcs]; simp only; rw [if_pos hc, LM.upd_mem _ _ _ (LM.obj_lt ho)]; exact hk
          · cases h
        · cases h
      · cases h
    · cases h
  · split at h
    · rename_i a n c hx
      split at h
      · rename_i es hes
        split at h
        · rename_i bs hbs
          injection h with h; injection h with h1 h2; subst h1; subst h2
          simp only [opx]; rw [hx]; simp only; rw [hes]; simp only; rw [hbs]; exact hk
        · cases h
      · cases h
    · cases h
  · split at h
    · rename_i a b ha hb
      split at h
      · rename_i hc
        injection h with h; injection h with h1 h2; subst h1; subst h2
        rw [opx_mkSl, ha, hb]; simp only; rw [if_pos hc, LM.new_mem]; exact hk
      · cases h
    · cases h
  · split at h
    · rename_i g a b hf
      simp only [opx]; rw [hf]; exact hcall _ _ _ _ _ h K hk
    · cases h
  · split at h
    · rename_i t v hx
      split at h
      · rename_i x0 f ld hf
        split at h
        · rename_i y hy
          simp only [opx, invX]; rw [hx]; simp only; rw [hf]; simp only; rw [hy]; exact hcall _ _ _ _ _ h K hk
        · cases h
      · cases h
    · cases h
  · split at h
    · rename_i new hn
      split at h
      · rename_i hs
        rw [opx_app, hn]; simp only; rw [if_pos hs]; exact appendL_ok h hk
      · cases h
    · cases h
  · split at h
    · rename_i es hes
      rw [opx_copy, hes]; simp only [copyX]
      split at h
      · rename_i hd
        injection h with h; injection h with h1 h2; subst h1; subst h2
        rw [hd]; exact hk
      · rename_i r i z n c hd
        rw [hd]; simp only
        split at h
        · rename_i sz' old ho
          rw [ho]; simp only
          split at h
          · rename_i hc
            injection h with h; injection h with h1 h2; subst h1; subst h2
            rw [if_pos hc, LM.upd_mem _ _ _ (LM.obj_lt ho)]; exact hk
          · cases h
        · cases h
      · cases h
    · cases h
  · simp only [opx, clearX]
    split at h
    · rename_i hd
      injection h with h; injection h with h1 h2; subst h1; subst h2
      rw [hd]; exact hk
    · rename_i r i z n c hd
      rw [hd]; simp only
      split at h
      · rename_i hn
        injection h with h; injection h with h1 h2; subst h1; subst h2
        rw [if_pos hn]; exact hk
      · rename_i hn
        rw [if_neg hn]
        split at h
        · rename_i sz old ho
          rw [ho]; simp only
          split at h
          · rename_i hc
            injection h with h; injection h with h1 h2; subst h1; subst h2
            rw [if_pos hc, LM.upd_mem _ _ _ (LM.obj_lt ho)]; exact hk
          · cases h
        · cases h
    · cases h
  · split at h
    · rename_i u hu
      injection h with h; injection h with h1 h2; subst h1; subst h2
      simp only [opx, hu, opt]; exact hk
    · cases h
  · exact pure _ h
def dexecL (call : CallL) (live : List Nat) : DTree → Env → LM → Option (List V × LM)
  | .done, e, l => some (live.map e, l)
  | .op o t, e, l =>
    match gwant o.guard e with
    | some true => (match opL call o.op e l with
      | some (v, l') => dexecL call live t (e.put o.dst v) l'
      | none => none)
    | some false => dexecL call live t (e.put o.dst (.tup [])) l
    | none => none
  | .alt a b, e, l =>
    match dexecL call live a e l, dexecL call live b e l with
    | some (vs, l1), some (vs2, l2) => if V.sames vs vs2 && LM.same l1 l2 then some (vs, l1) else none
    | _, _ => none
def ofVals : List Nat → List V → Env
  | d :: ds, v :: vs => (ofVals ds vs).put (some d) v
  | _, _ => Env.none
theorem keep_ofVals (e : Env) : ∀ live, keep live e = ofVals live (live.map e)
  | [] => rfl
  | d :: ds => by simp only [keep, List.map_cons, ofVals, keep_ofVals e ds]
def opsL (call : CallL) : List IOp → Env → LM → Option (Env × LM)
  | [], e, l => some (e, l)
  | o :: os, e, l =>
    match gwant o.guard e with
    | some true => (match opL call o.op e l with
      | some (v, l') => opsL call os (e.put o.dst v) l'
      | none => none)
    | some false => opsL call os (e.put o.dst (.tup [])) l
    | none => none
def loopL (b : Env → LM → Option (Ex × Env × LM)) (live : List Nat) : Nat → Env → LM → Option (Ex × Env × LM)
  | 0, _, _ => none
  | n + 1, e, l =>
    match b e l with
    | some (.normal, e', l') => loopL b live n (ofVals live (live.map e')) l'
    | r => r
def jumpL (b : Env → LM → Option (Ex × Env × LM)) (i0 : Nat) (live : List Nat) : Nat → Env → LM → Option (Ex × Env × LM)
  | 0, _, _ => none
  | n + 1, e, l =>
    match b e l with
    | some (.goto i, e', l') => if i = i0 then jumpL b i0 live n (ofVals live (live.map e')) l' else none
    | r => r
def execL (call : CallL) (fuel : Nat) : St → Env → LM → Option (Ex × Env × LM)
  | .skip, e, l => some (.normal, e, l)
  | .bad, _, _ => none
  | .region ops, e, l => (match opsL call ops e l with
    | some (e', l') => some (.normal, e', l')
    | none => none)
  | .draw _ live t, e, l => (match dexecL call live t e l with
    | some (vs, l') => some (.normal, ofVals live vs, l')
    | none => none)
  | .seq a b, e, l => (match execL call fuel a e l with
    | some (.normal, e', l') => execL call fuel b e' l'
    | r => r)
  | .cond c a b, e, l => (match ev e c with
    | .bool true => execL call fuel a e l
    | .bool false => execL call fuel b e l
    | _ => none)
  | .block id b, e, l => (match execL call fuel b e l with
    | some (.exit i, e', l') => if i = id then some (.normal, e', l') else some (.exit i, e', l')
    | r => r)
  | .loop live b, e, l => loopL (execL call fuel b) live fuel (ofVals live (live.map e)) l
  | .exit id, e, l => some (.exit id, e, l)
  | .ret, e, l => some (.ret, e, l)
  | .goto i, e, l => some (.goto i, e, l)
  | .jump i live p r, e, l => (match execL call fuel p e l with
    | some (.normal, e', l') => jumpL (execL call fuel r) i live fuel (ofVals live (live.map e')) l'
    | some (.goto _, _, _) => none
    | r => r)
abbrev CodeL := List (FuncId × Nat × IFn)
def findL : CodeL → FuncId → Option (Nat × IFn)
  | [], _ => none
  | (g, n, b) :: c, f => if f = g then some (n, b) else findL c f
/-- A call, reckoned out. -/
def callL (c : CodeL) (fuel : Nat) : Nat → CallL
  | 0, _, _, _ => none
  | n + 1, f, args, l =>
    match findL c f with
    | some (k, b) =>
      if args.length ≤ k then
        match execL (callL c fuel n) fuel b.body (Env.args args) l with
        | some (.normal, e, l') => (match resV l'.mem e b.results with | some v => some (v, l') | none => none)
        | some (.ret, e, l') => (match resV l'.mem e b.results with | some v => some (v, l') | none => none)
        | _ => none
      else none
    | none => none
section
variable {Γ : Ctx} {call : CallL} (hcall : ∀ f args l r l', call f args l = some (r, l') → ∀ K : KV, K r l'.mem → callX Γ f args l.mem K)
include hcall
theorem dexecL_ok {live : List Nat} : ∀ {t : DTree} {e : Env} {l : LM} {vs : List V} {l' : LM}, dexecL call live t e l = some (vs, l') → ∀ {K : Env → Mem → Prop}, (∀ e2, live.map e2 = vs → K e2 l'.mem) → dexec Γ t e l.mem K
  | .done, e, l, vs, l', h, K, hk => by
    simp only [dexecL, Option.some.injEq, Prod.mk.injEq] at h
    obtain ⟨h1, h2⟩ := h; subst h2
    exact hk e h1
  | .op o t, e, l, vs, l', h, K, hk => by
    simp only [dexecL] at h
    simp only [dexec]
    split at h
    · rename_i hg
      rw [hg]
      split at h
      · rename_i v l1 ho
        exact opL_ok hcall ho (dexecL_ok h hk)
      · cases h
    · rename_i hg
      rw [hg]; exact dexecL_ok h hk
    · cases h
  | .alt a b, e, l, vs, l', h, K, hk => by
    simp only [dexecL] at h
    split at h
    · rename_i vs1 l1 vs2 l2 h1 h2
      split at h
      · rename_i hs
        simp only [Bool.and_eq_true] at hs
        have e1 := V.sames_eq _ _ hs.1
        have e2 := LM.same_eq _ _ hs.2
        subst e1; subst e2
        injection h with h; injection h with h3 h4; subst h3; subst h4
        exact ⟨dexecL_ok h1 hk, dexecL_ok h2 hk⟩
      · cases h
    · cases h
theorem opsL_ok : ∀ {os : List IOp} {e : Env} {l : LM} {e' : Env} {l' : LM}, opsL call os e l = some (e', l') → ∀ {K : Env → Mem → Prop}, K e' l'.mem → opsx Γ os e l.mem K
  | [], e, l, e', l', h, K, hk => by
    simp only [opsL, Option.some.injEq, Prod.mk.injEq] at h
    obtain ⟨h1, h2⟩ := h; subst h1; subst h2
    exact hk
  | o :: os, e, l, e', l', h, K, hk => by
    simp only [opsL] at h
    simp only [opsx]
    split at h
    · rename_i hg
      rw [hg]
      split at h
      · rename_i v l1 ho
        exact opL_ok hcall ho (opsL_ok h hk)
      · cases h
    · rename_i hg
      rw [hg]; exact opsL_ok h hk
    · cases h
theorem execL_ok {fuel : Nat} : ∀ {s : St} {e : Env} {l : LM} {x : Ex} {e' : Env} {l' : LM}, execL call fuel s e l = some (x, e', l') → ∀ {K : KX}, K x e' l'.mem → exec Γ s e l.mem K := by
  intro s
  induction s with
  | skip => intro e l x e' l' h K hk; simp only [execL, Option.some.injEq, Prod.mk.injEq] at h; obtain ⟨rfl, rfl, rfl⟩ := h; exact hk
  | bad => intro e l x e' l' h; simp [execL] at h
  | exit id => intro e l x e' l' h K hk; simp only [execL, Option.some.injEq, Prod.mk.injEq] at h; obtain ⟨rfl, rfl, rfl⟩ := h; exact hk
  | ret => intro e l x e' l' h K hk; simp only [execL, Option.some.injEq, Prod.mk.injEq] at h; obtain ⟨rfl, rfl, rfl⟩ := h; exact hk
  | region ops =>
    intro e l x e' l' h K hk
    simp only [execL] at h
    split at h
    · rename_i e1 l1 ho
      simp only [Option.some.injEq, Prod.mk.injEq] at h; obtain ⟨rfl, rfl, rfl⟩ := h
      simp only [exec]
      exact opsL_ok hcall ho hk
    · cases h
  | draw mrg live t =>
    intro e l x e' l' h K hk
    simp only [execL] at h
    split at h
    · rename_i vs l1 ho
      simp only [Option.some.injEq, Prod.mk.injEq] at h; obtain ⟨rfl, rfl, rfl⟩ := h
      cases mrg with
      | false =>
        simp only [exec]
        exact dexecL_ok hcall ho (fun e2 h2 => by rw [keep_ofVals, h2]; exact hk)
      | true =>
        exact exec_draw_one _ _ (dexecL_ok hcall ho (fun e2 h2 => ⟨by rw [keep_ofVals, h2], rfl⟩)) hk
    · cases h
  | seq a b iha ihb =>
    intro e l x e' l' h K hk
    simp only [execL] at h
    simp only [exec]
    split at h
    · rename_i e1 l1 h1
      exact iha h1 (ihb h hk)
    · rename_i r hne
      refine iha h ?_
      cases x with
      | normal => exact absurd h (hne _ _)
      | exit i => exact hk
      | ret => exact hk
      | goto i => exact hk
  | cond c a b iha ihb =>
    intro e l x e' l' h K hk
    simp only [execL] at h
    simp only [exec]
    split at h
    · rename_i hc; rw [hc]; exact iha h hk
    · rename_i hc; rw [hc]; exact ihb h hk
    · cases h
  | block id b ih =>
    intro e l x e' l' h K hk
    simp only [execL] at h
    simp only [exec]
    split at h
    · rename_i i e1 l1 h1
      refine ih h1 ?_
      simp only [blockX]
      split at h
      · rename_i hi; rw [if_pos hi]
        simp only [Option.some.injEq, Prod.mk.injEq] at h; obtain ⟨rfl, rfl, rfl⟩ := h; exact hk
      · rename_i hi; rw [if_neg hi]
        simp only [Option.some.injEq, Prod.mk.injEq] at h; obtain ⟨rfl, rfl, rfl⟩ := h; exact hk
    · rename_i r hne
      refine ih h ?_
      cases x with
      | normal => exact hk
      | exit i => exact absurd h (hne _ _ _)
      | ret => exact hk
      | goto i => exact hk
  | loop live b ih =>
    intro e l x e' l' h K hk
    simp only [execL] at h
    simp only [exec]
    refine ⟨fun n e m => ∃ l, m = LM.mem l ∧ ∃ x e' l', loopL (execL call fuel b) live n e l = some (x, e', l') ∧ K x e' l'.mem, fuel, ⟨l, rfl, x, e', l', by rw [keep_ofVals]; exact h, hk⟩, ?_⟩
    rintro n e m ⟨l, rfl, x, e', l', h, hk⟩
    cases n with
    | zero => simp [loopL] at h
    | succ n =>
      simp only [loopL] at h
      split at h
      · rename_i e1 l1 h1
        refine ih h1 ?_
        simp only [thenX]
        exact ⟨n, by omega, l1, rfl, x, e', l', by rw [keep_ofVals]; exact h, hk⟩
      · rename_i r hne
        refine ih h ?_
        cases x with
        | normal => exact absurd h (hne _ _)
        | exit i => exact hk
        | ret => exact hk
        | goto i => exact hk
  | goto i => intro e l x e' l' h K hk; simp only [execL, Option.some.injEq, Prod.mk.injEq] at h; obtain ⟨rfl, rfl, rfl⟩ := h; exact hk
  | jump i live p r ihp ihr =>
    intro e l x e' l' h K hk
    simp only [execL] at h
    simp only [exec]
    refine ⟨fun n e m => ∃ l, m = LM.mem l ∧ ∃ x e' l', jumpL (execL call fuel r) i live n e l = some (x, e', l') ∧ K x e' l'.mem, ?_, ?_⟩
    · split at h
      · rename_i e1 l1 h1
        exact ihp h1 ⟨fuel, l1, rfl, x, e', l', by rw [keep_ofVals]; exact h, hk⟩
      · cases h
      · rename_i r hne1 hne2
        refine ihp h ?_
        cases x with
        | normal => exact absurd h (hne1 _ _)
        | exit i => exact hk
        | ret => exact hk
        | goto i => exact absurd h (hne2 _ _ _)
    · rintro n e m ⟨l, rfl, x, e', l', h, hk⟩
      cases n with
      | zero => simp [jumpL] at h
      | succ n =>
        simp only [jumpL] at h
        split at h
        · rename_i j e1 l1 h1
          split at h
          · rename_i hj
            refine ihr h1 ⟨hj, n, by omega, l1, rfl, x, e', l', by rw [keep_ofVals]; exact h, hk⟩
          · cases h
        · rename_i r hne
          refine ihr h ?_
          cases x with
          | normal => exact hk
          | exit i => exact hk
          | ret => exact hk
          | goto i => exact absurd h (hne _ _ _)
end
/-- The functions that the reader runs are the program's. -/
def CodeOk (P : Program) : CodeL → Prop
  | [] => True
  | (f, n, b) :: c => Code1 P f n b ∧ CodeOk P c
theorem CodeOk.find {P : Program} : ∀ {c : CodeL}, CodeOk P c → ∀ {f : FuncId} {n : Nat} {b : IFn}, findL c f = some (n, b) → Code1 P f n b
  | [], _, f, n, b, h => by simp [findL] at h
  | (g, k, d) :: c, hc, f, n, b, h => by
    simp only [findL] at h
    split at h
    · rename_i e; subst e
      injection h with h; injection h with h1 h2; subst h1; subst h2; exact hc.1
    · exact CodeOk.find hc.2 h
/-- ████ WHAT THE READER TELLS OF A CALL IS SO. ████ -/
theorem callL_ok {P : Program} (hm : P.follows .mixedOrders = true) {c : CodeL} (hc : CodeOk P c) {fuel : Nat} : ∀ n f args l r l', callL c fuel n f args l = some (r, l') → ACalls P f args l.mem (fun r2 m2 => r2 = r ∧ m2 = l'.mem)
  | 0, f, args, l, r, l', h => by simp [callL] at h
  | n + 1, f, args, l, r, l', h => by
    simp only [callL] at h
    split at h
    · rename_i k b hf
      split at h
      · rename_i hk
        have hΓ : CtxOk P ⟨fun _ _ _ => none, fun f args m K => ∃ l r l', m = LM.mem l ∧ callL c fuel n f args l = some (r, l') ∧ K r l'.mem⟩ := by
          refine ⟨fun f args m r m' h => by simp at h, fun f args m K ⟨l, r, l', h1, h2, h3⟩ => ?_⟩
          subst h1
          exact (callL_ok hm hc n f args l r l' h2).imp fun r2 m2 ⟨e1, e2⟩ => by subst e1; subst e2; exact h3
        have hcall : ∀ f args l r l', callL c fuel n f args l = some (r, l') → ∀ K : KV, K r l'.mem → callX ⟨fun _ _ _ => none, fun f args m K => ∃ l r l', m = LM.mem l ∧ callL c fuel n f args l = some (r, l') ∧ K r l'.mem⟩ f args l.mem K :=
          fun f args l r l' h K hk => ⟨l, r, l', rfl, h, hk⟩
        obtain ⟨fn, h1, h2, h3, h4⟩ := (hc.find hf).ex
        refine fn_sound hΓ hm h1 h2 h3 (by omega) ?_
        split at h
        · rename_i e1 l1 he
          split at h
          · rename_i v hv
            injection h with h; injection h with h5 h6; subst h5; subst h6
            refine execL_ok hcall he ?_
            rw [endX_normal, hv]; exact ⟨rfl, rfl⟩
          · cases h
        · rename_i e1 l1 he
          split at h
          · rename_i v hv
            injection h with h; injection h with h5 h6; subst h5; subst h6
            refine execL_ok hcall he ?_
            rw [endX_ret, hv]; exact ⟨rfl, rfl⟩
          · cases h
        · cases h
      · cases h
    · cases h
/-- A call over no memory, whose answer is reckoned out. -/
theorem reckon {P : Program} (hm : P.follows .mixedOrders = true) {c : CodeL} (hc : CodeOk P c) (fuel n : Nat) {f : FuncId} {args : List V} {r0 : V} (ha : V.flats args = true) (hr : r0.flat = true)
    (h : (match callL c fuel n f args [] with | some (r, _) => V.same r r0 | none => false) = true) (m : Mem) : ACalls P f args m (fun r m' => r = r0 ∧ m' = m) := by
  split at h
  · rename_i r l' hc'
    have := V.same_eq _ _ h; subst this
    have h0 : LM.mem [] = Mem.empty := Mem.ext2 (fun q => by simp [LM.mem, Mem.empty]) rfl
    refine ACalls.of_empty ha hr ?_ m
    rw [← h0]
    exact (callL_ok hm hc n f args [] _ l' hc').imp fun _ _ h => h.1
  · cases h
end Go.AM
