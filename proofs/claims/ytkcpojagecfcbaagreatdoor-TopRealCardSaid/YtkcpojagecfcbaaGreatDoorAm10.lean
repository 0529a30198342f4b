/-
  THE ABSTRACT MACHINE: on what an operation's answer hangs: its operands alone; not on memory, or on memory as it stands. No Go program here.
-/
import Derived.Test.YtkcpojagecfcbaaGreatDoorAm9
namespace Go.AM
open Go
set_option linter.unusedVariables false
def IR.opds : IR → List Opd
  | .bad | .alloc _ | .mkMap => []
  | .mov x | .box x | .load _ _ x | .nilck x | .un _ x | .conv _ x | .convS x | .convBS x | .mkIfc _ x | .faddr _ x | .field _ _ _ x | .extract x _ | .tassert _ _ x _ | .len _ x | .cap x | .clear _ x | .range x | .next x | .entry x => [x]
  | .pick c a b => [c, a, b]
  | .build _ ps | .buildSl _ _ ps => ps.map (·.2.2)
  | .store _ x y | .bin _ x y | .eq _ _ _ x y | .mkSl _ _ x y | .appZ _ _ x y | .iaddr _ x y | .iaddrA _ _ x y | .index _ _ _ x y | .indexS x y | .lookup _ x y _ _ | .app _ _ x y | .copy _ x y | .delete x y _ => [x, y]
  | .mapUpd m k v _ => [m, k, v]
  | .mkFn _ a b => a ++ b
  | .slice _ x l h m => x :: (l.toList ++ h.toList ++ m.toList)
  | .sliceS x l h => x :: (l.toList ++ h.toList)
  | .sliceM _ x l h => [x, l, h]
  | .call f xs => f :: xs
  | .invoke _ x xs => x :: xs
  | .max xs | .min xs => xs
def slotsOf (l : List Opd) : List Nat := l.filterMap fun | .t n => some n | _ => none
theorem ev_congr {e e' : Env} {l : List Opd} (h : ∀ t ∈ slotsOf l, e t = e' t) : ∀ x ∈ l, ev e x = ev e' x := by
  intro x hx
  cases x with
  | t n => exact h n (List.mem_filterMap.2 ⟨.t n, hx, rfl⟩)
  | c v => rfl
  | f f => rfl
theorem map_congr {e e' : Env} {l : List Opd} (h : ∀ x ∈ l, ev e x = ev e' x) : l.map (ev e) = l.map (ev e') := List.map_congr_left h
theorem optmap_congr {e e' : Env} {x : Option Opd} (h : ∀ y ∈ x.toList, ev e y = ev e' y) : x.map (ev e) = x.map (ev e') := by
  cases x with
  | none => rfl
  | some y => simp [h y (by simp)]
theorem parts_congr {e e' : Env} {ps : List (Nat × Nat × Opd)} (h : ∀ x ∈ ps.map (·.2.2), ev e x = ev e' x) : (ps.map fun (o, n, x) => (o, n, ev e x)) = ps.map fun (o, n, x) => (o, n, ev e' x) :=
  List.map_congr_left fun p hp => by
    obtain ⟨o, n, x⟩ := p
    simp only [h x (List.mem_map.2 ⟨(o, n, x), hp, rfl⟩)]
theorem opx_congr {Γ : Ctx} {o : IR} {e e' : Env} {m : Mem} {K : KV} (h : ∀ t ∈ slotsOf o.opds, e t = e' t) : opx Γ o e m K = opx Γ o e' m K := by
  have key := ev_congr h
  cases o <;> simp only [IR.opds] at key
  case bad => rfl
  case alloc => rfl
  case mkMap => rfl
  case build z ps => simp only [opx, parts_congr key]
  case buildSl sz z ps => simp only [opx, parts_congr key]
  case mkFn f a b =>
    simp only [opx]
    rw [map_congr (l := a) fun x hx => key x (by simp [hx]), map_congr (l := b) fun x hx => key x (by simp [hx])]
  case slice sz x lo hi mx =>
    simp only [opx, key x (by simp)]
    rw [optmap_congr (x := lo) fun y hy => key y (by simp [hy]), optmap_congr (x := hi) fun y hy => key y (by simp [hy]), optmap_congr (x := mx) fun y hy => key y (by simp [hy])]
  case sliceS x lo hi =>
    simp only [opx, key x (by simp)]
    rw [optmap_congr (x := lo) fun y hy => key y (by simp [hy]), optmap_congr (x := hi) fun y hy => key y (by simp [hy])]
  case sliceM sz x lo hi => simp only [opx, key x (by simp), key lo (by simp), key hi (by simp)]
  case call f xs =>
    simp only [opx, key f (by simp)]
    rw [map_congr (l := xs) fun x hx => key x (by simp [hx])]
  case invoke tbl f xs =>
    simp only [opx, key f (by simp)]
    rw [map_congr (l := xs) fun x hx => key x (by simp [hx])]
  case max xs => simp only [opx, map_congr key]
  case min xs => simp only [opx, map_congr key]
  case pick c a b => simp only [opx, key c (by simp), key a (by simp), key b (by simp)]
  case lookup z a b ok pk => simp only [opx, key a (by simp), key b (by simp)]
  case mapUpd a b c pk => simp only [opx, key a (by simp), key b (by simp), key c (by simp)]
  all_goals first
    | (rename_i x y; simp only [opx, key x (by simp), key y (by simp)]; done)
    | (rename_i x; simp only [opx, key x (by simp)]; done)
    | (rename_i x y z; simp only [opx, key x (by simp), key y (by simp)]; done)
    | (rename_i x y; simp only [opx, key x (by simp)]; done)
    | (rename_i x y z; simp only [opx, key x (by simp)]; done)
/-- 0: memory is not looked at; 1: it is read; 2: it is turned. -/
def IR.cls : IR → Nat
  | .mov _ | .pick _ _ _ | .build _ _ | .nilck _ | .bin _ _ _ | .eq _ _ _ _ _ | .un _ _ | .conv _ _ | .convS _ | .mkIfc _ _ | .mkFn _ _ _ | .slice _ _ _ _ _ | .sliceS _ _ _
  | .faddr _ _ | .field _ _ _ _ | .iaddr _ _ _ | .iaddrA _ _ _ _ | .index _ _ _ _ _ | .indexS _ _ | .extract _ _ | .tassert _ _ _ _ | .cap _ | .max _ | .min _ => 0
  | .len k _ => if k = .map then 1 else 0
  | .load _ _ _ | .convBS _ | .lookup _ _ _ _ _ | .sliceM _ _ _ _ => 1
  | _ => 2
/-- In memory m the operation answers v, and leaves it as it is. -/
def Ans (Γ : Ctx) (o : IR) (e : Env) (m : Mem) (v : V) : Prop := ∀ K : KV, K v m → opx Γ o e m K
theorem opt_ans {o : Option V} {m : Mem} {K : KV} (h : opt o m K) : ∃ v, K v m ∧ ∀ (m' : Mem) (K' : KV), K' v m' → opt o m' K' := by
  unfold opt at h; split at h
  · rename_i v; exact ⟨v, h, fun m' K' k => k⟩
  · exact h.elim
def pureV (o : IR) (e : Env) : Option V :=
  match o with
  | .mov x => some (ev e x)
  | .pick c a b => match ev e c with
    | .bool t => some (if t then ev e a else ev e b)
    | _ => none
  | .build z ps => if z.all V.isCell then (fillV z (ps.map fun (o, n, x) => (o, n, ev e x))).map .agg else none
  | .nilck x => match ev e x with
    | .ptr (some a) => some (.ptr (some a))
    | .fn f a b => some (.fn f a b)
    | _ => none
  | .bin op x y => binV op (ev e x) (ev e y)
  | .eq neg agg ks x y => match agg, ev e x, ev e y with
    | true, .agg xs, .agg ys => if ckAll ks xs ∧ ckAll ks ys then (eqCs xs ys).map fun b => .bool (if neg then !b else b) else none
    | false, a, b => if ckAll ks [a] then (eqC a b).map fun b => .bool (if neg then !b else b) else none
    | _, _, _ => none
  | .un op x => unV op (ev e x)
  | .conv k x => match ev e x with
    | .int _ n => some (.int k (k.wrap n))
    | _ => none
  | .convS x => match ev e x with
    | .str s => some (.str s)
    | _ => none
  | .mkIfc t x => some (.ifc t (ev e x))
  | .mkFn f a b => some (.fn f (a.map (ev e)) (b.map (ev e)))
  | .slice sz x lo hi mx => match ev e x with
    | .sl a n c => match sliceB n c (lo.map (ev e)) (hi.map (ev e)) (mx.map (ev e)) with
      | some (l, h, c') => sliceV sz a l h c'
      | none => none
    | _ => none
  | .sliceS x lo hi => match ev e x with
    | .str s => match sliceB s.size (some s.size) (lo.map (ev e)) (hi.map (ev e)) none with
      | some (l, h, _) => some (.str (s.extract l h))
      | none => none
    | _ => none
  | .faddr off x => match ev e x with
    | .ptr (some (r, i, j)) => some (.ptr (some (r, i, j + off)))
    | _ => none
  | .field agg off n x => match ev e x with
    | .agg cs => partV agg cs off n
    | _ => none
  | .iaddr sz x i => match ev e x, ev e i with
    | .sl (some (r, i0, z)) n _, .int _ k => if 0 ≤ k ∧ k < n ∧ z = sz then some (.ptr (some (r, i0 + k.toNat, 0))) else none
    | _, _ => none
  | .iaddrA n sz x i => match ev e x, ev e i with
    | .ptr (some (r, i0, j)), .int _ k => if 0 ≤ k ∧ k < n then some (.ptr (some (r, i0, j + k.toNat * sz))) else none
    | _, _ => none
  | .index agg n sz x i => match ev e x, ev e i with
    | .agg cs, .int _ k => if 0 ≤ k ∧ k < n then partV agg cs (k.toNat * sz) sz else none
    | _, _ => none
  | .indexS x i => match ev e x, ev e i with
    | .str s, .int _ k => if 0 ≤ k then (match s.data.toList[k.toNat]? with | some b => some (.int .u8 b.toNat) | none => none) else none
    | _, _ => none
  | .extract x i => match ev e x with
    | .tup vs => vs[i]?
    | _ => none
  | .tassert t z x ok => match ev e x with
    | .ifc t' v => if t' = t then some (if ok then .tup [v, .bool true] else v) else if ok then some (.tup [z, .bool false]) else none
    | .nilIfc => if ok then some (.tup [z, .bool false]) else none
    | _ => none
  | .len k x => match k, ev e x with
    | .str, .str s => some (.int .i64 s.size)
    | .sl, .sl _ n _ => some (.int .i64 n)
    | _, _ => none
  | .cap x => match ev e x with
    | .sl _ _ (some c) => some (.int .i64 c)
    | _ => none
  | .max xs => foldV max2V (xs.map (ev e))
  | .min xs => foldV min2V (xs.map (ev e))
  | _ => none
theorem opx_pureV {Γ : Ctx} {o : IR} {e : Env} {m : Mem} {K : KV} (hc : o.cls = 0) : opx Γ o e m K = opt (pureV o e) m K := by
  cases o <;> first
    | rfl
    | (exfalso; simp [IR.cls] at hc; done)
    | skip
  case len k x =>
    simp only [opx, pureV]
    generalize ev e x = X
    cases k <;> cases X <;> first | rfl | (exfalso; simp [IR.cls] at hc; done)
  case tassert t z x ok =>
    simp only [opx, pureV]
    generalize ev e x = X
    cases X <;> first | rfl | skip
    · simp only []; split
      · rfl
      · split <;> rfl
    · simp only []; split <;> rfl
  case pick c a b =>
    simp only [opx, pureV]
    generalize ev e c = X
    cases X <;> rfl
  case build z ps =>
    simp only [opx, pureV]; split <;> rfl
  case nilck x =>
    simp only [opx, pureV]
    generalize ev e x = X
    cases X <;> first | rfl | (rename_i p; cases p <;> rfl)
  case eq neg agg ks x y =>
    simp only [opx, pureV]
    generalize ev e x = X
    generalize ev e y = Y
    cases agg
    · cases X <;> (simp only []; split <;> rfl)
    · cases X <;> first | rfl | (cases Y <;> first | rfl | (simp only []; split <;> rfl))
  case slice sz x lo hi mx =>
    simp only [opx, pureV]
    generalize ev e x = X
    cases X <;> first | rfl | (rename_i a n c; simp only []; generalize sliceB n c _ _ _ = S; rcases S with _ | ⟨l, h, c'⟩ <;> rfl)
  case sliceS x lo hi =>
    simp only [opx, pureV]
    generalize ev e x = X
    cases X <;> first | rfl | (rename_i s; simp only []; generalize sliceB s.size _ _ _ _ = S; rcases S with _ | ⟨l, h, c'⟩ <;> rfl)
  case iaddr sz x i =>
    simp only [opx, pureV]
    generalize ev e x = X
    generalize ev e i = I
    cases X <;> first | rfl | (rename_i p n c; cases p <;> first | rfl | (cases I <;> first | rfl | (simp only []; split <;> rfl)))
  case iaddrA n sz x i =>
    simp only [opx, pureV]
    generalize ev e x = X
    generalize ev e i = I
    cases X <;> first | rfl | (rename_i p; cases p <;> first | rfl | (cases I <;> first | rfl | (simp only []; split <;> rfl)))
  case index agg n sz x i =>
    simp only [opx, pureV]
    generalize ev e x = X
    generalize ev e i = I
    cases X <;> first | rfl | (cases I <;> first | rfl | (simp only []; split <;> rfl))
  case indexS x i =>
    simp only [opx, pureV]
    generalize ev e x = X
    generalize ev e i = I
    cases X <;> first | rfl | (cases I <;> first | rfl | (rename_i s kk k; simp only []; generalize s.data.toList[k.toNat]? = B; cases B <;> (simp only []; split <;> rfl)))
  case cap x =>
    simp only [opx, pureV]
    generalize ev e x = X
    cases X <;> first | rfl | (rename_i p n c; cases c <;> rfl)
  case faddr off x =>
    simp only [opx, pureV]
    generalize ev e x = X
    cases X <;> first | rfl | (rename_i p; cases p <;> rfl)
  case extract x i =>
    simp only [opx, pureV]
    generalize ev e x = X
    cases X <;> rfl
  all_goals
    simp only [opx, pureV]
    rename_i x
    generalize ev e x = X
    cases X <;> rfl
theorem opx_pure {Γ : Ctx} {o : IR} {e : Env} {m : Mem} {K : KV} (hc : o.cls = 0) (h : opx Γ o e m K) : ∃ v, K v m ∧ ∀ m', Ans Γ o e m' v := by
  rw [opx_pureV hc] at h
  obtain ⟨v, h1, h2⟩ := opt_ans h
  exact ⟨v, h1, fun m' K k => by rw [opx_pureV hc]; exact h2 m' K k⟩
theorem opx_read {Γ : Ctx} {o : IR} {e : Env} {m : Mem} {K : KV} (hc : o.cls = 1) (h : opx Γ o e m K) : ∃ v, K v m ∧ Ans Γ o e m v := by
  unfold Ans
  cases o <;> first
    | (exfalso; simp [IR.cls] at hc; done)
    | skip
  case len k x =>
    simp only [opx] at h ⊢
    generalize ev e x = X at h ⊢
    cases k <;> cases X <;> first | exact h.elim | exact ⟨_, h, fun _ k => k⟩ | skip
    rename_i p
    cases p with
    | none => exact ⟨_, h, fun _ k => k⟩
    | some r =>
      simp only at h ⊢
      generalize m.obj r = O at h ⊢
      cases O with
      | none => exact h.elim
      | some o => cases o with
        | row => exact h.elim
        | iter => exact h.elim
        | map es g => exact ⟨_, h, fun _ k => k⟩
  case load agg n x =>
    simp only [opx] at h ⊢
    generalize ev e x = X at h ⊢
    cases X <;> first | exact h.elim | skip
    rename_i p
    rcases p with _ | ⟨r, i, j⟩
    · exact h.elim
    · simp only at h ⊢
      generalize m.elt r i = O at h ⊢
      cases O with
      | none => exact h.elim
      | some cs =>
        obtain ⟨v, h1, h2⟩ := opt_ans h
        exact ⟨v, h1, fun K k => h2 m K k⟩
  case sliceM sz x lo hi =>
    simp only [opx] at h ⊢
    obtain ⟨v, h1, h2⟩ := opt_ans h
    exact ⟨v, h1, fun K k => h2 m K k⟩
  case convBS x =>
    simp only [opx] at h ⊢
    generalize ev e x = X at h ⊢
    cases X <;> first | exact h.elim | skip
    rename_i a n c
    simp only at h ⊢
    generalize eltsOf 1 m (.sl a n c) = O at h ⊢
    cases O with
    | none => exact h.elim
    | some es =>
      simp only at h ⊢
      generalize bytesOfCells es = L at h ⊢
      cases L with
      | none => exact h.elim
      | some l => exact ⟨_, h, fun _ k => k⟩
  case lookup z x i ok pk =>
    simp only [opx] at h ⊢
    generalize ev e x = X at h ⊢
    generalize ev e i = I at h ⊢
    split at h
    · rename_i hk
      simp only [hk, if_true]
      cases X <;> first | exact h.elim | skip
      rename_i p
      cases p with
      | none => exact ⟨_, h, fun _ k => k⟩
      | some r =>
        simp only at h ⊢
        generalize m.obj r = O at h ⊢
        cases O with
        | none => exact h.elim
        | some o => cases o with
          | row => exact h.elim
          | iter => exact h.elim
          | map es g =>
            simp only at h ⊢
            generalize findM es I = F at h ⊢
            rcases F with _ | F
            · exact h.elim
            · cases F <;> exact ⟨_, h, fun _ k => k⟩
    · exact h.elim
/-- Does it only add an object? -/
def IR.adds : IR → Bool
  | .alloc _ | .box _ | .buildSl _ _ _ | .mkSl _ _ _ _ => true
  | _ => false
theorem opx_adds {Γ : Ctx} {o : IR} {e : Env} {m : Mem} {K : KV} (hc : o.adds = true) (h : opx Γ o e m K) : ∃ v x, K v (m.new x) ∧ ∀ K' : KV, K' v (m.new x) → opx Γ o e m K' := by
  cases o <;> first
    | (exfalso; simp [IR.adds] at hc; done)
    | skip
  case alloc z =>
    simp only [opx] at h ⊢
    split at h
    · rename_i hz; exact ⟨_, _, h, fun K' k => by rw [if_pos hz]; exact k⟩
    · exact h.elim
  case box x =>
    simp only [opx] at h ⊢
    split at h
    · rename_i hz; exact ⟨_, _, h, fun K' k => by rw [if_pos hz]; exact k⟩
    · exact h.elim
  case buildSl sz z ps =>
    simp only [opx] at h ⊢
    generalize fillV z _ = F at h ⊢
    cases F with
    | none => exact h.elim
    | some cs =>
      simp only at h ⊢
      split at h
      · rename_i hz; exact ⟨_, _, h, fun K' k => by rw [if_pos hz]; exact k⟩
      · exact h.elim
  case mkSl z b l c =>
    simp only [opx] at h ⊢
    generalize ev e l = X at h ⊢
    generalize ev e c = Y at h ⊢
    cases X <;> try exact h.elim
    rename_i k n
    cases k <;> try exact h.elim
    cases Y <;> try exact h.elim
    rename_i k' n'
    cases k' <;> try exact h.elim
    simp only at h ⊢
    split at h
    · rename_i hz; exact ⟨_, _, h, fun K' k => by rw [if_pos hz]; exact k⟩
    · exact h.elim
theorem eltsOf_keep {sz : Nat} {m m' : Mem} (hk : ∀ q x, m.obj q = some x → m'.obj q = some x) {v : V} {es : List (List V)} (h : eltsOf sz m v = some es) : eltsOf sz m' v = some es := by
  unfold eltsOf at h ⊢
  split at h
  · exact h
  · rename_i r i z n c
    split at h
    · rename_i h0; simp only [h0, if_true]; exact h
    · rename_i h0
      simp only [h0, if_false]
      unfold Mem.elts at h ⊢
      cases ho : m.obj r with
      | none => rw [ho] at h; cases h
      | some o => rw [hk r o ho]; rw [ho] at h; exact h
  · exact h
  · cases h
/-- What is read stays as it is where memory has all that it had. -/
theorem read_keep {Γ : Ctx} {o : IR} {e : Env} {m m' : Mem} {v : V} (hc : o.cls = 1) (hk : ∀ q x, m.obj q = some x → m'.obj q = some x) (h : Ans Γ o e m v) : Ans Γ o e m' v := by
  intro K kv
  replace h := h (fun r _ => r = v) rfl
  cases o <;> first
    | (exfalso; simp [IR.cls] at hc; done)
    | skip
  case len k x =>
    simp only [opx] at h ⊢
    generalize ev e x = X at h ⊢
    cases k <;> cases X <;> first | exact h.elim | (simp only at h ⊢; subst h; exact kv) | skip
    rename_i p
    cases p with
    | none => simp only at h ⊢; subst h; exact kv
    | some r =>
      simp only at h ⊢
      cases ho : m.obj r with
      | none => rw [ho] at h; exact h.elim
      | some o =>
        rw [hk r o ho]; rw [ho] at h
        cases o with
        | row => exact h.elim
        | iter => exact h.elim
        | map es g => simp only at h ⊢; subst h; exact kv
  case load agg n x =>
    simp only [opx] at h ⊢
    generalize ev e x = X at h ⊢
    cases X <;> first | exact h.elim | skip
    rename_i p
    rcases p with _ | ⟨r, i, j⟩
    · exact h.elim
    · simp only [Mem.elt] at h ⊢
      cases ho : m.obj r with
      | none => rw [ho] at h; exact h.elim
      | some o =>
        rw [hk r o ho]; rw [ho] at h
        cases o with
        | map => exact h.elim
        | iter => exact h.elim
        | row sz es rw =>
          simp only at h ⊢
          generalize es[i]? = O at h ⊢
          cases O with
          | none => exact h.elim
          | some cs =>
            simp only at h ⊢
            generalize partV agg cs j n = R at h ⊢
            cases R with
            | none => exact h.elim
            | some u => simp only [opt] at h ⊢; subst h; exact kv
  case convBS x =>
    simp only [opx] at h ⊢
    generalize ev e x = X at h ⊢
    cases X <;> first | exact h.elim | skip
    rename_i a n c
    simp only at h ⊢
    cases hE : eltsOf 1 m (.sl a n c) with
    | none => rw [hE] at h; exact h.elim
    | some es =>
      rw [eltsOf_keep hk hE]; rw [hE] at h
      simp only at h ⊢
      generalize bytesOfCells es = L at h ⊢
      cases L with
      | none => exact h.elim
      | some l => simp only at h ⊢; subst h; exact kv
  case lookup z x i ok pk =>
    simp only [opx] at h ⊢
    generalize ev e x = X at h ⊢
    generalize ev e i = I at h ⊢
    split at h
    · rename_i hkk
      simp only [hkk, if_true]
      cases X <;> first | exact h.elim | skip
      rename_i p
      cases p with
      | none => simp only at h ⊢; subst h; exact kv
      | some r =>
        simp only at h ⊢
        cases ho : m.obj r with
        | none => rw [ho] at h; exact h.elim
        | some o =>
          rw [hk r o ho]; rw [ho] at h
          cases o with
          | row => exact h.elim
          | iter => exact h.elim
          | map es g =>
            simp only at h ⊢
            generalize findM es I = F at h ⊢
            rcases F with _ | F
            · exact h.elim
            · cases F <;> (simp only at h ⊢; subst h; exact kv)
    · exact h.elim
  case sliceM sz x lo hi =>
    simp only [opx] at h ⊢
    generalize ev e x = X at h ⊢
    generalize ev e lo = LO at h ⊢
    generalize ev e hi = HI at h ⊢
    have key : ∀ u, sliceMV sz m X LO HI = some u → sliceMV sz m' X LO HI = some u := by
      intro u hu
      unfold sliceMV at hu ⊢
      split at hu
      · rename_i r i z n
        cases ho : m.obj r with
        | none => rw [ho] at hu; cases hu
        | some o => rw [hk r o ho]; rw [ho] at hu; exact hu
      · rename_i a n c hne
        cases a with
        | none => exact hu
        | some p =>
          obtain ⟨r, i, z⟩ := p
          cases c with
          | none => exact (hne _ _ _ rfl rfl).elim
          | some c => exact hu
      · cases hu
    cases hS : sliceMV sz m X LO HI with
    | none => rw [hS] at h; exact h.elim
    | some u => rw [key u hS]; rw [hS] at h; simp only [opt] at h ⊢; subst h; exact kv
end Go.AM
