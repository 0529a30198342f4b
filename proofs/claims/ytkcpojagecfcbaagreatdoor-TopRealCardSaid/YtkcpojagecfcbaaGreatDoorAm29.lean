/-
  MAPS over the plain machine: what a map with whole numbers as keys answers.
-/
import Derived.Test.YtkcpojagecfcbaaGreatDoorAm24
namespace Go.AM
open Go
set_option linter.unusedVariables false
set_option linter.unusedSimpArgs false
def lookupV (pk : Bool) (z : V) (ok : Bool) (m : Mem) (x i : V) : Option V :=
  if keyOk pk i then match x with
    | .map none => some (if ok then .tup [z, .bool false] else z)
    | .map (some r) => match m.obj r with
      | some (.map es _) => match findM es i with
        | some (some v) => some (if ok then .tup [v, .bool true] else v)
        | some none => some (if ok then .tup [z, .bool false] else z)
        | none => none
      | _ => none
    | _ => none
  else none
def mapUpdV (pk : Bool) (m : Mem) (x k v : V) : Option (V × Mem) :=
  if keyOk pk k then match x with
    | .map (some r) => match m.obj r with
      | some (.map es g) => match setM es k v with
        | some es' => some (.tup [], m.upd r (some (.map es' (stU es k g))))
        | none => none
      | _ => none
    | _ => none
  else none
def delMV (pk : Bool) (m : Mem) (x k : V) : Option (V × Mem) :=
  if keyOk pk k then match x with
    | .map none => some (.tup [], m)
    | .map (some r) => match m.obj r with
      | some (.map es g) => match delM es k with
        | some es' => some (.tup [], m.upd r (some (.map es' (stD es k g))))
        | none => none
      | _ => none
    | _ => none
  else none
def lenMV (m : Mem) (x : V) : Option V :=
  match x with
  | .map none => some (.int .i64 0)
  | .map (some r) => match m.obj r with
    | some (.map es _) => some (.int .i64 es.length)
    | _ => none
  | _ => none
section
variable {Γ : Ctx} {e : Env} {m : Mem} {k : KV}
theorem opx_mkMap' : opx Γ .mkMap e m k = opt2 (some (.map (some m.next), m.new (.map [] ([], 0)))) k .mk := eqI rfl
theorem opx_lookup' (z : V) (x i : Opd) (ok pk : Bool) : opx Γ (.lookup z x i ok pk) e m k = optT (lookupV pk z ok m (ev e x) (ev e i)) m k .mk := by
  simp only [opx, lookupV]
  split
  · generalize ev e x = v
    cases v <;> try rfl
    rename_i r
    cases r with
    | none => rfl
    | some r =>
      simp only []
      generalize m.obj r = o
      rcases o with _ | o
      · rfl
      · cases o with
        | row => rfl
        | iter => rfl
        | map es g =>
          simp only []
          generalize findM es (ev e i) = q
          rcases q with _ | _ | q <;> rfl
  · rfl
theorem opx_mapUpd' (x i v : Opd) (pk : Bool) : opx Γ (.mapUpd x i v pk) e m k = opt2 (mapUpdV pk m (ev e x) (ev e i) (ev e v)) k .mk := by
  simp only [opx, mapUpdV]
  split
  · generalize ev e x = w
    cases w <;> try rfl
    rename_i r
    cases r with
    | none => rfl
    | some r =>
      simp only []
      generalize m.obj r = o
      rcases o with _ | o
      · rfl
      · cases o with
        | row => rfl
        | iter => rfl
        | map es g =>
          simp only []
          generalize setM es (ev e i) (ev e v) = q
          rcases q with _ | q <;> rfl
  · rfl
theorem opx_delete' (x i : Opd) (pk : Bool) : opx Γ (.delete x i pk) e m k = opt2 (delMV pk m (ev e x) (ev e i)) k .mk := by
  simp only [opx, delMV]
  split
  · generalize ev e x = w
    cases w <;> try rfl
    rename_i r
    cases r with
    | none => rfl
    | some r =>
      simp only []
      generalize m.obj r = o
      rcases o with _ | o
      · rfl
      · cases o with
        | row => rfl
        | iter => rfl
        | map es g =>
          simp only []
          generalize delM es (ev e i) = q
          rcases q with _ | q <;> rfl
  · rfl
theorem opx_len_map' (x : Opd) : opx Γ (.len .map x) e m k = optT (lenMV m (ev e x)) m k .mk := by
  simp only [opx, lenMV]
  generalize ev e x = w
  cases w <;> try rfl
  rename_i r
  cases r with
  | none => rfl
  | some r =>
    simp only []
    generalize m.obj r = o
    rcases o with _ | o
    · rfl
    · cases o <;> rfl
end
/-- A map's entries, by whole numbers. -/
def mapI (l : List (Int × V)) : List (V × V) := l.map fun x => (.int .i64 x.1, x.2)
def getI : List (Int × V) → Int → Option V
  | [], _ => none
  | (b, v) :: l, a => if a = b then some v else getI l a
def putI : List (Int × V) → Int → V → List (Int × V)
  | [], a, v => [(a, v)]
  | (b, u) :: l, a, v => if a = b then (b, v) :: l else (b, u) :: putI l a v
def delI : List (Int × V) → Int → List (Int × V)
  | [], _ => []
  | (b, u) :: l, a => if a = b then l else (b, u) :: delI l a
theorem findM_mapI (l : List (Int × V)) (a : Int) : findM (mapI l) (.int .i64 a) = some (getI l a) := by
  induction l with
  | nil => rfl
  | cons x l ih =>
    obtain ⟨b, v⟩ := x
    simp only [mapI, List.map_cons, findM, eqC, if_true, getI]
    by_cases h : a = b
    · subst h; simp
    · rw [if_neg h]
      have : (a == b) = false := by simpa using h
      rw [this]; exact ih
theorem setM_mapI (l : List (Int × V)) (a : Int) (v : V) : setM (mapI l) (.int .i64 a) v = some (mapI (putI l a v)) := by
  induction l with
  | nil => rfl
  | cons x l ih =>
    obtain ⟨b, u⟩ := x
    simp only [mapI, List.map_cons, setM, eqC, if_true, putI]
    by_cases h : a = b
    · subst h; simp
    · rw [if_neg h]
      have : (a == b) = false := by simpa using h
      rw [this]; simp only
      have ih' : setM (l.map fun x => (V.int .i64 x.1, x.2)) (.int .i64 a) v = some (mapI (putI l a v)) := ih
      rw [ih']; rfl
theorem delM_mapI (l : List (Int × V)) (a : Int) : delM (mapI l) (.int .i64 a) = some (mapI (delI l a)) := by
  induction l with
  | nil => rfl
  | cons x l ih =>
    obtain ⟨b, u⟩ := x
    simp only [mapI, List.map_cons, delM, eqC, if_true, delI]
    by_cases h : a = b
    · subst h; simp
    · rw [if_neg h]
      have : (a == b) = false := by simpa using h
      rw [this]; simp only
      have ih' : delM (l.map fun x => (V.int .i64 x.1, x.2)) (.int .i64 a) = some (mapI (delI l a)) := ih
      rw [ih']; rfl
theorem mapI_length (l : List (Int × V)) : (mapI l).length = l.length := by simp [mapI]
theorem getI_put (l : List (Int × V)) (a b : Int) (v : V) : getI (putI l a v) b = if b = a then some v else getI l b := by
  induction l with
  | nil => simp [putI, getI]
  | cons x l ih =>
    obtain ⟨c, u⟩ := x
    simp only [putI]
    by_cases h : a = c
    · subst h
      rw [if_pos rfl]; simp only [getI]
      by_cases h1 : b = a <;> simp [h1]
    · rw [if_neg h]; simp only [getI]
      rw [ih]
      by_cases h1 : b = c
      · subst h1; rw [if_pos rfl, if_neg (fun e => h e.symm), if_pos rfl]
      · rw [if_neg h1, if_neg h1]
/-- No key twice. -/
def KeysI (l : List (Int × V)) : Prop := (l.map (·.1)).Nodup
theorem getI_none {l : List (Int × V)} {a : Int} : getI l a = none ↔ a ∉ l.map (·.1) := by
  induction l with
  | nil => simp [getI]
  | cons x l ih =>
    obtain ⟨b, v⟩ := x
    simp only [getI, List.map_cons, List.mem_cons, not_or]
    by_cases h : a = b
    · simp [h]
    · simp [h, ih]
theorem keysI_put {l : List (Int × V)} (h : KeysI l) (a : Int) (v : V) : KeysI (putI l a v) ∧ (putI l a v).length = (if getI l a = none then l.length + 1 else l.length) ∧ ∀ x, x ∈ (putI l a v).map (·.1) ↔ x = a ∨ x ∈ l.map (·.1) := by
  induction l with
  | nil => simp [KeysI, putI, getI]
  | cons x l ih =>
    obtain ⟨b, u⟩ := x
    have h' : b ∉ l.map (·.1) ∧ KeysI l := by simpa [KeysI] using h
    obtain ⟨i1, i2, i3⟩ := ih h'.2
    by_cases q : a = b
    · subst q
      simp only [putI, if_true, getI]
      refine ⟨h, by simp, fun x => by simp⟩
    · simp only [putI, if_neg q, getI]
      refine ⟨?_, ?_, fun x => ?_⟩
      · show ((b, u) :: putI l a v).map (·.1) |>.Nodup
        rw [List.map_cons, List.nodup_cons]
        exact ⟨fun hm => by rcases (i3 b).1 hm with e | e; exact q e.symm; exact h'.1 e, i1⟩
      · simp only [List.length_cons, i2]; split <;> rfl
      · rw [List.map_cons, List.mem_cons, i3, List.map_cons, List.mem_cons]
        constructor
        · rintro (e | e | e)
          · exact .inr (.inl e)
          · exact .inl e
          · exact .inr (.inr e)
        · rintro (e | e | e)
          · exact .inr (.inl e)
          · exact .inl e
          · exact .inr (.inr e)
theorem keysI_del {l : List (Int × V)} (h : KeysI l) (a : Int) : KeysI (delI l a) ∧ (delI l a).length = (if getI l a = none then l.length else l.length - 1) ∧ (∀ x ∈ (delI l a).map (·.1), x ∈ l.map (·.1)) ∧ ∀ b, getI (delI l a) b = if b = a then none else getI l b := by
  induction l with
  | nil => simp [KeysI, delI, getI]
  | cons x l ih =>
    obtain ⟨b, u⟩ := x
    have h' : b ∉ l.map (·.1) ∧ KeysI l := by simpa [KeysI] using h
    obtain ⟨i1, i2, i3, i4⟩ := ih h'.2
    by_cases q : a = b
    · subst q
      simp only [delI, if_true, getI]
      refine ⟨h'.2, by simp, fun x hx => by simp only [List.map_cons, List.mem_cons]; exact .inr hx, fun c => ?_⟩
      by_cases e : c = a
      · rw [if_pos e, e]; exact getI_none.2 h'.1
      · rw [if_neg e, if_neg e]
    · simp only [delI, if_neg q, getI]
      refine ⟨?_, ?_, fun x hx => ?_, fun c => ?_⟩
      · show ((b, u) :: delI l a).map (·.1) |>.Nodup
        rw [List.map_cons, List.nodup_cons]
        exact ⟨fun hm => h'.1 (i3 b hm), i1⟩
      · simp only [List.length_cons, i2]
        split
        · rfl
        · rename_i hn
          have : l ≠ [] := by rintro rfl; exact hn rfl
          have := List.length_pos_iff.2 this
          omega
      · simp only [List.map_cons, List.mem_cons] at hx ⊢
        rcases hx with e | e
        · exact .inl e
        · exact .inr (i3 x e)
      · by_cases e : c = b
        · subst e; simp [Ne.symm q]
        · simp only [getI, if_neg e, i4]
theorem lookupV_map (z : V) (ok : Bool) (m : Mem) (r : Nat) (k : IntKind) (a : Int) : lookupV false z ok m (.map (some r)) (.int k a) = match m.obj r with
    | some (.map es _) => (match findM es (.int k a) with
      | some (some v) => some (if ok then .tup [v, .bool true] else v)
      | some none => some (if ok then .tup [z, .bool false] else z)
      | none => none)
    | _ => none := eqI rfl
theorem mapUpdV_map (m : Mem) (r : Nat) (k : IntKind) (a : Int) (v : V) : mapUpdV false m (.map (some r)) (.int k a) v = match m.obj r with
    | some (.map es g) => (match setM es (.int k a) v with
      | some es' => some (.tup [], m.upd r (some (.map es' (stU es (.int k a) g))))
      | none => none)
    | _ => none := eqI rfl
theorem delMV_map (m : Mem) (r : Nat) (k : IntKind) (a : Int) : delMV false m (.map (some r)) (.int k a) = match m.obj r with
    | some (.map es g) => (match delM es (.int k a) with
      | some es' => some (.tup [], m.upd r (some (.map es' (stD es (.int k a) g))))
      | none => none)
    | _ => none := eqI rfl
theorem lookupV_mapP (z : V) (ok : Bool) (m : Mem) (r : Nat) (k l : IntKind) (a b : Int) : lookupV true z ok m (.map (some r)) (.agg [.int k a, .int l b]) = match m.obj r with
    | some (.map es _) => (match findM es (.agg [.int k a, .int l b]) with
      | some (some v) => some (if ok then .tup [v, .bool true] else v)
      | some none => some (if ok then .tup [z, .bool false] else z)
      | none => none)
    | _ => none := eqI rfl
theorem mapUpdV_mapP (m : Mem) (r : Nat) (k l : IntKind) (a b : Int) (v : V) : mapUpdV true m (.map (some r)) (.agg [.int k a, .int l b]) v = match m.obj r with
    | some (.map es g) => (match setM es (.agg [.int k a, .int l b]) v with
      | some es' => some (.tup [], m.upd r (some (.map es' (stU es (.agg [.int k a, .int l b]) g))))
      | none => none)
    | _ => none := eqI rfl
theorem delMV_mapP (m : Mem) (r : Nat) (k l : IntKind) (a b : Int) : delMV true m (.map (some r)) (.agg [.int k a, .int l b]) = match m.obj r with
    | some (.map es g) => (match delM es (.agg [.int k a, .int l b]) with
      | some es' => some (.tup [], m.upd r (some (.map es' (stD es (.agg [.int k a, .int l b]) g))))
      | none => none)
    | _ => none := eqI rfl
theorem lenMV_map (m : Mem) (r : Nat) : lenMV m (.map (some r)) = match m.obj r with
    | some (.map es _) => some (.int .i64 es.length)
    | _ => none := eqI rfl
attribute [simp↓ high] opx_mkMap' opx_lookup' opx_mapUpd' opx_delete' opx_len_map'
attribute [simp] lookupV_map mapUpdV_map delMV_map lookupV_mapP mapUpdV_mapP delMV_mapP lenMV_map findM_mapI setM_mapI delM_mapI mapI_length
end Go.AM
