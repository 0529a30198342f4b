/-
  THE STATEMENTS of this seat, of what its functions compute.
-/
import Derived.Test.YthclgfhlfmbjfaaFx
namespace Go.Proofs.Ythclgfhlfmbjfaa
open Go Go.AM
set_option linter.unusedVariables false
set_option maxRecDepth 8000

def code : CodeL := [(5, 102, b5), (6, 13, b6), (7, 28, b7), (8, 20, b8), (9, 21, b9), (10, 50, b10), (11, 12, b11), (12, 15, b12), (13, 27, b13), (14, 26, b14), (15, 18, b15), (16, 23, b16), (17, 26, b17), (18, 16, b18)]
theorem codeOk : CodeOk Try.prog code := ⟨c5, c6, c7, c8, c9, c10, c11, c12, c13, c14, c15, c16, c17, c18, trivial⟩

/-- The facts. -/
def F5 : AFn
  | [], m => some (.bool true, m)
  | _, _ => none
theorem s5 : ASpec Try.prog 5 F5 := by
  intro args m r m' h
  unfold F5 at h; split at h <;> cases h
  exact reckon hm codeOk 20 20 rfl rfl (by kernel_rfl) _

abbrev L3 : List (FuncId × AFn) := (5, F5) :: L2
theorem x3 : CtxOk Try.prog (Ctx.of L3) := ctx_cons x2 s5

/-- What is put: numbers that rise. -/
def H (n : Nat) : List (Int × Int) := (List.range n).map fun (i : Nat) => ((i : Int) + 1, (i : Int) + 1)
theorem H_length (n : Nat) : (H n).length = n := by simp [H]
theorem H_succ (n : Nat) : H (n + 1) = H n ++ [((n : Int) + 1, (n : Int) + 1)] := by simp [H, List.range_succ]
theorem H_time (n : Nat) : timeOf (H n) ((n : Int) + 1) = (n : Int) + 1 := by
  cases n with
  | zero => rfl
  | succ n => rw [H_succ]; simp [timeOf]; omega
theorem H_get {n k : Nat} (h : k < n) : (H n)[k]? = some ((k : Int) + 1, (k : Int) + 1) := by simp [H, h]

theorem ents_get : ∀ (a : Nat) (l : List (Int × Int)) (x : Nat), (ents a l)[x]? = (l[x]?).map fun e => ent ((a + x : Nat) + 1) e.1 e.2
  | _, [], x => by simp [ents]
  | a, e :: l, 0 => by simp [ents]
  | a, e :: l, x + 1 => by
    simp only [ents, List.getElem?_cons_succ, ents_get (a + 1) l x]
    rw [show a + 1 + x = a + (x + 1) by omega]

theorem follows (m0 : Mem) (x0 x1 : V) (h0 : IsV m0 (.int .u8) x0) (h1 : IsV m0 (.slice 1 (.int .u8)) x1) : ACalls Try.prog 4 [x0, x1] m0 (fun r _ => r = .bool true) := by
  obtain ⟨size, rfl, hsz⟩ := h0.int
  have hsz := wf_u8 hsz
  obtain ⟨a, zs, c, rfl, _, hi, hz, ha⟩ := h1.ints
  refine run_on x3 hm c4 (by simp) fun hf => ?_
  by_cases hl : (60 : Int) < zs.length
  · simp [b4, F5, hl]
  have ez := IntWalk.i64_in size (by omega)
  have ez1 := IntWalk.i64_in (1 + size) (by omega)
  simp [b4, F5, hl, ez, ez1]
  refine new_calls m0 (fun h => by omega) (fun r q m1 g1 g2 hR hgr n1 n2 n3 n4 => ?_)
  obtain ⟨S, hS⟩ : ∃ S, (1 + size).toNat = S := ⟨_, rfl⟩
  rw [hS] at hR
  refine exec_loop (σ := Nat × Nat × Nat × Nat × Mem) (fun (i, P, saw, mis, _) => en [(5, .ptr (some (r, 0, 0))), (6, .int .i64 P), (7, .int .i64 saw), (8, .int .i64 mis), (9, .int .i64 P), (25, .sl a zs.length c), (26, .int .i64 zs.length), (27, .int .i64 i)])
    (fun (_, _, _, _, m) => m) (fun (i, P, saw, mis, m) => i ≤ zs.length ∧ saw + mis = P ∧ P ≤ i * 255 ∧ Ring m r q S (H P) ∧ m0.Grew m ∧ r < m.next ∧ q < m.next) (fun (i, _, _, _, _) => zs.length - i) ?_ (s := (0, 0, 0, 0, m1)) ?_ ?_
  · intro (i, P, saw, mis, m) ⟨k1, k2, k3, k4, k5, k6, k7⟩
    have hS1 : S = 1 + size.toNat := by omega
    by_cases hi2 : (i : Int) < zs.length
    · have him : m.ints .u8 (.sl a zs.length c) = some zs := Mem.ints_keep hi (fun p o hp => by rw [k5.obj p (hf p o hp)]; exact hp)
      obtain ⟨_, hg⟩ := Mem.ints_some him
      obtain ⟨rr, j, es, rw, rfl, ho, hle, he, hg⟩ := hg (by omega)
      have hgi := hg i (by omega)
      have hzi := wf_u8 (hz _ (nth_mem (show i < zs.length by omega)))
      generalize nth zs i = z at hgi hzi
      have ezz := IntWalk.i64_in z (by omega)
      have ei := IntWalk.i64_in ((i : Int) + 1) (by omega)
      simp [hi2, ho, hgi, ezz]
      refine exec_loop (σ := Nat × Mem) (fun (x, _) => en [(5, .ptr (some (r, 0, 0))), (6, .int .i64 P), (7, .int .i64 saw), (8, .int .i64 mis), (9, .int .i64 (P + x)), (25, .sl (some (rr, j, 1)) zs.length c), (26, .int .i64 zs.length), (27, .int .i64 i), (32, .int .i64 z), (33, .int .i64 x)])
        (fun (_, m) => m) (fun (x, m) => (x : Int) ≤ z ∧ Ring m r q S (H (P + x)) ∧ m0.Grew m ∧ r < m.next ∧ q < m.next) (fun (x, _) => (z - x).toNat) ?_ (s := (0, m)) ?_ ?_
      · intro (x, m2) ⟨p1, p2, p3, p4, p5⟩
        have ex := IntWalk.i64_in ((x : Int) + 1) (by omega)
        have ep := IntWalk.i64_in ((P : Int) + x + 1) (by omega)
        by_cases hx : (x : Int) < z
        · simp [hx, ep]
          have ht := H_time (P + x)
          rw [show (((P + x : Nat) : Int) + 1) = (P : Int) + x + 1 by omega] at ht
          refine put_calls p2 (by rw [H_length]; omega) (fun m3 w1 w2 w3 => ?_)
          rw [ht] at w1
          simp [ex]
          refine ⟨x + 1, m3, ⟨by omega, ?_, ⟨by rw [w2]; exact p3.next, fun p hp => ?_⟩, by omega, by omega⟩, by omega, ?_, rfl⟩
          · rw [show P + (x + 1) = (P + x) + 1 by omega, H_succ, show (((P + x : Nat) : Int) + 1) = (P : Int) + x + 1 by omega]; exact w1
          · rw [w3 p (by omega) (by omega)]; exact p3.obj p hp
          · rw [show (P : Int) + ((x + 1 : Nat) : Int) = (P : Int) + x + 1 by omega]; rfl
        · have hxz : (x : Int) = z := by omega
          subst hxz
          simp [hx]
          obtain ⟨Q, hQ⟩ : ∃ Q, P + x = Q := ⟨_, rfl⟩
          rw [hQ] at p2
          have hQi : (P : Int) + x = Q := by omega
          obtain ⟨lost, hlost⟩ : ∃ lost, Q - min Q S = lost := ⟨_, rfl⟩
          have eL := IntWalk.i64_in ((saw : Int) + ((Q - max P lost : Nat) : Int)) (by omega)
          have eM := IntWalk.i64_in ((mis : Int) + ((lost - P : Nat) : Int)) (by omega)
          have hd : ((H Q).drop (max P lost)).length = Q - max P lost := by rw [List.length_drop, H_length]
          refine after_calls p2 (a := P) (lost := lost) (by rw [H_length]; omega) (by rw [H_length]; exact hlost) (fun h => ?_) (fun h => ?_)
          · have h0 : Q - max P lost = 0 := by rw [← hd, h]; rfl
            simp
            refine exec_loop (σ := Unit) (fun _ => en [(5, .ptr (some (r, 0, 0))), (6, .int .i64 P), (7, .int .i64 saw), (8, .int .i64 mis), (9, .int .i64 Q), (12, .sl none 0 (some 0)), (13, .int .i64 (lost - P : Nat)), (25, .sl (some (rr, j, 1)) zs.length c), (26, .int .i64 zs.length), (27, .int .i64 i), (48, .sl none 0 (some 0)), (49, .int .i64 0), (50, .int .i64 0)])
              (fun _ => m2) (fun _ => True) (fun _ => 0) ?_ trivial (s := ()) ?_
            · intro _ _
              rw [h0] at eL
              simp at eL
              simp [ei, eL, eM]
              exact ⟨i + 1, Q, saw, mis + (lost - P), m2, ⟨by omega, by omega, by omega, p2, p3, p4, p5⟩, by omega, rfl, rfl⟩
            · simp [hQi]
          · rw [hd]
            generalize hst : max P lost = st at *
            have hlt : 0 < Q - st := by rw [← hd]; exact List.length_pos_iff.2 h
            simp
            refine exec_loop (σ := Nat × Mem) (fun (y, _) => en [(5, .ptr (some (r, 0, 0))), (6, .int .i64 P), (7, .int .i64 saw), (8, .int .i64 mis), (9, .int .i64 Q), (12, .sl (some (m2.next, 0, 3)) (Q - st) none), (13, .int .i64 (lost - P : Nat)), (25, .sl (some (rr, j, 1)) zs.length c), (26, .int .i64 zs.length), (27, .int .i64 i), (48, .sl (some (m2.next, 0, 3)) (Q - st) none), (49, .int .i64 (Q - st : Nat)), (50, .int .i64 y)])
              (fun (_, m) => m) (fun (y, m) => y ≤ Q - st ∧ m.obj m2.next = some (.row 3 (ents st ((H Q).drop st)) true) ∧ Ring m r q S (H Q) ∧ m0.Grew m ∧ r < m.next ∧ q < m.next ∧ m2.next < m.next) (fun (y, _) => Q - st - y) ?_ (s := (0, m2.new (.row 3 (ents st ((H Q).drop st)) true))) ?_ ?_
            · intro (y, m4) ⟨t1, t2, t3, t4, t5, t6, t7⟩
              by_cases hy : y < Q - st
              · have hyQ : ((y : Int) < ((Q - st : Nat) : Int)) := by omega
                have hgy : (ents st ((H Q).drop st))[y]? = some (ent ((st : Int) + y + 1) ((st : Int) + y + 1) ((st : Int) + y + 1)) := by
                  rw [ents_get, List.getElem?_drop, H_get (by omega)]
                  simp
                have e1 := IntWalk.i64_in ((P : Int) + ((lost - P : Nat) : Int)) (by omega)
                have e2 : (P : Int) + ((lost - P : Nat) : Int) = st := by omega
                have e3 := IntWalk.i64_in ((st : Int) + y) (by omega)
                have e4 := IntWalk.i64_in ((st : Int) + y + 1) (by omega)
                have ey := IntWalk.i64_in ((y : Int) + 1) (by omega)
                rw [e2] at e1
                simp [hyQ, t2, hgy, e1, e2, e3, e4, ey]
                refine ⟨y + 1, _, ⟨by omega, ?_, t3.keep ?_ ?_, ⟨?_, fun p hp => ?_⟩, ?_, ?_, ?_⟩, by omega, rfl, upd_new _ _ _ rfl⟩
                · rw [new_obj, if_neg (by omega)]; exact t2
                · rw [new_obj, if_neg (by omega)]
                · rw [new_obj, if_neg (by omega)]
                · rw [new_next]; have := t4.next; omega
                · rw [new_obj, if_neg (by have := t4.next; omega)]; exact t4.obj p hp
                · rw [new_next]; omega
                · rw [new_next]; omega
                · rw [new_next]; omega
              · have hyQ : ¬ ((y : Int) < ((Q - st : Nat) : Int)) := by omega
                simp [hyQ, ei, eL, eM]
                exact ⟨i + 1, Q, saw + (Q - st), mis + (lost - P), m4, ⟨by omega, by omega, by omega, t3, t4, t5, t6⟩, by omega, by simp, rfl⟩
            · refine ⟨by omega, by simp, p2.keep ?_ ?_, ⟨?_, fun p hp => ?_⟩, ?_, ?_, ?_⟩
              · rw [new_obj, if_neg (by omega)]
              · rw [new_obj, if_neg (by omega)]
              · rw [new_next]; have := p3.next; omega
              · rw [new_obj, if_neg (by have := p3.next; omega)]; exact p3.obj p hp
              · rw [new_next]; omega
              · rw [new_next]; omega
              · rw [new_next]; omega
            · simp [hQi]
      · exact ⟨by omega, by simpa using k4, k5, k6, k7⟩
      · simp
    · have : i = zs.length := by omega
      subst this
      simp [IntWalk.i64_in ((saw : Int) + mis) (by omega)]
      omega
  · exact ⟨by omega, rfl, by omega, hR, hgr, n3, n4⟩
  · simp

end Go.Proofs.Ythclgfhlfmbjfaa
