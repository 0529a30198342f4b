/-
  STAMPPUTS, STAMPREADS, STAMPCUTS, STAMPLONG, of what the functions of this seat do.
-/
import Derived.Test.YtdjofnipknioiaaJx
namespace Go.AM
open Go
/-- Bytes as a string. -/
def bsV (v : V) (m : Mem) : Option V := match v with
  | .sl a n c => match eltsOf 1 m (.sl a n c) with
    | some es => match bytesOfCells es with
      | some l => some (.str ⟨l.toArray⟩)
      | none => none
    | none => none
  | _ => none
theorem opx_convBS' {Γ : Ctx} {e : Env} {m : Mem} {k : KV} (x : Opd) : opx Γ (.convBS x) e m k = optT (bsV (ev e x) m) m k .mk := by
  simp only [opx, optT, bsV]
  generalize ev e x = v
  cases v with
  | sl a n c =>
    dsimp only
    cases eltsOf 1 m (.sl a n c) with
    | none => rfl
    | some es =>
      dsimp only
      cases bytesOfCells es with
      | none => rfl
      | some l => rfl
  | _ => rfl
attribute [simp] opx_convBS'
def strI (bs : List Int) : ByteArray := ⟨(bs.map fun z => UInt8.ofNat z.toNat).toArray⟩
theorem cells_rowI : ∀ (bs : List Int), bytesOfCells (rowI .u8 bs) = some (bs.map fun z => UInt8.ofNat z.toNat)
  | [] => rfl
  | z :: bs => by
    show (match bytesOfCells (rowI .u8 bs) with | some l => some (UInt8.ofNat z.toNat :: l) | none => none) = _
    rw [cells_rowI bs]; rfl
theorem Sl.bs {m : Mem} {v : V} {bs : List Int} (h : Sl m 1 v (rowI .u8 bs)) : bsV v m = some (.str (strI bs)) := by
  have he := h.elts
  obtain ⟨a, c, rfl, _⟩ := h.ex
  simp only [bsV, he, cells_rowI]; rfl
end Go.AM
namespace Go.Proofs.Ytdjofnipknioiaa
open Go Go.AM
set_option linter.unusedVariables false
set_option linter.unusedSimpArgs false
set_option maxRecDepth 8000
set_option maxHeartbeats 4000000

def F8 : AFn
  | [], m => some (.bool true, m)
  | _, _ => none
theorem s8 : ASpec Try.prog 8 F8 := by
  intro args m r m' h
  unfold F8 at h; split at h <;> cases h
  exact reckon hm codeOk 20 20 rfl rfl (by kernel_rfl) _
abbrev L8 : List (FuncId × AFn) := [(8, F8)]
theorem x8 : CtxOk Try.prog (Ctx.of L8) := ctx_cons (ctx_nil _) s8

theorem puts (m0 : Mem) (x0' : V) (h0 : IsV m0 (.slice 1 (.int .i64)) x0') : ACalls Try.prog 3 [x0'] m0 (fun r _ => r = .bool true) := by
  refine run_on x8 hm c3 (by simp) fun hf => ?_
  obtain ⟨l, hv, hml, hwf⟩ := h0.slI hf
  obtain ⟨N, hN, hv1⟩ := len1 hv
  by_cases hl : (200 : Int) < N
  · simp (disch := omega) [b3, F8, hv1]
  simp (disch := omega) [b3, F8, hv1]
  refine put9_calls hv (by omega) (fun he => ?_) (fun he hr hl2 v' m' q1 q2 q3 => ?_)
  · have hr : ¬ Rt l := fun hr => he (by unfold chkE; rw [if_neg (by omega), if_pos hr])
    have hc : chkE l = 2 := by unfold chkE; rw [if_neg (by omega), if_neg hr]
    simp (disch := omega) [hc]
    refine right_calls hv (by omega) ?_
    rw [decide_eq_false hr]
    simp (disch := omega)
    refine size_calls hv (by omega) fun m1 _ => ?_
    simp (disch := omega) [hc]
  · simp (disch := omega)
    refine right_calls (hv.grow q2) (by omega) ?_
    rw [decide_eq_true hr]
    simp (disch := omega)
    have hbr := bytes_rng hr (by omega)
    have hbl := bytes_len hr (by omega)
    have hrp := read_bytes hr hl2 []
    rw [List.append_nil, if_pos rfl] at hrp
    refine read_calls q1.sl hbr (by omega) (fun l' h1 v2 m2 w1 w2 w3 => ?_) (fun h1 => by rw [hrp] at h1; cases h1)
    rw [hrp] at h1
    injection h1 with h1
    subst h1
    simp (disch := omega)
    refine drawT_J (fun e _ => e = Env.none.put (some 2) (.bool true)) ?_ ?_
    · have hb1 := (q1.grow w2).sl.bs
      have hv2 : (V.str (strI (bytesI l))) = .str (strI (bytesI l)) := rfl
      simp (disch := omega) [hb1]
      constructor
      all_goals
        refine bytes_calls (hv.grow (q2.trans w2)) hr (by omega) fun v3 m3 g1 g2 g3 => ?_
        have hb2 := g1.ows.sl.bs
        have hb3 := ((q1.grow w2).grow g2).sl.bs
        have hb4 := ((q1.grow w2).grow g2).sl.lenSl
        rw [rowI_length] at hb4
        simp (disch := omega) [hb2, hb3]
        refine same_calls (hv.grow ((q2.trans w2).trans g2)) (w1.grow g2).sl (by omega) (by omega) ?_
        rw [decide_eq_true rfl]
        simp (disch := omega) [hb4]
        refine size_calls (hv.grow ((q2.trans w2).trans g2)) (by omega) fun m4 _ => ?_
        rw [if_pos he]
        simp (disch := omega) [hb4]
    · rintro _ m' rfl
      simp

theorem reads (m0 : Mem) (x0' : V) (h0 : IsV m0 (.slice 1 (.int .u8)) x0') : ACalls Try.prog 4 [x0'] m0 (fun r _ => r = .bool true) := by
  refine run_on x8 hm c4 (by simp) fun hf => ?_
  obtain ⟨bs, hv, hml, hwf⟩ := h0.slI hf
  obtain ⟨N, hN, hv1⟩ := len1 hv
  by_cases hl : (300 : Int) < N
  · simp (disch := omega) [b4, F8, hv1]
  have hrng : ∀ x ∈ bs, 0 ≤ x ∧ x ≤ 255 := fun x hx => wf_u8 (hwf x hx)
  simp (disch := omega) [b4, F8, hv1]
  refine read_calls hv hrng (by omega) (fun l h1 v2 m2 w1 w2 w3 => ?_) (fun h1 m2 w2 => ?_)
  · obtain ⟨hr, hl2, hb⟩ := read_is hrng h1
    simp (disch := omega)
    refine drawT_J (fun e _ => e = Env.none.put (some 2) (.bool true)) ?_ ?_
    · simp (disch := omega)
      refine right_calls w1.sl (by omega) ?_
      rw [decide_eq_true hr]
      have hb1 := (hv.grow w2).bs
      simp (disch := omega) [hb1]
      constructor
      all_goals
        refine bytes_calls w1.sl hr (by omega) fun v3 m3 g1 g2 g3 => ?_
        rw [hb] at g1
        have hb2 := g1.ows.sl.bs
        have hb3 := ((hv.grow w2).grow g2).bs
        simp (disch := omega) [hb2, hb3]
    · rintro _ m' rfl
      simp
  · simp (disch := omega)

theorem cuts (m0 : Mem) (x0' x1' x2' : V) (h0 : IsV m0 (.slice 1 (.int .i64)) x0') (h1 : IsV m0 (.int .u16) x1') (h2 : IsV m0 (.slice 1 (.int .u8)) x2') : ACalls Try.prog 6 [x0', x1', x2'] m0 (fun r _ => r = .bool true) := by
  obtain ⟨cut, rfl, hwc⟩ := h1.int
  replace hwc := wf_u16 hwc
  refine run_on x8 hm c6 (by simp) fun hf => ?_
  obtain ⟨l, hv, hml, hwf⟩ := h0.slI hf
  obtain ⟨N, hN, hv1⟩ := len1 hv
  obtain ⟨mo, hw, hml2, hwf2⟩ := h2.slI hf
  obtain ⟨N2, hN2, hw1⟩ := len1 hw
  by_cases hl : (200 : Int) < N
  · simp (disch := omega) [b6, F8, hv1]
  by_cases hl2 : (50 : Int) < N2
  · simp (disch := omega) [b6, F8, hv1, hw1]
  simp (disch := omega) [b6, F8, hv1, hw1]
  refine right_calls hv (by omega) ?_
  by_cases hr : Rt l
  case neg =>
    rw [decide_eq_false hr]
    simp (disch := omega)
  rw [decide_eq_true hr]
  simp (disch := omega)
  refine bytes_calls hv hr (by omega) fun v1 m1 q1 q2 q3 => ?_
  have hbr := bytes_rng hr (by omega)
  have hbl := bytes_len hr (by omega)
  have hbp : 1 ≤ (bytesI l).length := by unfold bytesI; rw [List.length_append]; have := numB_pos l.length; omega
  have hA := q1.ows.sl.lenSl
  rw [rowI_length] at hA
  obtain ⟨B, hB⟩ : ∃ B, (bytesI l).length = B := ⟨_, rfl⟩
  rw [hB] at hA hbl hbp
  obtain ⟨cc, hcc⟩ : ∃ cc : Nat, cut.tmod B = cc := ⟨(cut.tmod B).toNat, by rw [Int.tmod_eq_emod_of_nonneg (by omega)]; have := Int.emod_nonneg cut (show (B : Int) ≠ 0 by omega); omega⟩
  have hcl : cc < B := by
    have := Int.emod_lt_of_pos cut (show (0 : Int) < B by omega)
    rw [Int.tmod_eq_emod_of_nonneg (by omega)] at hcc; omega
  obtain ⟨w, y1, y2, y3⟩ := q1.ows.sl.cutR .i64 cc (by rw [rowI_length]; omega)
  rw [rowI_take] at y2
  simp (disch := omega) [hA, hcc, y1]
  have hno : readP ((bytesI l).take cc) = none := by
    cases hp : readP ((bytesI l).take cc) with
    | none => rfl
    | some l' =>
      obtain ⟨r1, r2, r3⟩ := read_is (fun x hx => hbr x (List.mem_of_mem_take hx)) hp
      have e1 : bytesI l' ++ (bytesI l).drop cc = bytesI l := by rw [r3]; exact List.take_append_drop cc _
      have e2 := read_bytes r1 r2 ((bytesI l).drop cc)
      rw [e1] at e2
      have e3 := read_bytes hr (by omega) []
      rw [List.append_nil, if_pos rfl, e2] at e3
      split at e3
      · rename_i e4
        have := congrArg List.length e4
        rw [List.length_drop, List.length_nil] at this
        omega
      · cases e3
  refine read_calls y2 (fun x hx => hbr x (List.mem_of_mem_take hx)) (by simp; omega) (fun l' h => by rw [hno] at h; cases h) (fun _ m2 w2 => ?_)
  have el1 := ((q1.grow w2).grow (Mem.Grew.new m2 (.row 1 [] true))).ows.sl.elts
  simp (disch := omega) [el1]
  refine (Exa.lit (m := m2) (sz := 1) (es := []) (n := 0) rfl).app (by rw [rowI_length]; simp; omega) (by rw [rowI_length]; simp; omega) fun v3 m3 g1 g2 g3 => ?_
  rw [List.nil_append] at g1
  have s1 : Stp m2 (m2.new (.row 1 [] true)) [] [m2.next] := ⟨by simp, fun p hp _ => by rw [new_obj, if_neg (by omega)], fun p hp => by simp at hp; exact .inr (by omega)⟩
  have s2 := s1.trans g2
  have gr : m0.Grew m3 := s2.toGrew (q2.trans w2) (by simp)
  have el2 := (hw.grow gr).elts
  simp (disch := omega) [el2]
  refine g1.app (by rw [rowI_length, rowI_length]; omega) (by rw [rowI_length, rowI_length]; omega) fun v4 m4 g4 g5 g6 => ?_
  rw [rowI_append] at g4
  simp (disch := omega)
  have hrd := read_bytes hr (by omega) mo
  have hrng4 : ∀ x ∈ bytesI l ++ mo, 0 ≤ x ∧ x ≤ 255 := fun x hx => by
    rcases List.mem_append.1 hx with hx | hx
    · exact hbr x hx
    · exact wf_u8 (hwf2 x hx)
  refine read_calls g4.ows.sl hrng4 (by rw [List.length_append]; omega) (fun l' h v5 m5 _ _ _ => ?_) (fun h m5 _ => ?_)
  · have hm0 : N2 = 0 := by
      rw [hrd] at h
      split at h
      · rename_i e; rw [← hN2, e]; rfl
      · cases h
    simp (disch := omega) [hw1, hm0]
  · have hm0 : 0 < N2 := by
      rw [hrd] at h
      split at h
      · cases h
      · rename_i e; rw [← hN2]; exact List.length_pos_iff.2 e
    simp (disch := omega) [hw1]

/-- A row that is filled. -/
def fil (t : Int) (N i : Nat) : List Int := List.replicate i t ++ List.replicate (N - i) 0
theorem fil_length {t : Int} {N i : Nat} (h : i ≤ N) : (fil t N i).length = N := by simp [fil]; omega
theorem fil_set {t : Int} {N i : Nat} (h : i < N) : (fil t N i).set i t = fil t N (i + 1) := by
  apply List.ext_getElem?
  intro j
  rw [List.getElem?_set]
  simp only [fil, List.length_append, List.length_replicate, List.getElem?_append, List.getElem?_replicate]
  repeat' split
  all_goals first | rfl | (exfalso; omega)
theorem nth_rep {t : Int} {N i : Nat} (h : i < N) : nth (List.replicate N t) i = t := by
  unfold nth; simp only [List.getD_eq_getElem?_getD, List.getElem?_replicate, if_pos h]; rfl

theorem long (m0 : Mem) (x0' x1' : V) (h0 : IsV m0 (.int .u8) x0') (h1 : IsV m0 (.int .i32) x1') : ACalls Try.prog 7 [x0', x1'] m0 (fun r _ => r = .bool true) := by
  obtain ⟨mo, rfl, hwc⟩ := h0.int
  replace hwc := wf_u8 hwc
  obtain ⟨t, rfl, hwt⟩ := h1.int
  replace hwt := wf_i32 hwt
  refine run_on x8 hm c7 (by simp) fun hf => ?_
  obtain ⟨N, hN⟩ : ∃ N : Nat, 4000 + mo = N := ⟨(4000 + mo).toNat, by omega⟩
  simp (disch := omega) [b7, F8, hN]
  have e0 : List.replicate N [V.int .i64 0] = rowI .i64 (fil t N 0) := by simp [fil, rowI]
  rw [e0]
  refine exec_loopU (σ := Nat) (fun i => [(19, .int .i64 i)]) (fun i => m0.new (.row 1 (rowI .i64 (fil t N i)) true)) (fun i => i ≤ N) (fun i => N - i) 0 rfl (by omega) (by simp) ?_
  intro i hi
  by_cases hi2 : i < N
  · have e1 : (rowI .i64 (fil t N i)).set i [.int .i64 t] = rowI .i64 (fil t N (i + 1)) := by
      simp only [rowI, ← fil_set hi2, List.map_set]
    have e2 : (rowI .i64 (fil t N i)).length = N := by rw [rowI_length, fil_length hi]
    have e3 : (rowI .i64 (fil t N i))[i]? = some [.int .i64 (nth (fil t N i) i)] := by rw [rowI_get, nth_get (by rw [fil_length hi]; omega)]; rfl
    simp (disch := omega) [-getElem?_pos, e3, e1]
    exact again_mk (i + 1) (by omega) (by omega) (by simp) rfl
  · have : i = N := by omega
    subst this
    have e4 : fil t i i = List.replicate i t := by simp [fil]
    rw [e4]
    have hv : Ows (m0.new (.row 1 (rowI .i64 (List.replicate i t)) true)) 1 (.sl (some (m0.next, 0, 1)) i (some i)) (rowI .i64 (List.replicate i t)) := (Exa.lit (by rw [rowI_length]; simp)).ows
    have hlen : (List.replicate i t).length = i := by simp
    generalize m0.new (.row 1 (rowI .i64 (List.replicate i t)) true) = m1 at *
    have hrt : Rt (List.replicate i t) := fun j hj => by
      rw [hlen] at hj
      rw [nth_rep hj]
      exact ⟨by omega, by omega, fun h => by rw [nth_rep (by omega)]; omega⟩
    have hnth : ∀ j, j < i → nth (List.replicate i t) j = t := fun j hj => nth_rep hj
    clear e0 e4
    simp (disch := omega)
    generalize List.replicate i t = l at *
    refine put9_calls hv.sl (by omega) (fun he => ?_) (fun he hr hl2 v' m' q1 q2 q3 => ?_)
    · have hc : chkE l = 10 := by
        unfold chkE at he ⊢
        by_cases h : 4096 < l.length
        · rw [if_pos h]
        · rw [if_neg h, if_pos hrt] at he; omega
      have hi5 : 4096 < i := by
        unfold chkE at hc
        by_cases h : 4096 < l.length
        · omega
        · rw [if_neg h, if_pos hrt] at hc; omega
      simp (disch := omega) [hc]
    · have hbr := bytes_rng hr (by omega)
      have hbl := bytes_len hr (by omega)
      have hrp := read_bytes hr hl2 []
      rw [List.append_nil, if_pos rfl] at hrp
      simp (disch := omega)
      refine read_calls q1.sl hbr (by omega) (fun l' h1 v2 m2 w1 w2 w3 => ?_) (fun h1 => by rw [hrp] at h1; cases h1)
      rw [hrp] at h1
      injection h1 with h1
      subst h1
      simp (disch := omega)
      refine same_calls (hv.grow (q2.trans w2)).sl w1.sl (by omega) (by omega) ?_
      rw [decide_eq_true rfl]
      simp (disch := omega)

end Go.Proofs.Ytdjofnipknioiaa
