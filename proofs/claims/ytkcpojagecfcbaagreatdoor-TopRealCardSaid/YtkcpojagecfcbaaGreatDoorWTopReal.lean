/-
  TopReal: for every input the statement tells true, and its arguments read as before: what it computes is shown over the plain machine; its arguments are laid there by their shapes. The row lists one table of the library's, math/bits' own; the card ties it to the program's text.
-/
import Derived.Test.YtkcpojagecfcbaaGreatDoorCards
import Derived.Test.YtkcpojagecfcbaaGreatDoorTie
import Derived.WalkKit
import Derived.ProofKit
import Derived.OpenShut
import Derived.ShutString
import Derived.Deep.DeepHandedRow
import Derived.Lib.LaidTab
import Derived.Below
import Derived.Carry
import Derived.Test.YtkcpojagecfcbaaGreatDoorK40
namespace Go.Proofs.YtkcpojagecfcbaaGreatDoor.topReal
open Go.ChangeShapes Go.WideShapes Go.ChangeAt Go.RowKit
set_option linter.unusedVariables false
theorem okAny {P : Program} {w : World} {base : Nat} {t : TypeId} {v : Value} (h : Value.okWide P w .any base t v) : Value.okWide P w .any 0 t v := h
theorem own : ownKnob Tryz.prog.godebug = none := by kernel_rfl
theorem laidOut : laidOutB Tryz.prog = true := by kernel_rfl
theorem gTab : Tryz.prog.globalNamed "math/bits.deBruijn32tab" = some 0 := by kernel_rfl
theorem gTabType : (Tryz.prog.globals[0]?).map (·.type) = some 212 := by kernel_rfl
theorem cells212 : Tryz.prog.cellsOf 212 = 32 := by kernel_rfl
theorem cells5 : Tryz.prog.cellsOf 5 = 1 := by kernel_rfl
theorem table {W : World} (h : laidMetH Tryz.prog Rows.topRealRow.laid W) : Lib.TabIs Tryz.prog W "math/bits.deBruijn32tab" .u8 AM.glTab :=
  Lib.tabIs_of_head (rest := []) gTab gTabType Tryz.underlying212 Tryz.underlying5 cells5 cells212 h
theorem glob {W : World} (h : laidMetH Tryz.prog Rows.topRealRow.laid W) : AM.Gl W.heap.size W := by
  have cells : ∀ (i : Nat) (x : Int), AM.glTab[i]? = some x → W.cell? ⟨0, i, none⟩ = some (.int .u8 x) := fun i x hx => by
    obtain ⟨hi, e⟩ := List.getElem?_eq_some_iff.1 hx
    have := (table h).cell gTab i hi
    rw [this, List.getD_eq_getElem?_getD, hx]; rfl
  refine ⟨?_, cells⟩
  have h0 := cells 0 0 rfl
  rcases Nat.eq_zero_or_pos W.heap.size with e | e
  · have : W.heap[0]? = none := Array.getElem?_eq_none (by omega)
    simp [World.cell?, this] at h0
  · exact e
theorem sh0 : AM.shOf Tryz.prog 8 5 = some (.int .u8) := by kernel_rfl
theorem sh1 : AM.shOf Tryz.prog 8 52 = some (.slice 1 (.int .u8)) := by kernel_rfl
theorem sh2 : AM.shOf Tryz.prog 8 52 = some (.slice 1 (.int .u8)) := by kernel_rfl
theorem sh3 : AM.shOf Tryz.prog 8 53 = some (.slice 1 (.int .u16)) := by kernel_rfl
set_option maxRecDepth 100000 in
/-- What the walk gives. -/
theorem contract (H : Type) (enc : TypeId × Value → H) (W : World) (base : Nat) (args : Array Value) (ds gs : List (DataW H)) (before : List MemPlace)
    (hval : ∀ (j : Nat) t v, Tryz.f5.params[j]? = some t → args[j]? = some v → Value.okWide Tryz.prog W .any base t v)
    (hW : DataW.Whole enc Tryz.prog Tryz.f5.params.toList Rows.topRealSpec.vars false W args.toList ds gs before) (hL : laidMetH Tryz.prog Rows.topRealRow.laid W) :
    Calls Tryz.prog 5 args W fun e W' => ∃ v, e = .returned v ∧ Rows.topRealSpec.post enc Tryz.prog Tryz.f5 false true false false W args v W' := by
  have hg := glob hL
  have hW' := hW
  obtain ⟨p, q, hA0, hV, rfl, hfz, hnd⟩ := hW
  have hA : DataW.TrodAll enc Tryz.prog W 0 (fun _ => true) true Tryz.f5.params.toList args.toList ds p := hA0
  rw [Tryz.params5] at hA hval
  obtain ⟨v0, vs0, d0, ds0, p0, q0, hargs, rfl, rfl, h0, r0⟩ := trodAll_cons hA
  obtain ⟨v1, vs1, d1, ds1, p1, q1, rfl, rfl, rfl, h1, r1⟩ := trodAll_cons r0
  obtain ⟨v2, vs2, d2, ds2, p2, q2, rfl, rfl, rfl, h2, r2⟩ := trodAll_cons r1
  obtain ⟨v3, vs3, d3, ds3, p3, q3, rfl, rfl, rfl, h3, r3⟩ := trodAll_cons r2
  obtain ⟨rfl, rfl, rfl⟩ := trodAll_nil r3
  obtain rfl : args = #[v0, v1, v2, v3] := by cases args; simp_all
  obtain ⟨rfl, rfl⟩ := trodVars_none hV
  have k0 := h0
  have lt0 : ∀ x ∈ p0, x.block < W.heap.size := by obtain ⟨m, hm⟩ := k0; exact DataW.trod_lt m _ _ _ hm
  obtain ⟨β0, m0, x0, le0, S0, in0, R0, s0⟩ := AM.arg1 sh0 (okAny (hval 0 5 v0 rfl rfl)) h0 (AM.Start.nil W hg)
  have k1 := h1
  have lt1 : ∀ x ∈ p1, x.block < W.heap.size := by obtain ⟨m, hm⟩ := k1; exact DataW.trod_lt m _ _ _ hm
  obtain ⟨β1, m1, x1, le1, S1, in1, R1, s1⟩ := AM.arg1 sh1 (okAny (hval 1 52 v1 rfl rfl)) h1 S0
  have k2 := h2
  have lt2 : ∀ x ∈ p2, x.block < W.heap.size := by obtain ⟨m, hm⟩ := k2; exact DataW.trod_lt m _ _ _ hm
  obtain ⟨β2, m2, x2, le2, S2, in2, R2, s2⟩ := AM.arg1 sh2 (okAny (hval 2 52 v2 rfl rfl)) h2 S1
  have k3 := h3
  have lt3 : ∀ x ∈ p3, x.block < W.heap.size := by obtain ⟨m, hm⟩ := k3; exact DataW.trod_lt m _ _ _ hm
  obtain ⟨β3, m3, x3, le3, S3, in3, R3, s3⟩ := AM.arg1 sh3 (okAny (hval 3 53 v3 rfl rfl)) h3 S2
  clear hA0 hval
  have call := real_law m3 x0 x1 x2 x3 (AM.IsV.mono in3 (AM.IsV.mono in2 (AM.IsV.mono in1 s0))) (AM.IsV.mono in3 (AM.IsV.mono in2 s1)) (AM.IsV.mono in3 s2) s3
  refine (call.walk c5.body S3.mr (AM.relc (AM.VR.mono le3 _ _ (AM.VR.mono le2 _ _ (AM.VR.mono le1 _ _ R0))) (AM.relc (AM.VR.mono le3 _ _ (AM.VR.mono le2 _ _ R1)) (AM.relc (AM.VR.mono le3 _ _ R2) (AM.relc R3 AM.rel0))))).mono fun e W' ⟨he, bel⟩ => ?_
  subst he
  exact ⟨_, rfl, _, _, _, [], _, [], hW', trodAll_mk1 (shut_bool Tryz.underlying4 _), (trodAll_cons_mk (Below.trod laidOut (by kernel_rfl) (of_decide_eq_true (by kernel_rfl)) k0 bel lt0) (trodAll_cons_mk (Below.trod laidOut (by kernel_rfl) (of_decide_eq_true (by kernel_rfl)) k1 bel lt1) (trodAll_cons_mk (Below.trod laidOut (by kernel_rfl) (of_decide_eq_true (by kernel_rfl)) k2 bel lt2) (trodAll_cons_mk (Below.trod laidOut (by kernel_rfl) (of_decide_eq_true (by kernel_rfl)) k3 bel lt3) trodAll_mk0)))), rfl, bel.frame _, fun h => by cases h⟩
/-- A world for the witness: the table holds what its initialiser lays. -/
noncomputable def laidWorld (os : Os) : World :=
  { World.holding Tryz.prog os ⟨#[], #[], []⟩ with heap := (World.holding Tryz.prog os ⟨#[], #[], []⟩).heap.modify 0 fun
      | .cells _ t frozen => .cells #[.int .u8 0, .int .u8 1, .int .u8 28, .int .u8 2, .int .u8 29, .int .u8 14, .int .u8 24, .int .u8 3, .int .u8 30, .int .u8 22, .int .u8 20, .int .u8 15, .int .u8 25, .int .u8 17, .int .u8 4, .int .u8 8, .int .u8 31, .int .u8 27, .int .u8 13, .int .u8 23, .int .u8 21, .int .u8 19, .int .u8 16, .int .u8 7, .int .u8 26, .int .u8 12, .int .u8 18, .int .u8 6, .int .u8 11, .int .u8 5, .int .u8 10, .int .u8 9] t frozen
      | o => o }
set_option maxRecDepth 100000 in
theorem laid_met (os : Os) : laidMet Tryz.prog Rows.topRealRow.laid ((laidWorld os).forCall (fun _ _ => 0) ⟨#[], #[.int .u8 0, .slice none 0 0, .slice none 0 0, .slice none 0 0], []⟩).memory :=
  laidMet_of_run' 8 (by kernel_rfl) (by kernel_rfl)
set_option maxRecDepth 100000 in
theorem reads (os : Os) {H : Type} (enc : TypeId × Value → H) : ∃ places, DataW.whole enc Tryz.prog ((laidWorld os).forCall (fun _ _ => 0) ⟨#[], #[.int .u8 0, .slice none 0 0, .slice none 0 0, .slice none 0 0], []⟩).memory Tryz.f5.params.toList Rows.topRealSpec.vars false #[Value.int .u8 0, Value.slice none 0 0, Value.slice none 0 0, Value.slice none 0 0].toList 8 = some ([.lit (.int .u8 0), .nil, .nil, .nil], [], places) :=
  ⟨[], by kernel_rfl⟩
set_option maxRecDepth 100000 in
theorem lifted (os : Os) (started : os.Started) (H : Type) (enc : TypeId × Value → H) (F : Stop.Interp) :
    ReturnsInHanded {} Tryz.checked os 5 .any ((OpenSpec.ofChange Rows.topRealSpec).preRow enc Tryz.prog Tryz.f5 Rows.topRealRow.domain false Rows.topRealRow.laid) (((OpenSpec.ofChange Rows.topRealSpec).at F).post enc Tryz.prog Tryz.f5 false true false false) := by
  obtain ⟨places, hx⟩ := reads os enc
  refine returnsInHanded_of_row (C := Tryz.checked) (s := OpenSpec.ofChange Rows.topRealSpec) own started (by kernel_rfl) Tryz.func5
    (witness_row_at (enc := enc) (C := Tryz.checked) false (laidWorld os) #[.int .u8 0, .slice none 0 0, .slice none 0 0, .slice none 0 0] rfl (by kernel_rfl) (by kernel_rfl) (by kernel_rfl)
      (OpenSpec.preRow_of_cond 8 hx (by kernel_rfl) (fun k hk => by cases hk) (by kernel_rfl) (laid_met os))) ?_
  intro W base args ds gs before hval hW _ _ _ hL _ _
  exact contract H enc W base args ds gs before hval hW hL
theorem said : Rows.TopRealSaid :=
  OpenClaim.holds_of_cond 5 Tryz.f5 rfl rfl rfl rfl rfl rfl rfl ⟨rfl, rfl, rfl, rfl, rfl⟩ rfl rfl rfl rfl rfl (by kernel_rfl) Tryz.func5 (by kernel_rfl)
    (of_decide_eq_true (by kernel_rfl)) (by unfold Func.isWrapper; first | (rw [if_pos (by decide +kernel)]; kernel_rfl) | (rw [if_neg (by decide +kernel)]; exact ⟨rfl, rfl⟩))
    (fun os started H enc _ F => by rw [OpenClaim.pre_eq_preRow]; exact lifted os started H enc F)
/-- No parameter wants a stand-in; the program's own looks are off. -/
theorem plain (f : FuncId) (fn : Func) (hf : Tryz.pinned.checked.prog.funcNamed "fusee/fuseetop.TopReal" = some f) (hfn : Tryz.pinned.checked.prog.funcs[f]? = some fn) :
    false = Tryz.pinned.checked.prog.looks [] ∧ ∀ (j : Nat) t, fn.params[j]? = some t → Tryz.pinned.checked.prog.wantsStandIn t = false := by
  obtain rfl : f = 5 := Option.some.inj ((show Tryz.prog.funcNamed "fusee/fuseetop.TopReal" = some 5 by kernel_rfl).symm.trans hf) |>.symm
  obtain rfl : fn = Tryz.f5 := (Option.some.inj (Tryz.func5.symm.trans hfn)).symm
  refine ⟨by kernel_rfl, fun j t ht => ?_⟩
  rw [Tryz.params5] at ht
  have hm := Array.mem_of_getElem? ht
  have h3 : t = 5 ∨ t = 52 ∨ t = 52 ∨ t = 53 := by simpa using hm
  rcases h3 with rfl | rfl | rfl | rfl
  · exact (show Tryz.prog.wantsStandIn 5 = false by kernel_rfl)
  · exact (show Tryz.prog.wantsStandIn 52 = false by kernel_rfl)
  · exact (show Tryz.prog.wantsStandIn 52 = false by kernel_rfl)
  · exact (show Tryz.prog.wantsStandIn 53 = false by kernel_rfl)
/-- ████ THE CARD ████ -/
theorem proved : Rows.TopRealCardSaid :=
  Claim7.holds_tied_plain_at .later [] _ _ _ _ said (fun _ h => by cases h) (by kernel_rfl) (fun _ h => by cases h) topReal_row_tie rfl ⟨rfl, rfl⟩ (by kernel_rfl) rfl plain (by kernel_rfl)
end Go.Proofs.YtkcpojagecfcbaaGreatDoor.topReal
