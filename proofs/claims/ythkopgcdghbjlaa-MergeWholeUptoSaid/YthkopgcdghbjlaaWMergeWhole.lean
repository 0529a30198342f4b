/-
  MergeWhole: for every input the statement tells true, and its arguments read as before: what it computes is shown over the plain machine; its arguments are laid there by their shapes.
-/
import Derived.Test.YthkopgcdghbjlaaRows
import Derived.WalkKit
import Derived.ProofKit
import Derived.OpenShut
import Derived.ShutString
import Derived.JoinedCond
import Derived.Below
import Derived.Carry
import Derived.Test.YthkopgcdghbjlaaOx
namespace Go.Proofs.Ythkopgcdghbjlaa.mergeWhole
open Go.ChangeShapes Go.WideShapes Go.ChangeAt Go.RowKit
set_option linter.unusedVariables false

theorem bulky {H : Type} : AM.Bulk (Rows.uptoBulk (H := H)) Rows.uptoBulkAll :=
  ⟨fun l => by simp [Rows.uptoBulk], fun d => by cases d with | lit l => (cases l <;> simp [Rows.uptoBulk]) | _ => simp [Rows.uptoBulk], fun e s => by simp [Rows.uptoBulk], fun e => by simp [Rows.uptoBulk], by simp [Rows.uptoBulkAll], fun d r => by simp [Rows.uptoBulkAll]⟩
theorem own : ownKnob Try.prog.godebug = none := by kernel_rfl
theorem laidOut : laidOutB Try.prog = true := by kernel_rfl
theorem sh0 : AM.shOf Try.prog 8 22 = some (.slice 1 (.slice 2 (.struct [(.int .i64), (.int .i64)]))) := by kernel_rfl
theorem sh1 : AM.shOf Try.prog 8 36 = some (.slice 1 (.int .u8)) := by kernel_rfl

set_option maxRecDepth 100000 in
theorem lifted (os : Os) (started : os.Started) (H : Type) (enc : TypeId × Value → H) (F : Stop.Interp) :
    ReturnsInHanded {} Try.checked os 4 .any ((Rows.OpenSpec.upto Rows.mergeWholeSpec).pre6 enc Try.prog Try.f4 Rows.mergeWholeUptoRow.domain false) (((Rows.OpenSpec.upto Rows.mergeWholeSpec).at F).post enc Try.prog Try.f4 false true false false) := by
  refine returnsInHanded_of_cond (C := Try.checked) (s := Rows.OpenSpec.upto Rows.mergeWholeSpec) (k := Rows.uptoSmall) rfl own started (by kernel_rfl) Try.func4
    (OpenSpec.witness (enc := enc) (C := Try.checked) (s := Rows.OpenSpec.upto Rows.mergeWholeSpec) (k := Rows.uptoSmall) rfl false ⟨#[], #[.slice none 0 0, .slice none 0 0], []⟩ 8 (by kernel_rfl) (by kernel_rfl) (by kernel_rfl)
      (x := ([.nil, .nil], [], [])) (by kernel_rfl) rfl (by kernel_rfl)) ?_
  intro W base args ds gs before hval0 hW hcnd hk _
  have hval : ∀ (j : Nat) t v, Try.f4.params[j]? = some t → args[j]? = some v → Value.okWide Try.prog W .any base t v := hval0
  have hW' := hW
  obtain ⟨p, q, hA0, hV, rfl, hfz, hnd⟩ := hW
  have hA : DataW.TrodAll enc Try.prog W 0 (fun _ => true) true Try.f4.params.toList args.toList ds p := hA0
  rw [Try.params4] at hA hval
  obtain ⟨v0, vs0, d0, ds0, p0, q0, hargs, rfl, rfl, h0, r0⟩ := trodAll_cons hA
  obtain ⟨v1, vs1, d1, ds1, p1, q1, rfl, rfl, rfl, h1, r1⟩ := trodAll_cons r0
  obtain ⟨rfl, rfl, rfl⟩ := trodAll_nil r1
  obtain rfl : args = #[v0, v1] := by cases args; simp_all
  obtain ⟨rfl, rfl⟩ := trodVars_none hV
  have k0 := h0
  have lt0 : ∀ x ∈ p0, x.block < W.heap.size := by obtain ⟨m, hm⟩ := k0; exact DataW.trod_lt m _ _ _ hm
  obtain ⟨β0, m0, x0, le0, S0, in0, R0, _, s0⟩ := AM.arg1K bulky sh0 (hval 0 22 v0 rfl rfl) h0 (AM.Start.nil W)
  have k1 := h1
  have lt1 : ∀ x ∈ p1, x.block < W.heap.size := by obtain ⟨m, hm⟩ := k1; exact DataW.trod_lt m _ _ _ hm
  obtain ⟨β1, m1, x1, le1, S1, in1, R1, _, s1⟩ := AM.arg1K bulky sh1 (hval 1 36 v1 rfl rfl) h1 S0
  clear hA0 hval0
  have hb : Rows.uptoBulk d0 + Rows.uptoBulk d1 ≤ 1048576 := by
    have h := of_decide_eq_true hk
    simp only [List.append_nil, Rows.uptoBulkAll, Nat.add_zero] at h
    omega
  have call := whole_lawK m1 x0 x1 _ _ (AM.IsVK.mono in1 s0) s1 hb
  refine (call.walk c4.body S1.mr (AM.relc (AM.VR.mono le1 _ _ R0) (AM.relc R1 AM.rel0))).mono fun e W' ⟨he, bel⟩ => ?_
  subst he
  exact ⟨_, rfl, _, _, _, [], _, [], hW', trodAll_mk1 (shut_bool Try.underlying4 _), (trodAll_cons_mk (Below.trod laidOut (by kernel_rfl) (of_decide_eq_true (by kernel_rfl)) k0 bel lt0) (trodAll_cons_mk (Below.trod laidOut (by kernel_rfl) (of_decide_eq_true (by kernel_rfl)) k1 bel lt1) trodAll_mk0)), rfl, bel.frame _, fun h => by cases h⟩

theorem over : Rows.mergeWholeUptoRow.holds Try.pinned (Rows.OpenSpec.upto Rows.mergeWholeSpec) :=
  OpenClaim.holds_of_cond 4 Try.f4 rfl rfl rfl rfl rfl rfl rfl ⟨rfl, rfl, rfl, rfl, rfl⟩ rfl rfl rfl rfl rfl (by kernel_rfl) Try.func4 (by kernel_rfl)
    (of_decide_eq_true (by kernel_rfl)) (by unfold Func.isWrapper; first | (rw [if_pos (by decide +kernel)]; kernel_rfl) | (rw [if_neg (by decide +kernel)]; exact ⟨rfl, rfl⟩))
    (fun os started H enc _ F => lifted os started H enc F)

/-- ████ THE STATEMENT ████ -/
theorem proved : Rows.MergeWholeUptoSaid := over
end Go.Proofs.Ythkopgcdghbjlaa.mergeWhole
