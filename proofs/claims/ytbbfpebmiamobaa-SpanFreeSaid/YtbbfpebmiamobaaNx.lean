/-
  SPANJOINS, of what the functions of this seat do.
-/
import Derived.Test.YtbbfpebmiamobaaMx
namespace Go.Proofs.Ytbbfpebmiamobaa
open Go Go.AM
set_option linter.unusedVariables false
set_option linter.unusedSimpArgs false
set_option maxRecDepth 60000
set_option maxHeartbeats 4000000

theorem RS.near {L : List Sp} (h : RS L) : ∀ x ∈ L, NearP x := fun x hx => by
  have := h.rt x hx
  unfold Go.Proofs.Ytbbfpebmiamobaa.rt at this
  unfold NearP; omega

theorem joins (m0 : Mem) (x0 x1' : V) (h0 : IsV m0 (.slice 2 (.struct [.int .i64, .int .i64])) x0) (h1 : IsV m0 (.slice 2 (.struct [.int .i64, .int .i64])) x1') : ACalls Try.prog 4 [x0, x1'] m0 (fun r _ => r = .bool true) := by
  refine run_on x1 hm c4 (by simp) fun hf => ?_
  obtain ⟨la, ha, hla, _⟩ := h0.slP hf
  obtain ⟨lb, hb, hlb, _⟩ := h1.slP hf
  have hml : maxLen ≤ 9223372036854775807 := by decide
  simp (disch := omega) [-getElem?_pos, b4, F7]
  refine few8 ha (by omega) (fun m1 g1 => ?_) (fun m1 fa g1 => ?_)
  · simp (disch := omega) [-getElem?_pos]
  simp (disch := omega) [-getElem?_pos]
  refine few8 (hb.grow g1) (by omega) (fun m2 g2 => ?_) (fun m2 fb g2 => ?_)
  · simp (disch := omega) [-getElem?_pos]
  have la4 := fa.len
  have lb4 := fb.len
  replace ha := ha.grow (g1.trans g2)
  replace hb := hb.grow (g1.trans g2)
  simp (disch := omega) [-getElem?_pos]
  refine or_calls ha hb (by omega) fun vo m3 O sO iO lO g3 ho => ?_
  replace ha := ha.grow g3
  replace hb := hb.grow g3
  simp (disch := omega) [-getElem?_pos]
  refine and_calls ha hb (by omega) fun vx m4 X sX iX lX g4 hx => ?_
  replace ha := ha.grow g4
  replace hb := hb.grow g4
  replace ho := ho.grow g4
  simp (disch := omega) [-getElem?_pos]
  refine not_calls ha hb (by omega) fun vn m5 D sD iD lD g5 hn => ?_
  replace ha := ha.grow g5
  replace hb := hb.grow g5
  replace ho := ho.grow g5
  replace hx := hx.grow g5
  simp (disch := omega) [-getElem?_pos]
  refine right10 ho (by omega) fun b m6 hb6 g6 => ?_
  replace ha := ha.grow g6
  replace hb := hb.grow g6
  replace ho := ho.grow g6
  replace hx := hx.grow g6
  replace hn := hn.grow g6
  have := hb6.2 sO
  subst this
  simp (disch := omega) [-getElem?_pos]
  refine right10 hx (by omega) fun b m7 hb7 g7 => ?_
  replace ha := ha.grow g7
  replace hb := hb.grow g7
  replace ho := ho.grow g7
  replace hx := hx.grow g7
  replace hn := hn.grow g7
  have := hb7.2 sX
  subst this
  simp (disch := omega) [-getElem?_pos]
  refine right10 hn (by omega) fun b m8 hb8 g8 => ?_
  replace ha := ha.grow g8
  replace hb := hb.grow g8
  replace ho := ho.grow g8
  replace hx := hx.grow g8
  replace hn := hn.grow g8
  have := hb8.2 sD
  subst this
  have oka := ha.okc
  have okb := hb.okc
  have oko := ho.okc
  have okx := hx.okc
  have okn := hn.okc
  have csa := ha.cs
  have csb := hb.cs
  have cso := ho.cs
  have csx := hx.cs
  have csn := hn.cs
  simp (disch := omega) [-getElem?_pos, oka, okb, oko, okx, okn, csa, csb, cso, csx, csn]
  have er : ∀ a b c d e : V, (List.range 5).map (fun i => ([a, b, c, d, e].drop i).take 1) = rowV [(a, la), (b, lb), (c, O), (d, X), (e, D)] := fun _ _ _ _ _ => rfl
  rw [er]
  have gN := Mem.Grew.new m8 (.row 1 (rowV [(x0, la), (x1', lb), (vo, O), (vx, X), (vn, D)]) true)
  have hrow : Sl (m8.new (.row 1 (rowV [(x0, la), (x1', lb), (vo, O), (vx, X), (vn, D)]) true)) 1 (.sl (some (m8.next, 0, 1)) 5 (some 5)) (rowV [(x0, la), (x1', lb), (vo, O), (vx, X), (vn, D)]) := (Exa.lit rfl).ows.sl
  refine times_calls hrow (by simp) (fun r hr => ?_) fun vt m9 Z hZ lZ g9 fp9 ht => ?_
  · simp only [List.mem_cons, List.not_mem_nil, or_false] at hr
    rcases hr with rfl | rfl | rfl | rfl | rfl
    · exact ⟨ha.grow gN, by dsimp only; omega, fa.near⟩
    · exact ⟨hb.grow gN, by dsimp only; omega, fb.near⟩
    · exact ⟨ho.grow gN, by dsimp only; omega, sO.near⟩
    · exact ⟨hx.grow gN, by dsimp only; omega, sX.near⟩
    · exact ⟨hn.grow gN, by dsimp only; omega, sD.near⟩
  have gg := gN.trans g9
  replace ha := ha.grow gg
  replace hb := hb.grow gg
  replace ho := ho.grow gg
  replace hx := hx.grow gg
  replace hn := hn.grow gg
  obtain ⟨N, hN, ht1⟩ := len1 ht.ows.sl
  simp (disch := omega) [-getElem?_pos, ht1]
  refine exec_loopU (σ := Nat × Mem) (fun (i, _) => [(56, .int .i64 i)]) (fun (_, M) => M) (fun (i, M) => i ≤ N ∧ m9.Grew M) (fun (i, _) => N - i) (0, m9) rfl
    (by dsimp only; exact ⟨by omega, Mem.Grew.refl m9⟩) (by simp) ?_
  intro (i, M) ⟨a1, a2⟩
  by_cases hi : i < N
  · obtain ⟨p, q, full, rw, z1, z2, z3, z4⟩ := at1 (ht.ows.sl.grow a2) (y := i) (by omega)
    obtain ⟨t, ht⟩ : ∃ t, nth Z i = t := ⟨_, rfl⟩
    rw [ht] at z4
    have tO := iO t
    have tX := iX t
    have tD := iD t
    simp (disch := omega) [-getElem?_pos, z1, z3, z4]
    refine in13 (ha.grow a2) (by omega) fun M1 k1 => ?_
    have q1 := a2.trans k1
    simp (disch := omega) [-getElem?_pos]
    refine in13 (hb.grow q1) (by omega) fun M2 k2 => ?_
    have q2 := q1.trans k2
    simp (disch := omega) [-getElem?_pos]
    refine in13 (ho.grow q2) (by omega) fun M3 k3 => ?_
    have q3 := q2.trans k3
    rw [tO]
    generalize Inn la t = p at *
    generalize Inn lb t = q at *
    have step : ∀ {K : KV}, (∀ M', m9.Grew M' → K (.bool (p && q)) M') → ACalls Try.prog 13 [vx, .int .i64 t] M3 K := fun k => in13 (hx.grow q3) (by omega) fun M4 k4 => by rw [tX]; exact k _ (q3.trans k4)
    have step2 : ∀ {M4 : Mem} {K : KV}, m9.Grew M4 → (∀ M', m9.Grew M' → K (.bool (p && !q)) M') → ACalls Try.prog 13 [vn, .int .i64 t] M4 K := fun g k => in13 (hn.grow g) (by omega) fun M5 k5 => by rw [tD]; exact k _ (g.trans k5)
    cases p <;> cases q
    all_goals
      simp (disch := omega) [-getElem?_pos]
      refine step fun M4 q4 => ?_
      simp (disch := omega) [-getElem?_pos]
      refine step2 q4 fun M5 q5 => ?_
      simp (disch := omega) [-getElem?_pos]
      exact again_mk (i + 1, M5) (by dsimp only; exact ⟨by omega, q5⟩) (by dsimp only; omega) (by simp) rfl
  · simp (disch := omega) [-getElem?_pos]
end Go.Proofs.Ytbbfpebmiamobaa
