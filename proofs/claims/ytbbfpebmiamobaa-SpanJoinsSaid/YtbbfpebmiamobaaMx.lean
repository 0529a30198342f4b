/-
  SPANSUMS and SPANJOINS, of what the functions of this seat do.
-/
import Derived.Test.YtbbfpebmiamobaaLx
namespace Go.Proofs.Ytbbfpebmiamobaa
open Go Go.AM
set_option linter.unusedVariables false
set_option linter.unusedSimpArgs false
set_option maxRecDepth 60000
set_option maxHeartbeats 4000000

theorem sums (m0 : Mem) (x0 x1' : V) (h0 : IsV m0 (.slice 2 (.struct [.int .i64, .int .i64])) x0) (h1 : IsV m0 (.slice 2 (.struct [.int .i64, .int .i64])) x1') : ACalls Try.prog 5 [x0, x1'] m0 (fun r _ => r = .bool true) := by
  refine run_on x1 hm c5 (by simp) fun hf => ?_
  obtain ⟨la, ha, hla, _⟩ := h0.slP hf
  obtain ⟨lb, hb, hlb, _⟩ := h1.slP hf
  have hml : maxLen ≤ 9223372036854775807 := by decide
  simp (disch := omega) [-getElem?_pos, b5, F7]
  refine few8 ha (by omega) (fun m1 g1 => ?_) (fun m1 fa g1 => ?_)
  · simp (disch := omega) [-getElem?_pos]
  simp (disch := omega) [-getElem?_pos]
  refine few8 (hb.grow g1) (by omega) (fun m2 g2 => ?_) (fun m2 fb g2 => ?_)
  · simp (disch := omega) [-getElem?_pos]
  have la4 := fa.len
  have lb4 := fb.len
  have ga := g1.trans g2
  simp (disch := omega) [-getElem?_pos]
  refine of_calls (ha.grow ga) (by omega) fun s m3 A sA iA lA g3 hs => ?_
  simp (disch := omega) [-getElem?_pos]
  refine of_calls (hb.grow (ga.trans g3)) (by omega) fun u m4 B sB iB lB g4 hu => ?_
  replace hs := hs.grow g4
  have ea : Inn A = Inn la := funext iA
  have eb : Inn B = Inn lb := funext iB
  obtain ⟨n, hn⟩ : ∃ n : Nat, n = 2305843009213693952 := ⟨_, rfl⟩
  have bd : ∀ p, (cnt p n : Int) ≤ 2305843009213693952 := fun p => by have := cnt_le p n; omega
  simp (disch := omega) [-getElem?_pos]
  refine or_calls hs hu (by omega) fun v5 m5 O sO iO lO g5 h5 => ?_
  replace hs := hs.grow g5
  replace hu := hu.grow g5
  have eO : Inn O = fun t => Inn A t || Inn B t := funext iO
  have kO := bd (Inn O)
  simp (disch := omega) [-getElem?_pos]
  refine len_calls h5 (by omega) hn fun m6 g6 => ?_
  replace hs := hs.grow g6
  replace hu := hu.grow g6
  simp (disch := omega) [-getElem?_pos]
  refine and_calls hs hu (by omega) fun v7 m7 X sX iX lX g7 h7 => ?_
  replace hs := hs.grow g7
  replace hu := hu.grow g7
  have eX : Inn X = fun t => Inn A t && Inn B t := funext iX
  have kX := bd (Inn X)
  simp (disch := omega) [-getElem?_pos]
  refine len_calls h7 (by omega) hn fun m8 g8 => ?_
  replace hs := hs.grow g8
  replace hu := hu.grow g8
  have kA := bd (Inn A)
  have kB := bd (Inn B)
  simp (disch := omega) [-getElem?_pos]
  refine len_calls hs (by omega) hn fun m9 g9 => ?_
  replace hs := hs.grow g9
  replace hu := hu.grow g9
  simp (disch := omega) [-getElem?_pos]
  refine len_calls hu (by omega) hn fun m10 g10 => ?_
  replace hs := hs.grow g10
  replace hu := hu.grow g10
  have s1 := cnt_or (Inn A) (Inn B) n
  rw [← eO, ← eX] at s1
  simp (disch := omega) [-getElem?_pos]
  refine not_calls hs hu (by omega) fun v11 m11 D sD iD lD g11 h11 => ?_
  replace hs := hs.grow g11
  replace hu := hu.grow g11
  have eD : Inn D = fun t => Inn A t && !Inn B t := funext iD
  have kD := bd (Inn D)
  simp (disch := omega) [-getElem?_pos]
  refine len_calls h11 (by omega) hn fun m12 g12 => ?_
  replace hs := hs.grow g12
  replace hu := hu.grow g12
  simp (disch := omega) [-getElem?_pos]
  refine and_calls hs hu (by omega) fun v13 m13 X2 sX2 iX2 lX2 g13 h13 => ?_
  replace hs := hs.grow g13
  replace hu := hu.grow g13
  have eX2 : Inn X2 = fun t => Inn A t && Inn B t := funext iX2
  have kX2 := bd (Inn X2)
  simp (disch := omega) [-getElem?_pos]
  refine len_calls h13 (by omega) hn fun m14 g14 => ?_
  replace hs := hs.grow g14
  replace hu := hu.grow g14
  simp (disch := omega) [-getElem?_pos]
  refine len_calls hs (by omega) hn fun m15 g15 => ?_
  replace hs := hs.grow g15
  replace hu := hu.grow g15
  have s2 := cnt_not (Inn A) (Inn B) n
  rw [← eD, ← eX2] at s2
  simp (disch := omega) [-getElem?_pos]
  refine not_calls hs hu (by omega) fun v16 m16 D2 sD2 iD2 lD2 g16 h16 => ?_
  replace hu := hu.grow g16
  simp (disch := omega) [-getElem?_pos]
  refine and_calls h16 hu (by omega) fun v17 m17 X3 sX3 iX3 lX3 g17 h17 => ?_
  have e3 : cnt (Inn X3) n = 0 := cnt_none _ (fun t => by rw [iX3, iD2]; cases Inn A t <;> cases Inn B t <;> rfl) n
  simp (disch := omega) [-getElem?_pos]
  refine len_calls h17 (by omega) hn fun m18 g18 => ?_
  rw [e3]
  simp (disch := omega) [-getElem?_pos]
end Go.Proofs.Ytbbfpebmiamobaa
