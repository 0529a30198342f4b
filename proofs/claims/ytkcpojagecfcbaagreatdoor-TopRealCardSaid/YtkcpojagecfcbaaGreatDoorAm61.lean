/-
  THE ABSTRACT MACHINE AND THE MODEL: append(s, make(..)...) where there is no room. No Go program here.
-/
import Derived.Test.YtkcpojagecfcbaaGreatDoorAm60
import Derived.Lib.AppendZerosOnto
namespace Go.AM
open Go
set_option linter.unusedVariables false
set_option linter.unusedSimpArgs false
section
variable {P : Program} {base : Nat} {w0 : World} {β : Pl} {m : Mem} {w : World} {K : KV}
theorem gives_appZ {t tx ty e : TypeId} {i : TypeInfo} {z : Value} (ht : P.underlying t = some (.slice e)) (htx : P.underlying tx = some (.int .i64)) (hi : P.info? e = some i) (hz : i.zero = some z) (hzs : z.cells.size = i.size) (hzc : (ofVal z).cells.all V.isCell = true) (hpos : 0 < i.size)
    (hM : MR base w0 β m w) {r i0 zz n c : Nat} {s' : Value} (hs : VR β (.sl (some (r, i0, zz)) n (some c)) s') {k : Nat} (h0 : 0 < k) (hc : c < n + k) (hb : (n + k) * i.bytes ≤ 140737488355328) (hl : n + k ≤ 9223372036854775807)
    {es : List (List V)} {rw : Bool} (ho : m.obj r = some (.row i.size es rw)) (hle : i0 + n ≤ es.length)
    (hK : K (.sl (some (m.next, 0, i.size)) (n + k) none) (m.new (.row i.size ((es.drop i0).take n ++ List.replicate k (ofVal z).cells) true))) : Gives P (Builtin.append_ #[t, tx] ty #[s', .int .i64 k]) w (Post base w0 β K) := by
  obtain ⟨L, A, cap, g1, rfl, g3, g4, g5⟩ := cap_of_VR hs
  have hszL := sz_of_VR hs L g1
  have hrow : RowR base β w L i.size es rw := hM.objs r L _ g1 ho
  simp at g3; subst g3
  obtain ⟨olds, o1, o2, o3, o4⟩ := hrow.seg n i0 hle
  have hold : (Builtin.firstCells i.size n (.slice (some A) n cap)).run P w.drew = .ok olds.toArray w.drew := by
    by_cases hn0 : n = 0
    · subst hn0
      have : olds = [] := List.eq_nil_of_length_eq_zero (by simpa using o2)
      subst this
      simp [Builtin.firstCells, loadCells, loadCellsFrom]
    · have hA : A = L.at i0 0 := g5 (by omega)
      subst hA
      exact run_firstCells_some w.drew i.size n _ n cap olds o2 (by simpa using o3)
  have hzl : (ofVal z).cells.length = i.size := by
    have := ((ofVal_rel β z).cells hzc).length
    rw [← hzs]; simpa using this
  have hfit := growslice_fits (need := n + k) (old := cap) (bytes := i.bytes) hc hb
  have hk48 : k * i.bytes ≤ 281474976710656 := by
    have : k * i.bytes ≤ (n + k) * i.bytes := Nat.mul_le_mul_right _ (by omega)
    omega
  have hrun := Lib.run_append_grow_zeros (P := P) w t tx ty e i z .i64 .i64 ht htx hi hz (some A) n cap olds hold k h0 hpos hc (by omega) hk48 hfit
  have hcapge := grownCap_ge w (n + k) cap e
  have hlen1 : ((es.drop i0).take n).length = n := by simp; omega
  have hzcell : ∀ v ∈ (ofVal z).cells, v.isCell = true := by simpa using hzc
  have hesold : ∀ x ∈ (es.drop i0).take n ++ List.replicate k (ofVal z).cells, x.length = i.size ∧ ∀ v ∈ x, v.isCell = true := by
    intro x hx
    rcases List.mem_append.1 hx with hx | hx
    · obtain ⟨k, hk⟩ := List.getElem?_of_mem (List.mem_of_mem_drop (List.mem_of_mem_take hx))
      obtain ⟨q1, q2⟩ := hrow.cells k x hk
      exact ⟨q1, fun v hv => by obtain ⟨j, hj⟩ := List.getElem?_of_mem hv; exact (q2 j v hj).1⟩
    · rw [List.eq_of_mem_replicate hx]
      exact ⟨hzl, hzcell⟩
  have hzr : VRs β (List.replicate k (ofVal z).cells).flatten (Builtin.zeroCells z.cells k).toList := by
    rw [zeroCells_toList]; exact replicate_rel ((ofVal_rel β z).cells hzc) k
  obtain ⟨β', p1, p2, p3⟩ := grown_row (e := e) (cap := grownCap w (n + k) cap e) (es := (es.drop i0).take n ++ List.replicate k (ofVal z).cells) (cvs := olds ++ (Builtin.zeroCells z.cells k).toList) hM hpos hesold (by rw [List.flatten_append]; exact VRs.append o1 hzr)
    (by rw [List.length_append, List.length_append, List.length_replicate, o2, hlen1, Array.length_toList, zeroCells_size, hzs, Nat.add_mul]) hzs hzc (by rw [List.length_append, List.length_replicate, hlen1]; omega)
  rw [List.length_append, List.length_replicate, hlen1] at p1
  have ea : (olds ++ (Builtin.zeroCells z.cells k).toList).toArray = olds.toArray ++ Builtin.zeroCells z.cells k := by
    apply Array.ext'; simp
  rw [ea] at p1
  refine ⟨_, _, hrun, β', _, _, p2, ?_, p1, hK⟩
  simp only [VR]
  exact ⟨_, _, _, p3, rfl, by simp, hcapge, fun _ => by simp [Loc.at], rfl⟩
end
end Go.AM
