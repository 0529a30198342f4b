/-
  THAT TURNS GO ROUND FAIRLY, in plain words.
-/
import Derived.Test.YtgmidpacmlkfgaaMx
namespace Go.Proofs.Ytgmidpacmlkfgaa
open Go Go.AM
set_option linter.unusedVariables false
set_option linter.unusedSimpArgs false
set_option maxRecDepth 8000
set_option maxHeartbeats 4000000

structure Fair (needs E : List Int) (N : Nat) (T : Int) (w : Rd) (k : Int) (got last : List Int) : Prop where
  rok : Rok w
  ids : Ids w.l N
  len : w.l.length ≤ N
  glen : got.length = N
  llen : last.length = N
  rem : ∀ j ∈ w.l, nth got j.1.toNat + j.2 = nth needs j.1.toNat
  fin : ∀ i, i < N → (∀ j ∈ w.l, j.1 ≠ (i : Int)) → nth got i = nth needs i
  srt : w.l.Pairwise (fun a b => nth last a.1.toNat ≤ nth last b.1.toNat)
  lk : ∀ i, i < N → 0 ≤ nth last i ∧ nth last i < k
  gap : ∀ (p : Nat) j, w.l[p]? = some j → nth last j.1.toNat = 0 ∨ k - nth last j.1.toNat + p ≤ N
  ends : ∃ out, out.length = N ∧ endsI w out = E
  kb : 1 ≤ k ∧ k + leftI w.l ≤ T + 1
  g0 : ∀ i, i < N → 0 ≤ nth got i
  nb : ∀ i, i < N → nth needs i ≤ 10000

theorem Fair.step {needs E : List Int} {N : Nat} {T : Int} {w : Rd} {k : Int} {got last : List Int} (h : Fair needs E N T w k got last) {j : Jb} {rest : List Jb} (hl : w.l = j :: rest) :
    (0 ≤ j.1 ∧ j.1 < N) ∧ (nth last j.1.toNat = 0 ∨ k - nth last j.1.toNat ≤ N) ∧ (∀ i, i < N → i ≠ j.1.toNat → nth got i < nth needs i → nth last j.1.toNat ≤ nth last i) ∧
    (0 ≤ nth got j.1.toNat ∧ nth got j.1.toNat + tk w.turn j ≤ 10000) ∧ (j.2 - tk w.turn j = 0 → nth got j.1.toNat + tk w.turn j = nth needs j.1.toNat ∧ nth E j.1.toNat = w.now + tk w.turn j) ∧
    Fair needs E N T (w.after j rest) (k + 1) (got.set j.1.toNat (nth got j.1.toNat + tk w.turn j)) (last.set j.1.toNat k) := by
  have hj := h.ids.rng j (by rw [hl]; simp)
  have ⟨i1, i2⟩ := h.ids.after hl
  have h3 := h.rok.tk hl
  have hrem := h.rem j (by rw [hl]; simp)
  have hnb := h.nb j.1.toNat (by omega)
  have hg0 := h.g0 j.1.toNat (by omega)
  have hjok := h.rok.ok j (by rw [hl]; simp)
  have hgl := h.glen
  have hll := h.llen
  have hkb := h.kb
  have hsrt := h.srt
  rw [hl, List.pairwise_cons] at hsrt
  have hlen := h.len
  rw [hl] at hlen
  simp at hlen
  have h4 := after_left hl
  have hx : ∀ x ∈ rest, x.1.toNat ≠ j.1.toNat := fun x hx e => i2 x hx (by have := h.ids.rng x (by rw [hl]; simp [hx]); omega)
  obtain ⟨out, ho1, ho2⟩ := h.ends
  have hE := ho2
  rw [endsI_cons h.rok hl] at hE
  have hends : j.2 - tk w.turn j = 0 → nth E j.1.toNat = w.now + tk w.turn j := fun hz => by
    have e1 : (w.after j rest).l = rest := by simp only [Rd.after, hz, if_true]
    have e2 : putE w j out = out.set j.1.toNat (w.now + tk w.turn j) := by simp only [putE, hz, if_true]
    have ⟨_, q, _⟩ := ends_spec _ (w.after j rest) (putE w j out) (h.rok.after hl) (by rw [putE_length, ho1]; exact i1) (Int.self_le_toNat _)
    rw [← hE, q _ (fun x hx' e => by rw [e1] at hx'; exact hx x hx' (by omega)), e2, nth_set_eq _ _ (by omega)]
  refine ⟨hj, ?_, fun i hi hne hlt => ?_, ⟨hg0, by omega⟩, fun hz => ⟨by omega, hends hz⟩, ?_⟩
  · have := h.gap 0 j (by rw [hl]; rfl)
    omega
  · have : ¬ ∀ j ∈ w.l, j.1 ≠ (i : Int) := fun e => by have := h.fin i hi e; omega
    have ⟨x, hx1, hx2⟩ : ∃ x ∈ w.l, x.1 = (i : Int) := by
      apply Classical.byContradiction
      intro hn
      exact this fun x hx e => hn ⟨x, hx, e⟩
    rw [hl] at hx1
    rcases List.mem_cons.1 hx1 with rfl | hx1
    · omega
    · have := hsrt.1 x hx1
      rw [hx2] at this; simpa using this
  have hset : ∀ x ∈ rest, nth (got.set j.1.toNat (nth got j.1.toNat + tk w.turn j)) x.1.toNat = nth got x.1.toNat := fun x hx' => nth_set_ne _ _ (fun e => hx x hx' e.symm)
  have hset2 : ∀ x ∈ rest, nth (last.set j.1.toNat k) x.1.toNat = nth last x.1.toNat := fun x hx' => nth_set_ne _ _ (fun e => hx x hx' e.symm)
  have hs1 : nth (got.set j.1.toNat (nth got j.1.toNat + tk w.turn j)) j.1.toNat = nth got j.1.toNat + tk w.turn j := nth_set_eq _ _ (by omega)
  have hs2 : nth (last.set j.1.toNat k) j.1.toNat = k := nth_set_eq _ _ (by omega)
  have hlk := h.lk
  have hle : ∀ x ∈ rest, nth last x.1.toNat < k := fun x hx' => (hlk _ (by have := h.ids.rng x (by rw [hl]; simp [hx']); omega)).2
  refine ⟨h.rok.after hl, i1, ?_, by simp [hgl], by simp [hll], fun x hx' => ?_, fun i hi hn => ?_, ?_, fun i hi => ?_, fun p x hp => ?_, ⟨putE w j out, by rw [putE_length, ho1], hE⟩, by omega, fun i hi => ?_, h.nb⟩
  · simp only [Rd.after]; split
    · omega
    · simp; omega
  · simp only [Rd.after] at hx'
    split at hx'
    · rw [hset x hx']; exact h.rem x (by rw [hl]; simp [hx'])
    · rcases List.mem_append.1 hx' with hx' | hx'
      · rw [hset x hx']; exact h.rem x (by rw [hl]; simp [hx'])
      · simp at hx'; subst hx'; dsimp only; rw [hs1]; omega
  · by_cases hij : i = j.1.toNat
    · subst hij
      by_cases hz : j.2 - tk w.turn j = 0
      · rw [hs1]; omega
      · exact absurd (hn (j.1, j.2 - tk w.turn j) (by simp only [Rd.after, hz, if_false]; simp)) (by dsimp only; omega)
    · rw [nth_set_ne _ _ (fun e => hij e.symm)]
      refine h.fin i hi fun x hx' => ?_
      rw [hl] at hx'
      rcases List.mem_cons.1 hx' with rfl | hx'
      · omega
      · refine hn x ?_
        simp only [Rd.after]; split
        · exact hx'
        · simp [hx']
  · have hp : rest.Pairwise (fun a b => nth (last.set j.1.toNat k) a.1.toNat ≤ nth (last.set j.1.toNat k) b.1.toNat) :=
      List.Pairwise.imp_of_mem (fun {a b} ha hb q => by rw [hset2 a ha, hset2 b hb]; exact q) hsrt.2
    simp only [Rd.after]; split
    · exact hp
    · rw [List.pairwise_append]
      refine ⟨hp, by simp, fun a ha b hb => ?_⟩
      simp at hb; subst hb
      dsimp only
      rw [hset2 a ha, hs2]
      have := hle a ha; omega
  · rw [nth_set]
    split
    · omega
    · have := hlk i hi; omega
  · have hr : ∀ (p : Nat) x, rest[p]? = some x → nth (last.set j.1.toNat k) x.1.toNat = 0 ∨ k + 1 - nth (last.set j.1.toNat k) x.1.toNat + p ≤ N := fun p x hp => by
      rw [hset2 x (mem_of_idx hp)]
      have := h.gap (p + 1) x (by rw [hl]; exact hp)
      omega
    simp only [Rd.after] at hp
    split at hp
    · exact hr p x hp
    · by_cases hpl : p < rest.length
      · rw [List.getElem?_append_left hpl] at hp; exact hr p x hp
      · rw [List.getElem?_append_right (by omega)] at hp
        have hp0 : p - rest.length = 0 := by
          by_cases e : p - rest.length = 0
          · exact e
          · rw [List.getElem?_eq_none (by simp; omega)] at hp; cases hp
        rw [hp0] at hp
        simp at hp; subst hp
        dsimp only
        rw [hs2]; omega
  · rw [nth_set]
    split
    · omega
    · exact h.g0 i hi

theorem nth_replicate (N i : Nat) : nth (List.replicate N 0) i = 0 := by
  unfold nth
  simp only [List.getD_eq_getElem?_getD, List.getElem?_replicate]
  split <;> rfl

theorem Fair.first {turn : Int} {needs E : List Int} {N : Nat} (hN : needs.length = N) (hv : Valid turn needs) (hE : endsI ⟨turn, 0, jobs needs N⟩ (List.replicate N 0) = E) :
    Fair needs E N (leftI (jobs needs N)) ⟨turn, 0, jobs needs N⟩ 1 (List.replicate N 0) (List.replicate N 0) := by
  have hm : ∀ k, k < N → 1 ≤ nth needs k ∧ nth needs k ≤ 10000 := fun k hk => hv.2.2.2 _ (nth_mem (by omega))
  refine ⟨⟨⟨hv.1, hv.2.1⟩, fun j hj => ?_⟩, jobs_nd _ _, by dsimp only; rw [jobs_length]; omega, by simp, by simp, fun j hj => ?_, fun i hi hn => ?_, ?_, fun i hi => ?_, fun p j hp => ?_, ⟨_, by simp, hE⟩, ⟨by omega, by dsimp only; omega⟩, fun i hi => ?_, fun i hi => (hm i hi).2⟩
  · obtain ⟨k, h1, rfl⟩ := jobs_mem hj
    exact hm k h1
  · obtain ⟨k, h1, rfl⟩ := jobs_mem hj
    dsimp only; rw [nth_replicate]; simp
  · exact absurd rfl (hn _ (jobs_has hi))
  · dsimp only
    generalize jobs needs N = l
    induction l with
    | nil => simp
    | cons x l ih =>
      rw [List.pairwise_cons]
      exact ⟨fun y _ => by rw [nth_replicate, nth_replicate]; omega, ih⟩
  · rw [nth_replicate]; omega
  · left; rw [nth_replicate]
  · rw [nth_replicate]; omega


def nd (zs : List Int) : List Int := zs.map fun z => 1 + z % 2000
theorem nd_length (zs : List Int) : (nd zs).length = zs.length := by simp [nd]
theorem nth_nd {zs : List Int} {i : Nat} (h : i < zs.length) : nth (nd zs) i = 1 + nth zs i % 2000 := by
  simp only [nd, nth, List.getD_eq_getElem?_getD, List.getElem?_map, List.getElem?_eq_getElem h]; rfl

theorem fair (m0 : Mem) (x0 x1' : V) (h0 : IsV m0 (.int .u8) x0) (h1 : IsV m0 (.slice 1 (.int .u16)) x1') : ACalls Try.prog 4 [x0, x1'] m0 (fun r _ => r = .bool true) := by
  obtain ⟨t, rfl, hwt⟩ := h0.int
  replace hwt := wf_u8 hwt
  refine run_on x6 hm c4 (by simp) fun hf => ?_
  obtain ⟨zs, hv, hml, hwf⟩ := h1.slI hf
  obtain ⟨N, hN, hv1⟩ := len1 hv
  by_cases hl : (30 : Int) < N
  · simp (disch := omega) [b4, F6, hv1]
  simp (disch := omega) [b4, F6, hv1]
  refine new_calls (fun hbad => absurd ⟨by omega, by omega⟩ hbad) (fun t1 t2 r m1 hR hr hg => ?_)
  simp (disch := omega) [hv1]
  have hz : ∀ k, k < N → 0 ≤ nth zs k ∧ nth zs k ≤ 65535 := fun k hk => by have := wf_u16 (hwf _ (nth_mem (show k < zs.length by omega))); omega
  refine exec_loopU (σ := Nat × V × List Nat × Mem) (fun (i, u, _, _) => [(6, u), (29, .int .i64 i)]) (fun (_, _, _, M) => M) (fun (i, u, D, M) => i ≤ N ∧ Round M D r ⟨1 + t, 0, jobs (nd zs) i⟩ ∧ Ows M 1 u (rowI .i64 (nd (zs.take i))) ∧ m0.Grew M ∧ (∀ p ∈ D, m0.next ≤ p) ∧ (∀ p ∈ u.fp, m0.next ≤ p) ∧ (∀ p ∈ D, p ∉ u.fp)) (fun (i, _, _, _) => N - i) (0, .sl none 0 (some 0), [r], m1) rfl
    ⟨by omega, hR, by rw [List.take_zero]; exact Ows.nil _ _, hg, by simp; omega, by simp [V.fp], by simp [V.fp]⟩ (by simp) ?_
  intro (i, u, D, M) ⟨a1, a2, a3, a4, a5, a6, a7⟩
  by_cases hi : i < N
  · obtain ⟨p, q, full, rw, b1, b2, b3, b4⟩ := at1 (hv.grow a4) (y := i) (by omega)
    have hzi := hz i hi
    obtain ⟨y, hy⟩ : ∃ y, nth zs i = y := ⟨_, rfl⟩
    rw [hy] at b4 hzi
    have hnd : nth (nd zs) i = 1 + y % 2000 := by rw [nth_nd (by omega), hy]
    obtain ⟨x, hx⟩ : ∃ x, y % 2000 = x := ⟨_, rfl⟩
    have hxr : 0 ≤ x ∧ x < 2000 := by omega
    rw [hx] at hnd
    have hxt : y.tmod 2000 = x := by rw [Int.tmod_eq_emod_of_nonneg hzi.1, hx]
    simp (disch := omega) [-getElem?_pos, b1, b3, b4, eltsOf, Mem.elts, hxt]
    have hlt : (nd (zs.take i)).length = i := by rw [nd_length]; simp; omega
    have e1 : nd (zs.take (i + 1)) = nd (zs.take i) ++ [1 + x] := by rw [takeS (nth_get (by omega)), hy]; simp [nd, hx]
    refine (a3.grow (Mem.Grew.new M _)).app (by rw [rowI_length, hlt]; omega) (by rw [rowI_length, hlt]; omega) fun u' M' w1 w2 w3 => ?_
    have w2' : Stp M M' u.fp u'.fp := (Stp.new M _ u.fp).trans w2
    have hD := a2.keep w2'.next (w2'.keep a2.lt (fun p hp he => a7 p he hp))
    have hadd : addE (jobs (nd zs) i) i (1 + x) = 0 := by
      unfold addE
      rw [if_neg (by omega), jobs_idx, if_neg (by omega), jobs_length, if_neg (by omega)]
    refine add_calls hD (fun he => absurd hadd he) (fun he M2 D2 s1 s2 => ?_)
    simp (disch := omega)
    dsimp only at s1
    rw [← hnd, ← jobs_succ] at s1
    have g1 := w2'.toGrew a4 a6
    have g2 := s2.toGrew g1 a5
    have hap1 := w2'.apart a2.lt (fun p hp he => a7 p he hp)
    refine again_mk (i + 1, u', D2, M2) ?_ (by dsimp only; omega) (by simp) rfl
    dsimp only
    rw [e1, ← rowI_append]
    exact ⟨by omega, s1, w1.step s2 (fun p hp he => hap1 p he hp), g2, s2.ge g1.next a5, w2'.ge a4.next a6, s2.apart w1.lt (fun p hp he => hap1 p he hp)⟩
  · have : i = N := by omega
    subst this
    have htk : zs.take i = zs := by rw [← hN, List.take_length]
    rw [htk] at a3
    obtain ⟨nds, hnds⟩ : ∃ l, nd zs = l := ⟨_, rfl⟩
    have hnl : nds.length = i := by rw [← hnds, nd_length, hN]
    have hnb : ∀ n ∈ nds, 1 ≤ n ∧ n ≤ 10000 := fun n hn => by
      rw [← hnds] at hn
      obtain ⟨z, hz', rfl⟩ := List.mem_map.1 hn
      have := wf_u16 (hwf _ hz'); omega
    rw [hnds] at a2 a3
    have hval : Valid (1 + t) nds := ⟨by omega, by omega, by omega, hnb⟩
    clear hnb hz hwf htk hnds hv hv1 hR hg h1
    simp (disch := omega)
    refine ends_calls a3.sl (by omega) (fun hbad => absurd hval hbad) (fun _ ve M1 c1 c2 c3 => ?_)
    rw [hnl] at c1
    obtain ⟨E, hE⟩ : ∃ E, endsI ⟨1 + t, 0, jobs nds i⟩ (List.replicate i 0) = E := ⟨_, rfl⟩
    rw [hE] at c1
    have hfair := Fair.first hnl hval hE
    have hle := leftI_le _ hfair.rok.ok
    dsimp only at hle
    rw [jobs_length] at hle
    obtain ⟨T, hT⟩ : ∃ T, leftI (jobs nds i) = T := ⟨_, rfl⟩
    rw [hT] at hle hfair
    have hElen : E.length = i := by rw [← hE, endsI_length, List.length_replicate]
    have hTb : T ≤ 640000 := by omega
    clear hval hle hE
    have hul := a3.sl.lenSl
    rw [rowI_length, hnl] at hul
    have hel := c1.sl.lenSl
    rw [rowI_length, hElen] at hel
    have hap : ∀ p ∈ D, p ∉ ve.fp := fun p hp he => by have := a2.lt p hp; have := c3 p he; omega
    have b2' := a2.grow c2
    have b3' := a3.grow c2
    have b4' := a4.trans c2
    simp (disch := omega) [hul]
    have hul1 := b3'.lt
    have hvl1 := c1.lt
    refine exec_loopU (σ := Rd × Nat × List Int × List Int × List Nat × Mem) (fun (_, k, _, _, _, _) => [(13, .int .i64 k)]) (fun (_, _, _, _, _, M) => M)
      (fun (w, k, got, last, D, M) => Round M D r w ∧ Fair nds E i T w k got last ∧ Ows M 1 (.sl (some (M1.next, 0, 1)) i (some i)) (rowI .i64 got) ∧ Ows M 1 (.sl (some (M1.next + 1, 0, 1)) i (some i)) (rowI .i64 last) ∧ Ows M 1 u (rowI .i64 nds) ∧ Ows M 1 ve (rowI .i64 E) ∧
        (∀ p ∈ D, p ∉ u.fp ∧ p ∉ ve.fp ∧ p ≠ M1.next ∧ p ≠ M1.next + 1) ∧ M1.next + 1 < M.next ∧ w.now + leftI w.l = T) (fun (w, _, _, _, _, _) => (leftI w.l).toNat)
      (⟨1 + t, 0, jobs nds i⟩, 1, List.replicate i 0, List.replicate i 0, D, (M1.new (.row 1 (List.replicate i [.int .i64 0]) true)).new (.row 1 (List.replicate i [.int .i64 0]) true)) rfl ?_ (by simp) ?_
    · have hg2 : M1.Grew ((M1.new (.row 1 (List.replicate i [.int .i64 0]) true)).new (.row 1 (List.replicate i [.int .i64 0]) true)) := (Mem.Grew.new _ _).trans (Mem.Grew.new _ _)
      have hlD := b2'.lt
      dsimp only
      refine ⟨b2'.grow hg2, by simpa using hfair, ?_, ?_, b3'.grow hg2, c1.grow hg2, fun p hp => ⟨a7 p hp, hap p hp, ?_, ?_⟩, by simp, by omega⟩
      · exact ⟨.inr ⟨M1.next, 0, rowI .i64 (List.replicate i 0), some i, by rw [rowI_length]; simp, by simp <;> omega, by simp (disch := omega) [rowI_replicate], by simp [rowI_length], fun j _ => by rw [Nat.zero_add], fun k hk => by simp at hk; subst hk; rw [rowI_length]; simp⟩⟩
      · exact ⟨.inr ⟨M1.next + 1, 0, rowI .i64 (List.replicate i 0), some i, by rw [rowI_length]; simp, by simp, by simp (disch := omega) [rowI_replicate], by simp [rowI_length], fun j _ => by rw [Nat.zero_add], fun k hk => by simp at hk; subst hk; rw [rowI_length]; simp⟩⟩
      · have := hlD p hp; omega
      · have := hlD p hp; omega
    clear a2 a3 a4 a5 a6 a7 b2' b3' b4' c1 c2 c3 hap hfair h0
    intro (w, k, got, last, D, M) ⟨k1, k2, k3, k4, k5, k6, k7, k8, k9⟩
    have hlw := leftI_le w.l k2.rok.ok
    have hgl := k2.glen
    have hll := k2.llen
    have hkb := k2.kb
    simp (disch := omega)
    refine next_calls k1 (by omega) (fun he m3 s1 s2 => ?_) (fun j rest he m3 D3 s1 s2 => ?_)
    · have g3 := k3.step s2 (fun p hp hq => by simp [V.fp] at hq; exact (k7 p hp).2.2.1 hq)
      have g5 := k5.step s2 (fun p hp => (k7 p hp).1)
      have hfin : ∀ x, x < i → nth got x = nth nds x := fun x hx => k2.fin x hx fun j hj => by rw [he] at hj; cases hj
      have hl0 : leftI w.l = 0 := by rw [he]; rfl
      clear k3 k4 k5 k6 k7 s2 k2 hlw hkb
      simp (disch := omega) [hul]
      refine exec_loopU (σ := Nat) (fun x => [(183, .int .i64 x)]) (fun _ => m3.new (.row 4 [[.int .i64 0, .int .i64 0, .int .i64 0, .bool false]] true)) (fun x => x ≤ i) (fun x => i - x) 0 rfl (Nat.zero_le _) (by simp) ?_
      intro x hx
      by_cases hxi : x < i
      · obtain ⟨p5, q5, full5, rw5, z1, z2, z3, z4⟩ := at1 g3.sl (y := x) (by omega)
        obtain ⟨p7, q7, full7, rw7, z9, za, zb, zc⟩ := at1 g5.sl (y := x) (by omega)
        have := hfin x hxi
        simp (disch := omega) [-getElem?_pos, z1, z3, z4, z9, zb, zc]
        exact again_mk (x + 1) (by omega) (by omega) (by simp) rfl
      · simp (disch := omega) [hul, hel]
        refine left_calls (s1.grow (Mem.Grew.new _ _)) fun m5 _ => ?_
        simp (disch := omega) [hl0]
    · obtain ⟨⟨f1, f1'⟩, f2, f3, ⟨f4, f4'⟩, f5, f6⟩ := k2.step he
      have g3 := k3.step s2 (fun p hp hq => by simp [V.fp] at hq; exact (k7 p hp).2.2.1 hq)
      have g4 := k4.step s2 (fun p hp hq => by simp [V.fp] at hq; exact (k7 p hp).2.2.2 hq)
      have g5 := k5.step s2 (fun p hp => (k7 p hp).1)
      have g6 := k6.step s2 (fun p hp => (k7 p hp).2.1)
      have g7 : ∀ p ∈ D3, p ∉ u.fp ∧ p ∉ ve.fp ∧ p ≠ M1.next ∧ p ≠ M1.next + 1 := fun p hp => by
        rcases s2.fp p hp with q | q
        · exact k7 p q
        · exact ⟨fun e => by have := hul1 _ e; omega, fun e => by have := hvl1 _ e; omega, by omega, by omega⟩
      have g8 := s2.next
      have h3 := k2.rok.tk he
      have f7 : ∀ a : Nat, a < i → 0 ≤ nth last a ∧ nth last a < k := k2.lk
      have f8 : ∀ a : Nat, a < i → 0 ≤ nth got a := k2.g0
      have h4 := after_left he
      have hnow : (w.after j rest).now = w.now + tk w.turn j := rfl
      have hlw2 := leftI_le _ s1.ok
      have hn0 := k1.now
      clear k3 k4 k5 k6 k7 s2 k2
      have hTT : (w.after j rest).now + leftI (w.after j rest).l = T := by rw [hnow, h4]; omega
      have hdec : leftI (w.after j rest).l < leftI w.l := by rw [h4]; omega
      clear hnow h4
      generalize w.after j rest = w' at *
      obtain ⟨a, ha⟩ := Int.eq_ofNat_of_zero_le f1
      obtain ⟨n, hn⟩ : ∃ n, tk w.turn j = n := ⟨_, rfl⟩
      obtain ⟨now, hno⟩ : ∃ n, w.now = n := ⟨_, rfl⟩
      obtain ⟨d, hd⟩ : ∃ d, decide (j.2 - n = 0) = d := ⟨_, rfl⟩
      have haT : j.1.toNat = a := by omega
      rw [haT] at f2 f3 f4 f4' f5 f6
      rw [hn] at f4' f5 f6 h3
      rw [hno] at f5 k9
      simp only [turnC, hn, ha, hno, hd]
      obtain ⟨la, hla⟩ : ∃ x, nth last a = x := ⟨_, rfl⟩
      obtain ⟨ga, hga⟩ : ∃ x, nth got a = x := ⟨_, rfl⟩
      rw [hla] at f2 f3
      rw [hga] at f4 f4' f5 f6
      obtain ⟨p1, q1, full1, u1, u2, u3, u4, u5, u6⟩ := g4.at (i := a) (x := [.int .i64 la]) (by rw [rowI_get, nth_get (by omega), hla]; rfl) .i64
      simp [V.fp] at u5
      subst u5
      obtain ⟨p2, q2, full2, t1, t2, t3, t4, t5, t6⟩ := g3.at (i := a) (x := [.int .i64 ga]) (by rw [rowI_get, nth_get (by omega), hga]; rfl) .i64
      simp [V.fp] at t5
      subst t5
      have hlk : 0 ≤ la ∧ la < k := by have := f7 a; omega
      have hEa : d = true → ga + n = nth nds a ∧ nth E a = now + n := fun h => f5 (by rw [h] at hd; simpa using hd)
      clear f5
      obtain ⟨r1, q3, full3, v1, v2, v3, v4, v5, v6⟩ := g5.at (i := a) (x := [.int .i64 (nth nds a)]) (by rw [rowI_get, nth_get (by omega)]; rfl) .i64
      obtain ⟨r2, q4, full4, y1, y2, y3, y4, y5, y6⟩ := g6.at (i := a) (x := [.int .i64 (nth E a)]) (by rw [rowI_get, nth_get (by omega)]; rfl) .i64
      have v7 := hul1 r1 (by rw [v5]; simp)
      have y7 := hvl1 r2 (by rw [y5]; simp)
      by_cases hpos : 0 < la
      case' pos => simp (disch := omega) [-getElem?_pos, hul, u1, u3, u4]
      case' neg => simp (disch := omega) [-getElem?_pos, hul, u1, u3, u4]
      all_goals
        refine exec_loopU (σ := Nat) (fun x => [(100, .int .i64 x)]) (fun _ => m3.new (.row 4 [[.int .i64 a, .int .i64 now, .int .i64 n, .bool d]] true)) (fun x => x ≤ i) (fun x => i - x) 0 rfl (Nat.zero_le _) (by simp) ?_
        intro x hx
        by_cases hxi : x < i
        · obtain ⟨gx, hgx⟩ : ∃ y, nth got x = y := ⟨_, rfl⟩
          obtain ⟨lx, hlx⟩ : ∃ y, nth last x = y := ⟨_, rfl⟩
          obtain ⟨nx, hnx⟩ : ∃ y, nth nds x = y := ⟨_, rfl⟩
          obtain ⟨p5, q5, full5, rw5, z1, z2, z3, z4⟩ := at1 g3.sl (y := x) (by omega)
          obtain ⟨p6, q6, full6, rw6, z5, z6, z7, z8⟩ := at1 g4.sl (y := x) (by omega)
          obtain ⟨p7, q7, full7, rw7, z9, za, zb, zc⟩ := at1 g5.sl (y := x) (by omega)
          rw [hgx] at z4
          rw [hlx] at z8
          rw [hnx] at zc
          by_cases e1 : x = a
          · subst e1
            simp (disch := omega)
            exact again_mk (x + 1) (by omega) (by omega) (by simp) rfl
          · have e1' : ¬ (x : Int) = a := by omega
            by_cases e2 : gx < nx
            · have e3 := f3 x hxi e1 (by omega)
              rw [hlx] at e3
              simp (disch := omega) [-getElem?_pos, z1, z3, z4, z5, z7, z8, z9, zb, zc, u1, u3, u4]
              exact again_mk (x + 1) (by omega) (by omega) (by simp) rfl
            · simp (disch := omega) [-getElem?_pos, z1, z3, z4, z5, z7, z8, z9, zb, zc, u1, u3, u4]
              exact again_mk (x + 1) (by omega) (by omega) (by simp) rfl
        · clear hx f3
          have hlD3 := s1.lt
          have fin : ∀ m' : Mem, m'.next = m3.next + 1 → (∀ p, p < m3.next → p ≠ M1.next → p ≠ M1.next + 1 → m'.obj p = m3.obj p) → m'.obj M1.next = some (.row 1 (full2.set q2 [.int .i64 (ga + n)]) true) → m'.obj (M1.next + 1) = some (.row 1 (full1.set q1 [.int .i64 k]) true) →
              Round m' D3 r w' ∧ Fair nds E i T w' ((k + 1 : Nat) : Int) (got.set a (ga + n)) (last.set a k) ∧ Ows m' 1 (.sl (some (M1.next, 0, 1)) i (some i)) (rowI .i64 (got.set a (ga + n))) ∧ Ows m' 1 (.sl (some (M1.next + 1, 0, 1)) i (some i)) (rowI .i64 (last.set a k)) ∧ Ows m' 1 u (rowI .i64 nds) ∧ Ows m' 1 ve (rowI .i64 E) ∧
              (∀ p ∈ D3, p ∉ u.fp ∧ p ∉ ve.fp ∧ p ≠ M1.next ∧ p ≠ M1.next + 1) ∧ M1.next + 1 < m'.next ∧ w'.now + leftI w'.l = T := by
            intro m' o1 o2 o3 o4
            refine ⟨s1.keep (by omega) fun p hp => o2 p (hlD3 p hp) (g7 p hp).2.2.1 (g7 p hp).2.2.2, f6, ?_, ?_, g5.keep (by omega) fun p hp => ?_, g6.keep (by omega) fun p hp => ?_, g7, by omega, by omega⟩
            · rw [← rowI_set]; exact t6 _ _ o3 (by omega)
            · rw [← rowI_set]; exact u6 _ _ o4 (by omega)
            · have := hul1 p hp; exact o2 p (by omega) (by omega) (by omega)
            · have := hvl1 p hp; exact o2 p (by omega) (by omega) (by omega)
          have hs : ∀ y, (full2.set q2 y)[q2]? = some y := fun y => List.getElem?_set_self (List.getElem?_eq_some_iff.1 t4).1
          cases d with
          | true =>
            obtain ⟨h5, h6⟩ := hEa rfl
            simp (disch := omega) [-getElem?_pos, u1, u3, u4, t1, t3, t4, v1, v3, v4, y1, y3, y4, hs]
            refine again_mk (w', k + 1, got.set a (ga + n), last.set a k, D3, _) ?_ ?_ (by simp) rfl
            · dsimp only
              exact fin _ (by simp) (fun p h1 h2 h3 => by simp (disch := omega)) (by simp (disch := omega)) (by simp (disch := omega))
            · dsimp only; omega
          | false =>
            simp (disch := omega) [-getElem?_pos, u1, u3, u4, t1, t3, t4, hs]
            refine again_mk (w', k + 1, got.set a (ga + n), last.set a k, D3, _) ?_ ?_ (by simp) rfl
            · dsimp only
              exact fin _ (by simp) (fun p h1 h2 h3 => by simp (disch := omega)) (by simp (disch := omega)) (by simp (disch := omega))
            · dsimp only; omega

end Go.Proofs.Ytgmidpacmlkfgaa
