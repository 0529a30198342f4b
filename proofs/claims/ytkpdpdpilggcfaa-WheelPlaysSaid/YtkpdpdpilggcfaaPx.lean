/-
  WHERE ITEMS LIE as ticks go by, in plain words.
-/
import Derived.Test.YtkpdpdpilggcfaaFx
namespace Go.Proofs.Ytkpdpdpilggcfaa
open Go Go.AM
set_option linter.unusedVariables false

def lv (n d : Nat) : Nat := if d / 16 = n / 16 then 0 else if d / 256 = n / 256 then 1 else if d / 4096 = n / 4096 then 2 else 3
theorem ix0 {n d : Nat} (h : lv n d = 0) : ix n d = d % 16 := by unfold lv at h; unfold ix; split at h; rename_i e; rw [if_pos e]; split at h; omega; split at h <;> omega
theorem ix_rng (n d : Nat) : 16 * lv n d ≤ ix n d ∧ ix n d < 16 * lv n d + 16 := by unfold lv ix; (repeat' split) <;> omega
theorem lv_le (n d : Nat) : lv n d ≤ 3 := by unfold lv; (repeat' split) <;> omega

theorem keep0 {n d : Nat} (h : n < d) (h1 : lv n d = 0) : ix n d = ix (n + 1) d := by
  unfold lv at h1
  unfold ix
  split at h1
  case isFalse => split at h1; omega; split at h1 <;> omega
  rename_i e
  rw [if_pos e, if_pos (by omega)]
theorem keep1 {n d : Nat} (h : n < d) (h1 : lv n d = 1) (h2 : (n + 1) % 16 ≠ 0 ∨ ix n d ≠ 16 + (n + 1) / 16 % 16) : ix n d = ix (n + 1) d := by
  unfold lv at h1
  split at h1
  · omega
  rename_i e
  split at h1
  case isFalse => split at h1 <;> omega
  rename_i e2
  have e0 : ix n d = 16 + d / 16 % 16 := by unfold ix; rw [if_neg e, if_pos e2]
  rw [e0] at h2 ⊢
  have k1 : d / 16 ≠ (n + 1) / 16 := by
    rcases h2 with h2 | h2
    · omega
    · intro q; rw [q] at h2; exact h2 rfl
  have k2 : d / 256 = (n + 1) / 256 := by omega
  unfold ix
  rw [if_neg k1, if_pos k2]
theorem keep2 {n d : Nat} (h : n < d) (h1 : lv n d = 2) (h2 : (n + 1) % 256 ≠ 0 ∨ ix n d ≠ 32 + (n + 1) / 256 % 16) : ix n d = ix (n + 1) d := by
  unfold lv at h1
  split at h1
  · omega
  rename_i e
  split at h1
  · omega
  rename_i e2
  split at h1
  case isFalse => omega
  rename_i e3
  have e0 : ix n d = 32 + d / 256 % 16 := by unfold ix; rw [if_neg e, if_neg e2, if_pos e3]
  rw [e0] at h2 ⊢
  have k1 : d / 256 ≠ (n + 1) / 256 := by
    rcases h2 with h2 | h2
    · omega
    · intro q; rw [q] at h2; exact h2 rfl
  have k2 : d / 4096 = (n + 1) / 4096 := by omega
  unfold ix
  rw [if_neg (by omega), if_neg k1, if_pos k2]
theorem keep3 {n d : Nat} (h : n < d) (h1 : lv n d = 3) (h2 : (n + 1) % 4096 ≠ 0 ∨ ix n d ≠ 48 + (n + 1) / 4096 % 16) : ix n d = ix (n + 1) d := by
  unfold lv at h1
  split at h1
  · omega
  rename_i e
  split at h1
  · omega
  rename_i e2
  split at h1
  · omega
  rename_i e3
  have e0 : ix n d = 48 + d / 4096 % 16 := by unfold ix; rw [if_neg e, if_neg e2, if_neg e3]
  rw [e0] at h2 ⊢
  have k1 : d / 4096 ≠ (n + 1) / 4096 := by
    rcases h2 with h2 | h2
    · omega
    · intro q; rw [q] at h2; exact h2 rfl
  unfold ix
  rw [if_neg (by omega), if_neg (by omega), if_neg k1]

/-- Each where it belongs. -/
structure Fit (S : Nat → List It) (Q : It → Nat → Prop) : Prop where
  mem : ∀ s, s < 64 → ∀ x, x ∈ S s ↔ Q x s
  nd : ∀ s, s < 64 → (S s).Nodup
theorem Fit.imp {S : Nat → List It} {Q Q' : It → Nat → Prop} (h : Fit S Q) (hq : ∀ x s, s < 64 → (Q x s ↔ Q' x s)) : Fit S Q' := ⟨fun s hs x => (h.mem s hs x).trans (hq x s hs), h.nd⟩
theorem nodup_sub_len {α : Type} [DecidableEq α] : ∀ (l k : List α), l.Nodup → (∀ x ∈ l, x ∈ k) → l.length ≤ k.length
  | [], _, _, _ => by simp
  | a :: l, k, h, hs => by
    rw [List.nodup_cons] at h
    have ha := hs a (by simp)
    have := nodup_sub_len l (k.erase a) h.2 fun x hx => (List.mem_erase_of_ne (fun e => h.1 (by rw [← e]; exact hx))).2 (hs x (by simp [hx]))
    rw [List.length_erase_of_mem ha] at this
    have := List.length_pos_of_mem ha
    rw [List.length_cons]; omega

/-- While slots are dealt out: those of the levels from one on lie where the coming tick wants them, others as ever. -/
def Dn (R : List It) (n l : Nat) (σ : It → Nat) : Prop := ∀ x ∈ R, (l ≤ lv n x.2.1 → σ x = ix (n + 1) x.2.1) ∧ (lv n x.2.1 < l → σ x = ix n x.2.1)
theorem Dn.start (R : List It) (n : Nat) : Dn R n 4 (fun x => ix n x.2.1) := fun x hx => ⟨fun h => by have := lv_le n x.2.1; omega, fun _ => rfl⟩
theorem Dn.done {R : List It} {n : Nat} {σ : It → Nat} (h : Dn R n 1 σ) (hlt : ∀ x ∈ R, n < x.2.1) : ∀ x ∈ R, σ x = ix (n + 1) x.2.1 := fun x hx => by
  rcases Nat.eq_zero_or_pos (lv n x.2.1) with e | e
  · rw [(h x hx).2 (by omega), keep0 (hlt x hx) e]
  · exact (h x hx).1 e
theorem Dn.skip {R : List It} {n l c : Nat} {σ : It → Nat} (h : Dn R n (l + 1) σ) (hlt : ∀ x ∈ R, n < x.2.1) (hl : (l = 1 ∧ c = 16) ∨ (l = 2 ∧ c = 256) ∨ (l = 3 ∧ c = 4096)) (hc : (n + 1) % c ≠ 0) : Dn R n l σ := fun x hx => by
  refine ⟨fun h1 => ?_, fun h1 => (h x hx).2 (by omega)⟩
  rcases Nat.lt_or_ge l (lv n x.2.1) with w | w
  · exact (h x hx).1 w
  · have e : lv n x.2.1 = l := by omega
    rw [(h x hx).2 (by omega)]
    rcases hl with ⟨rfl, rfl⟩ | ⟨rfl, rfl⟩ | ⟨rfl, rfl⟩
    · exact keep1 (hlt x hx) e (.inl hc)
    · exact keep2 (hlt x hx) e (.inl hc)
    · exact keep3 (hlt x hx) e (.inl hc)
theorem Dn.deal {R : List It} {n l c : Nat} {σ : It → Nat} (h : Dn R n (l + 1) σ) (hlt : ∀ x ∈ R, n < x.2.1) (hl : (l = 1 ∧ c = 16) ∨ (l = 2 ∧ c = 256) ∨ (l = 3 ∧ c = 4096)) : Dn R n l (fun x => if σ x = 16 * l + (n + 1) / c % 16 then ix (n + 1) x.2.1 else σ x) := fun x hx => by
  have hr := ix_rng n x.2.1
  refine ⟨fun h1 => ?_, fun h1 => ?_⟩
  · dsimp only
    rcases Nat.lt_or_ge l (lv n x.2.1) with w | w
    · have e := (h x hx).1 w
      split
      · rfl
      · exact e
    · have e : lv n x.2.1 = l := by omega
      have e2 := (h x hx).2 (by omega)
      split
      · rfl
      · rename_i hne
        rw [e2] at hne ⊢
        rcases hl with ⟨rfl, rfl⟩ | ⟨rfl, rfl⟩ | ⟨rfl, rfl⟩
        · exact keep1 (hlt x hx) e (.inr hne)
        · exact keep2 (hlt x hx) e (.inr hne)
        · exact keep3 (hlt x hx) e (.inr hne)
  · have e2 := (h x hx).2 (by omega)
    dsimp only
    rw [if_neg (by rw [e2]; omega), e2]
end Go.Proofs.Ytkpdpdpilggcfaa
