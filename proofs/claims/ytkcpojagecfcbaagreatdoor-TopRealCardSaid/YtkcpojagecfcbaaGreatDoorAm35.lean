/-
  THE ABSTRACT MACHINE: jumps back to a label, told by what they turn. No Go program here.
-/
import Derived.Test.YtkcpojagecfcbaaGreatDoorAm34
import Derived.Test.YtkcpojagecfcbaaGreatDoorAm29
namespace Go.AM
open Go
set_option linter.unusedVariables false
section
variable {Γ : Ctx} {e : Env} {m : Mem} {K : KX}
theorem thenX_goto (f : Env → Mem → KX → Prop) (l : Nat) : thenX f K (.goto l) e m = K (.goto l) e m := eqI rfl
theorem blockX_goto (id l : Nat) : blockX id K (.goto l) e m = K (.goto l) e m := eqI rfl
theorem aheadX_normal (J : Env → Mem → Prop) : aheadX J K .normal e m = J e m := eqI rfl
theorem aheadX_exit (J : Env → Mem → Prop) (i : Nat) : aheadX J K (.exit i) e m = K (.exit i) e m := eqI rfl
theorem aheadX_ret (J : Env → Mem → Prop) : aheadX J K .ret e m = K .ret e m := eqI rfl
theorem jumpX_goto (l : Nat) (J : Env → Mem → Prop) : jumpX l J K (.goto l) e m = J e m := eqI (by simp [jumpX])
theorem jumpX_normal (l : Nat) (J : Env → Mem → Prop) : jumpX l J K .normal e m = K .normal e m := eqI rfl
theorem jumpX_exit (l : Nat) (J : Env → Mem → Prop) (i : Nat) : jumpX l J K (.exit i) e m = K (.exit i) e m := eqI rfl
theorem jumpX_ret (l : Nat) (J : Env → Mem → Prop) : jumpX l J K .ret e m = K .ret e m := eqI rfl
theorem exec_goto (l : Nat) : exec Γ (.goto l) e m K = K (.goto l) e m := eqI rfl
end
/-- A jump back to a label. -/
def execJump (Γ : Ctx) (l : Nat) (live : List Nat) (p r : St) (e : Env) (m : Mem) (K : KX) (t : Tag p) (t' : Tag r) (t'' : Tag K) : Prop :=
  ∃ I : Nat → Env → Mem → Prop, exec Γ p e m (aheadX (fun e m => ∃ n, I n (keep live e) m) K) ∧ ∀ n e m, I n e m → exec Γ r e m (jumpX l (fun e m => ∃ n', n' < n ∧ I n' (keep live e) m) K)
theorem exec_jumpE {Γ : Ctx} (l : Nat) (live : List Nat) (p r : St) (e : Env) (m : Mem) (K : KX) : exec Γ (.jump l live p r) e m K = execJump Γ l live p r e m K .mk .mk .mk := eqI rfl
attribute [simp↓] thenX_goto blockX_goto aheadX_normal aheadX_exit aheadX_ret jumpX_goto jumpX_normal jumpX_exit jumpX_ret exec_goto exec_jumpE
/-- The label is reached for the first time. -/
def first {σ : Type} (live : List Nat) (L : Lp σ) (e : Env) (e' : Env) (m' : Mem) (t : Tag L) (t' : Tag e) : Prop :=
  ∃ s', L.I s' ∧ e' = enU live (L.ch s') e ∧ m' = L.M s'
theorem first_mk {σ : Type} {live : List Nat} {ch : σ → List (Nat × V)} {M : σ → Mem} {I : σ → Prop} {μ : σ → Nat} {e : Env} {e' : Env} {m' : Mem} {t : Tag (Lp.mk ch M I μ)} {t' : Tag e}
    (s' : σ) (h1 : I s') (h3 : e' = enU live (ch s') e) (h4 : m' = M s') : first live ⟨ch, M, I, μ⟩ e e' m' t t' := ⟨s', h1, h3, h4⟩
/-- A JUMP BACK: what it turns (ch, M), what holds at the label (I), and how much is left (μ). -/
theorem exec_jumpU {Γ : Ctx} {l : Nat} {live : List Nat} {p r : St} {K : KX} {e : Env} {m : Mem} {t : Tag p} {t' : Tag r} {t'' : Tag K} {σ : Type} (ch : σ → List (Nat × V)) (M : σ → Mem) (I : σ → Prop) (μ : σ → Nat)
    (hfirst : atE e m (fun e m => exec Γ p e m (aheadX (fun e' m' => first live ⟨ch, M, I, μ⟩ e (keep live e') m' .mk .mk) K)) .mk)
    (hstep : ∀ s, I s → atE (enU live (ch s) e) (M s) (fun e1 m1 => exec Γ r e1 m1 (jumpX l (fun e' m' => again live ⟨ch, M, I, μ⟩ e s (keep live e') m' .mk .mk) K)) .mk) : execJump Γ l live p r e m K t t' t'' := by
  refine ⟨fun n e' m' => ∃ s, I s ∧ μ s = n ∧ e' = enU live (ch s) e ∧ m' = M s, ?_, ?_⟩
  · have h2 : (aheadX (fun e' m' => ∃ n s, I s ∧ μ s = n ∧ keep live e' = enU live (ch s) e ∧ m' = M s) K) = (aheadX (fun e' m' => first live ⟨ch, M, I, μ⟩ e (keep live e') m' .mk .mk) K) := by
      funext ex e m
      cases ex <;> try rfl
      simp only [aheadX, first]
      apply propext
      exact ⟨fun ⟨n', s', h2, h3, h4, h5⟩ => ⟨s', h2, h4, h5⟩, fun ⟨s', h2, h4, h5⟩ => ⟨μ s', s', h2, rfl, h4, h5⟩⟩
    rw [h2]; exact hfirst
  · rintro n _ _ ⟨s, hs, rfl, rfl, rfl⟩
    have := hstep s hs
    have h2 : (jumpX l (fun e' m' => ∃ n', n' < μ s ∧ ∃ s', I s' ∧ μ s' = n' ∧ keep live e' = enU live (ch s') e ∧ m' = M s') K) = (jumpX l (fun e' m' => again live ⟨ch, M, I, μ⟩ e s (keep live e') m' .mk .mk) K) := by
      funext ex e m
      cases ex <;> try rfl
      simp only [jumpX, again]
      apply propext
      exact ⟨fun ⟨h0, n', h1, s', h2, h3, h4, h5⟩ => ⟨h0, s', h2, by omega, h4, h5⟩, fun ⟨h0, s', h2, h3, h4, h5⟩ => ⟨h0, μ s', h3, s', h2, rfl, h4, h5⟩⟩
    rw [h2]; exact this
/-- The same, where nothing stands ahead of the label. -/
theorem exec_jumpU0 {Γ : Ctx} {l : Nat} {live : List Nat} {r : St} {K : KX} {e : Env} {m : Mem} {t : Tag St.skip} {t' : Tag r} {t'' : Tag K} {σ : Type} (ch : σ → List (Nat × V)) (M : σ → Mem) (I : σ → Prop) (μ : σ → Nat) (s : σ)
    (hm : m = M s) (hs : I s) (he : keep live e = enU live (ch s) e)
    (hstep : ∀ s, I s → atE (enU live (ch s) e) (M s) (fun e1 m1 => exec Γ r e1 m1 (jumpX l (fun e' m' => again live ⟨ch, M, I, μ⟩ e s (keep live e') m' .mk .mk) K)) .mk) : execJump Γ l live .skip r e m K t t' t'' :=
  exec_jumpU ch M I μ (by simp only [atE_def, exec_skip, aheadX_normal]; exact first_mk s hs he hm) hstep
end Go.AM
