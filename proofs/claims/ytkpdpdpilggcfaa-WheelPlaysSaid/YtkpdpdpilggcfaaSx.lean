/-
  THE LIBRARY's SORT of items at this program.
-/
import Derived.Test.YtkpdpdpilggcfaaIx
import Derived.Shelf.SlSortCmp.WholeK
import Derived.Ground.SlsfProg
import Derived.Ground.NamesProg
namespace Go.Proofs.Ytkpdpdpilggcfaa
open Go Go.AM Go.Shelf
def Try.sortT_ren : Go.Shelf.Ren := ⟨fun | 6 => 23 | 15 => 28 | 14 => 27 | 28 => 38 | 29 => 39 | 20 => 30 | 21 => 31 | 22 => 32 | 23 => 33 | 24 => 34 | 25 => 35 | 26 => 36 | 27 => 37 | 46 => 40 | 47 => 41 | 48 => 42 | 49 => 43 | 50 => 44 | 57 => 45 | n => n, fun | 22 => 50 | 24 => 57 | 25 => 65 | 3 => 3 | 39 => 66 | 0 => 0 | 53 => 78 | 55 => 80 | 4 => 4 | 46 => 72 | 45 => 71 | 50 => 46 | 5 => 5 | 9 => 9 | 66 => 81 | 70 => 85 | 76 => 87 | 77 => 88 | n => n, fun | n => n⟩
theorem Try.sortT : Go.Proofs.SlLaysF0.n6 Try.prog Try.sortT_ren := {
  mixed := by kernel_rfl
  f6 := ⟨Try.f23.name, by decide, Try.func23.trans (congrArg some (by kernel_rfl))⟩
  f14 := ⟨Try.f27.name, by decide, Try.func27.trans (congrArg some (by kernel_rfl))⟩
  f15 := Try.func28.trans (congrArg some (by kernel_rfl))
  f20 := ⟨Try.f30.name, by decide, Try.func30.trans (congrArg some (by kernel_rfl))⟩
  f21 := ⟨Try.f31.name, by decide, Try.func31.trans (congrArg some (by kernel_rfl))⟩
  f22 := ⟨Try.f32.name, by decide, Try.func32.trans (congrArg some (by kernel_rfl))⟩
  f23 := ⟨Try.f33.name, by decide, Try.func33.trans (congrArg some (by kernel_rfl))⟩
  f24 := ⟨Try.f34.name, by decide, Try.func34.trans (congrArg some (by kernel_rfl))⟩
  f25 := ⟨Try.f35.name, by decide, Try.func35.trans (congrArg some (by kernel_rfl))⟩
  f26 := ⟨Try.f36.name, by decide, Try.func36.trans (congrArg some (by kernel_rfl))⟩
  f27 := ⟨Try.f37.name, by decide, Try.func37.trans (congrArg some (by kernel_rfl))⟩
  f28 := Try.func38.trans (congrArg some (by kernel_rfl))
  f29 := Try.func39.trans (congrArg some (by kernel_rfl))
  f46 := ⟨Try.f40.name, by decide, Try.func40.trans (congrArg some (by kernel_rfl))⟩
  f47 := Try.func41.trans (congrArg some (by kernel_rfl))
  f48 := Try.func42.trans (congrArg some (by kernel_rfl))
  f49 := ⟨Try.f43.name, by decide, Try.func43.trans (congrArg some (by kernel_rfl))⟩
  f50 := ⟨Try.f44.name, by decide, Try.func44.trans (congrArg some (by kernel_rfl))⟩
  f57 := ⟨Try.f45.name, by decide, Try.func45.trans (congrArg some (by kernel_rfl))⟩
  t0 := Try.underlying0
  a0 := Try.isAgg0
  z0 := Try.sizeOf0
  v0 := Try.zeroValue0
  t3 := Try.underlying3
  a3 := Try.isAgg3
  z3 := Try.sizeOf3
  v3 := Try.zeroValue3
  t4 := Try.underlying4
  a4 := Try.isAgg4
  z4 := Try.sizeOf4
  v4 := Try.zeroValue4
  t5 := Try.underlying5
  a5 := Try.isAgg5
  z5 := Try.sizeOf5
  v5 := Try.zeroValue5
  t9 := Try.underlying9
  a9 := Try.isAgg9
  z9 := Try.sizeOf9
  v9 := Try.zeroValue9
  t22 := Try.underlying50
  a22 := Try.isAgg50
  z22 := Try.sizeOf50
  v22 := Try.zeroValue50
  t25 := Try.underlying65
  a25 := Try.isAgg65
  z25 := Try.sizeOf65
  v25 := Try.zeroValue65
  t39 := Try.underlying66
  a39 := Try.isAgg66
  z39 := Try.sizeOf66
  v39 := Try.zeroValue66
  t45 := Try.underlying71
  a45 := Try.isAgg71
  z45 := Try.sizeOf71
  v45 := Try.zeroValue71
  t46 := Try.underlying72
  a46 := Try.isAgg72
  z46 := Try.sizeOf72
  v46 := Try.zeroValue72
  t50 := Try.underlying46
  a50 := Try.isAgg46
  z50 := Try.sizeOf46
  v50 := Try.zeroValue46
  t53 := Try.underlying78
  a53 := Try.isAgg78
  z53 := Try.sizeOf78
  v53 := Try.zeroValue78
  t55 := Try.underlying80
  a55 := Try.isAgg80
  z55 := Try.sizeOf80
  v55 := Try.zeroValue80
  t66 := Try.underlying81
  a66 := Try.isAgg81
  z66 := Try.sizeOf81
  v66 := Try.zeroValue81
  t70 := Try.underlying85
  a70 := Try.isAgg85
  z70 := Try.sizeOf85
  v70 := Try.zeroValue85
  t76 := Try.underlying87
  a76 := Try.isAgg87
  z76 := Try.sizeOf87
  v76 := Try.zeroValue87
  t77 := Try.underlying88
  a77 := Try.isAgg88
  z77 := Try.sizeOf88
  v77 := Try.zeroValue88
  }
theorem enters24 : ∀ args w, (callFunc 24 args).run Try.prog w = .ok (.enter 24 args) w := enters_of Try.func24 (by kernel_rfl) rfl
theorem sortsT : SortsF Try.prog 23 24 eiT 3 cfT := fun blk off cap d w hcmp hH hblk hsz =>
  AnyQ.slices_SortFunc Try.sortT 3 Try.isAgg57 Try.sizeOf57 (ecM eiT) (fun _ => rfl) (fun x => ecM_one eiT x) cfT swoT 24 #[] blk off cap d w enters24 hcmp hH hblk hsz
theorem sortT_calls {m : Mem} {v : V} {d : List It} (ho : Ows m 3 v (d.map it)) (hl : d.length ≤ 1000000) {K : KV} (h : ∀ (R : List It) m', R.Perm d → R.Pairwise (fun x y => x.2.2 ≤ y.2.2) → Ows m' 3 v (R.map it) → Stp m m' v.fp v.fp → K (.tup []) m') : ACalls Try.prog 23 [v, .fn 24 [] []] m K := by
  by_cases h0 : d = []
  · subst h0
    have := ho.sl.lenSl
    simp at this
    exact sort_none this (h [] m (List.Perm.refl _) List.Pairwise.nil ho (Stp.refl _ _))
  · rw [← ec_row] at ho
    exact ho.sortF c23.body c24.body eiT (fun _ => rfl) cfT sortsT (fun x y => cmp24 x y) h0 (by omega) fun d' m' h1 h2 h3 h4 _ => h d' m' h1 (h2.imp befT) h3 h4
end Go.Proofs.Ytkpdpdpilggcfaa
