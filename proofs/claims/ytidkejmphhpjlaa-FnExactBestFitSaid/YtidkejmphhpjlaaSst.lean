/- sort.SliceStable, laid at the numbers of this program. Conditions: none. -/
import Derived.Test.YtidkejmphhpjlaaBfp
import Derived.Test.YtidkejmphhpjlaaRows
import Derived.Shelf.GgSortMore.Stable
namespace Go.Proofs.Ytidkejmphhpjlaa.Wk
open Go.RowKit Go.Proofs.Ytidkejmphhpjlaa.Pl

def sst_ren : Go.Shelf.Ren := ⟨fun | 8 => 52 | 13 => 56 | 14 => 57 | 15 => 58 | 16 => 59 | 29 => 70 | 30 => 71 | 42 => 72 | 49 => 73 | n => n, fun | 0 => 0 | 3 => 3 | 4 => 4 | 5 => 5 | 12 => 12 | 17 => 17 | 20 => 20 | 26 => 59 | 33 => 65 | 34 => 66 | 36 => 68 | 38 => 70 | 42 => 74 | 47 => 60 | 56 => 87 | 82 => 88 | 83 => 89 | 84 => 90 | 85 => 91 | 86 => 92 | 87 => 93 | 89 => 95 | n => n, fun n => n⟩
theorem sst : LaysGt.n8 Try.prog sst_ren := {
  mixed := by kernel_rfl
  f8 := Try.func52.trans (congrArg some (by kernel_rfl))
  f13 := Try.func56.trans (congrArg some (by kernel_rfl))
  f14 := Try.func57.trans (congrArg some (by kernel_rfl))
  f15 := Try.func58.trans (congrArg some (by kernel_rfl))
  f16 := Try.func59.trans (congrArg some (by kernel_rfl))
  f29 := Try.func70.trans (congrArg some (by kernel_rfl))
  f30 := Try.func71.trans (congrArg some (by kernel_rfl))
  f42 := Try.func72.trans (congrArg some (by kernel_rfl))
  f49 := Try.func73.trans (congrArg some (by kernel_rfl))
  t0 := by kernel_rfl
  a0 := fun _ => by kernel_rfl
  z0 := fun _ => by kernel_rfl
  v0 := fun _ => by kernel_rfl
  i0 := by kernel_rfl
  t3 := by kernel_rfl
  a3 := fun _ => by kernel_rfl
  z3 := fun _ => by kernel_rfl
  v3 := fun _ => by kernel_rfl
  i3 := by kernel_rfl
  t4 := by kernel_rfl
  a4 := fun _ => by kernel_rfl
  z4 := fun _ => by kernel_rfl
  v4 := fun _ => by kernel_rfl
  i4 := by kernel_rfl
  t5 := by kernel_rfl
  a5 := fun _ => by kernel_rfl
  z5 := fun _ => by kernel_rfl
  v5 := fun _ => by kernel_rfl
  i5 := by kernel_rfl
  t12 := by kernel_rfl
  a12 := fun _ => by kernel_rfl
  z12 := fun _ => by kernel_rfl
  v12 := fun _ => by kernel_rfl
  i12 := by kernel_rfl
  t17 := by kernel_rfl
  a17 := fun _ => by kernel_rfl
  z17 := fun _ => by kernel_rfl
  v17 := fun _ => by kernel_rfl
  i17 := by kernel_rfl
  t20 := by kernel_rfl
  a20 := fun _ => by kernel_rfl
  z20 := fun _ => by kernel_rfl
  v20 := fun _ => by kernel_rfl
  i20 := by kernel_rfl
  t26 := by kernel_rfl
  a26 := fun _ => by kernel_rfl
  z26 := fun _ => by kernel_rfl
  v26 := fun _ => by kernel_rfl
  i26 := by kernel_rfl
  t33 := by kernel_rfl
  a33 := fun _ => by kernel_rfl
  z33 := fun _ => by kernel_rfl
  v33 := fun _ => by kernel_rfl
  i33 := by kernel_rfl
  t34 := by kernel_rfl
  a34 := fun _ => by kernel_rfl
  z34 := fun _ => by kernel_rfl
  v34 := fun _ => by kernel_rfl
  i34 := by kernel_rfl
  t36 := by kernel_rfl
  a36 := fun _ => by kernel_rfl
  z36 := fun _ => by kernel_rfl
  v36 := fun _ => by kernel_rfl
  i36 := by kernel_rfl
  t38 := by kernel_rfl
  a38 := fun _ => by kernel_rfl
  z38 := fun _ => by kernel_rfl
  v38 := fun _ => by kernel_rfl
  i38 := by kernel_rfl
  t42 := by kernel_rfl
  a42 := fun _ => by kernel_rfl
  z42 := fun _ => by kernel_rfl
  v42 := fun _ => by kernel_rfl
  i42 := by kernel_rfl
  t47 := by kernel_rfl
  a47 := fun _ => by kernel_rfl
  z47 := fun _ => by kernel_rfl
  v47 := fun _ => by kernel_rfl
  i47 := by kernel_rfl
  t56 := by kernel_rfl
  a56 := fun _ => by kernel_rfl
  z56 := fun _ => by kernel_rfl
  v56 := fun _ => by kernel_rfl
  i56 := by kernel_rfl
  t82 := by kernel_rfl
  a82 := fun _ => by kernel_rfl
  z82 := fun _ => by kernel_rfl
  v82 := fun _ => by kernel_rfl
  i82 := by kernel_rfl
  t83 := by kernel_rfl
  a83 := fun _ => by kernel_rfl
  z83 := fun _ => by kernel_rfl
  v83 := fun _ => by kernel_rfl
  i83 := by kernel_rfl
  t84 := by kernel_rfl
  a84 := fun _ => by kernel_rfl
  z84 := fun _ => by kernel_rfl
  v84 := fun _ => by kernel_rfl
  i84 := by kernel_rfl
  t85 := by kernel_rfl
  a85 := fun _ => by kernel_rfl
  z85 := fun _ => by kernel_rfl
  v85 := fun _ => by kernel_rfl
  i85 := by kernel_rfl
  t86 := by kernel_rfl
  a86 := fun _ => by kernel_rfl
  z86 := fun _ => by kernel_rfl
  v86 := fun _ => by kernel_rfl
  i86 := by kernel_rfl
  t87 := by kernel_rfl
  a87 := fun _ => by kernel_rfl
  z87 := fun _ => by kernel_rfl
  v87 := fun _ => by kernel_rfl
  i87 := by kernel_rfl
  t89 := by kernel_rfl
  a89 := fun _ => by kernel_rfl
  z89 := fun _ => by kernel_rfl
  v89 := fun _ => by kernel_rfl
  i89 := by kernel_rfl }

end Go.Proofs.Ytidkejmphhpjlaa.Wk
