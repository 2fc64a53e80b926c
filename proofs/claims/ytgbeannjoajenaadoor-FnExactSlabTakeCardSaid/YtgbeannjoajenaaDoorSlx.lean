/- The exact law of SlabTake: the walk. Conditions: the library's table holds what its text lays. -/
import Derived.Test.YtgbeannjoajenaaDoorSlt
namespace Go.Proofs.YtgbeannjoajenaaDoor.Wk
open Go.RowKit

set_option maxHeartbeats 1000000 in
theorem FnExactSlabTake_walk {c u : Int} (_h : (Lit.int .i64 c).wf = true) (_h' : (Lit.int .i64 u).wf = true) {w : World} (hT : Tab w) : Calls Tryd.prog 3 #[.agg #[.int .i64 c, .int .i64 u]] w fun e w' => e = .returned (.bool true) ∧ Below w.heap.size w w' := by
  obtain ⟨c', u', p, b, hI, hS⟩ := tks_any c u
  have HI := Lib.hid hI
  have HS := Lib.hid hS
  have HT := Lib.hid hT
  clear hI hS hT
  go_enter Tryd.func3, Tryd.ntmps3
  go_wp2_with fail
  refine (toSlab_any c u _).mono ?_
  rintro e w1 ⟨rfl, b1⟩
  have q1 := bcell b1
  have B1 := ((Below.refl w.heap.size w).alloc (Nat.le_refl _) _).trans (b1.mono (by simp))
  have z1 : w.heap.size < w1.heap.size := by have := b1.size; simp at this; omega
  go_wp2_with fail
  refine (HS.out _).mono ?_
  rintro e w2 ⟨rfl, b2⟩
  have q2 := bcell b2
  have B2 := B1.trans (b2.mono B1.size)
  have z2 := b2.size
  have z2' : w.heap.size < w2.heap.size := by omega
  go_wp2_with fail
  refine (toSlab_any c u _).mono ?_
  rintro e w3 ⟨rfl, b3⟩
  have q3 := bcell b3
  have B3 := (B2.alloc B2.size _).trans (b3.mono (by have := B2.size; simp; omega))
  have z3 : w2.heap.size < w3.heap.size := by have := b3.size; simp at this; omega
  go_wp2_with fail
  refine (HI.out _ (HT.out.below B3 HT.out.1)).mono ?_
  rintro e w4 ⟨rfl, b4⟩
  have q4 := bcell b4
  have B4 := B3.trans (b4.mono B3.size)
  have z4 := b4.size
  have z4' : w2.heap.size < w4.heap.size := by omega
  go_wp2_with fail
  refine (eqSlab_same c' u' _).mono ?_
  rintro e w5 ⟨rfl, b5⟩
  have B5 := (B4.alloc B4.size _).trans (b5.mono (by have := B4.size; simp; omega))
  go_wp2
  go_ret
  exact ⟨by simp, B5⟩

end Go.Proofs.YtgbeannjoajenaaDoor.Wk
