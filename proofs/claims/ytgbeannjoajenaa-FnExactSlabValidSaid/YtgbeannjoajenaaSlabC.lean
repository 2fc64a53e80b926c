/- Slabs: the exact laws' walks. Conditions: none. -/
import Derived.Test.YtgbeannjoajenaaSlabB
namespace Go.Proofs.Ytgbeannjoajenaa.Wk
open Go.RowKit

theorem FnExactSlabValid_walk {c u : Int} (_h : (Lit.int .i64 c).wf = true) (_h' : (Lit.int .i64 u).wf = true) {w : World} : Calls Try.prog 5 #[.agg #[.int .i64 c, .int .i64 u]] w fun e w' => e = .returned (.bool true) ∧ Below w.heap.size w w' := by
  by_cases hv : SV c u
  · go_enter Try.func5, Try.ntmps5
    go_wp2_with fail
    refine (toSlab_any c u _).mono ?_
    rintro e w1 ⟨rfl, b1⟩
    have q1 := bcell b1
    have B1 := ((Below.refl w.heap.size w).alloc (Nat.le_refl _) _).trans (b1.mono (by simp))
    go_wp2_with fail
    refine (sSlabValid_yes c u _ hv).mono ?_
    rintro e w2 ⟨rfl, b2⟩
    have q2 := bcell b2
    have B2 := B1.trans (b2.mono B1.size)
    have hz1 : w.heap.size < w1.heap.size := by have := b1.size; simp at this; omega
    have hz2 := b2.size
    go_wp2_with fail
    refine (toSlab_any c u _).mono ?_
    rintro e w3 ⟨rfl, b3⟩
    have B3 := B2.trans (b3.mono B2.size)
    go_wp2_with fail
    refine (iSlabValid_yes c u _ hv).mono ?_
    rintro e w4 ⟨rfl, b4⟩
    have B4 := B3.trans (b4.mono B3.size)
    go_wp2
    go_ret
    exact ⟨rfl, B4⟩
  · go_enter Try.func5, Try.ntmps5
    go_wp2_with fail
    refine (toSlab_any c u _).mono ?_
    rintro e w1 ⟨rfl, b1⟩
    have q1 := bcell b1
    have B1 := ((Below.refl w.heap.size w).alloc (Nat.le_refl _) _).trans (b1.mono (by simp))
    go_wp2_with fail
    refine (sSlabValid_no c u _ hv).mono ?_
    rintro e w2 ⟨rfl, b2⟩
    have q2 := bcell b2
    have B2 := B1.trans (b2.mono B1.size)
    have hz1 : w.heap.size < w1.heap.size := by have := b1.size; simp at this; omega
    have hz2 := b2.size
    go_wp2_with fail
    refine (toSlab_any c u _).mono ?_
    rintro e w3 ⟨rfl, b3⟩
    have B3 := B2.trans (b3.mono B2.size)
    go_wp2_with fail
    refine (iSlabValid_no c u _ hv).mono ?_
    rintro e w4 ⟨rfl, b4⟩
    have B4 := B3.trans (b4.mono B3.size)
    go_wp2
    go_ret
    exact ⟨rfl, B4⟩

end Go.Proofs.Ytgbeannjoajenaa.Wk
