/- Slabs: both SlabGives agree; the exact law's walk. Conditions: none. -/
import Derived.Test.YtgbeannjoajenaaSlabE
namespace Go.Proofs.Ytgbeannjoajenaa.Wk
open Go.RowKit

/-- What SlabGive hands back, in the program and in the reference. -/
def Gives (c u p c' u' : Int) (b : Bool) : Prop :=
  (∀ w : World, Calls Try.prog 22 #[.agg #[.int .i64 c, .int .i64 u], .int .i64 p] w fun e w' => e = .returned (.tuple #[.agg #[.int .i64 c', .int .i64 u'], .bool b]) ∧ Below w.heap.size w w') ∧
  (∀ w : World, Calls Try.prog 21 #[.agg #[.int .i64 c, .int .i64 u], .int .i64 p] w fun e w' => e = .returned (.tuple #[.agg #[.int .i64 c', .int .i64 u'], .bool b]) ∧ Below w.heap.size w w')

theorem gives_inv (c u p : Int) (h : ¬ SV c u) : Gives c u p 0 0 false := ⟨fun w => iGive_inv c u p w h, fun w => sGive_inv c u p w h⟩
theorem gives_out (c u p : Int) (h : SV c u) (hp : p < 0 ∨ 7 < p) : Gives c u p c u false := ⟨fun w => iGive_out c u p w h hp, fun w => sGive_out c u p w h hp⟩
/-- The place is used: it becomes free. -/
theorem gives_yes (c u : Int) (h : SV c u) (p : Nat) (hp : p < 8) (hb : u / 2 ^ p % 2 = 1) : Gives c u p c (u - 2 ^ p) true := by
  have hc : p = 0 ∨ p = 1 ∨ p = 2 ∨ p = 3 ∨ p = 4 ∨ p = 5 ∨ p = 6 ∨ p = 7 := by omega
  rcases hc with rfl | rfl | rfl | rfl | rfl | rfl | rfl | rfl
  · exact ⟨fun w => iGive_yes0 c u w h (by simpa using hb), fun w => sGive_yes0 c u w h (by simpa using hb)⟩
  · exact ⟨fun w => iGive_yes1 c u w h (by simpa using hb), fun w => sGive_yes1 c u w h (by simpa using hb)⟩
  · exact ⟨fun w => iGive_yes2 c u w h (by simpa using hb), fun w => sGive_yes2 c u w h (by simpa using hb)⟩
  · exact ⟨fun w => iGive_yes3 c u w h (by simpa using hb), fun w => sGive_yes3 c u w h (by simpa using hb)⟩
  · exact ⟨fun w => iGive_yes4 c u w h (by simpa using hb), fun w => sGive_yes4 c u w h (by simpa using hb)⟩
  · exact ⟨fun w => iGive_yes5 c u w h (by simpa using hb), fun w => sGive_yes5 c u w h (by simpa using hb)⟩
  · exact ⟨fun w => iGive_yes6 c u w h (by simpa using hb), fun w => sGive_yes6 c u w h (by simpa using hb)⟩
  · exact ⟨fun w => iGive_yes7 c u w h (by simpa using hb), fun w => sGive_yes7 c u w h (by simpa using hb)⟩
/-- The place is free: nothing changes. -/
theorem gives_no (c u : Int) (h : SV c u) (p : Nat) (hp : p < 8) (hb : u / 2 ^ p % 2 = 0) : Gives c u p c u false := by
  have hc : p = 0 ∨ p = 1 ∨ p = 2 ∨ p = 3 ∨ p = 4 ∨ p = 5 ∨ p = 6 ∨ p = 7 := by omega
  rcases hc with rfl | rfl | rfl | rfl | rfl | rfl | rfl | rfl
  · exact ⟨fun w => iGive_no0 c u w h (by simpa using hb), fun w => sGive_no0 c u w h (by simpa using hb)⟩
  · exact ⟨fun w => iGive_no1 c u w h (by simpa using hb), fun w => sGive_no1 c u w h (by simpa using hb)⟩
  · exact ⟨fun w => iGive_no2 c u w h (by simpa using hb), fun w => sGive_no2 c u w h (by simpa using hb)⟩
  · exact ⟨fun w => iGive_no3 c u w h (by simpa using hb), fun w => sGive_no3 c u w h (by simpa using hb)⟩
  · exact ⟨fun w => iGive_no4 c u w h (by simpa using hb), fun w => sGive_no4 c u w h (by simpa using hb)⟩
  · exact ⟨fun w => iGive_no5 c u w h (by simpa using hb), fun w => sGive_no5 c u w h (by simpa using hb)⟩
  · exact ⟨fun w => iGive_no6 c u w h (by simpa using hb), fun w => sGive_no6 c u w h (by simpa using hb)⟩
  · exact ⟨fun w => iGive_no7 c u w h (by simpa using hb), fun w => sGive_no7 c u w h (by simpa using hb)⟩

theorem gives_any (c u p : Int) : ∃ c' u' b, Gives c u p c' u' b := by
  by_cases h : SV c u
  · by_cases hp : p < 0 ∨ 7 < p
    · exact ⟨_, _, _, gives_out c u p h hp⟩
    · obtain ⟨q, rfl⟩ := Int.eq_ofNat_of_zero_le (show 0 ≤ p by omega)
      rcases (show u / 2 ^ q % 2 = 0 ∨ u / 2 ^ q % 2 = 1 by omega) with hb | hb
      · exact ⟨_, _, _, gives_no c u h q (by omega) hb⟩
      · exact ⟨_, _, _, gives_yes c u h q (by omega) hb⟩
  · exact ⟨_, _, _, gives_inv c u p h⟩

theorem FnExactSlabGive_walk {c u : Int} (_h : (Lit.int .i64 c).wf = true) (_h' : (Lit.int .i64 u).wf = true) {p : Int} (_h2 : (Lit.int .i64 p).wf = true) {w : World} : Calls Try.prog 7 #[.agg #[.int .i64 c, .int .i64 u], .int .i64 p] w fun e w' => e = .returned (.bool true) ∧ Below w.heap.size w w' := by
  obtain ⟨c', u', b, hI, hS⟩ := gives_any c u p
  have HI := Lib.hid hI
  have HS := Lib.hid hS
  clear hI hS
  go_enter Try.func7, Try.ntmps7
  go_wp2_with fail
  refine (toSlab_any c u _).mono ?_
  rintro e w1 ⟨rfl, b1⟩
  have q1 := bcell b1
  have B1 := ((Below.refl w.heap.size w).alloc (Nat.le_refl _) _).trans (b1.mono (by simp))
  have z1 : w.heap.size < w1.heap.size := by have := b1.size; simp at this; omega
  go_wp2_with fail
  refine (HS.out _).mono ?_
  rintro e w2 ⟨rfl, b2⟩
  have q2 := bcell b2
  have B2 := B1.trans (b2.mono B1.size)
  have z2 := b2.size
  have z2' : w.heap.size < w2.heap.size := by omega
  go_wp2_with fail
  refine (toSlab_any c u _).mono ?_
  rintro e w3 ⟨rfl, b3⟩
  have q3 := bcell b3
  have B3 := (B2.alloc B2.size _).trans (b3.mono (by have := B2.size; simp; omega))
  have z3 : w2.heap.size < w3.heap.size := by have := b3.size; simp at this; omega
  go_wp2_with fail
  refine (HI.out _).mono ?_
  rintro e w4 ⟨rfl, b4⟩
  have q4 := bcell b4
  have B4 := B3.trans (b4.mono B3.size)
  have z4 := b4.size
  have z4' : w2.heap.size < w4.heap.size := by omega
  go_wp2_with fail
  refine (eqSlab_same c' u' _).mono ?_
  rintro e w5 ⟨rfl, b5⟩
  have B5 := (B4.alloc B4.size _).trans (b5.mono (by have := B4.size; simp; omega))
  go_wp2
  go_ret
  exact ⟨by simp, B5⟩

end Go.Proofs.Ytgbeannjoajenaa.Wk
