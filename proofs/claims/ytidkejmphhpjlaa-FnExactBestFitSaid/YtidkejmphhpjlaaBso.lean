/- bySize: the free blocks by size. Conditions: valid blocks, at most 20 free ones. -/
import Derived.Test.YtidkejmphhpjlaaSst
import Derived.Test.YtidkejmphhpjlaaBs
import Derived.Test.YtidkejmphhpjlaaOpen
import Derived.Test.YtidkejmphhpjlaaExl
import Derived.Test.YtidkejmphhpjlaaApx
import Derived.Deep.RegionLaw
import Derived.Deep.QuietTactic
import Derived.BigQuiet
namespace Go.Proofs.Ytidkejmphhpjlaa.Wk
open Go.RowKit Go.Proofs.Ytidkejmphhpjlaa.Pl

noncomputable def siT : TypeInfo := (Try.prog.info? 50).get (by kernel_rfl)
noncomputable def siE : TypeInfo := (Try.prog.info? 3).get (by kernel_rfl)
theorem siK (n : Nat) (h2 : 2 ≤ n) : Lib.swapperK n siE 2 = 5 := by
  have a : siE.hasPointers = false := by kernel_rfl
  have b : siE.bytes = 8 := by kernel_rfl
  have c : (n == 0) = false := by simp; omega
  have d : (n == 1) = false := by simp; omega
  simp [Lib.swapperK, a, b, c, d]

/-- The closure of bySize: is the one block smaller than the other? -/
theorem less_by (g1 g3 b off n c bi oi m ci i j x y : Nat) (s t : Int) (W : World) (h1 : W.cell? ⟨g1, 0, none⟩ = some (.slice (some ⟨b, off, none⟩) n c)) (h3 : W.cell? ⟨g3, 0, none⟩ = some (.slice (some ⟨bi, oi, none⟩) m ci))
    (hi : W.cell? ⟨bi, oi + i, none⟩ = some (.int .i64 x)) (hj : W.cell? ⟨bi, oi + j, none⟩ = some (.int .i64 y)) (hx : W.cell? ⟨b, off + x * 3 + 1, none⟩ = some (.int .i64 s)) (hy : W.cell? ⟨b, off + y * 3 + 1, none⟩ = some (.int .i64 t))
    (li : i < m) (lj : j < m) (lx : x < n) (ly : y < n) :
    Calls Try.prog 53 #[.int .i64 i, .int .i64 j, .pointer (some ⟨g1, 0, none⟩), .pointer (some ⟨g3, 0, none⟩)] W fun e w' => e = .returned (.bool (decide (s < t))) ∧ ∃ q, w' = W.drewN q := by
  have a1 : (0 : Int) ≤ (i : Int) := by omega
  have a2 : (i : Int) < (m : Int) := by omega
  have a3 : (0 : Int) ≤ (j : Int) := by omega
  have a4 : (j : Int) < (m : Int) := by omega
  have a5 : (0 : Int) ≤ (x : Int) := by omega
  have a6 : (x : Int) < (n : Int) := by omega
  have a7 : (0 : Int) ≤ (y : Int) := by omega
  have a8 : (y : Int) < (n : Int) := by omega
  go_enter Try.func53, Try.ntmps53
  go_wp2
  go_quiet (fail)
  go_wp2
  go_ret
  exact ⟨rfl, nq, rfl⟩

/-- The closure of BestFit: is the block large enough? -/
theorem less_big (g1 g2 g3 b off n c bi oi m ci i x : Nat) (s z : Int) (W : World) (h1 : W.cell? ⟨g1, 0, none⟩ = some (.slice (some ⟨b, off, none⟩) n c)) (h2 : W.cell? ⟨g2, 0, none⟩ = some (.slice (some ⟨bi, oi, none⟩) m ci)) (h3 : W.cell? ⟨g3, 0, none⟩ = some (.int .i64 z))
    (hi : W.cell? ⟨bi, oi + i, none⟩ = some (.int .i64 x)) (hx : W.cell? ⟨b, off + x * 3 + 1, none⟩ = some (.int .i64 s)) (li : i < m) (lx : x < n) :
    Calls Try.prog 47 #[.int .i64 i, .pointer (some ⟨g1, 0, none⟩), .pointer (some ⟨g2, 0, none⟩), .pointer (some ⟨g3, 0, none⟩)] W fun e w' => e = .returned (.bool (decide (z ≤ s))) ∧ ∃ q os, w' = Go.Sort.grow (W.drewN q) os := by
  have a1 : (0 : Int) ≤ (i : Int) := by omega
  have a2 : (i : Int) < (m : Int) := by omega
  have a5 : (0 : Int) ≤ (x : Int) := by omega
  have a6 : (x : Int) < (n : Int) := by omega
  go_enter Try.func47, Try.ntmps47
  go_wp2
  go_quiet (fail)
  go_wp2
  go_ret
  exact ⟨rfl, _, #[], (Go.Sort.grow_empty _).symm⟩

end Go.Proofs.Ytidkejmphhpjlaa.Wk
