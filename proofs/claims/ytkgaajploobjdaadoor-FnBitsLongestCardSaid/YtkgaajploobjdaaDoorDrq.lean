/- l20Many: a number of words is drawn. Conditions: none. -/
import Derived.Test.YtkgaajploobjdaaDoorDrm
import Derived.Deep.RegionWith
import Derived.Deep.DrawnRows
import Derived.RegionTactic
namespace Go.Proofs.YtkgaajploobjdaaDoor.Wb
open Go.RowKit Go.Proofs.YtkgaajploobjdaaDoor.Pl Go.Proofs.YtkgaajploobjdaaDoor.Wk

attribute [local go_sem ↓] Go.wp_at_zero Go.wp_at_succ

/-- The second pick of l20Many, and what the two tables hold then. -/
theorem many8 (x : Int) (g q : Nat) (w W : World) (h : Dr g q w W) (hq : q ≤ 1000000) : Calls Tryd.prog 26 #[.pointer (some ⟨g, 0, none⟩), .int .i64 8] W fun e w' =>
    ∃ (k j : Nat) (v : Int), e = .returned (.int .i64 k) ∧ (0 : Int) ≤ (k : Int) ∧ (k : Int) < 8 ∧ (0 : Int) ≤ (j : Int) ∧ (j : Int) < 4 ∧
      (#[.int .i64 0, .int .i64 0, .int .i64 0, .int .i64 0, .int .i64 0, .int .i64 1, .int .i64 2, .int .i64 3] : Array Value)[k]? = some (.int .i64 j) ∧ (#[.int .i64 (1 + x), .int .i64 0, .int .i64 64, .int .i64 65] : Array Value)[j]? = some (.int .i64 v) ∧
      Dr g (q + 1) w w' ∧ (∀ b o, b ≠ g → w'.cell? ⟨b, o, none⟩ = W.cell? ⟨b, o, none⟩) ∧ w'.heap.size = W.heap.size := by
  refine (pick_dr g q 8 w W h hq).mono ?_
  rintro e w' ⟨a, rfl, h0, h1, d, hc, hs⟩
  obtain ⟨k, rfl⟩ := Int.eq_ofNat_of_zero_le h0
  have hk : k = 0 ∨ k = 1 ∨ k = 2 ∨ k = 3 ∨ k = 4 ∨ k = 5 ∨ k = 6 ∨ k = 7 := by omega
  rcases hk with rfl | rfl | rfl | rfl | rfl | rfl | rfl | rfl
  · exact ⟨0, 0, 1 + x, rfl, by omega, by omega, by omega, by omega, rfl, rfl, d, hc, hs⟩
  · exact ⟨1, 0, 1 + x, rfl, by omega, by omega, by omega, by omega, rfl, rfl, d, hc, hs⟩
  · exact ⟨2, 0, 1 + x, rfl, by omega, by omega, by omega, by omega, rfl, rfl, d, hc, hs⟩
  · exact ⟨3, 0, 1 + x, rfl, by omega, by omega, by omega, by omega, rfl, rfl, d, hc, hs⟩
  · exact ⟨4, 0, 1 + x, rfl, by omega, by omega, by omega, by omega, rfl, rfl, d, hc, hs⟩
  · exact ⟨5, 1, 0, rfl, by omega, by omega, by omega, by omega, rfl, rfl, d, hc, hs⟩
  · exact ⟨6, 2, 64, rfl, by omega, by omega, by omega, by omega, rfl, rfl, d, hc, hs⟩
  · exact ⟨7, 3, 65, rfl, by omega, by omega, by omega, by omega, rfl, rfl, d, hc, hs⟩

set_option maxRecDepth 100000 in
set_option maxHeartbeats 4000000 in
theorem l20Many_any (g q : Nat) (w : World) (h : Rg w g q) (hq : q ≤ 800000) :
    Calls Tryd.prog 22 #[.pointer (some ⟨g, 0, none⟩)] w fun e w' => ∃ z : Int, e = .returned (.int .i64 z) ∧ Dr g (q + 2) w w' := by
  have hg := h.lt
  have D1 := Dr.refl h
  clear h
  go_enter Tryd.func22, Tryd.ntmps22
  go_wp2_with fail
  refine (pick_dr g q 6 w _ D1 (by omega)).mono ?_
  rintro e w2 ⟨x2, rfl, a2, b2, D2, hc2, hz2⟩
  have b3 : x2 ≤ 5 := by omega
  have u1 : ¬ w2.heap.size = g := by omega
  have u2 : ¬ w2.heap.size + 1 = g := by omega
  clear b2 hc2 hz2
  go_wp2_with fail
  refine (many8 x2 g (q + 1) w _ (by first | exact D2 | exact D2.alloc _ | exact (D2.alloc _).alloc _) (by omega)).mono ?_
  rintro e w4 ⟨k4, j4, v4, rfl, m1, m2, m3, m4, m5, m6, D4, hc4, hz4⟩
  have T1 := Bk.new w2 #[.int .i64 (1 + x2), .int .i64 0, .int .i64 64, .int .i64 65] 3
  have T2 := Bk.new (w2.alloc (.cells #[.int .i64 (1 + x2), .int .i64 0, .int .i64 64, .int .i64 65] 3)) #[.int .i64 0, .int .i64 0, .int .i64 0, .int .i64 0, .int .i64 0, .int .i64 1, .int .i64 2, .int .i64 3] 3
  have d1 := (hc4 w2.heap.size j4 u1).trans (((T1.alloc _).cell j4).trans m6)
  have d2 := (hc4 (w2.heap.size + 1) k4 u2).trans (((by simpa using T2 : Bk _ (w2.heap.size + 1) _ _).cell k4).trans m5)
  clear T1 T2 hc4 hz4 m5 m6
  go_wp2
  go_ret
  exact ⟨_, rfl, D4⟩

end Go.Proofs.YtkgaajploobjdaaDoor.Wb
