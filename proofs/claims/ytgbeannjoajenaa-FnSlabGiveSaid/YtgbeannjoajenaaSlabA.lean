/- What ClassSize returns, in the program and in the reference, for every class. Conditions: none. -/
import Derived.Test.YtgbeannjoajenaaFr
import Derived.Outline
import Derived.Lib.Hide
namespace Go.Proofs.Ytgbeannjoajenaa.Wk
open Go.RowKit

/-- The size of a place. -/
def csz (c : Int) : Int := if c = 0 then 1 else if c = 1 then 2 else if c = 2 then 3 else if c = 3 then 4 else if c = 4 then 6 else if c = 5 then 8 else if c = 6 then 12 else if c = 7 then 16 else -1

theorem csz_out {c : Int} (h : c < 0 ∨ 7 < c) : csz c = -1 := by
  unfold csz; rw [if_neg (by omega), if_neg (by omega), if_neg (by omega), if_neg (by omega), if_neg (by omega), if_neg (by omega), if_neg (by omega), if_neg (by omega)]

/-- The reference's ClassSize. It lays a block, so the world grows. -/
theorem sClassSize (c : Int) (w : World) : Calls Try.prog 14 #[.int .i64 c] w fun e w' => e = .returned (.int .i64 (csz c)) ∧ Below w.heap.size w w' := by
  by_cases h : c < 0 ∨ 7 < c
  · have hd : decide ((0 : Int) ≤ c ∧ c ≤ 7) = false := by simp; omega
    rw [csz_out h]
    clear h
    go_enter Try.func14, Try.ntmps14
    go_wp2_with (refine (l1In_any _ _ _ _).mono ?_; rintro e w' ⟨rfl, rfl⟩)
    go_ret
    exact ⟨rfl, Below.refl _ _⟩
  · have hc : c = 0 ∨ c = 1 ∨ c = 2 ∨ c = 3 ∨ c = 4 ∨ c = 5 ∨ c = 6 ∨ c = 7 := by omega
    clear h
    rcases hc with rfl | rfl | rfl | rfl | rfl | rfl | rfl | rfl
    all_goals
      go_enter Try.func14, Try.ntmps14
      go_wp2_with (refine (l1In_any _ _ _ _).mono ?_; rintro e w' ⟨rfl, rfl⟩)
      go_ret
      exact ⟨rfl, (Below.refl _ _).alloc (Nat.le_refl _) _⟩

/-- The program's ClassSize. -/
theorem iClassSize (c : Int) (w : World) : Calls Try.prog 15 #[.int .i64 c] w fun e w' => e = .returned (.int .i64 (csz c)) ∧ w = w' := by
  by_cases h : c < 0 ∨ 7 < c
  · rw [csz_out h]
    rcases h with h | h
    all_goals
      go_enter Try.func15, Try.ntmps15
      go_wp2
      go_ret
      exact ⟨rfl, rfl⟩
  · have hc : c = 0 ∨ c = 1 ∨ c = 2 ∨ c = 3 ∨ c = 4 ∨ c = 5 ∨ c = 6 ∨ c = 7 := by omega
    have hi : ∀ w : World, (Instr.index 43 (.agg #[.int .i64 1, .int .i64 2, .int .i64 3, .int .i64 4, .int .i64 6, .int .i64 8, .int .i64 12, .int .i64 16]) (.int .i64 c)).run Try.prog w = .ok (.int .i64 (csz c)) w := by
      intro w
      rcases hc with rfl | rfl | rfl | rfl | rfl | rfl | rfl | rfl <;> kernel_rfl
    have h0 : 0 ≤ c := by omega
    have h7 : c ≤ 7 := by omega
    clear h hc
    go_enter Try.func15, Try.ntmps15
    go_wp2
    go_ret
    exact ⟨rfl, rfl⟩

theorem FnExactClassSize_walk {c : Int} (_h : (Lit.int .i64 c).wf = true) {w : World} : Calls Try.prog 4 #[.int .i64 c] w fun e w' => e = .returned (.bool true) ∧ Below w.heap.size w w' := by
  go_enter Try.func4, Try.ntmps4
  go_wp2_with fail
  refine (sClassSize _ _).mono ?_
  rintro e w1 ⟨rfl, hb⟩
  go_wp2_with fail
  refine (iClassSize _ _).mono ?_
  rintro e w2 ⟨rfl, rfl⟩
  go_wp2
  go_ret
  exact ⟨rfl, hb⟩

end Go.Proofs.Ytgbeannjoajenaa.Wk
