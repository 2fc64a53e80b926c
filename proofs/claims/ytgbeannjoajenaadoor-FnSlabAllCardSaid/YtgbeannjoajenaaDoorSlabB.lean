/- Slabs: SlabValid, toSlab, eqSlab, ClassFor, SlabWaste, SlabGive, of the program and of the reference; the exact laws' walks. Conditions: none. -/
import Derived.Outline
import Derived.Lib.Hide
import Derived.Test.YtgbeannjoajenaaDoorFr
import Derived.RegionTactic
import Derived.ChangeAlike
namespace Go.Proofs.YtgbeannjoajenaaDoor.Wk
open Go.RowKit

theorem toSlab_any (c u : Int) (w : World) : Calls Tryd.prog 7 #[.agg #[.int .i64 c, .int .i64 u]] w fun e w' => e = .returned (.agg #[.int .i64 c, .int .i64 u]) ∧ Below w.heap.size w w' := by
  go_enter Tryd.func7, Tryd.ntmps7
  go_wp2
  exact bodyPost_ret (v := .agg #[.int .i64 c, .int .i64 u]) (by simp [results, Tryd.results7, go_sem]) rfl
    ⟨rfl, (((Below.refl _ _).alloc (Nat.le_refl _) _).alloc (by simp) _).alloc (by simp; omega) _⟩

theorem eqSlab_same (c u : Int) (w : World) : Calls Tryd.prog 9 #[.agg #[.int .i64 c, .int .i64 u], .agg #[.int .i64 c, .int .i64 u]] w fun e w' => e = .returned (.bool true) ∧ Below w.heap.size w w' := by
  go_enter Tryd.func9, Tryd.ntmps9
  go_wp2
  go_ret
  exact ⟨rfl, ((Below.refl _ _).alloc (Nat.le_refl _) _).alloc (by simp) _⟩

/-- A valid slab. -/
def SV (c u : Int) : Prop := 0 ≤ c ∧ c ≤ 7 ∧ 0 ≤ u ∧ u ≤ 255

theorem iSlabValid_yes (c u : Int) (w : World) (h : SV c u) : Calls Tryd.prog 14 #[.agg #[.int .i64 c, .int .i64 u]] w fun e w' => e = .returned (.bool true) ∧ Below w.heap.size w w' := by
  obtain ⟨h1, h2, h3, h4⟩ := h
  have hd : decide (u < 256) = true := by simp; omega
  go_enter Tryd.func14, Tryd.ntmps14
  go_wp2
  go_ret
  exact ⟨rfl, (Below.refl _ _).alloc (Nat.le_refl _) _⟩

theorem iSlabValid_no (c u : Int) (w : World) (h : ¬ SV c u) : Calls Tryd.prog 14 #[.agg #[.int .i64 c, .int .i64 u]] w fun e w' => e = .returned (.bool false) ∧ Below w.heap.size w w' := by
  have h' : c < 0 ∨ (0 ≤ c ∧ 7 < c) ∨ (0 ≤ c ∧ c ≤ 7 ∧ u < 0) ∨ (0 ≤ c ∧ c ≤ 7 ∧ 0 ≤ u ∧ 255 < u) := by unfold SV at h; omega
  clear h
  have hd : 255 < u → decide (u < 256) = false := by intro h; simp; omega
  rcases h' with h1 | ⟨h1, h2⟩ | ⟨h1, h2, h3⟩ | ⟨h1, h2, h3, h4⟩
  all_goals
    try have hd' := hd (by omega)
    clear hd
    go_enter Tryd.func14, Tryd.ntmps14
    go_wp2
    go_ret
    exact ⟨rfl, (Below.refl _ _).alloc (Nat.le_refl _) _⟩

theorem sSlabValid_yes (c u : Int) (w : World) (h : SV c u) : Calls Tryd.prog 11 #[.agg #[.int .i64 c, .int .i64 u]] w fun e w' => e = .returned (.bool true) ∧ Below w.heap.size w w' := by
  obtain ⟨h1, h2, h3, h4⟩ := h
  have d1 : decide ((0 : Int) ≤ c ∧ c ≤ 7) = true := by simp; omega
  have d2 : decide ((0 : Int) ≤ u ∧ u ≤ 255) = true := by simp; omega
  go_enter Tryd.func11, Tryd.ntmps11
  go_wp2_with (refine (l1In_any _ _ _ _).mono ?_; rintro e w' ⟨rfl, rfl⟩)
  go_ret
  exact ⟨rfl, (Below.refl _ _).alloc (Nat.le_refl _) _⟩

theorem sSlabValid_no (c u : Int) (w : World) (h : ¬ SV c u) : Calls Tryd.prog 11 #[.agg #[.int .i64 c, .int .i64 u]] w fun e w' => e = .returned (.bool false) ∧ Below w.heap.size w w' := by
  by_cases h1 : (0 : Int) ≤ c ∧ c ≤ 7
  · have d1 : decide ((0 : Int) ≤ c ∧ c ≤ 7) = true := by simpa using h1
    have d2 : decide ((0 : Int) ≤ u ∧ u ≤ 255) = false := by unfold SV at h; simp; omega
    clear h h1
    go_enter Tryd.func11, Tryd.ntmps11
    go_wp2_with (refine (l1In_any _ _ _ _).mono ?_; rintro e w' ⟨rfl, rfl⟩)
    go_ret
    exact ⟨rfl, (Below.refl _ _).alloc (Nat.le_refl _) _⟩
  · have d1 : decide ((0 : Int) ≤ c ∧ c ≤ 7) = false := by simpa using h1
    clear h h1
    go_enter Tryd.func11, Tryd.ntmps11
    go_wp2_with (refine (l1In_any _ _ _ _).mono ?_; rintro e w' ⟨rfl, rfl⟩)
    go_ret
    exact ⟨rfl, (Below.refl _ _).alloc (Nat.le_refl _) _⟩



end Go.Proofs.YtgbeannjoajenaaDoor.Wk
