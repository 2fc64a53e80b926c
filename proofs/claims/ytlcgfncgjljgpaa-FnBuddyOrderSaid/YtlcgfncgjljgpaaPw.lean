/- PowerFor, of the program and of the reference. Conditions: none. -/
import Derived.Test.YtlcgfncgjljgpaaBfi
import Derived.Test.YtlcgfncgjljgpaaBud
import Derived.Lib.Strings
import Derived.Lib.Small
import Derived.Lib.BitFns
namespace Go.Proofs.Ytlcgfncgjljgpaa.Wu
open Go.RowKit Go.Proofs.Ytlcgfncgjljgpaa.Pl Go.Proofs.Ytlcgfncgjljgpaa.Wk

set_option maxHeartbeats 4000000 in
set_option maxRecDepth 100000 in
theorem len64_any (x : Int) (w : World) (h0 : 0 ≤ x) (h : x ≤ 255) : Calls Try.prog 51 #[.int .u64 x] w fun e w' => e = .returned (.int .i64 (Lib.bitLen x.toNat)) ∧ w = w' := by
  go_enter Try.func51, Try.ntmps51
  go_wp2
  go_ret
  refine ⟨congrArg Ending.returned (congrArg (Value.int IntKind.i64) ?_), rfl⟩
  show wrap64 (wrap64 (Lib.len8 x)) = _
  rw [Lib.len8_of x h0 h]
  have l := Lib.bitLen_le8' x h0 h
  simp only [wrap64]
  omega

theorem len_any (x : Int) (w : World) (h0 : 0 ≤ x) (h : x ≤ 255) : Calls Try.prog 39 #[.int .u64 x] w fun e w' => e = .returned (.int .i64 (Lib.bitLen x.toNat)) ∧ w = w' := by
  go_enter Try.func39, Try.ntmps39
  go_wp2_with (refine (len64_any x _ h0 h).mono ?_; rintro e w' ⟨rfl, rfl⟩)
  go_ret
  exact ⟨rfl, rfl⟩

/-- The least order that is large enough; -1 for other numbers. -/
def PFor (z r : Int) : Prop := (¬ (1 ≤ z ∧ z ≤ 256) ∧ r = -1) ∨ (1 ≤ z ∧ z ≤ 256 ∧ 0 ≤ r ∧ r ≤ 8 ∧ z ≤ pw r ∧ (r = 0 ∨ pw (r - 1) < z))

theorem PFor_uniq {z r r' : Int} (h : PFor z r) (h' : PFor z r') : r = r' := by
  rcases h with ⟨h1, rfl⟩ | ⟨a1, a2, a3, a4, a5, a6⟩ <;> rcases h' with ⟨h1', rfl⟩ | ⟨b1, b2, b3, b4, b5, b6⟩
  · rfl
  · exact absurd ⟨b1, b2⟩ h1
  · exact absurd ⟨a1, a2⟩ h1'
  · rcases Int.lt_trichotomy r r' with h | h | h
    · have := pw_le (y := r) (z := r' - 1) a3 (by omega)
      omega
    · exact h
    · have := pw_le (y := r') (z := r - 1) b3 (by omega)
      omega
theorem bitLen_tab : ∀ m : Fin 256, (m.val : Int) + 1 ≤ pw (Lib.bitLen m.val) ∧ Lib.bitLen m.val ≤ 8 ∧ ((Lib.bitLen m.val : Int) = 0 ∨ pw ((Lib.bitLen m.val : Int) - 1) < (m.val : Int) + 1) := by decide +kernel
theorem PFor_len {z : Int} (h : 1 ≤ z ∧ z ≤ 256) : PFor z (Lib.bitLen (z - 1).toNat) := by
  obtain ⟨h1, h2, h3⟩ := bitLen_tab ⟨(z - 1).toNat, by omega⟩
  have e : (((z - 1).toNat : Nat) : Int) + 1 = z := by omega
  simp only [e] at h1 h3
  exact .inr ⟨h.1, h.2, by omega, by simp only at h2; omega, h1, h3⟩
theorem PFor_ex (z : Int) : ∃ r, PFor z r := by
  by_cases h : 1 ≤ z ∧ z ≤ 256
  · exact ⟨_, PFor_len h⟩
  · exact ⟨-1, .inl ⟨h, rfl⟩⟩

theorem wrap_tab : ∀ k : Fin 10, wrap64 (2 ^ k.val) = 2 ^ k.val := by decide +kernel
theorem wrap_pw {k : Nat} (h : k ≤ 8) : wrap64 (2 ^ k) = pw (k : Int) := by
  have := wrap_tab ⟨k, by omega⟩
  simp only at this
  rw [this]; unfold pw; simp

theorem isTotal_any (n : Int) (w : World) : Calls Try.prog 38 #[.int .i64 n] w fun e w' => e = .returned (.bool (decide (1 ≤ n ∧ n ≤ 256))) ∧ w = w' := by
  by_cases h1 : 1 ≤ n <;> by_cases h2 : n ≤ 256
  all_goals
    go_enter Try.func38, Try.ntmps38
    go_wp2
    go_ret
    exact ⟨by simp [h1, h2], rfl⟩

theorem iPower_any (z r : Int) (w : World) (h : PFor z r) : Calls Try.prog 16 #[.int .i64 z] w fun e w' => e = .returned (.int .i64 r) ∧ w = w' := by
  by_cases hz : 1 ≤ z ∧ z ≤ 256
  · have HR := Lib.hid (PFor_uniq h (PFor_len hz))
    have hd : decide (1 ≤ z ∧ z ≤ 256) = true := by simpa using hz
    obtain ⟨z1, z2⟩ := hz
    clear h
    go_enter Try.func16, Try.ntmps16
    go_wp2_with (first
      | (with_reducible refine (isTotal_any _ _).mono ?_; rintro e w' ⟨rfl, rfl⟩)
      | (refine (len_any (z - 1) _ (by omega) (by omega)).mono ?_; rintro e w' ⟨rfl, rfl⟩))
    go_ret
    exact ⟨by rw [HR.out, show (z - 1).toNat = z.toNat - 1 by omega]; rfl, rfl⟩
  · have HR := Lib.hid (PFor_uniq h (.inl ⟨hz, rfl⟩))
    have hd : decide (1 ≤ z ∧ z ≤ 256) = false := by simpa using hz
    clear h hz
    go_enter Try.func16, Try.ntmps16
    go_wp2_with (with_reducible refine (isTotal_any _ _).mono ?_; rintro e w' ⟨rfl, rfl⟩)
    go_ret
    exact ⟨by rw [HR.out]; rfl, rfl⟩

theorem sPower_any (z r : Int) (w : World) (h : PFor z r) : Calls Try.prog 15 #[.int .i64 z] w fun e w' => e = .returned (.int .i64 r) ∧ w = w' := by
  by_cases hz : 1 ≤ z ∧ z ≤ 256
  · have HP := Lib.hid h
    have hd : decide (1 ≤ z ∧ z ≤ 256) = true := by simpa using hz
    obtain ⟨z1, z2⟩ := hz
    clear h
    go_enter Try.func15, Try.ntmps15
    go_wp2_with (with_reducible refine (l1In_any _ _ _ _).mono ?_; rintro e w' ⟨rfl, rfl⟩)
    go_loop [3] (fun i => ∃ k : Nat, k ≤ 8 ∧ i = .int .i64 k ∧ (k = 0 ∨ pw ((k : Int) - 1) < z)) (fun i => 9 - (intOf i).toNat)
    case atStart => exact ⟨0, by omega, rfl, .inl rfl⟩
    case round =>
      obtain ⟨k, hk, rfl, ha⟩ := hrel
      have hw := wrap_pw hk
      by_cases hlt : pw (k : Int) < z
      · have hk8 : k < 8 := by
          have h8 : pw ((8 : Nat) : Int) = 256 := rfl
          by_cases e : k = 8
          · subst e; omega
          · omega
        go_wp2
        go_round
        case rel => exact ⟨k + 1, by omega, by go_num, .inr (by rw [show ((k + 1 : Nat) : Int) - 1 = (k : Int) by omega]; exact hlt)⟩
        case measure => simp [intOf]; omega
      · have HR := Lib.hid (PFor_uniq HP.out (.inr ⟨z1, z2, by omega, by omega, by omega, by omega⟩ : PFor z k))
        clear ha
        go_wp2
        go_ret
        exact ⟨by rw [HR.out]; rfl, rfl⟩
  · have HR := Lib.hid (PFor_uniq h (.inl ⟨hz, rfl⟩))
    have hd : decide (1 ≤ z ∧ z ≤ 256) = false := by simpa using hz
    clear h hz
    go_enter Try.func15, Try.ntmps15
    go_wp2_with (with_reducible refine (l1In_any _ _ _ _).mono ?_; rintro e w' ⟨rfl, rfl⟩)
    go_ret
    exact ⟨by rw [HR.out]; rfl, rfl⟩

end Go.Proofs.Ytlcgfncgjljgpaa.Wu
