/- The laws PowerFor, BuddyWaste: their walks. Conditions: none. -/
import Derived.Test.YtlcgfncgjljgpaaPwd
namespace Go.Proofs.Ytlcgfncgjljgpaa.Wu
open Go.RowKit Go.Proofs.Ytlcgfncgjljgpaa.Pl Go.Proofs.Ytlcgfncgjljgpaa.Wk

/-- What is known of the least order, in plain Lean. -/
theorem PFor_facts {z r : Int} (h : PFor z r) : (r < 0 ∧ r = -1) ∨ ∃ k : Nat, r = k ∧ k ≤ 8 ∧ 1 ≤ z ∧ z ≤ 256 ∧ z ≤ pw k ∧ (k = 0 ∨ ∃ j : Nat, k = j + 1 ∧ pw j < z) ∧ pw k < 2 * z ∧ PFor (pw k) k := by
  rcases h with ⟨_, rfl⟩ | ⟨h1, h2, h3, h4, h5, h6⟩
  · exact .inl ⟨by omega, rfl⟩
  · obtain ⟨k, rfl⟩ := Int.eq_ofNat_of_zero_le h3
    have hp := pw_pos (k : Int)
    have hb := pw_bd h3 h4
    refine .inr ⟨k, rfl, by omega, h1, h2, h5, ?_, ?_, .inr ⟨hp, hb, h3, h4, Int.le_refl _, ?_⟩⟩
    · rcases h6 with h6 | h6
      · exact .inl (by omega)
      · cases k with
        | zero => exact .inl rfl
        | succ j => exact .inr ⟨j, rfl, by rw [show ((j + 1 : Nat) : Int) - 1 = (j : Int) by omega] at h6; exact h6⟩
    · rcases h6 with h6 | h6
      · rw [h6]; have : pw 0 = 1 := rfl
        omega
      · have e := pw_succ (z := (k : Int) - 1)
        cases k with
        | zero => have : pw ((0 : Nat) : Int) = 1 := rfl
                  omega
        | succ j =>
          have e := pw_succ (z := ((j + 1 : Nat) : Int) - 1) (by omega)
          rw [show ((j + 1 : Nat) : Int) - 1 + 1 = ((j + 1 : Nat) : Int) by omega] at e
          omega
    · cases k with
      | zero => exact .inl rfl
      | succ j =>
        have e := pw_succ (z := ((j + 1 : Nat) : Int) - 1) (by omega)
        rw [show ((j + 1 : Nat) : Int) - 1 + 1 = ((j + 1 : Nat) : Int) by omega] at e
        have := pw_pos (((j + 1 : Nat) : Int) - 1)
        exact .inr (by omega)

set_option maxHeartbeats 2000000 in
theorem FnPowerFor_walk {a : Option Addr} {len cap : Nat} {z : List Int} {w : World} (h : IsRow .u8 w a len cap z) : Calls Try.prog 6 #[.slice a len cap] w fun e w' => e = .returned (.bool true) ∧ Below w.heap.size w w' := by
  have hm := row_len h
  have HD := Lib.hid (dDrawPowerFor h)
  clear h
  by_cases hl : len ≤ 1048576
  · go_enter Try.func6, Try.ntmps6
    go_wp2_with fail
    refine HD.out.mono ?_
    rintro e w1 ⟨x, rfl, b1⟩
    obtain ⟨r, hr⟩ := PFor_ex x
    have HR := Lib.hid hr
    clear HD
    rcases PFor_facts hr with ⟨h1, h2⟩ | ⟨k, rfl, k8, x1, x2, x3, x4, x5, x6⟩
    · subst h2
      clear hr h1
      go_wp2_with (first
        | (with_reducible refine (sPower_any _ _ _ HR.out).mono ?_; rintro e w' ⟨rfl, rfl⟩)
        | (with_reducible refine (iPower_any _ _ _ HR.out).mono ?_; rintro e w' ⟨rfl, rfl⟩)
        | (with_reducible refine (alive_any _).mono ?_; rintro e w2 ⟨rfl, b2⟩))
      go_ret
      exact ⟨rfl, b1.trans (b2.mono b1.size)⟩
    · have hw := wrap_pw k8
      have HX := Lib.hid x6
      clear hr x5 x6
      rcases x4 with rfl | ⟨j, rfl, x4⟩
      · have HX2 := Lib.hid (show PFor 1 0 from HX.out)
        have HR2 := Lib.hid (show PFor x 0 from HR.out)
        go_wp2_with (first
          | (with_reducible refine (sPower_any _ _ _ HR2.out).mono ?_; rintro e w' ⟨rfl, rfl⟩)
          | (with_reducible refine (iPower_any _ _ _ HR2.out).mono ?_; rintro e w' ⟨rfl, rfl⟩)
          | (with_reducible refine (iPower_any _ _ _ HX2.out).mono ?_; rintro e w' ⟨rfl, rfl⟩))
        go_ret
        exact ⟨rfl, b1⟩
      · have hw2 := wrap_pw (k := j) (by omega)
        have q1 : ((j : Int) + 1 == 0) = false := by rw [beq_eq_false_iff_ne]; omega
        have ej : ((j + 1 : Nat) : Int) = (j : Int) + 1 := by omega
        have HX2 := HX
        have HR2 := HR
        rw [ej] at HX2 HR2
        clear ej
        go_wp2_with (first
          | (with_reducible refine (sPower_any _ _ _ HR2.out).mono ?_; rintro e w' ⟨rfl, rfl⟩)
          | (with_reducible refine (iPower_any _ _ _ HR2.out).mono ?_; rintro e w' ⟨rfl, rfl⟩)
          | (with_reducible refine (iPower_any _ _ _ HX2.out).mono ?_; rintro e w' ⟨rfl, rfl⟩))
        go_ret
        exact ⟨rfl, b1⟩
  · go_enter Try.func6, Try.ntmps6
    go_wp2
    go_ret
    exact ⟨rfl, Below.refl _ _⟩

set_option maxHeartbeats 2000000 in
theorem FnBuddyWaste_walk {a : Option Addr} {len cap : Nat} {z : List Int} {w : World} (h : IsRow .u8 w a len cap z) : Calls Try.prog 5 #[.slice a len cap] w fun e w' => e = .returned (.bool true) ∧ Below w.heap.size w w' := by
  have hm := row_len h
  have HD := Lib.hid (dDrawPowerFor h)
  clear h
  by_cases hl : len ≤ 1048576
  · go_enter Try.func5, Try.ntmps5
    go_wp2_with fail
    refine HD.out.mono ?_
    rintro e w1 ⟨x, rfl, b1⟩
    obtain ⟨r, hr⟩ := PFor_ex x
    have HR := Lib.hid hr
    clear HD
    rcases PFor_facts hr with ⟨h1, h2⟩ | ⟨k, rfl, k8, x1, x2, x3, x4, x5, x6⟩
    · subst h2
      clear hr h1
      go_wp2_with (first
        | (with_reducible refine (sPower_any _ _ _ HR.out).mono ?_; rintro e w' ⟨rfl, rfl⟩)
        | (with_reducible refine (iPower_any _ _ _ HR.out).mono ?_; rintro e w' ⟨rfl, rfl⟩)
        | (with_reducible refine (alive_any _).mono ?_; rintro e w2 ⟨rfl, b2⟩))
      go_ret
      exact ⟨rfl, b1.trans (b2.mono b1.size)⟩
    · have hw := wrap_pw k8
      clear hr x4 x6 x3
      go_wp2_with (first
        | (with_reducible refine (sPower_any _ _ _ HR.out).mono ?_; rintro e w' ⟨rfl, rfl⟩)
        | (with_reducible refine (iPower_any _ _ _ HR.out).mono ?_; rintro e w' ⟨rfl, rfl⟩)
        | (with_reducible refine (alive_any _).mono ?_; rintro e w2 ⟨rfl, b2⟩))
      go_ret
      exact ⟨rfl, b1.trans (b2.mono b1.size)⟩
  · go_enter Try.func5, Try.ntmps5
    go_wp2
    go_ret
    exact ⟨rfl, Below.refl _ _⟩

end Go.Proofs.Ytlcgfncgjljgpaa.Wu
