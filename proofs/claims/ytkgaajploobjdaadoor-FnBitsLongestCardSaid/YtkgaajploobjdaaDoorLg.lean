/- BitsLongest, of the program and of the reference. Conditions: the library's table holds what its text lays. -/
import Derived.Test.YtkgaajploobjdaaDoorTzb
import Derived.Laws.Bits64b
namespace Go.Proofs.YtkgaajploobjdaaDoor.Pl

theorem xor_max (x : Nat) (h : x < 18446744073709551616) : 18446744073709551615 ^^^ x = 18446744073709551615 - x := by
  apply Nat.eq_of_testBit_eq
  intro i
  have e1 : (18446744073709551615 : Nat) = 2 ^ 64 - 1 := by decide
  have e2 : 18446744073709551615 - x = 2 ^ 64 - (x + 1) := by omega
  rw [e2, Nat.testBit_xor, Nat.testBit_two_pow_sub_succ (by omega), e1, Nat.testBit_two_pow_sub_one]
  by_cases hi : i < 64
  · simp [hi]
  · have : x.testBit i = false := Nat.testBit_lt_two_pow (Nat.lt_of_lt_of_le h (Nat.pow_le_pow_right (by omega) (by omega) : 2 ^ 64 ≤ 2 ^ i))
    simp [hi, this]

theorem and_not_step (g k : Nat) (hg : g < 2 ^ k) (hk : k < 64) : (18446744073709551615 - g) &&& (18446744073709551615 - 2 ^ k) = 18446744073709551615 - (g + 2 ^ k) := by
  have h1 : 2 ^ k ≤ 2 ^ 63 := Nat.pow_le_pow_right (by omega) (by omega)
  have e1 : 18446744073709551615 - g = 2 ^ 64 - (g + 1) := by omega
  have e2 : 18446744073709551615 - 2 ^ k = 2 ^ 64 - (2 ^ k + 1) := by omega
  have e3 : 18446744073709551615 - (g + 2 ^ k) = 2 ^ 64 - (g + 2 ^ k + 1) := by omega
  have e4 : g + 2 ^ k = 2 ^ k * 1 ||| g := by rw [← Nat.two_pow_add_eq_or_of_lt hg]; omega
  rw [e1, e2, e3]
  apply Nat.eq_of_testBit_eq
  intro i
  rw [Nat.testBit_and, Nat.testBit_two_pow_sub_succ (by omega), Nat.testBit_two_pow_sub_succ (by omega), Nat.testBit_two_pow_sub_succ (by omega), e4, Nat.testBit_or, Nat.mul_one]
  cases decide (i < 64) <;> cases g.testBit i <;> cases (2 ^ k).testBit i <;> rfl

/-- The free words among the first k, as bits of a number. -/
def gm (l : List Bool) : Nat → Nat
  | 0 => 0
  | k + 1 => gm l k + (if ub l k then 0 else 2 ^ k)
theorem gm_lt (l : List Bool) (k : Nat) : gm l k < 2 ^ k := by
  induction k with
  | zero => exact Nat.one_pos
  | succ k ih => simp only [gm]; rw [Nat.pow_succ]; split <;> omega
theorem gm_fm (l : List Bool) (k : Nat) (hk : k ≤ l.length) : fm l 0 = gm l k + 2 ^ k * fm l k := by
  induction k with
  | zero => simp [gm]
  | succ k ih =>
    rw [ih (by omega), fm_step (show k < l.length by omega)]
    simp only [gm]
    rw [Nat.pow_succ, Nat.mul_add, Nat.mul_assoc]
    split <;> omega
theorem gm_all (l : List Bool) : gm l l.length = fm l 0 := by
  rw [gm_fm l l.length (Nat.le_refl _), fm_end (Nat.le_refl _)]; simp

/-- One round of the program's search. -/
theorem longest_step {l : List Bool} (hl : l.length ≤ 64) {j : Nat} (hx : fm l j ≠ 0) (hj : j = 0 ∨ fm l j % 2 = 0) :
    fm l j / 2 ^ (Lib.ctz 64 (fm l j)) = fm l (j + Lib.ctz 64 (fm l j)) ∧
    ((fm l (j + Lib.ctz 64 (fm l j)) = 18446744073709551615 ∧ max (bst l j) 64 = lrB l) ∨
      (fm l (j + Lib.ctz 64 (fm l j)) < 18446744073709551615 ∧ ∃ run : Nat, Lib.ctz 64 (18446744073709551615 - fm l (j + Lib.ctz 64 (fm l j))) = run ∧ 1 ≤ run ∧ run < 64 ∧ j + Lib.ctz 64 (fm l j) + run ≤ l.length ∧
        max (bst l j) run = bst l (j + Lib.ctz 64 (fm l j) + run) ∧ fm l (j + Lib.ctz 64 (fm l j)) / 2 ^ run = fm l (j + Lib.ctz 64 (fm l j) + run) ∧ fm l (j + Lib.ctz 64 (fm l j) + run) % 2 = 0)) := by
  have hxb := fm_bd hl j
  have e : Lib.ctz 64 (fm l j) = Lib.ctzFrom 64 (fm l j) := by simp [Lib.ctz, hx]
  obtain ⟨m, hm, ht⟩ := Lib.ctzFrom_spec 64 (fm l j) (by omega) hxb
  rw [← e] at hm ht
  generalize Lib.ctz 64 (fm l j) = t at hm ht
  obtain ⟨u1, u2, u3⟩ := fm_used t j (2 * m + 1) hm (by omega)
  refine ⟨fm_shift l j t, ?_⟩
  have hb1 : bst l (j + t) = bst l j := bst_used (by omega) u1
  have htr : trail (l.take (j + t)) = 0 := by
    rcases Nat.eq_zero_or_pos t with h0 | h0
    · subst h0
      rcases hj with h0 | h0
      · subst h0; rw [Nat.add_zero, List.take_zero, trail_nil]
      · rw [Nat.add_zero] at u3; omega
    · exact trail_used (by omega) u1 h0
  have hyb := fm_bd hl (j + t)
  rw [u3] at hyb ⊢
  by_cases hy : 2 * m + 1 = 18446744073709551615
  · left
    refine ⟨hy, ?_⟩
    obtain ⟨f1, f2⟩ := fm_free (l := l) 64 (j + t) 0 1 (by rw [u3, hy])
    have h64 := f2 (by omega)
    have hj0 : j + t = 0 := by omega
    obtain ⟨b1, _⟩ := bst_free (l := l) (j := j + t) (t := 64) (by omega) f1 htr
    rw [hb1] at b1
    have e64 : j + t + 64 = l.length := by omega
    exact b1.symm.trans (by rw [e64]; rfl)
  · right
    have hz0 : 18446744073709551615 - (2 * m + 1) ≠ 0 := by omega
    have e2 : Lib.ctz 64 (18446744073709551615 - (2 * m + 1)) = Lib.ctzFrom 64 (18446744073709551615 - (2 * m + 1)) := by unfold Lib.ctz; rw [if_neg hz0]
    obtain ⟨m2, hm2, hr⟩ := Lib.ctzFrom_spec 64 (18446744073709551615 - (2 * m + 1)) (by omega) (by omega)
    rw [← e2] at hm2 hr
    refine ⟨by omega, _, rfl, ?_⟩
    generalize Lib.ctz 64 (18446744073709551615 - (2 * m + 1)) = run at hm2 hr
    have hr1 : 1 ≤ run := by
      rcases Nat.eq_zero_or_pos run with h0 | h0
      · subst h0; rw [Nat.pow_zero, Nat.one_mul] at hm2; omega
      · exact h0
    obtain ⟨c, hc⟩ : ∃ c, 64 = run + (c + 1) := ⟨63 - run, by omega⟩
    have hpow : (18446744073709551616 : Nat) = 2 ^ run * (2 * 2 ^ c) := by
      have : (18446744073709551616 : Nat) = 2 ^ 64 := by decide
      rw [this, hc, Nat.pow_add, Nat.pow_succ, Nat.mul_comm (2 ^ c) 2]
    have hsum : 2 * m + 1 + 2 ^ run * (2 * m2 + 1) + 1 = 2 ^ run * (2 * 2 ^ c) := by rw [← hpow, ← hm2]; omega
    obtain ⟨f1, f2⟩ := fm_free (l := l) run (j + t) (2 * m2 + 1) (2 * 2 ^ c) (by rw [u3]; exact hsum)
    have hle := f2 hr1
    obtain ⟨b1, _⟩ := bst_free (l := l) (j := j + t) (t := run) (by omega) f1 htr
    rw [hb1] at b1
    have hsh := fm_shift l (j + t) run
    rw [u3] at hsh
    refine ⟨hr1, hr, hle, b1.symm, hsh, ?_⟩
    rw [← hsh]
    have hp : 0 < 2 ^ run := Nat.pow_pos (by omega)
    have hlt : 2 * m2 + 1 < 2 * 2 ^ c := by
      rcases Nat.lt_or_ge (2 * m2 + 1) (2 * 2 ^ c) with h | h
      · exact h
      · have := Nat.mul_le_mul_left (2 ^ run) h; omega
    have hq : 2 * m + 1 = 2 ^ run * (2 * 2 ^ c - (2 * m2 + 1) - 1) + (2 ^ run - 1) := by
      have h1 : 2 ^ run * (2 * 2 ^ c) = 2 ^ run * (2 * 2 ^ c - (2 * m2 + 1) - 1) + 2 ^ run * (2 * m2 + 1) + 2 ^ run := by
        rw [← Nat.mul_add, ← Nat.mul_succ]; congr 1; omega
      omega
    rw [hq, Nat.mul_add_div hp, Nat.div_eq_of_lt (by omega)]
    omega

end Go.Proofs.YtkgaajploobjdaaDoor.Pl
