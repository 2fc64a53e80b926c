/- TrailingZeros64 over the library's table; the longest run: bits of a word. Conditions: the library's table holds what its text lays. -/
import Derived.Test.YtkgaajploobjdaaDoorBfd
import Derived.Shelf.Spec.TrailingZeros
namespace Go.Proofs.YtkgaajploobjdaaDoor.Wk
open Go.RowKit

/-- The library's table. -/
def Tab (w : World) : Prop := 0 < w.heap.size ∧ ∀ j, j < 64 → w.cell? ⟨0, j, none⟩ = some (.int .u8 ((Lib.deBruijn64tab.getD j 0 : Nat) : Int))
theorem Tab.below {w w' : World} {B : Nat} (h : Tab w) (hb : Below B w w') (hB : 0 < B) : Tab w' :=
  ⟨Nat.lt_of_lt_of_le h.1 hb.size, fun j hj => (hb.cell (p := ⟨0, j, none⟩) hB).trans (h.2 j hj)⟩

set_option maxHeartbeats 1000000 in
theorem tz64_walk (x k idx : Nat) (w : World) (hx0 : ((x : Int) == 0) = false)
    (key : IntKind.u64.wrap (bits BinOp.and IntKind.u64 (x : Int) (IntKind.u64.wrap (-(x : Int))) * 285870213051353865) / 288230376151711744 = (idx : Int))
    (hi : idx < 64) (hk : k < 64) (hcell : w.cell? ⟨0, idx, none⟩ = some (.int .u8 k)) :
    Calls Tryd.prog 17 #[.int .u64 x] w fun e w' => e = .returned (.int .i64 k) ∧ w' = w := by
  go_enter Tryd.func17, Tryd.ntmps17
  go_wp2
  go_ret
  exact ⟨rfl, rfl⟩
theorem tz64_nil (w : World) : Calls Tryd.prog 17 #[.int .u64 0] w fun e w' => e = .returned (.int .i64 64) ∧ w' = w := by
  go_enter Tryd.func17, Tryd.ntmps17
  go_wp2
  go_ret
  exact ⟨rfl, rfl⟩
theorem tz64 (x : Nat) (hx : x < 18446744073709551616) (hx0 : x ≠ 0) (w : World) (hT : Tab w) : Calls Tryd.prog 17 #[.int .u64 x] w fun e w' => e = .returned (.int .i64 (Lib.ctz 64 x)) ∧ w' = w := by
  obtain ⟨hlow, hk⟩ := Lib.lowest_bit 64 x hx0 hx
  obtain ⟨hi, htab⟩ := Lib.deBruijn64_at _ hk
  have hcell := hT.2 _ hi
  rw [htab] at hcell
  exact tz64_walk x _ _ w (by rw [beq_eq_false_iff_ne]; intro e; exact hx0 (Int.ofNat.inj e)) (tz64_key x _ hx hx0 hlow) hi hk hcell

end Go.Proofs.YtkgaajploobjdaaDoor.Wk
namespace Go.Proofs.YtkgaajploobjdaaDoor.Pl

/-- The free words from word j on, as bits of a number: word j + i is bit i. -/
def fm (l : List Bool) (j : Nat) : Nat := (l.drop j).foldr (fun b x => (if b then 0 else 1) + 2 * x) 0

theorem fm_end {l : List Bool} {j : Nat} (h : l.length ≤ j) : fm l j = 0 := by unfold fm; rw [List.drop_eq_nil_of_le h]; rfl
theorem fm_step {l : List Bool} {j : Nat} (h : j < l.length) : fm l j = (if ub l j then 0 else 1) + 2 * fm l (j + 1) := by
  unfold fm; rw [ub_drop h]; rfl
theorem fm_bound (l : List Bool) : ∀ (n j : Nat), l.length - j = n → fm l j < 2 ^ n := by
  intro n
  induction n with
  | zero => intro j h; rw [fm_end (by omega)]; exact Nat.one_pos
  | succ n ih =>
    intro j h
    rw [fm_step (by omega), Nat.pow_succ]
    have := ih (j + 1) (by omega)
    split <;> omega
theorem fm_bd {l : List Bool} (hl : l.length ≤ 64) (j : Nat) : fm l j < 18446744073709551616 := by
  have h := fm_bound l (l.length - j) j rfl
  have h2 : (2 : Nat) ^ (l.length - j) ≤ 2 ^ 64 := Nat.pow_le_pow_right (by omega) (by omega)
  exact Nat.lt_of_lt_of_le h h2
/-- Shifting. -/
theorem fm_shift (l : List Bool) (j k : Nat) : fm l j / 2 ^ k = fm l (j + k) := by
  induction k generalizing j with
  | zero => simp
  | succ k ih =>
    by_cases h : j < l.length
    · rw [Nat.pow_succ, Nat.mul_comm, ← Nat.div_div_eq_div_mul]
      have e : fm l j / 2 = fm l (j + 1) := by rw [fm_step h]; split <;> omega
      rw [e, ih, show j + 1 + k = j + (k + 1) by omega]
    · rw [fm_end (by omega), fm_end (by omega)]; simp
/-- An even number: the first word is used. -/
theorem fm_used {l : List Bool} (t : Nat) : ∀ (j m : Nat), fm l j = 2 ^ t * m → 0 < m → AllAt l j t true ∧ j + t < l.length ∧ fm l (j + t) = m := by
  induction t with
  | zero =>
    intro j m h hm
    have hj : j < l.length := by
      rcases Nat.lt_or_ge j l.length with h1 | h1
      · exact h1
      · rw [fm_end h1] at h; simp at h; omega
    exact ⟨AllAt_zero _ _ _, by omega, by simpa using h⟩
  | succ t ih =>
    intro j m h hm
    have hj : j < l.length := by
      rcases Nat.lt_or_ge j l.length with h1 | h1
      · exact h1
      · rw [fm_end h1] at h
        have : 0 < 2 ^ (t + 1) * m := Nat.mul_pos (Nat.pow_pos (by omega)) hm
        omega
    rw [fm_step hj, Nat.pow_succ, Nat.mul_comm (2 ^ t) 2, Nat.mul_assoc] at h
    have hu : ub l j = true := by
      cases hb : ub l j
      · rw [hb] at h; simp only [Bool.false_eq_true, if_false] at h; omega
      · rfl
    rw [hu] at h
    simp only [if_true] at h
    obtain ⟨h1, h2, h3⟩ := ih (j + 1) m (by omega) hm
    refine ⟨fun i hi hi2 => ?_, by omega, by rw [show j + (t + 1) = j + 1 + t by omega]; exact h3⟩
    by_cases e : i = j
    · subst e; exact hu
    · exact h1 i (by omega) (by omega)
/-- A number whose complement is a multiple of a power: the first words are free. -/
theorem fm_free {l : List Bool} (t : Nat) : ∀ (j m q : Nat), fm l j + 2 ^ t * m + 1 = 2 ^ t * q → AllAt l j t false ∧ (0 < t → j + t ≤ l.length) := by
  induction t with
  | zero => intro j m q _; exact ⟨AllAt_zero _ _ _, fun h => by omega⟩
  | succ t ih =>
    intro j m q h
    rw [Nat.pow_succ, Nat.mul_comm (2 ^ t) 2, Nat.mul_assoc, Nat.mul_assoc] at h
    have hj : j < l.length := by
      rcases Nat.lt_or_ge j l.length with h1 | h1
      · exact h1
      · rw [fm_end h1] at h; omega
    rw [fm_step hj] at h
    have hu : ub l j = false := by
      cases hb : ub l j
      · rfl
      · rw [hb] at h; simp only [if_true] at h; omega
    rw [hu] at h
    simp only [Bool.false_eq_true, if_false] at h
    obtain ⟨h1, h2⟩ := ih (j + 1) m q (by omega)
    refine ⟨fun i hi hi2 => ?_, fun _ => ?_⟩
    · by_cases e : i = j
      · subst e; exact hu
      · exact h1 i (by omega) (by omega)
    · rcases Nat.eq_zero_or_pos t with e | e
      · omega
      · have := h2 e; omega

/-- After a run of used words none ends free. -/
theorem trail_at {l : List Bool} {j : Nat} (hj : 0 < j) (hl : j ≤ l.length) (h : ub l (j - 1) = true) : trail (l.take j) = 0 := by
  obtain ⟨i, rfl⟩ : ∃ i, j = i + 1 := ⟨j - 1, by omega⟩
  rw [ub_take_succ (by omega), trail_snoc]
  rw [show i + 1 - 1 = i by omega] at h
  rw [h]; rfl
theorem bst_end {l : List Bool} {j : Nat} (hl : j ≤ l.length) (h : fm l j = 0) : bst l l.length = bst l j := by
  have ha : AllAt l j (l.length - j) true := by
    have key : ∀ (n j : Nat), l.length - j = n → fm l j = 0 → AllAt l j n true := by
      intro n
      induction n with
      | zero => intro j _ _; exact AllAt_zero _ _ _
      | succ n ih =>
        intro j hn h0
        rw [fm_step (by omega)] at h0
        have hu : ub l j = true := by
          cases hb : ub l j
          · rw [hb] at h0; simp only [Bool.false_eq_true, if_false] at h0; omega
          · rfl
        have h1 := ih (j + 1) (by omega) (by omega)
        intro i hi hi2
        by_cases e : i = j
        · subst e; exact hu
        · exact h1 i (by omega) (by omega)
    exact key _ j rfl h
  have := bst_used (l := l) (j := j) (t := l.length - j) (by omega) ha
  rwa [show j + (l.length - j) = l.length by omega] at this

end Go.Proofs.YtkgaajploobjdaaDoor.Pl
