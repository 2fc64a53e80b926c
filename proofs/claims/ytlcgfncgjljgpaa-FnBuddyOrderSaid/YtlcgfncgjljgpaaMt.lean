/- l3Mate: the first word of the other half. Conditions: orders from 0 to 8. -/
import Derived.Test.YtlcgfncgjljgpaaHv
namespace Go.Proofs.Ytlcgfncgjljgpaa.Wu
open Go.RowKit Go.Proofs.Ytlcgfncgjljgpaa.Pl Go.Proofs.Ytlcgfncgjljgpaa.Wk

/-- The first word of the other half. -/
def mateU (b : Blk) : Int := if b.s % pw (b.z + 1) = 0 then b.s + pw b.z else b.s - pw b.z

theorem half_par {s : Int} {Z : Nat} (ha : Al s Z) : s / 2 ^ Z % 2 = 0 ↔ Al s ((Z : Int) + 1) := by
  obtain ⟨m, rfl⟩ := Al_iff.1 ha
  have e : (2 : Int) ^ Z = pw (Z : Int) := by unfold pw; simp
  have hp := pw_pos (Z : Int)
  rw [e, Int.mul_ediv_cancel_left _ (by omega)]
  unfold Al
  rw [pw_succ (by omega), Int.mul_comm 2, Int.mul_emod_mul_of_pos _ _ (by omega)]
  constructor
  · intro h; rw [h]; simp
  · intro h
    rcases Int.mul_eq_zero.1 h with h | h
    · omega
    · exact h

set_option maxHeartbeats 1000000 in
theorem mate_any (s : Int) (Z : Nat) (u : Bool) (w : World) (hs : 0 ≤ s) (hs2 : s ≤ 1152921504606846976) (hz : Z ≤ 8) (ha : Al s Z) :
    Calls Try.prog 40 #[.agg #[.int .i64 s, .int .i64 Z, .bool u]] w fun e w' => e = .returned (.int .i64 (mateU ⟨s, Z, u⟩)) ∧ Below w.heap.size w w' := by
  have HP := Lib.hid (half_par ha)
  have w1 := wrap_one (k := Z) (by omega)
  have w2 := wrap_pw (k := Z) (by omega)
  have p1 := pw_pos (Z : Int)
  have p3 := pw_bd (z := (Z : Int)) (by omega) (by omega)
  obtain ⟨N, hN⟩ : ∃ N, pw (Z : Int) = N := ⟨_, rfl⟩
  have HM : RowKit.Hid (mateU ⟨s, Z, u⟩ = if s % pw ((Z : Int) + 1) = 0 then s + N else s - N) := Lib.hid (by rw [← hN]; rfl)
  rw [hN] at w1 w2 p1 p3
  have hw3 : IntKind.i64.wrap (s + N) = s + N := IntWalk.i64_in _ (by omega)
  have hw4 : IntKind.i64.wrap (s - N) = s - N := IntWalk.i64_in _ (by omega)
  have ht : (s / 2 ^ Z).tmod 2 = s / 2 ^ Z % 2 := Int.tmod_eq_emod_of_nonneg (Int.ediv_nonneg hs (Int.le_of_lt (Int.pow_pos (by decide))))
  clear p1 p3 hN
  have b1 := (Below.refl w.heap.size w).alloc (Nat.le_refl _) (.cells #[.int .i64 s, .int .i64 Z, .bool u] 44)
  by_cases h : Al s ((Z : Int) + 1)
  · have q := HP.out.2 h
    have HR := Lib.hid (HM.out.trans (if_pos (by exact h)))
    have q1 : (s / 2 ^ Z % 2 == 0) = true := by rw [beq_iff_eq]; exact q
    clear q h ha
    go_enter Try.func40, Try.ntmps40
    go_wp2
    go_quiet (fail)
    go_wp2
    go_ret
    exact ⟨by rw [HR.out]; rfl, ⟨b1.os, b1.tape, b1.output, b1.size, b1.block⟩⟩
  · have q : ¬ s / 2 ^ Z % 2 = 0 := fun hh => h (HP.out.1 hh)
    have HR := Lib.hid (HM.out.trans (if_neg (by exact h)))
    have q1 : (s / 2 ^ Z % 2 == 0) = false := by rw [beq_eq_false_iff_ne]; exact q
    clear q h ha
    go_enter Try.func40, Try.ntmps40
    go_wp2
    go_quiet (fail)
    go_wp2
    go_ret
    exact ⟨by rw [HR.out]; rfl, ⟨b1.os, b1.tape, b1.output, b1.size, b1.block⟩⟩

end Go.Proofs.Ytlcgfncgjljgpaa.Wu
