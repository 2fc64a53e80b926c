/- Whether two buddies are halves. Conditions: orders from 0 to 8, starts from 0 to 600. -/
import Derived.Test.YtlcgfncgjljgpaaPw
import Derived.BigQuiet
import Derived.IntWalk
namespace Go.Proofs.Ytlcgfncgjljgpaa.Wu
open Go.RowKit Go.Proofs.Ytlcgfncgjljgpaa.Pl Go.Proofs.Ytlcgfncgjljgpaa.Wk

theorem iHalves_order (s z s' z' : Int) (u u' : Bool) (w : World) (h : z ≠ z') :
    Calls Try.prog 42 #[.agg #[.int .i64 s, .int .i64 z, .bool u], .agg #[.int .i64 s', .int .i64 z', .bool u']] w fun e w' => e = .returned (.bool false) ∧ Below w.heap.size w w' := by
  have q : (z == z') = false := by rw [beq_eq_false_iff_ne]; exact h
  clear h
  go_enter Try.func42, Try.ntmps42
  go_wp2
  go_quiet (fail)
  go_wp2
  go_ret
  have b1 := (((Below.refl w.heap.size w).alloc (Nat.le_refl _) (.cells #[.int .i64 s, .int .i64 z, .bool u] 44)).alloc (by simp) (.cells #[.int .i64 s', .int .i64 z', .bool u'] 44))
  exact ⟨rfl, ⟨b1.os, b1.tape, b1.output, b1.size, b1.block⟩⟩

theorem wrap_one {k : Nat} (h : k ≤ 9) : IntKind.i64.wrap (2 ^ k) = pw (k : Int) := by
  have h1 : (2 : Int) ^ k = pw (k : Int) := by unfold pw; simp
  have h2 : pw (k : Int) ≤ pw 9 := pw_le (by omega) (by omega)
  have h4 : pw 9 = 512 := rfl
  have h3 := pw_pos (k : Int)
  rw [h1]
  exact IntWalk.i64_in _ (by omega)
theorem wrap_two {k : Nat} (h : k ≤ 8) : IntKind.i64.wrap (2 * 2 ^ k) = pw ((k : Int) + 1) := by
  have h1 : (2 : Int) * 2 ^ k = 2 ^ (k + 1) := by rw [Int.pow_succ]; omega
  rw [h1, wrap_one (by omega)]; rfl

theorem iHalves_same (s s' : Int) (Z : Nat) (u u' : Bool) (b : Bool) (w : World) (hs : 0 ≤ s) (hs2 : s ≤ 1152921504606846976) (hz : Z ≤ 8) (hs' : s' = s + pw Z) (hb : b = true ↔ Al s (Z + 1)) :
    Calls Try.prog 42 #[.agg #[.int .i64 s, .int .i64 Z, .bool u], .agg #[.int .i64 s', .int .i64 Z, .bool u']] w fun e w' => e = .returned (.bool b) ∧ Below w.heap.size w w' := by
  have w1 := wrap_one (k := Z) (by omega)
  have w2 := wrap_two hz
  have p1 := pw_pos (Z : Int)
  have p2 := pw_pos ((Z : Int) + 1)
  have p3 := pw_bd (z := (Z : Int)) (by omega) (by omega)
  have p4 : pw ((Z : Int) + 1) ≤ pw 9 := pw_le (by omega) (by omega)
  have p5 : pw 9 = 512 := rfl
  unfold Al at hb
  rw [p5] at p4
  clear p5
  generalize pw ((Z : Int) + 1) = M at w2 p2 p4 hb
  generalize pw (Z : Int) = N at w1 p1 p3 hs'
  have hM : M ≠ 0 := by omega
  have w3 : IntKind.i64.wrap (s + N) = s + N := IntWalk.i64_in _ (by omega)
  subst hs'
  have hb2 : (s % M == 0) = b := by
    cases b
    · rw [beq_eq_false_iff_ne]; intro e; have := hb.2 e; cases this
    · rw [beq_iff_eq]; exact hb.1 rfl
  clear hb
  cases b
  all_goals
    go_enter Try.func42, Try.ntmps42
    go_wp2
    go_quiet (fail)
    go_wp2
    go_ret
    have b1 := (((Below.refl w.heap.size w).alloc (Nat.le_refl _) (.cells #[.int .i64 s, .int .i64 Z, .bool u] 44)).alloc (by simp) (.cells #[.int .i64 (s + N), .int .i64 Z, .bool u'] 44))
    exact ⟨rfl, ⟨b1.os, b1.tape, b1.output, b1.size, b1.block⟩⟩

end Go.Proofs.Ytlcgfncgjljgpaa.Wu
