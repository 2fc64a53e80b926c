/- The laws on PowerFor: their walks. Conditions: none. -/
import Derived.Test.YtlcgfncgjljgpaaPw
import Derived.Test.YtlcgfncgjljgpaaDrx
import Derived.Deep.RegionWith
import Derived.Deep.DrawnRows
import Derived.RegionTactic
import Derived.IntWalk
namespace Go.Proofs.Ytlcgfncgjljgpaa.Wu
open Go.RowKit Go.Proofs.Ytlcgfncgjljgpaa.Pl Go.Proofs.Ytlcgfncgjljgpaa.Wk

theorem row_len {w : World} {a : Option Addr} {len cap : Nat} {z : List Int} (h : IsRow .u8 w a len cap z) : len ≤ 9223372036854775807 := by
  rcases h with ⟨_, rfl, rfl, _⟩ | ⟨x, _, hl, hm, _⟩
  · omega
  · unfold maxLen at hm; omega

theorem FnExactPowerFor_walk {z : Int} {w : World} (_ : (Lit.int .i64 z).wf = true) : Calls Try.prog 3 #[.int .i64 z] w fun e w' => e = .returned (.bool true) ∧ Below w.heap.size w w' := by
  obtain ⟨r, hr⟩ := PFor_ex z
  have HR := Lib.hid hr
  clear hr
  go_enter Try.func3, Try.ntmps3
  go_wp2_with (first
    | (with_reducible refine (sPower_any _ _ _ HR.out).mono ?_; rintro e w' ⟨rfl, rfl⟩)
    | (with_reducible refine (iPower_any _ _ _ HR.out).mono ?_; rintro e w' ⟨rfl, rfl⟩))
  go_ret
  exact ⟨rfl, Below.refl _ _⟩

attribute [local go_sem ↓] Go.wp_at_zero Go.wp_at_succ

/-- The third pick of DrawPowerFor, and what the two tables hold then. -/
theorem pow7 (x y : Int) (g q : Nat) (w W : World) (h : Dr g q w W) (hq : q ≤ 1000000) : Calls Try.prog 45 #[.pointer (some ⟨g, 0, none⟩), .int .i64 7] W fun e w' =>
    ∃ (k j : Nat) (v : Int), e = .returned (.int .i64 k) ∧ (0 : Int) ≤ (k : Int) ∧ (k : Int) < 7 ∧ (0 : Int) ≤ (j : Int) ∧ (j : Int) < 4 ∧
      (#[.int .i64 0, .int .i64 0, .int .i64 0, .int .i64 3, .int .i64 3, .int .i64 1, .int .i64 2] : Array Value)[k]? = some (.int .i64 j) ∧ (#[.int .i64 (1 + x), .int .i64 0, .int .i64 257, .int .i64 y] : Array Value)[j]? = some (.int .i64 v) ∧
      Dr g (q + 1) w w' ∧ (∀ b o, b ≠ g → w'.cell? ⟨b, o, none⟩ = W.cell? ⟨b, o, none⟩) ∧ w'.heap.size = W.heap.size := by
  refine (pick_dr g q 7 w W h hq).mono ?_
  rintro e w' ⟨a, rfl, h0, h1, d, hc, hs⟩
  obtain ⟨k, rfl⟩ := Int.eq_ofNat_of_zero_le h0
  have hk : k = 0 ∨ k = 1 ∨ k = 2 ∨ k = 3 ∨ k = 4 ∨ k = 5 ∨ k = 6 := by omega
  rcases hk with rfl | rfl | rfl | rfl | rfl | rfl | rfl
  · exact ⟨0, 0, 1 + x, rfl, by omega, by omega, by omega, by omega, rfl, rfl, d, hc, hs⟩
  · exact ⟨1, 0, 1 + x, rfl, by omega, by omega, by omega, by omega, rfl, rfl, d, hc, hs⟩
  · exact ⟨2, 0, 1 + x, rfl, by omega, by omega, by omega, by omega, rfl, rfl, d, hc, hs⟩
  · exact ⟨3, 3, y, rfl, by omega, by omega, by omega, by omega, rfl, rfl, d, hc, hs⟩
  · exact ⟨4, 3, y, rfl, by omega, by omega, by omega, by omega, rfl, rfl, d, hc, hs⟩
  · exact ⟨5, 1, 0, rfl, by omega, by omega, by omega, by omega, rfl, rfl, d, hc, hs⟩
  · exact ⟨6, 2, 257, rfl, by omega, by omega, by omega, by omega, rfl, rfl, d, hc, hs⟩

theorem wrap_i64 {k : Nat} (h : k ≤ 9) : IntKind.i64.wrap (2 ^ min k 64) = pw (k : Int) := by
  rw [Nat.min_eq_left (show k ≤ 64 by omega)]
  have h1 : (2 : Int) ^ k = pw (k : Int) := by unfold pw; simp
  have h2 : pw (k : Int) ≤ pw 9 := pw_le (by omega) (by omega)
  have h4 : pw 9 = 512 := rfl
  have h3 := pw_pos (k : Int)
  rw [h1]
  exact IntWalk.i64_in _ (by omega)

set_option maxRecDepth 100000 in
set_option maxHeartbeats 4000000 in
theorem dDrawPowerFor {a : Option Addr} {len cap : Nat} {z : List Int} {w : World} (h : IsRow .u8 w a len cap z) : Calls Try.prog 22 #[.slice a len cap] w fun e w' => ∃ z : Int, e = .returned (.int .i64 z) ∧ Below w.heap.size w w' := by
  have HO := Lib.hid (open_g h)
  clear h
  go_enter Try.func22, Try.ntmps22
  go_wp2_with fail
  refine HO.out.mono ?_
  rintro e w1 ⟨rfl, hr, hb, hs⟩
  have hB := hb.size
  have D1 := Dr.refl hr
  obtain ⟨g, hg⟩ : ∃ g, w.heap.size = g := ⟨_, rfl⟩
  have hlt := hr.lt
  rw [hg] at D1 hlt
  rw [hg]
  have u1 : ¬ w1.heap.size = g := by omega
  have u2 : ¬ w1.heap.size + 1 = g := by omega
  have HB := Lib.hid hb
  have HG := Lib.hid hg
  clear hs hr hg hB hb
  go_wp2_with fail
  go_region_with (first
    | ((with_reducible refine (pow7 x2 (pw k3) g (0 + 1 + 1) w1 _ (by first | exact D3 | exact D3.alloc _ | exact (D3.alloc _).alloc _) (by omega)).mono ?_); rintro e w4 ⟨k4, j4, v4, rfl, m1, m2, m3, m4, m5, m6, D4, hc4, hz4⟩)
    | ((with_reducible refine (pick_dr g (0 + 1) 9 w1 _ (by first | exact D2 | exact D2.alloc _) (by omega)).mono ?_); rintro e w3 ⟨x3, rfl, a3, b3, D3, hc3, hz3⟩; obtain ⟨k3, rfl⟩ := Int.eq_ofNat_of_zero_le a3; have s3 := wrap_i64 (k := k3) (by omega); clear b3)
    | ((with_reducible refine (pick_dr g 0 256 w1 _ (by first | exact D1.drew | exact (D1.alloc _).drew) (by omega)).mono ?_); rintro e w2 ⟨x2, rfl, a2, b2, D2, hc2, hz2⟩; have s2 : IntKind.i64.wrap (1 + x2) = 1 + x2 := IntWalk.i64_in _ (by omega); clear b2))
  all_goals
    go_wp2
    go_ret
    first
      | exact ⟨_, rfl, Below.of_gr HB.out D4.gr (by have := HG.out; omega) (by have := HG.out; omega)⟩
      | exact ⟨_, rfl, Below.of_gr HB.out (D4.alloc _).gr (by have := HG.out; omega) (by have := HG.out; omega)⟩
      | exact ⟨_, rfl, Below.of_gr HB.out ((D4.alloc _).alloc _).gr (by have := HG.out; omega) (by have := HG.out; omega)⟩

end Go.Proofs.Ytlcgfncgjljgpaa.Wu
