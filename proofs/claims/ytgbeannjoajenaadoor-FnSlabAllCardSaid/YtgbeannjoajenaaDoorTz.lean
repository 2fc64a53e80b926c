/- The place of the lowest bit: TrailingZeros; SlabTake of the program and of the reference. Conditions: the library's table holds what its text lays. -/
import Derived.Test.YtgbeannjoajenaaDoorSlabB
import Derived.Shelf.Spec.TrailingZeros
import Derived.IntWalk
namespace Go.Proofs.YtgbeannjoajenaaDoor.Wk
open Go.RowKit

/-- The library's table. -/
def Tab (w : World) : Prop := 1 < w.heap.size ∧ ∀ j, j < 64 → w.cell? ⟨1, j, none⟩ = some (.int .u8 ((Lib.deBruijn64tab.getD j 0 : Nat) : Int))
theorem Tab.below {w w' : World} {B : Nat} (h : Tab w) (hb : Below B w w') (hB : 1 < B) : Tab w' :=
  ⟨Nat.lt_of_lt_of_le h.1 hb.size, fun j hj => (hb.cell (p := ⟨1, j, none⟩) hB).trans (h.2 j hj)⟩

set_option maxHeartbeats 1000000 in
theorem tz64_walk (x k idx : Nat) (w : World) (hx0 : ((x : Int) == 0) = false)
    (key : IntKind.u64.wrap (bits BinOp.and IntKind.u64 (x : Int) (IntKind.u64.wrap (-(x : Int))) * 285870213051353865) / 288230376151711744 = (idx : Int))
    (hi : idx < 64) (hk : k < 64) (hcell : w.cell? ⟨1, idx, none⟩ = some (.int .u8 k)) :
    Calls Tryd.prog 21 #[.int .u64 x] w fun e w' => e = .returned (.int .i64 k) ∧ w' = w := by
  go_enter Tryd.func21, Tryd.ntmps21
  go_wp2
  go_ret
  exact ⟨rfl, rfl⟩

theorem tz64 (x : Nat) (hx : x < 18446744073709551616) (hx0 : x ≠ 0) (w : World) (hT : Tab w) : Calls Tryd.prog 21 #[.int .u64 x] w fun e w' => e = .returned (.int .i64 (Lib.ctz 64 x)) ∧ w' = w := by
  obtain ⟨hlow, hk⟩ := Lib.lowest_bit 64 x hx0 hx
  obtain ⟨hi, htab⟩ := Lib.deBruijn64_at _ hk
  have hcell := hT.2 _ hi
  rw [htab] at hcell
  exact tz64_walk x _ _ w (by rw [beq_eq_false_iff_ne]; intro e; exact hx0 (Int.ofNat.inj e)) (tz64_key x _ hx hx0 hlow) hi hk hcell

theorem tzU (x : Nat) (hx : x < 18446744073709551616) (hx0 : x ≠ 0) (w : World) (hT : Tab w) : Calls Tryd.prog 15 #[.int .u64 x] w fun e w' => e = .returned (.int .i64 (Lib.ctz 64 x)) ∧ w' = w := by
  have HC := Lib.hid (tz64 x hx hx0 w hT)
  clear hT hx0
  generalize Lib.ctz 64 x = k at HC
  go_enter Tryd.func15, Tryd.ntmps15
  go_wp2_with (with_reducible refine HC.out.mono ?_; rintro e w' ⟨rfl, rfl⟩)
  go_ret
  exact ⟨rfl, rfl⟩

/-- The first place that is free. -/
structure Low (u : Int) (p : Nat) : Prop where
  lt : p < 8
  free : u / 2 ^ p % 2 = 0
  least : ∀ q : Nat, q < p → u / 2 ^ q % 2 = 1

theorem low_tab : ∀ m : Fin 256, (m.val = 255 ∧ Lib.ctz 64 (18446744073709551615 - m.val) = 8) ∨ (m.val ≠ 255 ∧ Lib.ctz 64 (18446744073709551615 - m.val) < 8 ∧ (m.val : Int) / 2 ^ (Lib.ctz 64 (18446744073709551615 - m.val)) % 2 = 0 ∧
    (∀ q : Fin 8, q.val < Lib.ctz 64 (18446744073709551615 - m.val) → (m.val : Int) / 2 ^ q.val % 2 = 1) ∧ bits .or .i64 (m.val : Int) (2 ^ (Lib.ctz 64 (18446744073709551615 - m.val))) = (m.val : Int) + 2 ^ (Lib.ctz 64 (18446744073709551615 - m.val))) := by decide +kernel

theorem low_uniq {u : Int} {p q : Nat} (h : Low u p) (h' : Low u q) : p = q := by
  rcases Nat.lt_trichotomy p q with hl | hl | hl
  · have := h'.least p hl; have := h.free; omega
  · exact hl
  · have := h.least q hl; have := h'.free; omega

/-- A slab's word is full, or has a first free place: what TrailingZeros finds there. -/
theorem low_any {u : Int} (h0 : 0 ≤ u) (h1 : u ≤ 255) : (u = 255 ∧ Lib.ctz 64 (18446744073709551615 - u).toNat = 8) ∨ ∃ p, Low u p ∧ Lib.ctz 64 (18446744073709551615 - u).toNat = p ∧ bits .or .i64 u (2 ^ p) = u + 2 ^ p := by
  obtain ⟨m, rfl⟩ := Int.eq_ofNat_of_zero_le h0
  have e : ((18446744073709551615 : Int) - (m : Int)).toNat = 18446744073709551615 - m := by omega
  rw [e]
  rcases low_tab ⟨m, by omega⟩ with ⟨a, b⟩ | ⟨_, a, b, c, d⟩
  · exact .inl ⟨by simp only at a; omega, b⟩
  · exact .inr ⟨_, ⟨a, b, fun q hq => c ⟨q, Nat.lt_trans hq a⟩ hq⟩, rfl, d⟩

end Go.Proofs.YtgbeannjoajenaaDoor.Wk
