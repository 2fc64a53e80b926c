/- sameBuddies; small words for the laws of buddies that draw. Conditions: none. -/
import Derived.Test.YtlcgfncgjljgpaaDru
import Derived.Test.YtlcgfncgjljgpaaBfi
namespace Go.Proofs.Ytlcgfncgjljgpaa.Wu
open Go.RowKit Go.Proofs.Ytlcgfncgjljgpaa.Pl Go.Proofs.Ytlcgfncgjljgpaa.Wk

theorem row_len8 {w : World} {a : Option Addr} {len cap : Nat} {z : List Int} (h : IsRow .u8 w a len cap z) : len ≤ 9223372036854775807 := by
  rcases h with ⟨_, rfl, rfl, _⟩ | ⟨x, _, hl, hm, _⟩
  · omega
  · unfold maxLen at hm; omega

set_option maxHeartbeats 2000000 in
theorem sameBuddies_same (A A2 : Option Addr) (n c c2 B B2 : Nat) (l : List Blk) (w : World) (h : Lst w B A n l) (h2 : Lst w B2 A2 n l) (hB : B ≤ w.heap.size) (hB2 : B2 ≤ w.heap.size) (hn : n ≤ 1125899906842624) :
    Calls Try.prog 35 #[.slice A n c, .slice A2 n c2] w fun e w' => e = .returned (.bool true) ∧ Below w.heap.size w w' := by
  go_enter Try.func35, Try.ntmps35
  go_wp2
  go_loopw [5] (fun i wr => ∃ k : Nat, k ≤ n ∧ i = .int .i64 k ∧ Below w.heap.size w wr) (fun i _ => n - (intOf i).toNat)
  case atStart => exact ⟨0, Nat.zero_le _, rfl, Below.refl _ _⟩
  case round =>
    obtain ⟨k, hk, rfl, hb⟩ := hrel
    by_cases hlt : k < n
    · obtain ⟨b, off, rfl, hbb, e0, e1, e2⟩ := (h.below hb hB).cells k hlt
      obtain ⟨b', off', rfl, hbb', d0, d1, d2⟩ := (h2.below hb hB2).cells k hlt
      have i1 : (0 : Int) ≤ (k : Int) := by omega
      have i2 : (k : Int) < (n : Int) := by omega
      have hbn := hb
      go_wp2
      go_quiet (fail)
      go_wp2
      go_roundw
      case rel => exact ⟨k + 1, by omega, by go_num, ⟨hbn.os, hbn.tape, hbn.output, hbn.size, hbn.block⟩⟩
      case measure => simp [intOf]; omega
    · have hkn : k = n := by omega
      subst hkn
      go_wp2
      go_ret
      exact ⟨rfl, hb⟩

/-- The list, and where it lies, in a later world. -/
theorem lst_up {w w' : World} {A : Option Addr} {n : Nat} {l : List Blk} (h : Lst w w.heap.size A n l) (hb : Below w.heap.size w w') : Lst w' w'.heap.size A n l := h.up hb (Nat.le_refl _) hb.size

end Go.Proofs.Ytlcgfncgjljgpaa.Wu
