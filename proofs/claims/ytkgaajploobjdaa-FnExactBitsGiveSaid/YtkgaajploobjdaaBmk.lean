/- Marking a slice of bools, and asking whether the marks stand; the program's clone; sameFlags. Conditions: the slice is the call's own. -/
import Derived.Test.YtkgaajploobjdaaBcp
namespace Go.Proofs.Ytkgaajploobjdaa.Wb
open Go.RowKit Go.Proofs.Ytkgaajploobjdaa.Pl Go.Proofs.Ytkgaajploobjdaa.Wk

/-- The marks of n bools. -/
def mks (n : Nat) : List Bool := (List.range n).map fun (i : Nat) => (((i : Int) + 1) % 3 == 0)

theorem mks_length (n : Nat) : (mks n).length = n := by simp [mks]
theorem mks_succ (n : Nat) : mks (n + 1) = mks n ++ [((n : Int) + 1) % 3 == 0] := by simp [mks, List.range_succ]
theorem mks_ub {n k : Nat} (h : k < n) : ub (mks n) k = (((k : Int) + 1) % 3 == 0) := by
  rw [ub_eq (by rw [mks_length]; exact h)]; simp [mks]
theorem cells_mks_succ (n : Nat) : cellsB (mks (n + 1)) = cellsB (mks n) ++ [.bool (((n : Int) + 1) % 3 == 0)] := by
  rw [mks_succ, cellsB_append]; rfl

set_option maxHeartbeats 2000000 in
theorem mark_any (A : Option Addr) (n c B : Nat) (l : List Bool) (w : World) (h : Own w B (.slice A n c) l) (hn : n ≤ 1125899906842624) :
    Calls Try.prog 15 #[.slice A n c, .int .i64 1] w fun e w' => e = .returned (.int .i64 (n + 1)) ∧ Own w' B (.slice A n c) (mks n) ∧ w.grownBy w' (Value.slice A n c).ownBlock := by
  obtain ⟨hnl, hform⟩ := own_form h
  by_cases h0 : n = 0
  · subst h0
    have hl : l = [] := List.eq_nil_of_length_eq_zero hnl.symm
    subst hl
    clear hform hnl
    go_enter Try.func15, Try.ntmps15
    go_wp2
    refine wp_loop_rounds 1 ?_
    rw [rounds_succ]
    go_wp2
    go_ret
    exact ⟨rfl, h, World.grownBy.refl _ _⟩
  · obtain ⟨g, rfl, hB, hg⟩ := hform (by omega)
    have hlen := h.1
    rw [cellsB_length, ← hnl] at hlen
    have h' : w.ownsRow B 4 1 (.slice (some ⟨g, 0, none⟩) n c) n (cellsB l) := by rw [hnl] at h ⊢; exact h
    have HW := Lib.hid h'
    have HL := Lib.hid (show (cellsB l).length = n by rw [cellsB_length, ← hnl])
    clear hform h h' hnl hlen h0
    go_enter Try.func15, Try.ntmps15
    go_wp2
    go_loopw [1, 5] (fun v i wr => ∃ (k : Nat) (r : List Value), k ≤ n ∧ i = .int .i64 k ∧ v = .int .i64 (k + 1) ∧ r.length = n - k ∧
        wr.ownsRow B 4 1 (.slice (some ⟨g, 0, none⟩) n c) n (cellsB (mks k) ++ r) ∧ w.grownBy wr (some g)) (fun _ i _ => n - (intOf i).toNat)
    case atStart => exact ⟨0, cellsB l, Nat.zero_le _, rfl, rfl, HL.out, HW.out, World.grownBy.refl _ _⟩
    case round =>
      obtain ⟨k, r, hk, rfl, rfl, hr, how, hb⟩ := hrel
      by_cases hlt : k < n
      · obtain ⟨v0, d0⟩ := owns_cell how k (by omega)
        have f0 := how.frozenAt k
        have hst := how.stored k (.bool (((k : Int) + 1) % 3 == 0))
        rw [set1 _ _ _ _ (by rw [cellsB_length, mks_length]) (by omega), ← cells_mks_succ] at hst
        have hst1 := Lib.hid hst.1
        have hbb := Lib.hid (grown_trans hb hst.2)
        clear hst how hb
        go_wp2
        go_roundw
        case rel => exact ⟨k + 1, r.drop 1, by omega, by go_num, by go_num, by simp; omega, hst1.out, hbb.out⟩
        case measure => simp [intOf]; omega
      · have hkn : k = n := by omega
        subst hkn
        have hr0 : r = [] := List.eq_nil_of_length_eq_zero (by omega)
        subst hr0
        have HO := Lib.hid (show wr.ownsRow B 4 1 (.slice (some ⟨g, 0, none⟩) k c) (mks k).length (cellsB (mks k)) by
          rw [mks_length]; rw [List.append_nil] at how; exact how)
        clear how
        go_wp2
        go_ret
        exact ⟨rfl, HO.out, hb⟩

set_option maxHeartbeats 1000000 in
theorem held_any (A : Option Addr) (n c B : Nat) (w : World) (h : Lst w B A n (mks n)) (hn : n ≤ 1125899906842624) :
    Calls Try.prog 16 #[.slice A n c, .int .i64 1] w fun e w' => e = .returned (.int .i64 (n + 1)) ∧ w = w' := by
  go_enter Try.func16, Try.ntmps16
  go_wp2
  go_loop [1, 5] (fun v i => ∃ k : Nat, k ≤ n ∧ i = .int .i64 k ∧ v = .int .i64 (k + 1)) (fun _ i => n - (intOf i).toNat)
  case atStart => exact ⟨0, Nat.zero_le _, rfl, rfl⟩
  case round =>
    obtain ⟨k, hk, rfl, rfl⟩ := hrel
    by_cases hlt : k < n
    · obtain ⟨b, off, rfl, hbb, c0⟩ := h.cells k hlt
      rw [mks_ub hlt] at c0
      go_wp2
      go_round
      case rel => exact ⟨k + 1, by omega, by go_num, by go_num⟩
      case measure => simp [intOf]; omega
    · have hkn : k = n := by omega
      subst hkn
      go_wp2
      go_ret
      exact ⟨rfl, rfl⟩

end Go.Proofs.Ytkgaajploobjdaa.Wb
