/- Marking a slice of blocks, and asking whether the marks stand. Conditions: the slice is the call's own. -/
import Derived.Test.YtidkejmphhpjlaaFrB
namespace Go.Proofs.Ytidkejmphhpjlaa.Wk
open Go.RowKit Go.Proofs.Ytidkejmphhpjlaa.Pl

/-- The marks of n blocks. -/
def mks (n : Nat) : List Blk := (List.range n).map fun (i : Nat) => (⟨3 * (i : Int) + 1, 3 * (i : Int) + 2, true⟩ : Blk)

theorem mks_length (n : Nat) : (mks n).length = n := by simp [mks]
theorem mks_succ (n : Nat) : mks (n + 1) = mks n ++ [⟨3 * n + 1, 3 * n + 2, true⟩] := by simp [mks, List.range_succ]
theorem mks_bk {n k : Nat} (h : k < n) : bk (mks n) k = ⟨3 * k + 1, 3 * k + 2, true⟩ := by
  rw [bk_eq (by rw [mks_length]; exact h)]; simp [mks]
theorem cells_mks_succ (n : Nat) : cellsL (mks (n + 1)) = cellsL (mks n) ++ [.int .i64 (3 * n + 1), .int .i64 (3 * n + 2), .bool true] := by
  rw [mks_succ, cellsL_append]; rfl

theorem grown_trans {a b c : World} {row : Option Nat} (h : a.grownBy b row) (k : b.grownBy c row) : a.grownBy c row :=
  ⟨k.os.trans h.os, k.tape.trans h.tape, k.output.trans h.output, Nat.le_trans h.size k.size, fun i hi hr => (k.block i (Nat.lt_of_lt_of_le hi h.size) hr).trans (h.block i hi hr)⟩

theorem own_form {w : World} {B : Nat} {A : Option Addr} {n c : Nat} {l : List Blk} (h : Own w B (.slice A n c) l) : n = l.length ∧ (0 < n → ∃ g, A = some ⟨g, 0, none⟩ ∧ B ≤ g ∧ g < w.heap.size) := by
  rcases h.2 with ⟨hv, hn⟩ | ⟨g, cap, cur, hv, hB, hg, _⟩
  · injection hv with _ h2 _
    exact ⟨by omega, fun h => by omega⟩
  · injection hv with h1 h2 _
    subst h1
    exact ⟨h2, fun _ => ⟨g, rfl, hB, (Array.getElem?_eq_some_iff.1 hg).1⟩⟩

set_option maxHeartbeats 2000000 in
theorem mark_any (A : Option Addr) (n c B : Nat) (l : List Blk) (w : World) (h : Own w B (.slice A n c) l) (hn : n ≤ 1125899906842624) :
    Calls Try.prog 22 #[.slice A n c, .int .i64 1] w fun e w' => e = .returned (.int .i64 (3 * n + 1)) ∧ Own w' B (.slice A n c) (mks n) ∧ w.grownBy w' (Value.slice A n c).ownBlock := by
  obtain ⟨hnl, hform⟩ := own_form h
  by_cases h0 : n = 0
  · subst h0
    have hl : l = [] := List.eq_nil_of_length_eq_zero hnl.symm
    subst hl
    clear hform hnl
    go_enter Try.func22, Try.ntmps22
    go_wp2
    refine wp_loop_rounds 1 ?_
    rw [rounds_succ]
    go_wp2
    go_ret
    exact ⟨rfl, h, World.grownBy.refl _ _⟩
  · obtain ⟨g, rfl, hB, hg⟩ := hform (by omega)
    have hlen := h.1
    rw [cellsL_length, ← hnl] at hlen
    have h' : w.ownsRow B 39 3 (.slice (some ⟨g, 0, none⟩) n c) n (cellsL l) := by rw [hnl] at h ⊢; exact h
    have HW := Lib.hid h'
    have HL := Lib.hid (show (cellsL l).length = n * 3 by rw [cellsL_length, ← hnl])
    clear hform h h' hnl hlen h0
    go_enter Try.func22, Try.ntmps22
    go_wp2
    go_loopw [1, 5] (fun v i wr => ∃ (k : Nat) (r : List Value), k ≤ n ∧ i = .int .i64 k ∧ v = .int .i64 (3 * k + 1) ∧ r.length = (n - k) * 3 ∧
        wr.ownsRow B 39 3 (.slice (some ⟨g, 0, none⟩) n c) n (cellsL (mks k) ++ r) ∧ w.grownBy wr (some g)) (fun _ i _ => n - (intOf i).toNat)
    case atStart => exact ⟨0, cellsL l, Nat.zero_le _, rfl, rfl, HL.out, HW.out, World.grownBy.refl _ _⟩
    case round =>
      obtain ⟨k, r, hk, rfl, rfl, hr, how, hb⟩ := hrel
      by_cases hlt : k < n
      · obtain ⟨v0, d0⟩ := owns_cell how (k * 3) (by omega)
        obtain ⟨v1, d1⟩ := owns_cell how (k * 3 + 1) (by omega)
        obtain ⟨v2, d2⟩ := owns_cell how (k * 3 + 2) (by omega)
        have f0 := how.frozenAt (k * 3)
        have f1 := how.frozenAt (k * 3 + 1)
        have f2 := how.frozenAt (k * 3 + 2)
        have hst := ((how.stored (k * 3) (.int .i64 (3 * k + 1))).1.stored (k * 3 + 1) (.int .i64 (3 * k + 2))).1.stored (k * 3 + 2) (.bool true)
        rw [set3 _ _ _ _ _ _ (by rw [cellsL_length, mks_length]) (by omega), ← cells_mks_succ] at hst
        have hst1 := Lib.hid hst.1
        have hg1 := (how.stored (k * 3) (.int .i64 (3 * k + 1))).2
        have hg2 := ((how.stored (k * 3) (.int .i64 (3 * k + 1))).1.stored (k * 3 + 1) (.int .i64 (3 * k + 2))).2
        have hbb := Lib.hid (grown_trans (grown_trans (grown_trans hb hg1) hg2) hst.2)
        have e2 : (3 * (k : Int) + 1 + 1) = 3 * k + 2 := by omega
        have e3 : ((3 * (k : Int) + 2 + 1) % 3 == 0) = true := by rw [beq_iff_eq]; omega
        clear hst how hb hg1 hg2
        go_wp2
        go_roundw
        case rel => exact ⟨k + 1, r.drop 3, by omega, by go_num, by go_num, by simp; omega, hst1.out, hbb.out⟩
        case measure => simp [intOf]; omega
      · have hkn : k = n := by omega
        subst hkn
        have hr0 : r = [] := List.eq_nil_of_length_eq_zero (by omega)
        subst hr0
        have HO := Lib.hid (show wr.ownsRow B 39 3 (.slice (some ⟨g, 0, none⟩) k c) (mks k).length (cellsL (mks k)) by
          rw [mks_length]; rw [List.append_nil] at how; exact how)
        clear how
        go_wp2
        go_ret
        exact ⟨rfl, HO.out, hb⟩

set_option maxHeartbeats 1000000 in
theorem held_any (A : Option Addr) (n c B : Nat) (w : World) (h : Lst w B A n (mks n)) (hn : n ≤ 1125899906842624) :
    Calls Try.prog 23 #[.slice A n c, .int .i64 1] w fun e w' => e = .returned (.int .i64 (3 * n + 1)) ∧ w = w' := by
  go_enter Try.func23, Try.ntmps23
  go_wp2
  go_loop [1, 5] (fun v i => ∃ k : Nat, k ≤ n ∧ i = .int .i64 k ∧ v = .int .i64 (3 * k + 1)) (fun _ i => n - (intOf i).toNat)
  case atStart => exact ⟨0, Nat.zero_le _, rfl, rfl⟩
  case round =>
    obtain ⟨k, hk, rfl, rfl⟩ := hrel
    by_cases hlt : k < n
    · obtain ⟨b, off, rfl, hbb, c0, c1, c2⟩ := h.cells k hlt
      rw [mks_bk hlt] at c0 c1 c2
      have e2 : (3 * (k : Int) + 1 + 1) = 3 * k + 2 := by omega
      have e3 : ((3 * (k : Int) + 2 + 1) % 3 == 0) = true := by rw [beq_iff_eq]; omega
      go_wp2
      go_round
      case rel => exact ⟨k + 1, by omega, by go_num, by go_num⟩
      case measure => simp [intOf]; omega
    · have hkn : k = n := by omega
      subst hkn
      go_wp2
      go_ret
      exact ⟨rfl, rfl⟩

end Go.Proofs.Ytidkejmphhpjlaa.Wk
