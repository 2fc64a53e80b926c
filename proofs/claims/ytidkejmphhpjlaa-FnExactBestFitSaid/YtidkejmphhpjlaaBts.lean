/- BestFit of the reference. Conditions: none. -/
import Derived.Test.YtidkejmphhpjlaaBfp
import Derived.Test.YtidkejmphhpjlaaFirst
import Derived.Test.YtidkejmphhpjlaaFrB
import Derived.Deep.QuietTactic
import Derived.BigQuiet
namespace Go.Proofs.Ytidkejmphhpjlaa.Wk
open Go.RowKit Go.Proofs.Ytidkejmphhpjlaa.Pl

theorem sBest_inv (A : Option Addr) (n c : Nat) (l : List Blk) (t sz : Int) (w : World) (h : Lst w w.heap.size A n l) (hv : ¬ V l t) (hnm : n ≤ 1125899906842624) :
    Calls Try.prog 16 #[.slice A n c, .int .i64 t, .int .i64 sz] w fun e w' => e = .returned (.int .i64 (-1)) ∧ Below w.heap.size w w' := by
  have HC := Lib.hid (sValid_no A n c l t w h hv hnm)
  clear hv
  by_cases hn0 : n = 0
  · subst hn0
    go_enter Try.func16, Try.ntmps16
    go_wp2
    refine wp_loop_rounds 1 ?_
    rw [rounds_succ]
    go_wp2
    go_ret
    exact ⟨rfl, Below.refl _ _⟩
  · have hn1 : 0 < n := by omega
    clear hn0
    go_enter Try.func16, Try.ntmps16
    go_wp2
    refine wp_loop_rounds 1 ?_
    rw [rounds_succ]
    go_wp2_with fail
    refine HC.out.mono ?_
    rintro e w1 ⟨rfl, hb1⟩
    go_wp2
    go_ret
    exact ⟨rfl, hb1⟩

theorem sBest_out (A : Option Addr) (n c : Nat) (l : List Blk) (t sz : Int) (w : World) (h : Lst w w.heap.size A n l) (hv : V l t) (hs : ¬ (1 ≤ sz ∧ sz ≤ 256)) :
    Calls Try.prog 16 #[.slice A n c, .int .i64 t, .int .i64 sz] w fun e w' => e = .returned (.int .i64 (-1)) ∧ Below w.heap.size w w' := by
  have HC := Lib.hid (sValid_yes A n c l t w h hv)
  have hn1 : 0 < n := by have := V_pos hv; have := h.len; omega
  have hn2 : (0 : Int) < (n : Int) := by omega
  have hS : decide (1 ≤ sz ∧ sz ≤ 256) = false := by rw [decide_eq_false_iff_not]; exact hs
  clear hv hs
  go_enter Try.func16, Try.ntmps16
  go_wp2
  refine wp_loop_rounds 1 ?_
  rw [rounds_succ]
  go_wp2_with fail
  refine HC.out.mono ?_
  rintro e w1 ⟨rfl, hb1⟩
  go_wp2_with (refine (l1In_any _ _ _ _).mono ?_; rintro e w' ⟨rfl, rfl⟩)
  go_ret
  exact ⟨rfl, hb1⟩

set_option maxRecDepth 100000 in
set_option maxHeartbeats 4000000 in
theorem sBest_in (b0 off n c : Nat) (l : List Blk) (t sz r : Int) (w : World) (h : Lst w w.heap.size (some ⟨b0, off, none⟩) n l) (hv : V l t) (hs : 1 ≤ sz ∧ sz ≤ 256) (hr : BestR l sz r) :
    Calls Try.prog 16 #[.slice (some ⟨b0, off, none⟩) n c, .int .i64 t, .int .i64 sz] w fun e w' => e = .returned (.int .i64 r) ∧ Below w.heap.size w w' := by
  obtain ⟨hl, ht2, ht1⟩ := V_len hv
  have hn1 : n ≤ 256 := by have := h.len; omega
  have HL := Lib.hid h.len
  have HH := Lib.hid h
  have HV := Lib.hid hv
  have HRR := Lib.hid hr
  have hS : decide (1 ≤ sz ∧ sz ≤ 256) = true := by rw [decide_eq_true_iff]; exact hs
  have HSS := Lib.hid hs
  clear h hv hr hs
  go_enter Try.func16, Try.ntmps16
  go_wp2
  go_loopw [7, 8] (fun v i wr => ∃ (k : Nat) (bst : Int), k ≤ n ∧ i = .int .i64 k ∧ v = .int .i64 bst ∧ Scan l sz k bst ∧ Below w.heap.size w wr) (fun _ i _ => n - (intOf i).toNat)
  case atStart => exact ⟨0, -1, Nat.zero_le _, rfl, rfl, Scan_zero _ _, Below.refl _ _⟩
  case round =>
    obtain ⟨k, bst, hk, rfl, rfl, hsc, hbr⟩ := hrel
    by_cases hlt : k < n
    · have hkl : k < l.length := by have := HL.out; omega
      go_wp2_with fail
      refine (sValid_yes _ n c l t wr (HH.out.up hbr (Nat.le_refl _) hbr.size) HV.out).mono ?_
      rintro e w1 ⟨rfl, hb1⟩
      have hb2 := hbr.trans (hb1.mono hbr.size)
      clear hb1 hbr
      go_wp2_with fail
      refine (l1In_any _ _ _ _).mono ?_
      rintro e w' ⟨rfl, rfl⟩
      have hbr := hb2
      have hsz := hbr.size
      have hL := HH.out.below hbr (Nat.le_refl _)
      obtain ⟨b', off', e, hbb, c0, c1, c2⟩ := hL.cells k hlt
      simp only [Option.some.injEq, Addr.mk.injEq, and_true] at e
      obtain ⟨rfl, rfl⟩ := e
      have hbw : b0 < w1.heap.size := by omega
      have i1 : (0 : Int) ≤ (k : Int) := by omega
      have i2 : (k : Int) < (n : Int) := by omega
      clear hb2
      by_cases hu : (bk l k).u = true
      · have HS := Lib.hid (Scan_skip hsc (.inl hu))
        rw [hu] at c2
        clear hsc hu hL
        go_wp2
        go_quiet (fail)
        go_wp2
        go_roundw
        case rel => exact ⟨k + 1, _, by omega, by go_num, rfl, HS.out, ⟨hbr.os, hbr.tape, hbr.output, hbr.size, hbr.block⟩⟩
        case measure => simp [intOf]; omega
      · have hu : (bk l k).u = false := by simpa using hu
        by_cases hz : (bk l k).z < sz
        · have HS := Lib.hid (Scan_skip hsc (.inr hz))
          have hz2 : decide (sz ≤ (bk l k).z) = false := by rw [decide_eq_false_iff_not]; omega
          rw [hu] at c2
          clear hsc hu hL hz
          go_wp2
          go_quiet (fail)
          go_wp2
          go_roundw
          case rel => exact ⟨k + 1, _, by omega, by go_num, rfl, HS.out, ⟨hbr.os, hbr.tape, hbr.output, hbr.size, hbr.block⟩⟩
          case measure => simp [intOf]; omega
        · have hz2 : sz ≤ (bk l k).z := by omega
          rcases Scan_pos hsc with ⟨rfl, hs⟩ | ⟨i, rfl, hik, hs⟩
          · have HS := Lib.hid (Scan_new hs hu hz2)
            rw [hu] at c2
            clear hsc hu hL hz hs
            go_wp2
            go_quiet (fail)
            go_wp2
            go_roundw
            case rel => exact ⟨k + 1, _, by omega, by go_num, rfl, HS.out, ⟨hbr.os, hbr.tape, hbr.output, hbr.size, hbr.block⟩⟩
            case measure => simp [intOf]; omega
          · obtain ⟨b'', off'', e, _, _, d1, _⟩ := hL.cells i (by omega)
            simp only [Option.some.injEq, Addr.mk.injEq, and_true] at e
            obtain ⟨rfl, rfl⟩ := e
            have i3 : (0 : Int) ≤ (i : Int) := by omega
            have i4 : (i : Int) < (n : Int) := by omega
            by_cases hl : (bk l k).z < (bk l i).z
            · have HS := Lib.hid (Scan_less hs hu hz2 hl)
              rw [hu] at c2
              clear hsc hu hL hz hs
              go_wp2
              go_quiet (fail)
              go_wp2
              go_roundw
              case rel => exact ⟨k + 1, _, by omega, by go_num, rfl, HS.out, ⟨hbr.os, hbr.tape, hbr.output, hbr.size, hbr.block⟩⟩
              case measure => simp [intOf]; omega
            · have HS := Lib.hid (Scan_keep hs (show (bk l i).z ≤ (bk l k).z by omega))
              have hl2 : decide ((bk l k).z < (bk l i).z) = false := by rw [decide_eq_false_iff_not]; exact hl
              clear hl
              rw [hu] at c2
              clear hsc hu hL hz hs
              go_wp2
              go_quiet (fail)
              go_wp2
              go_roundw
              case rel => exact ⟨k + 1, _, by omega, by go_num, rfl, HS.out, ⟨hbr.os, hbr.tape, hbr.output, hbr.size, hbr.block⟩⟩
              case measure => simp [intOf]; omega
    · have hkn : k = n := by omega
      subst hkn
      have HE := Lib.hid (BestR_uniq (Scan_best (by rw [← HL.out]; exact hsc)) HRR.out)
      clear hsc
      go_wp2
      go_ret
      exact ⟨by rw [← HE.out]; rfl, hbr⟩

end Go.Proofs.Ytidkejmphhpjlaa.Wk
