/- FreeWords of the reference. Conditions: a list that a slice of blocks reads as. -/
import Derived.Test.YtidkejmphhpjlaaBs
import Derived.Test.YtidkejmphhpjlaaBfi
namespace Go.Proofs.Ytidkejmphhpjlaa.Wk
open Go.RowKit Go.Proofs.Ytidkejmphhpjlaa.Pl

set_option maxHeartbeats 2000000 in
theorem sFree_yes (A : Option Addr) (n c : Nat) (l : List Blk) (t : Int) (w : World) (h : Lst w w.heap.size A n l) (hv : V l t) :
    Calls Try.prog 33 #[.slice A n c, .int .i64 t] w fun e w' => e = .returned (.int .i64 (fw l)) ∧ Below w.heap.size w w' := by
  obtain ⟨hl, ht2, ht1⟩ := V_len hv
  have hn := h.len
  have hn1 : n ≤ 256 := by omega
  have HN := Lib.hid hn
  clear hn
  have HC := Lib.hid (sValid_yes A n c l t w h hv)
  go_enter Try.func33, Try.ntmps33
  go_wp2_with fail
  refine HC.out.mono ?_
  rintro e w1 ⟨rfl, hb1⟩
  clear HC
  go_wp2
  go_loopw [5, 6] (fun v i wr => ∃ k : Nat, k ≤ n ∧ i = .int .i64 k ∧ v = .int .i64 (fw (l.take k)) ∧ Below w.heap.size w wr) (fun _ i _ => n - (intOf i).toNat)
  case atStart => exact ⟨0, Nat.zero_le _, rfl, rfl, hb1⟩
  case round =>
    obtain ⟨k, hk, rfl, rfl, hb⟩ := hrel
    have hfb := fw_take_bd hv k
    obtain ⟨hf0, hf1⟩ := hfb
    by_cases hlt : k < n
    · have hL := h.below hb (Nat.le_refl _)
      obtain ⟨b, off, rfl, hbb, c0, c1, c2⟩ := hL.cells k hlt
      have hsz := hb.size
      have hbw : b < wr.heap.size := by omega
      have hkl : k < l.length := by have := HN.out; omega
      obtain ⟨_, hz1, hz2⟩ := V_blk hv hkl
      have HF := Lib.hid (fw_take hkl)
      have hz3 : (bk l k).z ≤ 256 := by have := V_blk hv hkl; omega
      clear hz2
      have hbn := hb
      clear hL
      generalize fw (l.take k) = F0 at HF hf0 hf1
      generalize (bk l k).u = uk at c2 HF
      cases uk
      · go_wp2
        go_roundw
        case rel => exact ⟨k + 1, by omega, by go_num, by rw [HF.out]; simp, hbn⟩
        case measure => simp [intOf]; omega
      · go_wp2
        go_roundw
        case rel => exact ⟨k + 1, by omega, by go_num, by rw [HF.out]; simp, hbn⟩
        case measure => simp [intOf]; omega
    · have hkn : k = n := by omega
      subst hkn
      have E1 : Hid (l.take k = l) := Lib.hid (by rw [HN.out, List.take_length])
      clear hlt
      go_wp2
      go_ret
      exact ⟨by show Ending.returned (.int .i64 (fw (l.take k))) = _; rw [E1.out], hb⟩

theorem sFree_no (A : Option Addr) (n c : Nat) (l : List Blk) (t : Int) (w : World) (h : Lst w w.heap.size A n l) (hv : ¬ V l t) (hnm : n ≤ 1125899906842624) :
    Calls Try.prog 33 #[.slice A n c, .int .i64 t] w fun e w' => e = .returned (.int .i64 (-1)) ∧ Below w.heap.size w w' := by
  have HC := Lib.hid (sValid_no A n c l t w h hv hnm)
  clear hv
  go_enter Try.func33, Try.ntmps33
  go_wp2_with fail
  refine HC.out.mono ?_
  rintro e w' ⟨rfl, hb⟩
  go_wp2
  go_ret
  exact ⟨rfl, hb⟩

end Go.Proofs.Ytidkejmphhpjlaa.Wk
