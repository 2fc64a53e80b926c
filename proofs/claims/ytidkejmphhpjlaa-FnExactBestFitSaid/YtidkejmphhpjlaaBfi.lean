/- FreeWords of the program; the laws' fixed answer. Conditions: a list that a slice of blocks reads as. -/
import Derived.Test.YtidkejmphhpjlaaBw
namespace Go.Proofs.Ytidkejmphhpjlaa.Wk
open Go.RowKit Go.Proofs.Ytidkejmphhpjlaa.Pl

theorem fw_take_bd {l : List Blk} {t : Int} (hv : V l t) (k : Nat) : 0 ≤ fw (l.take k) ∧ fw (l.take k) ≤ 256 := by
  obtain ⟨e, h, h0, h1⟩ := V_prefix hv k
  have := fw_bd h
  have := hv.2.1
  omega
theorem lf_take_bd {l : List Blk} {t : Int} (hv : V l t) (k : Nat) : 0 ≤ lf (l.take k) ∧ lf (l.take k) ≤ 256 := by
  obtain ⟨e, h, h0, h1⟩ := V_prefix hv k
  have := fw_bd h
  have := lf_le_fw h
  have := lf_nonneg (l.take k)
  have := hv.2.1
  omega

set_option maxHeartbeats 2000000 in
theorem iFree_yes (A : Option Addr) (n c : Nat) (l : List Blk) (t : Int) (w : World) (h : Lst w w.heap.size A n l) (hv : V l t) :
    Calls Try.prog 31 #[.slice A n c, .int .i64 t] w fun e w' => e = .returned (.int .i64 (fw l)) ∧ Below w.heap.size w w' := by
  obtain ⟨hl, ht2, ht1⟩ := V_len hv
  have hn := h.len
  have hn1 : n ≤ 256 := by omega
  have HN := Lib.hid hn
  clear hn
  have HC := Lib.hid (iValid_yes A n c l t w h hv)
  go_enter Try.func31, Try.ntmps31
  go_wp2_with fail
  refine HC.out.mono ?_
  rintro e w1 ⟨rfl, hb1⟩
  clear HC
  go_wp2
  go_loopw [5, 14] (fun v i wr => ∃ k : Nat, k ≤ n ∧ i = .int .i64 k ∧ v = .int .i64 (fw (l.take k)) ∧ Below w.heap.size w wr) (fun _ i _ => n - (intOf i).toNat)
  case atStart => exact ⟨0, Nat.zero_le _, rfl, rfl, hb1⟩
  case round =>
    obtain ⟨k, hk, rfl, rfl, hb⟩ := hrel
    have hfb := fw_take_bd hv k
    obtain ⟨hf0, hf1⟩ := hfb
    by_cases hlt : k < n
    · have hL := h.below hb (Nat.le_refl _)
      obtain ⟨b, off, rfl, hbb, c0, c1, c2⟩ := hL.cells k hlt
      have hsz := hb.size
      have hbw : b < wr.heap.size := by omega
      have hkl : k < l.length := by have := HN.out; omega
      obtain ⟨_, hz1, hz2⟩ := V_blk hv hkl
      have HF := Lib.hid (fw_take hkl)
      have hz3 : (bk l k).z ≤ 256 := by have := V_blk hv hkl; omega
      clear hz2
      have hbn := hb
      clear hL
      generalize fw (l.take k) = F0 at HF hf0 hf1
      generalize (bk l k).u = uk at c2 HF
      cases uk
      · go_wp2
        go_roundw
        case rel => exact ⟨k + 1, by omega, by go_num, by rw [HF.out]; simp, hbn.alloc hsz _⟩
        case measure => simp [intOf]; omega
      · go_wp2
        go_roundw
        case rel => exact ⟨k + 1, by omega, by go_num, by rw [HF.out]; simp, hbn.alloc hsz _⟩
        case measure => simp [intOf]; omega
    · have hkn : k = n := by omega
      subst hkn
      have E1 : Hid (l.take k = l) := Lib.hid (by rw [HN.out, List.take_length])
      clear hlt
      go_wp2
      go_ret
      exact ⟨by show Ending.returned (.int .i64 (fw (l.take k))) = _; rw [E1.out], hb⟩

theorem iFree_no (A : Option Addr) (n c : Nat) (l : List Blk) (t : Int) (w : World) (h : Lst w w.heap.size A n l) (hv : ¬ V l t) (hnm : n ≤ 1125899906842624) :
    Calls Try.prog 31 #[.slice A n c, .int .i64 t] w fun e w' => e = .returned (.int .i64 (-1)) ∧ Below w.heap.size w w' := by
  have HC := Lib.hid (iValid_no A n c l t w h hv hnm)
  clear hv
  go_enter Try.func31, Try.ntmps31
  go_wp2_with fail
  refine HC.out.mono ?_
  rintro e w' ⟨rfl, hb⟩
  go_wp2
  go_ret
  exact ⟨rfl, hb⟩

theorem alive_any (w : World) : Calls Try.prog 28 #[] w fun e w' => e = .returned (.bool true) ∧ Below w.heap.size w w' := by
  have hv : V [⟨0, 3, false⟩] 3 := by simp [V, Ok]
  go_enter Try.func28, Try.ntmps28
  go_wp2_with fail
  have hL : Lst (w.alloc (.cells #[.int .i64 0, .int .i64 3, .bool false] 39)) (w.heap.size + 1) (some ⟨w.heap.size, 0, none⟩) 1 [⟨0, 3, false⟩] :=
    ⟨rfl, fun k hk => by
      obtain rfl : k = 0 := by omega
      exact ⟨w.heap.size, 0, rfl, by omega, by simp [bk], by simp [bk], by simp [bk]⟩⟩
  refine (iFree_yes _ _ _ _ _ _ (by simpa using hL) hv).mono ?_
  rintro e w1 ⟨rfl, hb⟩
  have HE := Lib.hid (show fw [⟨0, 3, false⟩] = 3 by simp [fw])
  generalize fw [⟨0, 3, false⟩] = F at HE
  obtain rfl := HE.out
  clear HE
  go_wp2
  go_ret
  exact ⟨rfl, ((Below.refl _ _).alloc (Nat.le_refl _) _).trans (hb.mono (by simp))⟩

end Go.Proofs.Ytidkejmphhpjlaa.Wk
