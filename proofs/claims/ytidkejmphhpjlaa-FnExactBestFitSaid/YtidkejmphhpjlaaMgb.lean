/- The merge of sort.SliceStable: rotate_func walked. Conditions: ranges inside the row, at most 1000000 elements. -/
import Derived.Test.YtidkejmphhpjlaaMga
namespace Go.Proofs.Ytidkejmphhpjlaa.Wk
open Go.RowKit Go.Proofs.Ytidkejmphhpjlaa.Pl

section
variable {α : Type} [Inhabited α]

set_option maxRecDepth 100000 in
set_option maxHeartbeats 2000000 in
theorem rotate_any (enc : α → Value) (gf : Value) (sf : Nat) (sb : Array Value) (blk : Nat) (d d0 : Array α) (w0 W : World) (a m b : Nat) (hswap : SwapSwaps Try.prog sf sb enc blk 0 d.size) (hblk : blk < w0.heap.size) (hH0 : Go.Sort.Holds enc w0 blk 0 d0) (hd0 : d0.size = d.size)
    (hSW : SW enc w0 blk 0 d W) (ham : a < m) (hmb : m < b) (hb : b ≤ d.size) (hsz : d.size ≤ 1000000) :
    Calls Try.prog 72 #[.agg #[gf, .func (.func sf) #[] sb], .int .i64 a, .int .i64 m, .int .i64 b] W fun e w' => e = .returned (.tuple #[]) ∧ ∃ d', SW enc w0 blk 0 d' w' ∧ W.grownBy w' (some blk) ∧ Go.Sort.PermIn a b d d' ∧ d'.size = d.size ∧ ∀ k, d'[k]! = d[rotI a m b k]! := by
  have hbW : blk < W.heap.size := hSW.lt hblk
  have HS := Lib.hid (hSW.alloc (.cells #[gf, .func (.func sf) #[] sb] 74))
  have HB0 := Lib.hid ((Bk.new W #[gf, .func (.func sf) #[] sb] 74).cell 0)
  have HB1 := Lib.hid ((Bk.new W #[gf, .func (.func sf) #[] sb] 74).cell 1)
  clear hSW
  go_enter Try.func72, Try.ntmps72
  go_wp2
  go_loopw [8, 9] (fun vi vj wr => ∃ (i j : Nat) (dj : Array α), vi = .int .i64 i ∧ vj = .int .i64 j ∧ 0 < i ∧ 0 < j ∧ i ≤ m ∧ m + j ≤ b ∧ SW enc w0 blk 0 dj wr ∧ (W.alloc (.cells #[gf, .func (.func sf) #[] sb] 74)).grownBy wr (some blk) ∧ a ≤ m - i ∧ Go.Sort.PermIn a b d dj ∧ dj.size = d.size ∧ ∀ k, d[rotI a m b k]! = dj[rotI (m - i) m (m + j) k]!) (fun vi vj _ => (intOf vi).toNat + (intOf vj).toNat)
  case atStart => exact ⟨m - a, b - m, d, by go_num, by go_num, by omega, by omega, by omega, by omega, HS.out, gb_refl _ _, by omega, Go.Sort.permIn_refl _ _ _, rfl, fun k => by rw [show m - (m - a) = a by omega, show m + (b - m) = b by omega]⟩
  case round =>
    obtain ⟨i, j, dj, rfl, rfl, hi0, hj0, him, hjb, hS, hG, hai, hP, hsj, hI⟩ := hrel
    have HP := Lib.hid hP
    clear hP
    have HI := Lib.hid hI
    have HSj := Lib.hid hS
    have c0 : wr.cell? ⟨W.heap.size, 0, none⟩ = some gf := gb_cell hG (by simp) (by omega) HB0.out
    have c1 : wr.cell? ⟨W.heap.size, 1, none⟩ = some (.func (.func sf) #[] sb) := gb_cell hG (by simp) (by omega) HB1.out
    clear hI hS
    by_cases hij : i = j
    · subst hij
      have HC := Lib.hid (swapRange_any enc gf sf sb blk dj d0 w0 wr (m - i) m i (by rw [hsj]; exact hswap) hblk hH0 (by omega) HSj.out (by omega) (by omega) (by omega))
      rw [show ((m - i : Nat) : Int) = (m : Int) - (i : Int) by omega] at HC
      go_wp2_with fail
      refine HC.out.mono ?_
      rintro e w' ⟨rfl, d', hS', hG', hp', hs', hd'⟩
      go_wp2
      go_end0
      refine ⟨rfl, d', hS', gb_trans (gb_trans (gb_alloc _ _ _) hG) hG', Go.Sort.permIn_trans _ _ _ _ _ HP.out (Go.Sort.permIn_mono _ _ _ _ _ _ (by omega) (by omega) (by omega) hp'), by omega, fun k => ?_⟩
      rw [hd' k, rot_last him, HI.out]
    · have q1 : ((i : Int) != (j : Int)) = true := by rw [bne_iff_ne]; omega
      have q2 : (i != j) = true := by rw [bne_iff_ne]; exact hij
      by_cases hlt : j < i
      · have HC := Lib.hid (swapRange_any enc gf sf sb blk dj d0 w0 wr (m - i) m j (by rw [hsj]; exact hswap) hblk hH0 (by omega) HSj.out (by omega) (by omega) (by omega))
        rw [show ((m - i : Nat) : Int) = (m : Int) - (i : Int) by omega] at HC
        have q3 : (j : Int) < (i : Int) := by omega
        clear hij
        go_wp2_with fail
        refine HC.out.mono ?_
        rintro e w' ⟨rfl, d', hS', hG', hp', hs', hd'⟩
        go_wp2
        go_roundw
        case rel =>
          refine ⟨i - j, j, d', by go_num, rfl, by omega, hj0, by omega, hjb, hS', gb_trans hG hG', by omega, Go.Sort.permIn_trans _ _ _ _ _ HP.out (Go.Sort.permIn_mono _ _ _ _ _ _ (by omega) (by omega) (by omega) hp'), by omega, fun k => ?_⟩
          rw [hd', rot_more him hlt hj0, HI.out]
        case measure => simp [intOf]; omega
      · have HC := Lib.hid (swapRange_any enc gf sf sb blk dj d0 w0 wr (m - i) (m + j - i) i (by rw [hsj]; exact hswap) hblk hH0 (by omega) HSj.out (by omega) (by omega) (by omega))
        rw [show ((m - i : Nat) : Int) = (m : Int) - (i : Int) by omega, show ((m + j - i : Nat) : Int) = (m : Int) + (j : Int) - (i : Int) by omega] at HC
        have q3 : ¬ (j : Int) < (i : Int) := by omega
        have q4 : i < j := by omega
        clear hij
        go_wp2_with fail
        refine HC.out.mono ?_
        rintro e w' ⟨rfl, d', hS', hG', hp', hs', hd'⟩
        go_wp2
        go_roundw
        case rel =>
          refine ⟨i, j - i, d', rfl, by go_num, hi0, by omega, him, by omega, hS', gb_trans hG hG', by omega, Go.Sort.permIn_trans _ _ _ _ _ HP.out (Go.Sort.permIn_mono _ _ _ _ _ _ (by omega) (by omega) (by omega) hp'), by omega, fun k => ?_⟩
          rw [hd', rot_less him q4 hi0, HI.out]
        case measure => simp [intOf]; omega

end
end Go.Proofs.Ytidkejmphhpjlaa.Wk
