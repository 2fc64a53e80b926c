/- FirstFit, of the program and of the reference. Conditions: a list that a slice of blocks reads as. -/
import Derived.Test.YtidkejmphhpjlaaBs
import Derived.Test.YtidkejmphhpjlaaBlkMore
namespace Go.Proofs.Ytidkejmphhpjlaa.Wk
open Go.RowKit Go.Proofs.Ytidkejmphhpjlaa.Pl

/-- What FirstFit finds in valid blocks. -/
def ffS (l : List Blk) (sz : Int) : Int := if 1 ≤ sz ∧ sz ≤ 256 then ff l sz else -1

theorem iFirst_no (A : Option Addr) (n c : Nat) (l : List Blk) (t sz : Int) (w : World) (h : Lst w w.heap.size A n l) (hv : ¬ V l t) (hnm : n ≤ 1125899906842624) :
    Calls Try.prog 27 #[.slice A n c, .int .i64 t, .int .i64 sz] w fun e w' => e = .returned (.int .i64 (-1)) ∧ Below w.heap.size w w' := by
  have HC := Lib.hid (iValid_no A n c l t w h hv hnm)
  clear hv
  go_enter Try.func27, Try.ntmps27
  go_wp2_with fail
  refine HC.out.mono ?_
  rintro e w' ⟨rfl, hb⟩
  go_wp2
  go_ret
  exact ⟨rfl, hb⟩

set_option maxHeartbeats 2000000 in
theorem iFirst_yes (A : Option Addr) (n c : Nat) (l : List Blk) (t sz : Int) (w : World) (h : Lst w w.heap.size A n l) (hv : V l t) :
    Calls Try.prog 27 #[.slice A n c, .int .i64 t, .int .i64 sz] w fun e w' => e = .returned (.int .i64 (ffS l sz)) ∧ Below w.heap.size w w' := by
  obtain ⟨hl, ht2, ht1⟩ := V_len hv
  have hn := h.len
  have hn1 : n ≤ 256 := by omega
  have HN := Lib.hid hn
  clear hn
  have HC := Lib.hid (iValid_yes A n c l t w h hv)
  by_cases hs : 1 ≤ sz ∧ sz ≤ 256
  · have hS : decide (1 ≤ sz ∧ sz ≤ 256) = true := by simpa using hs
    rw [ffS, if_pos hs]
    clear hs
    go_enter Try.func27, Try.ntmps27
    go_wp2_with fail
    refine HC.out.mono ?_
    rintro e w1 ⟨rfl, hb1⟩
    clear HC
    go_wp2_with (refine (isTotal_any _ _).mono ?_; rintro e w' ⟨rfl, rfl⟩)
    go_loopw [20] (fun i wr => ∃ k : Nat, k ≤ n ∧ i = .int .i64 k ∧ (∀ j : Nat, j < k → ¬ FitsSize l sz j) ∧ Below w.heap.size w wr) (fun i _ => n - (intOf i).toNat)
    case atStart => exact ⟨0, Nat.zero_le _, rfl, fun j hj => by omega, hb1⟩
    case round =>
      obtain ⟨k, hk, rfl, hno, hb⟩ := hrel
      have HO := Lib.hid hno
      clear hno
      by_cases hlt : k < n
      · have hL := h.below hb (Nat.le_refl _)
        obtain ⟨b, off, rfl, hbb, c0, c1, c2⟩ := hL.cells k hlt
        have hsz := hb.size
        have hbw : b < wr.heap.size := by omega
        have hkl : k < l.length := by have := HN.out; omega
        have hbn := hb
        clear hL
        by_cases hf : FitsSize l sz k
        · have HF := Lib.hid (ff_eq hkl hf HO.out)
          obtain ⟨hu, hz⟩ := hf
          rw [hu] at c2
          clear hu
          go_wp2
          go_ret
          exact ⟨by rw [HF.out]; rfl, hbn.alloc hsz _⟩
        · have HR := Lib.hid (show ∀ j : Nat, j < k + 1 → ¬ FitsSize l sz j from fun j hj => by
            by_cases e : j = k
            · subst e; exact hf
            · exact HO.out j (by omega))
          have hf' : (bk l k).u = true ∨ ((bk l k).u = false ∧ (bk l k).z < sz) := by
            unfold FitsSize at hf
            cases hu : (bk l k).u
            · right; exact ⟨rfl, by rw [hu] at hf; simp at hf; exact hf⟩
            · left; rfl
          clear hf
          rcases hf' with hu | ⟨hu, hz⟩
          · rw [hu] at c2
            clear hu
            go_wp2
            go_roundw
            case rel => exact ⟨k + 1, by omega, by go_num, HR.out, hbn.alloc hsz _⟩
            case measure => simp [intOf]; omega
          · rw [hu] at c2
            clear hu
            go_wp2
            go_roundw
            case rel => exact ⟨k + 1, by omega, by go_num, HR.out, hbn.alloc hsz _⟩
            case measure => simp [intOf]; omega
      · have hkn : k = n := by omega
        subst hkn
        have HF := Lib.hid (ff_none (l := l) (size := sz) (fun j hj => HO.out j (by have := HN.out; omega)))
        clear hlt
        go_wp2
        go_ret
        exact ⟨by rw [HF.out]; rfl, hb⟩
  · have hS : decide (1 ≤ sz ∧ sz ≤ 256) = false := by simpa using hs
    rw [ffS, if_neg hs]
    clear hs
    go_enter Try.func27, Try.ntmps27
    go_wp2_with fail
    refine HC.out.mono ?_
    rintro e w1 ⟨rfl, hb1⟩
    clear HC
    go_wp2_with (refine (isTotal_any _ _).mono ?_; rintro e w' ⟨rfl, rfl⟩)
    go_ret
    exact ⟨rfl, hb1⟩

set_option maxHeartbeats 1000000 in
theorem sFirst_no (A : Option Addr) (n c : Nat) (l : List Blk) (t sz : Int) (w : World) (h : Lst w w.heap.size A n l) (hv : ¬ V l t) (hnm : n ≤ 1125899906842624) :
    Calls Try.prog 29 #[.slice A n c, .int .i64 t, .int .i64 sz] w fun e w' => e = .returned (.int .i64 (-1)) ∧ Below w.heap.size w w' := by
  have HC := Lib.hid (sValid_no A n c l t w h hv hnm)
  clear hv
  by_cases hn0 : n = 0
  · subst hn0
    go_enter Try.func29, Try.ntmps29
    go_wp2
    refine wp_loop_rounds 1 ?_
    rw [rounds_succ]
    go_wp2
    go_ret
    exact ⟨rfl, Below.refl _ _⟩
  · have hn1 : 0 < n := by omega
    clear hn0
    go_enter Try.func29, Try.ntmps29
    go_wp2
    refine wp_loop_rounds 1 ?_
    rw [rounds_succ]
    go_wp2_with fail
    refine HC.out.mono ?_
    rintro e w1 ⟨rfl, hb1⟩
    go_wp2
    go_ret
    exact ⟨rfl, hb1⟩

set_option maxHeartbeats 2000000 in
theorem sFirst_yes (A : Option Addr) (n c : Nat) (l : List Blk) (t sz : Int) (w : World) (h : Lst w w.heap.size A n l) (hv : V l t) :
    Calls Try.prog 29 #[.slice A n c, .int .i64 t, .int .i64 sz] w fun e w' => e = .returned (.int .i64 (ffS l sz)) ∧ Below w.heap.size w w' := by
  obtain ⟨hl, ht2, ht1⟩ := V_len hv
  have hp := V_pos hv
  have hn := h.len
  have hn1 : n ≤ 256 := by omega
  have hn0 : 0 < n := by omega
  have HN := Lib.hid hn
  clear hn
  by_cases hs : 1 ≤ sz ∧ sz ≤ 256
  · have hS : decide (1 ≤ sz ∧ sz ≤ 256) = true := by simpa using hs
    rw [ffS, if_pos hs]
    clear hs
    go_enter Try.func29, Try.ntmps29
    go_wp2
    go_loopw [7] (fun i wr => ∃ k : Nat, k ≤ n ∧ i = .int .i64 k ∧ (∀ j : Nat, j < k → ¬ FitsSize l sz j) ∧ Below w.heap.size w wr) (fun i _ => n - (intOf i).toNat)
    case atStart => exact ⟨0, Nat.zero_le _, rfl, fun j hj => by omega, Below.refl _ _⟩
    case round =>
      obtain ⟨k, hk, rfl, hno, hb⟩ := hrel
      have HO := Lib.hid hno
      clear hno
      by_cases hlt : k < n
      · have HC := Lib.hid (sValid_yes A n c l t wr (⟨h.len, fun j hj => by
          obtain ⟨b, off, e, q, r⟩ := (h.below hb (Nat.le_refl _)).cells j hj
          exact ⟨b, off, e, Nat.lt_of_lt_of_le q hb.size, r⟩⟩) hv)
        go_wp2_with fail
        refine HC.out.mono ?_
        rintro e w1 ⟨rfl, hb1⟩
        clear HC
        have hbn := hb.trans (hb1.mono hb.size)
        have hL := h.below hbn (Nat.le_refl _)
        clear hb hb1
        obtain ⟨b, off, rfl, hbb, c0, c1, c2⟩ := hL.cells k hlt
        have hsz := hbn.size
        have hbw : b < w1.heap.size := by omega
        have hkl : k < l.length := by have := HN.out; omega
        clear hL
        by_cases hf : FitsSize l sz k
        · have HF := Lib.hid (ff_eq hkl hf HO.out)
          obtain ⟨hu, hz⟩ := hf
          rw [hu] at c2
          clear hu
          go_wp2_with (refine (l1In_any _ _ _ _).mono ?_; rintro e w' ⟨rfl, rfl⟩)
          go_ret
          exact ⟨by rw [HF.out]; rfl, hbn⟩
        · have HR := Lib.hid (show ∀ j : Nat, j < k + 1 → ¬ FitsSize l sz j from fun j hj => by
            by_cases e : j = k
            · subst e; exact hf
            · exact HO.out j (by omega))
          have hf' : (bk l k).u = true ∨ ((bk l k).u = false ∧ (bk l k).z < sz) := by
            unfold FitsSize at hf
            cases hu : (bk l k).u
            · right; exact ⟨rfl, by rw [hu] at hf; simp at hf; exact hf⟩
            · left; rfl
          clear hf
          rcases hf' with hu | ⟨hu, hz⟩
          · rw [hu] at c2
            clear hu
            go_wp2_with (refine (l1In_any _ _ _ _).mono ?_; rintro e w' ⟨rfl, rfl⟩)
            go_roundw
            case rel => exact ⟨k + 1, by omega, by go_num, HR.out, hbn⟩
            case measure => simp [intOf]; omega
          · rw [hu] at c2
            clear hu
            go_wp2_with (refine (l1In_any _ _ _ _).mono ?_; rintro e w' ⟨rfl, rfl⟩)
            go_roundw
            case rel => exact ⟨k + 1, by omega, by go_num, HR.out, hbn⟩
            case measure => simp [intOf]; omega
      · have hkn : k = n := by omega
        subst hkn
        have HF := Lib.hid (ff_none (l := l) (size := sz) (fun j hj => HO.out j (by have := HN.out; omega)))
        clear hlt
        go_wp2
        go_ret
        exact ⟨by rw [HF.out]; rfl, hb⟩
  · have hS : decide (1 ≤ sz ∧ sz ≤ 256) = false := by simpa using hs
    rw [ffS, if_neg hs]
    clear hs
    have HC := Lib.hid (sValid_yes A n c l t w h hv)
    go_enter Try.func29, Try.ntmps29
    go_wp2
    refine wp_loop_rounds 1 ?_
    rw [rounds_succ]
    go_wp2_with fail
    refine HC.out.mono ?_
    rintro e w1 ⟨rfl, hb1⟩
    clear HC
    go_wp2_with (refine (l1In_any _ _ _ _).mono ?_; rintro e w' ⟨rfl, rfl⟩)
    go_ret
    exact ⟨rfl, hb1⟩

end Go.Proofs.Ytidkejmphhpjlaa.Wk
