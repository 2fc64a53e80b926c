/- FnExactBestFit: the walk. Conditions: none. -/
import Derived.Test.YtidkejmphhpjlaaBtj
import Derived.Test.YtidkejmphhpjlaaBts
import Derived.Test.YtidkejmphhpjlaaFrB
import Derived.Test.YtidkejmphhpjlaaCopy
namespace Go.Proofs.Ytidkejmphhpjlaa.Wk
open Go.RowKit Go.Proofs.Ytidkejmphhpjlaa.Pl

/-- What the best fit answers on valid blocks. -/
noncomputable def bestV (l : List Blk) (sz : Int) : Int := if 1 ≤ sz ∧ sz ≤ 256 then Classical.choose (BestR_ex l sz) else -1
theorem bestV_in {l : List Blk} {sz : Int} (h : 1 ≤ sz ∧ sz ≤ 256) : BestR l sz (bestV l sz) := by
  unfold bestV; rw [if_pos h]; exact Classical.choose_spec (BestR_ex l sz)
theorem bestV_out {l : List Blk} {sz : Int} (h : ¬ (1 ≤ sz ∧ sz ≤ 256)) : bestV l sz = -1 := by
  unfold bestV; rw [if_neg h]

theorem sBest_yes (A : Option Addr) (n c : Nat) (l : List Blk) (t sz : Int) (w : World) (h : Lst w w.heap.size A n l) (hv : V l t) :
    Calls Try.prog 16 #[.slice A n c, .int .i64 t, .int .i64 sz] w fun e w' => e = .returned (.int .i64 (bestV l sz)) ∧ Below w.heap.size w w' := by
  obtain ⟨b, off, rfl, _⟩ := h.cells 0 (by have := V_pos hv; have := h.len; omega)
  by_cases hs : 1 ≤ sz ∧ sz ≤ 256
  · exact sBest_in b off n c l t sz _ w h hv hs (bestV_in hs)
  · rw [bestV_out hs]; exact sBest_out _ n c l t sz w h hv hs
theorem iBest_yes (A : Option Addr) (n c : Nat) (l : List Blk) (t sz : Int) (w : World) (h : Lst w w.heap.size A n l) (hv : V l t) :
    Calls Try.prog 18 #[.slice A n c, .int .i64 t, .int .i64 sz] w fun e w' => e = .returned (.int .i64 (bestV l sz)) ∧ Below w.heap.size w w' := by
  obtain ⟨b, off, rfl, _⟩ := h.cells 0 (by have := V_pos hv; have := h.len; omega)
  by_cases hs : 1 ≤ sz ∧ sz ≤ 256
  · obtain ⟨K, rfl⟩ : ∃ K, n = K + 1 := ⟨n - 1, by have := V_pos hv; have := h.len; omega⟩
    exact iBest_all b off c K l t sz _ w h (by have := V_len hv; have := h.len; omega) hv hs (bestV_in hs)
  · rw [bestV_out hs]; exact iBest_out _ n c l t sz w h hv hs

set_option maxHeartbeats 2000000 in
theorem FnExactBestFit_walk {A : Option Addr} {n c : Nat} {l : List Blk} {t : Int} {sz : Int} {w : World} (h : InBlk w A n l) (_wt : (Lit.int .i64 t).wf = true) (_wsz : (Lit.int .i64 sz).wf = true) :
    Calls Try.prog 3 #[.slice A n c, .int .i64 t, .int .i64 sz] w fun e w' => e = .returned (.bool true) ∧ Below w.heap.size w w' := by
  have hm := h.max
  unfold maxLen at hm
  have hl := h.lst
  clear h
  by_cases hn : n ≤ 1048576
  · have hll : l.length ≤ 1125899906842624 := by have := hl.len; omega
    have hz : 0 ≤ (1048576 : Int) - n := by omega
    by_cases hv : V l t
    · go_enter Try.func3, Try.ntmps3
      go_wp2_with fail
      refine (szBlockS_any A n c w hn).mono ?_
      rintro e w' ⟨rfl, rfl⟩
      go_wp2_with fail
      refine (toBlockS_any A n c l w hl hn).mono ?_
      rintro e w1 ⟨v1, rfl, o1, b1⟩
      obtain ⟨A1, c1, rfl, l1, _⟩ := o1.lst
      go_wp2_with fail
      refine (sBest_yes A1 l.length c1 l t sz w1 l1 hv).mono ?_
      rintro e w2 ⟨rfl, b2⟩
      have b12 := b1.trans (b2.mono b1.size)
      go_wp2_with fail
      refine (toBlockS_any A n c l w2 (hl.up b12 (Nat.le_refl _) b12.size) hn).mono ?_
      rintro e w3 ⟨v3, rfl, o3, b3⟩
      obtain ⟨A3, c3, rfl, l3, _⟩ := o3.lst
      have b13 := b12.trans (b3.mono b12.size)
      go_wp2_with fail
      refine (iBest_yes A3 l.length c3 l t sz w3 l3 hv).mono ?_
      rintro e w4 ⟨rfl, b4⟩
      have b14 := b13.trans (b4.mono b13.size)
      go_wp2_with fail
      refine (toBlockS_any A n c l w4 (hl.up b14 (Nat.le_refl _) b14.size) hn).mono ?_
      rintro e w5 ⟨v5, rfl, o5, b5⟩
      obtain ⟨A5, c5, rfl, l5, _⟩ := o5.lst
      have b15 := b14.trans (b5.mono b14.size)
      have b35 := b4.trans (b5.mono b4.size)
      go_wp2_with fail
      refine (eqBlockS_same A3 A5 l.length c3 c5 w5.heap.size w5.heap.size l w5 (l3.up b35 (Nat.le_refl _) b35.size) l5 (Nat.le_refl _) (Nat.le_refl _) hll).mono ?_
      rintro e w6 ⟨rfl, b6⟩
      go_wp2
      go_ret
      exact ⟨rfl, b15.trans (b6.mono b15.size)⟩
    · go_enter Try.func3, Try.ntmps3
      go_wp2_with fail
      refine (szBlockS_any A n c w hn).mono ?_
      rintro e w' ⟨rfl, rfl⟩
      go_wp2_with fail
      refine (toBlockS_any A n c l w hl hn).mono ?_
      rintro e w1 ⟨v1, rfl, o1, b1⟩
      obtain ⟨A1, c1, rfl, l1, _⟩ := o1.lst
      go_wp2_with fail
      refine (sBest_inv A1 l.length c1 l t sz w1 l1 hv hll).mono ?_
      rintro e w2 ⟨rfl, b2⟩
      have b12 := b1.trans (b2.mono b1.size)
      go_wp2_with fail
      refine (toBlockS_any A n c l w2 (hl.up b12 (Nat.le_refl _) b12.size) hn).mono ?_
      rintro e w3 ⟨v3, rfl, o3, b3⟩
      obtain ⟨A3, c3, rfl, l3, _⟩ := o3.lst
      have b13 := b12.trans (b3.mono b12.size)
      go_wp2_with fail
      refine (iBest_inv A3 l.length c3 l t sz w3 l3 hv hll).mono ?_
      rintro e w4 ⟨rfl, b4⟩
      have b14 := b13.trans (b4.mono b13.size)
      go_wp2_with fail
      refine (toBlockS_any A n c l w4 (hl.up b14 (Nat.le_refl _) b14.size) hn).mono ?_
      rintro e w5 ⟨v5, rfl, o5, b5⟩
      obtain ⟨A5, c5, rfl, l5, _⟩ := o5.lst
      have b15 := b14.trans (b5.mono b14.size)
      have b35 := b4.trans (b5.mono b4.size)
      go_wp2_with fail
      refine (eqBlockS_same A3 A5 l.length c3 c5 w5.heap.size w5.heap.size l w5 (l3.up b35 (Nat.le_refl _) b35.size) l5 (Nat.le_refl _) (Nat.le_refl _) hll).mono ?_
      rintro e w6 ⟨rfl, b6⟩
      go_wp2
      go_ret
      exact ⟨rfl, b15.trans (b6.mono b15.size)⟩
  · have hz : (1048576 : Int) - n < 0 := by omega
    go_enter Try.func3, Try.ntmps3
    go_wp2_with fail
    refine (szBlockS_big A n c w (by omega) hm).mono ?_
    rintro e w' ⟨rfl, rfl⟩
    go_wp2
    go_ret
    exact ⟨rfl, Below.refl _ _⟩


end Go.Proofs.Ytidkejmphhpjlaa.Wk
