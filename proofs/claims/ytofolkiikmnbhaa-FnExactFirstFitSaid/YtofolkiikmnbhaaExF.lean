/- The exact law of FirstFit: the walk. Conditions: none. -/
import Derived.Test.YtofolkiikmnbhaaFrB
import Derived.Test.YtofolkiikmnbhaaFirst
namespace Go.Proofs.Ytofolkiikmnbhaa.Wk
open Go.RowKit Go.Proofs.Ytofolkiikmnbhaa.Pl

set_option maxHeartbeats 2000000 in
theorem FnExactFirstFit_walk {A : Option Addr} {n c : Nat} {l : List Blk} {t : Int} {sz : Int} {w : World} (h : InBlk w A n l) (_wt : (Lit.int .i64 t).wf = true) (_wsz : (Lit.int .i64 sz).wf = true) :
    Calls Try.prog 8 #[.slice A n c, .int .i64 t, .int .i64 sz] w fun e w' => e = .returned (.bool true) ∧ Below w.heap.size w w' := by
  have hm := h.max
  unfold maxLen at hm
  have hl := h.lst
  clear h
  by_cases hn : n ≤ 1048576
  · have hll : l.length ≤ 1125899906842624 := by have := hl.len; omega
    have hz : 0 ≤ (1048576 : Int) - n := by omega
    by_cases hv : V l t
    · go_enter Try.func8, Try.ntmps8
      go_wp2_with fail
      refine (szBlockS_any A n c w hn).mono ?_
      rintro e w' ⟨rfl, rfl⟩
      go_wp2_with fail
      refine (toBlockS_any A n c l w hl hn).mono ?_
      rintro e w1 ⟨v1, rfl, o1, b1⟩
      obtain ⟨A1, c1, rfl, l1, _⟩ := o1.lst
      go_wp2_with fail
      refine (sFirst_yes A1 l.length c1 l t sz w1 l1 hv).mono ?_
      rintro e w2 ⟨rfl, b2⟩
      have b12 := b1.trans (b2.mono b1.size)
      go_wp2_with fail
      refine (toBlockS_any A n c l w2 (hl.up b12 (Nat.le_refl _) b12.size) hn).mono ?_
      rintro e w3 ⟨v3, rfl, o3, b3⟩
      obtain ⟨A3, c3, rfl, l3, _⟩ := o3.lst
      have b13 := b12.trans (b3.mono b12.size)
      go_wp2_with fail
      refine (iFirst_yes A3 l.length c3 l t sz w3 l3 hv).mono ?_
      rintro e w4 ⟨rfl, b4⟩
      have b14 := b13.trans (b4.mono b13.size)
      go_wp2_with fail
      refine (toBlockS_any A n c l w4 (hl.up b14 (Nat.le_refl _) b14.size) hn).mono ?_
      rintro e w5 ⟨v5, rfl, o5, b5⟩
      obtain ⟨A5, c5, rfl, l5, _⟩ := o5.lst
      have b15 := b14.trans (b5.mono b14.size)
      have b35 := b4.trans (b5.mono b4.size)
      go_wp2_with fail
      refine (eqBlockS_same A3 A5 l.length c3 c5 w5.heap.size w5.heap.size l w5 (l3.up b35 (Nat.le_refl _) b35.size) l5 (Nat.le_refl _) (Nat.le_refl _) hll).mono ?_
      rintro e w6 ⟨rfl, b6⟩
      go_wp2
      go_ret
      exact ⟨rfl, b15.trans (b6.mono b15.size)⟩
    · go_enter Try.func8, Try.ntmps8
      go_wp2_with fail
      refine (szBlockS_any A n c w hn).mono ?_
      rintro e w' ⟨rfl, rfl⟩
      go_wp2_with fail
      refine (toBlockS_any A n c l w hl hn).mono ?_
      rintro e w1 ⟨v1, rfl, o1, b1⟩
      obtain ⟨A1, c1, rfl, l1, _⟩ := o1.lst
      go_wp2_with fail
      refine (sFirst_no A1 l.length c1 l t sz w1 l1 hv hll).mono ?_
      rintro e w2 ⟨rfl, b2⟩
      have b12 := b1.trans (b2.mono b1.size)
      go_wp2_with fail
      refine (toBlockS_any A n c l w2 (hl.up b12 (Nat.le_refl _) b12.size) hn).mono ?_
      rintro e w3 ⟨v3, rfl, o3, b3⟩
      obtain ⟨A3, c3, rfl, l3, _⟩ := o3.lst
      have b13 := b12.trans (b3.mono b12.size)
      go_wp2_with fail
      refine (iFirst_no A3 l.length c3 l t sz w3 l3 hv hll).mono ?_
      rintro e w4 ⟨rfl, b4⟩
      have b14 := b13.trans (b4.mono b13.size)
      go_wp2_with fail
      refine (toBlockS_any A n c l w4 (hl.up b14 (Nat.le_refl _) b14.size) hn).mono ?_
      rintro e w5 ⟨v5, rfl, o5, b5⟩
      obtain ⟨A5, c5, rfl, l5, _⟩ := o5.lst
      have b15 := b14.trans (b5.mono b14.size)
      have b35 := b4.trans (b5.mono b4.size)
      go_wp2_with fail
      refine (eqBlockS_same A3 A5 l.length c3 c5 w5.heap.size w5.heap.size l w5 (l3.up b35 (Nat.le_refl _) b35.size) l5 (Nat.le_refl _) (Nat.le_refl _) hll).mono ?_
      rintro e w6 ⟨rfl, b6⟩
      go_wp2
      go_ret
      exact ⟨rfl, b15.trans (b6.mono b15.size)⟩
  · have hz : (1048576 : Int) - n < 0 := by omega
    go_enter Try.func8, Try.ntmps8
    go_wp2_with fail
    refine (szBlockS_big A n c w (by omega) hm).mono ?_
    rintro e w' ⟨rfl, rfl⟩
    go_wp2
    go_ret
    exact ⟨rfl, Below.refl _ _⟩

end Go.Proofs.Ytofolkiikmnbhaa.Wk
