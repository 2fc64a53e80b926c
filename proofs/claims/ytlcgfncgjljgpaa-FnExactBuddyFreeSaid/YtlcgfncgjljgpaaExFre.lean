/- The exact law of BuddyFree: the walk. Conditions: none. -/
import Derived.Test.YtlcgfncgjljgpaaFre
import Derived.Test.YtlcgfncgjljgpaaFrU
namespace Go.Proofs.Ytlcgfncgjljgpaa.Wu
open Go.RowKit Go.Proofs.Ytlcgfncgjljgpaa.Pl Go.Proofs.Ytlcgfncgjljgpaa.Wk

theorem FnExactBuddyFree_big {A : Option Addr} {n c : Nat} {l : List Blk} {p : Int} {w : World} (h : InBud w A n l) (hn : 1048576 < n) :
    Calls Try.prog 7 #[.slice A n c, .int .i64 p] w fun e w' => e = .returned (.bool true) ∧ Below w.heap.size w w' := by
  have hm := h.max
  unfold maxLen at hm
  have hz : (1048576 : Int) - n < 0 := by omega
  clear h
  go_enter Try.func7, Try.ntmps7
  go_wp2_with fail
  refine (szBuddyS_big A n c w (by omega) hm).mono ?_
  rintro e w' ⟨rfl, rfl⟩
  go_wp2
  go_ret
  exact ⟨rfl, Below.refl _ _⟩

set_option maxHeartbeats 2000000 in
theorem FnExactBuddyFree_core {A : Option Addr} {n c : Nat} {l : List Blk} {p : Int} {w : World} (h : InBud w A n l) (hn : n ≤ 1048576) (r : Int)
    (CS0 : ∀ (A : Option Addr) (c : Nat) (w : World), Lst w w.heap.size A l.length l → Calls Try.prog 24 #[.slice A l.length c, .int .i64 p] w fun e w' => e = .returned (.int .i64 r) ∧ Below w.heap.size w w')
    (CI0 : ∀ (A : Option Addr) (c : Nat) (w : World), Lst w w.heap.size A l.length l → Calls Try.prog 25 #[.slice A l.length c, .int .i64 p] w fun e w' => e = .returned (.int .i64 r) ∧ Below w.heap.size w w') :
    Calls Try.prog 7 #[.slice A n c, .int .i64 p] w fun e w' => e = .returned (.bool true) ∧ Below w.heap.size w w' := by
  have hl := h.lst
  have CS := Lib.hid CS0
  have CI := Lib.hid CI0
  have hll : l.length ≤ 1125899906842624 := by have := hl.len; omega
  have hz : 0 ≤ (1048576 : Int) - n := by omega
  clear h CS0 CI0
  all_goals
    go_enter Try.func7, Try.ntmps7
    go_wp2_with fail
    refine (szBuddyS_any A n c w hn).mono ?_
    rintro e w' ⟨rfl, rfl⟩
    go_wp2_with fail
    refine (toBuddyS_any A n c l w hl hn).mono ?_
    rintro e w1 ⟨v1, rfl, o1, b1⟩
    obtain ⟨A1, c1, rfl, l1, _⟩ := o1.lst
    clear o1
    go_wp2_with fail
    refine (CS.out A1 c1 w1 l1).mono ?_
    rintro e w2 ⟨rfl, b2⟩
    have B2 := b1.trans (b2.mono b1.size)
    clear l1 b1 b2
    go_wp2_with fail
    refine (toBuddyS_any A n c l w2 (hl.up B2 (Nat.le_refl _) B2.size) hn).mono ?_
    rintro e w3 ⟨v3, rfl, o3, b3⟩
    obtain ⟨A3, c3, rfl, l3, _⟩ := o3.lst
    have B3 := B2.trans (b3.mono B2.size)
    clear b3 o3 B2
    go_wp2_with fail
    refine (CI.out A3 c3 w3 l3).mono ?_
    rintro e w4 ⟨rfl, b4⟩
    have l4 := l3.up b4 (Nat.le_refl _) b4.size
    have B4 := B3.trans (b4.mono B3.size)
    clear b4 B3 l3
    go_wp2_with fail
    refine (toBuddyS_any A n c l w4 (hl.up B4 (Nat.le_refl _) B4.size) hn).mono ?_
    rintro e w5 ⟨v5, rfl, o5, b5⟩
    obtain ⟨A5, c5, rfl, l5, _⟩ := o5.lst
    have l6 := l4.up b5 (Nat.le_refl _) b5.size
    have B5 := B4.trans (b5.mono B4.size)
    clear b5 B4 o5 l4
    go_wp2_with fail
    refine (eqBuddyS_same A3 A5 l.length c3 c5 _ _ l w5 l6 l5 (Nat.le_refl _) (Nat.le_refl _) hll).mono ?_
    rintro e w6 ⟨rfl, b6⟩
    go_wp2
    go_ret
    exact ⟨rfl, B5.trans (b6.mono B5.size)⟩

theorem FnExactBuddyFree_walk {A : Option Addr} {n c : Nat} {l : List Blk} {p : Int} {w : World} (h : InBud w A n l) (_ : (Lit.int .i64 p).wf = true) :
    Calls Try.prog 7 #[.slice A n c, .int .i64 p] w fun e w' => e = .returned (.bool true) ∧ Below w.heap.size w w' := by
  by_cases hn : n ≤ 1048576
  · have e := h.lst.len
    by_cases hv : VU l p
    · exact FnExactBuddyFree_core h hn (fwU l) (fun A c w hw => sBFree_yes A l.length c l p w hw hv) (fun A c w hw => iBFree_yes A l.length c l p w hw hv)
    · exact FnExactBuddyFree_core h hn (-1) (fun A c w hw => sBFree_no A l.length c l p w hw hv (by omega)) (fun A c w hw => iBFree_no A l.length c l p w hw hv (by omega))
  · exact FnExactBuddyFree_big h (by omega)

end Go.Proofs.Ytlcgfncgjljgpaa.Wu
