/- BlockAt: one result for both; its exact law. Conditions: none. -/
import Derived.Test.YtofolkiikmnbhaaBab
namespace Go.Proofs.Ytofolkiikmnbhaa.Wk
open Go.RowKit Go.Proofs.Ytofolkiikmnbhaa.Pl

theorem at_yes (A : Option Addr) (n c : Nat) (l : List Blk) (t x r : Int) (w : World) (h : Lst w w.heap.size A n l) (hv : V l t) (hr : BAt l x r) :
    Calls Try.prog 53 #[.slice A n c, .int .i64 t, .int .i64 x] w fun e w' => e = .returned (.int .i64 r) ∧ Below w.heap.size w w' := by
  have hp := V_pos hv
  obtain ⟨b, off, rfl⟩ := lst_some h (by have := h.len; omega)
  by_cases hx : x < 0 ∨ t ≤ x
  · have e : r = -1 := by
      rcases hr with ⟨h, _⟩ | ⟨k, _, hk⟩
      · exact h
      · rcases BAt_out hv hx with ⟨_, hn⟩ | ⟨k', h', _⟩
        · exact absurd hk (hn k)
        · omega
    rw [e]
    exact iAt_out b off n c l t x w h hv hx
  · obtain ⟨k, _, hk⟩ := BAt_in hv (show 0 ≤ x by omega) (by omega)
    rw [BAt_hit hv hr hk]
    exact iAt_in b off n c k l t x w h hv (by omega) (by omega) hk
theorem sat_yes (A : Option Addr) (n c : Nat) (l : List Blk) (t x r : Int) (w : World) (h : Lst w w.heap.size A n l) (hv : V l t) (hr : BAt l x r) :
    Calls Try.prog 52 #[.slice A n c, .int .i64 t, .int .i64 x] w fun e w' => e = .returned (.int .i64 r) ∧ Below w.heap.size w w' := by
  have hp := V_pos hv
  obtain ⟨b, off, rfl⟩ := lst_some h (by have := h.len; omega)
  exact sAt_yes b off n c l t x r w h hv hr
theorem BAt_any {l : List Blk} {t : Int} (hv : V l t) (x : Int) : ∃ r, BAt l x r := by
  by_cases hx : x < 0 ∨ t ≤ x
  · exact ⟨_, BAt_out hv hx⟩
  · obtain ⟨k, h, _⟩ := BAt_in hv (show 0 ≤ x by omega) (by omega)
    exact ⟨_, h⟩
/-- One result. -/
theorem at_both (l : List Blk) (t x : Int) (hl : l.length ≤ 1125899906842624) : ∃ r : Int,
    (∀ (A : Option Addr) (c : Nat) (w : World), Lst w w.heap.size A l.length l → Calls Try.prog 52 #[.slice A l.length c, .int .i64 t, .int .i64 x] w fun e w' => e = .returned (.int .i64 r) ∧ Below w.heap.size w w') ∧
    (∀ (A : Option Addr) (c : Nat) (w : World), Lst w w.heap.size A l.length l → Calls Try.prog 53 #[.slice A l.length c, .int .i64 t, .int .i64 x] w fun e w' => e = .returned (.int .i64 r) ∧ Below w.heap.size w w') := by
  by_cases hv : V l t
  · obtain ⟨r, hr⟩ := BAt_any hv x
    exact ⟨r, fun A c w h => sat_yes A _ c l t x r w h hv hr, fun A c w h => at_yes A _ c l t x r w h hv hr⟩
  · exact ⟨-1, fun A c w h => sAt_inv A _ c l t x w h hv hl, fun A c w h => iAt_inv A _ c l t x w h hv hl⟩

set_option maxHeartbeats 2000000 in
theorem FnExactBlockAt_walk {A : Option Addr} {n c : Nat} {l : List Blk} {t x : Int} {w : World} (h : InBlk w A n l) (_wt : (Lit.int .i64 t).wf = true) (_wx : (Lit.int .i64 x).wf = true) :
    Calls Try.prog 12 #[.slice A n c, .int .i64 t, .int .i64 x] w fun e w' => e = .returned (.bool true) ∧ Below w.heap.size w w' := by
  have hm := h.max
  unfold maxLen at hm
  have hl := h.lst
  clear h
  by_cases hn : n ≤ 1048576
  · have hll : l.length ≤ 1125899906842624 := by have := hl.len; omega
    have hz : 0 ≤ (1048576 : Int) - n := by omega
    obtain ⟨r, CS0, CI0⟩ := at_both l t x hll
    have CS := Lib.hid CS0
    have CI := Lib.hid CI0
    clear CS0 CI0
    go_enter Try.func12, Try.ntmps12
    go_wp2_with fail
    refine (szBlockS_any A n c w hn).mono ?_
    rintro e w' ⟨rfl, rfl⟩
    go_wp2_with fail
    refine (toBlockS_any A n c l w hl hn).mono ?_
    rintro e w1 ⟨v1, rfl, o1, b1⟩
    obtain ⟨A1, c1, rfl, l1, _⟩ := o1.lst
    go_wp2_with fail
    refine (CS.out A1 c1 w1 l1).mono ?_
    rintro e w2 ⟨rfl, b2⟩
    have b12 := b1.trans (b2.mono b1.size)
    go_wp2_with fail
    refine (toBlockS_any A n c l w2 (hl.up b12 (Nat.le_refl _) b12.size) hn).mono ?_
    rintro e w3 ⟨v3, rfl, o3, b3⟩
    obtain ⟨A3, c3, rfl, l3, _⟩ := o3.lst
    have b13 := b12.trans (b3.mono b12.size)
    go_wp2_with fail
    refine (CI.out A3 c3 w3 l3).mono ?_
    rintro e w4 ⟨rfl, b4⟩
    have b14 := b13.trans (b4.mono b13.size)
    go_wp2_with fail
    refine (toBlockS_any A n c l w4 (hl.up b14 (Nat.le_refl _) b14.size) hn).mono ?_
    rintro e w5 ⟨v5, rfl, o5, b5⟩
    obtain ⟨A5, c5, rfl, l5, _⟩ := o5.lst
    have b15 := b14.trans (b5.mono b14.size)
    have b35 := b4.trans (b5.mono b4.size)
    go_wp2_with fail
    refine (eqBlockS_same A3 A5 l.length c3 c5 w5.heap.size w5.heap.size l w5 (l3.up b35 (Nat.le_refl _) b35.size) l5 (Nat.le_refl _) (Nat.le_refl _) hll).mono ?_
    rintro e w6 ⟨rfl, b6⟩
    go_wp2
    go_ret
    exact ⟨rfl, b15.trans (b6.mono b15.size)⟩
  · have hz : (1048576 : Int) - n < 0 := by omega
    go_enter Try.func12, Try.ntmps12
    go_wp2_with fail
    refine (szBlockS_big A n c w (by omega) hm).mono ?_
    rintro e w' ⟨rfl, rfl⟩
    go_wp2
    go_ret
    exact ⟨rfl, Below.refl _ _⟩

end Go.Proofs.Ytofolkiikmnbhaa.Wk
