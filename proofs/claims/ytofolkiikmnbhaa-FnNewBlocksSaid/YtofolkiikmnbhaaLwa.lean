/- The law NewBlocks: its walk. Conditions: none. -/
import Derived.Test.YtofolkiikmnbhaaSame
namespace Go.Proofs.Ytofolkiikmnbhaa.Wk
open Go.RowKit Go.Proofs.Ytofolkiikmnbhaa.Pl

theorem Bk.newH' (w : World) (cs : Array Value) (T : TypeId) {H : Nat} (hH : w.heap.size = H) : Bk (w.alloc (.cells cs T)) H cs T := by subst hH; exact Bk.new w cs T

set_option maxHeartbeats 2000000 in
theorem dDrawNewBlocks {a : Option Addr} {len cap : Nat} {z : List Int} {w : World} (h : IsRow .u8 w a len cap z) : Calls Try.prog 44 #[.slice a len cap] w fun e w' =>
    ∃ x : Int, e = .returned (.int .i64 x) ∧ -1 ≤ x ∧ x ≤ 257 ∧ Below w.heap.size w w' := by
  have HO := Lib.hid (open_g h)
  clear h
  go_enter Try.func44, Try.ntmps44
  go_wp2_with fail
  refine HO.out.mono ?_
  rintro e w1 ⟨rfl, hr, hb, hs⟩
  have hB := hb.size
  have D1 := Dr.refl hr
  have hlt := hr.lt
  clear hs hr
  go_wp2_with fail
  refine (pick_dr _ _ _ w1 w1 D1 (by omega)).mono ?_
  rintro e w2 ⟨x2, rfl, a2, b2, D2, hc2, hz2⟩
  have b2' : x2 ≤ 255 := by omega
  have hs2 : w.heap.size < w2.heap.size := by omega
  clear b2 hc2 hz2 D1
  go_wp2_with fail
  refine (pick_dr _ _ _ w1 _ ((D2.alloc _).alloc _) (by omega)).mono ?_
  rintro e w3 ⟨x3, rfl, a3, b3, D3, hc3, hz3⟩
  obtain ⟨k, rfl⟩ := Int.eq_ofNat_of_zero_le a3
  have hk : k ≤ 6 := by omega
  have K9 := ((Bk.new w2 #[.int .i64 (1 + x2), .int .i64 0, .int .i64 257, .int .i64 (-1)] 3).alloc (.cells #[.int .i64 0, .int .i64 0, .int .i64 0, .int .i64 0, .int .i64 1, .int .i64 2, .int .i64 3] 3))
  have KA := Bk.newH' (w2.alloc (.cells #[.int .i64 (1 + x2), .int .i64 0, .int .i64 257, .int .i64 (-1)] 3)) #[.int .i64 0, .int .i64 0, .int .i64 0, .int .i64 0, .int .i64 1, .int .i64 2, .int .i64 3] 3 (H := w2.heap.size + 1) (by simp)
  have e9 : ∀ j, w3.cell? ⟨w2.heap.size, j, none⟩ = (#[.int .i64 (1 + x2), .int .i64 0, .int .i64 257, .int .i64 (-1)] : Array Value)[j]? := fun j => (hc3 _ _ (by omega)).trans (K9.cell j)
  have eA : ∀ j, w3.cell? ⟨w2.heap.size + 1, j, none⟩ = (#[.int .i64 0, .int .i64 0, .int .i64 0, .int .i64 0, .int .i64 1, .int .i64 2, .int .i64 3] : Array Value)[j]? := fun j => (hc3 _ _ (by omega)).trans (KA.cell j)
  have B3 := Below.of_gr hb D3.gr hB (Nat.le_refl _)
  have dk : ∃ (j : Nat) (v : Int), j ≤ 3 ∧ -1 ≤ v ∧ v ≤ 257 ∧ w3.cell? ⟨w2.heap.size + 1, k, none⟩ = some (.int .i64 j) ∧ w3.cell? ⟨w2.heap.size, j, none⟩ = some (.int .i64 v) := by
    have hk' : k = 0 ∨ k = 1 ∨ k = 2 ∨ k = 3 ∨ k = 4 ∨ k = 5 ∨ k = 6 := by omega
    rcases hk' with rfl | rfl | rfl | rfl | rfl | rfl | rfl
    · exact ⟨0, 1 + x2, by omega, by omega, by omega, eA 0, e9 0⟩
    · exact ⟨0, 1 + x2, by omega, by omega, by omega, eA 1, e9 0⟩
    · exact ⟨0, 1 + x2, by omega, by omega, by omega, eA 2, e9 0⟩
    · exact ⟨0, 1 + x2, by omega, by omega, by omega, eA 3, e9 0⟩
    · exact ⟨1, 0, by omega, by omega, by omega, eA 4, e9 1⟩
    · exact ⟨2, 257, by omega, by omega, by omega, eA 5, e9 2⟩
    · exact ⟨3, -1, by omega, by omega, by omega, eA 6, e9 3⟩
  obtain ⟨j, v, j3, v0, v1, q1, q2⟩ := dk
  clear e9 eA K9 KA hc3 hz3 b3 D2 D3
  go_wp2
  go_ret
  exact ⟨v, rfl, v0, v1, B3⟩

set_option maxHeartbeats 4000000 in
theorem FnNewBlocks_walk {a : Option Addr} {len cap : Nat} {z : List Int} {w : World} (h : IsRow .u8 w a len cap z) : Calls Try.prog 7 #[.slice a len cap] w fun e w' => e = .returned (.bool true) ∧ Below w.heap.size w w' := by
  have hm := row_len h
  have HD := Lib.hid (dDrawNewBlocks h)
  clear h
  by_cases hl : len ≤ 1048576
  · go_enter Try.func7, Try.ntmps7
    go_wp2_with fail
    refine HD.out.mono ?_
    rintro e w1 ⟨t, rfl, t1, t2, b1⟩
    have CS := Lib.hid (fun w => sNew_any t w)
    have CI := Lib.hid (fun w => iNew_any t w)
    by_cases ht : 1 ≤ t ∧ t ≤ 256
    · have hv := nb_valid ht
      have hlen : (nb t).length = 1 := by unfold nb; rw [if_pos ht]; rfl
      have hfw : fw (nb t) = t := by unfold nb; rw [if_pos ht]; simp [fw]
      have hlf : lf (nb t) = t := by unfold nb; rw [if_pos ht]; simp [lf]; omega
      have C1 := Lib.hid (fun A c w (hw : Lst w w.heap.size A (nb t).length (nb t)) => iValid_yes A _ c (nb t) t w hw hv)
      have C2 := fun A c w (hw : Lst w w.heap.size A (nb t).length (nb t)) => iFree_yes A _ c (nb t) t w hw hv
      rw [hfw] at C2
      have C2 := Lib.hid C2
      have C3 := fun A c w (hw : Lst w w.heap.size A (nb t).length (nb t)) => iLarge_yes A _ c (nb t) t w hw hv
      rw [hlf] at C3
      have C3 := Lib.hid C3
      obtain ⟨ht1, ht2⟩ := ht
      clear hfw hlf hv
      generalize nb t = l at CS CI C1 C2 C3 hlen
      have q1 : ((l.length : Int) == 0) = false := by rw [beq_eq_false_iff_ne]; omega
      have q2 : (l.length == 0) = false := by rw [beq_eq_false_iff_ne]; omega
      have q3 : ¬ l.length = 0 := by omega
      have HLN := Lib.hid hlen
      clear hlen
      go_wp2_with fail
      refine (CI.out w1).mono ?_
      rintro e w2 ⟨v2, rfl, o2, b2⟩
      obtain ⟨A2, c2, rfl, M2, _⟩ := o2.lst
      have B2 := b1.trans (b2.mono b1.size)
      clear b2 b1 o2
      go_wp2_with fail
      refine (CS.out w2).mono ?_
      rintro e w3 ⟨v3, rfl, o3, b3⟩
      obtain ⟨A3, c3, rfl, N3, _⟩ := o3.lst
      have M3 := lst_up M2 b3
      have B3 := B2.trans (b3.mono B2.size)
      clear M2 b3 o3 B2
      go_wp2_with fail
      refine (sameBlocks_same A2 A3 l.length c2 c3 _ _ l w3 M3 N3 (Nat.le_refl _) (Nat.le_refl _) (by have := HLN.out; omega)).mono ?_
      rintro e w4 ⟨rfl, b4⟩
      have M4 := lst_up M3 b4
      have B4 := B3.trans (b4.mono B3.size)
      clear M3 N3 b4 B3
      go_wp2_with fail
      refine (C1.out A2 c2 w4 M4).mono ?_
      rintro e w5 ⟨rfl, b5⟩
      have M5 := lst_up M4 b5
      have B5 := B4.trans (b5.mono B4.size)
      clear M4 b5 B4
      go_wp2_with fail
      refine (C2.out A2 c2 w5 M5).mono ?_
      rintro e w6 ⟨rfl, b6⟩
      have M6 := lst_up M5 b6
      have B6 := B5.trans (b6.mono B5.size)
      clear M5 b6 B5
      go_wp2_with fail
      refine (C3.out A2 c2 w6 M6).mono ?_
      rintro e w7 ⟨rfl, b7⟩
      go_wp2
      go_ret
      exact ⟨by first | rfl | (simp; done), B6.trans (b7.mono B6.size)⟩
    · have hn : nb t = [] := by unfold nb; rw [if_neg ht]
      rw [hn] at CS CI
      have ht' : t < 1 ∨ (¬ t < 1 ∧ 256 < t) := by omega
      clear ht hn
      go_wp2_with fail
      refine (CI.out w1).mono ?_
      rintro e w2 ⟨v2, rfl, o2, b2⟩
      obtain ⟨A2, c2, rfl, M2, _⟩ := o2.lst
      have B2 := b1.trans (b2.mono b1.size)
      clear b2 b1 o2
      go_wp2_with fail
      refine (CS.out w2).mono ?_
      rintro e w3 ⟨v3, rfl, o3, b3⟩
      obtain ⟨A3, c3, rfl, N3, _⟩ := o3.lst
      have M3 := lst_up M2 b3
      have B3 := B2.trans (b3.mono B2.size)
      clear M2 b3 o3 B2
      go_wp2_with fail
      refine (sameBlocks_same A2 A3 0 c2 c3 _ _ [] w3 M3 N3 (Nat.le_refl _) (Nat.le_refl _) (by omega)).mono ?_
      rintro e w4 ⟨rfl, b4⟩
      have B4 := B3.trans (b4.mono B3.size)
      clear M3 N3 b4 B3
      rcases ht' with ht | ⟨ht0, ht⟩
      all_goals
        go_wp2_with fail
        refine (alive_any _).mono ?_
        rintro e w5 ⟨rfl, b5⟩
        go_wp2
        go_ret
        exact ⟨by first | rfl | (simp; done), B4.trans (b5.mono B4.size)⟩
  · go_enter Try.func7, Try.ntmps7
    go_wp2
    go_ret
    exact ⟨rfl, Below.refl _ _⟩

end Go.Proofs.Ytofolkiikmnbhaa.Wk
