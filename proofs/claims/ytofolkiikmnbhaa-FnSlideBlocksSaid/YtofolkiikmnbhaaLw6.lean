/- The law SlideBlocks: its walk. Conditions: none. -/
import Derived.Test.YtofolkiikmnbhaaSame
import Derived.Test.YtofolkiikmnbhaaExTs
namespace Go.Proofs.Ytofolkiikmnbhaa.Wk
open Go.RowKit Go.Proofs.Ytofolkiikmnbhaa.Pl

set_option maxHeartbeats 6000000 in
theorem FnSlideBlocks_walk {a : Option Addr} {len cap : Nat} {z : List Int} {w : World} (h : IsRow .u8 w a len cap z) : Calls Try.prog 25 #[.slice a len cap] w fun e w' => e = .returned (.bool true) ∧ Below w.heap.size w w' := by
  have hm := row_len h
  have HD := Lib.hid (dDrawSlideBlocks h)
  clear h
  by_cases hl : len ≤ 1048576
  · go_enter Try.func25, Try.ntmps25
    go_wp2_with fail
    refine HD.out.mono ?_
    rintro e w1 ⟨A, n, c, l, t, rfl, o1, n1, n2, t1, t2, b1⟩
    obtain rfl := (own_form o1).1
    have L1 := own_lstn o1
    have HC := Lib.hid (own_cap o1)
    clear HD o1
    obtain ⟨R, mv, hR, HP, CS, CI⟩ : ∃ (R : List Blk) (mv : Int), R.length ≤ 259 ∧ ((mv = -1 ∧ R = []) ∨ (0 ≤ mv ∧ mv ≤ t ∧ V l t ∧ R = slide l t)) ∧ SlideC 58 l t R mv ∧ SlideC 59 l t R mv := by
      by_cases hv : V l t
      · refine ⟨_, _, by have := slide_len (l := l) (t := t); omega, .inr ⟨(mvd_bd hv.2.2 0).1, ?_, hv, rfl⟩, slide_yes l t hv⟩
        have h1 := (mvd_bd hv.2.2 0).2
        have h2 := uw_fw hv.2.2
        have h3 := fw_bd hv.2.2
        omega
      · exact ⟨[], -1, by simp, .inl ⟨rfl, rfl⟩, slide_inv l t (by omega) hv⟩
    have CS := Lib.hid (CS A c)
    have CI := Lib.hid (CI A c)
    go_wp2_with fail
    refine (CI.out w1 L1 HC.out).mono ?_
    rintro e w2 ⟨A2, c2, rfl, o2, b2⟩
    have L2 := lst_up L1 b2
    have M2 := own_lst o2
    have K2 := Lib.hid (own_cap o2)
    have B2 := b1.trans (b2.mono b1.size)
    clear L1 b2 b1 o2
    go_wp2_with fail
    refine (CS.out w2 L2 HC.out).mono ?_
    rintro e w3 ⟨A3, c3, rfl, o3, b3⟩
    have L3 := lst_up L2 b3
    have M3 := lst_up M2 b3
    have N3 := own_lst o3
    have B3 := B2.trans (b3.mono B2.size)
    clear L2 M2 b3 o3 B2
    go_wp2_with fail
    refine (sameBlocks_same A2 A3 R.length c2 c3 _ _ R w3 M3 N3 (Nat.le_refl _) (Nat.le_refl _) (by omega)).mono ?_
    rintro e w4 ⟨rfl, b4⟩
    have L4 := Lib.hid (lst_up L3 b4)
    have M4 := Lib.hid (lst_up M3 b4)
    have B4 := B3.trans (b4.mono B3.size)
    clear L3 M3 N3 b4 B3 CS CI
    rcases HP with ⟨rfl, rfl⟩ | ⟨hmv, hmt, hv, hRe⟩
    · go_wp2_with fail
      refine (alive_any _).mono ?_
      rintro e w5 ⟨rfl, b5⟩
      go_wp2
      go_ret
      exact ⟨rfl, B4.trans (b5.mono B4.size)⟩
    · have hmv0 : ¬ mv < 0 := by omega
      have hvR : V R t := by rw [hRe]; exact slide_valid hv
      have hag := slide_again hv
      rw [← hRe] at hag
      have hsf := slide_fw hv
      rw [← hRe] at hsf
      have HAt := Lib.hid (fun (k : Nat) (hk : k < l.length) (hu : (bk l k).u = true) => (by rw [hRe]; exact slide_at t hk hu : cu (l.take k) < R.length ∧ (bk R (cu (l.take k))).u = true ∧ (bk R (cu (l.take k))).z = (bk l k).z))
      have C1 := (slide_yes R t hvR).2 A2 c2
      rw [hag.1, hag.2] at C1
      have C1 := Lib.hid C1
      have C2 := Lib.hid (fun w (hw : Lst w w.heap.size A2 R.length R) => iValid_yes A2 _ c2 R t w hw hvR)
      have C3 := fun w (hw : Lst w w.heap.size A2 R.length R) => iLarge_yes A2 _ c2 R t w hw hvR
      rw [hsf.2] at C3
      have C3 := Lib.hid C3
      have C4 := Lib.hid (fun w (hw : Lst w w.heap.size A l.length l) => iFree_yes A _ c l t w hw hv)
      have C5 := fun w (hw : Lst w w.heap.size A2 R.length R) => iFree_yes A2 _ c2 R t w hw hvR
      rw [hsf.1] at C5
      have C5 := Lib.hid C5
      clear hvR hag hsf hRe hv
      generalize fw l = f at C3 C4 C5
      go_wp2
      go_loopw [9, 10] (fun v i wr => ∃ (k j : Nat), k ≤ l.length ∧ i = .int .i64 k ∧ v = .int .i64 j ∧ j = cu (l.take k) ∧ j ≤ k ∧ Below w4.heap.size w4 wr) (fun _ i _ => l.length - (intOf i).toNat)
      case atStart => exact ⟨0, 0, Nat.zero_le _, rfl, rfl, rfl, Nat.le_refl _, Below.refl _ _⟩
      case round =>
        obtain ⟨k, j, hk, rfl, rfl, hj, hjk, hbb⟩ := hrel
        have HJ := Lib.hid hj
        have hs4 := hbb.size
        clear hj
        by_cases hlt : k < l.length
        · obtain ⟨b', off', rfl, _, c0, c1, c2'⟩ := (L4.out.below hbb (Nat.le_refl _)).cells k hlt
          have HS := Lib.hid (cu_take hlt)
          by_cases hu : (bk l k).u = true
          · obtain ⟨g1, g2, g3⟩ := HAt.out k hlt hu
            rw [← HJ.out] at g1 g2 g3
            obtain ⟨b2', off2', rfl, _, d0, d1, d2⟩ := (M4.out.below hbb (Nat.le_refl _)).cells j g1
            have HE := Lib.hid (show j + 1 = cu (l.take (k + 1)) by rw [HS.out, hu, ← HJ.out]; simp)
            rw [hu] at c2'
            rw [g2] at d2
            rw [g3] at d1
            clear hu g2 g3
            have i1 : (0 : Int) ≤ (k : Int) := by omega
            have i2 : (k : Int) < (l.length : Int) := by omega
            have i3 : (0 : Int) ≤ (j : Int) := by omega
            have i4 : (j : Int) < (R.length : Int) := by omega
            have i5 : decide (R.length ≤ j) = false := by simp; omega
            have i6 : decide ((R.length : Int) ≤ (j : Int)) = false := by simp; omega
            go_wp2
            go_quiet (fail)
            go_wp2
            go_roundw
            case rel => exact ⟨k + 1, j + 1, by omega, by go_num, by go_num, HE.out, by omega, ⟨hbb.os, hbb.tape, hbb.output, hbb.size, hbb.block⟩⟩
            case measure => simp [intOf]; omega
          · have hu2 : (bk l k).u = false := by simpa using hu
            have HE := Lib.hid (show j = cu (l.take (k + 1)) by rw [HS.out, hu2, ← HJ.out]; simp)
            rw [hu2] at c2'
            clear hu hu2
            go_wp2
            go_roundw
            case rel => exact ⟨k + 1, j, by omega, by go_num, rfl, HE.out, by omega, hbb⟩
            case measure => simp [intOf]; omega
        · have L5 := lst_up L4.out hbb
          have M5 := lst_up M4.out hbb
          have B5 := B4.trans (hbb.mono B4.size)
          clear hbb
          go_wp2_with fail
          refine (C1.out wr M5 K2.out).mono ?_
          rintro e w6 ⟨A6, c6, rfl, o6, b6⟩
          have L6 := lst_up L5 b6
          have M6 := lst_up M5 b6
          have N6 := own_lst o6
          have B6 := B5.trans (b6.mono B5.size)
          clear L5 M5 b6 o6 B5
          go_wp2_with fail
          refine (C2.out w6 M6).mono ?_
          rintro e w7 ⟨rfl, b7⟩
          have L7 := lst_up L6 b7
          have M7 := lst_up M6 b7
          have N7 := lst_up N6 b7
          have B7 := B6.trans (b7.mono B6.size)
          clear L6 M6 N6 b7 B6
          go_wp2_with fail
          refine (C3.out w7 M7).mono ?_
          rintro e w8 ⟨rfl, b8⟩
          have L8 := lst_up L7 b8
          have M8 := lst_up M7 b8
          have N8 := lst_up N7 b8
          have B8 := B7.trans (b8.mono B7.size)
          clear L7 M7 N7 b8 B7
          go_wp2_with fail
          refine (C4.out w8 L8).mono ?_
          rintro e w9 ⟨rfl, b9⟩
          have L9 := lst_up L8 b9
          have M9 := lst_up M8 b9
          have N9 := lst_up N8 b9
          have B9 := B8.trans (b9.mono B8.size)
          clear L8 M8 N8 b9 B8
          go_wp2_with fail
          refine (C5.out w9 M9).mono ?_
          rintro e w10 ⟨rfl, b10⟩
          have L10 := lst_up L9 b10
          have M10 := lst_up M9 b10
          have N10 := lst_up N9 b10
          have B10 := B9.trans (b10.mono B9.size)
          clear L9 M9 N9 b10 B9
          go_wp2_with fail
          refine (C4.out w10 L10).mono ?_
          rintro e w11 ⟨rfl, b11⟩
          have M11 := lst_up M10 b11
          have N11 := lst_up N10 b11
          have B11 := B10.trans (b11.mono B10.size)
          clear L10 M10 N10 b11 B10
          go_wp2_with fail
          refine (sameBlocks_same A6 A2 R.length c6 c2 _ _ R w11 N11 M11 (Nat.le_refl _) (Nat.le_refl _) (by omega)).mono ?_
          rintro e w12 ⟨rfl, b12⟩
          go_wp2
          go_ret
          exact ⟨by first | rfl | (simp; done) | (simp; omega), B11.trans (b12.mono B11.size)⟩
  · go_enter Try.func25, Try.ntmps25
    go_wp2
    go_ret
    exact ⟨rfl, Below.refl _ _⟩

end Go.Proofs.Ytofolkiikmnbhaa.Wk
