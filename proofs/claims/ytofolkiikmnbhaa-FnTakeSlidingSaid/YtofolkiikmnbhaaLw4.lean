/- The laws TakeBlock, TakeSliding: their walks. Conditions: none. -/
import Derived.Test.YtofolkiikmnbhaaDrl
import Derived.Test.YtofolkiikmnbhaaSame
import Derived.Test.YtofolkiikmnbhaaExTs
import Derived.Test.YtofolkiikmnbhaaGvb
namespace Go.Proofs.Ytofolkiikmnbhaa.Wk
open Go.RowKit Go.Proofs.Ytofolkiikmnbhaa.Pl

set_option maxHeartbeats 4000000 in
theorem FnTakeBlock_walk {a : Option Addr} {len cap : Nat} {z : List Int} {w : World} (h : IsRow .u8 w a len cap z) : Calls Try.prog 24 #[.slice a len cap] w fun e w' => e = .returned (.bool true) ∧ Below w.heap.size w w' := by
  have hm := row_len h
  have HD := Lib.hid (dDrawTakeBlock h)
  clear h
  by_cases hl : len ≤ 1048576
  · go_enter Try.func24, Try.ntmps24
    go_wp2_with fail
    refine HD.out.mono ?_
    rintro e w1 ⟨A, n, c, l, t, k, z, rfl, o1, n1, n2, t1, t2, b1⟩
    obtain rfl := (own_form o1).1
    have L1 := own_lstn o1
    have HC := Lib.hid (own_cap o1)
    clear HD o1
    obtain ⟨R, b, hR, HP, CS, CI⟩ : ∃ (R : List Blk) (b : Bool), R.length ≤ 259 ∧ ((b = false ∧ (R = [] ∨ R = l)) ∨ (b = true ∧ V l t ∧ ∃ j : Nat, k = j ∧ j < l.length ∧ (bk l j).u = false ∧ 1 ≤ z ∧ z ≤ (bk l j).z ∧ R = Pl.take l j z)) ∧
        TakeC 54 l t k z R b ∧ TakeC 49 l t k z R b := by
      by_cases hv : V l t
      · by_cases ho : TakeOk l k z
        · obtain ⟨j, rfl, hj, hu, h1, h2⟩ := ho
          exact ⟨_, true, by have := (take_len (size := z) hj).2; omega, .inr ⟨rfl, hv, j, rfl, hj, hu, h1, h2, rfl⟩, take_yes l t z j hv hj hu h1 h2⟩
        · exact ⟨l, false, by omega, .inl ⟨rfl, .inr rfl⟩, take_no l t k z hv ho⟩
      · exact ⟨[], false, by simp, .inl ⟨rfl, .inl rfl⟩, take_inv l t k z (by omega) hv⟩
    have CS := Lib.hid (CS A c)
    have CI := Lib.hid (CI A c)
    go_wp2_with fail
    refine (CI.out w1 L1 HC.out).mono ?_
    rintro e w2 ⟨A2, c2, rfl, o2, b2⟩
    have L2 := lst_up L1 b2
    have M2 := own_lst o2
    have K2 := Lib.hid (own_cap o2)
    have B2 := b1.trans (b2.mono b1.size)
    clear L1 b2 b1 o2
    go_wp2_with fail
    refine (CS.out w2 L2 HC.out).mono ?_
    rintro e w3 ⟨A3, c3, rfl, o3, b3⟩
    have L3 := lst_up L2 b3
    have M3 := lst_up M2 b3
    have N3 := own_lst o3
    have B3 := B2.trans (b3.mono B2.size)
    clear L2 M2 b3 o3 B2
    go_wp2_with fail
    refine (sameBlocks_same A2 A3 R.length c2 c3 _ _ R w3 M3 N3 (Nat.le_refl _) (Nat.le_refl _) (by omega)).mono ?_
    rintro e w4 ⟨rfl, b4⟩
    have L4 := lst_up L3 b4
    have M4 := lst_up M3 b4
    have B4 := B3.trans (b4.mono B3.size)
    clear L3 M3 N3 b4 B3
    rcases HP with ⟨rfl, hRR⟩ | ⟨rfl, hv, j, rfl, hj, hu, h1, h2, hRe⟩
    · rcases hRR with rfl | rfl
      · go_wp2_with fail
        refine (alive_any _).mono ?_
        rintro e w5 ⟨rfl, b5⟩
        go_wp2
        go_ret
        exact ⟨rfl, B4.trans (b5.mono B4.size)⟩
      · have q1 : ((R.length : Int) == 0) = false := by rw [beq_eq_false_iff_ne]; omega
        have q2 : (R.length == 0) = false := by rw [beq_eq_false_iff_ne]; omega
        have q3 : ¬ R.length = 0 := by omega
        go_wp2_with fail
        refine (sameBlocks_same A2 A R.length c2 c _ _ R w4 M4 L4 (Nat.le_refl _) (Nat.le_refl _) (by omega)).mono ?_
        rintro e w5 ⟨rfl, b5⟩
        have B5 := B4.trans (b5.mono B4.size)
        go_wp2_with fail
        refine (alive_any _).mono ?_
        rintro e w6 ⟨rfl, b6⟩
        go_wp2
        go_ret
        exact ⟨rfl, B5.trans (b6.mono B5.size)⟩
    · have hvR : V R t := by rw [hRe]; exact take_valid hv hj hu h1 h2
      have hjR : j < R.length := by rw [hRe]; exact (take_len (size := z) hj).1
      have huR : (bk R j).u = true := by rw [hRe, take_bk hj]
      have hgR : give R j = l := by rw [hRe]; exact give_take hv hj hu h2
      have hfR : fw R = fw l - z := by rw [hRe]; exact take_fw hj hu h2
      have hbl := V_blk hv hj
      have hfb := fw_bd hv.2.2
      have G1 := (give_yes R t j hvR hjR huR).2 A2 c2
      rw [hgR] at G1
      have G1 := Lib.hid G1
      have C1 := Lib.hid (fun w (hw : Lst w w.heap.size A2 R.length R) => iValid_yes A2 _ c2 R t w hw hvR)
      have C2 := fun w (hw : Lst w w.heap.size A2 R.length R) => iFree_yes A2 _ c2 R t w hw hvR
      rw [hfR] at C2
      have C2 := Lib.hid C2
      have C3 := Lib.hid (fun w (hw : Lst w w.heap.size A l.length l) => iFree_yes A _ c l t w hw hv)
      obtain ⟨v1, v2, v3⟩ := hbl
      obtain ⟨v4, v5⟩ := hfb
      clear hRe hvR huR hgR hfR hv hu CS CI
      generalize fw l = f at C2 C3 v4 v5
      go_wp2_with fail
      refine (G1.out w4 M4 K2.out).mono ?_
      rintro e w5 ⟨A5, c5, rfl, o5, b5⟩
      have L5 := lst_up L4 b5
      have M5 := lst_up M4 b5
      have N5 := own_lst o5
      have B5 := B4.trans (b5.mono B4.size)
      clear L4 M4 b5 o5 B4
      go_wp2_with fail
      refine (C1.out w5 M5).mono ?_
      rintro e w6 ⟨rfl, b6⟩
      have L6 := lst_up L5 b6
      have M6 := lst_up M5 b6
      have N6 := lst_up N5 b6
      have B6 := B5.trans (b6.mono B5.size)
      clear L5 M5 N5 b6 B5
      go_wp2_with fail
      refine (C2.out w6 M6).mono ?_
      rintro e w7 ⟨rfl, b7⟩
      have L7 := lst_up L6 b7
      have N7 := lst_up N6 b7
      have B7 := B6.trans (b7.mono B6.size)
      clear L6 M6 N6 b7 B6
      go_wp2_with fail
      refine (C3.out w7 L7).mono ?_
      rintro e w8 ⟨rfl, b8⟩
      have L8 := lst_up L7 b8
      have N8 := lst_up N7 b8
      have B8 := B7.trans (b8.mono B7.size)
      clear L7 N7 b8 B7
      go_wp2_with fail
      refine (sameBlocks_same A5 A l.length c5 c _ _ l w8 N8 L8 (Nat.le_refl _) (Nat.le_refl _) (by omega)).mono ?_
      rintro e w9 ⟨rfl, b9⟩
      go_wp2
      go_ret
      exact ⟨by first | rfl | (simp; done), B8.trans (b9.mono B8.size)⟩
  · go_enter Try.func24, Try.ntmps24
    go_wp2
    go_ret
    exact ⟨rfl, Below.refl _ _⟩

set_option maxHeartbeats 4000000 in
theorem FnTakeSliding_walk {a : Option Addr} {len cap : Nat} {z : List Int} {w : World} (h : IsRow .u8 w a len cap z) : Calls Try.prog 29 #[.slice a len cap] w fun e w' => e = .returned (.bool true) ∧ Below w.heap.size w w' := by
  have hm := row_len h
  have HD := Lib.hid (dDrawTakeSliding h)
  clear h
  by_cases hl : len ≤ 1048576
  · go_enter Try.func29, Try.ntmps29
    go_wp2_with fail
    refine HD.out.mono ?_
    rintro e w1 ⟨A, n, c, l, t, z, rfl, o1, n1, n2, t1, t2, b1⟩
    obtain rfl := (own_form o1).1
    have L1 := own_lstn o1
    have HC := Lib.hid (own_cap o1)
    clear HD o1
    obtain ⟨R, b, hR, HP, CS, CI⟩ := ts_both l t z (by omega)
    have CS := Lib.hid (CS A c)
    have CI := Lib.hid (CI A c)
    go_wp2_with fail
    refine (CI.out w1 L1 HC.out).mono ?_
    rintro e w2 ⟨A2, c2, rfl, o2, b2⟩
    have L2 := lst_up L1 b2
    have M2 := own_lst o2
    have B2 := b1.trans (b2.mono b1.size)
    clear L1 b2 b1 o2
    go_wp2_with fail
    refine (CS.out w2 L2 HC.out).mono ?_
    rintro e w3 ⟨A3, c3, rfl, o3, b3⟩
    have L3 := lst_up L2 b3
    have M3 := lst_up M2 b3
    have N3 := own_lst o3
    have B3 := B2.trans (b3.mono B2.size)
    clear L2 M2 b3 o3 B2
    go_wp2_with fail
    refine (sameBlocks_same A2 A3 R.length c2 c3 _ _ R w3 M3 N3 (Nat.le_refl _) (Nat.le_refl _) (by omega)).mono ?_
    rintro e w4 ⟨rfl, b4⟩
    have L4 := lst_up L3 b4
    have M4 := lst_up M3 b4
    have B4 := B3.trans (b4.mono B3.size)
    clear L3 M3 N3 b4 B3 CS CI
    rcases HP with ⟨hv, rfl, rfl⟩ | ⟨hv, hno, rfl, rfl⟩ | ⟨hv, hz, hf, rfl, hfR, hvR⟩
    · have HV := Lib.hid hv
      clear hv
      go_wp2_with fail
      refine (sValid_no A _ c l t w4 L4 HV.out (by omega)).mono ?_
      rintro e w5 ⟨rfl, b5⟩
      have B5 := B4.trans (b5.mono B4.size)
      go_wp2_with fail
      refine (alive_any _).mono ?_
      rintro e w6 ⟨rfl, b6⟩
      go_wp2
      go_ret
      exact ⟨rfl, B5.trans (b6.mono B5.size)⟩
    · have C1 := Lib.hid (fun w (hw : Lst w w.heap.size A R.length R) => sValid_yes A _ c R t w hw hv)
      have C2 := Lib.hid (fun w (hw : Lst w w.heap.size A R.length R) => iFree_yes A _ c R t w hw hv)
      clear hv
      go_wp2_with fail
      refine (C1.out w4 L4).mono ?_
      rintro e w5 ⟨rfl, b5⟩
      have L5 := lst_up L4 b5
      have M5 := lst_up M4 b5
      have B5 := B4.trans (b5.mono B4.size)
      clear L4 M4 b5 B4
      by_cases hz : 1 ≤ z ∧ z ≤ 256
      · have hf : fw R < z := by omega
        obtain ⟨hz1, hz2⟩ := hz
        clear hno
        generalize fw R = f at C2 hf
        go_wp2_with fail
        refine (C2.out w5 L5).mono ?_
        rintro e w6 ⟨rfl, b6⟩
        have L6 := lst_up L5 b6
        have M6 := lst_up M5 b6
        have B6 := B5.trans (b6.mono B5.size)
        clear L5 M5 b6 B5
        go_wp2_with fail
        refine (sameBlocks_same A2 A R.length c2 c _ _ R w6 M6 L6 (Nat.le_refl _) (Nat.le_refl _) (by omega)).mono ?_
        rintro e w7 ⟨rfl, b7⟩
        go_wp2
        go_ret
        exact ⟨by first | rfl | (simp; done) | (simp; omega), B6.trans (b7.mono B6.size)⟩
      · have hz' : z < 1 ∨ (¬ z < 1 ∧ 256 < z) := by omega
        clear hz hno
        rcases hz' with hz | ⟨hz0, hz⟩
        all_goals
          go_wp2_with fail
          refine (alive_any _).mono ?_
          rintro e w6 ⟨rfl, b6⟩
          go_wp2
          go_ret
          exact ⟨rfl, B5.trans (b6.mono B5.size)⟩
    · have C1 := Lib.hid (fun w (hw : Lst w w.heap.size A l.length l) => sValid_yes A _ c l t w hw hv)
      have C2 := Lib.hid (fun w (hw : Lst w w.heap.size A l.length l) => iFree_yes A _ c l t w hw hv)
      have C3 := fun w (hw : Lst w w.heap.size A2 R.length R) => iFree_yes A2 _ c2 R t w hw hvR
      rw [hfR] at C3
      have C3 := Lib.hid C3
      have C4 := Lib.hid (fun w (hw : Lst w w.heap.size A2 R.length R) => iValid_yes A2 _ c2 R t w hw hvR)
      have hfb := fw_bd hv.2.2
      obtain ⟨hz1, hz2⟩ := hz
      obtain ⟨v4, v5⟩ := hfb
      clear hv hvR hfR
      generalize fw l = f at C2 C3 v4 v5 hf
      go_wp2_with fail
      refine (C1.out w4 L4).mono ?_
      rintro e w5 ⟨rfl, b5⟩
      have L5 := lst_up L4 b5
      have M5 := lst_up M4 b5
      have B5 := B4.trans (b5.mono B4.size)
      clear L4 M4 b5 B4
      go_wp2_with fail
      refine (C2.out w5 L5).mono ?_
      rintro e w6 ⟨rfl, b6⟩
      have M6 := lst_up M5 b6
      have B6 := B5.trans (b6.mono B5.size)
      clear L5 M5 b6 B5
      go_wp2_with fail
      refine (C3.out w6 M6).mono ?_
      rintro e w7 ⟨rfl, b7⟩
      have M7 := lst_up M6 b7
      have B7 := B6.trans (b7.mono B6.size)
      clear M6 b7 B6
      go_wp2_with fail
      refine (C4.out w7 M7).mono ?_
      rintro e w8 ⟨rfl, b8⟩
      go_wp2
      go_ret
      exact ⟨by first | rfl | (simp; done) | (simp; omega), B7.trans (b8.mono B7.size)⟩
  · go_enter Try.func29, Try.ntmps29
    go_wp2
    go_ret
    exact ⟨rfl, Below.refl _ _⟩

end Go.Proofs.Ytofolkiikmnbhaa.Wk
