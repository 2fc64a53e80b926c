/- The law BuddyOrder: its walk. Conditions: none. -/
import Derived.Test.YtlcgfncgjljgpaaLv3
namespace Go.Proofs.Ytlcgfncgjljgpaa.Wu
open Go.RowKit Go.Proofs.Ytlcgfncgjljgpaa.Pl Go.Proofs.Ytlcgfncgjljgpaa.Wk

set_option maxRecDepth 100000 in
set_option maxHeartbeats 4000000 in
theorem FnBuddyOrder_walk {a : Option Addr} {len cap : Nat} {z : List Int} {w : World} (h : IsRow .u8 w a len cap z) : Calls Try.prog 12 #[.slice a len cap] w fun e w' => e = .returned (.bool true) ∧ Below w.heap.size w w' := by
  have hm := row_len8 h
  have HD := Lib.hid (dDrawBuddyGive h)
  clear h
  by_cases hl : len ≤ 1048576
  · go_enter Try.func12, Try.ntmps12
    go_wp2_with fail
    refine HD.out.mono ?_
    rintro e w1 ⟨A, n, c, l, p, s, rfl, o1, n1, n2, b1⟩
    have L1 := own_lstn o1
    have HN := Lib.hid (own_form o1).1
    clear HD o1
    by_cases hv : VU l p
    · obtain ⟨R, b, hR⟩ := GiveR_ex hv s
      have HV := Lib.hid hv
      have HVR := Lib.hid (GiveR_valid hv hR)
      have hlR := VU_len HVR.out
      have HRR := Lib.hid hR
      have hR9 : R.length ≤ 256 := by omega
      have hl9 : n ≤ 256 := by have := VU_len hv; have := HN.out; omega
      clear hR hv hlR
      go_wp2_with fail
      refine (iBG_any A n c l p s R b w1 L1 HV.out HRR.out).mono ?_
      rintro e w2 ⟨A2, c2, rfl, o2, b2⟩
      have L2 := lst_up L1 b2
      have M2 := own_lst o2
      have B2 := b1.trans (b2.mono b1.size)
      clear L1 b2 b1 o2
      go_wp2_with fail
      refine (sBG_any A n c l p s R b w2 L2 HV.out HRR.out).mono ?_
      rintro e w3 ⟨A3, c3, rfl, o3, b3⟩
      have L3 := lst_up L2 b3
      have M3 := lst_up M2 b3
      have N3 := own_lst o3
      have B3 := B2.trans (b3.mono B2.size)
      clear L2 M2 b3 B2 o3
      cases b
      · go_wp2_with fail
        refine (sameBuddies_same A2 A3 R.length c2 c3 _ _ R w3 M3 N3 (Nat.le_refl _) (Nat.le_refl _) (by omega)).mono ?_
        rintro e w4 ⟨rfl, b4⟩
        have B4 := B3.trans (b4.mono B3.size)
        clear L3 M3 N3 b4 B3
        go_wp2_with fail
        refine (alive_any _).mono ?_
        rintro e w6 ⟨rfl, b6⟩
        go_wp2
        go_ret
        exact ⟨rfl, B4.trans (b6.mono B4.size)⟩
      · go_wp2_with fail
        refine (sameBuddies_same A2 A3 R.length c2 c3 _ _ R w3 M3 N3 (Nat.le_refl _) (Nat.le_refl _) (by omega)).mono ?_
        rintro e w4 ⟨rfl, b4⟩
        have L4 := Lib.hid (lst_up L3 b4)
        have M4 := Lib.hid (lst_up M3 b4)
        have B4 := B3.trans (b4.mono B3.size)
        have s4 := B4.size
        clear L3 M3 N3 b4 B3
        go_wp2
        go_loopw [10, 11, 12, 13, 14, 15, 16] (fun i _ _ _ _ _ _ wr => ∃ k : Nat, k ≤ n ∧ i = .int .i64 k ∧ Below w4.heap.size w4 wr) (fun i _ _ _ _ _ _ _ => n - (intOf i).toNat)
        case atStart => exact ⟨0, Nat.zero_le _, rfl, Below.refl _ _⟩
        case round =>
          obtain ⟨k, hk, rfl, hb⟩ := hrel
          have hsz := hb.size
          by_cases hlt : k < n
          · have LW := lst_up L4.out hb
            have MW := lst_up M4.out hb
            obtain ⟨b0, off, hA, hbb, d0, d1, d2⟩ := LW.cells k hlt
            have HLW := Lib.hid LW
            have HMW := Lib.hid MW
            have i1 : (0 : Int) ≤ (k : Int) := by omega
            have i2 : (k : Int) < (n : Int) := by omega
            subst hA
            clear LW MW d1
            by_cases hs : (bk l k).s = s
            · rw [hs] at d0
              clear hs d2
              go_wp2
              go_roundw
              case rel => exact ⟨k + 1, by omega, by go_num, hb⟩
              case measure => simp [intOf]; omega
            · obtain ⟨T, hT⟩ : ∃ T, (bk l k).s = T := ⟨_, rfl⟩
              rw [hT] at d0
              have q1 : (T == s) = false := by rw [beq_eq_false_iff_ne, ← hT]; exact hs
              cases hu : (bk l k).u
              · rw [hu] at d2
                clear hu hs hT
                go_wp2
                go_roundw
                case rel => exact ⟨k + 1, by omega, by go_num, hb⟩
                case measure => simp [intOf]; omega
              · rw [hu] at d2
                obtain ⟨Y, Q, hvY, hvQ, g1, g2, g3⟩ := give_swap (t := T) HV.out HRR.out (k := k) ⟨by have := HN.out; omega, hu, hT⟩ (by rw [← hT]; exact hs)
                have HVY := Lib.hid hvY
                have hlQ : Q.length ≤ 256 := by have := VU_len hvQ; omega
                have G1 := Lib.hid g1
                have G2 := Lib.hid g2
                have G3 := Lib.hid g3
                clear hu hs hT hvY hvQ g1 g2 g3
                go_wp2_with fail
                refine (iBG_any A2 R.length c2 R p T Q true wr HMW.out HVR.out G1.out).mono ?_
                rintro e w5 ⟨A5, c5, rfl, o5, b5⟩
                have L5 := lst_up HLW.out b5
                have N5 := own_lst o5
                have e0 : w5.cell? ⟨b0, off + k * 3, none⟩ = some (.int .i64 T) := (b5.cell (p := ⟨b0, off + k * 3, none⟩) hbb).trans d0
                have B5 := hb.trans (b5.mono hsz)
                clear o5 b5 d0 d2
                go_wp2_with fail
                refine (iBG_any _ n c l p T Y true w5 L5 HV.out G2.out).mono ?_
                rintro e w6 ⟨A6, c6, rfl, o6, b6⟩
                have M6 := own_lst o6
                have N6 := lst_up N5 b6
                have B6 := B5.trans (b6.mono B5.size)
                clear o6 b6 e0 L5 N5 B5
                go_wp2_with fail
                refine (iBG_any A6 Y.length c6 Y p s Q true w6 M6 HVY.out G3.out).mono ?_
                rintro e w7 ⟨A7, c7, rfl, o7, b7⟩
                have M7 := own_lst o7
                have N7 := lst_up N6 b7
                have B7 := B6.trans (b7.mono B6.size)
                clear o7 b7 M6 N6 B6
                go_wp2_with fail
                refine (sameBuddies_same A5 A7 Q.length c5 c7 _ _ Q w7 N7 M7 (Nat.le_refl _) (Nat.le_refl _) (by omega)).mono ?_
                rintro e w8 ⟨rfl, b8⟩
                have B8 := B7.trans (b8.mono B7.size)
                clear N7 M7 b8 B7
                go_wp2
                go_roundw
                case rel => exact ⟨k + 1, by omega, by go_num, B8⟩
                case measure => simp [intOf]; omega
          · have hkn : k = n := by omega
            subst hkn
            go_wp2
            go_ret
            exact ⟨rfl, B4.trans (hb.mono s4)⟩
    · have HV := Lib.hid hv
      clear hv
      go_wp2_with fail
      refine (iBG_inv A n c l p s w1 L1 HV.out (by omega)).mono ?_
      rintro e w2 ⟨A2, c2, rfl, o2, b2⟩
      have L2 := lst_up L1 b2
      have M2 := own_lst o2
      have B2 := b1.trans (b2.mono b1.size)
      clear L1 b2 b1 o2
      go_wp2_with fail
      refine (sBG_inv A n c l p s w2 L2 HV.out (by omega)).mono ?_
      rintro e w3 ⟨A3, c3, rfl, o3, b3⟩
      have M3 := lst_up M2 b3
      have N3 := own_lst o3
      have B3 := B2.trans (b3.mono B2.size)
      clear L2 M2 b3 B2 o3
      go_wp2_with fail
      refine (sameBuddies_same A2 A3 0 c2 c3 _ _ [] w3 M3 N3 (Nat.le_refl _) (Nat.le_refl _) (by omega)).mono ?_
      rintro e w4 ⟨rfl, b4⟩
      have B4 := B3.trans (b4.mono B3.size)
      clear M3 N3 b4 B3
      go_wp2_with fail
      refine (alive_any _).mono ?_
      rintro e w5 ⟨rfl, b5⟩
      go_wp2
      go_ret
      exact ⟨rfl, B4.trans (b5.mono B4.size)⟩
  · go_enter Try.func12, Try.ntmps12
    go_wp2
    go_ret
    exact ⟨rfl, Below.refl _ _⟩

end Go.Proofs.Ytlcgfncgjljgpaa.Wu
