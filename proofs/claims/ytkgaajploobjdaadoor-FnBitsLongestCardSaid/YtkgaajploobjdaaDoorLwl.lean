/- The law BitsLongest: its walk. Conditions: the library's table holds what its text lays. -/
import Derived.Test.YtkgaajploobjdaaDoorLwd
namespace Go.Proofs.YtkgaajploobjdaaDoor.Wb
open Go.RowKit Go.Proofs.YtkgaajploobjdaaDoor.Pl Go.Proofs.YtkgaajploobjdaaDoor.Wk

theorem rev_step {l : List Bool} {k : Nat} (h : k < l.length) : (l.drop (k + 1)).reverse ++ [ub l k] = (l.drop k).reverse := by
  rw [ub_drop h]; simp

set_option maxHeartbeats 4000000 in
theorem FnBitsLongest_walk {a : Option Addr} {len cap : Nat} {z : List Int} {w : World} (h : IsRow .u8 w a len cap z) (hT : Tab w) : Calls Tryd.prog 4 #[.slice a len cap] w fun e w' => e = .returned (.bool true) ∧ Below w.heap.size w w' := by
  have hm := row_len h
  have HD := Lib.hid (dDrawBitsLongest h)
  have HT := Lib.hid hT
  clear h hT
  by_cases hl : len ≤ 1048576
  · go_enter Tryd.func4, Tryd.ntmps4
    go_wp2_with fail
    refine HD.out.mono ?_
    rintro e w1 ⟨A, n, c, l, rfl, o1, n1, b1⟩
    obtain rfl : n = l.length := (own_form o1).1
    have L1 := own_lstn o1
    clear HD o1
    by_cases hv : 64 < l.length
    · go_wp2_with fail
      refine (iLong_no A l.length c w1 hv (by omega)).mono ?_
      rintro e w2 ⟨rfl, b2⟩
      have B2 := b1.trans (b2.mono b1.size)
      clear b1 b2
      go_wp2_with fail
      refine (sLong_no A l.length c w2 hv (by omega)).mono ?_
      rintro e w3 ⟨rfl, b3⟩
      have B3 := B2.trans (b3.mono B2.size)
      clear b3 B2
      go_wp2_with fail
      refine (alive_any _).mono ?_
      rintro e w4 ⟨rfl, b4⟩
      go_wp2
      go_ret
      exact ⟨rfl, B3.trans (b4.mono B3.size)⟩
    · have hl64 : l.length ≤ 64 := by omega
      have hr64 : lrB l ≤ 64 := by have := bst_le l l.length; unfold lrB; omega
      have HLR := Lib.hid (fun (M : Nat) (r : Int) (hr : FindR l M r) => find_lr hr)
      obtain ⟨R, hR⟩ : ∃ R, lrB l = R := ⟨_, rfl⟩
      have CI := Lib.hid (fun (w : World) (hw : Lst w w.heap.size A l.length l) (hT : Tab w) => iLong_yes A l.length c l w hw hl64 hT)
      have CS := Lib.hid (fun (w : World) (hw : Lst w w.heap.size A l.length l) => sLong_yes A l.length c l w hw hl64)
      have CREV := Lib.hid (lr_rev l)
      rw [hR] at CI CS HLR hr64 CREV
      have HRR := Lib.hid hR
      clear hR hv
      go_wp2_with fail
      refine (CI.out w1 L1 (HT.out.below b1 HT.out.1)).mono ?_
      rintro e w2 ⟨rfl, b2⟩
      have L2 := lst_up L1 b2
      have B2 := b1.trans (b2.mono b1.size)
      clear b1 b2 L1
      go_wp2_with fail
      refine (CS.out w2 L2).mono ?_
      rintro e w3 ⟨rfl, b3⟩
      have L3 := Lib.hid (lst_up L2 b3)
      have B3 := Lib.hid (B2.trans (b3.mono B2.size))
      clear L2 b3 B2 CI CS
      go_wp2
      go_loopw [5, 6] (fun v i wr => ∃ (k N cp : Nat) (T : Option Addr), k ≤ l.length ∧ i = .int .i64 ((k : Int) - 1) ∧ v = .slice T N cp ∧ Own wr w3.heap.size (.slice T N cp) (l.drop k).reverse ∧ Below w3.heap.size w3 wr) (fun _ i _ => (intOf i + 1).toNat)
      case atStart => exact ⟨l.length, 0, 0, _, Nat.le_refl _, rfl, rfl, by rw [List.drop_length]; exact own_empty w3, (Below.refl _ _).alloc (Nat.le_refl _) _⟩
      case round =>
        obtain ⟨k, N, cp, T, hk, rfl, rfl, hown, hbb⟩ := hrel
        have OW := Lib.hid hown
        have HN := Lib.hid (own_form hown).1
        clear hown
        have Lr := lst_up L3.out hbb
        by_cases hk0 : 0 < k
        · obtain ⟨j, rfl⟩ : ∃ j, k = j + 1 := ⟨k - 1, by omega⟩
          have hjl : j < l.length := by omega
          obtain ⟨b', off, rfl, hbk, c0⟩ := Lr.cells j hjl
          have hst := rev_step hjl
          have HST := Lib.hid hst
          have hN64 : N ≤ 64 := by have := HN.out; simp at this; omega
          have hz := hbb.size
          clear hst
          go_wp2_with (at_builtin; refine append_b (by rfl) _ _ (by rfl) w3.heap.size _ (l.drop (j + 1)).reverse [ub l j] _ (some ⟨wr.heap.size, 0, none⟩) 1 1 (by rfl) (OW.out.below ((Below.refl _ _).alloc (Nat.le_refl _) _)) (by rfl) (lst_one (Bk.new wr #[.bool (ub l j)] 4)) (by have := HN.out; omega) (by simp; omega) (N + 1) (by have := HN.out; omega) ?_; intro A7 c7 w7 o7 b7 g7 t7)
          have B7 := (hbb.alloc hz (.cells #[.bool (ub l j)] 4)).trans b7
          rw [HST.out] at o7
          go_roundw
          case rel => exact ⟨j, N + 1, c7, A7, by omega, by go_num, rfl, o7, B7⟩
          case measure => simp [intOf]
        · obtain rfl : k = 0 := by omega
          have OT : Own wr w3.heap.size (.slice T N cp) l.reverse := OW.out
          have eN : N = l.reverse.length := (own_form OT).1
          have LT := own_lst OT
          have HLT := Lib.hid LT
          rw [← eN] at HLT
          have heN := Lib.hid eN
          have CT := Lib.hid (fun (w : World) (hw : Lst w w.heap.size T N l.reverse) (hT : Tab w) => iLong_yes T N cp l.reverse w hw (by have := heN.out; simp at this; omega) hT)
          rw [CREV.out] at CT
          have C2 : RowKit.Hid (∀ w : World, Lst w w.heap.size A l.length l → Calls Tryd.prog 12 #[.slice A l.length c, .int .i64 ((R : Int) + 1)] w fun e w' => e = .returned (.int .i64 (-1)) ∧ Below w.heap.size w w') := Lib.hid (fun w hw => by
            by_cases h65 : R = 64
            · exact iFind_no A l.length c _ w (by omega) (by omega)
            · obtain ⟨r, hr⟩ := FindR_ex l (R + 1)
              have h1 := HLR.out _ _ hr
              have h2 : r = -1 := find_neg hr (fun h => by have := h1.1 h; omega)
              subst h2
              have := iFind_yes A l.length c (R + 1) l (-1) w hw hl64 (by omega) (by omega) hr
              rwa [show ((R + 1 : Nat) : Int) = (R : Int) + 1 by omega] at this)
          clear LT eN OT
          by_cases hR0 : R = 0
          · subst hR0
            go_wp2_with fail
            refine (C2.out wr Lr).mono ?_
            rintro e w5 ⟨rfl, b5⟩
            have B5 := B3.out.trans ((hbb.trans (b5.mono hbb.size)).mono B3.out.size)
            have LT5 := lst_up HLT.out b5
            go_wp2_with fail
            refine (CT.out w5 LT5 (HT.out.below B5 HT.out.1)).mono ?_
            rintro e w6 ⟨rfl, b6⟩
            go_wp2
            go_ret
            exact ⟨rfl, B5.trans (b6.mono B5.size)⟩
          · obtain ⟨r, hr⟩ := FindR_ex l R
            have hr0 : 0 ≤ r := (HLR.out _ _ hr).2 (Nat.le_refl _)
            have C1 := Lib.hid (fun (w : World) (hw : Lst w w.heap.size A l.length l) => iFind_yes A l.length c R l r w hw hl64 (by omega) hr64 hr)
            have q0 : ((R : Int) == 0) = false := by rw [beq_eq_false_iff_ne]; omega
            clear hr hR0
            go_wp2_with fail
            refine (C1.out wr Lr).mono ?_
            rintro e w4 ⟨rfl, b4⟩
            have L4 := lst_up Lr b4
            have LT4 := lst_up HLT.out b4
            have B4 := hbb.trans (b4.mono hbb.size)
            clear Lr b4
            go_wp2_with fail
            refine (C2.out w4 L4).mono ?_
            rintro e w5 ⟨rfl, b5⟩
            have B5 := B3.out.trans ((B4.trans (b5.mono B4.size)).mono B3.out.size)
            have LT5 := lst_up LT4 b5
            go_wp2_with fail
            refine (CT.out w5 LT5 (HT.out.below B5 HT.out.1)).mono ?_
            rintro e w6 ⟨rfl, b6⟩
            go_wp2
            go_ret
            exact ⟨rfl, B5.trans (b6.mono B5.size)⟩
  · go_enter Tryd.func4, Tryd.ntmps4
    go_wp2
    go_ret
    exact ⟨rfl, Below.refl _ _⟩

end Go.Proofs.YtkgaajploobjdaaDoor.Wb
