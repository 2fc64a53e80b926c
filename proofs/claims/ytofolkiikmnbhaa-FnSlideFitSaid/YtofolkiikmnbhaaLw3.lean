/- The laws FirstFit, SlideFit, TakeSliding: their walks. Conditions: none. -/
import Derived.Test.YtofolkiikmnbhaaDrl
import Derived.Test.YtofolkiikmnbhaaSame
import Derived.Test.YtofolkiikmnbhaaExTs
namespace Go.Proofs.Ytofolkiikmnbhaa.Wk
open Go.RowKit Go.Proofs.Ytofolkiikmnbhaa.Pl

set_option maxHeartbeats 4000000 in
theorem FnFirstFit_walk {a : Option Addr} {len cap : Nat} {z : List Int} {w : World} (h : IsRow .u8 w a len cap z) : Calls Try.prog 18 #[.slice a len cap] w fun e w' => e = .returned (.bool true) ∧ Below w.heap.size w w' := by
  have hm := row_len h
  have HD := Lib.hid (dDrawFirstFit h)
  clear h
  by_cases hl : len ≤ 1048576
  · go_enter Try.func18, Try.ntmps18
    go_wp2_with fail
    refine HD.out.mono ?_
    rintro e w1 ⟨A, n, c, l, t, z, rfl, o1, n1, n2, t1, t2, b1⟩
    have L1 := own_lstn o1
    have HN := Lib.hid (own_form o1).1
    clear HD o1
    by_cases hv : V l t
    · have C1 := Lib.hid (fun w (hw : Lst w w.heap.size A n l) => iFirst_yes A n c l t z w hw hv)
      have C2 := Lib.hid (fun w (hw : Lst w w.heap.size A n l) => sFirst_yes A n c l t z w hw hv)
      have HV := Lib.hid hv
      by_cases hz : 1 ≤ z ∧ z ≤ 256
      · have HH := Lib.hid (fun (k : Nat) (hk : k < l.length) (hf : FitsSize l z k) (hno : ∀ j : Nat, j < k → ¬ FitsSize l z j) => (by unfold ffS; rw [if_pos hz]; exact ff_eq hk hf hno : ffS l z = k))
        have HM := Lib.hid (fun (hno : ∀ j : Nat, j < l.length → ¬ FitsSize l z j) => (by unfold ffS; rw [if_pos hz]; exact ff_none hno : ffS l z = -1))
        clear hv
        generalize ffS l z = r at C1 C2 HH HM
        obtain ⟨hz1, hz2⟩ := hz
        go_wp2_with fail
        refine (C1.out w1 L1).mono ?_
        rintro e w2 ⟨rfl, b2⟩
        have L2 := lst_up L1 b2
        have B2 := b1.trans (b2.mono b1.size)
        clear L1 b2 b1
        go_wp2_with fail
        refine (C2.out w2 L2).mono ?_
        rintro e w3 ⟨rfl, b3⟩
        have L3 := lst_up L2 b3
        have B3 := B2.trans (b3.mono B2.size)
        clear L2 b3 B2
        go_wp2_with fail
        refine (sValid_yes A n c l t w3 L3 HV.out).mono ?_
        rintro e w4 ⟨rfl, b4⟩
        have L4 := Lib.hid (lst_up L3 b4)
        have B4 := B3.trans (b4.mono B3.size)
        clear L3 b4 B3
        go_wp2
        go_loop [7] (fun i => ∃ k : Nat, k ≤ n ∧ i = .int .i64 k ∧ (∀ j : Nat, j < k → ¬ FitsSize l z j)) (fun i => n - (intOf i).toNat)
        case atStart => exact ⟨0, Nat.zero_le _, rfl, fun j hj => by omega⟩
        case round =>
          obtain ⟨k, hk, rfl, hno⟩ := hrel
          have HO := Lib.hid hno
          clear hno
          by_cases hlt : k < n
          · have hkl : k < l.length := by have := HN.out; omega
            obtain ⟨b, off, rfl, hbb, c0, c1, c2⟩ := L4.out.cells k hlt
            by_cases hf : FitsSize l z k
            · have e := HH.out k hkl hf HO.out
              have q1 : (r == (k : Int)) = true := by rw [beq_iff_eq]; exact e
              obtain ⟨hu, hzk⟩ := hf
              rw [hu] at c2
              clear hu e
              go_wp2
              go_ret
              exact ⟨rfl, B4⟩
            · have HS := Lib.hid (show ∀ j : Nat, j < k + 1 → ¬ FitsSize l z j from fun j hj => by
                by_cases e : j = k
                · subst e; exact hf
                · exact HO.out j (by omega))
              have hf' : (bk l k).u = true ∨ ((bk l k).u = false ∧ (bk l k).z < z) := by
                unfold FitsSize at hf
                cases hu : (bk l k).u
                · right; exact ⟨rfl, by rw [hu] at hf; simp at hf; exact hf⟩
                · left; rfl
              clear hf
              rcases hf' with hu | ⟨hu, hz3⟩
              all_goals
                rw [hu] at c2
                clear hu
                go_wp2
                go_round
                case rel => exact ⟨k + 1, by omega, by go_num, HS.out⟩
                case measure => simp [intOf]; omega
          · have hkn : k = n := by omega
            subst hkn
            have e := HM.out (fun j hj => HO.out j (by have := HN.out; omega))
            have q1 : (r == (-1 : Int)) = true := by rw [beq_iff_eq]; exact e
            clear e
            go_wp2
            go_ret
            exact ⟨rfl, B4⟩
      · rw [ffS_neg (l := l) (z := z) (.inl hz)] at C1 C2
        have hz' : z < 1 ∨ (¬ z < 1 ∧ 256 < z) := by omega
        clear hv hz
        go_wp2_with fail
        refine (C1.out w1 L1).mono ?_
        rintro e w2 ⟨rfl, b2⟩
        have L2 := lst_up L1 b2
        have B2 := b1.trans (b2.mono b1.size)
        clear L1 b2 b1
        go_wp2_with fail
        refine (C2.out w2 L2).mono ?_
        rintro e w3 ⟨rfl, b3⟩
        have L3 := lst_up L2 b3
        have B3 := B2.trans (b3.mono B2.size)
        clear L2 b3 B2
        go_wp2_with fail
        refine (sValid_yes A n c l t w3 L3 HV.out).mono ?_
        rintro e w4 ⟨rfl, b4⟩
        have B4 := B3.trans (b4.mono B3.size)
        clear L3 b4 B3
        rcases hz' with hz | ⟨hz0, hz⟩
        all_goals
          go_wp2_with fail
          refine (alive_any _).mono ?_
          rintro e w5 ⟨rfl, b5⟩
          go_wp2
          go_ret
          exact ⟨rfl, B4.trans (b5.mono B4.size)⟩
    · have HV := Lib.hid hv
      clear hv
      go_wp2_with fail
      refine (iFirst_no A n c l t z w1 L1 HV.out (by omega)).mono ?_
      rintro e w2 ⟨rfl, b2⟩
      have L2 := lst_up L1 b2
      have B2 := b1.trans (b2.mono b1.size)
      clear L1 b2 b1
      go_wp2_with fail
      refine (sFirst_no A n c l t z w2 L2 HV.out (by omega)).mono ?_
      rintro e w3 ⟨rfl, b3⟩
      have L3 := lst_up L2 b3
      have B3 := B2.trans (b3.mono B2.size)
      clear L2 b3 B2
      go_wp2_with fail
      refine (sValid_no A n c l t w3 L3 HV.out (by omega)).mono ?_
      rintro e w4 ⟨rfl, b4⟩
      have B4 := B3.trans (b4.mono B3.size)
      clear L3 b4 B3
      go_wp2_with fail
      refine (alive_any _).mono ?_
      rintro e w5 ⟨rfl, b5⟩
      go_wp2
      go_ret
      exact ⟨rfl, B4.trans (b5.mono B4.size)⟩
  · go_enter Try.func18, Try.ntmps18
    go_wp2
    go_ret
    exact ⟨rfl, Below.refl _ _⟩

set_option maxHeartbeats 4000000 in
theorem FnSlideFit_walk {a : Option Addr} {len cap : Nat} {z : List Int} {w : World} (h : IsRow .u8 w a len cap z) : Calls Try.prog 26 #[.slice a len cap] w fun e w' => e = .returned (.bool true) ∧ Below w.heap.size w w' := by
  have hm := row_len h
  have HD := Lib.hid (dDrawTakeSliding h)
  clear h
  by_cases hl : len ≤ 1048576
  · go_enter Try.func26, Try.ntmps26
    go_wp2_with fail
    refine HD.out.mono ?_
    rintro e w1 ⟨A, n, c, l, t, z, rfl, o1, n1, n2, t1, t2, b1⟩
    have L1 := own_lstn o1
    have HN := Lib.hid (own_form o1).1
    have HC := Lib.hid (own_cap o1)
    clear HD o1
    obtain ⟨R, mv, hR, HP, CS, CI⟩ : ∃ (R : List Blk) (mv : Int), R.length ≤ 2097152 ∧ ((mv = -1 ∧ R = []) ∨ (0 ≤ mv ∧ V l t ∧ R = slide l t)) ∧ SlideC 58 l t R mv ∧ SlideC 59 l t R mv := by
      by_cases hv : V l t
      · exact ⟨_, _, by have := slide_len (l := l) (t := t); have := HN.out; omega, .inr ⟨(mvd_bd hv.2.2 0).1, hv, rfl⟩, slide_yes l t hv⟩
      · exact ⟨[], -1, by simp, .inl ⟨rfl, rfl⟩, slide_inv l t (by have := HN.out; omega) hv⟩
    have CS := CS A c
    have CI := CI A c
    rw [← HN.out] at CS CI
    have CS := Lib.hid CS
    have CI := Lib.hid CI
    go_wp2_with fail
    refine (CI.out w1 L1 (by have := HC.out; have := HN.out; omega)).mono ?_
    rintro e w2 ⟨A2, c2, rfl, o2, b2⟩
    have L2 := lst_up L1 b2
    have M2 := own_lst o2
    have B2 := b1.trans (b2.mono b1.size)
    clear L1 b2 b1 o2
    go_wp2_with fail
    refine (CS.out w2 L2 (by have := HC.out; have := HN.out; omega)).mono ?_
    rintro e w3 ⟨A3, c3, rfl, o3, b3⟩
    have L3 := lst_up L2 b3
    have M3 := lst_up M2 b3
    have N3 := own_lst o3
    have B3 := B2.trans (b3.mono B2.size)
    clear L2 M2 b3 o3 B2
    go_wp2_with fail
    refine (sameBlocks_same A2 A3 R.length c2 c3 _ _ R w3 M3 N3 (Nat.le_refl _) (Nat.le_refl _) (by omega)).mono ?_
    rintro e w4 ⟨rfl, b4⟩
    have L4 := lst_up L3 b4
    have M4 := lst_up M3 b4
    have B4 := B3.trans (b4.mono B3.size)
    clear L3 M3 N3 b4 B3
    rcases HP with ⟨rfl, rfl⟩ | ⟨hmv, hv, hRe⟩
    · go_wp2_with fail
      refine (alive_any _).mono ?_
      rintro e w5 ⟨rfl, b5⟩
      go_wp2
      go_ret
      exact ⟨rfl, B4.trans (b5.mono B4.size)⟩
    · have hmv0 : ¬ mv < 0 := by omega
      by_cases hz : 1 ≤ z ∧ z ≤ 256
      · have hsl := slide_fw hv
        have C1 := Lib.hid (fun A c w (hw : Lst w w.heap.size A (slide l t).length (slide l t)) => iFirst_yes A _ c (slide l t) t z w hw (slide_valid hv))
        have C2 := Lib.hid (fun w (hw : Lst w w.heap.size A n l) => iFree_yes A n c l t w hw hv)
        have hF : (z ≤ fw l ∧ ∃ j : Nat, ffS (slide l t) z = j) ∨ (fw l < z ∧ ffS (slide l t) z = -1) := by
          by_cases e : z ≤ fw l
          · obtain ⟨j, hj, _⟩ := ffS_pos (l := slide l t) hz (by rw [hsl.2]; exact e)
            exact .inl ⟨e, j, hj⟩
          · exact .inr ⟨by omega, ffS_neg (.inr (by rw [hsl.2]; omega))⟩
        rw [← hRe] at C1 hF
        clear hsl hv hRe
        obtain ⟨hz1, hz2⟩ := hz
        generalize ffS R z = r at C1 hF
        generalize fw l = f at C2 hF
        rcases hF with ⟨hf, j, rfl⟩ | ⟨hf, rfl⟩
        · have hj0 : (0 : Int) ≤ (j : Int) := by omega
          go_wp2_with fail
          refine (C1.out A2 c2 w4 M4).mono ?_
          rintro e w5 ⟨rfl, b5⟩
          have B5 := B4.trans (b5.mono B4.size)
          go_wp2_with fail
          refine (C2.out w5 (lst_up L4 b5)).mono ?_
          rintro e w6 ⟨rfl, b6⟩
          go_wp2
          go_ret
          exact ⟨by first | rfl | (simp; done) | (simp; omega), B5.trans (b6.mono B5.size)⟩
        · go_wp2_with fail
          refine (C1.out A2 c2 w4 M4).mono ?_
          rintro e w5 ⟨rfl, b5⟩
          have B5 := B4.trans (b5.mono B4.size)
          go_wp2_with fail
          refine (C2.out w5 (lst_up L4 b5)).mono ?_
          rintro e w6 ⟨rfl, b6⟩
          go_wp2
          go_ret
          exact ⟨by first | rfl | (simp; done) | (simp; omega), B5.trans (b6.mono B5.size)⟩
      · have hz' : z < 1 ∨ (¬ z < 1 ∧ 256 < z) := by omega
        clear hz hv hRe
        rcases hz' with hz | ⟨hz0, hz⟩
        all_goals
          go_wp2_with fail
          refine (alive_any _).mono ?_
          rintro e w5 ⟨rfl, b5⟩
          go_wp2
          go_ret
          exact ⟨rfl, B4.trans (b5.mono B4.size)⟩
  · go_enter Try.func26, Try.ntmps26
    go_wp2
    go_ret
    exact ⟨rfl, Below.refl _ _⟩

end Go.Proofs.Ytofolkiikmnbhaa.Wk
