/- The laws LargestFree, Fragmented: their walks. Conditions: none. -/
import Derived.Test.YtofolkiikmnbhaaSame
import Derived.Test.YtofolkiikmnbhaaFrag
import Derived.Test.YtofolkiikmnbhaaExTs
namespace Go.Proofs.Ytofolkiikmnbhaa.Wk
open Go.RowKit Go.Proofs.Ytofolkiikmnbhaa.Pl

set_option maxHeartbeats 4000000 in
theorem FnLargestFree_walk {a : Option Addr} {len cap : Nat} {z : List Int} {w : World} (h : IsRow .u8 w a len cap z) : Calls Try.prog 21 #[.slice a len cap] w fun e w' => e = .returned (.bool true) ∧ Below w.heap.size w w' := by
  have hm := row_len h
  have HD := Lib.hid (dDrawLargestFree h)
  clear h
  by_cases hl : len ≤ 1048576
  · go_enter Try.func21, Try.ntmps21
    go_wp2_with fail
    refine HD.out.mono ?_
    rintro e w1 ⟨A, n, c, l, t, rfl, o1, n1, n2, t1, t2, b1⟩
    have L1 := own_lstn o1
    clear HD o1
    by_cases hv : V l t
    · have C1 := Lib.hid (fun w (hw : Lst w w.heap.size A n l) => iLarge_yes A n c l t w hw hv)
      have C2 := Lib.hid (fun w (hw : Lst w w.heap.size A n l) => sLarge_yes A n c l t w hw hv)
      have C3 := Lib.hid (fun w (hw : Lst w w.heap.size A n l) => iFirst_yes A n c l t (lf l) w hw hv)
      have C4 := Lib.hid (fun w (hw : Lst w w.heap.size A n l) => iFirst_yes A n c l t (lf l + 1) w hw hv)
      rw [ffS_neg (l := l) (z := lf l + 1) (.inr (by omega))] at C4
      have h0 := lf_nonneg l
      have h1 := lf_le_fw hv.2.2
      have h2 := fw_bd hv.2.2
      have hF : lf l = 0 ∨ (1 ≤ lf l ∧ ∃ j : Nat, ffS l (lf l) = j) := by
        by_cases e : lf l = 0
        · exact .inl e
        · obtain ⟨j, hj, _⟩ := ffS_pos (l := l) (z := lf l) (by omega) (Int.le_refl _)
          exact .inr ⟨by omega, j, hj⟩
      have hm1 : lf l ≤ 256 := by omega
      clear h1 h2 hv
      generalize lf l = m at C1 C2 C3 C4 h0 hF hm1
      have hn0 : ¬ m < 0 := by omega
      go_wp2_with fail
      refine (C1.out w1 L1).mono ?_
      rintro e w2 ⟨rfl, b2⟩
      have L2 := lst_up L1 b2
      have B2 := b1.trans (b2.mono b1.size)
      clear L1 b2 b1
      go_wp2_with fail
      refine (C2.out w2 L2).mono ?_
      rintro e w3 ⟨rfl, b3⟩
      have L3 := lst_up L2 b3
      have B3 := B2.trans (b3.mono B2.size)
      clear L2 b3 B2
      rcases hF with e0 | ⟨e1, j, hj⟩
      · have q1 : (m == 0) = true := by rw [beq_iff_eq]; exact e0
        clear e0
        go_wp2_with fail
        refine (C4.out w3 L3).mono ?_
        rintro e w4 ⟨rfl, b4⟩
        go_wp2
        go_ret
        exact ⟨rfl, B3.trans (b4.mono B3.size)⟩
      · have q1 : (m == 0) = false := by rw [beq_eq_false_iff_ne]; omega
        rw [hj] at C3
        have hj0 : (0 : Int) ≤ (j : Int) := by omega
        clear hj
        go_wp2_with fail
        refine (C3.out w3 L3).mono ?_
        rintro e w4 ⟨rfl, b4⟩
        have L4 := lst_up L3 b4
        have B4 := B3.trans (b4.mono B3.size)
        clear L3 b4 B3
        go_wp2_with fail
        refine (C4.out w4 L4).mono ?_
        rintro e w5 ⟨rfl, b5⟩
        go_wp2
        go_ret
        exact ⟨rfl, B4.trans (b5.mono B4.size)⟩
    · have HV := Lib.hid hv
      clear hv
      go_wp2_with fail
      refine (iLarge_no A n c l t w1 L1 HV.out (by omega)).mono ?_
      rintro e w2 ⟨rfl, b2⟩
      have L2 := lst_up L1 b2
      have B2 := b1.trans (b2.mono b1.size)
      clear L1 b2 b1
      go_wp2_with fail
      refine (sLarge_no A n c l t w2 L2 HV.out (by omega)).mono ?_
      rintro e w3 ⟨rfl, b3⟩
      have B3 := B2.trans (b3.mono B2.size)
      clear L2 b3 B2
      go_wp2_with fail
      refine (alive_any _).mono ?_
      rintro e w4 ⟨rfl, b4⟩
      go_wp2
      go_ret
      exact ⟨rfl, B3.trans (b4.mono B3.size)⟩
  · go_enter Try.func21, Try.ntmps21
    go_wp2
    go_ret
    exact ⟨rfl, Below.refl _ _⟩

set_option maxHeartbeats 4000000 in
theorem FnFragmented_walk {a : Option Addr} {len cap : Nat} {z : List Int} {w : World} (h : IsRow .u8 w a len cap z) : Calls Try.prog 27 #[.slice a len cap] w fun e w' => e = .returned (.bool true) ∧ Below w.heap.size w w' := by
  have hm := row_len h
  have HD := Lib.hid (dDrawFragmented h)
  clear h
  by_cases hl : len ≤ 1048576
  · go_enter Try.func27, Try.ntmps27
    go_wp2_with fail
    refine HD.out.mono ?_
    rintro e w1 ⟨A, n, c, l, t, rfl, o1, n1, n2, t1, t2, b1⟩
    have L1 := own_lstn o1
    have HN := Lib.hid (own_form o1).1
    have HC := Lib.hid (own_cap o1)
    clear HD o1
    by_cases hv : V l t
    · have C1 := Lib.hid (fun w (hw : Lst w w.heap.size A n l) => iFrag_yes A n c l t w hw hv)
      have C2 := Lib.hid (fun w (hw : Lst w w.heap.size A n l) => sFrag_yes A n c l t w hw hv)
      have C3 := (slide_yes l t hv).2 A c
      rw [← HN.out] at C3
      have C3 := Lib.hid C3
      have C4 := Lib.hid (fun w (hw : Lst w w.heap.size A n l) => iFree_yes A n c l t w hw hv)
      have C5 := Lib.hid (fun A c w (hw : Lst w w.heap.size A (slide l t).length (slide l t)) => iFrag_yes A _ c (slide l t) t w hw (slide_valid hv))
      have C6 := Lib.hid (fun w (hw : Lst w w.heap.size A n l) => iLarge_yes A n c l t w hw hv)
      have e5 : frag (slide l t) = 0 := frag_slide hv
      rw [e5] at C5
      have hb : 0 ≤ frag l ∧ frag l ≤ 99 ∧ (frag l = 0 ↔ 100 * (fw l - lf l) < max 1 (fw l)) := frag_bd hv
      have hw1 := fw_bd hv.2.2
      have hw2 := lf_le_fw hv.2.2
      have hw3 := lf_nonneg l
      clear e5 hv
      generalize frag l = m at C1 C2 hb
      generalize slide l t = R at C3 C5
      generalize fw l = f at C4 hb hw1 hw2
      generalize lf l = g at C6 hb hw2 hw3
      generalize mvd 0 l = mv at C3
      obtain ⟨hb0, hb1, hb2⟩ := hb
      have hn0 : ¬ m < 0 := by omega
      obtain ⟨hw0, hw1⟩ := hw1
      have hf : f ≤ 65 := by omega
      clear hw1
      go_wp2_with fail
      refine (C1.out w1 L1).mono ?_
      rintro e w2 ⟨rfl, b2⟩
      have L2 := lst_up L1 b2
      have B2 := b1.trans (b2.mono b1.size)
      clear L1 b2 b1
      go_wp2_with fail
      refine (C2.out w2 L2).mono ?_
      rintro e w3 ⟨rfl, b3⟩
      have L3 := lst_up L2 b3
      have B3 := B2.trans (b3.mono B2.size)
      clear L2 b3 B2
      go_wp2_with fail
      refine (C3.out w3 L3 (by have := HC.out; have := HN.out; omega)).mono ?_
      rintro e w4 ⟨A4, c4, rfl, o4, b4⟩
      have L4 := lst_up L3 b4
      have M4 := own_lst o4
      have B4 := B3.trans (b4.mono B3.size)
      clear L3 b4 B3 o4
      go_wp2_with fail
      refine (C4.out w4 L4).mono ?_
      rintro e w5 ⟨rfl, b5⟩
      have L5 := lst_up L4 b5
      have M5 := lst_up M4 b5
      have B5 := B4.trans (b5.mono B4.size)
      clear L4 M4 b5 B4
      go_wp2_with fail
      refine (C5.out A4 c4 w5 M5).mono ?_
      rintro e w6 ⟨rfl, b6⟩
      have L6 := lst_up L5 b6
      have B6 := B5.trans (b6.mono B5.size)
      clear L5 M5 b6 B5
      by_cases h0 : m = 0
      · have q1 : (m == 0) = true := by rw [beq_iff_eq]; exact h0
        have hq := hb2.1 h0
        have q2 : 100 * (f - g) < 1 ∨ 100 * (f - g) < f := by omega
        clear hb2 h0
        by_cases hf1 : f < 1
        · have q3 : 100 * (f - g) < 1 := by omega
          clear q2 hq
          go_wp2_with fail
          refine (C6.out w6 L6).mono ?_
          rintro e w7 ⟨rfl, b7⟩
          go_wp2
          all_goals
            go_ret
            exact ⟨by first | (simp; done) | (simp; omega), B6.trans (b7.mono B6.size)⟩
        · have q3 : 100 * (f - g) < f := by omega
          clear q2 hq
          go_wp2_with fail
          refine (C6.out w6 L6).mono ?_
          rintro e w7 ⟨rfl, b7⟩
          go_wp2
          all_goals
            go_ret
            exact ⟨by first | (simp; done) | (simp; omega), B6.trans (b7.mono B6.size)⟩
      · have q1 : (m == 0) = false := by rw [beq_eq_false_iff_ne]; exact h0
        have hq : ¬ 100 * (f - g) < max 1 f := fun h => h0 (hb2.2 h)
        clear hb2 h0
        go_wp2_with fail
        refine (C6.out w6 L6).mono ?_
        rintro e w7 ⟨rfl, b7⟩
        go_wp2
        all_goals
          go_ret
          exact ⟨by first | (simp; done) | (simp; omega), B6.trans (b7.mono B6.size)⟩
    · have HV := Lib.hid hv
      clear hv
      go_wp2_with fail
      refine (iFrag_no A n c l t w1 L1 HV.out (by omega)).mono ?_
      rintro e w2 ⟨rfl, b2⟩
      have L2 := lst_up L1 b2
      have B2 := b1.trans (b2.mono b1.size)
      clear L1 b2 b1
      go_wp2_with fail
      refine (sFrag_no A n c l t w2 L2 HV.out (by omega)).mono ?_
      rintro e w3 ⟨rfl, b3⟩
      have B3 := B2.trans (b3.mono B2.size)
      clear L2 b3 B2
      go_wp2_with fail
      refine (alive_any _).mono ?_
      rintro e w4 ⟨rfl, b4⟩
      go_wp2
      go_ret
      exact ⟨rfl, B3.trans (b4.mono B3.size)⟩
  · go_enter Try.func27, Try.ntmps27
    go_wp2
    go_ret
    exact ⟨rfl, Below.refl _ _⟩

end Go.Proofs.Ytofolkiikmnbhaa.Wk
