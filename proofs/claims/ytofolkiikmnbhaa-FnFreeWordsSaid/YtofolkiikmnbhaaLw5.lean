/- The law FreeWords: its walk. Conditions: none. -/
import Derived.Test.YtofolkiikmnbhaaSame
import Derived.Test.YtofolkiikmnbhaaExAt
import Derived.Test.YtofolkiikmnbhaaBlkSl
namespace Go.Proofs.Ytofolkiikmnbhaa.Wk
open Go.RowKit Go.Proofs.Ytofolkiikmnbhaa.Pl

set_option maxHeartbeats 4000000 in
theorem FnFreeWords_walk {a : Option Addr} {len cap : Nat} {z : List Int} {w : World} (h : IsRow .u8 w a len cap z) : Calls Try.prog 22 #[.slice a len cap] w fun e w' => e = .returned (.bool true) ∧ Below w.heap.size w w' := by
  have hm := row_len h
  have HD := Lib.hid (dDrawFreeWords h)
  clear h
  by_cases hl : len ≤ 1048576
  · go_enter Try.func22, Try.ntmps22
    go_wp2_with fail
    refine HD.out.mono ?_
    rintro e w1 ⟨A, n, c, l, t, rfl, o1, n1, n2, t1, t2, b1⟩
    have L1 := own_lstn o1
    have HN := Lib.hid (own_form o1).1
    clear HD o1
    by_cases hv : V l t
    · have C1 := Lib.hid (fun w (hw : Lst w w.heap.size A n l) => iFree_yes A n c l t w hw hv)
      have C2 := Lib.hid (fun w (hw : Lst w w.heap.size A n l) => sFree_yes A n c l t w hw hv)
      have C3 := Lib.hid (fun w (hw : Lst w w.heap.size A n l) => iLarge_yes A n c l t w hw hv)
      have hb := fw_bd hv.2.2
      have hlf := lf_le_fw hv.2.2
      have H0 := Lib.hid (cw_zero hv.2.2 (w := 0) (Int.le_refl _))
      have HA := Lib.hid (cw_all hv.2.2 (w := t) (Int.le_refl _))
      have HS := Lib.hid (fun (x : Int) (k : Nat) (hk : AtW l x k) => cw_step hv.2.2 hk.1 hk.2.1 hk.2.2)
      have HP := Lib.hid (fun (x : Int) (h0 : 0 ≤ x) (h1 : x < t) => BAt_in hv h0 h1)
      have HB := Lib.hid (fun (k : Nat) (hk : k < l.length) => V_blk hv hk)
      have C4 := Lib.hid (fun (x : Int) (k : Nat) (hr : BAt l x k) w (hw : Lst w w.heap.size A n l) => at_yes A n c l t x k w hw hv hr)
      obtain ⟨hb1, hb2⟩ := hb
      have hn0 : ¬ fw l < 0 := by omega
      clear hv
      obtain ⟨f, hf⟩ : ∃ f, fw l = f := ⟨_, rfl⟩
      obtain ⟨g, hg⟩ : ∃ g, lf l = g := ⟨_, rfl⟩
      rw [hf] at C1 C2 HA hb1 hb2 hlf hn0
      rw [hg] at C3 hlf
      have HF := Lib.hid hf
      clear hf hg
      go_wp2_with fail
      refine (C1.out w1 L1).mono ?_
      rintro e w2 ⟨rfl, b2⟩
      have L2 := lst_up L1 b2
      have B2 := b1.trans (b2.mono b1.size)
      clear L1 b2 b1
      go_wp2_with fail
      refine (C2.out w2 L2).mono ?_
      rintro e w3 ⟨rfl, b3⟩
      have L3 := Lib.hid (lst_up L2 b3)
      have B3 := B2.trans (b3.mono B2.size)
      clear L2 b3 B2
      go_wp2
      go_loopw [6, 7] (fun v i wr => ∃ (k : Nat) (x : Int), (k : Int) ≤ t ∧ i = .int .i64 k ∧ v = .int .i64 x ∧ x = cw k l ∧ 0 ≤ x ∧ x ≤ k ∧ Below w3.heap.size w3 wr) (fun _ i _ => (t - intOf i).toNat)
      case atStart => exact ⟨0, 0, by omega, rfl, rfl, H0.out.symm, by omega, by omega, Below.refl _ _⟩
      case round =>
        obtain ⟨k, x, hk, rfl, rfl, hx, hx0, hx1, hbb⟩ := hrel
        have HX := Lib.hid hx
        have hs3 := hbb.size
        clear hx
        by_cases hlt : (k : Int) < t
        · obtain ⟨j, hr, ha⟩ := HP.out k (by omega) hlt
          have hjl := ha.1
          have HS2 := Lib.hid (HS.out k j ha)
          have CA := Lib.hid (C4.out k j hr wr (lst_up L3.out hbb))
          have hjn : (j : Int) < (n : Int) := by have := HN.out; omega
          have hj0 : (0 : Int) ≤ (j : Int) := by omega
          have hjn2 : j < n := by omega
          clear hr ha
          go_wp2_with fail
          refine CA.out.mono ?_
          rintro e w4 ⟨rfl, b4⟩
          have B4 := hbb.trans (b4.mono hbb.size)
          obtain ⟨b', off', rfl, _, c0, c1, c2⟩ := (L3.out.below B4 (Nat.le_refl _)).cells j hjn2
          clear CA b4 hbb
          by_cases hu : (bk l j).u = true
          · have e2 : cw (((k + 1 : Nat) : Int)) l = x := by rw [show ((k + 1 : Nat) : Int) = (k : Int) + 1 by omega, HS2.out, hu, HX.out]; simp
            have HE := Lib.hid e2
            rw [hu] at c2
            clear hu e2
            go_wp2
            go_roundw
            case rel => exact ⟨k + 1, x, by omega, by go_num, rfl, HE.out.symm, hx0, by omega, B4⟩
            case measure => simp [intOf]; omega
          · have hu2 : (bk l j).u = false := by simpa using hu
            have e2 : cw (((k + 1 : Nat) : Int)) l = x + 1 := by rw [show ((k + 1 : Nat) : Int) = (k : Int) + 1 by omega, HS2.out, hu2, HX.out]; simp
            have HE := Lib.hid e2
            rw [hu2] at c2
            clear hu hu2 e2
            go_wp2
            go_roundw
            case rel => exact ⟨k + 1, x + 1, by omega, by go_num, rfl, HE.out.symm, by omega, by omega, B4⟩
            case measure => simp [intOf]; omega
        · have hkt : (k : Int) = t := by omega
          have hxf : x = f := by have := HX.out; rw [hkt, HA.out] at this; exact this
          have q1 : (x == f) = true := by rw [beq_iff_eq]; exact hxf
          clear hxf hkt
          go_wp2_with fail
          refine (C3.out wr (lst_up L3.out hbb)).mono ?_
          rintro e w4 ⟨rfl, b4⟩
          go_wp2
          go_ret
          exact ⟨by first | rfl | (simp; done) | (simp; omega), B3.trans ((hbb.trans (b4.mono hbb.size)).mono B3.size)⟩
    · have HV := Lib.hid hv
      clear hv
      go_wp2_with fail
      refine (iFree_no A n c l t w1 L1 HV.out (by omega)).mono ?_
      rintro e w2 ⟨rfl, b2⟩
      have L2 := lst_up L1 b2
      have B2 := b1.trans (b2.mono b1.size)
      clear L1 b2 b1
      go_wp2_with fail
      refine (sFree_no A n c l t w2 L2 HV.out (by omega)).mono ?_
      rintro e w3 ⟨rfl, b3⟩
      have B3 := B2.trans (b3.mono B2.size)
      clear L2 b3 B2
      go_wp2_with fail
      refine (alive_any _).mono ?_
      rintro e w4 ⟨rfl, b4⟩
      go_wp2
      go_ret
      exact ⟨rfl, B3.trans (b4.mono B3.size)⟩
  · go_enter Try.func22, Try.ntmps22
    go_wp2
    go_ret
    exact ⟨rfl, Below.refl _ _⟩

end Go.Proofs.Ytofolkiikmnbhaa.Wk
