/- The law BuddyTake: its walk. Conditions: none. -/
import Derived.Test.YtlcgfncgjljgpaaLv1
namespace Go.Proofs.Ytlcgfncgjljgpaa.Wu
open Go.RowKit Go.Proofs.Ytlcgfncgjljgpaa.Pl Go.Proofs.Ytlcgfncgjljgpaa.Wk

set_option maxRecDepth 100000 in
set_option maxHeartbeats 4000000 in
theorem FnBuddyTake_walk {a : Option Addr} {len cap : Nat} {z : List Int} {w : World} (h : IsRow .u8 w a len cap z) : Calls Try.prog 14 #[.slice a len cap] w fun e w' => e = .returned (.bool true) ∧ Below w.heap.size w w' := by
  have hm := row_len8 h
  have HD := Lib.hid (dDrawBuddyTake h)
  clear h
  by_cases hl : len ≤ 1048576
  · go_enter Try.func14, Try.ntmps14
    go_wp2_with fail
    refine HD.out.mono ?_
    rintro e w1 ⟨A, n, c, l, p, z, rfl, o1, n1, n2, b1⟩
    have L1 := own_lstn o1
    have hc : n ≤ c := by have := own_cap o1; have := (own_form o1).1; omega
    have HN := Lib.hid (own_form o1).1
    clear HD o1
    by_cases hv : VU l p
    · obtain ⟨o, ho⟩ := PFor_ex z
      obtain ⟨R, s, b, hR⟩ := TakeR_ex l o
      have HV := Lib.hid hv
      have HVR := Lib.hid (TakeR_valid hv hR)
      have hlR := VU_len HVR.out
      have hlR0 := VU_pos HVR.out
      have HPO := Lib.hid ho
      have HRR := Lib.hid hR
      have hR9 : R.length ≤ 256 := by omega
      clear hR ho hlR
      go_wp2_with fail
      refine (iBT_all A n c l p z o R s b w1 L1 hc HV.out HPO.out HRR.out).mono ?_
      rintro e w2 ⟨A2, c2, rfl, o2, b2⟩
      have L2 := lst_up L1 b2
      have M2 := own_lst o2
      have hc2 := own_cap o2
      have B2 := b1.trans (b2.mono b1.size)
      clear L1 b2 b1 o2
      go_wp2_with fail
      refine (sBT_all A n c l p z o R s b w2 L2 hc HV.out HPO.out HRR.out).mono ?_
      rintro e w3 ⟨A3, c3, rfl, o3, b3⟩
      have L3 := lst_up L2 b3
      have M3 := lst_up M2 b3
      have N3 := own_lst o3
      have B3 := B2.trans (b3.mono B2.size)
      clear L2 M2 b3 B2 o3
      cases b
      · have hno := HRR.out
        obtain ⟨e1, e2⟩ : R = l ∧ s = -1 := by
          rcases hno with ⟨i, _, _, _, _, h⟩ | ⟨_, h1, h2, _⟩
          · cases h
          · exact ⟨h1, h2⟩
        clear hno
        subst e1 e2
        obtain rfl : n = R.length := HN.out
        have k1 : ¬ R.length = 0 := by omega
        have k2 : ((R.length : Int) == 0) = false := by rw [beq_eq_false_iff_ne]; omega
        go_wp2_with fail
        refine (sameBuddies_same A2 A3 R.length c2 c3 _ _ R w3 M3 N3 (Nat.le_refl _) (Nat.le_refl _) (by omega)).mono ?_
        rintro e w4 ⟨rfl, b4⟩
        have L4 := lst_up L3 b4
        have M4 := lst_up M3 b4
        have B4 := B3.trans (b4.mono B3.size)
        clear L3 M3 N3 b4 B3
        go_wp2_with fail
        refine (sameBuddies_same A2 A R.length c2 c _ _ R w4 M4 L4 (Nat.le_refl _) (Nat.le_refl _) (by omega)).mono ?_
        rintro e w5 ⟨rfl, b5⟩
        have B5 := B4.trans (b5.mono B4.size)
        go_wp2_with fail
        refine (alive_any _).mono ?_
        rintro e w6 ⟨rfl, b6⟩
        go_wp2
        go_ret
        exact ⟨rfl, B5.trans (b6.mono B5.size)⟩
      · have hyes := HRR.out
        obtain ⟨i, o0, hp, e1, e2⟩ : ∃ i : Nat, 0 ≤ o ∧ Pick l o i ∧ R = takeU l i o ∧ s = (bk l i).s := by
          rcases hyes with ⟨i, h0, h1, h2, h3, _⟩ | ⟨_, _, _, h⟩
          · exact ⟨i, h0, h1, h2, h3⟩
          · cases h
        clear hyes
        have hG : GiveR R p s l true := .inl ⟨⟨i, by rw [e1, e2]; exact takeU_at hp.lt⟩, by rw [e1, e2]; exact take_give hv hp.lt hp.free o0 hp.big, rfl⟩
        have hF : fwU R = fwU l - pw o := by rw [e1]; exact takeU_fw hv hp.lt hp.free o0 hp.big
        have hbl := VU_blk hv hp.lt
        have hal : Al s o := by rw [e2]; exact Al_down o0 hp.big hbl.2.2.2.2
        have hs0 : 0 ≤ s := by rw [e2]; exact hbl.1
        have hz8 : o ≤ 8 := by have := hp.big; have := VU_len hv; omega
        have hf := fwU_bd hv
        have hfp := VU_len hv
        have HG := Lib.hid hG
        obtain ⟨W, rfl⟩ := Int.eq_ofNat_of_zero_le o0
        have hpw := pw_bd o0 hz8
        have hpp := pw_pos (W : Int)
        have W8 : W ≤ 8 := by omega
        clear hp e1 e2 hbl hG HRR
        unfold Al at hal
        obtain ⟨M, hM⟩ : ∃ M, pw (W : Int) = M := ⟨_, rfl⟩
        obtain ⟨F, hFl⟩ : ∃ F, fwU l = F := ⟨_, rfl⟩
        rw [hM] at hal hF hpw hpp
        rw [hFl] at hF hf
        have m1 : (s % M == 0) = true := by rw [beq_iff_eq]; exact hal
        have m2 : s.tmod M = s % M := Int.tmod_eq_emod_of_nonneg hs0
        have m3 : ¬ M = 0 := by omega
        have m4 : M ≠ 0 := m3
        have m5 : IntKind.i64.wrap (F - M) = F - M := IntWalk.i64_in _ (by omega)
        have m6 : IntKind.i64.wrap (s % M) = s % M := by rw [hal]; rfl
        have y1 := wrap_one (k := W) (by omega)
        have y2 : IntKind.i64.wrap (2 ^ min W 64) = pw (W : Int) := by rw [show min W 64 = W by omega]; exact y1
        rw [hM] at y1 y2
        have g1 : decide ((0 : Int) ≤ (W : Int)) = true := by rw [decide_eq_true_iff]; omega
        have g2 : (0 : Int) ≤ (W : Int) := by omega
        have HF := Lib.hid hF
        have HFL := Lib.hid hFl
        clear hM hFl hF hpw hpp hf hfp hz8 o0 hs0
        go_wp2_with fail
        refine (sameBuddies_same A2 A3 R.length c2 c3 _ _ R w3 M3 N3 (Nat.le_refl _) (Nat.le_refl _) (by omega)).mono ?_
        rintro e w4 ⟨rfl, b4⟩
        have L4 := lst_up L3 b4
        have M4 := lst_up M3 b4
        have B4 := B3.trans (b4.mono B3.size)
        clear L3 M3 N3 b4 B3
        go_wp2_with fail
        refine (iBG_any A2 R.length c2 R p s l true w4 M4 HVR.out HG.out).mono ?_
        rintro e w5 ⟨A5, c5, rfl, o5, b5⟩
        have L5 := lst_up L4 b5
        have M5 := lst_up M4 b5
        have N5 := own_lst o5
        have B5 := B4.trans (b5.mono B4.size)
        clear L4 M4 b5 B4 o5
        go_wp2_with fail
        refine (iPower_any z W w5 HPO.out).mono ?_
        rintro e w' ⟨rfl, rfl⟩
        obtain rfl : n = l.length := HN.out
        have D1 := Lib.hid (fun (W : World) (hW : Below w5.heap.size w5 W) => (iVU_any A2 R.length c2 R p true W (lst_up M5 hW) (by omega) (by simp [HVR.out])).mono (fun e w2 h => (⟨h.1, hW.trans (h.2.mono hW.size)⟩ : e = .returned (.bool true) ∧ Below w5.heap.size w5 w2)))
        have D2 := Lib.hid (fun (W : World) (hW : Below w5.heap.size w5 W) => (iBFree_yes A2 R.length c2 R p W (lst_up M5 hW) HVR.out).mono (fun e w2 h => (⟨by rw [h.1, HF.out], hW.trans (h.2.mono hW.size)⟩ : e = .returned (.int .i64 (F - M)) ∧ Below w5.heap.size w5 w2)))
        have D3 := Lib.hid (fun (W : World) (hW : Below w5.heap.size w5 W) => (iBFree_yes A l.length c l p W (lst_up L5 hW) HV.out).mono (fun e w2 h => (⟨by rw [h.1, HFL.out], hW.trans (h.2.mono hW.size)⟩ : e = .returned (.int .i64 F) ∧ Below w5.heap.size w5 w2)))
        have D4 := Lib.hid (fun (W : World) (hW : Below w5.heap.size w5 W) => (sameBuddies_same A5 A l.length c5 c _ _ l W (lst_up N5 hW) (lst_up L5 hW) (Nat.le_refl _) (Nat.le_refl _) (by omega)).mono (fun e w2 h => (⟨h.1, hW.trans (h.2.mono hW.size)⟩ : e = .returned (.bool true) ∧ Below w5.heap.size w5 w2)))
        clear L5 M5 N5 hal
        go_wp2_with fail
        go_region_held3 (fun w2 => Below w5.heap.size w5 w2)
          (first
            | exact (Below.refl _ _).drew
            | exact b6
            | exact b7
            | exact b8
            | exact b9)
          (first
            | (go_at_call 20; (with_reducible refine (D1.out _ (‹Below w5.heap.size w5 _›)).mono ?_); rintro e w6 ⟨rfl, b6⟩)
            | (go_at_call 25; (with_reducible refine (D2.out _ (‹Below w5.heap.size w5 _›)).mono ?_); rintro e w7 ⟨rfl, b7⟩)
            | (go_at_call 25; (with_reducible refine (D3.out _ (‹Below w5.heap.size w5 _›)).mono ?_); rintro e w8 ⟨rfl, b8⟩)
            | (go_at_call 35; (with_reducible refine (D4.out _ (‹Below w5.heap.size w5 _›)).mono ?_); rintro e w9 ⟨rfl, b9⟩))
        all_goals
          go_wp2
          go_ret
          exact ⟨by first | rfl | (simp; done) | (simp; omega), B5.trans (b9.mono B5.size)⟩
    · have HV := Lib.hid hv
      clear hv
      go_wp2_with fail
      refine (iBT_inv A n c l p z w1 L1 HV.out (by omega)).mono ?_
      rintro e w2 ⟨A2, c2, rfl, o2, b2⟩
      have L2 := lst_up L1 b2
      have M2 := own_lst o2
      have B2 := b1.trans (b2.mono b1.size)
      clear L1 b2 b1 o2
      go_wp2_with fail
      refine (sBT_inv A n c l p z w2 L2 HV.out (by omega)).mono ?_
      rintro e w3 ⟨A3, c3, rfl, o3, b3⟩
      have M3 := lst_up M2 b3
      have N3 := own_lst o3
      have B3 := B2.trans (b3.mono B2.size)
      clear L2 M2 b3 B2 o3
      go_wp2_with fail
      refine (sameBuddies_same A2 A3 0 c2 c3 _ _ [] w3 M3 N3 (Nat.le_refl _) (Nat.le_refl _) (by omega)).mono ?_
      rintro e w4 ⟨rfl, b4⟩
      have B4 := B3.trans (b4.mono B3.size)
      clear M3 N3 b4 B3
      go_wp2_with fail
      refine (alive_any _).mono ?_
      rintro e w5 ⟨rfl, b5⟩
      go_wp2
      go_ret
      exact ⟨rfl, B4.trans (b5.mono B4.size)⟩
  · go_enter Try.func14, Try.ntmps14
    go_wp2
    go_ret
    exact ⟨rfl, Below.refl _ _⟩

end Go.Proofs.Ytlcgfncgjljgpaa.Wu
