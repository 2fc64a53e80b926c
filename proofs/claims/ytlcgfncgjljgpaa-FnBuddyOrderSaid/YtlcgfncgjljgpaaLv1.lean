/- The laws BuddiesValid, BuddyFree: their walks. Conditions: none. -/
import Derived.Test.YtlcgfncgjljgpaaSameU
import Derived.Test.YtlcgfncgjljgpaaDrd
import Derived.Test.YtlcgfncgjljgpaaFre
namespace Go.Proofs.Ytlcgfncgjljgpaa.Wu
open Go.RowKit Go.Proofs.Ytlcgfncgjljgpaa.Pl Go.Proofs.Ytlcgfncgjljgpaa.Wk

theorem VU_more {l : List Blk} {p : Int} (h : VU l p) : ¬ VU l (p + 1) := fun h' => by have := VU_power h h'; omega

set_option maxHeartbeats 4000000 in
theorem FnBuddiesValid_walk {a : Option Addr} {len cap : Nat} {z : List Int} {w : World} (h : IsRow .u8 w a len cap z) : Calls Try.prog 9 #[.slice a len cap] w fun e w' => e = .returned (.bool true) ∧ Below w.heap.size w w' := by
  have hm := row_len8 h
  have HD := Lib.hid (dDrawBuddiesValid h)
  clear h
  by_cases hl : len ≤ 1048576
  · go_enter Try.func9, Try.ntmps9
    go_wp2_with fail
    refine HD.out.mono ?_
    rintro e w1 ⟨A, n, c, l, p, rfl, o1, n1, n2, b1⟩
    have L1 := own_lstn o1
    have HN := Lib.hid (own_form o1).1
    have hc := own_cap o1
    clear HD o1
    by_cases hv : VU l p
    · obtain ⟨_, _, p0, p8⟩ := VU_len hv
      obtain ⟨P, rfl⟩ := Int.eq_ofNat_of_zero_le p0
      have HV := Lib.hid hv
      have HV1 := Lib.hid (VU_more hv)
      have HV2 := Lib.hid (VU_init hv)
      obtain ⟨K, rfl⟩ : ∃ K, n = K + 1 := ⟨n - 1, by omega⟩
      have hKc : (K : Int) ≤ (c : Int) := by have := HN.out; omega
      have hK1 : (K : Int) + 1 ≠ 0 := by omega
      clear hv hc
      go_wp2_with fail
      refine (iVU_any A (K + 1) c l P true w1 L1 (by omega) (by simp [HV.out])).mono ?_
      rintro e w2 ⟨rfl, b2⟩
      have L2 := lst_up L1 b2
      have B2 := b1.trans (b2.mono b1.size)
      clear L1 b2 b1
      go_wp2_with fail
      refine (sVU_any A (K + 1) c l P true w2 L2 (by omega) (by simp [HV.out])).mono ?_
      rintro e w3 ⟨rfl, b3⟩
      have L3 := lst_up L2 b3
      have B3 := B2.trans (b3.mono B2.size)
      clear L2 b3 B2
      go_wp2_with fail
      refine (iVU_any A (K + 1) c l ((P : Int) + 1) false w3 L3 (by omega) (by simp [HV1.out])).mono ?_
      rintro e w4 ⟨rfl, b4⟩
      have L4 := lst_take (lst_up L3 b4) (k := K) (by omega)
      have B4 := B3.trans (b4.mono B3.size)
      have HV3 : RowKit.Hid (¬ VU (l.take K) P) := Lib.hid (by have := HV2.out; rw [← HN.out] at this; exact this)
      clear L3 b4 B3
      go_wp2_with fail
      refine (iVU_any A K c (l.take K) P false w4 L4 (by omega) (by simp [HV3.out])).mono ?_
      rintro e w5 ⟨rfl, b5⟩
      go_wp2
      go_ret
      exact ⟨rfl, B4.trans (b5.mono B4.size)⟩
    · have HV := Lib.hid hv
      clear hv
      go_wp2_with fail
      refine (iVU_any A n c l p false w1 L1 (by omega) (by simp [HV.out])).mono ?_
      rintro e w2 ⟨rfl, b2⟩
      have L2 := lst_up L1 b2
      have B2 := b1.trans (b2.mono b1.size)
      clear L1 b2 b1
      go_wp2_with fail
      refine (sVU_any A n c l p false w2 L2 (by omega) (by simp [HV.out])).mono ?_
      rintro e w3 ⟨rfl, b3⟩
      have B3 := B2.trans (b3.mono B2.size)
      clear L2 b3 B2
      go_wp2_with fail
      refine (alive_any _).mono ?_
      rintro e w4 ⟨rfl, b4⟩
      go_wp2
      go_ret
      exact ⟨rfl, B3.trans (b4.mono B3.size)⟩
  · go_enter Try.func9, Try.ntmps9
    go_wp2
    go_ret
    exact ⟨rfl, Below.refl _ _⟩

theorem allU_take {l : List Blk} {k : Nat} (h : k < l.length) : allU (l.take (k + 1)) = allU (l.take k) ++ [⟨(bk l k).s, (bk l k).z, true⟩] := by
  unfold allU; rw [take_succ' h, List.map_append]; rfl

set_option maxRecDepth 100000 in
set_option maxHeartbeats 4000000 in
theorem FnBuddyFree_walk {a : Option Addr} {len cap : Nat} {z : List Int} {w : World} (h : IsRow .u8 w a len cap z) : Calls Try.prog 11 #[.slice a len cap] w fun e w' => e = .returned (.bool true) ∧ Below w.heap.size w w' := by
  have hm := row_len8 h
  have HD := Lib.hid (dDrawBuddyFree h)
  clear h
  by_cases hl : len ≤ 1048576
  · go_enter Try.func11, Try.ntmps11
    go_wp2_with fail
    refine HD.out.mono ?_
    rintro e w1 ⟨A, n, c, l, p, rfl, o1, n1, n2, b1⟩
    have L1 := own_lstn o1
    have HN := Lib.hid (own_form o1).1
    clear HD o1
    by_cases hv : VU l p
    · obtain ⟨_, q2, p0, p8⟩ := VU_len hv
      obtain ⟨P, rfl⟩ := Int.eq_ofNat_of_zero_le p0
      have HV := Lib.hid hv
      obtain ⟨f1, f2⟩ := fwU_bd hv
      obtain ⟨F, hF⟩ : ∃ F, fwU l = F := ⟨_, rfl⟩
      rw [hF] at f1 f2
      have HFW := Lib.hid hF
      have f3 : ¬ F < 0 := by omega
      clear hv hF
      go_wp2_with fail
      refine (iBFree_yes A n c l P w1 L1 HV.out).mono ?_
      rintro e w2 ⟨rfl, b2⟩
      rw [HFW.out]
      have L2 := lst_up L1 b2
      have B2 := b1.trans (b2.mono b1.size)
      clear L1 b2 b1
      go_wp2_with fail
      refine (sBFree_yes A n c l P w2 L2 HV.out).mono ?_
      rintro e w3 ⟨rfl, b3⟩
      rw [HFW.out]
      have L3 := lst_up L2 b3
      have B3 := B2.trans (b3.mono B2.size)
      have HL3 := Lib.hid L3
      have s3 := B3.size
      clear L2 b3 B2 L3
      go_wp2
      go_loopw [6, 7] (fun v i wr => ∃ (k cc : Nat) (A' : Option Addr), k ≤ n ∧ i = .int .i64 k ∧ v = .slice A' k cc ∧ Own wr w3.heap.size (.slice A' k cc) (allU (l.take k)) ∧ Below w3.heap.size w3 wr) (fun _ i _ => n - (intOf i).toNat)
      case atStart => exact ⟨0, 0, _, Nat.zero_le _, rfl, rfl, own_empty w3, (Below.refl _ _).alloc (Nat.le_refl _) _⟩
      case round =>
        obtain ⟨k, cc, A', hk, rfl, rfl, hO, hb⟩ := hrel
        have hsz := hb.size
        have HO := Lib.hid hO
        have HTL : RowKit.Hid ((allU (l.take k)).length = k) := Lib.hid (by have := (own_form hO).1; omega)
        clear hO
        by_cases hlt : k < n
        · obtain ⟨b0, off, rfl, hbb, c0, c1, c2⟩ := (HL3.out.below hb (Nat.le_refl _)).cells k hlt
          have i1 : (0 : Int) ≤ (k : Int) := by omega
          have i2 : (k : Int) < (n : Int) := by omega
          have HA := Lib.hid (allU_take (l := l) (k := k) (by have := HN.out; omega))
          obtain ⟨S, hS⟩ : ∃ S, (bk l k).s = S := ⟨_, rfl⟩
          obtain ⟨Z, hZ⟩ : ∃ Z, (bk l k).z = Z := ⟨_, rfl⟩
          rw [hS] at c0 HA
          rw [hZ] at c1 HA
          have hbw : b0 < wr.heap.size := by omega
          have OX := Lib.hid (show Own (wr.alloc (.cells #[.int .i64 S, .int .i64 Z, .bool true] 44)).drew w3.heap.size (.slice A' k cc) (allU (l.take k)) from HO.out.below ((Below.refl _ _).alloc (Nat.le_refl _) _).drew)
          have LX := Lib.hid (lst_one (show Bk (wr.alloc (.cells #[.int .i64 S, .int .i64 Z, .bool true] 44)).drew wr.heap.size #[.int .i64 S, .int .i64 Z, .bool true] 44 from Bk.new wr _ _))
          have XX := Lib.hid (show Below w3.heap.size w3 (wr.alloc (.cells #[.int .i64 S, .int .i64 Z, .bool true] 44)).drew from (hb.alloc hsz _).drew)
          clear hS hZ c2
          go_wp2
          go_region_law ((refine append_blk_step (by rfl) _ _ (by rfl) w3.heap.size _ (allU (l.take k)) [⟨S, Z, true⟩] (.slice A' k cc) (some ⟨wr.heap.size, 0, none⟩) 1 1 (by rfl) OX.out (by rfl) LX.out (by rw [HTL.out]; omega) XX.out.size (k + 1) (by rw [HTL.out]) ?_; intro A7 c7 w7 o7 b7 g7 t7))
          all_goals
            have O7 := Lib.hid (show Own w7 w3.heap.size (.slice A7 (k + 1) c7) (allU (l.take (k + 1))) by rw [HA.out]; exact o7)
            have B7 := XX.out.trans b7
            clear o7 t7 g7 b7
            go_wp2
            go_roundw
            case rel => exact ⟨k + 1, c7, A7, by omega, by go_num, rfl, O7.out, B7⟩
            case measure => simp [intOf]; omega
        · have hkn : k = n := by omega
          subst hkn
          have HVA := Lib.hid (allU_valid HV.out)
          have LA := own_lstn HO.out
          rw [List.take_of_length_le (by have := HN.out; omega)] at LA
          have HFA := Lib.hid (allU_fw l)
          have y1 := wrap_pw (k := P) (by omega)
          have y3 : F ≤ pw (P : Int) := f2
          obtain ⟨M, hM⟩ : ∃ M, pw (P : Int) = M := ⟨_, rfl⟩
          rw [hM] at y1 y3
          clear hM f2 q2
          go_wp2_with fail
          refine (iBFree_yes A' k cc (allU l) P wr LA HVA.out).mono ?_
          rintro e w8 ⟨rfl, b8⟩
          rw [HFA.out]
          go_wp2
          go_ret
          exact ⟨rfl, B3.trans ((hb.trans (b8.mono hsz)).mono s3)⟩
    · have HV := Lib.hid hv
      clear hv
      go_wp2_with fail
      refine (iBFree_no A n c l p w1 L1 HV.out (by omega)).mono ?_
      rintro e w2 ⟨rfl, b2⟩
      have L2 := lst_up L1 b2
      have B2 := b1.trans (b2.mono b1.size)
      clear L1 b2 b1
      go_wp2_with fail
      refine (sBFree_no A n c l p w2 L2 HV.out (by omega)).mono ?_
      rintro e w3 ⟨rfl, b3⟩
      have B3 := B2.trans (b3.mono B2.size)
      clear L2 b3 B2
      go_wp2_with fail
      refine (alive_any _).mono ?_
      rintro e w4 ⟨rfl, b4⟩
      go_wp2
      go_ret
      exact ⟨rfl, B3.trans (b4.mono B3.size)⟩
  · go_enter Try.func11, Try.ntmps11
    go_wp2
    go_ret
    exact ⟨rfl, Below.refl _ _⟩

end Go.Proofs.Ytlcgfncgjljgpaa.Wu
