/- The law GiveBlock: its walk. Conditions: none. -/
import Derived.Test.YtofolkiikmnbhaaSame
import Derived.Test.YtofolkiikmnbhaaGvb
import Derived.Test.YtofolkiikmnbhaaTky
import Derived.IntWalk
import Derived.Deep.RegionHeld3
namespace Go.Proofs.Ytofolkiikmnbhaa.Wk
open Go.RowKit Go.Proofs.Ytofolkiikmnbhaa.Pl

set_option maxRecDepth 100000 in
set_option maxHeartbeats 8000000 in
theorem FnGiveBlock_walk {a : Option Addr} {len cap : Nat} {z : List Int} {w : World} (h : IsRow .u8 w a len cap z) : Calls Try.prog 20 #[.slice a len cap] w fun e w' => e = .returned (.bool true) ∧ Below w.heap.size w w' := by
  have hm := row_len h
  have HD := Lib.hid (dDrawGiveBlock h)
  clear h
  by_cases hl : len ≤ 1048576
  · go_enter Try.func20, Try.ntmps20
    go_wp2_with fail
    refine HD.out.mono ?_
    rintro e w1 ⟨A, n, c, l, t, x, rfl, o1, n1, n2, t1, t2, x1, x2, b1⟩
    obtain rfl := (own_form o1).1
    have L1 := own_lstn o1
    have HC := Lib.hid (own_cap o1)
    clear HD o1
    obtain ⟨R, b, hR, HP, CS, CI⟩ : ∃ (R : List Blk) (b : Bool), R.length ≤ 259 ∧ ((b = false ∧ (R = [] ∨ R = l)) ∨ (b = true ∧ V l t ∧ ∃ j : Nat, x = j ∧ j < l.length ∧ (bk l j).u = true ∧ R = give l j)) ∧
        GiveC 60 l t x R b ∧ GiveC 61 l t x R b := by
      by_cases hv : V l t
      · by_cases ho : ∃ j : Nat, x = j ∧ j < l.length ∧ (bk l j).u = true
        · obtain ⟨j, rfl, hj, hu⟩ := ho
          exact ⟨_, true, by have := (give_len hv j).1; omega, .inr ⟨rfl, hv, j, rfl, hj, hu, rfl⟩, give_yes l t j hv hj hu⟩
        · exact ⟨l, false, by omega, .inl ⟨rfl, .inr rfl⟩, give_no l t x hv ho⟩
      · exact ⟨[], false, by simp, .inl ⟨rfl, .inl rfl⟩, give_inv l t x (by omega) hv⟩
    have CS := Lib.hid (CS A c)
    have CI := Lib.hid (CI A c)
    go_wp2_with fail
    refine (CI.out w1 L1 HC.out).mono ?_
    rintro e w2 ⟨A2, c2, rfl, o2, b2⟩
    have L2 := lst_up L1 b2
    have M2 := own_lst o2
    have B2 := b1.trans (b2.mono b1.size)
    clear L1 b2 b1 o2
    go_wp2_with fail
    refine (CS.out w2 L2 HC.out).mono ?_
    rintro e w3 ⟨A3, c3, rfl, o3, b3⟩
    have L3 := lst_up L2 b3
    have M3 := lst_up M2 b3
    have N3 := own_lst o3
    have B3 := B2.trans (b3.mono B2.size)
    clear L2 M2 b3 o3 B2
    go_wp2_with fail
    refine (sameBlocks_same A2 A3 R.length c2 c3 _ _ R w3 M3 N3 (Nat.le_refl _) (Nat.le_refl _) (by omega)).mono ?_
    rintro e w4 ⟨rfl, b4⟩
    have L4 := lst_up L3 b4
    have M4 := lst_up M3 b4
    have B4 := B3.trans (b4.mono B3.size)
    clear L3 M3 N3 b4 B3
    rcases HP with ⟨rfl, hRR⟩ | ⟨rfl, hv, j, rfl, hj, hu, hRe⟩
    · rcases hRR with rfl | rfl
      · go_wp2_with fail
        refine (alive_any _).mono ?_
        rintro e w5 ⟨rfl, b5⟩
        go_wp2
        go_ret
        exact ⟨rfl, B4.trans (b5.mono B4.size)⟩
      · have q1 : ((R.length : Int) == 0) = false := by rw [beq_eq_false_iff_ne]; omega
        have q2 : (R.length == 0) = false := by rw [beq_eq_false_iff_ne]; omega
        have q3 : ¬ R.length = 0 := by omega
        go_wp2_with fail
        refine (sameBlocks_same A2 A R.length c2 c _ _ R w4 M4 L4 (Nat.le_refl _) (Nat.le_refl _) (by omega)).mono ?_
        rintro e w5 ⟨rfl, b5⟩
        have B5 := B4.trans (b5.mono B4.size)
        go_wp2_with fail
        refine (alive_any _).mono ?_
        rintro e w6 ⟨rfl, b6⟩
        go_wp2
        go_ret
        exact ⟨rfl, B5.trans (b6.mono B5.size)⟩
    · have hvR : V R t := by rw [hRe]; exact give_valid hv hj
      have hfR : fw R = fw l + (bk l j).z := by rw [hRe]; exact give_fw hj hu
      have hlR := give_len hv j
      rw [← hRe] at hlR
      obtain ⟨lr1, lr2⟩ := hlR
      have hbl := V_blk hv hj
      have hfb := fw_bd hv.2.2
      obtain ⟨v1, v2, v3⟩ := hbl
      obtain ⟨v4, v5⟩ := hfb
      obtain ⟨b', off', rfl, hbb, c0, c1, c2'⟩ := L4.cells j hj
      have D1 := Lib.hid (fun (W : World) (hW : Below w4.heap.size w4 W) => (iValid_yes A2 _ c2 R t W (lst_up M4 hW) hvR).mono (fun e w' h => (⟨h.1, hW.trans (h.2.mono hW.size)⟩ : e = .returned (.bool true) ∧ Below w4.heap.size w4 w')))
      have D2 := fun (W : World) (hW : Below w4.heap.size w4 W) => (iFree_yes A2 _ c2 R t W (lst_up M4 hW) hvR).mono (fun e w' h => (⟨h.1, hW.trans (h.2.mono hW.size)⟩ : e = .returned (.int .i64 (fw R)) ∧ Below w4.heap.size w4 w'))
      rw [hfR] at D2
      have D2 := Lib.hid D2
      have D3 := Lib.hid (fun (W : World) (hW : Below w4.heap.size w4 W) => (iFree_yes _ _ c l t W (lst_up L4 hW) hv).mono (fun e w' h => (⟨h.1, hW.trans (h.2.mono hW.size)⟩ : e = .returned (.int .i64 (fw l)) ∧ Below w4.heap.size w4 w')))
      have i1 : (0 : Int) ≤ (j : Int) := by omega
      have i2 : (j : Int) < (l.length : Int) := by omega
      have i3 : decide ((0 : Int) ≤ (j : Int)) = true := by simp
      have i4 : decide ((j : Int) < (l.length : Int)) = true := by simp; omega
      have i5 : decide (j < l.length) = true := by simp; omega
      have i6 : decide (R.length ≤ l.length) = true := by simp; omega
      have hbw : b' < w4.heap.size := hbb
      clear hvR hfR hRe hv hu CS CI c0 c2'
      generalize fw l = f at D2 D3 v4 v5
      have s1 : IntKind.i64.wrap (f + (bk l j).z) = f + (bk l j).z := IntWalk.i64_in _ (by omega)
      have s2 : IntKind.i64.wrap ((l.length : Int) - 2) = (l.length : Int) - 2 := IntWalk.i64_in _ (by omega)
      have s3 : decide ((l.length : Int) - 2 ≤ (R.length : Int)) = true := by simp; omega
      go_wp2_with fail
      go_region_held3 (fun w' => w'.cell? ⟨b', off' + j * 3 + 1, none⟩ = some (.int .i64 (bk l j).z) ∧ Below w4.heap.size w4 w')
        (first
          | exact cell_below c1 hbw (Below.refl _ _).drew
          | exact cell_below c1 hbw b5
          | exact cell_below c1 hbw b6
          | exact cell_below c1 hbw b7)
        (first
          | (go_at_call 40; (with_reducible refine (D1.out _ (‹_ ∧ Below w4.heap.size w4 _›.2)).mono ?_); rintro e w5 ⟨rfl, b5⟩)
          | (go_at_call 46; (with_reducible refine (D2.out _ (‹_ ∧ Below w4.heap.size w4 _›.2)).mono ?_); rintro e w6 ⟨rfl, b6⟩)
          | (go_at_call 46; (with_reducible refine (D3.out _ (‹_ ∧ Below w4.heap.size w4 _›.2)).mono ?_); rintro e w7 ⟨rfl, b7⟩))
      all_goals
        go_wp2
        go_ret
        exact ⟨by first | rfl | (simp; done) | (simp; omega), B4.trans (b7.mono B4.size)⟩
  · go_enter Try.func20, Try.ntmps20
    go_wp2
    go_ret
    exact ⟨rfl, Below.refl _ _⟩

end Go.Proofs.Ytofolkiikmnbhaa.Wk
