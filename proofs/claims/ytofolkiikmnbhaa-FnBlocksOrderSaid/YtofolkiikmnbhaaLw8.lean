/- The laws BlocksOrder, GiveBlock: their walks. Conditions: none. -/
import Derived.Test.YtofolkiikmnbhaaSame
import Derived.Test.YtofolkiikmnbhaaExAt
import Derived.Deep.RegionHeld3
namespace Go.Proofs.Ytofolkiikmnbhaa.Pl

theorem mg_keep (b : Blk) (hb : b.u = true) (l : List Blk) : (b ∈ l → b ∈ mg none l) ∧ (∀ f : Blk, b ∈ l → b ∈ mg (some f) l) := by
  induction l with
  | nil => simp
  | cons c r ih =>
    constructor
    · intro h
      rcases List.mem_cons.1 h with rfl | h
      · rw [mg_used none b r hb]; simp [wait]
      · cases hc : c.u
        · rw [mg_free none c r hc]; exact ih.2 _ h
        · rw [mg_used none c r hc]; simp [wait, ih.1 h]
    · intro f h
      rcases List.mem_cons.1 h with rfl | h
      · rw [mg_used (some f) b r hb]; simp [wait]
      · cases hc : c.u
        · rw [mg_free (some f) c r hc]; exact ih.2 _ h
        · rw [mg_used (some f) c r hc]; simp [wait, ih.1 h]

theorem give_keeps {l : List Blk} {j k : Nat} (hj : j < l.length) (hk : k < l.length) (hne : k ≠ j) (hu : (bk l k).u = true) : ∃ m, m < (give l j).length ∧ bk (give l j) m = bk l k := by
  have h1 : bk l k ∈ set0 l j := by
    have e := bk_set0 (k := k) hj
    rw [if_neg hne] at e
    rw [← e]
    exact bk_mem (by simpa [set0] using hk)
  exact mem_bk ((mg_keep _ hu _).1 h1)

theorem order_give {l : List Blk} {t : Int} (hv : V l t) {j k : Nat} (hj : j < l.length) (hk : k < l.length) (huj : (bk l j).u = true) (huk : (bk l k).u = true) (hne : k ≠ j) :
    ∃ m m' : Nat, m < (give l j).length ∧ bk (give l j) m = bk l k ∧ m' < (give l k).length ∧ bk (give l k) m' = bk l j ∧ give (give l j) m = give (give l k) m' := by
  obtain ⟨m, h1, h2⟩ := give_keeps hj hk hne huk
  obtain ⟨m', h3, h4⟩ := give_keeps hk hj (fun e => hne e.symm) huj
  refine ⟨m, m', h1, h2, h3, h4, ?_⟩
  rw [give_give hv hj h1, give_give hv hk h3, h2, h4, fr_comm]

end Go.Proofs.Ytofolkiikmnbhaa.Pl
namespace Go.Proofs.Ytofolkiikmnbhaa.Wk
open Go.RowKit Go.Proofs.Ytofolkiikmnbhaa.Pl

set_option maxRecDepth 100000 in
set_option maxHeartbeats 6000000 in
theorem FnBlocksOrder_walk {a : Option Addr} {len cap : Nat} {z : List Int} {w : World} (h : IsRow .u8 w a len cap z) : Calls Try.prog 23 #[.slice a len cap] w fun e w' => e = .returned (.bool true) ∧ Below w.heap.size w w' := by
  have hm := row_len h
  have HD := Lib.hid (dDrawGiveBlock h)
  clear h
  by_cases hl : len ≤ 1048576
  · go_enter Try.func23, Try.ntmps23
    go_wp2_with fail
    refine HD.out.mono ?_
    rintro e w1 ⟨A, n, c, l, t, x, rfl, o1, n1, n2, t1, t2, x1, x2, b1⟩
    obtain rfl := (own_form o1).1
    have L1 := own_lstn o1
    have HC := Lib.hid (own_cap o1)
    clear HD o1
    obtain ⟨R, b, hR, HP, CS, CI⟩ : ∃ (R : List Blk) (b : Bool), R.length ≤ 259 ∧ (b = false ∨ (b = true ∧ V l t ∧ ∃ j : Nat, x = j ∧ j < l.length ∧ (bk l j).u = true ∧ R = give l j)) ∧
        GiveC 60 l t x R b ∧ GiveC 61 l t x R b := by
      by_cases hv : V l t
      · by_cases ho : ∃ j : Nat, x = j ∧ j < l.length ∧ (bk l j).u = true
        · obtain ⟨j, rfl, hj, hu⟩ := ho
          exact ⟨_, true, by have := (give_len hv j).1; omega, .inr ⟨rfl, hv, j, rfl, hj, hu, rfl⟩, give_yes l t j hv hj hu⟩
        · exact ⟨l, false, by omega, .inl rfl, give_no l t x hv ho⟩
      · exact ⟨[], false, by simp, .inl rfl, give_inv l t x (by omega) hv⟩
    have CS := Lib.hid (CS A c)
    have CI := Lib.hid (CI A c)
    go_wp2_with fail
    refine (CI.out w1 L1 HC.out).mono ?_
    rintro e w2 ⟨A2, c2, rfl, o2, b2⟩
    have L2 := lst_up L1 b2
    have M2 := own_lst o2
    have K2 := Lib.hid (own_cap o2)
    have B2 := b1.trans (b2.mono b1.size)
    clear L1 b2 b1 o2
    go_wp2_with fail
    refine (CS.out w2 L2 HC.out).mono ?_
    rintro e w3 ⟨A3, c3, rfl, o3, b3⟩
    have L3 := lst_up L2 b3
    have M3 := lst_up M2 b3
    have N3 := own_lst o3
    have B3 := B2.trans (b3.mono B2.size)
    clear L2 M2 b3 o3 B2
    go_wp2_with fail
    refine (sameBlocks_same A2 A3 R.length c2 c3 _ _ R w3 M3 N3 (Nat.le_refl _) (Nat.le_refl _) (by omega)).mono ?_
    rintro e w4 ⟨rfl, b4⟩
    have L4 := Lib.hid (lst_up L3 b4)
    have M4 := Lib.hid (lst_up M3 b4)
    have B4 := B3.trans (b4.mono B3.size)
    clear L3 M3 N3 b4 B3 CS CI
    rcases HP with rfl | ⟨rfl, hv, j, rfl, hj, huj, hRe⟩
    · go_wp2_with fail
      refine (alive_any _).mono ?_
      rintro e w5 ⟨rfl, b5⟩
      go_wp2
      go_ret
      exact ⟨rfl, B4.trans (b5.mono B4.size)⟩
    · have HV := Lib.hid hv
      have HRe := Lib.hid hRe
      have HUJ := Lib.hid huj
      have hvR := Lib.hid (show V R t by rw [hRe]; exact give_valid hv hj)
      clear hv hRe huj
      go_wp2
      go_loopw [10] (fun i wr => ∃ k : Nat, k ≤ l.length ∧ i = .int .i64 k ∧ Below w4.heap.size w4 wr) (fun i _ => l.length - (intOf i).toNat)
      case atStart => exact ⟨0, Nat.zero_le _, rfl, Below.refl _ _⟩
      case round =>
        obtain ⟨k, hk, rfl, hbb⟩ := hrel
        have hs4 := hbb.size
        by_cases hlt : k < l.length
        · obtain ⟨b', off', rfl, _, c0, c1, c2'⟩ := (L4.out.below hbb (Nat.le_refl _)).cells k hlt
          by_cases hkj : k = j
          · have x1 : ((k : Int) == (j : Int)) = true := by rw [beq_iff_eq]; omega
            have x3 : (k == j) = true := by rw [beq_iff_eq]; exact hkj
            clear hkj
            go_wp2
            go_roundw
            case rel => exact ⟨k + 1, by omega, by go_num, hbb⟩
            case measure => simp [intOf]; omega
          · have x1 : ((k : Int) == (j : Int)) = false := by rw [beq_eq_false_iff_ne]; omega
            have x3 : (k == j) = false := by rw [beq_eq_false_iff_ne]; exact hkj
            by_cases hu : (bk l k).u = true
            · obtain ⟨m, m', h1, h2, h3, h4, h5⟩ := order_give HV.out hj hlt HUJ.out hu hkj
              have hvY := give_valid HV.out hlt
              have hzk := (V_blk HV.out hlt).2.1
              have hzj := (V_blk HV.out hj).2.1
              have hlY := (give_len HV.out k).1
              rw [← HRe.out] at h1 h2 h5
              have a1 : BAt R (bk l k).s m := .inr ⟨m, rfl, h1, by rw [h2]; omega, by rw [h2]; omega⟩
              have a2 : BAt (give l k) (bk l j).s m' := .inr ⟨m', rfl, h3, by rw [h4]; omega, by rw [h4]; omega⟩
              have D1 := Lib.hid (fun w (hw : Lst w w.heap.size A2 R.length R) => at_yes A2 _ c2 R t (bk l k).s m w hw hvR.out a1)
              have D2 := Lib.hid ((give_yes R t m hvR.out h1 (by rw [h2]; exact hu)).2 A2 c2)
              have D3 := Lib.hid ((give_yes l t k HV.out hlt hu).2 (some ⟨b', off', none⟩) c)
              have D4 := Lib.hid (fun A c w (hw : Lst w w.heap.size A (give l k).length (give l k)) => at_yes A _ c (give l k) t (bk l j).s m' w hw hvY a2)
              have D5 := (give_yes (give l k) t m' hvY h3 (by rw [h4]; exact HUJ.out)).2
              rw [← h5] at D5
              have D5 := Lib.hid D5
              have hlA := Lib.hid (show (give R m).length ≤ 259 by have := (give_len hvR.out m).1; omega)
              have jl : (j : Int) < (l.length : Int) := by omega
              have j0 : (0 : Int) ≤ (j : Int) := by omega
              rw [hu] at c2'
              clear h1 h2 h3 h4 h5 hu hvY a1 a2 hzk hzj hkj
              generalize give l k = Y at D3 D4 D5 hlY
              generalize give R m = Q at D2 D5 hlA
              have L5 := lst_up L4.out hbb
              have M5 := lst_up M4.out hbb
              go_wp2_with fail
              refine (D1.out wr M5).mono ?_
              rintro e w6 ⟨rfl, b6⟩
              have L6 := lst_up L5 b6
              have M6 := lst_up M5 b6
              have B6 := hbb.trans (b6.mono hbb.size)
              clear L5 M5 b6
              go_wp2_with fail
              refine (D2.out w6 M6 K2.out).mono ?_
              rintro e w7 ⟨A7, c7, rfl, o7, b7⟩
              have L7 := lst_up L6 b7
              have N7 := own_lst o7
              have B7 := B6.trans (b7.mono B6.size)
              clear L6 M6 b7 o7 B6
              go_wp2_with fail
              refine (D3.out w7 L7 HC.out).mono ?_
              rintro e w8 ⟨A8, c8, rfl, o8, b8⟩
              have L8 := lst_up L7 b8
              have N8 := lst_up N7 b8
              have M8 := own_lst o8
              have K8 := Lib.hid (own_cap o8)
              have B8 := B7.trans (b8.mono B7.size)
              clear L7 N7 b8 o8 B7
              obtain ⟨b3', off3', e3, _, f0, f1, f2⟩ := L8.cells j hj
              simp only [Option.some.injEq, Addr.mk.injEq, and_true] at e3
              obtain ⟨rfl, rfl⟩ := e3
              go_wp2_with fail
              refine (D4.out A8 c8 w8 M8).mono ?_
              rintro e w9 ⟨rfl, b9⟩
              have N9 := lst_up N8 b9
              have M9 := lst_up M8 b9
              have B9 := B8.trans (b9.mono B8.size)
              clear L8 N8 M8 b9 B8
              go_wp2_with fail
              refine (D5.out A8 c8 w9 M9 K8.out).mono ?_
              rintro e w10 ⟨A10, c10, rfl, o10, b10⟩
              have N10 := lst_up N9 b10
              have P10 := own_lst o10
              have B10 := B9.trans (b10.mono B9.size)
              clear N9 M9 b10 o10 B9
              go_wp2_with fail
              refine (sameBlocks_same A7 A10 Q.length c7 c10 _ _ Q w10 N10 P10 (Nat.le_refl _) (Nat.le_refl _) (by have := hlA.out; omega)).mono ?_
              rintro e w11 ⟨rfl, b11⟩
              have B11 := B10.trans (b11.mono B10.size)
              clear N10 P10 b11 B10
              go_wp2
              go_roundw
              case rel => exact ⟨k + 1, by omega, by go_num, B11⟩
              case measure => simp [intOf]; omega
            · have hu2 : (bk l k).u = false := by simpa using hu
              rw [hu2] at c2'
              clear hu hu2 hkj
              go_wp2
              go_roundw
              case rel => exact ⟨k + 1, by omega, by go_num, hbb⟩
              case measure => simp [intOf]; omega
        · go_wp2
          go_ret
          exact ⟨rfl, B4.trans (hbb.mono B4.size)⟩
  · go_enter Try.func23, Try.ntmps23
    go_wp2
    go_ret
    exact ⟨rfl, Below.refl _ _⟩

end Go.Proofs.Ytofolkiikmnbhaa.Wk
