/- The laws on BitsLongest: their walks. Conditions: the library's table holds what its text lays. -/
import Derived.Test.YtkgaajploobjdaaDoorLgw
import Derived.Test.YtkgaajploobjdaaDoorBcp
import Derived.Test.YtkgaajploobjdaaDoorBch
import Derived.Test.YtkgaajploobjdaaDoorDrq
import Derived.Test.YtkgaajploobjdaaDoorBfi
namespace Go.Proofs.YtkgaajploobjdaaDoor.Wb
open Go.RowKit Go.Proofs.YtkgaajploobjdaaDoor.Pl Go.Proofs.YtkgaajploobjdaaDoor.Wk

theorem row_len {w : World} {a : Option Addr} {len cap : Nat} {z : List Int} (h : IsRow .u8 w a len cap z) : len ≤ 9223372036854775807 := by
  rcases h with ⟨_, rfl, rfl, _⟩ | ⟨x, _, hl, hm, _⟩
  · omega
  · unfold maxLen at hm; omega

theorem FnExactBitsLongest_big {A : Option Addr} {n c : Nat} {l : List Bool} {w : World} (h : InB w A n l) (hn : 1048576 < n) :
    Calls Tryd.prog 3 #[.slice A n c] w fun e w' => e = .returned (.bool true) ∧ Below w.heap.size w w' := by
  have hm := h.max
  unfold maxLen at hm
  have hz : (1048576 : Int) < n := by omega
  clear h
  go_enter Tryd.func3, Tryd.ntmps3
  go_wp2
  go_ret
  exact ⟨rfl, Below.refl _ _⟩

set_option maxHeartbeats 2000000 in
theorem FnExactBitsLongest_core {A : Option Addr} {n c : Nat} {l : List Bool} {w : World} (h : InB w A n l) (hn : n ≤ 1048576) (hT : Tab w) (r : Int)
    (CS0 : ∀ (A : Option Addr) (c : Nat) (w : World), Lst w w.heap.size A l.length l → Calls Tryd.prog 6 #[.slice A l.length c] w fun e w' => e = .returned (.int .i64 r) ∧ Below w.heap.size w w')
    (CI0 : ∀ (A : Option Addr) (c : Nat) (w : World), Lst w w.heap.size A l.length l → Tab w → Calls Tryd.prog 8 #[.slice A l.length c] w fun e w' => e = .returned (.int .i64 r) ∧ Below w.heap.size w w') :
    Calls Tryd.prog 3 #[.slice A n c] w fun e w' => e = .returned (.bool true) ∧ Below w.heap.size w w' := by
  have hl := h.lst
  have CS := Lib.hid CS0
  have CI := Lib.hid CI0
  have HT := Lib.hid hT
  have hll : l.length ≤ 1125899906842624 := by have := hl.len; omega
  have hz : (n : Int) ≤ 1048576 := by omega
  clear h CS0 CI0 hT
  go_enter Tryd.func3, Tryd.ntmps3
  go_wp2_with fail
  refine (toBoolS_any A n c l w hl hn).mono ?_
  rintro e w1 ⟨v1, rfl, o1, b1⟩
  obtain ⟨A1, c1, rfl, l1, _⟩ := o1.lst
  clear o1
  go_wp2_with fail
  refine (CS.out A1 c1 w1 l1).mono ?_
  rintro e w2 ⟨rfl, b2⟩
  have B2 := b1.trans (b2.mono b1.size)
  clear l1 b1 b2
  go_wp2_with fail
  refine (toBoolS_any A n c l w2 (hl.up B2 (Nat.le_refl _) B2.size) hn).mono ?_
  rintro e w3 ⟨v3, rfl, o3, b3⟩
  obtain ⟨A3, c3, rfl, l3, _⟩ := o3.lst
  have B3 := B2.trans (b3.mono B2.size)
  clear b3 o3 B2
  go_wp2_with fail
  refine (CI.out A3 c3 w3 l3 (HT.out.below B3 HT.out.1)).mono ?_
  rintro e w4 ⟨rfl, b4⟩
  have l4 := lst_up l3 b4
  have B4 := B3.trans (b4.mono B3.size)
  clear b4 B3 l3
  go_wp2_with fail
  refine (toBoolS_any A n c l w4 (hl.up B4 (Nat.le_refl _) B4.size) hn).mono ?_
  rintro e w5 ⟨v5, rfl, o5, b5⟩
  obtain ⟨A5, c5, rfl, l5, _⟩ := o5.lst
  have l6 := lst_up l4 b5
  have B5 := B4.trans (b5.mono B4.size)
  clear b5 B4 o5 l4
  go_wp2_with fail
  refine (eqBoolS_same A3 A5 l.length c3 c5 _ _ l w5 l6 l5 (Nat.le_refl _) (Nat.le_refl _) hll).mono ?_
  rintro e w6 ⟨rfl, b6⟩
  go_wp2
  go_ret
  exact ⟨rfl, B5.trans (b6.mono B5.size)⟩

theorem FnExactBitsLongest_walk {A : Option Addr} {n c : Nat} {l : List Bool} {w : World} (h : InB w A n l) (hT : Tab w) :
    Calls Tryd.prog 3 #[.slice A n c] w fun e w' => e = .returned (.bool true) ∧ Below w.heap.size w w' := by
  by_cases hn : n ≤ 1048576
  · have e := h.lst.len
    by_cases hv : 64 < l.length
    · exact FnExactBitsLongest_core h hn hT (-1) (fun A c w _ => sLong_no A l.length c w hv (by omega)) (fun A c w _ _ => iLong_no A l.length c w hv (by omega))
    · exact FnExactBitsLongest_core h hn hT (lrB l) (fun A c w hw => sLong_yes A l.length c l w hw (by omega)) (fun A c w hw hT => iLong_yes A l.length c l w hw (by omega) hT)
  · exact FnExactBitsLongest_big h (by omega)

theorem dDrawBitsLongest {a : Option Addr} {len cap : Nat} {z : List Int} {w : World} (h : IsRow .u8 w a len cap z) : Calls Tryd.prog 10 #[.slice a len cap] w fun e w' =>
    ∃ (A : Option Addr) (n c : Nat) (l : List Bool), e = .returned (.slice A n c) ∧ Own w' w.heap.size (.slice A n c) l ∧ n ≤ 65 ∧ Below w.heap.size w w' := by
  have HO := Lib.hid (open_g h)
  clear h
  go_enter Tryd.func10, Tryd.ntmps10
  go_wp2_with fail
  refine HO.out.mono ?_
  rintro e w1 ⟨rfl, hr, hb, hs⟩
  have hB := hb.size
  clear hs
  go_wp2_with fail
  refine (l20Bits_any _ _ 9 w1 hr (by omega) (by omega) (by omega)).mono ?_
  rintro e w2 ⟨A, n, c, l, rfl, o1, n1, r1, G1⟩
  go_wp2
  go_ret
  exact ⟨_, _, _, l, rfl, o1.mono hB, n1, Below.of_gr hb G1 hB (Nat.le_refl _)⟩

theorem dDrawBitsFind {a : Option Addr} {len cap : Nat} {z : List Int} {w : World} (h : IsRow .u8 w a len cap z) : Calls Tryd.prog 13 #[.slice a len cap] w fun e w' =>
    ∃ (A : Option Addr) (n c : Nat) (l : List Bool) (m : Int), e = .returned (.tuple #[.slice A n c, .int .i64 m]) ∧ Own w' w.heap.size (.slice A n c) l ∧ n ≤ 65 ∧ Below w.heap.size w w' := by
  have HO := Lib.hid (open_g h)
  clear h
  go_enter Tryd.func13, Tryd.ntmps13
  go_wp2_with fail
  refine HO.out.mono ?_
  rintro e w1 ⟨rfl, hr, hb, hs⟩
  have hB := hb.size
  have hlt := hr.lt
  clear hs
  go_wp2_with fail
  refine (l20Bits_any _ _ 14 w1 hr (by omega) (by omega) (by omega)).mono ?_
  rintro e w2 ⟨A, n, c, l, rfl, o1, n1, r1, G1⟩
  have O1 := Lib.hid o1
  clear o1
  go_wp2_with fail
  refine (l20Many_any _ _ w2 r1 (by omega)).mono ?_
  rintro e w3 ⟨m, rfl, D3⟩
  have O3 := Lib.hid (own_gr O1.out D3.gr hlt)
  go_wp2
  exact bodyPost_ret (v := .tuple #[.slice A n c, .int .i64 m]) (by simp [results, Tryd.results13, go_sem]) rfl ⟨_, _, _, l, _, rfl, O3.out.mono hB, n1, Below.of_gr hb (G1.trans D3.gr) hB (Nat.le_refl _)⟩

set_option maxHeartbeats 4000000 in
theorem FnBitsFind_walk {a : Option Addr} {len cap : Nat} {z : List Int} {w : World} (h : IsRow .u8 w a len cap z) (hT : Tab w) : Calls Tryd.prog 5 #[.slice a len cap] w fun e w' => e = .returned (.bool true) ∧ Below w.heap.size w w' := by
  have hm := row_len h
  have HD := Lib.hid (dDrawBitsFind h)
  have HT := Lib.hid hT
  clear h hT
  by_cases hl : len ≤ 1048576
  · go_enter Tryd.func5, Tryd.ntmps5
    go_wp2_with fail
    refine HD.out.mono ?_
    rintro e w1 ⟨A, n, c, l, m, rfl, o1, n1, b1⟩
    obtain rfl : n = l.length := (own_form o1).1
    have L1 := own_lstn o1
    clear HD o1
    by_cases hv : 64 < l.length ∨ m < 1 ∨ 64 < m
    · have HI := Lib.hid (fun w => iFind_no A l.length c m w (by omega) hv)
      have HS := Lib.hid (fun w => sFind_no A l.length c m w (by omega) hv)
      go_wp2_with fail
      refine (HI.out w1).mono ?_
      rintro e w2 ⟨rfl, b2⟩
      have B2 := b1.trans (b2.mono b1.size)
      clear b1 b2
      go_wp2_with fail
      refine (HS.out w2).mono ?_
      rintro e w3 ⟨rfl, b3⟩
      have B3 := B2.trans (b3.mono B2.size)
      clear b3 B2 HI HS L1
      by_cases h1 : m < 1
      · clear hv
        go_wp2_with fail
        refine (alive_any _).mono ?_
        rintro e w4 ⟨rfl, b4⟩
        go_wp2
        go_ret
        exact ⟨rfl, B3.trans (b4.mono B3.size)⟩
      · by_cases h2 : 64 < m
        · clear hv
          go_wp2_with fail
          refine (alive_any _).mono ?_
          rintro e w4 ⟨rfl, b4⟩
          go_wp2
          go_ret
          exact ⟨rfl, B3.trans (b4.mono B3.size)⟩
        · have h3 : (64 : Int) < (l.length : Int) := by omega
          clear hv
          go_wp2_with fail
          refine (alive_any _).mono ?_
          rintro e w4 ⟨rfl, b4⟩
          go_wp2
          go_ret
          exact ⟨rfl, B3.trans (b4.mono B3.size)⟩
    · obtain ⟨M, rfl⟩ := Int.eq_ofNat_of_zero_le (show 0 ≤ m by omega)
      obtain ⟨r, hr⟩ := FindR_ex l M
      have hl64 : l.length ≤ 64 := by omega
      have hM1 : 1 ≤ M := by omega
      have hM2 : M ≤ 64 := by omega
      have hc1 : ¬ (M : Int) < 1 := by omega
      have hc2 : ¬ (64 : Int) < (M : Int) := by omega
      have hc3 : ¬ (64 : Int) < (l.length : Int) := by omega
      have HR := Lib.hid hr
      clear hr hv
      go_wp2_with fail
      refine (iFind_yes A l.length c M l r w1 L1 hl64 hM1 hM2 HR.out).mono ?_
      rintro e w2 ⟨rfl, b2⟩
      have L2 := lst_up L1 b2
      have B2 := b1.trans (b2.mono b1.size)
      clear b1 b2 L1
      go_wp2_with fail
      refine (sFind_yes A l.length c M l r w2 L2 hl64 hM1 hM2 HR.out).mono ?_
      rintro e w3 ⟨rfl, b3⟩
      have L3 := Lib.hid (lst_up L2 b3)
      have B3 := Lib.hid (B2.trans (b3.mono B2.size))
      clear L2 b3 B2
      have HLR := Lib.hid (lr_iff l M)
      go_wp2
      go_loopw [6, 7, 8] (fun i _ _ wr => ∃ k : Nat, k ≤ l.length ∧ i = .int .i64 k ∧ (∀ j : Nat, j < k → ¬ (j + M ≤ l.length ∧ AllAt l j M false)) ∧ Below w3.heap.size w3 wr) (fun i _ _ _ => l.length - (intOf i).toNat)
      case atStart => exact ⟨0, Nat.zero_le _, rfl, fun j hj => by omega, Below.refl _ _⟩
      case round =>
        obtain ⟨k, hk, rfl, hno, hbb⟩ := hrel
        have HNO := Lib.hid hno
        clear hno
        have Lr := lst_up L3.out hbb
        by_cases hlt : k < l.length
        · by_cases hy : k + M ≤ l.length ∧ AllAt l k M false
          · have C := Lib.hid (iTakeB_any A l.length c l k M (setB l k M true) true wr Lr (by omega) ⟨fun h => by omega, fun _ h => by omega, fun S' M' e1 e2 _ _ _ _ h => by
                obtain rfl : S' = k := by omega
                obtain rfl : M' = M := by omega
                exact absurd hy.2 h, fun S' M' e1 e2 _ _ _ _ _ => by
                obtain rfl : S' = k := by omega
                obtain rfl : M' = M := by omega
                exact ⟨rfl, rfl⟩⟩)
            have HRk : RowKit.Hid (r = (k : Int)) := Lib.hid (FindR_uniq HR.out (.inr ⟨k, rfl, hy.1, hy.2, fun j hj ha => HNO.out j hj ⟨by omega, ha⟩⟩))
            have hq : (r == (k : Int)) = true := by rw [beq_iff_eq]; exact HRk.out
            have hge : (M : Int) ≤ (lrB l : Int) := by have := HLR.out.2 ⟨k, hy.1, hy.2⟩; omega
            clear hy
            go_wp2_with fail
            refine C.out.mono ?_
            rintro e w5 ⟨A5, c5, rfl, o5, b5⟩
            have L5 := lst_up Lr b5
            have B5 := B3.out.trans ((hbb.trans (b5.mono hbb.size)).mono B3.out.size)
            clear C o5 b5
            go_wp2_with fail
            refine (iLong_yes A l.length c l w5 L5 hl64 (HT.out.below B5 HT.out.1)).mono ?_
            rintro e w6 ⟨rfl, b6⟩
            go_wp2
            go_ret
            exact ⟨rfl, B5.trans (b6.mono B5.size)⟩
          · have C := Lib.hid (iTakeB_any A l.length c l k M l false wr Lr (by omega) ⟨fun h => by omega, fun _ _ => ⟨rfl, rfl⟩, fun S' M' e1 e2 _ _ _ _ _ => ⟨rfl, rfl⟩, fun S' M' e1 e2 _ _ _ h6 h => by
                obtain rfl : S' = k := by omega
                obtain rfl : M' = M := by omega
                exact absurd ⟨h6, h⟩ hy⟩)
            have HNO2 := Lib.hid (show ∀ j : Nat, j < k + 1 → ¬ (j + M ≤ l.length ∧ AllAt l j M false) from fun j hj => by
              by_cases e : j = k
              · subst e; exact hy
              · exact HNO.out j (by omega))
            clear hy
            go_wp2_with fail
            refine C.out.mono ?_
            rintro e w5 ⟨A5, c5, rfl, o5, b5⟩
            go_wp2
            go_roundw
            case rel => exact ⟨k + 1, by omega, by go_num, HNO2.out, hbb.trans (b5.mono hbb.size)⟩
            case measure => simp [intOf]; omega
        · have HR1 : RowKit.Hid (r = -1) := Lib.hid (FindR_uniq HR.out (.inl ⟨rfl, fun j hj ha => HNO.out j (by omega) ⟨hj, ha⟩⟩))
          have hq : (r == -1) = true := by rw [beq_iff_eq]; exact HR1.out
          have hge : (lrB l : Int) < (M : Int) := by
            have : ¬ M ≤ lrB l := fun h => by
              obtain ⟨j, h1, h2⟩ := HLR.out.1 h
              exact HNO.out j (by omega) ⟨h1, h2⟩
            omega
          have hkn : k = l.length := by omega
          have hk9 : ¬ (k : Int) < (l.length : Int) := by omega
          have B5 := B3.out.trans (hbb.mono B3.out.size)
          clear hkn
          go_wp2_with fail
          refine (iLong_yes A l.length c l wr Lr hl64 (HT.out.below B5 HT.out.1)).mono ?_
          rintro e w6 ⟨rfl, b6⟩
          go_wp2
          go_ret
          exact ⟨rfl, B5.trans (b6.mono B5.size)⟩
  · go_enter Tryd.func5, Tryd.ntmps5
    go_wp2
    go_ret
    exact ⟨rfl, Below.refl _ _⟩

end Go.Proofs.YtkgaajploobjdaaDoor.Wb
