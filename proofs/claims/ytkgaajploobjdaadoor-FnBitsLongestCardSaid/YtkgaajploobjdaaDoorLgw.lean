/- BitsLongest, of the program and of the reference: the walks. Conditions: the library's table holds what its text lays. -/
import Derived.Test.YtkgaajploobjdaaDoorLg
namespace Go.Proofs.YtkgaajploobjdaaDoor.Wb
open Go.RowKit Go.Proofs.YtkgaajploobjdaaDoor.Pl Go.Proofs.YtkgaajploobjdaaDoor.Wk

theorem xor_u64 (x : Nat) (h : x < 18446744073709551616) : bits .xor .u64 IntKind.u64.max (x : Int) = ((18446744073709551615 - x : Nat) : Int) := by
  have e : IntKind.u64.max = ((18446744073709551615 : Nat) : Int) := by decide
  rw [e, bits_xor_u64_nat _ _ (by omega) h, xor_max x h]

theorem andNot_u64 (g k : Nat) (hg : g < 2 ^ k) (hk : k < 64) : bits .andNot .u64 ((18446744073709551615 - g : Nat) : Int) (2 ^ k) = ((18446744073709551615 - (g + 2 ^ k) : Nat) : Int) := by
  have h1 : 2 ^ k ≤ 2 ^ 63 := Nat.pow_le_pow_right (by omega) (by omega)
  have e2 : ((2 : Int) ^ k) = ((2 ^ k : Nat) : Int) := by simp
  rw [e2]
  have n1 : (BitVec.ofInt 64 ((18446744073709551615 - g : Nat) : Int)).toNat = 18446744073709551615 - g := by
    rw [BitVec.ofInt_natCast, BitVec.toNat_ofNat]; exact Nat.mod_eq_of_lt (by omega)
  have n2 : (BitVec.ofInt 64 ((2 ^ k : Nat) : Int)).toNat = 2 ^ k := by
    rw [BitVec.ofInt_natCast, BitVec.toNat_ofNat]; exact Nat.mod_eq_of_lt (by omega)
  show IntKind.u64.wrap ((BitVec.ofInt 64 ((18446744073709551615 - g : Nat) : Int) &&& ~~~ BitVec.ofInt 64 ((2 ^ k : Nat) : Int)).toNat : Int) = _
  rw [BitVec.toNat_and, BitVec.toNat_not, n1, n2, show (2 ^ 64 - 1 - 2 ^ k : Nat) = 18446744073709551615 - 2 ^ k by omega, and_not_step g k hg hk, IntKind.wrap_u64]
  omega

theorem wrap_u64p {k : Nat} (h : k < 64) : IntKind.u64.wrap (2 ^ k) = 2 ^ k := by
  have t : ∀ m : Fin 64, IntKind.u64.wrap (2 ^ m.val) = 2 ^ m.val := by decide +kernel
  exact t ⟨k, h⟩

/-- The word whose bits are set for used words. -/
def wd (x : Nat) : Int := ((18446744073709551615 - x : Nat) : Int)

set_option maxHeartbeats 2000000 in
theorem wordOf_any (A : Option Addr) (n c : Nat) (l : List Bool) (w : World) (h : Lst w w.heap.size A n l) (hn : n ≤ 64) :
    Calls Tryd.prog 16 #[.slice A n c] w fun e w' => e = .returned (.int .u64 (wd (fm l 0))) ∧ Below w.heap.size w w' := by
  have HN := Lib.hid h.len
  have HG := Lib.hid (gm_all l)
  go_enter Tryd.func16, Tryd.ntmps16
  go_wp2
  go_loopw [3, 8] (fun v i wr => ∃ k : Nat, k ≤ n ∧ i = .int .i64 k ∧ v = .int .u64 (wd (gm l k)) ∧ Below w.heap.size w wr) (fun _ i _ => n - (intOf i).toNat)
  case atStart => exact ⟨0, Nat.zero_le _, rfl, rfl, Below.refl _ _⟩
  case round =>
    obtain ⟨k, hk, rfl, rfl, hb⟩ := hrel
    by_cases hlt : k < n
    · obtain ⟨b, off, rfl, hbb, c0⟩ := (h.below hb (Nat.le_refl _)).cells k hlt
      have hbn := hb
      have HS : RowKit.Hid (gm l (k + 1) = gm l k + (if ub l k then 0 else 2 ^ k)) := Lib.hid rfl
      have HA := Lib.hid (andNot_u64 (gm l k) k (gm_lt l k) (by omega))
      by_cases hu : ub l k = true
      · rw [hu] at c0 HS
        have HW : RowKit.Hid (wd (gm l (k + 1)) = wd (gm l k)) := Lib.hid (by rw [HS.out]; rfl)
        clear hu HS HA
        go_wp2
        go_roundw
        case rel => exact ⟨k + 1, by omega, by go_num, by rw [HW.out], hbn⟩
        case measure => simp [intOf]; omega
      · have hu2 : ub l k = false := by simpa using hu
        rw [hu2] at c0 HS
        have HW : RowKit.Hid (wd (gm l (k + 1)) = bits .andNot .u64 (wd (gm l k)) (IntKind.u64.wrap (2 ^ k))) := Lib.hid (by rw [HS.out, wrap_u64p (show k < 64 by omega)]; exact HA.out.symm)
        have hk64 : k < 64 := by omega
        clear hu hu2 HS HA
        generalize wd (gm l k) = W at HW
        go_wp2
        go_roundw
        case rel => exact ⟨k + 1, by omega, by go_num, by rw [HW.out], hbn⟩
        case measure => simp [intOf]; omega
    · have hkn : k = n := by omega
      subst hkn
      have HW : RowKit.Hid (wd (gm l k) = wd (fm l 0)) := Lib.hid (by rw [HN.out, HG.out])
      go_wp2
      go_ret
      exact ⟨by rw [← HW.out]; rfl, hb⟩

theorem wd_xor (x : Nat) (h : x < 18446744073709551616) : bits .xor .u64 IntKind.u64.max (wd x) = (x : Int) := by
  unfold wd
  rw [xor_u64 _ (by omega)]
  congr 1
  omega
theorem wd_of (x : Nat) (h : x < 18446744073709551616) : bits .xor .u64 IntKind.u64.max (x : Int) = wd x := xor_u64 x h
theorem div_cast (x k : Nat) : (x : Int) / 2 ^ k = ((x / 2 ^ k : Nat) : Int) := by simp
theorem wd_ne (x : Nat) (h : x < 18446744073709551616) : (wd x != 18446744073709551615) = decide (x ≠ 0) := by
  unfold wd
  by_cases e : x = 0
  · subst e; rfl
  · have h1 : ((18446744073709551615 - x : Nat) : Int) ≠ 18446744073709551615 := by omega
    simp [e, h1]

theorem iLong_no (A : Option Addr) (n c : Nat) (w : World) (hn : 64 < n) (hm : n ≤ 1125899906842624) :
    Calls Tryd.prog 8 #[.slice A n c] w fun e w' => e = .returned (.int .i64 (-1)) ∧ Below w.heap.size w w' := by
  have hn2 : (64 : Int) < n := by omega
  go_enter Tryd.func8, Tryd.ntmps8
  go_wp2
  go_ret
  exact ⟨rfl, Below.refl _ _⟩

set_option maxHeartbeats 4000000 in
theorem iLong_yes (A : Option Addr) (n c : Nat) (l : List Bool) (w : World) (h : Lst w w.heap.size A n l) (hn : n ≤ 64) (hT : Tab w) :
    Calls Tryd.prog 8 #[.slice A n c] w fun e w' => e = .returned (.int .i64 (lrB l)) ∧ Below w.heap.size w w' := by
  have hn2 : ¬ (64 : Int) < n := by omega
  have HN := Lib.hid h.len
  have HW := Lib.hid (wordOf_any A n c l w h hn)
  have HT := Lib.hid hT
  have hl : l.length ≤ 64 := by have := h.len; omega
  have HL := Lib.hid hl
  clear h hT
  go_enter Tryd.func8, Tryd.ntmps8
  go_wp2_with fail
  refine HW.out.mono ?_
  rintro e w1 ⟨rfl, b1⟩
  have T1 := Lib.hid (HT.out.below b1 HT.out.1)
  clear HW
  go_wp2
  go_loop [3, 4] (fun v i => ∃ j : Nat, j ≤ n ∧ v = .int .i64 (bst l j) ∧ i = .int .u64 (wd (fm l j)) ∧ (j = 0 ∨ fm l j % 2 = 0)) (fun _ i => 18446744073709551615 - (intOf i).toNat)
  case atStart => exact ⟨0, Nat.zero_le _, rfl, rfl, .inl rfl⟩
  case round =>
    obtain ⟨j, hj, rfl, rfl, hev⟩ := hrel
    have hxb := fm_bd HL.out j
    by_cases hx : fm l j = 0
    · have HR : RowKit.Hid (bst l j = lrB l) := Lib.hid (bst_end (by have := HN.out; omega) hx).symm
      have q0 : (wd (fm l j) != 18446744073709551615) = false := by rw [wd_ne _ hxb]; simp [hx]
      generalize wd (fm l j) = W at q0
      generalize bst l j = B at HR
      clear hx hxb hev
      go_wp2
      go_ret
      exact ⟨by rw [← HR.out]; rfl, b1⟩
    · have q0 : (wd (fm l j) != 18446744073709551615) = true := by rw [wd_ne _ hxb]; simp [hx]
      obtain ⟨s1, s2⟩ := longest_step HL.out hx hev
      have HC1 := Lib.hid (tz64 _ hxb hx w1 T1.out)
      have hx1 := wd_xor _ hxb
      have HM1 : RowKit.Hid (18446744073709551615 - (wd (fm l j)).toNat = fm l j) := Lib.hid (by unfold wd; omega)
      have HX := Lib.hid hx
      have ht64 := (Lib.lowest_bit 64 _ hx hxb).2
      generalize Lib.ctz 64 (fm l j) = t at s1 s2 HC1 ht64
      have hyb := fm_bd HL.out (j + t)
      have hd1 : ((fm l j : Nat) : Int) / 2 ^ t = ((fm l (j + t) : Nat) : Int) := by rw [div_cast, s1]
      have hx2 := wd_of _ hyb
      clear hx hev hxb
      obtain ⟨X, hX⟩ : ∃ X : Int, ((fm l j : Nat) : Int) = X := ⟨_, rfl⟩
      obtain ⟨W, hW⟩ : ∃ W : Int, wd (fm l j) = W := ⟨_, rfl⟩
      obtain ⟨Y, hY⟩ : ∃ Y : Int, ((fm l (j + t) : Nat) : Int) = Y := ⟨_, rfl⟩
      obtain ⟨Z, hZ⟩ : ∃ Z : Int, wd (fm l (j + t)) = Z := ⟨_, rfl⟩
      rw [hX] at HC1 hd1 hx1
      rw [hW] at q0 hx1 HM1
      rw [hY] at hd1 hx2
      rw [hZ] at hx2
      rw [hW]
      have HFY := Lib.hid hY
      have HFZ := Lib.hid hZ
      clear hX hW hY hZ
      rcases s2 with ⟨s3, s4⟩ | ⟨s3, run, r1, r2, r3, r4, r5, r6, r7⟩
      · have HC2 : RowKit.Hid (Calls Tryd.prog 17 #[.int .u64 Z] w1 fun e w' => e = .returned (.int .i64 64) ∧ w' = w1) := Lib.hid (by rw [← HFZ.out, s3]; exact tz64_nil w1)
        have HR := Lib.hid s4
        have hb64 : bst l j ≤ 64 := by have := bst_le l j; omega
        clear s1 s3 s4 hyb
        generalize bst l j = B at HR hb64
        by_cases hB : (B : Int) < 64
        · have HR2 : RowKit.Hid ((64 : Int) = (lrB l : Int)) := Lib.hid (by rw [← HR.out]; omega)
          go_wp2_with fail
          with_reducible refine HC1.out.mono ?_
          rintro e w2 ⟨rfl, rfl⟩
          go_wp2_with fail
          with_reducible refine HC2.out.mono ?_
          rintro e w3 ⟨rfl, rfl⟩
          go_wp2
          go_ret
          exact ⟨by rw [← HR2.out]; rfl, b1⟩
        · have HR2 : RowKit.Hid ((B : Int) = (lrB l : Int)) := Lib.hid (by rw [← HR.out]; omega)
          go_wp2_with fail
          with_reducible refine HC1.out.mono ?_
          rintro e w2 ⟨rfl, rfl⟩
          go_wp2_with fail
          with_reducible refine HC2.out.mono ?_
          rintro e w3 ⟨rfl, rfl⟩
          go_wp2
          go_ret
          exact ⟨by rw [← HR2.out]; rfl, b1⟩
      · have HC2 : RowKit.Hid (Calls Tryd.prog 17 #[.int .u64 Z] w1 fun e w' => e = .returned (.int .i64 run) ∧ w' = w1) := Lib.hid (by
          have := tz64 (18446744073709551615 - fm l (j + t)) (by omega) (by omega) w1 T1.out
          rw [r1] at this
          rw [← HFZ.out]; exact this)
        have hd2 : Y / 2 ^ run = ((fm l (j + t + run) : Nat) : Int) := by rw [← HFY.out, div_cast, r6]
        have hx3 := wd_of _ (fm_bd HL.out (j + t + run))
        obtain ⟨V, hV⟩ : ∃ V : Int, ((fm l (j + t + run) : Nat) : Int) = V := ⟨_, rfl⟩
        rw [hV] at hd2 hx3
        have q1 : ((run : Int) == 64) = false := by rw [beq_eq_false_iff_ne]; omega
        have HB := Lib.hid r5
        have HN2 : RowKit.Hid (j + t + run ≤ n) := Lib.hid (by have := HN.out; omega)
        have HE := Lib.hid r7
        have HME : RowKit.Hid (18446744073709551615 - (wd (fm l (j + t + run))).toNat < 18446744073709551615 - W.toNat) := Lib.hid (by
          rw [HM1.out]
          have e1 := fm_bd HL.out (j + t + run)
          have e2 : 18446744073709551615 - (wd (fm l (j + t + run))).toNat = fm l (j + t + run) := by unfold wd; omega
          rw [e2]
          have e3 := fm_shift l j (t + run)
          rw [show j + (t + run) = j + t + run by omega] at e3
          rw [← e3]
          have hp : 2 ^ 1 ≤ 2 ^ (t + run) := Nat.pow_le_pow_right (by omega) (by omega)
          exact Nat.div_lt_self (Nat.pos_of_ne_zero HX.out) (by omega))
        clear s1 s3 hyb r1 r5 r6 r7 hV
        have hrun : run ≤ 64 := by omega
        have hbj : bst l j ≤ 64 := by have := bst_le l j; omega
        generalize bst l j = B at HB hbj
        by_cases hB : (B : Int) < (run : Int)
        · have HR2 : RowKit.Hid ((run : Int) = (bst l (j + t + run) : Int)) := Lib.hid (by rw [← HB.out]; omega)
          go_wp2_with fail
          with_reducible refine HC1.out.mono ?_
          rintro e w2 ⟨rfl, rfl⟩
          go_wp2_with fail
          with_reducible refine HC2.out.mono ?_
          rintro e w3 ⟨rfl, rfl⟩
          go_wp2
          go_round
          case rel => exact ⟨j + t + run, HN2.out, by rw [← HR2.out], rfl, .inr HE.out⟩
          case measure => exact HME.out
        · have HR2 : RowKit.Hid ((B : Int) = (bst l (j + t + run) : Int)) := Lib.hid (by rw [← HB.out]; omega)
          go_wp2_with fail
          with_reducible refine HC1.out.mono ?_
          rintro e w2 ⟨rfl, rfl⟩
          go_wp2_with fail
          with_reducible refine HC2.out.mono ?_
          rintro e w3 ⟨rfl, rfl⟩
          go_wp2
          go_round
          case rel => exact ⟨j + t + run, HN2.out, by rw [← HR2.out], rfl, .inr HE.out⟩
          case measure => exact HME.out

theorem sLong_no (A : Option Addr) (n c : Nat) (w : World) (hn : 64 < n) (hm : n ≤ 1125899906842624) :
    Calls Tryd.prog 6 #[.slice A n c] w fun e w' => e = .returned (.int .i64 (-1)) ∧ Below w.heap.size w w' := by
  have hn2 : (64 : Int) < n := by omega
  go_enter Tryd.func6, Tryd.ntmps6
  go_wp2
  go_ret
  exact ⟨rfl, Below.refl _ _⟩

set_option maxHeartbeats 2000000 in
theorem sLong_yes (A : Option Addr) (n c : Nat) (l : List Bool) (w : World) (h : Lst w w.heap.size A n l) (hn : n ≤ 64) :
    Calls Tryd.prog 6 #[.slice A n c] w fun e w' => e = .returned (.int .i64 (lrB l)) ∧ Below w.heap.size w w' := by
  have hn2 : ¬ (64 : Int) < n := by omega
  have HN := Lib.hid h.len
  go_enter Tryd.func6, Tryd.ntmps6
  go_wp2
  go_loopw [3, 4, 5] (fun v x i wr => ∃ k r b : Nat, k ≤ n ∧ i = .int .i64 k ∧ x = .int .i64 r ∧ v = .int .i64 b ∧ r = trail (l.take k) ∧ b = bst l k ∧ r ≤ k ∧ b ≤ k ∧ Below w.heap.size w wr) (fun _ _ i _ => n - (intOf i).toNat)
  case atStart => exact ⟨0, 0, 0, Nat.zero_le _, rfl, rfl, rfl, rfl, rfl, Nat.le_refl _, Nat.le_refl _, Below.refl _ _⟩
  case round =>
    obtain ⟨k, r, b, hk, rfl, rfl, rfl, hr, hb0, hrk, hbk, hb⟩ := hrel
    have HRR := Lib.hid hr
    have HBB := Lib.hid hb0
    clear hr hb0
    by_cases hlt : k < n
    · have hkl : k < l.length := by have := HN.out; omega
      obtain ⟨b', off, rfl, hbb, c0⟩ := (h.below hb (Nat.le_refl _)).cells k hlt
      have hbn := hb
      have HT : RowKit.Hid (trail (l.take (k + 1)) = if ub l k then 0 else r + 1) := Lib.hid (by rw [ub_take_succ hkl, trail_snoc, ← HRR.out])
      have HS : RowKit.Hid (bst l (k + 1) = max b (trail (l.take (k + 1)))) := Lib.hid (by rw [HBB.out]; rfl)
      by_cases hu : ub l k = true
      · rw [hu] at c0 HT
        have HT2 : RowKit.Hid (trail (l.take (k + 1)) = 0) := Lib.hid (by rw [HT.out]; rfl)
        have HS2 : RowKit.Hid (bst l (k + 1) = b) := Lib.hid (by rw [HS.out, HT2.out]; omega)
        have hb9 : ¬ (b : Int) < 0 := by omega
        clear hu HT HS
        go_wp2
        go_roundw
        case rel => exact ⟨k + 1, 0, b, by omega, by go_num, rfl, rfl, HT2.out.symm, HS2.out.symm, by omega, by omega, hbn⟩
        case measure => simp [intOf]; omega
      · have hu2 : ub l k = false := by simpa using hu
        rw [hu2] at c0 HT
        have HT2 : RowKit.Hid (trail (l.take (k + 1)) = r + 1) := Lib.hid (by rw [HT.out]; rfl)
        clear hu hu2 HT
        by_cases hB : b < r + 1
        · have HS2 : RowKit.Hid (bst l (k + 1) = r + 1) := Lib.hid (by rw [HS.out, HT2.out]; omega)
          have hb9 : (b : Int) < (r : Int) + 1 := by omega
          clear HS hB
          go_wp2
          go_roundw
          case rel => exact ⟨k + 1, r + 1, r + 1, by omega, by go_num, by go_num, by go_num, HT2.out.symm, HS2.out.symm, by omega, by omega, hbn⟩
          case measure => simp [intOf]; omega
        · have HS2 : RowKit.Hid (bst l (k + 1) = b) := Lib.hid (by rw [HS.out, HT2.out]; omega)
          have hb9 : ¬ (b : Int) < (r : Int) + 1 := by omega
          clear HS hB
          go_wp2
          go_roundw
          case rel => exact ⟨k + 1, r + 1, b, by omega, by go_num, by go_num, rfl, HT2.out.symm, HS2.out.symm, by omega, by omega, hbn⟩
          case measure => simp [intOf]; omega
    · have hkn : k = n := by omega
      subst hkn
      have HR2 : RowKit.Hid (b = lrB l) := Lib.hid (by rw [HBB.out, HN.out]; rfl)
      go_wp2
      go_ret
      exact ⟨by rw [← HR2.out]; rfl, hb⟩

end Go.Proofs.YtkgaajploobjdaaDoor.Wb
