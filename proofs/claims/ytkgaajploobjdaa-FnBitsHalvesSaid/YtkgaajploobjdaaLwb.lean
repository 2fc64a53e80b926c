/- The laws BitsTake, BitsGive, BitsHalves: their walks. Conditions: none. -/
import Derived.Test.YtkgaajploobjdaaDrn
import Derived.Test.YtkgaajploobjdaaBsg
import Derived.Test.YtkgaajploobjdaaBfi
import Derived.BigQuiet
namespace Go.Proofs.Ytkgaajploobjdaa.Wb
open Go.RowKit Go.Proofs.Ytkgaajploobjdaa.Pl Go.Proofs.Ytkgaajploobjdaa.Wk

theorem row_len {w : World} {a : Option Addr} {len cap : Nat} {z : List Int} (h : IsRow .u8 w a len cap z) : len ≤ 9223372036854775807 := by
  rcases h with ⟨_, rfl, rfl, _⟩ | ⟨x, _, hl, hm, _⟩
  · omega
  · unfold maxLen at hm; omega

set_option maxHeartbeats 2000000 in
theorem sameFlags_same (A A2 : Option Addr) (n c c2 B B2 : Nat) (l : List Bool) (w : World) (h : Lst w B A n l) (h2 : Lst w B2 A2 n l) (hB : B ≤ w.heap.size) (hB2 : B2 ≤ w.heap.size) (hn : n ≤ 1125899906842624) :
    Calls Try.prog 20 #[.slice A n c, .slice A2 n c2] w fun e w' => e = .returned (.bool true) ∧ Below w.heap.size w w' := by
  go_enter Try.func20, Try.ntmps20
  go_wp2
  go_loopw [5] (fun i wr => ∃ k : Nat, k ≤ n ∧ i = .int .i64 k ∧ Below w.heap.size w wr) (fun i _ => n - (intOf i).toNat)
  case atStart => exact ⟨0, Nat.zero_le _, rfl, Below.refl _ _⟩
  case round =>
    obtain ⟨k, hk, rfl, hb⟩ := hrel
    by_cases hlt : k < n
    · obtain ⟨b, off, rfl, hbb, e0⟩ := (h.below hb hB).cells k hlt
      obtain ⟨b', off', rfl, hbb', d0⟩ := (h2.below hb hB2).cells k hlt
      have i1 : (0 : Int) ≤ (k : Int) := by omega
      have i2 : (k : Int) < (n : Int) := by omega
      have hbn := hb
      go_wp2
      go_quiet (fail)
      go_wp2
      go_roundw
      case rel => exact ⟨k + 1, by omega, by go_num, ⟨hbn.os, hbn.tape, hbn.output, hbn.size, hbn.block⟩⟩
      case measure => simp [intOf]; omega
    · have hkn : k = n := by omega
      subst hkn
      go_wp2
      go_ret
      exact ⟨rfl, hb⟩

theorem Chg_true {l : List Bool} {n : Nat} {s m : Int} {u : Bool} {R : List Bool} (h : Chg l n s m u R true) : ∃ S M : Nat, s = S ∧ m = M ∧ n ≤ 64 ∧ 1 ≤ M ∧ M ≤ 64 ∧ S + M ≤ n ∧ AllAt l S M (!u) ∧ R = setB l S M u := by
  by_cases h1 : 64 < n ∨ m < 1 ∨ 64 < m
  · have := (h.inv h1).2; cases this
  · by_cases h2 : s < 0 ∨ (n : Int) - m < s
    · have := (h.out h1 h2).2; cases this
    · obtain ⟨S, rfl⟩ := Int.eq_ofNat_of_zero_le (show 0 ≤ s by omega)
      obtain ⟨M, rfl⟩ := Int.eq_ofNat_of_zero_le (show 0 ≤ m by omega)
      by_cases h3 : AllAt l S M (!u)
      · exact ⟨S, M, rfl, rfl, by omega, by omega, by omega, by omega, h3, (h.yes S M rfl rfl (by omega) (by omega) (by omega) (by omega) h3).2⟩
      · have := (h.no S M rfl rfl (by omega) (by omega) (by omega) (by omega) h3).1; cases this
theorem Chg_false {l : List Bool} {n : Nat} {s m : Int} {u : Bool} {R : List Bool} (h : Chg l n s m u R false) : R = [] ∨ R = l := by
  by_cases h1 : 64 < n ∨ m < 1 ∨ 64 < m
  · exact .inl (h.inv h1).1
  · by_cases h2 : s < 0 ∨ (n : Int) - m < s
    · exact .inr (h.out h1 h2).1
    · obtain ⟨S, rfl⟩ := Int.eq_ofNat_of_zero_le (show 0 ≤ s by omega)
      obtain ⟨M, rfl⟩ := Int.eq_ofNat_of_zero_le (show 0 ≤ m by omega)
      by_cases h3 : AllAt l S M (!u)
      · have := (h.yes S M rfl rfl (by omega) (by omega) (by omega) (by omega) h3).1; cases this
      · exact .inr (h.no S M rfl rfl (by omega) (by omega) (by omega) (by omega) h3).2
theorem Chg_yes {l : List Bool} {n S M : Nat} {u : Bool} (hn : n ≤ 64) (h1 : 1 ≤ M) (hs : S + M ≤ n) (ha : AllAt l S M (!u)) : Chg l n S M u (setB l S M u) true :=
  ⟨fun h => by omega, fun _ h => by omega, fun S' M' e1 e2 _ _ _ _ h => by
      obtain rfl : S' = S := by omega
      obtain rfl : M' = M := by omega
      exact absurd ha h, fun S' M' e1 e2 _ _ _ _ _ => by
      obtain rfl : S' = S := by omega
      obtain rfl : M' = M := by omega
      exact ⟨rfl, rfl⟩⟩
theorem Chg_nay {l : List Bool} {n S M : Nat} {u : Bool} (hn : n ≤ 64) (h1 : 1 ≤ M) (hs : S + M ≤ n) (ha : ¬ AllAt l S M (!u)) : Chg l n S M u l false :=
  ⟨fun h => by omega, fun _ h => by omega, fun S' M' e1 e2 _ _ _ _ _ => ⟨rfl, rfl⟩, fun S' M' e1 e2 _ _ _ _ h => by
      obtain rfl : S' = S := by omega
      obtain rfl : M' = M := by omega
      exact absurd h ha⟩
theorem AllAt_flip {l : List Bool} {S M : Nat} {u : Bool} (h1 : 1 ≤ M) (h : AllAt l S M u) : ¬ AllAt l S M (!u) := fun h2 => by
  have a := h S (Nat.le_refl _) (by omega)
  have b := h2 S (Nat.le_refl _) (by omega)
  rw [a] at b; cases u <;> cases b

set_option maxHeartbeats 4000000 in
theorem FnBitsTake_walk {a : Option Addr} {len cap : Nat} {z : List Int} {w : World} (h : IsRow .u8 w a len cap z) : Calls Try.prog 7 #[.slice a len cap] w fun e w' => e = .returned (.bool true) ∧ Below w.heap.size w w' := by
  have hm := row_len h
  have HD := Lib.hid (dDrawBitsTake h)
  clear h
  by_cases hl : len ≤ 1048576
  · go_enter Try.func7, Try.ntmps7
    go_wp2_with fail
    refine HD.out.mono ?_
    rintro e w1 ⟨A, n, c, l, s, m, rfl, o1, n1, s1, s2, b1⟩
    obtain rfl : n = l.length := (own_form o1).1
    have L1 := own_lstn o1
    obtain ⟨R, b, hc, hR⟩ := Chg_ex l s m true
    have HC := Lib.hid hc
    have RR : R.length ≤ 65 := by omega
    clear HD o1 hR hc
    go_wp2_with fail
    with_reducible refine (iTakeB_any A l.length c l s m R b w1 L1 (by omega) HC.out).mono ?_
    rintro e w2 ⟨A2, c2, rfl, o2, b2⟩
    have L2 := lst_up L1 b2
    have B2 := b1.trans (b2.mono b1.size)
    have X2 := own_lstn o2
    clear L1 b1 b2 o2
    go_wp2_with fail
    with_reducible refine (sTakeB_any A l.length c l s m R b w2 L2 HC.out).mono ?_
    rintro e w3 ⟨A3, c3, rfl, o3, b3⟩
    have L3 := lst_up L2 b3
    have X3 := lst_up X2 b3
    have Y3 := own_lstn o3
    have B3 := B2.trans (b3.mono B2.size)
    clear L2 X2 B2 b3 o3
    go_wp2_with fail
    with_reducible refine (sameFlags_same A2 A3 R.length c2 c3 _ _ R w3 X3 Y3 (Nat.le_refl _) (Nat.le_refl _) (by omega)).mono ?_
    rintro e w4 ⟨rfl, b4⟩
    have L4 := lst_up L3 b4
    have X4 := lst_up X3 b4
    have B4 := B3.trans (b4.mono B3.size)
    clear L3 X3 Y3 B3 b4
    cases b
    · by_cases h0 : R.length = 0
      · obtain rfl := List.eq_nil_of_length_eq_zero h0
        clear h0
        go_wp2_with fail
        with_reducible refine (alive_any _).mono ?_
        rintro e w5 ⟨rfl, b5⟩
        go_wp2
        go_ret
        exact ⟨rfl, B4.trans (b5.mono B4.size)⟩
      · have hRl : R = l := by
          rcases Chg_false HC.out with e | e
          · rw [e] at h0; exact absurd rfl h0
          · exact e
        subst hRl
        have q0 : ((R.length : Int) == 0) = false := by rw [beq_eq_false_iff_ne]; omega
        clear h0 HC
        go_wp2_with fail
        with_reducible refine (sameFlags_same A2 A R.length c2 c _ _ R w4 X4 L4 (Nat.le_refl _) (Nat.le_refl _) (by omega)).mono ?_
        rintro e w5 ⟨rfl, b5⟩
        have B5 := B4.trans (b5.mono B4.size)
        clear b5 B4
        go_wp2_with fail
        with_reducible refine (alive_any _).mono ?_
        rintro e w6 ⟨rfl, b6⟩
        go_wp2
        go_ret
        exact ⟨rfl, B5.trans (b6.mono B5.size)⟩
    · obtain ⟨S, M, rfl, rfl, hn, hm1, hm2, hs, ha, hR⟩ := Chg_true HC.out
      have hRl : R.length = l.length := by rw [hR, setB_len hs]
      have ha2 : AllAt R S M true := by rw [hR]; exact setB_all hs
      have c1 : Chg R R.length S M false l true := by
        have := Chg_yes (l := R) (n := R.length) (S := S) (M := M) (u := false) (by omega) hm1 (by omega) ha2
        have e : setB R S M false = l := by rw [hR]; exact setB_back hs ha
        rwa [e] at this
      have c2' := Chg_nay (l := R) (n := R.length) (S := S) (M := M) (u := true) (by omega) hm1 (by omega) (AllAt_flip hm1 ha2)
      have C1 := Lib.hid c1
      have C2 := Lib.hid c2'
      have q9 : ((R.length : Int) == (l.length : Int)) = true := by rw [hRl]; simp
      have hR64 : R.length ≤ 1125899906842624 := by omega
      clear HC c1 c2' ha hR ha2 hRl
      go_wp2_with fail
      with_reducible refine (iGiveB_any A2 R.length c2 R S M l true w4 X4 hR64 C1.out).mono ?_
      rintro e w5 ⟨A5, c5, rfl, o5, b5⟩
      have L5 := lst_up L4 b5
      have X5 := lst_up X4 b5
      have Z5 := own_lstn o5
      have B5 := B4.trans (b5.mono B4.size)
      clear L4 X4 B4 b5 o5
      go_wp2_with fail
      with_reducible refine (iTakeB_any A2 R.length c2 R S M R false w5 X5 hR64 C2.out).mono ?_
      rintro e w6 ⟨A6, c6, rfl, o6, b6⟩
      have L6 := lst_up L5 b6
      have Z6 := lst_up Z5 b6
      have B6 := B5.trans (b6.mono B5.size)
      clear L5 X5 Z5 B5 b6 o6
      go_wp2_with fail
      with_reducible refine (sameFlags_same A5 A l.length c5 c _ _ l w6 Z6 L6 (Nat.le_refl _) (Nat.le_refl _) (by omega)).mono ?_
      rintro e w7 ⟨rfl, b7⟩
      have B7 := B6.trans (b7.mono B6.size)
      clear B6 b7
      go_wp2
      go_ret
      exact ⟨rfl, B7⟩
  · go_enter Try.func7, Try.ntmps7
    go_wp2
    go_ret
    exact ⟨rfl, Below.refl _ _⟩

set_option maxHeartbeats 4000000 in
theorem FnBitsGive_walk {a : Option Addr} {len cap : Nat} {z : List Int} {w : World} (h : IsRow .u8 w a len cap z) : Calls Try.prog 8 #[.slice a len cap] w fun e w' => e = .returned (.bool true) ∧ Below w.heap.size w w' := by
  have hm := row_len h
  have HD := Lib.hid (dDrawBitsGive h)
  clear h
  by_cases hl : len ≤ 1048576
  · go_enter Try.func8, Try.ntmps8
    go_wp2_with fail
    refine HD.out.mono ?_
    rintro e w1 ⟨A, n, c, l, s, m, rfl, o1, n1, s1, s2, b1⟩
    obtain rfl : n = l.length := (own_form o1).1
    have L1 := own_lstn o1
    obtain ⟨R, b, hc, hR⟩ := Chg_ex l s m false
    have HC := Lib.hid hc
    have RR : R.length ≤ 65 := by omega
    clear HD o1 hR hc
    go_wp2_with fail
    with_reducible refine (iGiveB_any A l.length c l s m R b w1 L1 (by omega) HC.out).mono ?_
    rintro e w2 ⟨A2, c2, rfl, o2, b2⟩
    have L2 := lst_up L1 b2
    have B2 := b1.trans (b2.mono b1.size)
    have X2 := own_lstn o2
    clear L1 b1 b2 o2
    go_wp2_with fail
    with_reducible refine (sGiveB_any A l.length c l s m R b w2 L2 HC.out).mono ?_
    rintro e w3 ⟨A3, c3, rfl, o3, b3⟩
    have L3 := lst_up L2 b3
    have X3 := lst_up X2 b3
    have Y3 := own_lstn o3
    have B3 := B2.trans (b3.mono B2.size)
    clear L2 X2 B2 b3 o3
    go_wp2_with fail
    with_reducible refine (sameFlags_same A2 A3 R.length c2 c3 _ _ R w3 X3 Y3 (Nat.le_refl _) (Nat.le_refl _) (by omega)).mono ?_
    rintro e w4 ⟨rfl, b4⟩
    have L4 := lst_up L3 b4
    have X4 := lst_up X3 b4
    have B4 := B3.trans (b4.mono B3.size)
    clear L3 X3 Y3 B3 b4
    cases b
    · by_cases h0 : R.length = 0
      · obtain rfl := List.eq_nil_of_length_eq_zero h0
        clear h0
        go_wp2_with fail
        with_reducible refine (alive_any _).mono ?_
        rintro e w5 ⟨rfl, b5⟩
        go_wp2
        go_ret
        exact ⟨rfl, B4.trans (b5.mono B4.size)⟩
      · have hRl : R = l := by
          rcases Chg_false HC.out with e | e
          · rw [e] at h0; exact absurd rfl h0
          · exact e
        subst hRl
        have q0 : ((R.length : Int) == 0) = false := by rw [beq_eq_false_iff_ne]; omega
        clear h0 HC
        go_wp2_with fail
        with_reducible refine (sameFlags_same A2 A R.length c2 c _ _ R w4 X4 L4 (Nat.le_refl _) (Nat.le_refl _) (by omega)).mono ?_
        rintro e w5 ⟨rfl, b5⟩
        have B5 := B4.trans (b5.mono B4.size)
        clear b5 B4
        go_wp2_with fail
        with_reducible refine (alive_any _).mono ?_
        rintro e w6 ⟨rfl, b6⟩
        go_wp2
        go_ret
        exact ⟨rfl, B5.trans (b6.mono B5.size)⟩
    · obtain ⟨S, M, rfl, rfl, hn, hm1, hm2, hs, ha, hR⟩ := Chg_true HC.out
      have hRl : R.length = l.length := by rw [hR, setB_len hs]
      have ha2 : AllAt R S M false := by rw [hR]; exact setB_all hs
      have c1 : Chg R R.length S M true l true := by
        have := Chg_yes (l := R) (n := R.length) (S := S) (M := M) (u := true) (by omega) hm1 (by omega) ha2
        have e : setB R S M true = l := by rw [hR]; exact setB_back hs ha
        rwa [e] at this
      have c2' := Chg_nay (l := R) (n := R.length) (S := S) (M := M) (u := false) (by omega) hm1 (by omega) (AllAt_flip hm1 ha2)
      have C1 := Lib.hid c1
      have C2 := Lib.hid c2'
      have q9 : ((R.length : Int) == (l.length : Int)) = true := by rw [hRl]; simp
      have hR64 : R.length ≤ 1125899906842624 := by omega
      clear HC c1 c2' ha hR ha2 hRl
      go_wp2_with fail
      with_reducible refine (iTakeB_any A2 R.length c2 R S M l true w4 X4 hR64 C1.out).mono ?_
      rintro e w5 ⟨A5, c5, rfl, o5, b5⟩
      have L5 := lst_up L4 b5
      have X5 := lst_up X4 b5
      have Z5 := own_lstn o5
      have B5 := B4.trans (b5.mono B4.size)
      clear L4 X4 B4 b5 o5
      go_wp2_with fail
      with_reducible refine (iGiveB_any A2 R.length c2 R S M R false w5 X5 hR64 C2.out).mono ?_
      rintro e w6 ⟨A6, c6, rfl, o6, b6⟩
      have L6 := lst_up L5 b6
      have Z6 := lst_up Z5 b6
      have B6 := B5.trans (b6.mono B5.size)
      clear L5 X5 Z5 B5 b6 o6
      go_wp2_with fail
      with_reducible refine (sameFlags_same A5 A l.length c5 c _ _ l w6 Z6 L6 (Nat.le_refl _) (Nat.le_refl _) (by omega)).mono ?_
      rintro e w7 ⟨rfl, b7⟩
      have B7 := B6.trans (b7.mono B6.size)
      clear B6 b7
      go_wp2
      go_ret
      exact ⟨rfl, B7⟩
  · go_enter Try.func8, Try.ntmps8
    go_wp2
    go_ret
    exact ⟨rfl, Below.refl _ _⟩

set_option maxHeartbeats 4000000 in
theorem FnBitsHalves_walk {a : Option Addr} {len cap : Nat} {z : List Int} {w : World} (h : IsRow .u8 w a len cap z) : Calls Try.prog 6 #[.slice a len cap] w fun e w' => e = .returned (.bool true) ∧ Below w.heap.size w w' := by
  have hm := row_len h
  have HD := Lib.hid (dDrawBitsTake h)
  clear h
  by_cases hl : len ≤ 1048576
  · go_enter Try.func6, Try.ntmps6
    go_wp2_with fail
    refine HD.out.mono ?_
    rintro e w1 ⟨A, n, c, l, s, m, rfl, o1, n1, s1, s2, b1⟩
    obtain rfl : n = l.length := (own_form o1).1
    have L1 := own_lstn o1
    obtain ⟨R, b, hc, hR⟩ := Chg_ex l s m true
    have HC := Lib.hid hc
    have RR : R.length ≤ 65 := by omega
    clear HD o1 hR hc
    go_wp2_with fail
    with_reducible refine (iTakeB_any A l.length c l s m R b w1 L1 (by omega) HC.out).mono ?_
    rintro e w2 ⟨A2, c2, rfl, o2, b2⟩
    have L2 := lst_up L1 b2
    have B2 := b1.trans (b2.mono b1.size)
    have X2 := own_lstn o2
    clear L1 b1 b2 o2
    go_wp2_with fail
    with_reducible refine (sTakeB_any A l.length c l s m R b w2 L2 HC.out).mono ?_
    rintro e w3 ⟨A3, c3, rfl, o3, b3⟩
    have L3 := lst_up L2 b3
    have X3 := lst_up X2 b3
    have Y3 := own_lstn o3
    have B3 := B2.trans (b3.mono B2.size)
    clear L2 X2 B2 b3 o3
    go_wp2_with fail
    with_reducible refine (sameFlags_same A2 A3 R.length c2 c3 _ _ R w3 X3 Y3 (Nat.le_refl _) (Nat.le_refl _) (by omega)).mono ?_
    rintro e w4 ⟨rfl, b4⟩
    have L4 := lst_up L3 b4
    have X4 := lst_up X3 b4
    have B4 := B3.trans (b4.mono B3.size)
    clear L3 X3 Y3 B3 b4
    cases b
    · clear HC
      go_wp2_with fail
      with_reducible refine (alive_any _).mono ?_
      rintro e w5 ⟨rfl, b5⟩
      go_wp2
      go_ret
      exact ⟨rfl, B4.trans (b5.mono B4.size)⟩
    · obtain ⟨S, M, rfl, rfl, hn, hm1, hm2, hs, ha, hR⟩ := Chg_true HC.out
      by_cases h2 : M < 2
      · have h3 : (M : Int) < 2 := by omega
        clear HC ha hR
        go_wp2_with fail
        with_reducible refine (alive_any _).mono ?_
        rintro e w5 ⟨rfl, b5⟩
        go_wp2
        go_ret
        exact ⟨rfl, B4.trans (b5.mono B4.size)⟩
      · have h3 : ¬ (M : Int) < 2 := by omega
        obtain ⟨h, hh⟩ : ∃ h : Nat, h = M / 2 := ⟨_, rfl⟩
        obtain ⟨k, hk⟩ : ∃ k : Nat, M = h + k := ⟨M - h, by omega⟩
        have hh1 : 1 ≤ h := by omega
        have hk1 : 1 ≤ k := by omega
        have q1 : (M : Int) / 2 = (h : Int) := by omega
        have q2 : Int.tdiv (M : Int) 2 = (h : Int) := by rw [Int.tdiv_eq_ediv_of_nonneg (by omega)]; exact q1
        have q3 : (M : Int) - (h : Int) = (k : Int) := by omega
        have hhM : h ≤ M := by omega
        clear hh
        have c1 : Chg l l.length S h true (setB l S h true) true := Chg_yes hn hh1 (by omega) (AllAt_part1 (k := k) (by rw [← hk]; exact ha))
        have hlen : (setB l S h true).length = l.length := setB_len (by omega)
        have hRp : setB (setB l S h true) (S + h) k true = R := by rw [hR, hk]; exact setB_part (by omega)
        have c2' : Chg (setB l S h true) (setB l S h true).length ((S + h : Nat) : Int) k true R true := by
          have := Chg_yes (l := setB l S h true) (n := (setB l S h true).length) (S := S + h) (M := k) (u := true) (by omega) hk1 (by omega) (AllAt_part2 (u := true) (by omega) (by rw [← hk]; exact ha))
          rwa [hRp] at this
        have C1 := Lib.hid c1
        have C2 := Lib.hid c2'
        have q4 : ((S + h : Nat) : Int) = (S : Int) + (h : Int) := by omega
        rw [q4] at C2
        have HK := Lib.hid hk
        clear HC c1 c2' ha hR hRp hk q4
        have hQ64 : (setB l S h true).length ≤ 1125899906842624 := by omega
        clear hlen
        generalize setB l S h true = Q at C1 C2 hQ64
        go_wp2_with fail
        with_reducible refine (iTakeB_any A l.length c l S h Q true w4 L4 (by omega) C1.out).mono ?_
        rintro e w5 ⟨A5, c5, rfl, o5, b5⟩
        have X5 := lst_up X4 b5
        have Z5 := own_lstn o5
        have B5 := B4.trans (b5.mono B4.size)
        clear L4 X4 B4 b5 o5
        go_wp2_with fail
        with_reducible refine (iTakeB_any A5 Q.length c5 Q _ _ R true w5 Z5 hQ64 C2.out).mono ?_
        rintro e w6 ⟨A6, c6, rfl, o6, b6⟩
        have X6 := lst_up X5 b6
        have Z6 := own_lstn o6
        have B6 := B5.trans (b6.mono B5.size)
        clear X5 Z5 B5 b6 o6
        go_wp2_with fail
        with_reducible refine (sameFlags_same A6 A2 R.length c6 c2 _ _ R w6 Z6 X6 (Nat.le_refl _) (Nat.le_refl _) (by omega)).mono ?_
        rintro e w7 ⟨rfl, b7⟩
        have B7 := B6.trans (b7.mono B6.size)
        clear B6 b7
        go_wp2
        go_ret
        exact ⟨rfl, B7⟩
  · go_enter Try.func6, Try.ntmps6
    go_wp2
    go_ret
    exact ⟨rfl, Below.refl _ _⟩

end Go.Proofs.Ytkgaajploobjdaa.Wb
