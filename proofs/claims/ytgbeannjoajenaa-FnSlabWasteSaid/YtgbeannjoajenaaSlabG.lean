/- Slabs: the laws ClassSize, ClassFor, SlabWaste: their walks. Conditions: none. -/
import Derived.Test.YtgbeannjoajenaaSlabD
import Derived.Test.YtgbeannjoajenaaOpen
import Derived.Test.YtgbeannjoajenaaBfi
namespace Go.Proofs.Ytgbeannjoajenaa.Wk
open Go.RowKit

theorem dDrawClassSize {a : Option Addr} {len cap : Nat} {z : List Int} {w : World} (h : IsRow .u8 w a len cap z) : Calls Try.prog 26 #[.slice a len cap] w fun e w' =>
    ∃ x : Int, e = .returned (.int .i64 x) ∧ -1 ≤ x ∧ x ≤ 8 ∧ Below w.heap.size w w' := by
  have HO := Lib.hid (open_any h)
  clear h
  go_enter Try.func26, Try.ntmps26
  go_wp2_with fail
  refine HO.out.mono ?_
  rintro e w1 ⟨A, n, c, z', rfl, hr, hb, hs⟩
  go_wp2_with fail
  refine (pick_any _ _ _ _ _ _ _ _ hr (by omega)).mono ?_
  rintro e w2 ⟨x, rfl, hx0, hx1, hr2, ho⟩
  have hx2 : x < 10 := by omega
  have hbb := only_below hb ho (by omega) (Nat.le_refl _)
  go_wp2
  go_ret
  exact ⟨x - 1, rfl, by omega, by omega, hbb⟩

theorem dDrawClassFor {a : Option Addr} {len cap : Nat} {z : List Int} {w : World} (h : IsRow .u8 w a len cap z) : Calls Try.prog 29 #[.slice a len cap] w fun e w' =>
    ∃ x : Int, e = .returned (.int .i64 x) ∧ -1 ≤ x ∧ x ≤ 18 ∧ Below w.heap.size w w' := by
  have HO := Lib.hid (open_any h)
  clear h
  go_enter Try.func29, Try.ntmps29
  go_wp2_with fail
  refine HO.out.mono ?_
  rintro e w1 ⟨A, n, c, z', rfl, hr, hb, hs⟩
  go_wp2_with fail
  refine (pick_any _ _ _ _ _ _ _ _ hr (by omega)).mono ?_
  rintro e w2 ⟨x, rfl, hx0, hx1, hr2, ho⟩
  have hx2 : x < 20 := by omega
  have hbb := only_below hb ho (by omega) (Nat.le_refl _)
  go_wp2
  go_ret
  exact ⟨x - 1, rfl, by omega, by omega, hbb⟩

theorem dDrawSlabWaste {a : Option Addr} {len cap : Nat} {z : List Int} {w : World} (h : IsRow .u8 w a len cap z) : Calls Try.prog 31 #[.slice a len cap] w fun e w' =>
    ∃ x : Int, e = .returned (.int .i64 x) ∧ -1 ≤ x ∧ x ≤ 18 ∧ Below w.heap.size w w' := by
  have HO := Lib.hid (open_any h)
  clear h
  go_enter Try.func31, Try.ntmps31
  go_wp2_with fail
  refine HO.out.mono ?_
  rintro e w1 ⟨A, n, c, z', rfl, hr, hb, hs⟩
  go_wp2_with fail
  refine (pick_any _ _ _ _ _ _ _ _ hr (by omega)).mono ?_
  rintro e w2 ⟨x, rfl, hx0, hx1, hr2, ho⟩
  have hx2 : x < 20 := by omega
  have hbb := only_below hb ho (by omega) (Nat.le_refl _)
  go_wp2
  go_ret
  exact ⟨x - 1, rfl, by omega, by omega, hbb⟩

theorem row_len {w : World} {a : Option Addr} {len cap : Nat} {z : List Int} (h : IsRow .u8 w a len cap z) : len ≤ 9223372036854775807 := by
  rcases h with ⟨_, rfl, rfl, _⟩ | ⟨x, _, hl, hm, _⟩
  · omega
  · unfold maxLen at hm; omega

set_option maxHeartbeats 1000000 in
theorem FnClassSize_walk {a : Option Addr} {len cap : Nat} {z : List Int} {w : World} (h : IsRow .u8 w a len cap z) : Calls Try.prog 9 #[.slice a len cap] w fun e w' => e = .returned (.bool true) ∧ Below w.heap.size w w' := by
  have hm := row_len h
  have HD := Lib.hid (dDrawClassSize h)
  clear h
  by_cases hl : len ≤ 1048576
  · go_enter Try.func9, Try.ntmps9
    go_wp2_with fail
    refine HD.out.mono ?_
    rintro e w1 ⟨c, rfl, hc0, hc1, b1⟩
    by_cases hc : c < 0 ∨ 7 < c
    · have e1 := csz_out hc
      have CI := Lib.hid (fun w => iClassSize c w)
      have CS := Lib.hid (fun w => sClassSize c w)
      rw [e1] at CI CS
      clear e1 hc
      go_wp2_with fail
      refine (CI.out _).mono ?_
      rintro e w' ⟨rfl, rfl⟩
      go_wp2_with fail
      refine (CS.out _).mono ?_
      rintro e w2 ⟨rfl, b2⟩
      have B2 := b1.trans (b2.mono b1.size)
      go_wp2_with fail
      refine (alive_any _).mono ?_
      rintro e w3 ⟨rfl, b3⟩
      go_wp2
      go_ret
      exact ⟨rfl, B2.trans (b3.mono B2.size)⟩
    · have hs : 1 ≤ csz c ∧ (c = 7 ∨ csz c < csz (c + 1)) ∧ csz c ≤ 16 := by
        have hcc : c = 0 ∨ c = 1 ∨ c = 2 ∨ c = 3 ∨ c = 4 ∨ c = 5 ∨ c = 6 ∨ c = 7 := by omega
        rcases hcc with rfl | rfl | rfl | rfl | rfl | rfl | rfl | rfl <;> decide
      obtain ⟨hs1, hs2, hs3⟩ := hs
      have hn : ¬ csz c < 0 := by omega
      go_wp2_with fail
      refine (iClassSize c _).mono ?_
      rintro e w' ⟨rfl, rfl⟩
      go_wp2_with fail
      refine (sClassSize c _).mono ?_
      rintro e w2 ⟨rfl, b2⟩
      have B2 := b1.trans (b2.mono b1.size)
      by_cases h7 : c = 7
      · have h7' : (c == 7) = true := by rw [beq_iff_eq]; exact h7
        clear hs2 hc
        have hh := Lib.hid h7
        clear h7
        go_wp2
        go_ret
        exact ⟨rfl, B2⟩
      · have h7' : (c == 7) = false := by rw [beq_eq_false_iff_ne]; exact h7
        have hs4 : csz c < csz (c + 1) := hs2.resolve_left h7
        clear hs2 hc
        go_wp2_with fail
        refine (iClassSize (c + 1) _).mono ?_
        rintro e w' ⟨rfl, rfl⟩
        go_wp2
        go_ret
        exact ⟨by simp, B2⟩
  · go_enter Try.func9, Try.ntmps9
    go_wp2
    go_ret
    exact ⟨rfl, Below.refl _ _⟩

set_option maxHeartbeats 1000000 in
theorem FnClassFor_walk {a : Option Addr} {len cap : Nat} {z : List Int} {w : World} (h : IsRow .u8 w a len cap z) : Calls Try.prog 11 #[.slice a len cap] w fun e w' => e = .returned (.bool true) ∧ Below w.heap.size w w' := by
  have hm := row_len h
  have HD := Lib.hid (dDrawClassFor h)
  clear h
  by_cases hl : len ≤ 1048576
  · go_enter Try.func11, Try.ntmps11
    go_wp2_with fail
    refine HD.out.mono ?_
    rintro e w1 ⟨s, rfl, hc0, hc1, b1⟩
    have C7 := Lib.hid (fun w => iClassSize 7 w)
    have v7 : csz 7 = 16 := rfl
    rw [v7] at C7
    clear v7
    rcases cfor_bd s with ⟨e1, h2⟩ | ⟨h0, h1, h2, h3, h4, h5, h6, h7, h8, h9⟩
    · have CI := Lib.hid (fun w => iClassFor s w)
      have CS := Lib.hid (fun w => sClassFor s w)
      rw [e1] at CI CS
      clear e1
      go_wp2_with fail
      refine (CI.out _).mono ?_
      rintro e w2 ⟨rfl, b2⟩
      have B2 := b1.trans (b2.mono b1.size)
      go_wp2_with fail
      refine (CS.out _).mono ?_
      rintro e w3 ⟨rfl, b3⟩
      have B3 := B2.trans (b3.mono B2.size)
      rcases h2 with h2 | h2
      · go_wp2_with fail
        refine (alive_any _).mono ?_
        rintro e w4 ⟨rfl, b4⟩
        go_wp2
        go_ret
        exact ⟨rfl, B3.trans (b4.mono B3.size)⟩
      · have h2' : ¬ s < 1 := by omega
        go_wp2_with fail
        refine (C7.out _).mono ?_
        rintro e w' ⟨rfl, rfl⟩
        go_wp2_with fail
        refine (alive_any _).mono ?_
        rintro e w4 ⟨rfl, b4⟩
        go_wp2
        go_ret
        exact ⟨rfl, B3.trans (b4.mono B3.size)⟩
    · clear h9 h7 h6
      have CI := Lib.hid (fun w => iClassFor s w)
      have CS := Lib.hid (fun w => sClassFor s w)
      have H8 := Lib.hid h8
      clear h8
      generalize cfor s = f at CI CS h0 h1 h4 h5 H8
      have hn : ¬ f < 0 := by omega
      go_wp2_with fail
      refine (CI.out _).mono ?_
      rintro e w2 ⟨rfl, b2⟩
      have B2 := b1.trans (b2.mono b1.size)
      go_wp2_with fail
      refine (CS.out _).mono ?_
      rintro e w3 ⟨rfl, b3⟩
      have B3 := B2.trans (b3.mono B2.size)
      go_wp2_with fail
      refine (iClassSize f _).mono ?_
      rintro e w' ⟨rfl, rfl⟩
      by_cases hf : f = 0
      · have hf' : (f == 0) = true := by rw [beq_iff_eq]; exact hf
        have hh := Lib.hid hf
        clear hf
        go_wp2
        go_ret
        exact ⟨rfl, B3⟩
      · have hf' : (f == 0) = false := by rw [beq_eq_false_iff_ne]; exact hf
        have h8 : csz (f - 1) < s := H8.out.resolve_left hf
        clear hf
        go_wp2_with fail
        refine (iClassSize (f - 1) _).mono ?_
        rintro e w' ⟨rfl, rfl⟩
        go_wp2
        go_ret
        exact ⟨by simp, B3⟩
  · go_enter Try.func11, Try.ntmps11
    go_wp2
    go_ret
    exact ⟨rfl, Below.refl _ _⟩

set_option maxHeartbeats 1000000 in
theorem FnSlabWaste_walk {a : Option Addr} {len cap : Nat} {z : List Int} {w : World} (h : IsRow .u8 w a len cap z) : Calls Try.prog 13 #[.slice a len cap] w fun e w' => e = .returned (.bool true) ∧ Below w.heap.size w w' := by
  have hm := row_len h
  have HD := Lib.hid (dDrawSlabWaste h)
  clear h
  by_cases hl : len ≤ 1048576
  · go_enter Try.func13, Try.ntmps13
    go_wp2_with fail
    refine HD.out.mono ?_
    rintro e w1 ⟨s, rfl, hc0, hc1, b1⟩
    have WI := Lib.hid (fun w => iSlabWaste s w)
    have WS := Lib.hid (fun w => sSlabWaste s w)
    have CI := Lib.hid (fun w => iClassFor s w)
    rcases cfor_bd s with ⟨e1, h2⟩ | ⟨h0, h1, h2, h3, h4, h5, h6, h7, h8, h9⟩
    · have e2 : waste s = -1 := by unfold waste; rw [e1]; rfl
      rw [e2] at WI WS
      rw [e1] at CI
      clear e1 e2
      go_wp2_with fail
      refine (WI.out _).mono ?_
      rintro e w2 ⟨rfl, b2⟩
      have B2 := b1.trans (b2.mono b1.size)
      go_wp2_with fail
      refine (WS.out _).mono ?_
      rintro e w3 ⟨rfl, b3⟩
      have B3 := B2.trans (b3.mono B2.size)
      go_wp2_with fail
      refine (CI.out _).mono ?_
      rintro e w4 ⟨rfl, b4⟩
      have B4 := B3.trans (b4.mono B3.size)
      go_wp2_with fail
      refine (alive_any _).mono ?_
      rintro e w5 ⟨rfl, b5⟩
      go_wp2
      go_ret
      exact ⟨rfl, B4.trans (b5.mono B4.size)⟩
    · have e2 : waste s = csz (cfor s) - s := by unfold waste; rw [if_neg (by omega)]
      have e3 : waste (csz (cfor s)) = 0 := by unfold waste; rw [h9, if_neg (by omega)]; omega
      have WZ := Lib.hid (fun w => iSlabWaste (csz (cfor s)) w)
      rw [e2] at WI WS
      rw [e3] at WZ
      clear e2 e3 h9 h8 h6
      have CZ := Lib.hid (fun w => iClassSize (cfor s) w)
      generalize csz (cfor s) = q at WI WS WZ CZ h4 h5 h7
      generalize cfor s = f at CI CZ h0 h1
      have hn : ¬ f < 0 := by omega
      go_wp2_with fail
      refine (WI.out _).mono ?_
      rintro e w2 ⟨rfl, b2⟩
      have B2 := b1.trans (b2.mono b1.size)
      go_wp2_with fail
      refine (WS.out _).mono ?_
      rintro e w3 ⟨rfl, b3⟩
      have B3 := B2.trans (b3.mono B2.size)
      go_wp2_with fail
      refine (CI.out _).mono ?_
      rintro e w4 ⟨rfl, b4⟩
      have B4 := B3.trans (b4.mono B3.size)
      go_wp2_with fail
      refine (CZ.out _).mono ?_
      rintro e w' ⟨rfl, rfl⟩
      go_wp2_with fail
      refine (CZ.out _).mono ?_
      rintro e w' ⟨rfl, rfl⟩
      go_wp2_with fail
      refine (CZ.out _).mono ?_
      rintro e w' ⟨rfl, rfl⟩
      go_wp2_with fail
      refine (WZ.out _).mono ?_
      rintro e w5 ⟨rfl, b5⟩
      go_wp2
      go_ret
      exact ⟨by simp, B4.trans (b5.mono B4.size)⟩
  · go_enter Try.func13, Try.ntmps13
    go_wp2
    go_ret
    exact ⟨rfl, Below.refl _ _⟩

end Go.Proofs.Ytgbeannjoajenaa.Wk
