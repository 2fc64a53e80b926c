/- The laws BestFit, FitsBoth: their walks. Conditions: none. -/
import Derived.Test.YtidkejmphhpjlaaBti
import Derived.Test.YtidkejmphhpjlaaBts
import Derived.Test.YtidkejmphhpjlaaDrkf
import Derived.Test.YtidkejmphhpjlaaBlf
import Derived.Test.YtidkejmphhpjlaaTkb
namespace Go.Proofs.Ytidkejmphhpjlaa.Pl

theorem take_free {l : List Blk} {i : Nat} {sz : Int} (hi : i < l.length) {b : Blk} (hb : b ∈ take l i sz) (hu : b.u = false) : (∃ k, k < l.length ∧ k ≠ i ∧ b = bk l k) ∨ b.z = (bk l i).z - sz := by
  unfold take at hb
  rcases List.mem_append.1 hb with h | h
  · obtain ⟨k, hk, e⟩ := List.getElem_of_mem h
    have hk' : k < i := by simp at hk; omega
    refine .inl ⟨k, by omega, by omega, ?_⟩
    rw [← e, bk_eq (by omega)]
    simp
  · rcases List.mem_cons.1 h with rfl | h
    · simp at hu
    · rcases List.mem_append.1 h with h | h
      · split at h
        · simp at h; subst h; exact .inr rfl
        · simp at h
      · obtain ⟨k, hk, e⟩ := List.getElem_of_mem h
        refine .inl ⟨i + 1 + k, by simp at hk; omega, by omega, ?_⟩
        rw [← e, bk_eq (by simp at hk; omega)]
        simp
theorem take_has {l : List Blk} {i k : Nat} {sz : Int} (hk : k < l.length) (hne : k ≠ i) : bk l k ∈ take l i sz := by
  unfold take
  rcases Nat.lt_or_ge k i with h | h
  · refine List.mem_append_left _ ?_
    rw [bk_eq hk]
    exact List.mem_iff_getElem.2 ⟨k, by simp; omega, by simp⟩
  · refine List.mem_append_right _ (List.mem_cons_of_mem _ (List.mem_append_right _ ?_))
    rw [bk_eq hk]
    exact List.mem_iff_getElem.2 ⟨k - (i + 1), by simp; omega, by simp; congr 1; omega⟩
/-- The best fit leaves the largest free block at least as large as another fit does. -/
theorem lf_best {l : List Blk} {sz : Int} {i j : Nat} (h1 : 1 ≤ sz) (hi : Pick l sz i) (hj : j < l.length) (hu : (bk l j).u = false) (hz : sz ≤ (bk l j).z) : lf (take l j sz) ≤ lf (take l i sz) := by
  have hX := (lf_le_iff (take l i sz) _ (lf_nonneg _)).1 (Int.le_refl _)
  rw [lf_le_iff _ _ (lf_nonneg _)]
  intro b hb hbu
  have hle := hi.least j hj hu hz
  by_cases e : j = i
  · subst e; exact hX b hb hbu
  · have hjm := hX (bk l j) (take_has hj e) hu
    rcases take_free hj hb hbu with ⟨k, hk, hkj, rfl⟩ | hz2
    · by_cases ek : k = i
      · subst ek; omega
      · exact hX _ (take_has hk ek) hbu
    · omega

end Go.Proofs.Ytidkejmphhpjlaa.Pl
namespace Go.Proofs.Ytidkejmphhpjlaa.Wk
open Go.RowKit Go.Proofs.Ytidkejmphhpjlaa.Pl

theorem row_len9 {w : World} {a : Option Addr} {len cap : Nat} {z : List Int} (h : IsRow .u8 w a len cap z) : len ≤ 9223372036854775807 := by
  rcases h with ⟨_, rfl, rfl, _⟩ | ⟨x, _, hl, hm, _⟩
  · omega
  · unfold maxLen at hm; omega
theorem lst_up9 {w w' : World} {A : Option Addr} {n : Nat} {l : List Blk} (h : Lst w w.heap.size A n l) (hb : Below w.heap.size w w') : Lst w' w'.heap.size A n l := h.up hb (Nat.le_refl _) hb.size
theorem own_lst9 {w : World} {B : Nat} {A : Option Addr} {n c : Nat} {l : List Blk} (h : Own w B (.slice A n c) l) : Lst w w.heap.size A n l := by
  have e := (own_form h).1
  have := own_lst h
  rw [← e] at this; exact this

/-- What the three searches answer on a list. -/
def Three (l : List Blk) (t sz r f : Int) : Prop := ∀ (A : Option Addr) (c : Nat) (w : World), Lst w w.heap.size A l.length l →
  (Calls Try.prog 18 #[.slice A l.length c, .int .i64 t, .int .i64 sz] w fun e w' => e = .returned (.int .i64 r) ∧ Below w.heap.size w w') ∧
  (Calls Try.prog 16 #[.slice A l.length c, .int .i64 t, .int .i64 sz] w fun e w' => e = .returned (.int .i64 r) ∧ Below w.heap.size w w') ∧
  (Calls Try.prog 27 #[.slice A l.length c, .int .i64 t, .int .i64 sz] w fun e w' => e = .returned (.int .i64 f) ∧ Below w.heap.size w w')
theorem three_any (l : List Blk) (t sz : Int) (h1 : 1 ≤ l.length) (h2 : l.length ≤ 20) : Three l t sz (-1) (-1) ∨ ∃ i j : Nat, V l t ∧ 1 ≤ sz ∧ Pick l sz i ∧ j < l.length ∧ (bk l j).u = false ∧ sz ≤ (bk l j).z ∧ Three l t sz i j := by
  by_cases hv : V l t
  · by_cases hs : 1 ≤ sz ∧ sz ≤ 256
    · obtain ⟨r, hr⟩ := BestR_ex l sz
      have hf : ffS l sz = ff l sz := by unfold ffS; rw [if_pos hs]
      have mk : Three l t sz r (ff l sz) := fun A c w h => by
        obtain ⟨K, hK⟩ : ∃ K, l.length = K + 1 := ⟨l.length - 1, by omega⟩
        obtain ⟨b, off, rfl, _⟩ := h.cells 0 (by omega)
        refine ⟨?_, sBest_in b off l.length c l t sz r w h hv hs hr, ?_⟩
        · rw [hK] at h ⊢
          exact iBest_in b off c K l t sz r w h (by omega) hv hs hr
        · have := iFirst_yes (some ⟨b, off, none⟩) l.length c l t sz w h hv
          rw [hf] at this; exact this
      rcases hr with ⟨rfl, hn⟩ | ⟨i, rfl, hp⟩
      · left
        rw [ff_none (fun j hj hff => by have := hn j hj hff.1; have := hff.2; omega)] at mk
        exact mk
      · right
        rcases ff_spec l sz with ⟨_, hno⟩ | ⟨j, hj, e, hfj, _⟩
        · have := hno _ (bk_mem hp.lt) hp.free; have := hp.big; omega
        · rw [e] at mk
          exact ⟨i, j, hv, hs.1, hp, hj, hfj.1, hfj.2, mk⟩
    · left
      exact fun A c w h => ⟨iBest_out A _ c l t sz w h hv hs, sBest_out A _ c l t sz w h hv hs, by
        have := iFirst_yes A l.length c l t sz w h hv
        rw [show ffS l sz = -1 by unfold ffS; rw [if_neg hs]] at this
        exact this⟩
  · left
    exact fun A c w h => ⟨iBest_inv A _ c l t sz w h hv (by omega), sBest_inv A _ c l t sz w h hv (by omega), iFirst_no A _ c l t sz w h hv (by omega)⟩

set_option maxRecDepth 100000 in
set_option maxHeartbeats 4000000 in
theorem FnBestFit_walk {a : Option Addr} {len cap : Nat} {z : List Int} {w : World} (h : IsRow .u8 w a len cap z) : Calls Try.prog 6 #[.slice a len cap] w fun e w' => e = .returned (.bool true) ∧ Below w.heap.size w w' := by
  have hm := row_len9 h
  have HD := Lib.hid (dDrawBestFit h)
  clear h
  by_cases hl : len ≤ 1048576
  · go_enter Try.func6, Try.ntmps6
    go_wp2_with fail
    refine HD.out.mono ?_
    rintro e w1 ⟨A, n, c, l, t, sz, rfl, o1, n1, n2, t1, t2, b1⟩
    have L1 := own_lst9 o1
    obtain rfl : n = l.length := (own_form o1).1
    clear HD o1
    rcases three_any l t sz n1 (by omega) with h3 | ⟨i, j, hv, hs1, hp, hj, hu, hz, h3⟩
    · go_wp2_with fail
      refine (h3 A c w1 L1).1.mono ?_
      rintro e w2 ⟨rfl, b2⟩
      have L2 := lst_up9 L1 b2
      have B2 := b1.trans (b2.mono b1.size)
      clear L1 b2 b1
      go_wp2_with fail
      refine (h3 A c w2 L2).2.1.mono ?_
      rintro e w3 ⟨rfl, b3⟩
      have L3 := lst_up9 L2 b3
      have B3 := B2.trans (b3.mono B2.size)
      clear L2 b3 B2
      go_wp2_with fail
      refine (h3 A c w3 L3).2.2.mono ?_
      rintro e w4 ⟨rfl, b4⟩
      have B4 := B3.trans (b4.mono B3.size)
      clear L3 b4 B3
      go_wp2_with fail
      refine (alive_any _).mono ?_
      rintro e w5 ⟨rfl, b5⟩
      go_wp2
      go_ret
      exact ⟨rfl, B4.trans (b5.mono B4.size)⟩
    · have HP := Lib.hid hp
      have hil := hp.lt
      have q1 : ¬ (l.length : Int) ≤ (i : Int) := by omega
      have q2 : ¬ l.length ≤ i := by omega
      have q3 : (0 : Int) ≤ (i : Int) := by omega
      have q4 : (i : Int) < (l.length : Int) := by omega
      have q5 : ¬ (bk l i).z < sz := by have := hp.big; omega
      clear hp hj hu hz hv
      go_wp2_with fail
      refine (h3 A c w1 L1).1.mono ?_
      rintro e w2 ⟨rfl, b2⟩
      have L2 := lst_up9 L1 b2
      have B2 := b1.trans (b2.mono b1.size)
      clear L1 b2 b1
      go_wp2_with fail
      refine (h3 A c w2 L2).2.1.mono ?_
      rintro e w3 ⟨rfl, b3⟩
      have L3 := lst_up9 L2 b3
      have B3 := B2.trans (b3.mono B2.size)
      clear L2 b3 B2
      go_wp2_with fail
      refine (h3 A c w3 L3).2.2.mono ?_
      rintro e w4 ⟨rfl, b4⟩
      have L4 := lst_up9 L3 b4
      have B4 := B3.trans (b4.mono B3.size)
      clear L3 b4 B3
      obtain ⟨b, off, rfl, hbb, c0, c1, c2⟩ := L4.cells i hil
      rw [HP.out.free] at c2
      have HL4 := Lib.hid L4
      clear L4
      go_wp2
      go_loopw [8] (fun v wr => ∃ k : Nat, k ≤ l.length ∧ v = .int .i64 k ∧ Below w4.heap.size w4 wr) (fun v _ => l.length - (intOf v).toNat)
      case atStart => exact ⟨0, Nat.zero_le _, rfl, Below.refl _ _⟩
      case round =>
        obtain ⟨k, hk, rfl, hb⟩ := hrel
        by_cases hlt : k < l.length
        · have hL := HL4.out.below hb (Nat.le_refl _)
          obtain ⟨b', off', e', hbk, d0, d1, d2⟩ := hL.cells k hlt
          simp only [Option.some.injEq, Addr.mk.injEq, and_true] at e'
          obtain ⟨rfl, rfl⟩ := e'
          obtain ⟨b', off', e', _, _, f1, _⟩ := hL.cells i hil
          simp only [Option.some.injEq, Addr.mk.injEq, and_true] at e'
          obtain ⟨rfl, rfl⟩ := e'
          have i1 : (0 : Int) ≤ (k : Int) := by omega
          have i2 : (k : Int) < (l.length : Int) := by omega
          have hbn := hb
          have hbw : b < wr.heap.size := Nat.lt_of_lt_of_le hbk hb.size
          have hfst := HP.out.first
          have hlst := HP.out.least
          cases hu : (bk l k).u
          · by_cases hz : sz ≤ (bk l k).z
            · have hle := hlst k hlt hu hz
              have g1 : decide ((bk l k).z < (bk l i).z) = false := by rw [decide_eq_false_iff_not]; omega
              by_cases heq : (bk l k).z = (bk l i).z
              · have hki : ¬ k < i := fun h => by have := hfst k h hu hz; omega
                have g2 : ((bk l k).z == (bk l i).z) = true := by rw [beq_iff_eq]; exact heq
                have g3 : decide (k < i) = false := by rw [decide_eq_false_iff_not]; exact hki
                have g4 : decide ((k : Int) < (i : Int)) = false := by rw [decide_eq_false_iff_not]; omega
                rw [hu] at d2
                clear hu hfst hlst hL heq hle hki
                go_wp2
                go_quiet (fail)
                go_wp2
                go_roundw
                case rel => exact ⟨k + 1, by omega, by go_num, ⟨hbn.os, hbn.tape, hbn.output, hbn.size, hbn.block⟩⟩
                case measure => simp [intOf]; omega
              · have g2 : ((bk l k).z == (bk l i).z) = false := by rw [beq_eq_false_iff_ne]; exact heq
                rw [hu] at d2
                clear hu hfst hlst hL heq hle
                go_wp2
                go_quiet (fail)
                go_wp2
                go_roundw
                case rel => exact ⟨k + 1, by omega, by go_num, ⟨hbn.os, hbn.tape, hbn.output, hbn.size, hbn.block⟩⟩
                case measure => simp [intOf]; omega
            · have g1 : decide (sz ≤ (bk l k).z) = false := by rw [decide_eq_false_iff_not]; exact hz
              rw [hu] at d2
              clear hu hfst hlst hL hz
              go_wp2
              go_quiet (fail)
              go_wp2
              go_roundw
              case rel => exact ⟨k + 1, by omega, by go_num, ⟨hbn.os, hbn.tape, hbn.output, hbn.size, hbn.block⟩⟩
              case measure => simp [intOf]; omega
          · rw [hu] at d2
            clear hu hfst hlst hL
            go_wp2
            go_quiet (fail)
            go_wp2
            go_roundw
            case rel => exact ⟨k + 1, by omega, by go_num, ⟨hbn.os, hbn.tape, hbn.output, hbn.size, hbn.block⟩⟩
            case measure => simp [intOf]; omega
        · have hkn : k = l.length := by omega
          subst hkn
          go_wp2
          go_ret
          exact ⟨rfl, B4.trans (hb.mono B4.size)⟩
  · go_enter Try.func6, Try.ntmps6
    go_wp2
    go_ret
    exact ⟨rfl, Below.refl _ _⟩

set_option maxRecDepth 100000 in
set_option maxHeartbeats 4000000 in
theorem FnFitsBoth_walk {a : Option Addr} {len cap : Nat} {z : List Int} {w : World} (h : IsRow .u8 w a len cap z) : Calls Try.prog 8 #[.slice a len cap] w fun e w' => e = .returned (.bool true) ∧ Below w.heap.size w w' := by
  have hm := row_len9 h
  have HD := Lib.hid (dDrawBestFit h)
  clear h
  by_cases hl : len ≤ 1048576
  · go_enter Try.func8, Try.ntmps8
    go_wp2_with fail
    refine HD.out.mono ?_
    rintro e w1 ⟨A, n, c, l, t, sz, rfl, o1, n1, n2, t1, t2, b1⟩
    have L1 := own_lst9 o1
    have hc := own_cap o1
    obtain rfl : n = l.length := (own_form o1).1
    clear HD o1
    rcases three_any l t sz n1 (by omega) with h3 | ⟨i, j, hv, hs1, hp, hj, hu, hz, h3⟩
    · go_wp2_with fail
      refine (h3 A c w1 L1).1.mono ?_
      rintro e w2 ⟨rfl, b2⟩
      have L2 := lst_up9 L1 b2
      have B2 := b1.trans (b2.mono b1.size)
      clear L1 b2 b1
      go_wp2_with fail
      refine (h3 A c w2 L2).2.1.mono ?_
      rintro e w3 ⟨rfl, b3⟩
      have B3 := B2.trans (b3.mono B2.size)
      clear L2 b3 B2
      go_wp2_with fail
      refine (alive_any _).mono ?_
      rintro e w5 ⟨rfl, b5⟩
      go_wp2
      go_ret
      exact ⟨rfl, B3.trans (b5.mono B3.size)⟩
    · have hla := Lib.hid (lf_best hs1 hp hj hu hz)
      have TI := Lib.hid (take_yes l t sz i hv hp.lt hp.free hs1 hp.big).2
      have TJ := Lib.hid (take_yes l t sz j hv hj hu hs1 hz).2
      have VI := Lib.hid (take_valid hv hp.lt hp.free hs1 hp.big)
      have VJ := Lib.hid (take_valid hv hj hu hs1 hz)
      have FI := Lib.hid (take_fw hp.lt hp.free hp.big)
      have FJ := Lib.hid (take_fw hj hu hz)
      obtain ⟨RI, hRI⟩ : ∃ RI, take l i sz = RI := ⟨_, rfl⟩
      obtain ⟨RJ, hRJ⟩ : ∃ RJ, take l j sz = RJ := ⟨_, rfl⟩
      rw [hRI] at TI VI FI hla
      rw [hRJ] at TJ VJ FJ hla
      obtain ⟨F, hF⟩ : ∃ F, fw l - sz = F := ⟨_, rfl⟩
      rw [hF] at FI FJ
      obtain ⟨LI, hLI⟩ : ∃ LI, lf RI = LI := ⟨_, rfl⟩
      obtain ⟨LJ, hLJ⟩ : ∃ LJ, lf RJ = LJ := ⟨_, rfl⟩
      rw [hLI, hLJ] at hla
      have hla2 : LJ ≤ LI := hla.out
      have g1 : decide (LJ ≤ LI) = true := by rw [decide_eq_true_iff]; exact hla2
      have HLI := Lib.hid hLI
      have HLJ := Lib.hid hLJ
      clear hp hj hu hz hv hRI hRJ hF hLI hLJ hla
      go_wp2_with fail
      refine (h3 A c w1 L1).1.mono ?_
      rintro e w2 ⟨rfl, b2⟩
      have L2 := lst_up9 L1 b2
      have B2 := b1.trans (b2.mono b1.size)
      clear L1 b2 b1
      go_wp2_with fail
      refine (h3 A c w2 L2).2.1.mono ?_
      rintro e w3 ⟨rfl, b3⟩
      have L3 := lst_up9 L2 b3
      have B3 := B2.trans (b3.mono B2.size)
      clear L2 b3 B2
      go_wp2_with fail
      refine (h3 A c w3 L3).2.2.mono ?_
      rintro e w4 ⟨rfl, b4⟩
      have L4 := lst_up9 L3 b4
      have B4 := B3.trans (b4.mono B3.size)
      clear L3 b4 B3
      go_wp2_with fail
      refine (TJ.out A c w4 L4 hc).mono ?_
      rintro e w5 ⟨A5, c5, rfl, o5, b5⟩
      have L5 := lst_up9 L4 b5
      have M5 := own_lst o5
      have B5 := B4.trans (b5.mono B4.size)
      clear L4 b5 B4 o5
      go_wp2_with fail
      refine (TI.out A c w5 L5 hc).mono ?_
      rintro e w6 ⟨A6, c6, rfl, o6, b6⟩
      have M6 := lst_up9 M5 b6
      have N6 := own_lst o6
      have B6 := B5.trans (b6.mono B5.size)
      clear L5 b6 B5 o6 M5
      go_wp2_with fail
      refine (iFree_yes A5 RJ.length c5 RJ t w6 M6 VJ.out).mono ?_
      rintro e w7 ⟨rfl, b7⟩
      rw [FJ.out]
      have M7 := lst_up9 M6 b7
      have N7 := lst_up9 N6 b7
      have B7 := B6.trans (b7.mono B6.size)
      clear M6 N6 b7 B6
      go_wp2_with fail
      refine (iFree_yes A6 RI.length c6 RI t w7 N7 VI.out).mono ?_
      rintro e w8 ⟨rfl, b8⟩
      rw [FI.out]
      have M8 := lst_up9 M7 b8
      have N8 := lst_up9 N7 b8
      have B8 := B7.trans (b8.mono B7.size)
      clear M7 N7 b8 B7
      go_wp2_with fail
      refine (iLarge_yes A6 RI.length c6 RI t w8 N8 VI.out).mono ?_
      rintro e w9 ⟨rfl, b9⟩
      rw [HLI.out]
      have M9 := lst_up9 M8 b9
      have B9 := B8.trans (b9.mono B8.size)
      clear M8 N8 b9 B8
      go_wp2_with fail
      refine (iLarge_yes A5 RJ.length c5 RJ t w9 M9 VJ.out).mono ?_
      rintro e w10 ⟨rfl, b10⟩
      rw [HLJ.out]
      go_wp2
      go_ret
      exact ⟨rfl, B9.trans (b10.mono B9.size)⟩
  · go_enter Try.func8, Try.ntmps8
    go_wp2
    go_ret
    exact ⟨rfl, Below.refl _ _⟩

end Go.Proofs.Ytidkejmphhpjlaa.Wk
