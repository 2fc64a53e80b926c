/- BuddyGive of the program. Conditions: none. -/
import Derived.Test.YtlcgfncgjljgpaaGus
namespace Go.Proofs.Ytlcgfncgjljgpaa.Wu
open Go.RowKit Go.Proofs.Ytlcgfncgjljgpaa.Pl Go.Proofs.Ytlcgfncgjljgpaa.Wk

/-- The cells of a buddy of the call's own. -/
theorem own_cells {w : World} {B g n c k : Nat} {l : List Blk} (h : Own w B (.slice (some ⟨g, 0, none⟩) n c) l) (hk : k < l.length) : w.cell? ⟨g, k * 3, none⟩ = some (.int .i64 (bk l k).s) ∧ w.cell? ⟨g, k * 3 + 1, none⟩ = some (.int .i64 (bk l k).z) ∧ w.cell? ⟨g, k * 3 + 2, none⟩ = some (.bool (bk l k).u) := by
  obtain ⟨b', off', e, _, c0, c1, c2⟩ := (own_lst h).cells k hk
  simp only [Option.some.injEq, Addr.mk.injEq, and_true] at e
  obtain ⟨rfl, rfl⟩ := e
  simp only [Nat.zero_add] at c0 c1 c2
  exact ⟨c0, c1, c2⟩

theorem iBG_inv (A : Option Addr) (n c : Nat) (l : List Blk) (p s : Int) (w : World) (h : Lst w w.heap.size A n l) (hv : ¬ VU l p) (hnm : n ≤ 1125899906842624) :
    Calls Try.prog 27 #[.slice A n c, .int .i64 p, .int .i64 s] w (PostL [] (.bool false) w) := by
  have HC := Lib.hid (iVU_any A n c l p false w h hnm (by simp [hv]))
  clear hv
  go_enter Try.func27, Try.ntmps27
  go_wp2_with fail
  refine HC.out.mono ?_
  rintro e w1 ⟨rfl, hb⟩
  go_wp2
  exact bodyPost_ret (v := .tuple #[.slice none 0 0, .bool false]) (by simp [results, Try.results27, go_sem]) rfl ⟨_, _, rfl, Own.nil _ _, hb⟩

set_option maxRecDepth 100000 in
set_option maxHeartbeats 4000000 in
theorem iBG_any (A : Option Addr) (n c : Nat) (l : List Blk) (p s : Int) (R : List Blk) (b : Bool) (w : World) (h : Lst w w.heap.size A n l) (hv : VU l p) (hR : GiveR l p s R b) :
    Calls Try.prog 27 #[.slice A n c, .int .i64 p, .int .i64 s] w (PostL R (.bool b) w) := by
  have hn : n ≤ 256 := by have := (VU_len hv); have := h.len; omega
  have hn0 : 0 < n := by have := VU_pos hv; have := h.len; omega
  have HC := Lib.hid (iVU_any A n c l p true w h (by omega) (by simp [hv]))
  have HL := Lib.hid h.len
  have HRR := Lib.hid hR
  have HV := Lib.hid hv
  have HH := Lib.hid h
  have hp := VU_len hv
  obtain ⟨P, rfl⟩ := Int.eq_ofNat_of_zero_le hp.2.2.1
  have hP8 : P ≤ 8 := by omega
  clear hR hv hp h
  go_enter Try.func27, Try.ntmps27
  go_wp2_with fail
  refine HC.out.mono ?_
  rintro e w1 ⟨rfl, hb⟩
  clear HC
  go_wp2
  go_loopw [8, 9, 10, 18] (fun v _ _ i wr => ∃ (k : Nat) (bst : Int), k ≤ n ∧ i = .int .i64 k ∧ v = .int .i64 bst ∧ Seek l s k bst ∧ Below w.heap.size w wr) (fun _ _ _ i _ => n - (intOf i).toNat)
  case atStart => exact ⟨0, -1, Nat.zero_le _, rfl, rfl, Seek_zero _ _, hb⟩
  case round =>
    obtain ⟨k, bst, hk, rfl, rfl, hsc, hbr⟩ := hrel
    have hsz := hbr.size
    by_cases hlt : k < n
    · obtain ⟨b0, off, rfl, hbb, c0, c1, c2⟩ := (HH.out.below hbr (Nat.le_refl _)).cells k hlt
      have i1 : (0 : Int) ≤ (k : Int) := by omega
      have i2 : (k : Int) < (n : Int) := by omega
      have hbw : b0 < wr.heap.size := by omega
      cases hu : (bk l k).u
      · have HS := Lib.hid (Seek_no hsc (.inl hu))
        rw [hu] at c2
        clear hsc hu
        go_wp2
        go_roundw
        case rel => exact ⟨k + 1, _, by omega, by go_num, rfl, HS.out, hbr.alloc hsz _⟩
        case measure => simp [intOf]; omega
      · rw [hu] at c2
        by_cases hs2 : (bk l k).s = s
        · have HS := Lib.hid (Seek_yes (by have := HL.out; omega) hu hs2)
          rw [hs2] at c0
          clear hsc hu hs2
          go_wp2
          go_roundw
          case rel => exact ⟨k + 1, _, by omega, by go_num, rfl, HS.out, hbr.alloc hsz _⟩
          case measure => simp [intOf]; omega
        · have HS := Lib.hid (Seek_no hsc (.inr hs2))
          have q1 : ((bk l k).s == s) = false := by rw [beq_eq_false_iff_ne]; exact hs2
          clear hsc hu hs2
          go_wp2
          go_roundw
          case rel => exact ⟨k + 1, _, by omega, by go_num, rfl, HS.out, hbr.alloc hsz _⟩
          case measure => simp [intOf]; omega
    · have hkn : k = n := by omega
      subst hkn
      rcases Seek_pos hsc with ⟨rfl, hs1⟩ | ⟨i, rfl, hik, hi⟩
      · obtain ⟨e1, e2⟩ := GiveR_no HRR.out (Seek_none (by rw [← HL.out]; exact hs1))
        subst e1 e2
        clear hsc hs1
        go_wp2_with fail
        refine (clone_all A k c w.heap.size R wr (HH.out.below hbr (Nat.le_refl _)) hsz (by omega)).mono ?_
        rintro e w4 ⟨A9, c9, rfl, o9, b9⟩
        go_wp2
        exact bodyPost_ret (v := .tuple #[.slice A9 k c9, .bool false]) (by simp [results, Try.results27, go_sem]) rfl (postL_of ⟨_, rfl, o9.mono hsz, hbr.trans (b9.mono hsz)⟩)
      · obtain ⟨e1, hres⟩ := GiveR_yes HRR.out hi
        subst e1
        have HRS := Lib.hid hres
        have hm := Mid_start HV.out hi.1
        rw [hi.2.2] at hm
        have HM0 := Lib.hid hm
        have HIL : RowKit.Hid (i < l.length) := Lib.hid hi.1
        have i1 : (0 : Int) ≤ (i : Int) := by omega
        have i2 : (i : Int) < (k : Int) := by omega
        clear hsc hi hm hres
        go_wp2_with fail
        refine (clone_all A k c w.heap.size l wr (HH.out.below hbr (Nat.le_refl _)) hsz (by omega)).mono ?_
        rintro e w4 ⟨A9, c9, rfl, o9, b9⟩
        have O4 := o9.mono hsz
        have B4 := hbr.trans (b9.mono hsz)
        obtain ⟨gl, rfl, gl0, gl1⟩ := (own_form O4).2 hn0
        obtain ⟨b', off', e, hbb, c0, c1, c2⟩ := (own_lst O4).cells i (by have := HL.out; omega)
        simp only [Option.some.injEq, Addr.mk.injEq, and_true] at e
        obtain ⟨rfl, rfl⟩ := e
        simp only [Nat.zero_add] at c0 c1 c2
        have OS := Lib.hid (own_setU O4 HIL.out false)
        have FZ := own_frozen O4 (i * 3 + 2)
        have B5 := B4.setCell (p := ⟨gl, i * 3 + 2, none⟩) gl0 (.bool false)
        clear o9 b9 B4 O4 c0 c1 hbr
        obtain ⟨wo, rfl⟩ : ∃ x : World, x = wr := ⟨_, rfl⟩
        go_wp2
        go_loopw [8, 11] (fun iv v wr => ∃ (x : List Blk) (A : Option Addr) (N cp j : Nat), v = .slice A N cp ∧ iv = .int .i64 j ∧ Mid P (less (usd l) s) x j ∧ Own wr w.heap.size (.slice A N cp) x ∧ Below w.heap.size w wr) (fun _ v _ => lenOf v)
        case atStart => exact ⟨_, _, k, c9, i, rfl, rfl, HM0.out, OS.out, B5⟩
        case round =>
          obtain ⟨x, A1, N, cp, j, rfl, rfl, hM, hO, hB⟩ := hrel
          have HN := Lib.hid (own_form hO).1
          have hjN : j < N := by have := hM.lt; have := HN.out; omega
          obtain ⟨g, rfl, hg0, hg1⟩ := (own_form hO).2 (by omega)
          have hbl := Mid_blk hM hM.lt
          have hN256 : N ≤ 256 := by have := Mid_len hM; have := pw_bd (z := (P : Int)) (by omega) (by omega); have := HN.out; omega
          have hPb := pw_bd (z := (P : Int)) (by omega) (by omega)
          obtain ⟨S, hS⟩ : ∃ S, (bk x j).s = S := ⟨_, rfl⟩
          obtain ⟨Z, hZ⟩ := Int.eq_ofNat_of_zero_le hbl.2.2.1
          rw [hS, hZ] at hbl
          obtain ⟨s0, s1, z0, z1, hal⟩ := hbl
          have s2 : S ≤ 1000 := by have := pw_pos (Z : Int); omega
          have z8 : Z ≤ 8 := by omega
          have HO := Lib.hid hO
          have HM := Lib.hid hM
          have HB := Lib.hid hB
          have HSJ := Lib.hid hS
          have HZJ := Lib.hid hZ
          have j1 : (0 : Int) ≤ (j : Int) := by omega
          have j2 : (j : Int) < (N : Int) := by omega
          have j3 : IntKind.i64.wrap ((j : Int) + 1) = (j : Int) + 1 := IntWalk.i64_in _ (by omega)
          have j4 : ((j : Int) + 1).toNat = j + 1 := by omega
          have j5 : (0 : Int) ≤ (j : Int) + 1 := by omega
          have HCL := Lib.hid (fun (w' : World) (hw' : Below wr.heap.size wr w') (k : Nat) (hk : k < N) => own_cells (HO.out.below hw') (k := k) (by have := HN.out; omega))
          clear OS B5 HM0 hO hB i1 i2 FZ c2 hS hZ hPb s1 hal hM z1
          by_cases f1 : j + 1 < N
          · have a4 : (j : Int) + 1 < (N : Int) := by omega
            obtain ⟨m0, m1, m2⟩ := HCL.out wr (Below.refl _ _) (j + 1) f1
            obtain ⟨S1, hS1⟩ : ∃ S1, (bk x (j + 1)).s = S1 := ⟨_, rfl⟩
            obtain ⟨Y1, hY1⟩ : ∃ Y1, (bk x (j + 1)).z = Y1 := ⟨_, rfl⟩
            have hnx := Tl_next HM.out.til (i := j) (by have := HN.out; omega)
            rw [hS1, HSJ.out, HZJ.out] at hnx
            rw [hS1] at m0
            rw [hY1] at m1
            have HNX1 := Lib.hid hnx
            have HY1 := Lib.hid hY1
            clear hS1 hY1 hnx
            cases hu : (bk x (j + 1)).u
            · rw [hu] at m2
              have HU := Lib.hid hu
              clear hu
              obtain ⟨q0, q1, q2⟩ := HCL.out wr (Below.refl _ _) j (by omega)
              rw [HSJ.out] at q0
              rw [HZJ.out] at q1
              rw [HM.out.free] at q2
              have HHC : RowKit.Hid (∀ (bb : Bool), (bb = true ↔ (Z : Int) = Y1 ∧ Al S ((Z : Int) + 1)) → ∀ w, Calls Try.prog 42 #[.agg #[.int .i64 S, .int .i64 Z, .bool false], .agg #[.int .i64 S1, .int .i64 Y1, .bool false]] w fun e w' => e = .returned (.bool bb) ∧ Below w.heap.size w w') := Lib.hid (fun bb hbb w => iHalves_any S Z S1 Y1 false false bb w s0 (by omega) z0 (by omega) HNX1.out hbb)
              by_cases hj : (Z : Int) = Y1 ∧ Al S ((Z : Int) + 1)
              · have HC := Lib.hid (HHC.out true ⟨fun _ => hj, fun _ => rfl⟩)
                have HJM := Lib.hid (Mid_join (by omega) HM.out (i := j) (by have := HN.out; omega) (.inl rfl) ⟨HM.out.free, HU.out, by rw [HZJ.out, HY1.out]; exact hj.1, by rw [HSJ.out, HZJ.out]; exact hj.2⟩)
                have HFR : RowKit.Hid ((bk x j).u = false) := Lib.hid HM.out.free
                clear hj HHC
                go_wp2
                go_still_tail 24, (by kernel_rfl)
                go_wp2_with fail
                refine (HC.out _).mono ?_
                rintro e w5 ⟨rfl, b5⟩
                have bX : Below wr.heap.size wr w5 := ⟨b5.os, b5.tape, b5.output, b5.size, b5.block⟩
                clear b5 m0 m1 m2 q0 q1 q2
                obtain ⟨m0, m1, m2⟩ := HCL.out w5 bX j (by omega)
                rw [HZJ.out] at m1
                have FZ := own_frozen (HO.out.below bX) (j * 3 + 1)
                have OS := Lib.hid (show Own (w5.setCell ⟨g, j * 3 + 1, none⟩ (.int .i64 ((Z : Int) + 1))) w.heap.size (.slice (some ⟨g, 0, none⟩) N cp) (x.set j ⟨(bk x j).s, (bk x j).z + 1, false⟩) by have := own_setZ (HO.out.below bX) (i := j) (by have := HN.out; omega) ((Z : Int) + 1); rw [HFR.out] at this; rw [HZJ.out]; exact this)
                have BS := (HB.out.trans (bX.mono HB.out.size)).setCell (p := ⟨g, j * 3 + 1, none⟩) hg0 (.int .i64 ((Z : Int) + 1))
                have HJS := Lib.hid (join_set (x := x) (j := j) (by have := HN.out; omega))
                have u1 : (0 : Int) ≤ (j : Int) := by omega
                have u2 : (j : Int) < (N : Int) := by omega
                have u3 : IntKind.i64.wrap ((j : Int) + 1) = (j : Int) + 1 := IntWalk.i64_in _ (by omega)
                have u4 : ((j : Int) + 1).toNat = j + 1 := by omega
                have u5 : (0 : Int) ≤ (j : Int) + 1 := by omega
                have v1 : IntKind.i64.wrap ((j : Int) + 2) = (j : Int) + 2 := IntWalk.i64_in _ (by omega)
                have v2 : ((j : Int) + 2).toNat = j + 2 := by omega
                have v3 : (0 : Int) ≤ (j : Int) + 2 := by omega
                have v4 : (j : Int) + 2 ≤ (N : Int) := by omega
                have v5 : N ≤ cp := by have := own_cap HO.out; have := HN.out; omega
                have v6 : (j : Int) + 1 ≤ (cp : Int) := by omega
                obtain ⟨A9, hA9⟩ : ∃ A9, (if cp = j + 2 then some (⟨g, 0, none⟩ : Addr) else some ⟨g, (j + 2) * 3, none⟩) = A9 := ⟨_, rfl⟩
                go_wp2
                generalize w5.setCell ⟨g, j * 3 + 1, none⟩ (.int .i64 ((Z : Int) + 1)) = W9 at OS BS ⊢
                generalize x.set j ⟨(bk x j).s, (bk x j).z + 1, false⟩ = y at OS HJS
                have hy : y.length = N := (own_form OS.out).1.symm
                have HTL : RowKit.Hid ((y.take (j + 1)).length = j + 1) := Lib.hid (by simp; omega)
                have OT := Lib.hid (show Own W9.drew w.heap.size (.slice (some ⟨g, 0, none⟩) (j + 1) cp) (y.take (j + 1)) from own_take (OS.out.below (Below.refl _ _).drew) (by omega))
                have LD := Lib.hid (show Lst W9.drew W9.heap.size A9 (N - (j + 2)) (y.drop (j + 2)) by
                  have hh := own_lst (OS.out.below (Below.refl _ _).drew)
                  rw [hy] at hh
                  rw [← hA9]
                  split
                  · exact lst_end (by omega) (by omega)
                  · have := lst_drop hh (k := j + 2) (by omega); rw [Nat.zero_add] at this; exact this)
                have HYN := Lib.hid hy
                have sz9 := BS.size
                clear hy m0 m1 m2 FZ OS
                go_region_law ((refine append_blk_step rfl (.tmp 108) (.tmp 112) rfl w.heap.size W9.heap.size (y.take (j + 1)) (y.drop (j + 2)) (.slice (some ⟨g, 0, none⟩) (j + 1) cp) A9 (N - (j + 2)) (cp - (j + 2)) (by simp [Act.eval, Act.put]) OT.out (by simp [Act.eval, Act.put]) LD.out (by rw [HTL.out]; omega) sz9 (N - 1) (by rw [HTL.out]; omega) ?_; intro A7 c7 w7 o7 b7 g7 t7))
                all_goals
                  simp only [Act.put]
                  go_simp
                  have O7 := Lib.hid (show Own w7 w.heap.size (.slice A7 (N - 1) c7) (joinU x j) by rw [← HJS.out]; exact o7)
                  have B7 := BS.drew.trans b7
                  clear o7 t7 g7 b7
                  go_wp2
                  go_roundw
                  case rel => exact ⟨joinU x j, A7, N - 1, c7, j, rfl, rfl, HJM.out, O7.out, B7⟩
                  case measure => simp [lenOf]; omega
              · have HC := Lib.hid (HHC.out false ⟨(fun h => by cases h), fun h => absurd h hj⟩)
                have N1 : RowKit.Hid (j + 1 < x.length → ¬ Jn (bk x j) (bk x (j + 1))) := Lib.hid (fun _ hJ => hj (by have h3 := hJ.2.2.1; have h4 := hJ.2.2.2; rw [HZJ.out, HY1.out] at h3; rw [HSJ.out, HZJ.out] at h4; exact ⟨h3, h4⟩))
                clear hj HHC
                go_wp2
                go_still_tail 24, (by kernel_rfl)
                go_wp2_with fail
                refine (HC.out _).mono ?_
                rintro e w5 ⟨rfl, b5⟩
                have bX : Below wr.heap.size wr w5 := ⟨b5.os, b5.tape, b5.output, b5.size, b5.block⟩
                clear b5 m0 m1 m2 q0 q1 q2
                go_wp2
                by_cases hj0 : 0 < j
                · obtain ⟨i0, hji⟩ : ∃ i0, j = i0 + 1 := ⟨j - 1, by omega⟩
                  have p1 : (0 : Int) < (j : Int) := by omega
                  have p1b : decide ((0 : Int) < (j : Int)) = true := by rw [decide_eq_true_iff]; exact p1
                  have p1c : decide (0 < j) = true := by rw [decide_eq_true_iff]; exact hj0
                  have p1d : 0 < j := hj0
                  have p2b : IntKind.i64.wrap ((j : Int) - 1) = (i0 : Int) := by rw [show (j : Int) - 1 = (i0 : Int) by omega]; exact IntWalk.i64_in _ (by omega)
                  have p2 : (j : Int) - 1 = (i0 : Int) := by omega
                  have p3 : IntKind.i64.wrap (i0 : Int) = (i0 : Int) := IntWalk.i64_in _ (by omega)
                  have p4 : (0 : Int) ≤ (i0 : Int) := by omega
                  have p5 : (i0 : Int) < (N : Int) := by omega
                  have hiN : i0 + 1 < N := by omega
                  have HJI := Lib.hid hji
                  have HI1 : RowKit.Hid (j - 1 = i0) := Lib.hid (by omega)
                  obtain ⟨r0, r1, r2⟩ := HCL.out w5 bX i0 (by omega)
                  have hbi := Mid_blk HM.out (i := i0) (by have := HN.out; omega)
                  have hnx := Tl_next HM.out.til (i := i0) (by have := HN.out; omega)
                  rw [← hji] at hnx
                  obtain ⟨S2, hS2⟩ : ∃ S2, (bk x i0).s = S2 := ⟨_, rfl⟩
                  obtain ⟨Y, hY⟩ : ∃ Y, (bk x i0).z = Y := ⟨_, rfl⟩
                  rw [hY] at r1
                  rw [hS2] at r0
                  rw [hS2, hY] at hbi hnx
                  rw [HSJ.out] at hnx
                  obtain ⟨t0, t1, t2, t3, _⟩ := hbi
                  have t4 : S2 ≤ 1000 := by have := pw_pos Y; omega
                  have HY := Lib.hid hY
                  have HNX := Lib.hid hnx
                  have HS2 := Lib.hid hS2
                  clear hY hS2 hnx t1 hji hj0
                  cases hu2 : (bk x i0).u
                  · rw [hu2] at r2
                    have HU2 := Lib.hid hu2
                    clear hu2
                    obtain ⟨q0, q1, q2⟩ := HCL.out w5 bX j (by omega)
                    rw [HSJ.out] at q0
                    rw [HZJ.out] at q1
                    rw [HM.out.free] at q2
                    have HHC : RowKit.Hid (∀ (bb : Bool), (bb = true ↔ Y = (Z : Int) ∧ Al S2 (Y + 1)) → ∀ w, Calls Try.prog 42 #[.agg #[.int .i64 S2, .int .i64 Y, .bool false], .agg #[.int .i64 S, .int .i64 Z, .bool false]] w fun e w' => e = .returned (.bool bb) ∧ Below w.heap.size w w') := Lib.hid (fun bb hbb w => iHalves_any S2 Y S Z false false bb w t0 (by omega) t2 (by omega) HNX.out hbb)
                    by_cases hj : Y = (Z : Int) ∧ Al S2 (Y + 1)
                    · have HC := Lib.hid (HHC.out true ⟨fun _ => hj, fun _ => rfl⟩)
                      have hYZ := hj.1
                      have HYZ : RowKit.Hid ((bk x i0).z = (Z : Int)) := Lib.hid (by rw [HY.out]; exact hYZ)
                      have HJM := Lib.hid (Mid_join (by omega) HM.out (i := i0) (by have := HN.out; omega) (.inr HJI.out.symm) ⟨HU2.out, by rw [← HJI.out]; exact HM.out.free, by rw [← HJI.out, HZJ.out]; exact HYZ.out, by rw [HS2.out, HY.out]; exact hj.2⟩)
                      clear hj hYZ HHC
                      go_still_tail 21, (by kernel_rfl)
                      go_wp2_with fail
                      refine (HC.out _).mono ?_
                      rintro e w6 ⟨rfl, b6⟩
                      have bY : Below wr.heap.size wr w6 := bX.trans (Below.mono (w := w5) ⟨b6.os, b6.tape, b6.output, b6.size, b6.block⟩ bX.size)
                      clear b6 r0 r1 r2 q0 q1 q2
                      obtain ⟨m0, m1, m2⟩ := HCL.out w6 bY i0 (by omega)
                      rw [HYZ.out] at m1
                      have FZ := own_frozen (HO.out.below bY) (i0 * 3 + 1)
                      have OS := Lib.hid (show Own (w6.setCell ⟨g, i0 * 3 + 1, none⟩ (.int .i64 ((Z : Int) + 1))) w.heap.size (.slice (some ⟨g, 0, none⟩) N cp) (x.set i0 ⟨(bk x i0).s, (bk x i0).z + 1, false⟩) by have := own_setZ (HO.out.below bY) (i := i0) (by have := HN.out; omega) ((Z : Int) + 1); rw [HU2.out] at this; rw [HYZ.out]; exact this)
                      have BS := (HB.out.trans (bY.mono HB.out.size)).setCell (p := ⟨g, i0 * 3 + 1, none⟩) hg0 (.int .i64 ((Z : Int) + 1))
                      have HJS := Lib.hid (join_set (x := x) (j := i0) (by have := HN.out; omega))
                      have u1 : (0 : Int) ≤ (i0 : Int) := by omega
                      have u2 : (i0 : Int) < (N : Int) := by omega
                      have u3 : IntKind.i64.wrap ((i0 : Int) + 1) = (i0 : Int) + 1 := IntWalk.i64_in _ (by omega)
                      have u4 : ((i0 : Int) + 1).toNat = i0 + 1 := by omega
                      have u5 : (0 : Int) ≤ (i0 : Int) + 1 := by omega
                      have v1 : IntKind.i64.wrap ((i0 : Int) + 2) = (i0 : Int) + 2 := IntWalk.i64_in _ (by omega)
                      have v2 : ((i0 : Int) + 2).toNat = i0 + 2 := by omega
                      have v3 : (0 : Int) ≤ (i0 : Int) + 2 := by omega
                      have v4 : (i0 : Int) + 2 ≤ (N : Int) := by omega
                      have v5 : N ≤ cp := by have := own_cap HO.out; have := HN.out; omega
                      have v6 : (i0 : Int) + 1 ≤ (cp : Int) := by omega
                      obtain ⟨A9, hA9⟩ : ∃ A9, (if cp = i0 + 2 then some (⟨g, 0, none⟩ : Addr) else some ⟨g, (i0 + 2) * 3, none⟩) = A9 := ⟨_, rfl⟩
                      go_wp2
                      generalize w6.setCell ⟨g, i0 * 3 + 1, none⟩ (.int .i64 ((Z : Int) + 1)) = W9 at OS BS ⊢
                      generalize x.set i0 ⟨(bk x i0).s, (bk x i0).z + 1, false⟩ = y at OS HJS
                      have hy : y.length = N := (own_form OS.out).1.symm
                      have HTL : RowKit.Hid ((y.take (i0 + 1)).length = i0 + 1) := Lib.hid (by simp; omega)
                      have OT := Lib.hid (show Own W9.drew w.heap.size (.slice (some ⟨g, 0, none⟩) (i0 + 1) cp) (y.take (i0 + 1)) from own_take (OS.out.below (Below.refl _ _).drew) (by omega))
                      have LD := Lib.hid (show Lst W9.drew W9.heap.size A9 (N - (i0 + 2)) (y.drop (i0 + 2)) by
                        have hh := own_lst (OS.out.below (Below.refl _ _).drew)
                        rw [hy] at hh
                        rw [← hA9]
                        split
                        · exact lst_end (by omega) (by omega)
                        · have := lst_drop hh (k := i0 + 2) (by omega); rw [Nat.zero_add] at this; exact this)
                      have HYN := Lib.hid hy
                      have sz9 := BS.size
                      clear hy m0 m1 m2 FZ OS
                      go_region_law ((refine append_blk_step rfl (.tmp 108) (.tmp 112) rfl w.heap.size W9.heap.size (y.take (i0 + 1)) (y.drop (i0 + 2)) (.slice (some ⟨g, 0, none⟩) (i0 + 1) cp) A9 (N - (i0 + 2)) (cp - (i0 + 2)) (by simp [Act.eval, Act.put]) OT.out (by simp [Act.eval, Act.put]) LD.out (by rw [HTL.out]; omega) sz9 (N - 1) (by rw [HTL.out]; omega) ?_; intro A7 c7 w7 o7 b7 g7 t7))
                      all_goals
                        simp only [Act.put]
                        go_simp
                        have O7 := Lib.hid (show Own w7 w.heap.size (.slice A7 (N - 1) c7) (joinU x i0) by rw [← HJS.out]; exact o7)
                        have B7 := BS.drew.trans b7
                        clear o7 t7 g7 b7
                        go_wp2
                        go_roundw
                        case rel => exact ⟨joinU x i0, A7, N - 1, c7, i0, rfl, rfl, HJM.out, O7.out, B7⟩
                        case measure => simp [lenOf]; omega
                    · have HC := Lib.hid (HHC.out false ⟨(fun h => by cases h), fun h => absurd h hj⟩)
                      have N2 : RowKit.Hid (0 < j → ¬ Jn (bk x (j - 1)) (bk x j)) := Lib.hid (fun _ hJ => hj (by rw [HI1.out] at hJ; have h3 := hJ.2.2.1; have h4 := hJ.2.2.2; rw [HZJ.out, HY.out] at h3; rw [HS2.out, HY.out] at h4; exact ⟨h3, h4⟩))
                      clear hj HHC
                      go_still_tail 21, (by kernel_rfl)
                      go_wp2_with fail
                      refine (HC.out _).mono ?_
                      rintro e w6 ⟨rfl, b6⟩
                      have bY : Below wr.heap.size wr w6 := bX.trans (Below.mono (w := w5) ⟨b6.os, b6.tape, b6.output, b6.size, b6.block⟩ bX.size)
                      obtain ⟨e1, e2⟩ := Mid_end (by omega) (by omega) HM.out N1.out N2.out
                      obtain rfl := HRS.out x e1 e2
                      go_wp2
                      exact bodyPost_ret (v := .tuple #[.slice (some ⟨g, 0, none⟩) N cp, .bool true]) (by simp [results, Try.results27, go_sem]) rfl (postL_of ⟨_, rfl, HO.out.below bY, HB.out.trans (bY.mono HB.out.size)⟩)
                  · rw [hu2] at r2
                    have N2 : RowKit.Hid (0 < j → ¬ Jn (bk x (j - 1)) (bk x j)) := Lib.hid (fun _ hJ => by rw [HI1.out] at hJ; have := hJ.1; rw [hu2] at this; cases this)
                    clear hu2
                    go_quiet (fail)
                    have bY : Below wr.heap.size wr (w5.drewN nq) := ⟨bX.os, bX.tape, bX.output, bX.size, bX.block⟩
                    obtain ⟨e1, e2⟩ := Mid_end (by omega) (by omega) HM.out N1.out N2.out
                    obtain rfl := HRS.out x e1 e2
                    go_wp2
                    exact bodyPost_ret (v := .tuple #[.slice (some ⟨g, 0, none⟩) N cp, .bool true]) (by simp [results, Try.results27, go_sem]) rfl (postL_of ⟨_, rfl, HO.out.below bY, HB.out.trans (bY.mono HB.out.size)⟩)
                · have p1 : decide ((0 : Int) < (j : Int)) = false := by rw [decide_eq_false_iff_not]; omega
                  have p2 : ¬ (0 : Int) < (j : Int) := by omega
                  have p3 : decide (0 < j) = false := by rw [decide_eq_false_iff_not]; exact hj0
                  go_quiet (fail)
                  have bY : Below wr.heap.size wr (w5.drewN nq) := ⟨bX.os, bX.tape, bX.output, bX.size, bX.block⟩
                  obtain ⟨e1, e2⟩ := Mid_end (by omega) (by omega) HM.out N1.out (fun h => absurd h hj0)
                  obtain rfl := HRS.out x e1 e2
                  go_wp2
                  exact bodyPost_ret (v := .tuple #[.slice (some ⟨g, 0, none⟩) N cp, .bool true]) (by simp [results, Try.results27, go_sem]) rfl (postL_of ⟨_, rfl, HO.out.below bY, HB.out.trans (bY.mono HB.out.size)⟩)
            · rw [hu] at m2
              have N1 : RowKit.Hid (j + 1 < x.length → ¬ Jn (bk x j) (bk x (j + 1))) := Lib.hid (fun _ hJ => by have := hJ.2.1; rw [hu] at this; cases this)
              clear hu
              go_wp2
              go_quiet (fail)
              have bX : Below wr.heap.size wr (wr.drewN nq) := ⟨(Below.refl wr.heap.size wr).os, (Below.refl wr.heap.size wr).tape, (Below.refl wr.heap.size wr).output, (Below.refl wr.heap.size wr).size, (Below.refl wr.heap.size wr).block⟩
              generalize wr.drewN nq = w5 at bX ⊢
              clear m0 m1 m2
              go_wp2
              by_cases hj0 : 0 < j
              · obtain ⟨i0, hji⟩ : ∃ i0, j = i0 + 1 := ⟨j - 1, by omega⟩
                have p1 : (0 : Int) < (j : Int) := by omega
                have p1b : decide ((0 : Int) < (j : Int)) = true := by rw [decide_eq_true_iff]; exact p1
                have p1c : decide (0 < j) = true := by rw [decide_eq_true_iff]; exact hj0
                have p1d : 0 < j := hj0
                have p2b : IntKind.i64.wrap ((j : Int) - 1) = (i0 : Int) := by rw [show (j : Int) - 1 = (i0 : Int) by omega]; exact IntWalk.i64_in _ (by omega)
                have p2 : (j : Int) - 1 = (i0 : Int) := by omega
                have p3 : IntKind.i64.wrap (i0 : Int) = (i0 : Int) := IntWalk.i64_in _ (by omega)
                have p4 : (0 : Int) ≤ (i0 : Int) := by omega
                have p5 : (i0 : Int) < (N : Int) := by omega
                have hiN : i0 + 1 < N := by omega
                have HJI := Lib.hid hji
                have HI1 : RowKit.Hid (j - 1 = i0) := Lib.hid (by omega)
                obtain ⟨r0, r1, r2⟩ := HCL.out w5 bX i0 (by omega)
                have hbi := Mid_blk HM.out (i := i0) (by have := HN.out; omega)
                have hnx := Tl_next HM.out.til (i := i0) (by have := HN.out; omega)
                rw [← hji] at hnx
                obtain ⟨S2, hS2⟩ : ∃ S2, (bk x i0).s = S2 := ⟨_, rfl⟩
                obtain ⟨Y, hY⟩ : ∃ Y, (bk x i0).z = Y := ⟨_, rfl⟩
                rw [hY] at r1
                rw [hS2] at r0
                rw [hS2, hY] at hbi hnx
                rw [HSJ.out] at hnx
                obtain ⟨t0, t1, t2, t3, _⟩ := hbi
                have t4 : S2 ≤ 1000 := by have := pw_pos Y; omega
                have HY := Lib.hid hY
                have HNX := Lib.hid hnx
                have HS2 := Lib.hid hS2
                clear hY hS2 hnx t1 hji hj0
                cases hu2 : (bk x i0).u
                · rw [hu2] at r2
                  have HU2 := Lib.hid hu2
                  clear hu2
                  obtain ⟨q0, q1, q2⟩ := HCL.out w5 bX j (by omega)
                  rw [HSJ.out] at q0
                  rw [HZJ.out] at q1
                  rw [HM.out.free] at q2
                  have HHC : RowKit.Hid (∀ (bb : Bool), (bb = true ↔ Y = (Z : Int) ∧ Al S2 (Y + 1)) → ∀ w, Calls Try.prog 42 #[.agg #[.int .i64 S2, .int .i64 Y, .bool false], .agg #[.int .i64 S, .int .i64 Z, .bool false]] w fun e w' => e = .returned (.bool bb) ∧ Below w.heap.size w w') := Lib.hid (fun bb hbb w => iHalves_any S2 Y S Z false false bb w t0 (by omega) t2 (by omega) HNX.out hbb)
                  by_cases hj : Y = (Z : Int) ∧ Al S2 (Y + 1)
                  · have HC := Lib.hid (HHC.out true ⟨fun _ => hj, fun _ => rfl⟩)
                    have hYZ := hj.1
                    have HYZ : RowKit.Hid ((bk x i0).z = (Z : Int)) := Lib.hid (by rw [HY.out]; exact hYZ)
                    have HJM := Lib.hid (Mid_join (by omega) HM.out (i := i0) (by have := HN.out; omega) (.inr HJI.out.symm) ⟨HU2.out, by rw [← HJI.out]; exact HM.out.free, by rw [← HJI.out, HZJ.out]; exact HYZ.out, by rw [HS2.out, HY.out]; exact hj.2⟩)
                    clear hj hYZ HHC
                    go_still_tail 21, (by kernel_rfl)
                    go_wp2_with fail
                    refine (HC.out _).mono ?_
                    rintro e w6 ⟨rfl, b6⟩
                    have bY : Below wr.heap.size wr w6 := bX.trans (Below.mono (w := w5) ⟨b6.os, b6.tape, b6.output, b6.size, b6.block⟩ bX.size)
                    clear b6 r0 r1 r2 q0 q1 q2
                    obtain ⟨m0, m1, m2⟩ := HCL.out w6 bY i0 (by omega)
                    rw [HYZ.out] at m1
                    have FZ := own_frozen (HO.out.below bY) (i0 * 3 + 1)
                    have OS := Lib.hid (show Own (w6.setCell ⟨g, i0 * 3 + 1, none⟩ (.int .i64 ((Z : Int) + 1))) w.heap.size (.slice (some ⟨g, 0, none⟩) N cp) (x.set i0 ⟨(bk x i0).s, (bk x i0).z + 1, false⟩) by have := own_setZ (HO.out.below bY) (i := i0) (by have := HN.out; omega) ((Z : Int) + 1); rw [HU2.out] at this; rw [HYZ.out]; exact this)
                    have BS := (HB.out.trans (bY.mono HB.out.size)).setCell (p := ⟨g, i0 * 3 + 1, none⟩) hg0 (.int .i64 ((Z : Int) + 1))
                    have HJS := Lib.hid (join_set (x := x) (j := i0) (by have := HN.out; omega))
                    have u1 : (0 : Int) ≤ (i0 : Int) := by omega
                    have u2 : (i0 : Int) < (N : Int) := by omega
                    have u3 : IntKind.i64.wrap ((i0 : Int) + 1) = (i0 : Int) + 1 := IntWalk.i64_in _ (by omega)
                    have u4 : ((i0 : Int) + 1).toNat = i0 + 1 := by omega
                    have u5 : (0 : Int) ≤ (i0 : Int) + 1 := by omega
                    have v1 : IntKind.i64.wrap ((i0 : Int) + 2) = (i0 : Int) + 2 := IntWalk.i64_in _ (by omega)
                    have v2 : ((i0 : Int) + 2).toNat = i0 + 2 := by omega
                    have v3 : (0 : Int) ≤ (i0 : Int) + 2 := by omega
                    have v4 : (i0 : Int) + 2 ≤ (N : Int) := by omega
                    have v5 : N ≤ cp := by have := own_cap HO.out; have := HN.out; omega
                    have v6 : (i0 : Int) + 1 ≤ (cp : Int) := by omega
                    obtain ⟨A9, hA9⟩ : ∃ A9, (if cp = i0 + 2 then some (⟨g, 0, none⟩ : Addr) else some ⟨g, (i0 + 2) * 3, none⟩) = A9 := ⟨_, rfl⟩
                    go_wp2
                    generalize w6.setCell ⟨g, i0 * 3 + 1, none⟩ (.int .i64 ((Z : Int) + 1)) = W9 at OS BS ⊢
                    generalize x.set i0 ⟨(bk x i0).s, (bk x i0).z + 1, false⟩ = y at OS HJS
                    have hy : y.length = N := (own_form OS.out).1.symm
                    have HTL : RowKit.Hid ((y.take (i0 + 1)).length = i0 + 1) := Lib.hid (by simp; omega)
                    have OT := Lib.hid (show Own W9.drew w.heap.size (.slice (some ⟨g, 0, none⟩) (i0 + 1) cp) (y.take (i0 + 1)) from own_take (OS.out.below (Below.refl _ _).drew) (by omega))
                    have LD := Lib.hid (show Lst W9.drew W9.heap.size A9 (N - (i0 + 2)) (y.drop (i0 + 2)) by
                      have hh := own_lst (OS.out.below (Below.refl _ _).drew)
                      rw [hy] at hh
                      rw [← hA9]
                      split
                      · exact lst_end (by omega) (by omega)
                      · have := lst_drop hh (k := i0 + 2) (by omega); rw [Nat.zero_add] at this; exact this)
                    have HYN := Lib.hid hy
                    have sz9 := BS.size
                    clear hy m0 m1 m2 FZ OS
                    go_region_law ((refine append_blk_step rfl (.tmp 108) (.tmp 112) rfl w.heap.size W9.heap.size (y.take (i0 + 1)) (y.drop (i0 + 2)) (.slice (some ⟨g, 0, none⟩) (i0 + 1) cp) A9 (N - (i0 + 2)) (cp - (i0 + 2)) (by simp [Act.eval, Act.put]) OT.out (by simp [Act.eval, Act.put]) LD.out (by rw [HTL.out]; omega) sz9 (N - 1) (by rw [HTL.out]; omega) ?_; intro A7 c7 w7 o7 b7 g7 t7))
                    all_goals
                      simp only [Act.put]
                      go_simp
                      have O7 := Lib.hid (show Own w7 w.heap.size (.slice A7 (N - 1) c7) (joinU x i0) by rw [← HJS.out]; exact o7)
                      have B7 := BS.drew.trans b7
                      clear o7 t7 g7 b7
                      go_wp2
                      go_roundw
                      case rel => exact ⟨joinU x i0, A7, N - 1, c7, i0, rfl, rfl, HJM.out, O7.out, B7⟩
                      case measure => simp [lenOf]; omega
                  · have HC := Lib.hid (HHC.out false ⟨(fun h => by cases h), fun h => absurd h hj⟩)
                    have N2 : RowKit.Hid (0 < j → ¬ Jn (bk x (j - 1)) (bk x j)) := Lib.hid (fun _ hJ => hj (by rw [HI1.out] at hJ; have h3 := hJ.2.2.1; have h4 := hJ.2.2.2; rw [HZJ.out, HY.out] at h3; rw [HS2.out, HY.out] at h4; exact ⟨h3, h4⟩))
                    clear hj HHC
                    go_still_tail 21, (by kernel_rfl)
                    go_wp2_with fail
                    refine (HC.out _).mono ?_
                    rintro e w6 ⟨rfl, b6⟩
                    have bY : Below wr.heap.size wr w6 := bX.trans (Below.mono (w := w5) ⟨b6.os, b6.tape, b6.output, b6.size, b6.block⟩ bX.size)
                    obtain ⟨e1, e2⟩ := Mid_end (by omega) (by omega) HM.out N1.out N2.out
                    obtain rfl := HRS.out x e1 e2
                    go_wp2
                    exact bodyPost_ret (v := .tuple #[.slice (some ⟨g, 0, none⟩) N cp, .bool true]) (by simp [results, Try.results27, go_sem]) rfl (postL_of ⟨_, rfl, HO.out.below bY, HB.out.trans (bY.mono HB.out.size)⟩)
                · rw [hu2] at r2
                  have N2 : RowKit.Hid (0 < j → ¬ Jn (bk x (j - 1)) (bk x j)) := Lib.hid (fun _ hJ => by rw [HI1.out] at hJ; have := hJ.1; rw [hu2] at this; cases this)
                  clear hu2
                  go_quiet (fail)
                  have bY : Below wr.heap.size wr (w5.drewN nq) := ⟨bX.os, bX.tape, bX.output, bX.size, bX.block⟩
                  obtain ⟨e1, e2⟩ := Mid_end (by omega) (by omega) HM.out N1.out N2.out
                  obtain rfl := HRS.out x e1 e2
                  go_wp2
                  exact bodyPost_ret (v := .tuple #[.slice (some ⟨g, 0, none⟩) N cp, .bool true]) (by simp [results, Try.results27, go_sem]) rfl (postL_of ⟨_, rfl, HO.out.below bY, HB.out.trans (bY.mono HB.out.size)⟩)
              · have p1 : decide ((0 : Int) < (j : Int)) = false := by rw [decide_eq_false_iff_not]; omega
                have p2 : ¬ (0 : Int) < (j : Int) := by omega
                have p3 : decide (0 < j) = false := by rw [decide_eq_false_iff_not]; exact hj0
                go_quiet (fail)
                have bY : Below wr.heap.size wr (w5.drewN nq) := ⟨bX.os, bX.tape, bX.output, bX.size, bX.block⟩
                obtain ⟨e1, e2⟩ := Mid_end (by omega) (by omega) HM.out N1.out (fun h => absurd h hj0)
                obtain rfl := HRS.out x e1 e2
                go_wp2
                exact bodyPost_ret (v := .tuple #[.slice (some ⟨g, 0, none⟩) N cp, .bool true]) (by simp [results, Try.results27, go_sem]) rfl (postL_of ⟨_, rfl, HO.out.below bY, HB.out.trans (bY.mono HB.out.size)⟩)
          · have a5 : decide ((j : Int) + 1 < (N : Int)) = false := by rw [decide_eq_false_iff_not]; omega
            have a6 : ¬ (j : Int) + 1 < (N : Int) := by omega
            have N1 : RowKit.Hid (j + 1 < x.length → ¬ Jn (bk x j) (bk x (j + 1))) := Lib.hid (fun h => absurd h (by have := HN.out; omega))
            go_wp2
            go_quiet (fail)
            have bX : Below wr.heap.size wr (wr.drewN nq) := ⟨(Below.refl wr.heap.size wr).os, (Below.refl wr.heap.size wr).tape, (Below.refl wr.heap.size wr).output, (Below.refl wr.heap.size wr).size, (Below.refl wr.heap.size wr).block⟩
            generalize wr.drewN nq = w5 at bX ⊢
            go_wp2
            by_cases hj0 : 0 < j
            · obtain ⟨i0, hji⟩ : ∃ i0, j = i0 + 1 := ⟨j - 1, by omega⟩
              have p1 : (0 : Int) < (j : Int) := by omega
              have p1b : decide ((0 : Int) < (j : Int)) = true := by rw [decide_eq_true_iff]; exact p1
              have p1c : decide (0 < j) = true := by rw [decide_eq_true_iff]; exact hj0
              have p1d : 0 < j := hj0
              have p2b : IntKind.i64.wrap ((j : Int) - 1) = (i0 : Int) := by rw [show (j : Int) - 1 = (i0 : Int) by omega]; exact IntWalk.i64_in _ (by omega)
              have p2 : (j : Int) - 1 = (i0 : Int) := by omega
              have p3 : IntKind.i64.wrap (i0 : Int) = (i0 : Int) := IntWalk.i64_in _ (by omega)
              have p4 : (0 : Int) ≤ (i0 : Int) := by omega
              have p5 : (i0 : Int) < (N : Int) := by omega
              have hiN : i0 + 1 < N := by omega
              have HJI := Lib.hid hji
              have HI1 : RowKit.Hid (j - 1 = i0) := Lib.hid (by omega)
              obtain ⟨r0, r1, r2⟩ := HCL.out w5 bX i0 (by omega)
              have hbi := Mid_blk HM.out (i := i0) (by have := HN.out; omega)
              have hnx := Tl_next HM.out.til (i := i0) (by have := HN.out; omega)
              rw [← hji] at hnx
              obtain ⟨S2, hS2⟩ : ∃ S2, (bk x i0).s = S2 := ⟨_, rfl⟩
              obtain ⟨Y, hY⟩ : ∃ Y, (bk x i0).z = Y := ⟨_, rfl⟩
              rw [hY] at r1
              rw [hS2] at r0
              rw [hS2, hY] at hbi hnx
              rw [HSJ.out] at hnx
              obtain ⟨t0, t1, t2, t3, _⟩ := hbi
              have t4 : S2 ≤ 1000 := by have := pw_pos Y; omega
              have HY := Lib.hid hY
              have HNX := Lib.hid hnx
              have HS2 := Lib.hid hS2
              clear hY hS2 hnx t1 hji hj0
              cases hu2 : (bk x i0).u
              · rw [hu2] at r2
                have HU2 := Lib.hid hu2
                clear hu2
                obtain ⟨q0, q1, q2⟩ := HCL.out w5 bX j (by omega)
                rw [HSJ.out] at q0
                rw [HZJ.out] at q1
                rw [HM.out.free] at q2
                have HHC : RowKit.Hid (∀ (bb : Bool), (bb = true ↔ Y = (Z : Int) ∧ Al S2 (Y + 1)) → ∀ w, Calls Try.prog 42 #[.agg #[.int .i64 S2, .int .i64 Y, .bool false], .agg #[.int .i64 S, .int .i64 Z, .bool false]] w fun e w' => e = .returned (.bool bb) ∧ Below w.heap.size w w') := Lib.hid (fun bb hbb w => iHalves_any S2 Y S Z false false bb w t0 (by omega) t2 (by omega) HNX.out hbb)
                by_cases hj : Y = (Z : Int) ∧ Al S2 (Y + 1)
                · have HC := Lib.hid (HHC.out true ⟨fun _ => hj, fun _ => rfl⟩)
                  have hYZ := hj.1
                  have HYZ : RowKit.Hid ((bk x i0).z = (Z : Int)) := Lib.hid (by rw [HY.out]; exact hYZ)
                  have HJM := Lib.hid (Mid_join (by omega) HM.out (i := i0) (by have := HN.out; omega) (.inr HJI.out.symm) ⟨HU2.out, by rw [← HJI.out]; exact HM.out.free, by rw [← HJI.out, HZJ.out]; exact HYZ.out, by rw [HS2.out, HY.out]; exact hj.2⟩)
                  clear hj hYZ HHC
                  go_still_tail 21, (by kernel_rfl)
                  go_wp2_with fail
                  refine (HC.out _).mono ?_
                  rintro e w6 ⟨rfl, b6⟩
                  have bY : Below wr.heap.size wr w6 := bX.trans (Below.mono (w := w5) ⟨b6.os, b6.tape, b6.output, b6.size, b6.block⟩ bX.size)
                  clear b6 r0 r1 r2 q0 q1 q2
                  obtain ⟨m0, m1, m2⟩ := HCL.out w6 bY i0 (by omega)
                  rw [HYZ.out] at m1
                  have FZ := own_frozen (HO.out.below bY) (i0 * 3 + 1)
                  have OS := Lib.hid (show Own (w6.setCell ⟨g, i0 * 3 + 1, none⟩ (.int .i64 ((Z : Int) + 1))) w.heap.size (.slice (some ⟨g, 0, none⟩) N cp) (x.set i0 ⟨(bk x i0).s, (bk x i0).z + 1, false⟩) by have := own_setZ (HO.out.below bY) (i := i0) (by have := HN.out; omega) ((Z : Int) + 1); rw [HU2.out] at this; rw [HYZ.out]; exact this)
                  have BS := (HB.out.trans (bY.mono HB.out.size)).setCell (p := ⟨g, i0 * 3 + 1, none⟩) hg0 (.int .i64 ((Z : Int) + 1))
                  have HJS := Lib.hid (join_set (x := x) (j := i0) (by have := HN.out; omega))
                  have u1 : (0 : Int) ≤ (i0 : Int) := by omega
                  have u2 : (i0 : Int) < (N : Int) := by omega
                  have u3 : IntKind.i64.wrap ((i0 : Int) + 1) = (i0 : Int) + 1 := IntWalk.i64_in _ (by omega)
                  have u4 : ((i0 : Int) + 1).toNat = i0 + 1 := by omega
                  have u5 : (0 : Int) ≤ (i0 : Int) + 1 := by omega
                  have v1 : IntKind.i64.wrap ((i0 : Int) + 2) = (i0 : Int) + 2 := IntWalk.i64_in _ (by omega)
                  have v2 : ((i0 : Int) + 2).toNat = i0 + 2 := by omega
                  have v3 : (0 : Int) ≤ (i0 : Int) + 2 := by omega
                  have v4 : (i0 : Int) + 2 ≤ (N : Int) := by omega
                  have v5 : N ≤ cp := by have := own_cap HO.out; have := HN.out; omega
                  have v6 : (i0 : Int) + 1 ≤ (cp : Int) := by omega
                  obtain ⟨A9, hA9⟩ : ∃ A9, (if cp = i0 + 2 then some (⟨g, 0, none⟩ : Addr) else some ⟨g, (i0 + 2) * 3, none⟩) = A9 := ⟨_, rfl⟩
                  go_wp2
                  generalize w6.setCell ⟨g, i0 * 3 + 1, none⟩ (.int .i64 ((Z : Int) + 1)) = W9 at OS BS ⊢
                  generalize x.set i0 ⟨(bk x i0).s, (bk x i0).z + 1, false⟩ = y at OS HJS
                  have hy : y.length = N := (own_form OS.out).1.symm
                  have HTL : RowKit.Hid ((y.take (i0 + 1)).length = i0 + 1) := Lib.hid (by simp; omega)
                  have OT := Lib.hid (show Own W9.drew w.heap.size (.slice (some ⟨g, 0, none⟩) (i0 + 1) cp) (y.take (i0 + 1)) from own_take (OS.out.below (Below.refl _ _).drew) (by omega))
                  have LD := Lib.hid (show Lst W9.drew W9.heap.size A9 (N - (i0 + 2)) (y.drop (i0 + 2)) by
                    have hh := own_lst (OS.out.below (Below.refl _ _).drew)
                    rw [hy] at hh
                    rw [← hA9]
                    split
                    · exact lst_end (by omega) (by omega)
                    · have := lst_drop hh (k := i0 + 2) (by omega); rw [Nat.zero_add] at this; exact this)
                  have HYN := Lib.hid hy
                  have sz9 := BS.size
                  clear hy m0 m1 m2 FZ OS
                  go_region_law ((refine append_blk_step rfl (.tmp 108) (.tmp 112) rfl w.heap.size W9.heap.size (y.take (i0 + 1)) (y.drop (i0 + 2)) (.slice (some ⟨g, 0, none⟩) (i0 + 1) cp) A9 (N - (i0 + 2)) (cp - (i0 + 2)) (by simp [Act.eval, Act.put]) OT.out (by simp [Act.eval, Act.put]) LD.out (by rw [HTL.out]; omega) sz9 (N - 1) (by rw [HTL.out]; omega) ?_; intro A7 c7 w7 o7 b7 g7 t7))
                  all_goals
                    simp only [Act.put]
                    go_simp
                    have O7 := Lib.hid (show Own w7 w.heap.size (.slice A7 (N - 1) c7) (joinU x i0) by rw [← HJS.out]; exact o7)
                    have B7 := BS.drew.trans b7
                    clear o7 t7 g7 b7
                    go_wp2
                    go_roundw
                    case rel => exact ⟨joinU x i0, A7, N - 1, c7, i0, rfl, rfl, HJM.out, O7.out, B7⟩
                    case measure => simp [lenOf]; omega
                · have HC := Lib.hid (HHC.out false ⟨(fun h => by cases h), fun h => absurd h hj⟩)
                  have N2 : RowKit.Hid (0 < j → ¬ Jn (bk x (j - 1)) (bk x j)) := Lib.hid (fun _ hJ => hj (by rw [HI1.out] at hJ; have h3 := hJ.2.2.1; have h4 := hJ.2.2.2; rw [HZJ.out, HY.out] at h3; rw [HS2.out, HY.out] at h4; exact ⟨h3, h4⟩))
                  clear hj HHC
                  go_still_tail 21, (by kernel_rfl)
                  go_wp2_with fail
                  refine (HC.out _).mono ?_
                  rintro e w6 ⟨rfl, b6⟩
                  have bY : Below wr.heap.size wr w6 := bX.trans (Below.mono (w := w5) ⟨b6.os, b6.tape, b6.output, b6.size, b6.block⟩ bX.size)
                  obtain ⟨e1, e2⟩ := Mid_end (by omega) (by omega) HM.out N1.out N2.out
                  obtain rfl := HRS.out x e1 e2
                  go_wp2
                  exact bodyPost_ret (v := .tuple #[.slice (some ⟨g, 0, none⟩) N cp, .bool true]) (by simp [results, Try.results27, go_sem]) rfl (postL_of ⟨_, rfl, HO.out.below bY, HB.out.trans (bY.mono HB.out.size)⟩)
              · rw [hu2] at r2
                have N2 : RowKit.Hid (0 < j → ¬ Jn (bk x (j - 1)) (bk x j)) := Lib.hid (fun _ hJ => by rw [HI1.out] at hJ; have := hJ.1; rw [hu2] at this; cases this)
                clear hu2
                go_quiet (fail)
                have bY : Below wr.heap.size wr (w5.drewN nq) := ⟨bX.os, bX.tape, bX.output, bX.size, bX.block⟩
                obtain ⟨e1, e2⟩ := Mid_end (by omega) (by omega) HM.out N1.out N2.out
                obtain rfl := HRS.out x e1 e2
                go_wp2
                exact bodyPost_ret (v := .tuple #[.slice (some ⟨g, 0, none⟩) N cp, .bool true]) (by simp [results, Try.results27, go_sem]) rfl (postL_of ⟨_, rfl, HO.out.below bY, HB.out.trans (bY.mono HB.out.size)⟩)
            · have p1 : decide ((0 : Int) < (j : Int)) = false := by rw [decide_eq_false_iff_not]; omega
              have p2 : ¬ (0 : Int) < (j : Int) := by omega
              have p3 : decide (0 < j) = false := by rw [decide_eq_false_iff_not]; exact hj0
              go_quiet (fail)
              have bY : Below wr.heap.size wr (w5.drewN nq) := ⟨bX.os, bX.tape, bX.output, bX.size, bX.block⟩
              obtain ⟨e1, e2⟩ := Mid_end (by omega) (by omega) HM.out N1.out (fun h => absurd h hj0)
              obtain rfl := HRS.out x e1 e2
              go_wp2
              exact bodyPost_ret (v := .tuple #[.slice (some ⟨g, 0, none⟩) N cp, .bool true]) (by simp [results, Try.results27, go_sem]) rfl (postL_of ⟨_, rfl, HO.out.below bY, HB.out.trans (bY.mono HB.out.size)⟩)

end Go.Proofs.Ytlcgfncgjljgpaa.Wu
