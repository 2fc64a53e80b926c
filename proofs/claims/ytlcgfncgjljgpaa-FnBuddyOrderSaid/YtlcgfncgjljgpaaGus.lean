/- BuddyGive of the reference. Conditions: none. -/
import Derived.Test.YtlcgfncgjljgpaaGum
import Derived.Test.YtlcgfncgjljgpaaVs
namespace Go.Proofs.Ytlcgfncgjljgpaa.Wu
open Go.RowKit Go.Proofs.Ytlcgfncgjljgpaa.Pl Go.Proofs.Ytlcgfncgjljgpaa.Wk

theorem postL_of {R : List Blk} {x : Value} {w w' : World} {e : Ending} (h : ∃ v, e = .returned (.tuple #[v, x]) ∧ Own w' w.heap.size v R ∧ Below w.heap.size w w') : PostL R x w e w' := by
  obtain ⟨v, he, ho, hb⟩ := h
  obtain ⟨A, c, rfl, _⟩ := ho.lst
  exact ⟨A, c, he, ho, hb⟩
/-- The length of a slice. -/
def lenOf : Value → Nat
  | .slice _ n _ => n
  | _ => 0

theorem own_emptyG (w : World) (H : Nat) (hH : w.heap.size = H) : Own (w.alloc (.cells #[] 44)) H (.slice (some ⟨H, 0, none⟩) 0 0) [] := by
  subst hH; exact own_empty w
theorem bk_newG (w : World) {H : Nat} (cs : Array Value) (T : TypeId) (hH : w.heap.size = H) : Bk (w.alloc (.cells cs T)) H cs T := by
  subst hH; exact Bk.new w cs T

theorem sBG_inv (A : Option Addr) (n c : Nat) (l : List Blk) (p s : Int) (w : World) (h : Lst w w.heap.size A n l) (hv : ¬ VU l p) (hnm : n ≤ 1125899906842624) :
    Calls Try.prog 26 #[.slice A n c, .int .i64 p, .int .i64 s] w (PostL [] (.bool false) w) := by
  have HC := Lib.hid (sVU_any A n c l p false w h hnm (by simp [hv]))
  clear hv
  go_enter Try.func26, Try.ntmps26
  go_wp2_with fail
  refine HC.out.mono ?_
  rintro e w1 ⟨rfl, hb⟩
  go_wp2
  exact bodyPost_ret (v := .tuple #[.slice (some ⟨w1.heap.size, 0, none⟩) 0 0, .bool false]) (by simp [results, Try.results26, go_sem]) rfl ⟨_, _, rfl, (own_empty w1).mono hb.size, hb.alloc hb.size _⟩

set_option maxRecDepth 100000 in
set_option maxHeartbeats 4000000 in
theorem sBG_any (A : Option Addr) (n c : Nat) (l : List Blk) (p s : Int) (R : List Blk) (b : Bool) (w : World) (h : Lst w w.heap.size A n l) (hv : VU l p) (hR : GiveR l p s R b) :
    Calls Try.prog 26 #[.slice A n c, .int .i64 p, .int .i64 s] w (PostL R (.bool b) w) := by
  have hn : n ≤ 256 := by have := (VU_len hv); have := h.len; omega
  have hn0 : 0 < n := by have := VU_pos hv; have := h.len; omega
  have HC := Lib.hid (sVU_any A n c l p true w h (by omega) (by simp [hv]))
  have HL := Lib.hid h.len
  have HRR := Lib.hid hR
  have HV := Lib.hid hv
  have hp := VU_len hv
  obtain ⟨P, rfl⟩ := Int.eq_ofNat_of_zero_le hp.2.2.1
  have hP8 : P ≤ 8 := by omega
  clear hR hv hp
  go_enter Try.func26, Try.ntmps26
  go_wp2_with fail
  refine HC.out.mono ?_
  rintro e w1 ⟨rfl, hb⟩
  have H1 := Lib.hid (h.below (hb.alloc hb.size (.cells #[] 44)) (Nat.le_refl _))
  have hs := hb.size
  clear HC h
  go_wp2_with (at_builtin; refine append_blk (by rfl) _ _ (by rfl) w1.heap.size w.heap.size [] l _ A n c (by rfl) (own_empty w1) (by rfl) H1.out (by simp; omega) (by simp) n (by simp) ?_; intro A2 c2 w2 o2 b2 g2 t2)
  have B2 := (hb.alloc hb.size (.cells #[] 44)).trans (b2.mono hs)
  have O2 : Own w2 w.heap.size (.slice A2 n c2) l := o2.mono hs
  obtain ⟨gl, rfl, gl0, gl1⟩ := (own_form O2).2 hn0
  have OW := Lib.hid O2
  clear t2 g2 b2 o2 hb O2 H1
  go_wp2
  go_loopw [9, 10] (fun v i wr => ∃ (k : Nat) (bst : Int), k ≤ n ∧ i = .int .i64 k ∧ v = .int .i64 bst ∧ Seek l s k bst ∧ wr = w2) (fun _ i _ => n - (intOf i).toNat)
  case atStart => exact ⟨0, -1, Nat.zero_le _, rfl, rfl, Seek_zero _ _, rfl⟩
  case round =>
    obtain ⟨k, bst, hk, rfl, rfl, hsc, rfl⟩ := hrel
    by_cases hlt : k < n
    · obtain ⟨b', off', e, hbb, c0, c1, c2'⟩ := (own_lst OW.out).cells k (by have := HL.out; omega)
      simp only [Option.some.injEq, Addr.mk.injEq, and_true] at e
      obtain ⟨rfl, rfl⟩ := e
      simp only [Nat.zero_add] at c0 c1 c2'
      have i1 : (0 : Int) ≤ (k : Int) := by omega
      have i2 : (k : Int) < (n : Int) := by omega
      by_cases hs2 : (bk l k).s = s
      · cases hu : (bk l k).u
        · have HS := Lib.hid (Seek_no hsc (.inl hu))
          rw [hs2] at c0
          rw [hu] at c2'
          clear hsc hu hs2
          go_wp2
          go_roundw
          case rel => exact ⟨k + 1, _, by omega, by go_num, rfl, HS.out, trivial⟩
          case measure => simp [intOf]; omega
        · have HS := Lib.hid (Seek_yes (by have := HL.out; omega) hu hs2)
          rw [hs2] at c0
          rw [hu] at c2'
          clear hsc hu hs2
          go_wp2
          go_roundw
          case rel => exact ⟨k + 1, _, by omega, by go_num, rfl, HS.out, trivial⟩
          case measure => simp [intOf]; omega
      · have HS := Lib.hid (Seek_no hsc (.inr hs2))
        have q1 : ((bk l k).s == s) = false := by rw [beq_eq_false_iff_ne]; exact hs2
        clear hsc hs2
        go_wp2
        go_roundw
        case rel => exact ⟨k + 1, _, by omega, by go_num, rfl, HS.out, trivial⟩
        case measure => simp [intOf]; omega
    · have hkn : k = n := by omega
      subst hkn
      rcases Seek_pos hsc with ⟨rfl, hs1⟩ | ⟨i, rfl, hik, hi⟩
      · obtain ⟨e1, e2⟩ := GiveR_no HRR.out (Seek_none (by rw [← HL.out]; exact hs1))
        subst e1 e2
        clear hsc hs1
        go_wp2
        exact bodyPost_ret (v := .tuple #[.slice (some ⟨gl, 0, none⟩) k c2, .bool false]) (by simp [results, Try.results26, go_sem]) rfl (postL_of ⟨_, rfl, OW.out, B2⟩)
      · obtain ⟨e1, hres⟩ := GiveR_yes HRR.out hi
        subst e1
        have HRS := Lib.hid hres
        have hm := Mid_start HV.out hi.1
        rw [hi.2.2] at hm
        have HM0 := Lib.hid hm
        have OS := Lib.hid (own_setU OW.out hi.1 false)
        have FZ := own_frozen OW.out (i * 3 + 2)
        obtain ⟨b', off', e, hbb, c0, c1, c2'⟩ := (own_lst OW.out).cells i (by have := HL.out; omega)
        simp only [Option.some.injEq, Addr.mk.injEq, and_true] at e
        obtain ⟨rfl, rfl⟩ := e
        simp only [Nat.zero_add] at c0 c1 c2'
        have i1 : (0 : Int) ≤ (i : Int) := by omega
        have i2 : (i : Int) < (k : Int) := by omega
        have B3 := B2.setCell (p := ⟨gl, i * 3 + 2, none⟩) gl0 (.bool false)
        obtain ⟨wo, rfl⟩ : ∃ x : World, x = wr := ⟨_, rfl⟩
        clear hsc hi hm hres c0 c1 OW B2
        go_wp2
        have hN1 : k = (set0U l i).length := by rw [HL.out]; simp [set0U]
        go_loopw [8, 9, 11, 12, 13] (fun v iv _ _ _ wr => ∃ (x : List Blk) (A : Option Addr) (N cp j : Nat), v = .slice A N cp ∧ iv = .int .i64 j ∧ Mid P (less (usd l) s) x j ∧ Own wr w.heap.size (.slice A N cp) x ∧ Below w.heap.size w wr) (fun v _ _ _ _ _ => lenOf v)
        case atStart => exact ⟨_, _, k, c2, i, rfl, rfl, HM0.out, OS.out, B3⟩
        case round =>
          obtain ⟨x, A, N, cp, j, rfl, rfl, hM, hO, hB⟩ := hrel
          have HN := Lib.hid (own_form hO).1
          have hxN : x.length = N := HN.out.symm
          have hbl := Mid_blk hM hM.lt
          have hML := Mid_len hM
          have hPb := pw_bd (z := (P : Int)) (by omega) (by omega)
          have hjN : j < N := by have := hM.lt; omega
          have hN256 : N ≤ 256 := by omega
          obtain ⟨b0, off, hA, hbb, d0, d1, d2⟩ := (own_lst hO).cells j (by omega)
          subst hA
          rw [hM.free] at d2
          obtain ⟨S, hS⟩ : ∃ S, (bk x j).s = S := ⟨_, rfl⟩
          obtain ⟨Z, hZ⟩ := Int.eq_ofNat_of_zero_le hbl.2.2.1
          rw [hS] at d0
          rw [hZ] at d1
          rw [hS, hZ] at hbl
          have HO := Lib.hid hO
          have HM := Lib.hid hM
          have HB := Lib.hid hB
          have j1 : (0 : Int) ≤ (j : Int) := by omega
          have j2 : (j : Int) < (N : Int) := by omega
          clear OS B3 HM0 hO hB i1 i2 FZ hN1 c2'
          by_cases hz : Z < P
          · obtain ⟨s0, s1, z0, z1, hal⟩ := hbl
            have hNp := pw_pos (Z : Int)
            obtain ⟨M, hMN⟩ : ∃ M, pw (Z : Int) = M := ⟨_, rfl⟩
            rw [hMN] at hNp s1
            have z8 : Z ≤ 8 := by omega
            have zz : (Z : Int) < (P : Int) := by omega
            obtain ⟨q, hq1, hq2, hjn, hdn⟩ := Mid_round (by omega) (by omega) hM
            have HJN := Lib.hid hjn
            have HDN := Lib.hid hdn
            have HCM := Lib.hid (mate_any S Z false wr s0 (by omega) z8 hal)
            clear hjn hdn hal hM
            by_cases ha : Al S ((Z : Int) + 1)
            · obtain rfl := hq1 (by rw [hS, hZ]; exact ha)
              have HMU : RowKit.Hid (mateU ⟨S, Z, false⟩ = S + M) := Lib.hid (mate_lt hMN ha)
              have q3 : decide (S + M < S) = false := by rw [decide_eq_false_iff_not]; omega
              have q4 : ¬ (S + M < S) := by omega
              clear hq1 hq2 ha
              have HSJ : RowKit.Hid ((bk x q).s = S) := Lib.hid hS
              have HZJ : RowKit.Hid ((bk x q).z = (Z : Int)) := Lib.hid hZ
              have HFJ : RowKit.Hid ((bk x q).u = false) := Lib.hid HM.out.free
              have HXN := Lib.hid hxN
              clear hS hZ hxN
              go_wp2_with fail
              refine HCM.out.mono ?_
              rintro e w4 ⟨rfl, b4⟩
              rw [HMU.out]
              have d0' : w4.cell? ⟨b0, off + q * 3, none⟩ = some (.int .i64 S) := (b4.cell (p := ⟨b0, off + q * 3, none⟩) hbb).trans d0
              have d1' : w4.cell? ⟨b0, off + q * 3 + 1, none⟩ = some (.int .i64 Z) := (b4.cell (p := ⟨b0, off + q * 3 + 1, none⟩) hbb).trans d1
              have d2' : w4.cell? ⟨b0, off + q * 3 + 2, none⟩ = some (.bool false) := (b4.cell (p := ⟨b0, off + q * 3 + 2, none⟩) hbb).trans d2
              have hL4 := own_lst (HO.out.below b4)
              have k1 : (0 : Int) ≤ (q : Int) := by omega
              have k2 : (q : Int) < (N : Int) := by omega
              have k3 : decide ((q : Int) < 0) = false := by rw [decide_eq_false_iff_not]; omega
              have a1 : IntKind.i64.wrap ((q : Int) + 1) = (q : Int) + 1 := IntWalk.i64_in _ (by omega)
              have a2 : ((q : Int) + 1).toNat = q + 1 := by omega
              have a3 : (0 : Int) ≤ (q : Int) + 1 := by omega
              clear d0 d1 d2
              by_cases f1 : q + 1 < N
              · have a4 : (q : Int) + 1 < (N : Int) := by omega
                have a5 : decide ((N : Int) ≤ (q : Int) + 1) = false := by rw [decide_eq_false_iff_not]; omega
                obtain ⟨b', off', e, _, m0, m1, m2⟩ := hL4.cells (q + 1) (by rw [HXN.out]; omega)
                simp only [Option.some.injEq, Addr.mk.injEq, and_true] at e
                obtain ⟨rfl, rfl⟩ := e
                obtain ⟨Y, hY⟩ : ∃ Y, (bk x (q + 1)).z = Y := ⟨_, rfl⟩
                obtain ⟨S2, hS2⟩ : ∃ S2, (bk x (q + 1)).s = S2 := ⟨_, rfl⟩
                rw [hY] at m1
                rw [hS2] at m0
                have HY := Lib.hid hY
                have HS2 := Lib.hid hS2
                clear hY hS2 hL4
                cases hu : (bk x (q + 1)).u
                · rw [hu] at m2
                  have HU := Lib.hid hu
                  clear hu
                  by_cases f2 : Y = (Z : Int)
                  · subst f2
                    have HJ := Lib.hid (HJN.out (by rw [HXN.out]; exact f1) HFJ.out HU.out (by rw [HY.out, HZJ.out]))
                    have r1 : ((Z : Int) != (Z : Int)) = false := by simp
                    clear HJN HDN
                    go_wp2
                    go_quiet (fail)
                    go_wp2
                    have b5 : Below wr.heap.size wr (w4.drewN nq) := ⟨b4.os, b4.tape, b4.output, b4.size, b4.block⟩
                    have t0 : (w4.drewN nq).cell? ⟨b0, off + q * 3, none⟩ = some (.int .i64 S) := d0'
                    have t1 : (w4.drewN nq).cell? ⟨b0, off + q * 3 + 1, none⟩ = some (.int .i64 Z) := d1'
                    generalize w4.drewN nq = W at b5 t0 t1 ⊢
                    clear m0 m1 m2 d0' d1' d2' b4
                    have hbW : b0 < W.heap.size := Nat.lt_of_lt_of_le hbb b5.size
                    have r2 : IntKind.i64.wrap ((Z : Int) + 1) = (Z : Int) + 1 := IntWalk.i64_in _ (by omega)
                    go_region
                    have HSL : RowKit.Hid ((bk x q).s = S) := Lib.hid HSJ.out
                    have HZL : RowKit.Hid ((bk x q).z = (Z : Int)) := Lib.hid HZJ.out
                    have K5 : Bk (W.alloc (.cells #[.int .i64 S, .int .i64 ((Z : Int) + 1), .bool false] 44)).drew W.heap.size #[.int .i64 S, .int .i64 ((Z : Int) + 1), .bool false] 44 := Bk.new W _ _
                    have b6 : Below wr.heap.size wr (W.alloc (.cells #[.int .i64 S, .int .i64 ((Z : Int) + 1), .bool false] 44)).drew := (b5.alloc b5.size _).drew
                    generalize (W.alloc (.cells #[.int .i64 S, .int .i64 ((Z : Int) + 1), .bool false] 44)).drew = W5 at K5 b6 ⊢
                    obtain ⟨G, hG⟩ : ∃ G, W.heap.size = G := ⟨_, rfl⟩
                    rw [hG] at K5 ⊢
                    clear t0 t1 b5 hbW hG
                    have g0 : W5.drew.cell? ⟨G, 0, none⟩ = some (.int .i64 S) := K5.cell 0
                    have e0 : W5.cell? ⟨G, 0, none⟩ = some (.int .i64 S) := K5.cell 0
                    have e1 : W5.cell? ⟨G, 1, none⟩ = some (.int .i64 ((Z : Int) + 1)) := K5.cell 1
                    have e2 : W5.cell? ⟨G, 2, none⟩ = some (.bool false) := K5.cell 2
                    have g1 : W5.drew.cell? ⟨G, 1, none⟩ = some (.int .i64 ((Z : Int) + 1)) := K5.cell 1
                    have g2 : W5.drew.cell? ⟨G, 2, none⟩ = some (.bool false) := K5.cell 2
                    have hG5 := K5.lt
                    have hG5' : G < W5.drew.heap.size := hG5
                    have s5 := b6.size
                    obtain ⟨A9, hA9⟩ : ∃ A9, (if cp = q + 2 then some (⟨b0, off, none⟩ : Addr) else some ⟨b0, off + (q + 2) * 3, none⟩) = A9 := ⟨_, rfl⟩
                    have HT := Lib.hid (fun (w' : World) (hw' : Below wr.heap.size wr w') => (by have := lst_take (own_lst (HO.out.below hw')) (k := q) (by rw [HXN.out]; omega); exact this : Lst w' w'.heap.size (some ⟨b0, off, none⟩) q (x.take q)))
                    have v5 : N ≤ cp := by have := own_cap HO.out; have := HXN.out; omega
                    have HD9 := Lib.hid (fun (w' : World) (hw' : Below wr.heap.size wr w') => (by
                      have hh := own_lst (HO.out.below hw')
                      rw [HXN.out] at hh
                      rw [← hA9]
                      split
                      · exact lst_end (by have := HXN.out; omega) (by omega)
                      · exact lst_drop hh (by omega) : Lst w' w'.heap.size A9 (N - (q + 2)) (x.drop (q + 2))))
                    have v1 : IntKind.i64.wrap ((q : Int) + 2) = (q : Int) + 2 := IntWalk.i64_in _ (by omega)
                    have v2 : ((q : Int) + 2).toNat = q + 2 := by omega
                    have v3 : (0 : Int) ≤ (q : Int) + 2 := by omega
                    have v4 : (q : Int) + 2 ≤ (N : Int) := by omega
                    have v6 : (q : Int) ≤ (cp : Int) := by omega
                    have HTL : RowKit.Hid (([] ++ x.take q).length = q) := Lib.hid (by have := HXN.out; simp; omega)
                    have HTL2 : RowKit.Hid ((([] ++ x.take q) ++ [(⟨S, (Z : Int) + 1, false⟩ : Blk)]).length = q + 1) := Lib.hid (by have := HXN.out; simp; omega)
                    have OE1 := Lib.hid (show Own (W5.alloc (.cells #[] 44)).drew W5.heap.size (.slice (some ⟨W5.heap.size, 0, none⟩) 0 0) [] from (own_empty W5).below (Below.refl _ _).drew)
                    have OE2 := Lib.hid (show Own ((W5.alloc (.cells #[] 44)).alloc (.cells #[.int .i64 S, .int .i64 ((Z : Int) + 1), .bool false] 44)).drew W5.heap.size (.slice (some ⟨W5.heap.size, 0, none⟩) 0 0) [] from (own_empty W5).below ((Below.refl _ _).alloc (Nat.le_refl _) _).drew)
                    have OE3 := Lib.hid (show Own ((W5.alloc (.cells #[.int .i64 S, .int .i64 ((Z : Int) + 1), .bool false] 44)).alloc (.cells #[] 44)).drew W5.heap.size (.slice (some ⟨W5.heap.size + 1, 0, none⟩) 0 0) [] from ((own_emptyG (W5.alloc (.cells #[.int .i64 S, .int .i64 ((Z : Int) + 1), .bool false] 44)) (W5.heap.size + 1) (by simp)).mono (Nat.le_succ _)).below (Below.refl _ _).drew)
                    have KL2 := Lib.hid (show Bk ((W5.alloc (.cells #[] 44)).alloc (.cells #[.int .i64 S, .int .i64 ((Z : Int) + 1), .bool false] 44)).drew (W5.heap.size + 1) #[.int .i64 S, .int .i64 ((Z : Int) + 1), .bool false] 44 from bk_newG (W5.alloc (.cells #[] 44)) _ _ (by simp))
                    have KL3 := Lib.hid (show Bk ((W5.alloc (.cells #[.int .i64 S, .int .i64 ((Z : Int) + 1), .bool false] 44)).alloc (.cells #[] 44)).drew W5.heap.size #[.int .i64 S, .int .i64 ((Z : Int) + 1), .bool false] 44 from (Bk.new W5 _ _).alloc _)
                    have X1 := Lib.hid (show Below W5.heap.size W5 (W5.alloc (.cells #[] 44)).drew from ((Below.refl _ _).alloc (Nat.le_refl _) _).drew)
                    have X2 := Lib.hid (show Below W5.heap.size W5 ((W5.alloc (.cells #[] 44)).alloc (.cells #[.int .i64 S, .int .i64 ((Z : Int) + 1), .bool false] 44)).drew from (((Below.refl _ _).alloc (Nat.le_refl _) _).alloc (by simp) _).drew)
                    have X3 := Lib.hid (show Below W5.heap.size W5 ((W5.alloc (.cells #[.int .i64 S, .int .i64 ((Z : Int) + 1), .bool false] 44)).alloc (.cells #[] 44)).drew from (((Below.refl _ _).alloc (Nat.le_refl _) _).alloc (by simp) _).drew)
                    have HB6 := Lib.hid b6
                    have HK5 := Lib.hid K5
                    clear K5 b6
                    go_wp2
                    go_region_law ((first
                      | (refine append_blk_step (by rfl) _ _ (by rfl) W5.heap.size _ [] (x.take q) _ (some ⟨b0, off, none⟩) q cp (by rfl) OE1.out (by rfl) (HT.out _ (HB6.out.trans (X1.out.mono s5))) (by simp; omega) X1.out.size q (by simp) ?_; intro A6 c6 w6 o6 b6 g6 t6; have Y6 := X1.out.trans b6; have k6 := HK5.out.below Y6 hG5; have h0 := k6.cell 0; have h1 := k6.cell 1; have h2 := k6.cell 2)
                      | (refine append_blk_step (by rfl) _ _ (by rfl) W5.heap.size _ [] (x.take q) _ (some ⟨b0, off, none⟩) q cp (by rfl) OE2.out (by rfl) (HT.out _ (HB6.out.trans (X2.out.mono s5))) (by simp; omega) X2.out.size q (by simp) ?_; intro A6 c6 w6 o6 b6 g6 t6; have Y6 := X2.out.trans b6; have k6 := HK5.out.below Y6 hG5; have h0 := k6.cell 0; have h1 := k6.cell 1; have h2 := k6.cell 2; have KL := Lib.hid (KL2.out.gr (g := W5.heap.size) g6 (Nat.succ_ne_self _)))
                      | (refine append_blk_step (by rfl) _ _ (by rfl) W5.heap.size _ [] (x.take q) _ (some ⟨b0, off, none⟩) q cp (by rfl) OE3.out (by rfl) (HT.out _ (HB6.out.trans (X3.out.mono s5))) (by simp; omega) X3.out.size q (by simp) ?_; intro A6 c6 w6 o6 b6 g6 t6; have Y6 := X3.out.trans b6; have k6 := HK5.out.below Y6 hG5; have h0 := k6.cell 0; have h1 := k6.cell 1; have h2 := k6.cell 2; have KL := Lib.hid (KL3.out.gr (g := W5.heap.size + 1) g6 (Nat.ne_of_lt (Nat.lt_succ_self _))))
                      | (refine append_blk_step (by rfl) _ _ (by rfl) W5.heap.size _ ([] ++ x.take q) [⟨S, (Z : Int) + 1, false⟩] _ (some ⟨w6.heap.size, 0, none⟩) 1 1 (by rfl) (o6.below ((Below.refl _ _).alloc (Nat.le_refl _) _)) (by rfl) (lst_one (Bk.new w6 #[.int .i64 S, .int .i64 ((Z : Int) + 1), .bool false] 44)) (by rw [HTL.out]; omega) (Nat.le_trans Y6.size (by simp)) (q + 1) (by rw [HTL.out]) ?_; intro A7 c7 w7 o7 b7 g7 t7; have Y7 := (Y6.alloc Y6.size (.cells #[.int .i64 S, .int .i64 ((Z : Int) + 1), .bool false] 44)).trans b7)
                      | (refine append_blk_step (by rfl) _ _ (by rfl) W5.heap.size _ ([] ++ x.take q) [⟨S, (Z : Int) + 1, false⟩] _ (some ⟨_, 0, none⟩) 1 1 (by rfl) o6 (by rfl) (lst_one KL.out) (by rw [HTL.out]; omega) Y6.size (q + 1) (by rw [HTL.out]) ?_; intro A7 c7 w7 o7 b7 g7 t7; have Y7 := Y6.trans b7)
                      | (refine append_blk_step (by rfl) _ _ (by rfl) W5.heap.size _ (([] ++ x.take q) ++ [⟨S, (Z : Int) + 1, false⟩]) (x.drop (q + 2)) _ A9 (N - (q + 2)) _ (by rfl) o7 (by rfl) (HD9.out _ (HB6.out.trans (Y7.mono s5))) (by rw [HTL2.out]; omega) Y7.size (N - 1) (by rw [HTL2.out]; omega) ?_; intro A8 c8 w8 o8 b8 g8 t8; have Y8 := Y7.trans b8)))
                    all_goals
                      have O8 := Lib.hid (show Own w8 w.heap.size (.slice A8 (N - 1) c8) (joinU x q) by rw [← join_app HSL.out HZL.out]; exact o8.mono (Nat.le_trans HB.out.size s5))
                      have B8 := HB.out.trans ((HB6.out.trans (Y8.mono s5)).mono HB.out.size)
                      clear o8 t8 g8 b8
                      go_wp2
                      go_roundw
                      case rel => exact ⟨joinU x q, A8, N - 1, c8, q, rfl, rfl, HJ.out, O8.out, B8⟩
                      case measure => simp [lenOf]; omega
                  · have r1 : ((Z : Int) != Y) = true := by rw [bne_iff_ne]; exact fun h => f2 h.symm
                    obtain ⟨e1, e2⟩ := HDN.out (fun hh => f2 (by have := hh.2.2.2; rw [HZJ.out, HY.out] at this; exact this.symm))
                    obtain rfl := HRS.out x e1 e2
                    clear HJN HDN
                    go_wp2
                    go_quiet (fail)
                    go_wp2
                    have b5 : Below wr.heap.size wr (w4.drewN nq) := ⟨b4.os, b4.tape, b4.output, b4.size, b4.block⟩
                    exact bodyPost_ret (v := .tuple #[.slice (some ⟨b0, off, none⟩) N cp, .bool true]) (by simp [results, Try.results26, go_sem]) rfl (postL_of ⟨_, rfl, HO.out.below b5, HB.out.trans (b5.mono HB.out.size)⟩)
                · rw [hu] at m2
                  obtain ⟨e1, e2⟩ := HDN.out (fun hh => by have := hh.2.2.1; rw [hu] at this; cases this)
                  obtain rfl := HRS.out x e1 e2
                  clear HJN HDN
                  go_wp2
                  go_quiet (fail)
                  go_wp2
                  have b5 : Below wr.heap.size wr (w4.drewN nq) := ⟨b4.os, b4.tape, b4.output, b4.size, b4.block⟩
                  exact bodyPost_ret (v := .tuple #[.slice (some ⟨b0, off, none⟩) N cp, .bool true]) (by simp [results, Try.results26, go_sem]) rfl (postL_of ⟨_, rfl, HO.out.below b5, HB.out.trans (b5.mono HB.out.size)⟩)
              · have a5 : decide ((N : Int) ≤ (q : Int) + 1) = true := by rw [decide_eq_true_iff]; omega
                obtain ⟨e1, e2⟩ := HDN.out (fun hh => f1 (by have := hh.1; rw [HXN.out] at this; exact this))
                obtain rfl := HRS.out x e1 e2
                clear HJN HDN
                go_wp2
                go_quiet (fail)
                go_wp2
                have b5 : Below wr.heap.size wr (w4.drewN nq) := ⟨b4.os, b4.tape, b4.output, b4.size, b4.block⟩
                exact bodyPost_ret (v := .tuple #[.slice (some ⟨b0, off, none⟩) N cp, .bool true]) (by simp [results, Try.results26, go_sem]) rfl (postL_of ⟨_, rfl, HO.out.below b5, HB.out.trans (b5.mono HB.out.size)⟩)
            · obtain rfl := hq2 (by rw [hS, hZ]; exact ha)
              have HMU : RowKit.Hid (mateU ⟨S, Z, false⟩ = S - M) := Lib.hid (mate_ge hMN ha)
              have q3 : decide (S - M < S) = true := by rw [decide_eq_true_iff]; omega
              have q4 : S - M < S := by omega
              have q5 : IntKind.i64.wrap ((q : Int) + 1 - 1) = (q : Int) := by rw [Int.add_sub_cancel]; exact IntWalk.i64_in _ (by omega)
              have q6 : IntKind.i64.wrap (q : Int) = (q : Int) := IntWalk.i64_in _ (by omega)
              clear hq1 hq2 ha
              have HSJ : RowKit.Hid ((bk x (q + 1)).s = S) := Lib.hid hS
              have HZJ : RowKit.Hid ((bk x (q + 1)).z = (Z : Int)) := Lib.hid hZ
              have HFJ : RowKit.Hid ((bk x (q + 1)).u = false) := Lib.hid HM.out.free
              have HXN := Lib.hid hxN
              clear hS hZ hxN
              go_wp2_with fail
              refine HCM.out.mono ?_
              rintro e w4 ⟨rfl, b4⟩
              rw [HMU.out]
              have d0' : w4.cell? ⟨b0, off + (q + 1) * 3, none⟩ = some (.int .i64 S) := (b4.cell (p := ⟨b0, off + (q + 1) * 3, none⟩) hbb).trans d0
              have d1' : w4.cell? ⟨b0, off + (q + 1) * 3 + 1, none⟩ = some (.int .i64 Z) := (b4.cell (p := ⟨b0, off + (q + 1) * 3 + 1, none⟩) hbb).trans d1
              have d2' : w4.cell? ⟨b0, off + (q + 1) * 3 + 2, none⟩ = some (.bool false) := (b4.cell (p := ⟨b0, off + (q + 1) * 3 + 2, none⟩) hbb).trans d2
              have hL4 := own_lst (HO.out.below b4)
              have k1 : (0 : Int) ≤ (q : Int) := by omega
              have k2 : (q : Int) < (N : Int) := by omega
              have k3 : decide ((q : Int) < 0) = false := by rw [decide_eq_false_iff_not]; omega
              have a1 : IntKind.i64.wrap ((q : Int) + 1) = (q : Int) + 1 := IntWalk.i64_in _ (by omega)
              have a2 : ((q : Int) + 1).toNat = q + 1 := by omega
              have a3 : (0 : Int) ≤ (q : Int) + 1 := by omega
              clear d0 d1 d2
              have f1 : q + 1 < N := hjN
              have a4 : (q : Int) + 1 < (N : Int) := by omega
              have a5 : decide ((N : Int) ≤ (q : Int) + 1) = false := by rw [decide_eq_false_iff_not]; omega
              obtain ⟨b', off', e, _, m0, m1, m2⟩ := hL4.cells q (by rw [HXN.out]; omega)
              simp only [Option.some.injEq, Addr.mk.injEq, and_true] at e
              obtain ⟨rfl, rfl⟩ := e
              obtain ⟨Y, hY⟩ : ∃ Y, (bk x q).z = Y := ⟨_, rfl⟩
              obtain ⟨S2, hS2⟩ : ∃ S2, (bk x q).s = S2 := ⟨_, rfl⟩
              rw [hY] at m1
              rw [hS2] at m0
              have HY := Lib.hid hY
              have HS2 := Lib.hid hS2
              clear hY hS2 hL4
              cases hu : (bk x q).u
              · rw [hu] at m2
                have HU := Lib.hid hu
                clear hu
                by_cases f2 : Y = (Z : Int)
                · subst f2
                  have HJ := Lib.hid (HJN.out (by rw [HXN.out]; exact f1) HU.out HFJ.out (by rw [HY.out, HZJ.out]))
                  have r1 : ((Z : Int) != (Z : Int)) = false := by simp
                  clear HJN HDN
                  go_wp2
                  go_quiet (fail)
                  go_wp2
                  have b5 : Below wr.heap.size wr (w4.drewN nq) := ⟨b4.os, b4.tape, b4.output, b4.size, b4.block⟩
                  have t0 : (w4.drewN nq).cell? ⟨b0, off + q * 3, none⟩ = some (.int .i64 S2) := m0
                  have t1 : (w4.drewN nq).cell? ⟨b0, off + q * 3 + 1, none⟩ = some (.int .i64 Z) := m1
                  generalize w4.drewN nq = W at b5 t0 t1 ⊢
                  clear m0 m1 m2 d0' d1' d2' b4
                  have hbW : b0 < W.heap.size := Nat.lt_of_lt_of_le hbb b5.size
                  have r2 : IntKind.i64.wrap ((Z : Int) + 1) = (Z : Int) + 1 := IntWalk.i64_in _ (by omega)
                  go_region
                  have HSL : RowKit.Hid ((bk x q).s = S2) := Lib.hid HS2.out
                  have HZL : RowKit.Hid ((bk x q).z = (Z : Int)) := Lib.hid HY.out
                  have K5 : Bk (W.alloc (.cells #[.int .i64 S2, .int .i64 ((Z : Int) + 1), .bool false] 44)).drew W.heap.size #[.int .i64 S2, .int .i64 ((Z : Int) + 1), .bool false] 44 := Bk.new W _ _
                  have b6 : Below wr.heap.size wr (W.alloc (.cells #[.int .i64 S2, .int .i64 ((Z : Int) + 1), .bool false] 44)).drew := (b5.alloc b5.size _).drew
                  generalize (W.alloc (.cells #[.int .i64 S2, .int .i64 ((Z : Int) + 1), .bool false] 44)).drew = W5 at K5 b6 ⊢
                  obtain ⟨G, hG⟩ : ∃ G, W.heap.size = G := ⟨_, rfl⟩
                  rw [hG] at K5 ⊢
                  clear t0 t1 b5 hbW hG
                  have g0 : W5.drew.cell? ⟨G, 0, none⟩ = some (.int .i64 S2) := K5.cell 0
                  have e0 : W5.cell? ⟨G, 0, none⟩ = some (.int .i64 S2) := K5.cell 0
                  have e1 : W5.cell? ⟨G, 1, none⟩ = some (.int .i64 ((Z : Int) + 1)) := K5.cell 1
                  have e2 : W5.cell? ⟨G, 2, none⟩ = some (.bool false) := K5.cell 2
                  have g1 : W5.drew.cell? ⟨G, 1, none⟩ = some (.int .i64 ((Z : Int) + 1)) := K5.cell 1
                  have g2 : W5.drew.cell? ⟨G, 2, none⟩ = some (.bool false) := K5.cell 2
                  have hG5 := K5.lt
                  have hG5' : G < W5.drew.heap.size := hG5
                  have s5 := b6.size
                  obtain ⟨A9, hA9⟩ : ∃ A9, (if cp = q + 2 then some (⟨b0, off, none⟩ : Addr) else some ⟨b0, off + (q + 2) * 3, none⟩) = A9 := ⟨_, rfl⟩
                  have HT := Lib.hid (fun (w' : World) (hw' : Below wr.heap.size wr w') => (by have := lst_take (own_lst (HO.out.below hw')) (k := q) (by rw [HXN.out]; omega); exact this : Lst w' w'.heap.size (some ⟨b0, off, none⟩) q (x.take q)))
                  have v5 : N ≤ cp := by have := own_cap HO.out; have := HXN.out; omega
                  have HD9 := Lib.hid (fun (w' : World) (hw' : Below wr.heap.size wr w') => (by
                    have hh := own_lst (HO.out.below hw')
                    rw [HXN.out] at hh
                    rw [← hA9]
                    split
                    · exact lst_end (by have := HXN.out; omega) (by omega)
                    · exact lst_drop hh (by omega) : Lst w' w'.heap.size A9 (N - (q + 2)) (x.drop (q + 2))))
                  have v1 : IntKind.i64.wrap ((q : Int) + 2) = (q : Int) + 2 := IntWalk.i64_in _ (by omega)
                  have v2 : ((q : Int) + 2).toNat = q + 2 := by omega
                  have v3 : (0 : Int) ≤ (q : Int) + 2 := by omega
                  have v4 : (q : Int) + 2 ≤ (N : Int) := by omega
                  have v6 : (q : Int) ≤ (cp : Int) := by omega
                  have HTL : RowKit.Hid (([] ++ x.take q).length = q) := Lib.hid (by have := HXN.out; simp; omega)
                  have HTL2 : RowKit.Hid ((([] ++ x.take q) ++ [(⟨S2, (Z : Int) + 1, false⟩ : Blk)]).length = q + 1) := Lib.hid (by have := HXN.out; simp; omega)
                  have OE1 := Lib.hid (show Own (W5.alloc (.cells #[] 44)).drew W5.heap.size (.slice (some ⟨W5.heap.size, 0, none⟩) 0 0) [] from (own_empty W5).below (Below.refl _ _).drew)
                  have OE2 := Lib.hid (show Own ((W5.alloc (.cells #[] 44)).alloc (.cells #[.int .i64 S2, .int .i64 ((Z : Int) + 1), .bool false] 44)).drew W5.heap.size (.slice (some ⟨W5.heap.size, 0, none⟩) 0 0) [] from (own_empty W5).below ((Below.refl _ _).alloc (Nat.le_refl _) _).drew)
                  have OE3 := Lib.hid (show Own ((W5.alloc (.cells #[.int .i64 S2, .int .i64 ((Z : Int) + 1), .bool false] 44)).alloc (.cells #[] 44)).drew W5.heap.size (.slice (some ⟨W5.heap.size + 1, 0, none⟩) 0 0) [] from ((own_emptyG (W5.alloc (.cells #[.int .i64 S2, .int .i64 ((Z : Int) + 1), .bool false] 44)) (W5.heap.size + 1) (by simp)).mono (Nat.le_succ _)).below (Below.refl _ _).drew)
                  have KL2 := Lib.hid (show Bk ((W5.alloc (.cells #[] 44)).alloc (.cells #[.int .i64 S2, .int .i64 ((Z : Int) + 1), .bool false] 44)).drew (W5.heap.size + 1) #[.int .i64 S2, .int .i64 ((Z : Int) + 1), .bool false] 44 from bk_newG (W5.alloc (.cells #[] 44)) _ _ (by simp))
                  have KL3 := Lib.hid (show Bk ((W5.alloc (.cells #[.int .i64 S2, .int .i64 ((Z : Int) + 1), .bool false] 44)).alloc (.cells #[] 44)).drew W5.heap.size #[.int .i64 S2, .int .i64 ((Z : Int) + 1), .bool false] 44 from (Bk.new W5 _ _).alloc _)
                  have X1 := Lib.hid (show Below W5.heap.size W5 (W5.alloc (.cells #[] 44)).drew from ((Below.refl _ _).alloc (Nat.le_refl _) _).drew)
                  have X2 := Lib.hid (show Below W5.heap.size W5 ((W5.alloc (.cells #[] 44)).alloc (.cells #[.int .i64 S2, .int .i64 ((Z : Int) + 1), .bool false] 44)).drew from (((Below.refl _ _).alloc (Nat.le_refl _) _).alloc (by simp) _).drew)
                  have X3 := Lib.hid (show Below W5.heap.size W5 ((W5.alloc (.cells #[.int .i64 S2, .int .i64 ((Z : Int) + 1), .bool false] 44)).alloc (.cells #[] 44)).drew from (((Below.refl _ _).alloc (Nat.le_refl _) _).alloc (by simp) _).drew)
                  have HB6 := Lib.hid b6
                  have HK5 := Lib.hid K5
                  clear K5 b6
                  go_wp2
                  go_region_law ((first
                    | (refine append_blk_step (by rfl) _ _ (by rfl) W5.heap.size _ [] (x.take q) _ (some ⟨b0, off, none⟩) q cp (by rfl) OE1.out (by rfl) (HT.out _ (HB6.out.trans (X1.out.mono s5))) (by simp; omega) X1.out.size q (by simp) ?_; intro A6 c6 w6 o6 b6 g6 t6; have Y6 := X1.out.trans b6; have k6 := HK5.out.below Y6 hG5; have h0 := k6.cell 0; have h1 := k6.cell 1; have h2 := k6.cell 2)
                    | (refine append_blk_step (by rfl) _ _ (by rfl) W5.heap.size _ [] (x.take q) _ (some ⟨b0, off, none⟩) q cp (by rfl) OE2.out (by rfl) (HT.out _ (HB6.out.trans (X2.out.mono s5))) (by simp; omega) X2.out.size q (by simp) ?_; intro A6 c6 w6 o6 b6 g6 t6; have Y6 := X2.out.trans b6; have k6 := HK5.out.below Y6 hG5; have h0 := k6.cell 0; have h1 := k6.cell 1; have h2 := k6.cell 2; have KL := Lib.hid (KL2.out.gr (g := W5.heap.size) g6 (Nat.succ_ne_self _)))
                    | (refine append_blk_step (by rfl) _ _ (by rfl) W5.heap.size _ [] (x.take q) _ (some ⟨b0, off, none⟩) q cp (by rfl) OE3.out (by rfl) (HT.out _ (HB6.out.trans (X3.out.mono s5))) (by simp; omega) X3.out.size q (by simp) ?_; intro A6 c6 w6 o6 b6 g6 t6; have Y6 := X3.out.trans b6; have k6 := HK5.out.below Y6 hG5; have h0 := k6.cell 0; have h1 := k6.cell 1; have h2 := k6.cell 2; have KL := Lib.hid (KL3.out.gr (g := W5.heap.size + 1) g6 (Nat.ne_of_lt (Nat.lt_succ_self _))))
                    | (refine append_blk_step (by rfl) _ _ (by rfl) W5.heap.size _ ([] ++ x.take q) [⟨S2, (Z : Int) + 1, false⟩] _ (some ⟨w6.heap.size, 0, none⟩) 1 1 (by rfl) (o6.below ((Below.refl _ _).alloc (Nat.le_refl _) _)) (by rfl) (lst_one (Bk.new w6 #[.int .i64 S2, .int .i64 ((Z : Int) + 1), .bool false] 44)) (by rw [HTL.out]; omega) (Nat.le_trans Y6.size (by simp)) (q + 1) (by rw [HTL.out]) ?_; intro A7 c7 w7 o7 b7 g7 t7; have Y7 := (Y6.alloc Y6.size (.cells #[.int .i64 S2, .int .i64 ((Z : Int) + 1), .bool false] 44)).trans b7)
                    | (refine append_blk_step (by rfl) _ _ (by rfl) W5.heap.size _ ([] ++ x.take q) [⟨S2, (Z : Int) + 1, false⟩] _ (some ⟨_, 0, none⟩) 1 1 (by rfl) o6 (by rfl) (lst_one KL.out) (by rw [HTL.out]; omega) Y6.size (q + 1) (by rw [HTL.out]) ?_; intro A7 c7 w7 o7 b7 g7 t7; have Y7 := Y6.trans b7)
                    | (refine append_blk_step (by rfl) _ _ (by rfl) W5.heap.size _ (([] ++ x.take q) ++ [⟨S2, (Z : Int) + 1, false⟩]) (x.drop (q + 2)) _ A9 (N - (q + 2)) _ (by rfl) o7 (by rfl) (HD9.out _ (HB6.out.trans (Y7.mono s5))) (by rw [HTL2.out]; omega) Y7.size (N - 1) (by rw [HTL2.out]; omega) ?_; intro A8 c8 w8 o8 b8 g8 t8; have Y8 := Y7.trans b8)))
                  all_goals
                    have O8 := Lib.hid (show Own w8 w.heap.size (.slice A8 (N - 1) c8) (joinU x q) by rw [← join_app HSL.out HZL.out]; exact o8.mono (Nat.le_trans HB.out.size s5))
                    have B8 := HB.out.trans ((HB6.out.trans (Y8.mono s5)).mono HB.out.size)
                    clear o8 t8 g8 b8
                    go_wp2
                    go_roundw
                    case rel => exact ⟨joinU x q, A8, N - 1, c8, q, rfl, rfl, HJ.out, O8.out, B8⟩
                    case measure => simp [lenOf]; omega
                · have r1 : (Y != (Z : Int)) = true := by rw [bne_iff_ne]; exact f2
                  obtain ⟨e1, e2⟩ := HDN.out (fun hh => f2 (by have := hh.2.2.2; rw [HZJ.out, HY.out] at this; exact this))
                  obtain rfl := HRS.out x e1 e2
                  clear HJN HDN
                  go_wp2
                  go_quiet (fail)
                  go_wp2
                  have b5 : Below wr.heap.size wr (w4.drewN nq) := ⟨b4.os, b4.tape, b4.output, b4.size, b4.block⟩
                  exact bodyPost_ret (v := .tuple #[.slice (some ⟨b0, off, none⟩) N cp, .bool true]) (by simp [results, Try.results26, go_sem]) rfl (postL_of ⟨_, rfl, HO.out.below b5, HB.out.trans (b5.mono HB.out.size)⟩)
              · rw [hu] at m2
                obtain ⟨e1, e2⟩ := HDN.out (fun hh => by have := hh.2.1; rw [hu] at this; cases this)
                obtain rfl := HRS.out x e1 e2
                clear HJN HDN
                go_wp2
                go_quiet (fail)
                go_wp2
                have b5 : Below wr.heap.size wr (w4.drewN nq) := ⟨b4.os, b4.tape, b4.output, b4.size, b4.block⟩
                exact bodyPost_ret (v := .tuple #[.slice (some ⟨b0, off, none⟩) N cp, .bool true]) (by simp [results, Try.results26, go_sem]) rfl (postL_of ⟨_, rfl, HO.out.below b5, HB.out.trans (b5.mono HB.out.size)⟩)
          · have hz2 : ¬ ((Z : Int) < (P : Int)) := by omega
            obtain ⟨e1, e2⟩ := Mid_top (by omega) (by omega) hM (by rw [hZ]; omega)
            obtain rfl := HRS.out x e1 e2
            go_wp2
            exact bodyPost_ret (v := .tuple #[.slice (some ⟨b0, off, none⟩) N cp, .bool true]) (by simp [results, Try.results26, go_sem]) rfl (postL_of ⟨_, rfl, HO.out, HB.out⟩)

end Go.Proofs.Ytlcgfncgjljgpaa.Wu
