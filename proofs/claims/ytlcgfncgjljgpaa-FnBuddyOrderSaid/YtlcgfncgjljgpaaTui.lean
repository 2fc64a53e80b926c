/- BuddyTake of the program. Conditions: none. -/
import Derived.Test.YtlcgfncgjljgpaaTus
namespace Go.Proofs.Ytlcgfncgjljgpaa.Wu
open Go.RowKit Go.Proofs.Ytlcgfncgjljgpaa.Pl Go.Proofs.Ytlcgfncgjljgpaa.Wk

/-- No free buddy of an order from W on that lies below k. -/
def Free (l : List Blk) (W k : Nat) : Prop := ∀ j : Nat, j < l.length → (bk l j).u = false → (bk l j).z < W ∨ (k : Int) ≤ (bk l j).z
theorem Free_start (l : List Blk) (W : Nat) : Free l W W := fun j _ _ => by omega
theorem fl_mem {l : List Blk} {n k i : Nat} : i ∈ fl l n k ↔ i < n ∧ (bk l i).u = false ∧ (bk l i).z = (k : Int) := by
  unfold fl; simp [List.mem_filter]
theorem Free_step {l : List Blk} {W k : Nat} (h : Free l W k) (he : fl l l.length k = []) : Free l W (k + 1) := fun j hj hu => by
  rcases h j hj hu with h | h
  · exact .inl h
  · by_cases e : (bk l j).z = (k : Int)
    · have : j ∈ fl l l.length k := fl_mem.2 ⟨hj, hu, e⟩
      rw [he] at this; simp at this
    · exact .inr (by omega)
/-- The first of a list of places is the least. -/
theorem fl_first {l : List Blk} {n k i : Nat} {r : List Nat} (h : fl l n k = i :: r) : ∀ j : Nat, j < i → j < n → (bk l j).u = false → (bk l j).z ≠ (k : Int) := by
  intro j hj hn hu hz
  have hm : j ∈ fl l n k := fl_mem.2 ⟨hn, hu, hz⟩
  have hs : (fl l n k).Pairwise (· < ·) := by unfold fl; exact List.Pairwise.filter _ List.pairwise_lt_range
  rw [h] at hm hs
  rcases List.mem_cons.1 hm with e | hm
  · omega
  · have := (List.pairwise_cons.1 hs).1 j hm; omega
theorem Free_pick {l : List Blk} {W k i : Nat} {r : List Nat} (h : Free l W k) (hW : W ≤ k) (he : fl l l.length k = i :: r) : Pick l W i ∧ (bk l i).z = (k : Int) := by
  have hm : i ∈ fl l l.length k := by rw [he]; simp
  obtain ⟨h1, h2, h3⟩ := fl_mem.1 hm
  refine ⟨⟨h1, h2, by omega, fun j hj hu ho => ?_, fun j hj hu ho => ?_⟩, h3⟩
  · rcases h j hj hu with h | h <;> omega
  · have := fl_first he j hj (by omega) hu
    rcases h j (by omega) hu with h | h <;> omega
theorem Free_end {l : List Blk} {p : Int} (hv : VU l p) {W k : Nat} (h : Free l W k) (hk : p < k) : ∀ j : Nat, j < l.length → (bk l j).u = false → (bk l j).z < W := fun j hj hu => by
  have := (VU_blk hv hj).2.2.2.1
  rcases h j hj hu with h | h <;> omega

theorem iBT_inv (A : Option Addr) (n c : Nat) (l : List Blk) (p z : Int) (w : World) (h : Lst w w.heap.size A n l) (hv : ¬ VU l p) (hnm : n ≤ 1125899906842624) :
    Calls Try.prog 32 #[.slice A n c, .int .i64 p, .int .i64 z] w (PostT [] (-1) false w) := by
  have HC := Lib.hid (iVU_any A n c l p false w h hnm (by simp [hv]))
  clear hv
  go_enter Try.func32, Try.ntmps32
  go_wp2_with fail
  refine HC.out.mono ?_
  rintro e w1 ⟨rfl, hb⟩
  go_wp2
  exact bodyPost_ret (v := .tuple #[.slice none 0 0, .int .i64 (-1), .bool false]) (by simp [results, Try.results32, go_sem]) rfl ⟨_, _, rfl, Own.nil _ _, hb⟩

set_option maxRecDepth 100000 in
set_option maxHeartbeats 4000000 in
theorem iBT_any (b0 off n c : Nat) (l : List Blk) (p z o : Int) (R : List Blk) (s : Int) (b : Bool) (w : World) (h : Lst w w.heap.size (some ⟨b0, off, none⟩) n l) (hnc : n ≤ c) (hv : VU l p) (hP : PFor z o) (hR : TakeR l o R s b) :
    Calls Try.prog 32 #[.slice (some ⟨b0, off, none⟩) n c, .int .i64 p, .int .i64 z] w (PostT R s b w) := by
  have hn : n ≤ 256 := by have := (VU_len hv); have := h.len; omega
  have HC := Lib.hid (iVU_any _ n c l p true w h (by omega) (by simp [hv]))
  have HL := Lib.hid h.len
  have HRR := Lib.hid hR
  have HV := Lib.hid hv
  have HP := Lib.hid hP
  have hp := VU_len hv
  obtain ⟨P, rfl⟩ := Int.eq_ofNat_of_zero_le hp.2.2.1
  have hP8 : P ≤ 8 := by omega
  have ho : o = -1 ∨ ∃ W : Nat, o = W ∧ W ≤ 8 := by
    rcases hP with h | h
    · exact .inl h.2
    · exact .inr ⟨o.toNat, by omega, by omega⟩
  clear hR hP hv hp
  go_enter Try.func32, Try.ntmps32
  go_wp2_with fail
  refine HC.out.mono ?_
  rintro e w1 ⟨rfl, hb⟩
  clear HC
  go_wp2_with fail
  refine (iPower_any z o w1 HP.out).mono ?_
  rintro e w' ⟨rfl, rfl⟩
  go_wp2_with fail
  refine (freeLists_any (some ⟨b0, off, none⟩) n c l w1 (h.up hb (Nat.le_refl _) hb.size) hn (VU_z HV.out)).mono ?_
  rintro e w2 ⟨V, rfl, hF, hb2⟩
  have B2 := hb.trans (hb2.mono hb.size)
  have HR := Lib.hid hF.row
  have HZ := Lib.hid (VU_z HV.out)
  obtain ⟨A0, c0, v0, -, -⟩ := row_form (hF.row 0 (by omega))
  obtain ⟨A1, c1, v1, -, -⟩ := row_form (hF.row 1 (by omega))
  obtain ⟨A2, c2, v2, -, -⟩ := row_form (hF.row 2 (by omega))
  obtain ⟨A3, c3, v3, -, -⟩ := row_form (hF.row 3 (by omega))
  obtain ⟨A4, c4, v4, -, -⟩ := row_form (hF.row 4 (by omega))
  obtain ⟨A5, c5, v5, -, -⟩ := row_form (hF.row 5 (by omega))
  obtain ⟨A6, c6, v6, -, -⟩ := row_form (hF.row 6 (by omega))
  obtain ⟨A7, c7, v7, -, -⟩ := row_form (hF.row 7 (by omega))
  obtain ⟨A8, c8, v8, -, -⟩ := row_form (hF.row 8 (by omega))
  have HVV := Lib.hid (show (#[V 0, V 1, V 2, V 3, V 4, V 5, V 6, V 7, V 8] : Array Value) = #[.slice A0 (fl l n 0).length c0, .slice A1 (fl l n 1).length c1, .slice A2 (fl l n 2).length c2, .slice A3 (fl l n 3).length c3, .slice A4 (fl l n 4).length c4, .slice A5 (fl l n 5).length c5, .slice A6 (fl l n 6).length c6, .slice A7 (fl l n 7).length c7, .slice A8 (fl l n 8).length c8] by rw [v0, v1, v2, v3, v4, v5, v6, v7, v8])
  rw [HVV.out]
  clear hF hb2 hb v0 v1 v2 v3 v4 v5 v6 v7 v8
  go_wp2
  obtain ⟨W3, hW3⟩ : ∃ x : World, w2.alloc (.cells #[.slice A0 (fl l n 0).length c0, .slice A1 (fl l n 1).length c1, .slice A2 (fl l n 2).length c2, .slice A3 (fl l n 3).length c3, .slice A4 (fl l n 4).length c4, .slice A5 (fl l n 5).length c5, .slice A6 (fl l n 6).length c6, .slice A7 (fl l n 7).length c7, .slice A8 (fl l n 8).length c8] 61) = x := ⟨_, rfl⟩
  have K3 : Bk W3 w2.heap.size #[V 0, V 1, V 2, V 3, V 4, V 5, V 6, V 7, V 8] 61 := by rw [HVV.out, ← hW3]; exact Bk.new _ _ _
  have b23 : Below w2.heap.size w2 W3 := by rw [← hW3]; exact (Below.refl _ _).alloc (Nat.le_refl _) _
  have B3 : Below w.heap.size w W3 := by rw [← hW3]; exact B2.alloc B2.size _
  have R3 := Lib.hid (fun o ho => owns_below (HR.out o ho) b23)
  have s3 := B3.size
  have hg3 : w2.heap.size < W3.heap.size := K3.lt
  rw [hW3]
  clear hW3 b23 HR
  obtain ⟨g, hg⟩ : ∃ g, w2.heap.size = g := ⟨_, rfl⟩
  rw [hg] at K3 hg3 ⊢
  clear B2 hg HVV
  go_loopw [11] (fun iv wr => iv = .int .i64 o ∧ o = -1 ∧ wr = W3 ∨ ∃ W k : Nat, o = W ∧ W ≤ 8 ∧ W ≤ k ∧ k ≤ 9 ∧ iv = .int .i64 k ∧ Free l W k ∧ wr = W3) (fun iv _ => 10 - (intOf iv).toNat)
  case atStart =>
    rcases ho with rfl | ⟨W, rfl, h8⟩
    · exact .inl ⟨rfl, rfl, rfl⟩
    · exact .inr ⟨W, W, rfl, h8, Nat.le_refl _, by omega, rfl, Free_start _ _, rfl⟩
  case round =>
    rcases hrel with ⟨rfl, rfl, rfl⟩ | ⟨W, k, rfl, hW8, hWk, hk9, rfl, hfr, rfl⟩
    · obtain ⟨e1, e2, e3⟩ := TakeR_no HRR.out (.inl (by omega))
      subst e1 e2 e3
      go_wp2_with fail
      refine (clone_all (some ⟨b0, off, none⟩) n c w.heap.size R wr (h.below B3 (Nat.le_refl _)) s3 (by omega)).mono ?_
      rintro e w4 ⟨A9, c9, rfl, o9, b9⟩
      go_wp2
      exact bodyPost_ret (v := .tuple #[.slice A9 n c9, .int .i64 (-1), .bool false]) (by simp [results, Try.results32, go_sem]) rfl (postT_of ⟨_, rfl, o9.mono s3, B3.trans (b9.mono s3)⟩)
    · have i1 : (0 : Int) ≤ (k : Int) := by omega
      by_cases hkP : k ≤ P
      · have i2 : (k : Int) ≤ (P : Int) := by omega
        have i3 : (k : Int) < 9 := by omega
        obtain ⟨Ak, ck, hV, hS, -⟩ := row_form (R3.out k (by omega))
        have cK : wr.cell? ⟨g, k, none⟩ = some (.slice Ak (fl l n k).length ck) := (K3.cell k).trans ((arr_at V (by omega)).trans (congrArg some hV))
        cases hfl : fl l n k with
        | nil =>
          rw [hfl] at cK
          have HS := Lib.hid (Free_step hfr (by rw [← HL.out]; exact hfl))
          clear hfr hfl hS hV
          simp only [List.length_nil] at cK
          go_wp2
          go_roundw
          case rel => exact .inr ⟨W, k + 1, rfl, hW8, by omega, by omega, by go_num, HS.out, trivial⟩
          case measure => simp [intOf]; omega
        | cons i r =>
          obtain ⟨hpk, hzk⟩ := Free_pick hfr hWk (by rw [← HL.out]; exact hfl)
          obtain ⟨e1, e2, e3⟩ := TakeR_yes HRR.out (by omega) hpk
          subst e1 e2 e3
          obtain ⟨bf, of, e, hbf, hc⟩ := hS.2 (by rw [hfl]; simp)
          subst e
          have cF : wr.cell? ⟨bf, of, none⟩ = some (.int .i64 i) := hc 0 _ (by unfold flc; rw [hfl]; rfl)
          rw [hfl] at cK
          simp only [List.length_cons] at cK
          have hbl := VU_blk HV.out hpk.lt
          have hpp := VU_len HV.out
          have hin : i < n := by have := HL.out; have := hpk.lt; omega
          have hL := h.below B3 (Nat.le_refl _)
          obtain ⟨b', off', e, hbb, d0, d1, d2⟩ := hL.cells i hin
          simp only [Option.some.injEq, Addr.mk.injEq, and_true] at e
          obtain ⟨rfl, rfl⟩ := e
          have hbw : b0 < wr.heap.size := by omega
          obtain ⟨S, hS2⟩ : ∃ S, (bk l i).s = S := ⟨_, rfl⟩
          rw [hS2] at d0
          have hbd : 0 ≤ S ∧ S ≤ 256 := by have := pw_pos (bk l i).z; omega
          obtain ⟨s0, s1⟩ := hbd
          have HS := Lib.hid hS2
          have HZ0 := Lib.hid hzk
          have HI : RowKit.Hid (i < l.length) := Lib.hid hpk.lt
          have j1 : (0 : Int) ≤ (i : Int) := by omega
          have j2 : (i : Int) < (n : Int) := by omega
          have j3 : (i : Int) ≤ (c : Int) := by omega
          have j4 : i ≤ c := by omega
          have j5 : (0 : Int) < (r.length : Int) + 1 := by omega
          have HD := Lib.hid (fun (w' : World) (hw' : Below w.heap.size w w') (hk1 : i + 1 ≤ n) => lst_drop (h.below hw' (Nat.le_refl _)) hk1)
          have HTL : RowKit.Hid ((l.take i).length = i) := Lib.hid (by have := hpk.lt; simp; omega)
          have HCL := Lib.hid (clone_all (some ⟨b0, off, none⟩) i c w.heap.size (l.take i) wr (lst_take hL (Nat.le_of_lt hin)) s3 (by omega))
          clear hfr hfl hS hV hc hbl hpp hL hS2 hzk hpk d1 d2
          go_wp2_with (first
            | (go_at_call 48; refine HCL.out.mono ?_; rintro e w4 ⟨A9, c9, rfl, o9, b9⟩; have B4 := B3.trans (b9.mono s3); have s4 := b9.size)
            | (at_builtin; refine append_blk (by rfl) _ _ (by rfl) wr.heap.size _ (l.take i) [⟨S, W, true⟩] _ (some ⟨w4.heap.size, 0, none⟩) 1 1 (by rfl) (o9.below ((Below.refl _ _).alloc (Nat.le_refl _) _)) (by rfl) (lst_one (Bk.new w4 #[.int .i64 S, .int .i64 W, .bool true] 44)) (by rw [HTL.out]; omega) (by simp; omega) (i + 1) (by rw [HTL.out]) ?_; intro A5 c5 w5 o5 b5 g5 t5; have B5 := (B4.alloc B4.size (.cells #[.int .i64 S, .int .i64 W, .bool true] 44)).trans (b5.mono s3); have z5 : w4.heap.size ≤ w5.heap.size := Nat.le_trans (by simp) b5.size))
          have O5 : Own w5 wr.heap.size (.slice A5 (i + 1) c5) (midU l i W W) := by rw [midU_zero, HS.out]; exact o5
          clear o5 t5 g5 b5 o9 b9
          have HBK := Lib.hid (show k ≤ 8 by omega)
          have ss := s3
          obtain ⟨wo, rfl⟩ : ∃ x : World, x = wr := ⟨_, rfl⟩
          go_loopw [14, 15] (fun v iv wr => ∃ (q : Nat) (A : Option Addr) (cc : Nat), W ≤ q ∧ q ≤ k ∧ iv = .int .i64 q ∧ v = .slice A (i + 1 + (q - W)) cc ∧ Own wr wo.heap.size (.slice A (i + 1 + (q - W)) cc) (midU l i W q) ∧ Below w.heap.size w wr ∧ wo.heap.size ≤ wr.heap.size) (fun _ iv _ => k - (intOf iv).toNat)
          case atStart => exact ⟨W, A5, c5, Nat.le_refl _, hWk, rfl, by rw [show i + 1 + (W - W) = i + 1 by omega], by rw [show i + 1 + (W - W) = i + 1 by omega]; exact O5, B5, by omega⟩
          case round =>
            obtain ⟨q, A, cc, hq1, hq2, rfl, rfl, hO, hB, hs⟩ := hrel
            obtain ⟨M, hM⟩ : ∃ M, i + 1 + (q - W) = M := ⟨_, rfl⟩
            rw [hM] at hO ⊢
            have HO := Lib.hid hO
            have HLen : RowKit.Hid ((midU l i W q).length = M) := Lib.hid (by rw [midU_len (Nat.le_of_lt HI.out), ← hM]; omega)
            clear hO
            by_cases hlt : q < k
            · obtain ⟨N, hN⟩ : ∃ N, pw (q : Int) = N := ⟨_, rfl⟩
              have hNb := pw_bd (z := (q : Int)) (by omega) (by omega)
              have hNp := pw_pos (q : Int)
              rw [hN] at hNb hNp
              have w3 : wrap64 (S + N) = S + N := w64 (by omega) (by omega)
              have HM := Lib.hid (show midU l i W ((q + 1 : Nat) : Int) = midU l i W q ++ [⟨S + N, q, false⟩] by rw [show ((q + 1 : Nat) : Int) = (q : Int) + 1 by omega, midU_step l i (by omega), HS.out, hN])
              have i5 : (0 : Int) ≤ (q : Int) := by omega
              have i6 : (q : Int) < (k : Int) := by omega
              have q8 : q ≤ 8 := by omega
              have hL1 : (midU l i W q).length + 1 ≤ 2097152 := by rw [HLen.out]; omega
              have hL2 : RowKit.Hid (M + 1 = (midU l i W q).length + 1) := Lib.hid (by rw [HLen.out])
              have hL3 : wo.heap.size ≤ (wr.alloc (.cells #[.int .i64 (S + N), .int .i64 q, .bool false] 44)).heap.size := by simp; omega
              have w1 := wrap_pw (k := q) q8
              rw [hN] at w1
              clear hN hNb hNp
              go_wp2_with (at_builtin; refine append_blk (by rfl) _ _ (by rfl) wo.heap.size _ (midU l i W q) [⟨S + N, q, false⟩] _ (some ⟨wr.heap.size, 0, none⟩) 1 1 (by rfl) (HO.out.below ((Below.refl _ _).alloc (Nat.le_refl _) _)) (by rfl) (lst_one (Bk.new wr #[.int .i64 (S + N), .int .i64 q, .bool false] 44)) hL1 hL3 (M + 1) hL2.out ?_; intro A6 c6 w6 o6 b6 g6 t6; clear w1 w3; have B6 := (hB.alloc hB.size (.cells #[.int .i64 (S + N), .int .i64 q, .bool false] 44)).trans (b6.mono ss); have z6 : wo.heap.size ≤ w6.heap.size := Nat.le_trans hL3 b6.size)
              have O7 := Lib.hid (show Own w6 wo.heap.size (.slice A6 (i + 1 + ((q + 1) - W)) c6) (midU l i W ((q + 1 : Nat) : Int)) by rw [HM.out, show i + 1 + ((q + 1) - W) = M + 1 by omega]; exact o6)
              clear o6 t6 g6 b6 hB
              go_roundw
              case rel => exact ⟨q + 1, A6, c6, by omega, by omega, by go_num, by rw [show i + 1 + ((q + 1) - W) = M + 1 by omega], O7.out, B6, z6⟩
              case measure => simp [intOf]; omega
            · obtain rfl : q = k := by omega
              have HE := Lib.hid (show midU l i W (q : Int) ++ l.drop (i + 1) = takeU l i W by rw [← HZ0.out, midU_end])
              obtain ⟨A8, hA8⟩ : ∃ A8, (if c = i + 1 then some (⟨b0, off, none⟩ : Addr) else some ⟨b0, off + (i + 1) * 3, none⟩) = A8 := ⟨_, rfl⟩
              have HD9 := Lib.hid (fun (w' : World) (hw' : Below w.heap.size w w') => (by
                rw [← hA8]
                split
                · exact lst_end (by have := HL.out; omega) (by omega)
                · exact HD.out w' hw' (by omega) : Lst w' w.heap.size A8 (n - (i + 1)) (l.drop (i + 1))))
              have a2 : ((i : Int) + 1).toNat = i + 1 := by omega
              have a3 : (0 : Int) ≤ (i : Int) + 1 := by omega
              have a4 : (i : Int) + 1 ≤ (n : Int) := by omega
              go_wp2_with (at_builtin; go_loud (refine append_blk (by rfl) _ _ (by rfl) wo.heap.size w.heap.size (midU l i W q) (l.drop (i + 1)) (.slice A M cc) A8 (n - (i + 1)) _ (by rfl) HO.out (by rfl) (HD9.out _ hB) (by rw [HLen.out]; omega) hs (n + (q - W)) (by rw [HLen.out]; omega) ?_); intro A7 c7 w7 o7 b7 g7 t7)
              have O7 := Lib.hid (show Own w7 w.heap.size (.slice A7 (n + (q - W)) c7) (takeU l i W) by rw [← HE.out]; exact o7.mono ss)
              have B7 := hB.trans (b7.mono ss)
              clear o7 t7 g7 b7 hB
              refine bodyPost_ret (v := .tuple #[.slice A7 (n + (q - W)) c7, .int .i64 S, .bool true]) (by simp [results, Try.results32, go_sem]) rfl ?_
              rw [HS.out]
              exact postT_of ⟨_, rfl, O7.out, B7⟩
      · have hkP2 : ¬ (k : Int) ≤ (P : Int) := by omega
        obtain ⟨e1, e2, e3⟩ := TakeR_no HRR.out (.inr (Free_end HV.out hfr (by omega)))
        subst e1 e2 e3
        clear hfr
        go_wp2_with fail
        refine (clone_all (some ⟨b0, off, none⟩) n c w.heap.size R wr (h.below B3 (Nat.le_refl _)) s3 (by omega)).mono ?_
        rintro e w4 ⟨A9, c9, rfl, o9, b9⟩
        go_wp2
        exact bodyPost_ret (v := .tuple #[.slice A9 n c9, .int .i64 (-1), .bool false]) (by simp [results, Try.results32, go_sem]) rfl (postT_of ⟨_, rfl, o9.mono s3, B3.trans (b9.mono s3)⟩)

end Go.Proofs.Ytlcgfncgjljgpaa.Wu
