/- BuddyTake of the reference. Conditions: none. -/
import Derived.Test.YtlcgfncgjljgpaaTup
import Derived.Test.YtlcgfncgjljgpaaExlU
import Derived.Deep.RegionLaw
import Derived.Deep.QuietTactic
import Derived.BigQuiet
namespace Go.Proofs.Ytlcgfncgjljgpaa.Wu
open Go.RowKit Go.Proofs.Ytlcgfncgjljgpaa.Pl Go.Proofs.Ytlcgfncgjljgpaa.Wk

/-- A call that returns the list R, in memory of its own, and a number and a truth beside it. -/
def PostT (R : List Blk) (s : Int) (b : Bool) (w : World) (e : Ending) (w' : World) : Prop :=
  ∃ A c, e = .returned (.tuple #[.slice A R.length c, .int .i64 s, .bool b]) ∧ Own w' w.heap.size (.slice A R.length c) R ∧ Below w.heap.size w w'
theorem postT_of {R : List Blk} {s : Int} {b : Bool} {w w' : World} {e : Ending} (h : ∃ v, e = .returned (.tuple #[v, .int .i64 s, .bool b]) ∧ Own w' w.heap.size v R ∧ Below w.heap.size w w') : PostT R s b w e w' := by
  obtain ⟨v, he, ho, hb⟩ := h
  obtain ⟨A, c, rfl, _⟩ := ho.lst
  exact ⟨A, c, he, ho, hb⟩
theorem own_emptyH (w : World) (H : Nat) (hH : w.heap.size = H) : Own (w.alloc (.cells #[] 44)) H (.slice (some ⟨H, 0, none⟩) 0 0) [] := by
  subst hH; exact own_empty w

theorem sBT_inv (A : Option Addr) (n c : Nat) (l : List Blk) (p z : Int) (w : World) (h : Lst w w.heap.size A n l) (hv : ¬ VU l p) (hnm : n ≤ 1125899906842624) :
    Calls Try.prog 31 #[.slice A n c, .int .i64 p, .int .i64 z] w (PostT [] (-1) false w) := by
  have HC := Lib.hid (sVU_any A n c l p false w h hnm (by simp [hv]))
  clear hv
  go_enter Try.func31, Try.ntmps31
  go_wp2_with fail
  refine HC.out.mono ?_
  rintro e w1 ⟨rfl, hb⟩
  go_wp2
  exact bodyPost_ret (v := .tuple #[.slice (some ⟨w1.heap.size, 0, none⟩) 0 0, .int .i64 (-1), .bool false]) (by simp [results, Try.results31, go_sem]) rfl ⟨_, _, rfl, (own_empty w1).mono hb.size, hb.alloc hb.size _⟩

set_option maxHeartbeats 2000000 in
theorem sBT_neg (A : Option Addr) (n c : Nat) (l : List Blk) (p z : Int) (w : World) (h : Lst w w.heap.size A n l) (hv : VU l p) (hz : ¬ (1 ≤ z ∧ z ≤ 256)) :
    Calls Try.prog 31 #[.slice A n c, .int .i64 p, .int .i64 z] w (PostT l (-1) false w) := by
  have hn : n ≤ 256 := by have := (VU_len hv); have := h.len; omega
  have HC := Lib.hid (sVU_any A n c l p true w h (by omega) (by simp [hv]))
  have HL := Lib.hid h.len
  have hn0 : (0 : Int) < n := by have := VU_pos hv; have := h.len; omega
  go_enter Try.func31, Try.ntmps31
  go_wp2_with fail
  refine HC.out.mono ?_
  rintro e w1 ⟨rfl, hb⟩
  have H1 := Lib.hid (h.below (hb.alloc hb.size (.cells #[] 44)) (Nat.le_refl _))
  have hs := hb.size
  clear h hv
  go_wp2_with fail
  refine (sPower_any z (-1) w1 (.inl ⟨hz, rfl⟩)).mono ?_
  rintro e w' ⟨rfl, rfl⟩
  clear hz
  go_wp2
  go_loopw [10, 11] (fun v i wr => v = .int .i64 (-1) ∧ i = .int .i64 0 ∧ wr = w1) (fun _ _ _ => 0)
  case atStart => exact ⟨rfl, rfl, rfl⟩
  case round =>
    obtain ⟨rfl, rfl, rfl⟩ := hrel
    go_wp2_with (at_builtin; refine append_blk (by rfl) _ _ (by rfl) wr.heap.size w.heap.size [] l _ A n c (by rfl) (own_empty wr) (by rfl) H1.out (by simp; omega) (by simp) n (by simp) ?_; intro A2 c2 w2 o2 b2 g2 t2)
    exact bodyPost_ret (v := .tuple #[.slice A2 n c2, .int .i64 (-1), .bool false]) (by simp [results, Try.results31, go_sem]) rfl (postT_of ⟨_, rfl, o2.mono hs, (hb.alloc hb.size _).trans (b2.mono hs)⟩)

set_option maxRecDepth 100000 in
set_option maxHeartbeats 4000000 in
theorem sBT_any (b0 off n c W : Nat) (l : List Blk) (p z : Int) (R : List Blk) (s : Int) (b : Bool) (w : World) (h : Lst w w.heap.size (some ⟨b0, off, none⟩) n l) (hnc : n ≤ c) (hv : VU l p) (hP : PFor z W) (hR : TakeR l W R s b) :
    Calls Try.prog 31 #[.slice (some ⟨b0, off, none⟩) n c, .int .i64 p, .int .i64 z] w (PostT R s b w) := by
  have hn : n ≤ 256 := by have := (VU_len hv); have := h.len; omega
  have HC := Lib.hid (sVU_any _ n c l p true w h (by omega) (by simp [hv]))
  have HL := Lib.hid h.len
  have HRR := Lib.hid hR
  have HV := Lib.hid hv
  have HP := Lib.hid hP
  have hW8 : W ≤ 8 := by rcases hP with h | h <;> omega
  clear hR hP hv
  go_enter Try.func31, Try.ntmps31
  go_wp2_with fail
  refine HC.out.mono ?_
  rintro e w1 ⟨rfl, hb⟩
  clear HC
  go_wp2_with fail
  refine (sPower_any z W w1 HP.out).mono ?_
  rintro e w' ⟨rfl, rfl⟩
  have hW0 : (0 : Int) ≤ (W : Int) := by omega
  go_wp2
  go_loopw [10, 11] (fun v i wr => ∃ (k : Nat) (bst : Int), k ≤ n ∧ i = .int .i64 k ∧ v = .int .i64 bst ∧ Scan l W k bst ∧ Below w.heap.size w wr) (fun _ i _ => n - (intOf i).toNat)
  case atStart => exact ⟨0, -1, Nat.zero_le _, rfl, rfl, Scan_zero _ _, hb⟩
  case round =>
    obtain ⟨k, bst, hk, rfl, rfl, hsc, hbr⟩ := hrel
    have hsz := hbr.size
    by_cases hlt : k < n
    · have hL := h.below hbr (Nat.le_refl _)
      obtain ⟨b', off', e, hbb, c0, c1, c2⟩ := hL.cells k hlt
      simp only [Option.some.injEq, Addr.mk.injEq, and_true] at e
      obtain ⟨rfl, rfl⟩ := e
      have hbw : b0 < wr.heap.size := by omega
      have i1 : (0 : Int) ≤ (k : Int) := by omega
      have i2 : (k : Int) < (n : Int) := by omega
      by_cases hu : (bk l k).u = true
      · have HS := Lib.hid (Scan_skip hsc (.inl hu))
        rw [hu] at c2
        clear hsc hu hL
        go_wp2
        go_quiet (fail)
        go_wp2
        go_roundw
        case rel => exact ⟨k + 1, _, by omega, by go_num, rfl, HS.out, ⟨hbr.os, hbr.tape, hbr.output, hbr.size, hbr.block⟩⟩
        case measure => simp [intOf]; omega
      · have hu : (bk l k).u = false := by simpa using hu
        by_cases hz : (bk l k).z < W
        · have HS := Lib.hid (Scan_skip hsc (.inr hz))
          have hz2 : decide ((W : Int) ≤ (bk l k).z) = false := by rw [decide_eq_false_iff_not]; omega
          rw [hu] at c2
          clear hsc hu hL hz
          go_wp2
          go_quiet (fail)
          go_wp2
          go_roundw
          case rel => exact ⟨k + 1, _, by omega, by go_num, rfl, HS.out, ⟨hbr.os, hbr.tape, hbr.output, hbr.size, hbr.block⟩⟩
          case measure => simp [intOf]; omega
        · have hz2 : (W : Int) ≤ (bk l k).z := by omega
          rcases Scan_pos hsc with ⟨rfl, hs⟩ | ⟨i, rfl, hik, hs⟩
          · have HS := Lib.hid (Scan_new hs hu hz2)
            rw [hu] at c2
            clear hsc hu hL hz hs
            go_wp2
            go_quiet (fail)
            go_wp2
            go_roundw
            case rel => exact ⟨k + 1, _, by omega, by go_num, rfl, HS.out, ⟨hbr.os, hbr.tape, hbr.output, hbr.size, hbr.block⟩⟩
            case measure => simp [intOf]; omega
          · obtain ⟨b'', off'', e, _, _, d1, _⟩ := hL.cells i (by omega)
            simp only [Option.some.injEq, Addr.mk.injEq, and_true] at e
            obtain ⟨rfl, rfl⟩ := e
            have i3 : (0 : Int) ≤ (i : Int) := by omega
            have i4 : (i : Int) < (n : Int) := by omega
            by_cases hl : (bk l k).z < (bk l i).z
            · have HS := Lib.hid (Scan_less hs hu hz2 hl)
              rw [hu] at c2
              clear hsc hu hL hz hs
              go_wp2
              go_quiet (fail)
              go_wp2
              go_roundw
              case rel => exact ⟨k + 1, _, by omega, by go_num, rfl, HS.out, ⟨hbr.os, hbr.tape, hbr.output, hbr.size, hbr.block⟩⟩
              case measure => simp [intOf]; omega
            · have HS := Lib.hid (Scan_keep hs (show (bk l i).z ≤ (bk l k).z by omega))
              have hl2 : decide ((bk l k).z < (bk l i).z) = false := by rw [decide_eq_false_iff_not]; exact hl
              clear hl
              rw [hu] at c2
              clear hsc hu hL hz hs
              go_wp2
              go_quiet (fail)
              go_wp2
              go_roundw
              case rel => exact ⟨k + 1, _, by omega, by go_num, rfl, HS.out, ⟨hbr.os, hbr.tape, hbr.output, hbr.size, hbr.block⟩⟩
              case measure => simp [intOf]; omega
    · have hkn : k = n := by omega
      subst hkn
      have hsc2 : Scan l W l.length bst := by rw [← HL.out]; exact hsc
      rcases Scan_pos hsc2 with ⟨rfl, hs⟩ | ⟨i, rfl, hil, hs⟩
      · obtain ⟨e1, e2, e3⟩ := TakeR_no HRR.out (.inr (Scan_none hs))
        subst e1 e2 e3
        have H1 := Lib.hid (h.below (hbr.alloc hsz (.cells #[] 44)) (Nat.le_refl _))
        clear hs hsc2 hsc
        go_wp2_with (at_builtin; refine append_blk (by rfl) _ _ (by rfl) wr.heap.size w.heap.size [] R _ (some ⟨b0, off, none⟩) k c (by rfl) (own_empty wr) (by rfl) H1.out (by simp; omega) (by simp) k (by simp) ?_; intro A2 c2 w2 o2 b2 g2 t2)
        all_goals exact bodyPost_ret (v := .tuple #[.slice A2 k c2, .int .i64 (-1), .bool false]) (by simp [results, Try.results31, go_sem]) rfl (postT_of ⟨_, rfl, o2.mono hsz, (hbr.alloc hsz _).trans (b2.mono hsz)⟩)
      · have hp := Scan_pick hs
        obtain ⟨e1, e2, e3⟩ := TakeR_yes HRR.out hW0 hp
        subst e1 e2 e3
        have hbl := VU_blk HV.out hp.lt
        have hpp := VU_len HV.out
        have hin : i < k := by have := HL.out; omega
        have hL := h.below hbr (Nat.le_refl _)
        obtain ⟨b', off', e, hbb, c0, c1, c2⟩ := hL.cells i hin
        simp only [Option.some.injEq, Addr.mk.injEq, and_true] at e
        obtain ⟨rfl, rfl⟩ := e
        have hbw : b0 < wr.heap.size := by omega
        rw [hp.free] at c2
        have HB := Lib.hid hp.big
        obtain ⟨S, hS⟩ : ∃ S, (bk l i).s = S := ⟨_, rfl⟩
        obtain ⟨Z, hZ⟩ := Int.eq_ofNat_of_zero_le hbl.2.2.1
        rw [hS] at c0
        rw [hZ] at c1
        have hbd : 0 ≤ S ∧ S ≤ 256 ∧ W ≤ Z ∧ Z ≤ 8 := by have := hp.big; have := pw_pos (bk l i).z; omega
        obtain ⟨s0, s1, hWZ, hZ8⟩ := hbd
        have HS := Lib.hid hS
        have HZ0 := Lib.hid hZ
        have HI : RowKit.Hid (i < l.length) := Lib.hid hp.lt
        have i3 : (0 : Int) ≤ (i : Int) := by omega
        have i4 : (i : Int) < (k : Int) := by omega
        have i5 : i ≤ c := by omega
        have HT := Lib.hid (fun (w' : World) (hw' : Below w.heap.size w w') => lst_take (h.below hw' (Nat.le_refl _)) (Nat.le_of_lt hin))
        have HD := Lib.hid (fun (w' : World) (hw' : Below w.heap.size w w') (hk1 : i + 1 ≤ k) => lst_drop (h.below hw' (Nat.le_refl _)) hk1)
        have HTL : RowKit.Hid ((l.take i).length = i) := Lib.hid (by have := hp.lt; simp; omega)
        clear hs hsc2 hsc hp hbl hpp hL hS hZ hlt
        go_wp2_with (first
          | (at_builtin; refine append_blk (by rfl) _ _ (by rfl) (wr.heap.size + 1) w.heap.size [] (l.take i) _ (some ⟨b0, off, none⟩) i _ (by rfl) (own_emptyH (wr.alloc (.cells #[.int .i64 S, .int .i64 Z, .bool false] 44)) (wr.heap.size + 1) (by simp)) (by rfl) (HT.out _ ((hbr.alloc hsz _).alloc (by simp; omega) _)) (by simp; omega) (by simp) i (by simp) ?_; intro A3 c3 w3 o3 b3 g3 t3; have K3 := ((Bk.new wr #[.int .i64 S, .int .i64 Z, .bool false] 44).alloc (.cells #[] 44)).below b3 (by omega); have B3 := ((hbr.alloc hsz (.cells #[.int .i64 S, .int .i64 Z, .bool false] 44)).alloc (by simp; omega) (.cells #[] 44)).trans (b3.mono (by omega)); have d0 := K3.cell 0; have d1 := K3.cell 1; have z3 : wr.heap.size + 1 ≤ w3.heap.size := Nat.le_trans (by simp) b3.size)
          | (at_builtin; refine append_blk (by rfl) _ _ (by rfl) (wr.heap.size + 1) _ ([] ++ l.take i) [⟨S, W, true⟩] _ (some ⟨w3.heap.size, 0, none⟩) 1 1 (by rfl) (o3.below ((Below.refl _ _).alloc (Nat.le_refl _) _)) (by rfl) (lst_one (Bk.new w3 #[.int .i64 S, .int .i64 W, .bool true] 44)) (by rw [List.nil_append, HTL.out]; omega) (by simp; omega) (i + 1) (by rw [List.nil_append, HTL.out]) ?_; intro A4 c4 w4 o4 b4 g4 t4; have K4 := (K3.alloc (.cells #[.int .i64 S, .int .i64 W, .bool true] 44)).below b4 (by omega); have B4 := (B3.alloc B3.size (.cells #[.int .i64 S, .int .i64 W, .bool true] 44)).trans (b4.mono (by omega)); have e0 := K4.cell 0; have e1 := K4.cell 1; have z4 : w3.heap.size ≤ w4.heap.size := Nat.le_trans (by simp) b4.size))
        have O4 : Own w4 (wr.heap.size + 1) (.slice A4 (i + 1) c4) (midU l i W W) := by rw [midU_zero, HS.out]; exact o4
        clear o4 t4 g4 b4 t3 g3 b3 o3 K3 B3
        obtain ⟨wo, rfl⟩ : ∃ x : World, x = wr := ⟨_, rfl⟩
        go_wp2
        go_loopw [13, 14] (fun v iv wr => ∃ (q : Nat) (A : Option Addr) (cc : Nat), W ≤ q ∧ q ≤ Z ∧ iv = .int .i64 q ∧ v = .slice A (i + 1 + (q - W)) cc ∧ Own wr (wo.heap.size + 1) (.slice A (i + 1 + (q - W)) cc) (midU l i W q) ∧ Bk wr wo.heap.size #[.int .i64 S, .int .i64 Z, .bool false] 44 ∧ Below w.heap.size w wr ∧ wo.heap.size + 1 ≤ wr.heap.size) (fun _ iv _ => Z - (intOf iv).toNat)
        case atStart => exact ⟨W, A4, c4, Nat.le_refl _, hWZ, rfl, by rw [show i + 1 + (W - W) = i + 1 by omega], by rw [show i + 1 + (W - W) = i + 1 by omega]; exact O4, K4, B4, by omega⟩
        case round =>
          obtain ⟨q, A, cc, hq1, hq2, rfl, rfl, hO, hK, hB, hs⟩ := hrel
          obtain ⟨M, hM⟩ : ∃ M, i + 1 + (q - W) = M := ⟨_, rfl⟩
          rw [hM] at hO ⊢
          have HO := Lib.hid hO
          have HLen : RowKit.Hid ((midU l i W q).length = M) := Lib.hid (by rw [midU_len (Nat.le_of_lt HI.out), ← hM]; omega)
          have d0 := hK.cell 0
          have d1 := hK.cell 1
          by_cases hlt : q < Z
          · obtain ⟨N, hN⟩ : ∃ N, pw (q : Int) = N := ⟨_, rfl⟩
            have w1 := wrap_one (k := q) (by omega)
            have w2 : IntKind.i64.wrap (2 ^ min q 64) = pw (q : Int) := by rw [show min q 64 = q by omega]; exact w1
            have hNb := pw_bd (z := (q : Int)) (by omega) (by omega)
            have hNp := pw_pos (q : Int)
            rw [hN] at w1 w2 hNb hNp
            have w3 : IntKind.i64.wrap (S + N) = S + N := IntWalk.i64_in _ (by omega)
            have HM := Lib.hid (show midU l i W ((q + 1 : Nat) : Int) = midU l i W q ++ [⟨S + N, q, false⟩] by rw [show ((q + 1 : Nat) : Int) = (q : Int) + 1 by omega, midU_step l i (by omega), HS.out, hN])
            have i1 : (0 : Int) ≤ (q : Int) := by omega
            have i2 : (q : Int) < (Z : Int) := by omega
            clear hN hO hNb hNp
            go_wp2
            have bX : Below wr.heap.size wr (wr.alloc (.cells #[.int .i64 (S + N), .int .i64 q, .bool false] 44)).drew := ((Below.refl wr.heap.size wr).alloc (Nat.le_refl _) _).drew
            have OX := Lib.hid (HO.out.below bX)
            have LX := Lib.hid (lst_one (show Bk (wr.alloc (.cells #[.int .i64 (S + N), .int .i64 q, .bool false] 44)).drew wr.heap.size #[.int .i64 (S + N), .int .i64 q, .bool false] 44 from Bk.new wr _ _))
            have KX := Lib.hid (show Bk (wr.alloc (.cells #[.int .i64 (S + N), .int .i64 q, .bool false] 44)).drew wo.heap.size #[.int .i64 S, .int .i64 Z, .bool false] 44 from hK.below bX hK.lt)
            have d0' : wr.drew.cell? ⟨wo.heap.size, 0, none⟩ = some (.int .i64 S) := d0
            clear hK bX
            go_region_law ((refine append_blk_step (by rfl) _ _ (by rfl) (wo.heap.size + 1) _ (midU l i W q) [⟨S + N, q, false⟩] (.slice A M cc) (some ⟨wr.heap.size, 0, none⟩) 1 1 (by rfl) OX.out (by rfl) LX.out (by rw [HLen.out]; omega) (by simp; omega) (M + 1) (by rw [HLen.out]) ?_; intro A7 c7 w7 o7 b7 g7 t7))
            all_goals
              have O7 := Lib.hid (show Own w7 (wo.heap.size + 1) (.slice A7 (i + 1 + ((q + 1) - W)) c7) (midU l i W ((q + 1 : Nat) : Int)) by rw [HM.out, show i + 1 + ((q + 1) - W) = M + 1 by omega]; exact o7)
              have K7 := Lib.hid (KX.out.below b7 (by omega))
              have B7 := (((Below.refl w.heap.size w).trans hB).alloc hB.size (.cells #[.int .i64 (S + N), .int .i64 q, .bool false] 44)).drew.trans (b7.mono (by omega))
              have s7 : wo.heap.size + 1 ≤ w7.heap.size := Nat.le_trans (by simp; omega) b7.size
              clear o7 t7 g7 b7 hB
              go_wp2
              go_roundw
              case rel => exact ⟨q + 1, A7, c7, by omega, by omega, by go_num, by rw [show i + 1 + ((q + 1) - W) = M + 1 by omega], O7.out, K7.out, B7, s7⟩
              case measure => simp [intOf]; omega
          · obtain rfl : q = Z := by omega
            have HE := Lib.hid (show midU l i W (q : Int) ++ l.drop (i + 1) = takeU l i W by rw [← HZ0.out, midU_end])
            obtain ⟨A9, hA9⟩ : ∃ A9, (if c = i + 1 then some (⟨b0, off, none⟩ : Addr) else some ⟨b0, off + (i + 1) * 3, none⟩) = A9 := ⟨_, rfl⟩
            have HD9 := Lib.hid (fun (w' : World) (hw' : Below w.heap.size w w') => (by
              rw [← hA9]
              split
              · exact lst_end (by have := HL.out; omega) (by omega)
              · exact HD.out w' hw' (by omega) : Lst w' w.heap.size A9 (k - (i + 1)) (l.drop (i + 1))))
            have i1 : (0 : Int) ≤ (q : Int) := by omega
            have hBX := hB.drew
            have sX : wo.heap.size + 1 ≤ wr.drew.heap.size := hs
            have OX := Lib.hid (show Own wr.drew (wo.heap.size + 1) (.slice A M cc) (midU l i W q) from HO.out.below (Below.refl _ _).drew)
            have d0' : wr.drew.cell? ⟨wo.heap.size, 0, none⟩ = some (.int .i64 S) := d0
            have dlt : wo.heap.size < wr.drew.heap.size := hK.lt
            have a1 : IntKind.i64.wrap ((i : Int) + 1) = (i : Int) + 1 := IntWalk.i64_in _ (by omega)
            have a2 : ((i : Int) + 1).toNat = i + 1 := by omega
            have a3 : (0 : Int) ≤ (i : Int) + 1 := by omega
            have a4 : (i : Int) + 1 ≤ (k : Int) := by omega
            clear hO
            go_wp2
            go_region_law ((refine append_blk_step (by rfl) _ _ (by rfl) (wo.heap.size + 1) w.heap.size (midU l i W q) (l.drop (i + 1)) (.slice A M cc) A9 (k - (i + 1)) _ (by rfl) OX.out (by rfl) (HD9.out _ hBX) (by rw [HLen.out]; omega) sX (k + (q - W)) (by rw [HLen.out]; omega) ?_; intro A7 c7 w7 o7 b7 g7 t7; have d7 := (b7.cell (p := ⟨wo.heap.size, 0, none⟩) (by show wo.heap.size < wo.heap.size + 1; omega)).trans d0'))
            all_goals
              have O7 := Lib.hid (show Own w7 w.heap.size (.slice A7 (k + (q - W)) c7) (takeU l i W) by rw [← HE.out]; exact o7.mono (by omega))
              have B7 := hBX.trans (b7.mono (by omega))
              clear o7 t7 g7 b7 hB hBX
              go_wp2
              refine bodyPost_ret (v := .tuple #[.slice A7 (k + (q - W)) c7, .int .i64 S, .bool true]) (by simp [results, Try.results31, go_sem]) rfl ?_
              rw [HS.out]
              exact postT_of ⟨_, rfl, O7.out, B7⟩

end Go.Proofs.Ytlcgfncgjljgpaa.Wu
