/- l20Bits: a bitmap is drawn. Conditions: none. -/
import Derived.Test.YtkgaajploobjdaaDoorDrx
import Derived.Test.YtkgaajploobjdaaDoorBm
namespace Go.Proofs.YtkgaajploobjdaaDoor.Wb
open Go.RowKit Go.Proofs.YtkgaajploobjdaaDoor.Pl Go.Proofs.YtkgaajploobjdaaDoor.Wk

theorem own_gr {g B : Nat} {w W : World} {v : Value} {l : List Bool} (h : Own w B v l) (hG : Gr g w W) (hg : g < B) : Own W B v l :=
  own_past h hG.grown (fun k hk e => by have := own_at h k hk; injection e with e; omega)
theorem own_only {w w' : World} {B g : Nat} {v : Value} {l : List Bool} (h : Own w B v l) (ho : Only g w w') (hg : g < B) : Own w' B v l :=
  own_past h ho.grown (fun k hk e => by have := own_at h k hk; injection e with e; omega)
/-- The first words of the call's own bools. -/
theorem own_take {w : World} {B n c k : Nat} {A : Option Addr} {l : List Bool} (h : Own w B (.slice A n c) l) (hk : k ≤ n) : Own w B (.slice A k c) (l.take k) := by
  obtain ⟨hn, _⟩ := own_form h
  have hlen : (l.take k).length = k := by simp; omega
  refine ⟨by rw [cellsB_length, hlen]; omega, ?_⟩
  rw [hlen]
  rcases h.2 with ⟨hv, h0⟩ | ⟨g, cap, cur, hv, hB, hg, hnc, hcm, hs, ht⟩
  · injection hv with h1 h2 h3
    subst h1 h2 h3
    obtain rfl : k = 0 := by omega
    exact .inl ⟨rfl, rfl⟩
  · injection hv with h1 h2 h3
    subst h1 h3
    refine .inr ⟨g, c, cur, rfl, hB, hg, by omega, hcm, hs, ?_⟩
    have e : (cur.toList.take (l.length * 1)).take (k * 1) = cur.toList.take (k * 1) := by rw [List.take_take]; congr 1; omega
    rw [← e, ht]
    simp [cellsB]
theorem lst_one {w : World} {g : Nat} {u : Bool} {T : TypeId} (h : Bk w g #[.bool u] T) : Lst w w.heap.size (some ⟨g, 0, none⟩) 1 [u] := by
  refine ⟨rfl, fun k hk => ?_⟩
  obtain rfl : k = 0 := by omega
  exact ⟨g, 0, rfl, h.lt, h.cell 0⟩

theorem made65 : (madeCells (Value.bool false).cells 65).toList = cellsB (List.replicate 65 false) := by kernel_rfl

/-- A bitmap that was drawn. -/
def BitsP (g q : Nat) (w : World) (e : Ending) (w' : World) : Prop :=
  ∃ (A : Option Addr) (n c : Nat) (l : List Bool), e = .returned (.slice A n c) ∧ Own w' w.heap.size (.slice A n c) l ∧ n ≤ 65 ∧ Rg w' g (q + 100) ∧ Gr g w w'

set_option maxRecDepth 100000 in
set_option maxHeartbeats 4000000 in
theorem l20Bits_any (g q : Nat) (m : Int) (w : World) (h : Rg w g q) (hq : q ≤ 900000) (hm : 1 ≤ m) (hm' : m ≤ 1000) :
    Calls Tryd.prog 18 #[.pointer (some ⟨g, 0, none⟩), .int .i64 m] w (BitsP g q w) := by
  have hg := h.lt
  obtain ⟨i0, hi, hz0, hz1, hz2⟩ := info_parts info_B
  go_enter Tryd.func18, Tryd.ntmps18
  go_wp2_with fail
  have h1 := h.alloc (.cells #[] 4)
  have o1 := own_empty w
  have G1 := (Gr.refl g w).alloc (.cells #[] 4)
  refine (pick_g g q _ _ h1 (by omega)).mono ?_
  rintro e w2 ⟨x2, rfl, a1, a2, r2, o2⟩
  have a3 : x2 ≤ 29 := by omega
  obtain ⟨k2, rfl⟩ := Int.eq_ofNat_of_zero_le a1
  have O2 := Lib.hid (own_only o1 o2 hg)
  have G2 := G1.only o2
  clear h1 o1 G1 o2 a2 h
  go_wp2
  go_loopw [5, 6] (fun v i wr => ∃ (k N cp : Nat) (A : Option Addr) (l : List Bool), k ≤ k2 ∧ i = .int .i64 k ∧ v = .slice A N cp ∧ N + 4 * k ≤ 4 * k2 ∧ Own wr w.heap.size (.slice A N cp) l ∧ Rg wr g (q + 1 + 2 * (k2 - k)) ∧ Gr g w wr) (fun _ i _ => (intOf i).toNat)
  case atStart => exact ⟨k2, 0, 0, _, [], Nat.le_refl _, rfl, rfl, by omega, O2.out, r2.more (by omega), G2⟩
  case round =>
    obtain ⟨k, N, cp, A, l, hk, rfl, rfl, hN, hown, hr, hG⟩ := hrel
    have OW := Lib.hid hown
    clear hown O2 G2 r2
    by_cases hk0 : 0 < k
    · go_wp2_with fail
      refine (pick_g g _ _ _ hr (by omega)).mono ?_
      rintro e w3 ⟨x3, rfl, b1, b2, r3, o3⟩
      have OW3 := Lib.hid (own_only OW.out o3 hg)
      have G3 := hG.only o3
      obtain ⟨used, hu⟩ : ∃ used : Bool, (x3 == 0) = used := ⟨_, rfl⟩
      clear hr hG OW o3
      go_wp2_with fail
      refine (pick_g g _ _ _ r3 (by omega)).mono ?_
      rintro e w4 ⟨x4, rfl, b3, b4, r4, o4⟩
      have b5 : x4 ≤ 3 := by omega
      obtain ⟨k4, rfl⟩ := Int.eq_ofNat_of_zero_le b3
      have OW4 := Lib.hid (own_only OW3.out o4 hg)
      have G4 := G3.only o4
      clear r3 G3 OW3 o4 b4
      clear hu b1 b2
      go_wp2
      go_loopw [5, 8] (fun v i wr => ∃ (j N2 cp : Nat) (A : Option Addr) (l : List Bool), j ≤ k4 + 1 ∧ i = .int .i64 ((j : Int) - 1) ∧ v = .slice A N2 cp ∧ N2 + j ≤ N + k4 + 1 ∧ Own wr w.heap.size (.slice A N2 cp) l ∧ Rg wr g (q + 1 + 2 * (k2 - k) + 1 + 1) ∧ Gr g w wr) (fun _ i _ => (intOf i + 1).toNat)
      case atStart => exact ⟨k4 + 1, N, cp, A, l, Nat.le_refl _, by congr 1; omega, rfl, by omega, OW4.out, r4, G4⟩
      case round =>
        obtain ⟨j, N2, cp2, A2, l2, hj, rfl, rfl, hN2, hown, hr, hG⟩ := hrel
        have OW := Lib.hid hown
        have HR := Lib.hid (own_form hown).1
        clear hown OW4 r4 G4
        have z1 := hG.size
        by_cases hj0 : 0 < j
        · have hj1 : (0 : Int) ≤ (j : Int) - 1 := by omega
          go_wp2_with (at_builtin; refine append_b (by rfl) _ _ (by rfl) w.heap.size _ l2 [used] _ (some ⟨wr.heap.size, 0, none⟩) 1 1 (by rfl) (OW.out.below ((Below.refl _ _).alloc (Nat.le_refl _) _)) (by rfl) (lst_one (Bk.new wr #[.bool used] 4)) (by have := HR.out; omega) (by simp; omega) (N2 + 1) (by have := HR.out; omega) ?_; intro A7 c7 w7 o7 b7 g7 t7)
          have r7 := (hr.alloc (.cells #[.bool used] 4)).below_ b7 hg
          have G7 := (hG.alloc (.cells #[.bool used] 4)).below b7 (Nat.le_refl _)
          clear hr hG
          go_roundw
          case rel => exact ⟨j - 1, N2 + 1, c7, A7, _, by omega, congrArg (Value.int .i64) (by omega), rfl, by omega, o7, r7, G7⟩
          case measure => simp [intOf]; omega
        · obtain rfl : j = 0 := by omega
          go_wp2
          go_roundw
          case rel => exact ⟨k - 1, N2, cp2, A2, l2, by omega, congrArg (Value.int .i64) (by omega), rfl, by omega, OW.out, hr.more (by omega), hG⟩
          case measure => simp [intOf]; omega
    · obtain rfl : k = 0 := by omega
      have HR := Lib.hid (own_form OW.out).1
      have HC := own_cap OW.out
      have hcp : N ≤ cp := by have := HR.out; omega
      clear HC
      have hr' := hr.more (show q + 1 + 2 * (k2 - 0) ≤ q + 90 by omega)
      clear hr hk0 hk
      by_cases h64 : N ≤ 64
      · have hmin : (N : Int) ≤ 64 := by omega
        go_wp2_with fail
        refine (odd_g g _ _ _ hr' (by omega) hm hm').mono ?_
        rintro e w4 ⟨b, rfl, r4, o4⟩
        have OW4 := Lib.hid (own_only OW.out o4 hg)
        have G4 := hG.only o4
        have z4 := G4.size
        clear o4 hr' hG OW
        cases b
        · go_wp2
          go_ret
          exact ⟨_, _, _, _, rfl, OW4.out, by omega, r4.more (by omega), G4⟩
        · go_wp2_with (refine wpList_make_full _ rfl (.const (.int .i64 65)) (.const (.int .i64 65)) 22 rfl w4.heap.size 4 i0 _ 1 Tryd.underlying22 hi hz0 hz1 .i64 .i64 65 65 65 rfl rfl rfl rfl ?hb ?hm (Nat.le_refl _) ?_; rotate_right; intro w5 hown hg5)
          case hb => rw [hz2]; omega
          case hm => unfold maxLen; omega
          have b5 : Below w4.heap.size w4 w5 := ⟨hg5.os, hg5.tape, hg5.output, hg5.size, fun k hk => hg5.block k hk (by simp)⟩
          go_wp2
          go_ret
          exact ⟨_, _, _, List.replicate 65 false, rfl, (own_of hown (by simp) made65).mono z4, by omega, (r4.below b5).more (by omega), G4.below b5 z4⟩
      · have hmin : ¬ (N : Int) ≤ 64 := by omega
        have OT := Lib.hid (own_take OW.out (show 64 ≤ N by omega))
        go_wp2_with fail
        refine (odd_g g _ _ _ hr' (by omega) hm hm').mono ?_
        rintro e w4 ⟨b, rfl, r4, o4⟩
        have OW4 := Lib.hid (own_only OT.out o4 hg)
        have G4 := hG.only o4
        have z4 := G4.size
        clear o4 hr' hG OW
        cases b
        · go_wp2
          go_ret
          exact ⟨_, _, _, _, rfl, OW4.out, by omega, r4.more (by omega), G4⟩
        · go_wp2_with (refine wpList_make_full _ rfl (.const (.int .i64 65)) (.const (.int .i64 65)) 22 rfl w4.heap.size 4 i0 _ 1 Tryd.underlying22 hi hz0 hz1 .i64 .i64 65 65 65 rfl rfl rfl rfl ?hb ?hm (Nat.le_refl _) ?_; rotate_right; intro w5 hown hg5)
          case hb => rw [hz2]; omega
          case hm => unfold maxLen; omega
          have b5 : Below w4.heap.size w4 w5 := ⟨hg5.os, hg5.tape, hg5.output, hg5.size, fun k hk => hg5.block k hk (by simp)⟩
          go_wp2
          go_ret
          exact ⟨_, _, _, List.replicate 65 false, rfl, (own_of hown (by simp) made65).mono z4, by omega, (r4.below b5).more (by omega), G4.below b5 z4⟩

end Go.Proofs.YtkgaajploobjdaaDoor.Wb
