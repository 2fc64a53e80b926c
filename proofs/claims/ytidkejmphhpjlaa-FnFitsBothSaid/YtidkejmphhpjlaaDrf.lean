/- l20Blocks: at most 15 blocks are drawn. Conditions: none. -/
import Derived.Test.YtidkejmphhpjlaaDrg
import Derived.Test.YtidkejmphhpjlaaGvb
import Derived.Deep.RegionWith
import Derived.RegionTactic
namespace Go.Proofs.Ytidkejmphhpjlaa.Wk
open Go.RowKit Go.Proofs.Ytidkejmphhpjlaa.Pl

/-- TakeBlock of the reference keeps blocks valid. -/
theorem take_v (l : List Blk) (t k z : Int) (hv : V l t) : ∃ R b, V R t ∧ R.length ≤ l.length + 1 ∧ TakeC 35 l t k z R b := by
  by_cases ho : TakeOk l k z
  · obtain ⟨j, rfl, hj, hu, h1, h2⟩ := ho
    exact ⟨_, true, take_valid hv hj hu h1 h2, (take_len hj).2, (take_yes l t z j hv hj hu h1 h2).1⟩
  · exact ⟨l, false, hv, Nat.le_succ _, (take_no l t k z hv ho).1⟩

theorem Slot.of_only {w w' : World} {B g : Nat} {v : Value} {l : List Blk} (h : Own w B v l) (ho : Only g w w') (hg : g < B) : Own w' B v l :=
  own_past h ho.grown (fun k hk e => by have := own_at h k hk; injection e with e; omega)

/-- Blocks that were drawn. -/
def BlksP (g q : Nat) (w : World) (e : Ending) (w' : World) : Prop :=
  ∃ (A : Option Addr) (n c : Nat) (l : List Blk) (t : Int), e = .returned (.tuple #[.slice A n c, .int .i64 t]) ∧ Own w' w.heap.size (.slice A n c) l ∧ 1 ≤ n ∧ n ≤ 15 ∧ 1 ≤ t ∧ t ≤ 65 ∧ Rg w' g (q + 100) ∧ Gr g w w'

theorem nb_valid {t : Int} (h : 1 ≤ t ∧ t ≤ 256) : V (nb t) t := by
  unfold nb
  rw [if_pos h]
  exact ⟨h.1, h.2, rfl, h.1, .inl rfl, by show 0 + t = t; omega⟩

theorem cellsL_setS {R : List Blk} {i : Nat} (h : i < R.length) (x : Int) : cellsL (R.set i ⟨x, (bk R i).z, (bk R i).u⟩) = (cellsL R).set (i * 3) (.int .i64 x) := by
  induction R generalizing i with
  | nil => simp at h
  | cons b r ih =>
    cases i with
    | zero => simp [cellsL_cons, bk]
    | succ i =>
      have := ih (i := i) (by simpa using h)
      rw [List.set_cons_succ, cellsL_cons, cellsL_cons, show (i + 1) * 3 = i * 3 + 1 + 1 + 1 by omega]
      simp only [List.set_cons_succ]
      rw [← this]; rfl
theorem cellsL_setZ {R : List Blk} {i : Nat} (h : i < R.length) (x : Int) : cellsL (R.set i ⟨(bk R i).s, x, (bk R i).u⟩) = (cellsL R).set (i * 3 + 1) (.int .i64 x) := by
  induction R generalizing i with
  | nil => simp at h
  | cons b r ih =>
    cases i with
    | zero => simp [cellsL_cons, bk]
    | succ i =>
      have := ih (i := i) (by simpa using h)
      rw [List.set_cons_succ, cellsL_cons, cellsL_cons, show (i + 1) * 3 + 1 = i * 3 + 1 + 1 + 1 + 1 by omega]
      simp only [List.set_cons_succ]
      rw [← this]; rfl
theorem own_setS {w : World} {B g N cp : Nat} {R : List Blk} (h : Own w B (.slice (some ⟨g, 0, none⟩) N cp) R) {i : Nat} (hi : i < R.length) (x : Int) :
    Own (w.setCell ⟨g, i * 3, none⟩ (.int .i64 x)) B (.slice (some ⟨g, 0, none⟩) N cp) (R.set i ⟨x, (bk R i).z, (bk R i).u⟩) := by
  obtain ⟨hN, _⟩ := own_form h
  subst hN
  have h1 := (World.ownsRow.stored (show w.ownsRow B 39 3 (.slice (some ⟨g, 0, none⟩) R.length cp) R.length (cellsL R) from h) (i * 3) (.int .i64 x)).1
  rw [← cellsL_setS hi x] at h1
  exact own_of h1 (by simp) rfl
theorem own_setZ {w : World} {B g N cp : Nat} {R : List Blk} (h : Own w B (.slice (some ⟨g, 0, none⟩) N cp) R) {i : Nat} (hi : i < R.length) (x : Int) :
    Own (w.setCell ⟨g, i * 3 + 1, none⟩ (.int .i64 x)) B (.slice (some ⟨g, 0, none⟩) N cp) (R.set i ⟨(bk R i).s, x, (bk R i).u⟩) := by
  obtain ⟨hN, _⟩ := own_form h
  subst hN
  have h1 := (World.ownsRow.stored (show w.ownsRow B 39 3 (.slice (some ⟨g, 0, none⟩) R.length cp) R.length (cellsL R) from h) (i * 3 + 1) (.int .i64 x)).1
  rw [← cellsL_setZ hi x] at h1
  exact own_of h1 (by simp) rfl
theorem own_frozen {w : World} {B g N cp : Nat} {R : List Blk} (h : Own w B (.slice (some ⟨g, 0, none⟩) N cp) R) (j : Nat) : w.frozen? ⟨g, j, none⟩ = false := by
  obtain ⟨hN, _⟩ := own_form h
  subst hN
  exact World.ownsRow.frozenAt (show w.ownsRow B 39 3 (.slice (some ⟨g, 0, none⟩) R.length cp) R.length (cellsL R) from h) j

theorem only_after {w6 W w7 : World} {g gl o : Nat} {v : Value} (hb : Below w6.heap.size w6 W) (ho : Only g W w7) (hgl : gl < w6.heap.size) (hne : gl ≠ g) (hc : w6.cell? ⟨gl, o, none⟩ = some v) : w7.cell? ⟨gl, o, none⟩ = some v :=
  ((World.cell?_of_block (w := W) (a := ⟨gl, o, none⟩) (ho.grown.block gl (Nat.lt_of_lt_of_le hgl hb.size) (fun e => hne (by injection e)))).trans (hb.cell (p := ⟨gl, o, none⟩) hgl)).trans hc
theorem frozen_after {w6 W w7 : World} {g gl o : Nat} (hb : Below w6.heap.size w6 W) (ho : Only g W w7) (hgl : gl < w6.heap.size) (hne : gl ≠ g) (hc : w6.frozen? ⟨gl, o, none⟩ = false) : w7.frozen? ⟨gl, o, none⟩ = false :=
  ((World.frozen?_of_block (w := W) (a := ⟨gl, o, none⟩) (ho.grown.block gl (Nat.lt_of_lt_of_le hgl hb.size) (fun e => hne (by injection e)))).trans (hb.frozen (p := ⟨gl, o, none⟩) hgl)).trans hc

theorem pick_last {w w6 : World} {g q gl o N cp : Nat} {l : List Blk} {v : Value} (ho : Own w6 w.heap.size (.slice (some ⟨gl, 0, none⟩) N cp) l) (hr : Rg w6 g q) (hG : Gr g w w6) (hq : q ≤ 1000000) (hgl : gl < w6.heap.size) (hne : gl ≠ g) (hz : w.heap.size ≤ w6.heap.size) (hg : g < w.heap.size)
    (hc : w6.cell? ⟨gl, o, none⟩ = some v) (hf : w6.frozen? ⟨gl, o, none⟩ = false) (y0 : Int) (W : World) (hb : Below w6.heap.size w6 W) :
    Calls Try.prog 55 #[.pointer (some ⟨g, 0, none⟩), .int .i64 2] W fun e w7 => ∃ (k : Nat) (y : Int), (0 : Int) ≤ (k : Int) ∧ (k : Int) < 2 ∧ e = .returned (.int .i64 k) ∧ Rg w7 g (q + 1) ∧ Gr g w w7 ∧ w7.cell? ⟨gl, o, none⟩ = some v ∧
      w7.frozen? ⟨gl, o, none⟩ = false ∧ Own w7 w.heap.size (.slice (some ⟨gl, 0, none⟩) N cp) l ∧ gl < w7.heap.size ∧ (∀ T, Bk W w6.heap.size #[.int .i64 0, .int .i64 y0] T → w7.cell? ⟨w6.heap.size, k, none⟩ = some (.int .i64 y)) ∧ (w7.alloc (.cells #[.int .i64 0, .int .i64 y0] 3)).cell? ⟨w7.heap.size, k, none⟩ = some (.int .i64 y) := by
  refine (pick_g g q 2 W (hr.below hb) hq).mono ?_
  rintro e w7 ⟨x, rfl, h0, h1, r7, o7⟩
  have hx : x = 0 ∨ x = 1 := by omega
  have hgw : g < w6.heap.size := by omega
  rcases hx with rfl | rfl
  · exact ⟨0, 0, by omega, by omega, rfl, r7, (hG.below hb hz).only o7, only_after hb o7 hgl hne hc, frozen_after hb o7 hgl hne hf, Slot.of_only (ho.below hb) o7 hg, Nat.lt_of_lt_of_le hgl (Nat.le_trans hb.size o7.grown.size), fun T h => (h.only o7 (by omega)).cell 0, (Bk.new w7 _ _).cell 0⟩
  · exact ⟨1, y0, by omega, by omega, rfl, r7, (hG.below hb hz).only o7, only_after hb o7 hgl hne hc, frozen_after hb o7 hgl hne hf, Slot.of_only (ho.below hb) o7 hg, Nat.lt_of_lt_of_le hgl (Nat.le_trans hb.size o7.grown.size), fun T h => (h.only o7 (by omega)).cell 1, (Bk.new w7 _ _).cell 1⟩

set_option maxRecDepth 100000 in
set_option maxHeartbeats 8000000 in
theorem l20Blocks_any (g q : Nat) (m : Int) (w : World) (h : Rg w g q) (hq : q ≤ 900000) (hm : 1 ≤ m) (hm' : m ≤ 1000) :
    Calls Try.prog 54 #[.pointer (some ⟨g, 0, none⟩), .int .i64 m] w (BlksP g q w) := by
  have hg := h.lt
  go_enter Try.func54, Try.ntmps54
  go_wp2_with fail
  refine (pick_g g q _ _ h (by omega)).mono ?_
  rintro e w1 ⟨x1, rfl, a1, a2, r1, o1⟩
  have G1 := Gr.of_only o1
  have a3 : x1 ≤ 63 := by omega
  have z1 := G1.size
  clear a2 o1 h
  go_wp2_with fail
  refine (sNew_any (1 + x1) w1).mono ?_
  rintro e w2 ⟨v2, rfl, o2, b2⟩
  have hv2 := nb_valid (t := 1 + x1) (by omega)
  obtain ⟨A2, c2, rfl, _⟩ := o2.lst
  have r2 := r1.below b2
  have G2 := G1.below b2 z1
  have o2 := o2.mono z1
  clear r1 b2 G1
  have hl2 : RowKit.Hid ((nb (1 + x1)).length = 1) := Lib.hid (by unfold nb; rw [if_pos (by omega)]; rfl)
  generalize nb (1 + x1) = l2 at hv2 o2 hl2
  go_wp2_with fail
  refine (pick_g g _ _ _ r2 (by omega)).mono ?_
  rintro e w3 ⟨x3, rfl, a4, a5, r3, o3⟩
  have a6 : x3 ≤ 13 := by omega
  obtain ⟨k3, rfl⟩ := Int.eq_ofNat_of_zero_le a4
  have O3 := Lib.hid (Slot.of_only o2 o3 hg)
  have HV3 := Lib.hid hv2
  have G3 := G2.only o3
  clear r2 G2 a5 o3 o2 hv2
  go_wp2
  go_loopw [7, 8] (fun v i wr => ∃ (k N cp : Nat) (A : Option Addr) (l : List Blk), k ≤ k3 ∧ N + k ≤ 1 + k3 ∧ i = .int .i64 k ∧ v = .slice A N cp ∧ V l (1 + x1) ∧ Own wr w.heap.size (.slice A N cp) l ∧ Rg wr g (q + 2 + 3 * (k3 - k)) ∧ Gr g w wr) (fun _ i _ => (intOf i).toNat)
  case atStart => exact ⟨k3, l2.length, _, A2, l2, Nat.le_refl _, by have := hl2.out; omega, rfl, rfl, HV3.out, O3.out, r3.more (by omega), G3⟩
  case round =>
    obtain ⟨k, N, cp, A, l, hk, hNk, rfl, rfl, hv, hown, hr, hG⟩ := hrel
    have hpos := V_pos hv
    have hlen := V_len hv
    have HV := Lib.hid hv
    have OW := Lib.hid hown
    have HR := Lib.hid (own_form hown).1
    obtain ⟨gl, rfl, gl0, gl1⟩ := (own_form hown).2 (by have := HR.out; omega)
    have hN1 : 1 ≤ N := by have := HR.out; omega
    have hN2 : N ≤ 64 := by have := HR.out; omega
    clear hown hv O3 G3 r3
    by_cases hk0 : 0 < k
    · go_wp2_with fail
      refine (pick_g g _ _ _ hr (by omega)).mono ?_
      rintro e w4 ⟨x4, rfl, a7, a8, r4, o4⟩
      obtain ⟨i4, rfl⟩ := Int.eq_ofNat_of_zero_le a7
      have hi4 : i4 < N := by omega
      have OW4 := Lib.hid (Slot.of_only OW.out o4 hg)
      have G4 := hG.only o4
      obtain ⟨b', off', e', hb4, d0, d1, d2⟩ := (own_lst OW4.out).cells i4 (by have := HR.out; omega)
      simp only [Option.some.injEq, Addr.mk.injEq, and_true] at e'
      obtain ⟨rfl, rfl⟩ := e'
      simp only [Nat.zero_add] at d0 d1 d2
      have i1 : (0 : Int) ≤ (i4 : Int) := by omega
      have i2 : (i4 : Int) < (N : Int) := by omega
      have z4 := G4.size
      clear o4 hr hG a8 OW
      by_cases hu : (bk l i4).u = true
      · have d2' := d2
        rw [hu] at d2'
        clear d2
        go_wp2_with fail
        refine (pick_g g _ _ _ r4 (by omega)).mono ?_
        rintro e w5 ⟨x5, rfl, p1, p2, r5, o5⟩
        have OW5 := Lib.hid (Slot.of_only OW4.out o5 hg)
        have G5 := G4.only o5
        have z5 := G5.size
        have hx5 : x5 = 0 ∨ x5 = 1 := by omega
        clear p1 p2 o5 d0 d1 d2' r4 G4 OW4
        rcases hx5 with rfl | rfl
        · have CTn := (give_yes l (1 + x1) i4 HV.out (by have := HR.out; omega) hu).1 (some ⟨gl, 0, none⟩) cp w5 (own_lst OW5.out) (own_cap OW5.out)
          rw [← HR.out] at CTn
          have CH := Lib.hid CTn
          have HVR := Lib.hid (give_valid HV.out (n := i4) (by have := HR.out; omega))
          have HLR := Lib.hid (give_len HV.out i4).1
          clear CTn hu
          generalize give l i4 = R at CH HVR HLR
          go_wp2_with fail
          refine CH.out.mono ?_
          rintro e w6 ⟨A6, c6, rfl, o6, b6⟩
          have r6 := r5.below b6
          have G6 := G5.below b6 z5
          have OW6 := Lib.hid (o6.mono z5)
          clear o6 b6 r5 G5
          go_wp2
          go_roundw
          case rel => exact ⟨k - 1, R.length, c6, A6, R, by omega, by have h1 := HLR.out; have h2 := HR.out; omega, congrArg (Value.int .i64) (by omega), rfl, HVR.out, OW6.out, r6.more (by omega), G6⟩
          case measure => simp [intOf]; omega
        · clear hu
          go_wp2_with fail
          refine (pick_g g _ _ _ r5 (by omega)).mono ?_
          rintro e w6 ⟨x6, rfl, q1, q2, r6, o6⟩
          have q3 : x6 ≤ 7 := by omega
          have OW6 := Lib.hid (Slot.of_only OW5.out o6 hg)
          have G6 := G5.only o6
          obtain ⟨R, b, hvR, hLR, CT⟩ := take_v l (1 + x1) i4 (1 + x6) HV.out
          have CTn := CT (some ⟨gl, 0, none⟩) cp w6 (own_lst OW6.out) (own_cap OW6.out)
          rw [← HR.out] at CTn
          have CH := Lib.hid CTn
          have HVR := Lib.hid hvR
          have HLR := Lib.hid hLR
          have z6 := G6.size
          clear CT CTn hvR hLR o6 q2
          go_wp2_with fail
          refine CH.out.mono ?_
          rintro e w7 ⟨A7, c7, rfl, o7, b7⟩
          have r7 := r6.below b7
          have G7 := G6.below b7 z6
          have OW7 := Lib.hid (o7.mono z6)
          clear o7 b7 r6 G6
          go_wp2
          go_roundw
          case rel => exact ⟨k - 1, R.length, c7, A7, R, by omega, by have h1 := HLR.out; have h2 := HR.out; omega, congrArg (Value.int .i64) (by omega), rfl, HVR.out, OW7.out, r7.more (by omega), G7⟩
          case measure => simp [intOf]; omega
      · have hu2 : (bk l i4).u = false := by simpa using hu
        rw [hu2] at d2
        clear hu hu2
        go_wp2_with fail
        refine (pick_g g _ _ _ r4 (by omega)).mono ?_
        rintro e w5 ⟨x5, rfl, q1, q2, r5, o5⟩
        have q3 : x5 ≤ 7 := by omega
        have OW5 := Lib.hid (Slot.of_only OW4.out o5 hg)
        have G5 := G4.only o5
        obtain ⟨R, b, hvR, hLR, CT⟩ := take_v l (1 + x1) i4 (1 + x5) HV.out
        have CTn := CT (some ⟨gl, 0, none⟩) cp w5 (own_lst OW5.out) (own_cap OW5.out)
        rw [← HR.out] at CTn
        have CH := Lib.hid CTn
        have HVR := Lib.hid hvR
        have HLR := Lib.hid hLR
        have z5 := G5.size
        clear CT CTn hvR hLR o5 q2
        go_wp2_with fail
        refine CH.out.mono ?_
        rintro e w6 ⟨A6, c6, rfl, o6, b6⟩
        have r6 := r5.below b6
        have G6 := G5.below b6 z5
        have OW6 := Lib.hid (o6.mono z5)
        clear o6 b6 r5 G5
        go_wp2
        go_roundw
        case rel => exact ⟨k - 1, R.length, c6, A6, R, by omega, by have h1 := HLR.out; have h2 := HR.out; omega, congrArg (Value.int .i64) (by omega), rfl, HVR.out, OW6.out, r6.more (by omega), G6⟩
        case measure => simp [intOf]; omega
    · obtain rfl : k = 0 := by omega
      have hr' := hr.more (show q + 2 + 3 * (k3 - 0) ≤ q + 50 by omega)
      have hN14 : N ≤ 14 := by omega
      clear hr hk0 hk
      go_wp2_with fail
      refine (odd_g g _ _ _ hr' (by omega) hm hm').mono ?_
      rintro e w4 ⟨b, rfl, r4, o4⟩
      have OW4 := Lib.hid (Slot.of_only OW.out o4 hg)
      have G4 := hG.only o4
      have z4 := G4.size
      clear o4 hr' hG OW
      cases b
      · go_wp2
        exact bodyPost_ret (v := .tuple #[.slice (some ⟨gl, 0, none⟩) N cp, .int .i64 (1 + x1)]) (by simp [results, Try.results54, go_sem]) rfl ⟨_, _, _, l, _, rfl, OW4.out, hN1, by omega, by omega, by omega, r4.more (by omega), G4⟩
      · go_wp2_with fail
        refine (pick_g g _ _ _ r4 (by omega)).mono ?_
        rintro e w5 ⟨x5, rfl, p1, p2, r5, o5⟩
        obtain ⟨i5, rfl⟩ := Int.eq_ofNat_of_zero_le p1
        have hi5 : i5 < N := by omega
        have OW5 := Lib.hid (Slot.of_only OW4.out o5 hg)
        have G5 := G4.only o5
        clear o5 p2 r4 G4 OW4
        go_wp2_with fail
        refine (pick_g g _ _ _ r5 (by omega)).mono ?_
        rintro e w6 ⟨x6, rfl, p3, p4, r6, o6⟩
        have OW6 := Lib.hid (Slot.of_only OW5.out o6 hg)
        have G6 := G5.only o6
        have z6 := G6.size
        have hx6 : x6 = 0 ∨ x6 = 1 ∨ x6 = 2 ∨ x6 = 3 ∨ x6 = 4 := by omega
        obtain ⟨b', off', e', hb6, d0, d1, d2⟩ := (own_lst OW6.out).cells i5 (by have := HR.out; omega)
        simp only [Option.some.injEq, Addr.mk.injEq, and_true] at e'
        obtain ⟨rfl, rfl⟩ := e'
        simp only [Nat.zero_add] at d0 d1 d2
        have f0 := own_frozen OW6.out (i5 * 3)
        have f1 := own_frozen OW6.out (i5 * 3 + 1)
        have i1 : (0 : Int) ≤ (i5 : Int) := by omega
        have i2 : (i5 : Int) < (N : Int) := by omega
        have hbl := V_blk HV.out (k := i5) (by have := HR.out; omega)
        obtain ⟨j1, j2, j3⟩ := hbl
        clear o6 p3 p4 r5 G5 OW5
        rcases hx6 with rfl | rfl | rfl | rfl | rfl
        · go_wp2
          exact bodyPost_ret (v := .tuple #[.slice (some ⟨gl, 0, none⟩) N cp, .int .i64 (1 + x1 + 1)]) (by simp [results, Try.results54, go_sem]) rfl ⟨_, _, _, l, _, rfl, OW6.out, hN1, by omega, by omega, by omega, r6.more (by omega), G6⟩
        · go_wp2
          exact bodyPost_ret (v := .tuple #[.slice (some ⟨gl, 0, none⟩) N cp, .int .i64 (1 + x1)]) (by simp [results, Try.results54, go_sem]) rfl ⟨_, _, _, _, _, rfl, own_setS OW6.out (i := i5) (by have := HR.out; omega) _, hN1, by omega, by omega, by omega, (r6.set_ (p := ⟨gl, _, none⟩) (by show g < gl; omega) _).more (by omega), G6.set_ (p := ⟨gl, _, none⟩) gl0 _⟩
        · have gl6 : gl < w6.heap.size := (own_at OW6.out gl rfl).2
          have hne : gl ≠ g := by omega
          have HP := Lib.hid (fun (W : World) (hb : Below w6.heap.size w6 W) => pick_last OW6.out r6 G6 (by omega) gl6 hne z6 hg d1 f1 ((bk l i5).z + 1) W hb)
          have q1 : IntKind.i64.wrap ((bk l i5).z + 1) = (bk l i5).z + 1 := IntWalk.i64_in _ (by omega)
          clear d0 d2 f0
          go_wp2_with fail
          go_region_with ((refine (HP.out _ (by first | exact (Below.refl _ _).drew | exact ((Below.refl _ _).alloc (Nat.le_refl _) _).drew)).mono ?_; rintro e w7 ⟨k7, y7, u1, u2, rfl, r7, G7, e1, e2, o7, gl7, KB, k2⟩; have OW7 := Lib.hid o7; clear o7; (first | (have k3 := KB _ (Bk.drew_ (Bk.new w6 #[.int .i64 0, .int .i64 ((bk l i5).z + 1)] 3)); clear k2) | skip); clear KB))
          all_goals
            have hi5l : i5 < l.length := by have := HR.out; omega
            have hggl : g < gl := by omega
            go_wp2
            refine bodyPost_ret (v := .tuple #[.slice (some ⟨gl, 0, none⟩) N cp, .int .i64 (1 + x1)]) (by simp [results, Try.results54, go_sem]) rfl ?_
            first
              | exact ⟨_, _, _, _, _, rfl, own_setZ OW7.out (i := i5) hi5l y7, hN1, by omega, by omega, by omega, (r7.set_ (p := ⟨gl, _, none⟩) hggl _).more (by omega), G7.set_ (p := ⟨gl, _, none⟩) gl0 _⟩
              | exact ⟨_, _, _, _, _, rfl, (own_setZ OW7.out (i := i5) hi5l y7).below ((Below.refl _ _).alloc (Nat.le_refl _) _), hN1, by omega, by omega, by omega, ((r7.set_ (p := ⟨gl, _, none⟩) hggl _).alloc _).more (by omega), (G7.set_ (p := ⟨gl, _, none⟩) gl0 _).alloc _⟩
        · go_wp2_with (at_builtin; refine append_blk (by rfl) _ _ (by rfl) w.heap.size _ l [⟨1 + x1, 1, false⟩] _ (some ⟨w6.heap.size, 0, none⟩) 1 1 (by rfl) (OW6.out.below ((Below.refl _ _).alloc (Nat.le_refl _) _)) (by rfl) (lst_one (Bk.new w6 #[.int .i64 (1 + x1), .int .i64 1, .bool false] 39)) (by have := HR.out; omega) (by simp; omega) (N + 1) (by have := HR.out; omega) ?_; intro A7 c7 w7 o7 b7 g7 t7)
          have r7 := (r6.alloc (.cells #[.int .i64 (1 + x1), .int .i64 1, .bool false] 39)).below_ b7 hg
          have G7 := (G6.alloc (.cells #[.int .i64 (1 + x1), .int .i64 1, .bool false] 39)).below b7 (Nat.le_refl _)
          exact bodyPost_ret (v := .tuple #[.slice A7 (N + 1) c7, .int .i64 (1 + x1)]) (by simp [results, Try.results54, go_sem]) rfl ⟨_, _, _, _, _, rfl, o7, by omega, by omega, by omega, by omega, r7.more (by omega), G7⟩
        · go_wp2_with (at_builtin; refine append_blk (by rfl) _ _ (by rfl) w6.heap.size (w6.heap.size + 1) [⟨0, 1, false⟩] l _ (some ⟨gl, 0, none⟩) N cp (by rfl) (own_lit w6 0 1 false) (by rfl) (by have := (own_lst (OW6.out.below ((Below.refl w6.heap.size w6).alloc (Nat.le_refl _) (.cells #[.int .i64 0, .int .i64 1, .bool false] 39)))); rw [← HR.out] at this; simpa using this) (by simp; omega) (by simp) (N + 1) (by simp; omega) ?_; intro A7 c7 w7 o7 b7 g7 t7)
          have r7 := (r6.alloc (.cells #[.int .i64 0, .int .i64 1, .bool false] 39)).below_ b7 (by omega)
          have G7 := (G6.alloc (.cells #[.int .i64 0, .int .i64 1, .bool false] 39)).below b7 z6
          exact bodyPost_ret (v := .tuple #[.slice A7 (N + 1) c7, .int .i64 (1 + x1)]) (by simp [results, Try.results54, go_sem]) rfl ⟨_, _, _, _, _, rfl, o7.mono z6, by omega, by omega, by omega, by omega, r7.more (by omega), G7⟩

end Go.Proofs.Ytidkejmphhpjlaa.Wk
