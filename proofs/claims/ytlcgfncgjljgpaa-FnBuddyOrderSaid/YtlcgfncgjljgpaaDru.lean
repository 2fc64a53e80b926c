/- l20Buddies: buddies are drawn. Conditions: none. -/
import Derived.Test.YtlcgfncgjljgpaaDrg
import Derived.Test.YtlcgfncgjljgpaaExTu
import Derived.Test.YtlcgfncgjljgpaaGui
import Derived.Deep.RegionHeld3
namespace Go.Proofs.Ytlcgfncgjljgpaa.Wu
open Go.RowKit Go.Proofs.Ytlcgfncgjljgpaa.Pl Go.Proofs.Ytlcgfncgjljgpaa.Wk

/-- Taking and giving, of the reference, keep buddies valid. -/
theorem take_v (l : List Blk) (p z : Int) (hv : VU l p) : ∃ R s b, VU R p ∧ ∀ (A : Option Addr) (c : Nat) (w : World), Lst w w.heap.size A l.length l → l.length ≤ c → Calls Try.prog 31 #[.slice A l.length c, .int .i64 p, .int .i64 z] w (PostT R s b w) := by
  obtain ⟨o, ho⟩ := PFor_ex z
  obtain ⟨R, s, b, hR⟩ := TakeR_ex l o
  exact ⟨R, s, b, TakeR_valid hv hR, fun A c w h hc => sBT_all A l.length c l p z o R s b w h hc hv ho hR⟩
theorem give_v (l : List Blk) (p s : Int) (hv : VU l p) : ∃ R b, VU R p ∧ ∀ (A : Option Addr) (c : Nat) (w : World), Lst w w.heap.size A l.length l → Calls Try.prog 26 #[.slice A l.length c, .int .i64 p, .int .i64 s] w (PostL R (.bool b) w) := by
  obtain ⟨R, b, hR⟩ := GiveR_ex hv s
  exact ⟨R, b, GiveR_valid hv hR, fun A c w h => sBG_any A l.length c l p s R b w h hv hR⟩

theorem own_only {w w' : World} {B g : Nat} {v : Value} {l : List Blk} (h : Own w B v l) (ho : Only g w w') (hg : g < B) : Own w' B v l :=
  own_past h ho.grown (fun k hk e => by have := own_at h k hk; injection e with e; omega)
theorem own_gr {g B : Nat} {w W : World} {v : Value} {l : List Blk} (h : Own w B v l) (hG : Gr g w W) (hg : g < B) : Own W B v l :=
  own_past h hG.grown (fun k hk e => by have := own_at h k hk; injection e with e; omega)
theorem cellsL_setS {R : List Blk} {i : Nat} (h : i < R.length) (x : Int) : cellsL (R.set i ⟨x, (bk R i).z, (bk R i).u⟩) = (cellsL R).set (i * 3) (.int .i64 x) := by
  induction R generalizing i with
  | nil => simp at h
  | cons b r ih =>
    cases i with
    | zero => simp [cellsL_cons, bk]
    | succ i =>
      have := ih (i := i) (by simpa using h)
      rw [List.set_cons_succ, cellsL_cons, cellsL_cons, show (i + 1) * 3 = i * 3 + 1 + 1 + 1 by omega]
      simp only [List.set_cons_succ]
      rw [← this]; rfl
theorem own_setS {w : World} {B g N cp : Nat} {R : List Blk} (h : Own w B (.slice (some ⟨g, 0, none⟩) N cp) R) {i : Nat} (hi : i < R.length) (x : Int) :
    Own (w.setCell ⟨g, i * 3, none⟩ (.int .i64 x)) B (.slice (some ⟨g, 0, none⟩) N cp) (R.set i ⟨x, (bk R i).z, (bk R i).u⟩) := by
  obtain ⟨hN, _⟩ := own_form h
  subst hN
  have h1 := (World.ownsRow.stored (show w.ownsRow B 44 3 (.slice (some ⟨g, 0, none⟩) R.length cp) R.length (cellsL R) from h) (i * 3) (.int .i64 x)).1
  rw [← cellsL_setS hi x] at h1
  exact own_of h1 (by simp) rfl
theorem own_two (w : World) (s z s' z' : Int) : Own (w.alloc (.cells #[.int .i64 s, .int .i64 z, .bool false, .int .i64 s', .int .i64 z', .bool false] 44)) w.heap.size (.slice (some ⟨w.heap.size, 0, none⟩) 2 2) [⟨s, z, false⟩, ⟨s', z', false⟩] :=
  ⟨rfl, .inr ⟨w.heap.size, 2, _, rfl, Nat.le_refl _, heap_alloc_new w _, Nat.le_refl _, by unfold maxLen; omega, rfl, rfl⟩⟩

theorem own_lstn {w : World} {B : Nat} {A : Option Addr} {n c : Nat} {l : List Blk} (h : Own w B (.slice A n c) l) : Lst w w.heap.size A n l := by
  have e := (own_form h).1
  have := own_lst h
  rw [← e] at this; exact this

/-- Buddies that were drawn. -/
def BudsP (g q : Nat) (w : World) (e : Ending) (w' : World) : Prop :=
  ∃ (A : Option Addr) (n c : Nat) (l : List Blk) (p : Int), e = .returned (.tuple #[.slice A n c, .int .i64 p]) ∧ Own w' w.heap.size (.slice A n c) l ∧ 1 ≤ n ∧ n ≤ 258 ∧ Rg w' g (q + 100) ∧ Gr g w w'

theorem one_valid {P : Nat} (h : P ≤ 8) : VU [(⟨0, P, false⟩ : Blk)] P :=
  ⟨by omega, by omega, ⟨rfl, by show (0 : Int) ≤ P; omega, Int.le_refl _, Al_zero _, by show 0 + pw P = pw P; omega⟩, fun i hi => by simp at hi⟩

set_option maxRecDepth 100000 in
set_option maxHeartbeats 8000000 in
theorem l20Buddies_any (g q : Nat) (m : Int) (w : World) (h : Rg w g q) (hq : q ≤ 900000) (hm : 1 ≤ m) (hm' : m ≤ 1000) :
    Calls Try.prog 49 #[.pointer (some ⟨g, 0, none⟩), .int .i64 m] w (BudsP g q w) := by
  have hg := h.lt
  go_enter Try.func49, Try.ntmps49
  go_wp2_with fail
  refine (pick_g g q _ _ h (by omega)).mono ?_
  rintro e w1 ⟨x1, rfl, a1, a2, r1, o1⟩
  obtain ⟨P, rfl⟩ := Int.eq_ofNat_of_zero_le a1
  have hP : P ≤ 8 := by omega
  have G1 := Gr.of_only o1
  have z1 := G1.size
  clear a2 o1 h
  have r2 := r1.alloc (.cells #[.int .i64 0, .int .i64 P, .bool false] 44)
  have G2 := G1.alloc (.cells #[.int .i64 0, .int .i64 P, .bool false] 44)
  have o2 := (own_lit w1 0 P false).mono z1
  go_wp2_with fail
  refine (pick_g g _ _ _ r2 (by omega)).mono ?_
  rintro e w3 ⟨x3, rfl, a4, a5, r3, o3⟩
  have a6 : x3 ≤ 15 := by omega
  obtain ⟨k3, rfl⟩ := Int.eq_ofNat_of_zero_le a4
  have O3 := Lib.hid (own_only o2 o3 hg)
  have HV3 := Lib.hid (one_valid hP)
  have G3 := G2.only o3
  clear r2 G2 a5 o3 o2 r1 G1
  go_wp2
  go_loopw [7, 8] (fun v i wr => ∃ (k N cp : Nat) (A : Option Addr) (l : List Blk), k ≤ k3 ∧ i = .int .i64 k ∧ v = .slice A N cp ∧ VU l P ∧ Own wr w.heap.size (.slice A N cp) l ∧ Rg wr g (q + 2 + 3 * (k3 - k)) ∧ Gr g w wr) (fun _ i _ => (intOf i).toNat)
  case atStart => exact ⟨k3, 1, _, _, _, Nat.le_refl _, rfl, rfl, HV3.out, O3.out, r3.more (by omega), G3⟩
  case round =>
    obtain ⟨k, N, cp, A, l, hk, rfl, rfl, hv, hown, hr, hG⟩ := hrel
    have hpos := VU_pos hv
    have hlen := VU_len hv
    have HV := Lib.hid hv
    have OW := Lib.hid hown
    have HR := Lib.hid (own_form hown).1
    obtain ⟨gl, rfl, gl0, gl1⟩ := (own_form hown).2 (by have := HR.out; omega)
    have hN1 : 1 ≤ N := by have := HR.out; omega
    have hN2 : N ≤ 256 := by have := HR.out; omega
    clear hown hv O3 G3 r3 hlen
    by_cases hk0 : 0 < k
    · go_wp2_with fail
      refine (pick_g g _ _ _ hr (by omega)).mono ?_
      rintro e w4 ⟨x4, rfl, a7, a8, r4, o4⟩
      have OW4 := Lib.hid (own_only OW.out o4 hg)
      have G4 := hG.only o4
      have z4 := G4.size
      clear o4 hr hG OW
      by_cases hx4 : x4 = 0
      · subst hx4
        go_wp2_with fail
        refine (pick_g g _ _ _ r4 (by omega)).mono ?_
        rintro e w5 ⟨x5, rfl, p1, p2, r5, o5⟩
        obtain ⟨i5, rfl⟩ := Int.eq_ofNat_of_zero_le p1
        have hi5 : i5 < N := by omega
        have OW5 := Lib.hid (own_only OW4.out o5 hg)
        have G5 := G4.only o5
        have z5 := G5.size
        obtain ⟨d0, d1, d2⟩ := own_cells OW5.out (k := i5) (by have := HR.out; omega)
        have i1 : (0 : Int) ≤ (i5 : Int) := by omega
        have i2 : (i5 : Int) < (N : Int) := by omega
        obtain ⟨R, b, hvR, CT⟩ := give_v l P (bk l i5).s HV.out
        have CTn := CT (some ⟨gl, 0, none⟩) cp w5 (own_lst OW5.out)
        rw [← HR.out] at CTn
        have CH := Lib.hid CTn
        have HVR := Lib.hid hvR
        clear CT CTn hvR o5 p2 d1 d2 OW4 r4 G4
        go_wp2_with fail
        refine CH.out.mono ?_
        rintro e w6 ⟨A6, c6, rfl, o6, b6⟩
        have r6 := r5.below b6
        have G6 := G5.below b6 z5
        have OW6 := Lib.hid (o6.mono z5)
        clear o6 b6 r5 G5
        go_wp2
        go_roundw
        case rel => exact ⟨k - 1, R.length, c6, A6, R, by omega, congrArg (Value.int .i64) (by omega), rfl, HVR.out, OW6.out, r6.more (by omega), G6⟩
        case measure => simp [intOf]; omega
      · have q4 : (x4 == 0) = false := by rw [beq_eq_false_iff_ne]; exact hx4
        go_wp2_with fail
        refine (pick_g g _ _ _ r4 (by omega)).mono ?_
        rintro e w5 ⟨x5, rfl, p1, p2, r5, o5⟩
        obtain ⟨k5, rfl⟩ := Int.eq_ofNat_of_zero_le p1
        have hk5 : k5 ≤ 6 := by omega
        have OW5 := Lib.hid (own_only OW4.out o5 hg)
        have G5 := G4.only o5
        have y1 := wrap_pw (k := k5) (by omega)
        have y2 := pw_bd (z := (k5 : Int)) (by omega) (by omega)
        have y3 := pw_pos (k5 : Int)
        obtain ⟨M5, hM5⟩ : ∃ M5, pw (k5 : Int) = M5 := ⟨_, rfl⟩
        rw [hM5] at y1 y2 y3
        clear o5 p2 OW4 r4 G4 hM5
        go_wp2_with fail
        clear y1
        refine (pick_g g _ _ _ r5 (by omega)).mono ?_
        rintro e w6 ⟨x6, rfl, q1, q2, r6, o6⟩
        have q3 : x6 ≤ 256 := by omega
        have OW6 := Lib.hid (own_only OW5.out o6 hg)
        have G6 := G5.only o6
        have z6 := G6.size
        obtain ⟨R, s, b, hvR, CT⟩ := take_v l P (1 + x6) HV.out
        have CTn := CT (some ⟨gl, 0, none⟩) cp w6 (own_lst OW6.out) (own_cap OW6.out)
        rw [← HR.out] at CTn
        have CH := Lib.hid CTn
        have HVR := Lib.hid hvR
        clear CT CTn hvR o6 q2 r5 G5 OW5
        go_wp2_with fail
        refine CH.out.mono ?_
        rintro e w7 ⟨A7, c7, rfl, o7, b7⟩
        have r7 := r6.below b7
        have G7 := G6.below b7 z6
        have OW7 := Lib.hid (o7.mono z6)
        clear o7 b7 r6 G6
        go_wp2
        go_roundw
        case rel => exact ⟨k - 1, R.length, c7, A7, R, by omega, congrArg (Value.int .i64) (by omega), rfl, HVR.out, OW7.out, r7.more (by omega), G7⟩
        case measure => simp [intOf]; omega
    · obtain rfl : k = 0 := by omega
      have hr' := hr.more (show q + 2 + 3 * (k3 - 0) ≤ q + 60 by omega)
      clear hr hk0 hk
      go_wp2_with fail
      refine (odd_g g _ _ _ hr' (by omega) hm hm').mono ?_
      rintro e w4 ⟨b, rfl, r4, o4⟩
      have OW4 := Lib.hid (own_only OW.out o4 hg)
      have G4 := hG.only o4
      have z4 := G4.size
      clear o4 hr' hG OW
      cases b
      · go_wp2
        exact bodyPost_ret (v := .tuple #[.slice (some ⟨gl, 0, none⟩) N cp, .int .i64 P]) (by simp [results, Try.results49, go_sem]) rfl ⟨_, _, _, l, _, rfl, OW4.out, hN1, by omega, r4.more (by omega), G4⟩
      · go_wp2_with fail
        refine (pick_g g _ _ _ r4 (by omega)).mono ?_
        rintro e w5 ⟨x5, rfl, p1, p2, r5, o5⟩
        obtain ⟨i5, rfl⟩ := Int.eq_ofNat_of_zero_le p1
        have hi5 : i5 < N := by omega
        have OW5 := Lib.hid (own_only OW4.out o5 hg)
        have G5 := G4.only o5
        clear o5 p2 r4 G4 OW4
        go_wp2_with fail
        refine (pick_g g _ _ _ r5 (by omega)).mono ?_
        rintro e w6 ⟨x6, rfl, p3, p4, r6, o6⟩
        have OW6 := Lib.hid (own_only OW5.out o6 hg)
        have G6 := G5.only o6
        have z6 := G6.size
        have hx6 : x6 = 0 ∨ x6 = 1 ∨ x6 = 2 ∨ x6 = 3 := by omega
        obtain ⟨d0, d1, d2⟩ := own_cells OW6.out (k := i5) (by have := HR.out; omega)
        have f0 := own_frozen OW6.out (i5 * 3)
        have f1 := own_frozen OW6.out (i5 * 3 + 1)
        have i1 : (0 : Int) ≤ (i5 : Int) := by omega
        have i2 : (i5 : Int) < (N : Int) := by omega
        have i3 : i5 < l.length := by have := HR.out; omega
        have hbl := VU_blk HV.out i3
        obtain ⟨j1, j2, j3, j4, _⟩ := hbl
        have j5 : (bk l i5).s ≤ 256 := by have := pw_pos (bk l i5).z; have := pw_bd (z := (P : Int)) (by omega) (by omega); omega
        clear o6 p3 p4 r5 G5 OW5
        rcases hx6 with rfl | rfl | rfl | rfl
        · go_wp2
          exact bodyPost_ret (v := .tuple #[.slice (some ⟨gl, 0, none⟩) N cp, .int .i64 P]) (by simp [results, Try.results49, go_sem]) rfl ⟨_, _, _, _, _, rfl, own_setS OW6.out i3 _, hN1, by omega, (r6.set_ (p := ⟨gl, _, none⟩) (by show g < gl; omega) _).more (by omega), G6.set_ (p := ⟨gl, _, none⟩) gl0 _⟩
        · go_wp2
          exact bodyPost_ret (v := .tuple #[.slice (some ⟨gl, 0, none⟩) N cp, .int .i64 P]) (by simp [results, Try.results49, go_sem]) rfl ⟨_, _, _, _, _, rfl, own_setZ OW6.out i3 _, hN1, by omega, (r6.set_ (p := ⟨gl, _, none⟩) (by show g < gl; omega) _).more (by omega), G6.set_ (p := ⟨gl, _, none⟩) gl0 _⟩
        · have r6' := r6.alloc (.cells #[.int .i64 (-1), .int .i64 9, .int .i64 ((P : Int) + 1)] 3)
          have G6' := G6.alloc (.cells #[.int .i64 (-1), .int .i64 9, .int .i64 ((P : Int) + 1)] 3)
          have O6' := Lib.hid (OW6.out.below ((Below.refl _ _).alloc (Nat.le_refl _) (.cells #[.int .i64 (-1), .int .i64 9, .int .i64 ((P : Int) + 1)] 3)))
          have K6 := Bk.new w6 #[.int .i64 (-1), .int .i64 9, .int .i64 ((P : Int) + 1)] 3
          have hg6 : g ≠ w6.heap.size := by omega
          clear d0 d1 d2 f0 f1 r6 G6 OW6
          go_wp2_with fail
          refine (pick_g g _ _ _ r6' (by omega)).mono ?_
          rintro e w7 ⟨x7, rfl, q1, q2, r7, o7⟩
          have hx7 : x7 = 0 ∨ x7 = 1 ∨ x7 = 2 := by omega
          have K7 := K6.only o7 (fun e => hg6 e.symm)
          have O7 := Lib.hid (own_only O6'.out o7 hg)
          have G7 := G6'.only o7
          have k0 := K7.cell 0
          have k1 := K7.cell 1
          have k2 := K7.cell 2
          clear q1 q2 o7 G6' r6' O6' K7 K6
          rcases hx7 with rfl | rfl | rfl
          all_goals
            go_wp2
            exact bodyPost_ret (v := .tuple #[.slice (some ⟨gl, 0, none⟩) N cp, .int .i64 _]) (by simp [results, Try.results49, go_sem]; rfl) rfl ⟨_, _, _, _, _, rfl, O7.out, hN1, by omega, r7.more (by omega), G7⟩
        · obtain ⟨S, hS⟩ : ∃ S, (bk l i5).s = S := ⟨_, rfl⟩
          obtain ⟨Z, hZ⟩ := Int.eq_ofNat_of_zero_le j3
          rw [hS] at d0 j1 j5
          rw [hZ] at d1 j4
          clear f0 f1 j2 j3 hS hZ
          cases hu : (bk l i5).u
          · rw [hu] at d2
            clear hu
            rcases Nat.eq_zero_or_pos Z with rfl | hz
            · go_wp2
              exact bodyPost_ret (v := .tuple #[.slice (some ⟨gl, 0, none⟩) N cp, .int .i64 P]) (by simp [results, Try.results49, go_sem]) rfl ⟨_, _, _, l, _, rfl, OW6.out.below ((Below.refl _ _).alloc (Nat.le_refl _) _), hN1, by omega, (r6.alloc _).more (by omega), G6.alloc _⟩
            · obtain ⟨Y, rfl⟩ : ∃ Y, Z = Y + 1 := ⟨Z - 1, by omega⟩
              have hY : Y ≤ 7 := by omega
              have e1 : decide ((0 : Int) < (Y : Int) + 1) = true := by rw [decide_eq_true_iff]; omega
              have e2 : (0 : Int) < (Y : Int) + 1 := by omega
              go_wp2
              have KW := Bk.new w6 #[.int .i64 S, .int .i64 ((Y : Int) + 1), .bool false] 44
              have OWW := Lib.hid (OW6.out.below ((Below.refl _ _).alloc (Nat.le_refl _) (.cells #[.int .i64 S, .int .i64 ((Y : Int) + 1), .bool false] 44)))
              have rW := r6.alloc (.cells #[.int .i64 S, .int .i64 ((Y : Int) + 1), .bool false] 44)
              have GW := G6.alloc (.cells #[.int .i64 S, .int .i64 ((Y : Int) + 1), .bool false] 44)
              have zW : w.heap.size ≤ (w6.alloc (.cells #[.int .i64 S, .int .i64 ((Y : Int) + 1), .bool false] 44)).heap.size := by simp; omega
              generalize w6.alloc (.cells #[.int .i64 S, .int .i64 ((Y : Int) + 1), .bool false] 44) = W at KW OWW rW GW zW ⊢
              obtain ⟨G, hG⟩ : ∃ G, w6.heap.size = G := ⟨_, rfl⟩
              rw [hG] at KW ⊢
              obtain ⟨M, hMN⟩ : ∃ M, pw (Y : Int) = M := ⟨_, rfl⟩
              have y1 := wrap_one (k := Y) (by omega)
              have y2 : IntKind.i64.wrap (2 ^ min Y 64) = pw (Y : Int) := by rw [show min Y 64 = Y by omega]; exact y1
              have y3 := pw_pos (Y : Int)
              have y4 := pw_bd (z := (Y : Int)) (by omega) (by omega)
              rw [hMN] at y1 y2 y3 y4
              have y5 : IntKind.i64.wrap (S + M) = S + M := IntWalk.i64_in _ (by omega)
              have y6 : IntKind.i64.wrap ((Y : Int) + 1 - 1) = (Y : Int) := by rw [Int.add_sub_cancel]; exact IntWalk.i64_in _ (by omega)
              have y7 : IntKind.i64.wrap (Y : Int) = (Y : Int) := IntWalk.i64_in _ (by omega)
              have a1 : IntKind.i64.wrap ((i5 : Int) + 1) = (i5 : Int) + 1 := IntWalk.i64_in _ (by omega)
              have a2 : ((i5 : Int) + 1).toNat = i5 + 1 := by omega
              have a3 : (0 : Int) ≤ (i5 : Int) + 1 := by omega
              have a4 : (i5 : Int) + 1 ≤ (N : Int) := by omega
              have v5 : N ≤ cp := by have := own_cap OW6.out; have := HR.out; omega
              have HRow := Lib.hid (fun (w' : World) (hw' : Below W.heap.size W w') => (by have := own_lst (OWW.out.below hw'); rw [← HR.out] at this; exact this : Lst w' w'.heap.size (some ⟨gl, 0, none⟩) N l))
              obtain ⟨A9, hA9⟩ : ∃ A9, (if cp = i5 + 1 then some (⟨gl, 0, none⟩ : Addr) else some ⟨gl, (i5 + 1) * 3, none⟩) = A9 := ⟨_, rfl⟩
              have HD9 := Lib.hid (fun (w' : World) (hw' : Below W.heap.size W w') => (by
                rw [← hA9]
                split
                · exact lst_end (by have := HR.out; omega) (by omega)
                · have := lst_drop (HRow.out w' hw') (k := i5 + 1) (by omega); rw [Nat.zero_add] at this; exact this : Lst w' w'.heap.size A9 (N - (i5 + 1)) (l.drop (i5 + 1))))
              have HK := Lib.hid (fun (w' : World) (hw' : Below W.heap.size W w') => (⟨(KW.below hw' KW.lt).cell 0, (KW.below hw' KW.lt).cell 1, hw'⟩ : w'.cell? ⟨G, 0, none⟩ = some (.int .i64 S) ∧ w'.cell? ⟨G, 1, none⟩ = some (.int .i64 ((Y : Int) + 1)) ∧ Below W.heap.size W w'))
              have OT := Lib.hid (show Own (W.alloc (.cells #[.int .i64 S, .int .i64 Y, .bool false, .int .i64 (S + M), .int .i64 Y, .bool false] 44)).drew W.heap.size (.slice (some ⟨W.heap.size, 0, none⟩) 2 2) [⟨S, Y, false⟩, ⟨S + M, Y, false⟩] from (own_two W S Y (S + M) Y).below (Below.refl _ _).drew)
              have XT := Lib.hid (show Below W.heap.size W (W.alloc (.cells #[.int .i64 S, .int .i64 Y, .bool false, .int .i64 (S + M), .int .i64 Y, .bool false] 44)).drew from ((Below.refl _ _).alloc (Nat.le_refl _) _).drew)
              have HHR : RowKit.Hid ((l.drop (i5 + 1)).length = N - (i5 + 1)) := Lib.hid (by simp; have := HR.out; omega)
              clear d0 d1 d2 OW6 r6 G6 hG hMN KW
              go_region_held3 (fun w' => w'.cell? ⟨G, 0, none⟩ = some (.int .i64 S) ∧ w'.cell? ⟨G, 1, none⟩ = some (.int .i64 ((Y : Int) + 1)) ∧ Below W.heap.size W w')
                (first
                  | exact HK.out _ (Below.refl _ _).drew
                  | exact HK.out _ XT.out
                  | exact HK.out _ X7)
                ((refine append_blk_step rfl (.tmp 91) (.tmp 95) rfl W.heap.size _ [⟨S, Y, false⟩, ⟨S + M, Y, false⟩] (l.drop (i5 + 1)) (.slice (some ⟨W.heap.size, 0, none⟩) 2 2) A9 (N - (i5 + 1)) (cp - (i5 + 1)) (by simp [Act.eval]) OT.out (by simp [Act.eval]) (HD9.out _ XT.out) (by simp; omega) XT.out.size (N - (i5 + 1) + 2) (by simp; omega) ?_; intro A7 c7 w7 o7 b7 g7 t7; have X7 := XT.out.trans b7))
              all_goals
                have O7 := Lib.hid o7
                have X8 := X7.alloc X7.size (.cells #[] 44)
                have HT7 := Lib.hid (lst_take (HRow.out _ X8) (k := i5) (by omega))
                have HTL : RowKit.Hid (([] ++ l.take i5).length = i5) := Lib.hid (by simp; omega)
                have z7 := X7.size
                clear o7 b7 g7 t7
                go_wp2_with (first
                  | (at_builtin; refine append_blk (by rfl) _ _ (by rfl) w7.heap.size _ [] (l.take i5) _ (some ⟨gl, 0, none⟩) i5 cp (by rfl) (own_empty w7) (by rfl) HT7.out (by simp; omega) (by simp) i5 (by simp) ?_; intro A8 c8 w8 o8 b8 g8 t8; have Y8 := X8.trans (b8.mono z7); have L8 := own_lstn (O7.out.below (((Below.refl _ _).alloc (Nat.le_refl _) (.cells #[] 44)).trans b8)); have s8 : w7.heap.size ≤ w8.heap.size := Nat.le_trans (by simp) b8.size)
                  | (at_builtin; go_loud (refine append_blk (by rfl) _ _ (by rfl) w7.heap.size _ ([] ++ l.take i5) ([⟨S, Y, false⟩, ⟨S + M, Y, false⟩] ++ l.drop (i5 + 1)) _ A7 (N - (i5 + 1) + 2) c7 (by rfl) o8 (by rfl) L8 (by rw [HTL.out]; omega) s8 (N + 1) (by rw [HTL.out]; omega) ?_); intro A9 c9 w9 o9 b9 g9 t9; have Y9 := Y8.trans (b9.mono z7)))
                exact bodyPost_ret (v := .tuple #[.slice A9 (N + 1) c9, .int .i64 P]) (by simp [results, Try.results49, go_sem]) rfl ⟨_, _, _, _, _, rfl, o9.mono (Nat.le_trans zW z7), by omega, by omega, (rW.below Y9).more (by omega), GW.below Y9 zW⟩
          · rw [hu] at d2
            clear hu
            rcases Nat.eq_zero_or_pos Z with rfl | hz
            · go_wp2
              exact bodyPost_ret (v := .tuple #[.slice (some ⟨gl, 0, none⟩) N cp, .int .i64 P]) (by simp [results, Try.results49, go_sem]) rfl ⟨_, _, _, l, _, rfl, OW6.out.below ((Below.refl _ _).alloc (Nat.le_refl _) _), hN1, by omega, (r6.alloc _).more (by omega), G6.alloc _⟩
            · have e1 : decide ((0 : Int) < (Z : Int)) = true := by rw [decide_eq_true_iff]; omega
              have e2 : (0 : Int) < (Z : Int) := by omega
              go_wp2
              exact bodyPost_ret (v := .tuple #[.slice (some ⟨gl, 0, none⟩) N cp, .int .i64 P]) (by simp [results, Try.results49, go_sem]) rfl ⟨_, _, _, l, _, rfl, OW6.out.below ((Below.refl _ _).alloc (Nat.le_refl _) _), hN1, by omega, (r6.alloc _).more (by omega), G6.alloc _⟩

end Go.Proofs.Ytlcgfncgjljgpaa.Wu
