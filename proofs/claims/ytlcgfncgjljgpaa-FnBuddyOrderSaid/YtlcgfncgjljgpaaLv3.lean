/- The laws BuddyGive, BuddyOrder: their walks. Conditions: none. -/
import Derived.Test.YtlcgfncgjljgpaaLv1
import Derived.Test.YtlcgfncgjljgpaaDrv
namespace Go.Proofs.Ytlcgfncgjljgpaa.Wu
open Go.RowKit Go.Proofs.Ytlcgfncgjljgpaa.Pl Go.Proofs.Ytlcgfncgjljgpaa.Wk

/-- Giving again finds nothing. -/
theorem give_again {l : List Blk} {p s : Int} {R : List Blk} (h : GiveR l p s R true) : GiveR R p s R false := by
  rcases h with ⟨_, hg, _⟩ | ⟨_, _, h⟩
  · exact .inr ⟨fun j => Given_again hg j, rfl, rfl⟩
  · cases h
theorem give_true {l : List Blk} {p s : Int} {R : List Blk} (h : GiveR l p s R true) : Given l p s R ∧ ∃ j, AtU l s j := by
  rcases h with ⟨hj, hg, _⟩ | ⟨_, _, h⟩
  · exact ⟨hg, hj⟩
  · cases h
theorem give_more {l : List Blk} {p s : Int} {R : List Blk} (hv : VU l p) (h : GiveR l p s R true) : fwU l < fwU R := by
  obtain ⟨hg, j, hj⟩ := give_true h
  have := Given_free hv hj.1 hj.2.1 (x := R) (by rw [hj.2.2]; exact hg)
  have := pw_pos (bk l j).z
  omega
/-- Another used buddy can be given, before and after. -/
theorem give_swap {l : List Blk} {p s t : Int} {R : List Blk} (hv : VU l p) (h : GiveR l p s R true) {k : Nat} (hk : AtU l t k) (hst : t ≠ s) :
    ∃ Y Q, VU Y p ∧ VU Q p ∧ GiveR R p t Q true ∧ GiveR l p t Y true ∧ GiveR Y p s Q true := by
  obtain ⟨hg, j, hj⟩ := give_true h
  obtain ⟨Y, b, hY⟩ := GiveR_ex hv t
  obtain rfl := (GiveR_yes hY hk).1
  obtain ⟨hgY, _⟩ := give_true hY
  obtain ⟨i, hi⟩ := Given_other hg hst hk
  obtain ⟨Q, b, hQ⟩ := GiveR_ex hg.1 t
  obtain rfl := (GiveR_yes hQ hi).1
  obtain ⟨hgQ, _⟩ := give_true hQ
  obtain ⟨i2, hi2⟩ := Given_other hgY (fun e => hst e.symm) hj
  obtain ⟨Q2, b, hQ2⟩ := GiveR_ex hgY.1 s
  obtain rfl := (GiveR_yes hQ2 hi2).1
  obtain ⟨hgQ2, _⟩ := give_true hQ2
  obtain rfl := Given_order hg hgY hgQ hgQ2
  exact ⟨Y, Q, hgY.1, hgQ.1, hQ, hY, hQ2⟩

/-- The worlds since w in which all that was there is as it was. -/
structure UpTo (w : World) where
  W : World
  h : Below w.heap.size w W
instance (w : World) : Nonempty (UpTo w) := ⟨⟨w, Below.refl _ _⟩⟩
theorem wp_region_quiet_below {P : Program} {id : Nat} {Q : Exit → Act → World → Prop} {a : Act} {w : World} {l : List Oper} (hm : P.follows .mixedOrders = true) (hB : Region.lexB .any l.toArray = true)
    (h : wpQuiet P l.toArray (fun w' => ∃ p : UpTo w, w' = p.W) (fun a' => ∀ w', (∃ p : UpTo w, w' = p.W) → Q .normal a' w') l a) : (Code.region id l.toArray true).wp P Q a w :=
  wp_region_quiet (C := fun w' => ∃ p : UpTo w, w' = p.W) hm hB ⟨⟨w.drew, (Below.refl _ _).drew⟩, rfl⟩ (by simpa using h)
theorem calls_upto {P : Program} {f : FuncId} {args : Array Value} {w W : World} {v : Value}
    (h : Calls P f args W fun e w' => e = .returned v ∧ Below w.heap.size w w') : Calls P f args W fun e w'' => e = .returned v ∧ ∃ p : UpTo w, w'' = p.W :=
  h.mono fun _ w' ⟨he, hb⟩ => ⟨he, ⟨w', hb⟩, rfl⟩

theorem cell_below {w w' : World} {p : Addr} {v : Value} (h : w.cell? p = some v) (hp : p.block < w.heap.size) (hb : Below w.heap.size w w') : w'.cell? p = some v ∧ Below w.heap.size w w' :=
  ⟨(hb.cell hp).trans h, hb⟩

set_option maxRecDepth 100000 in
set_option maxHeartbeats 4000000 in
theorem FnBuddyGive_walk {a : Option Addr} {len cap : Nat} {z : List Int} {w : World} (h : IsRow .u8 w a len cap z) : Calls Try.prog 13 #[.slice a len cap] w fun e w' => e = .returned (.bool true) ∧ Below w.heap.size w w' := by
  have hm := row_len8 h
  have HD := Lib.hid (dDrawBuddyGive h)
  clear h
  by_cases hl : len ≤ 1048576
  · go_enter Try.func13, Try.ntmps13
    go_wp2_with fail
    refine HD.out.mono ?_
    rintro e w1 ⟨A, n, c, l, p, s, rfl, o1, n1, n2, b1⟩
    have L1 := own_lstn o1
    have HN := Lib.hid (own_form o1).1
    clear HD o1
    by_cases hv : VU l p
    · obtain ⟨R, b, hR⟩ := GiveR_ex hv s
      have HV := Lib.hid hv
      have HVR := Lib.hid (GiveR_valid hv hR)
      have hlR := VU_len HVR.out
      have hlR0 := VU_pos HVR.out
      have HRR := Lib.hid hR
      have hR9 : R.length ≤ 256 := by omega
      have hl9 : l.length ≤ 256 := by have := VU_len hv; omega
      obtain ⟨_, hp2, hp0, hp8⟩ := hlR
      obtain ⟨P, rfl⟩ := Int.eq_ofNat_of_zero_le hp0
      have hP8 : P ≤ 8 := by omega
      obtain rfl : n = l.length := HN.out
      clear hR hv
      go_wp2_with fail
      refine (iBG_any A l.length c l P s R b w1 L1 HV.out HRR.out).mono ?_
      rintro e w2 ⟨A2, c2, rfl, o2, b2⟩
      have L2 := lst_up L1 b2
      have M2 := own_lst o2
      have B2 := b1.trans (b2.mono b1.size)
      clear L1 b2 b1 o2
      go_wp2_with fail
      refine (sBG_any A l.length c l P s R b w2 L2 HV.out HRR.out).mono ?_
      rintro e w3 ⟨A3, c3, rfl, o3, b3⟩
      have L3 := lst_up L2 b3
      have M3 := lst_up M2 b3
      have N3 := own_lst o3
      have B3 := B2.trans (b3.mono B2.size)
      clear L2 M2 b3 B2 o3
      cases b
      · obtain rfl : R = l := by
          rcases HRR.out with ⟨_, _, h⟩ | ⟨_, h, _⟩
          · cases h
          · exact h
        have k1 : ¬ R.length = 0 := by omega
        have k2 : ((R.length : Int) == 0) = false := by rw [beq_eq_false_iff_ne]; omega
        go_wp2_with fail
        refine (sameBuddies_same A2 A3 R.length c2 c3 _ _ R w3 M3 N3 (Nat.le_refl _) (Nat.le_refl _) (by omega)).mono ?_
        rintro e w4 ⟨rfl, b4⟩
        have L4 := lst_up L3 b4
        have M4 := lst_up M3 b4
        have B4 := B3.trans (b4.mono B3.size)
        clear L3 M3 N3 b4 B3
        go_wp2_with fail
        refine (sameBuddies_same A2 A R.length c2 c _ _ R w4 M4 L4 (Nat.le_refl _) (Nat.le_refl _) (by omega)).mono ?_
        rintro e w5 ⟨rfl, b5⟩
        have B5 := B4.trans (b5.mono B4.size)
        go_wp2_with fail
        refine (alive_any _).mono ?_
        rintro e w6 ⟨rfl, b6⟩
        go_wp2
        go_ret
        exact ⟨rfl, B5.trans (b6.mono B5.size)⟩
      · have HAG := Lib.hid (give_again HRR.out)
        have hmore := give_more HV.out HRR.out
        have h1f := one_free HVR.out
        obtain ⟨F, hF⟩ : ∃ F, fwU R = F := ⟨_, rfl⟩
        obtain ⟨E, hE⟩ : ∃ E, fwU l = E := ⟨_, rfl⟩
        obtain ⟨M, hM⟩ : ∃ M, pw (P : Int) = M := ⟨_, rfl⟩
        rw [hF, hM] at h1f
        rw [hF, hE] at hmore
        have y1 := wrap_one (k := P) (by omega)
        have y2 : IntKind.i64.wrap (2 ^ min P 64) = pw (P : Int) := by rw [show min P 64 = P by omega]; exact y1
        rw [hM] at y1 y2
        have HFR := Lib.hid hF
        have HFL := Lib.hid hE
        have H1F := Lib.hid h1f
        have q1 : decide (E < F) = true := by rw [decide_eq_true_iff]; exact hmore
        clear hF hE hM h1f hp2
        go_wp2_with fail
        refine (sameBuddies_same A2 A3 R.length c2 c3 _ _ R w3 M3 N3 (Nat.le_refl _) (Nat.le_refl _) (by omega)).mono ?_
        rintro e w4 ⟨rfl, b4⟩
        have L4 := lst_up L3 b4
        have M4 := lst_up M3 b4
        have B4 := B3.trans (b4.mono B3.size)
        clear L3 M3 N3 b4 B3
        go_wp2_with fail
        refine (iBG_any A2 R.length c2 R P s R false w4 M4 HVR.out HAG.out).mono ?_
        rintro e w5 ⟨A5, c5, rfl, o5, b5⟩
        have L5 := lst_up L4 b5
        have M5 := lst_up M4 b5
        have B5 := B4.trans (b5.mono B4.size)
        clear L4 M4 b5 B4 o5
        go_wp2_with fail
        refine (iBFree_yes A2 R.length c2 R P w5 M5 HVR.out).mono ?_
        rintro e w6 ⟨rfl, b6⟩
        rw [HFR.out]
        have L6 := lst_up L5 b6
        have M6 := lst_up M5 b6
        have B6 := B5.trans (b6.mono B5.size)
        clear L5 M5 b6 B5
        have D1 := Lib.hid (fun (W : World) (hW : Below w6.heap.size w6 W) => (iVU_any A2 R.length c2 R P true W (lst_up M6 hW) (by omega) (by simp [HVR.out])).mono (fun e w2 h => (⟨h.1, hW.trans (h.2.mono hW.size)⟩ : e = .returned (.bool true) ∧ Below w6.heap.size w6 w2)))
        have D2 := Lib.hid (fun (W : World) (hW : Below w6.heap.size w6 W) => (iBFree_yes A l.length c l P W (lst_up L6 hW) HV.out).mono (fun e w2 h => (⟨by rw [h.1, HFL.out], hW.trans (h.2.mono hW.size)⟩ : e = .returned (.int .i64 E) ∧ Below w6.heap.size w6 w2)))
        obtain ⟨b', off', rfl, hbb, c0, c1, c2'⟩ := M6.cells 0 hlR0
        simp only [Nat.zero_mul, Nat.add_zero] at c2'
        have z1 : (0 : Int) < (R.length : Int) := by omega
        by_cases hone0 : R.length = 1
        · have e1 : ((R.length : Int) == 1) = true := by rw [beq_iff_eq]; omega
          have e1b : (R.length == 1) = true := by rw [beq_iff_eq]; exact hone0
          have hq : (F == M) = !(bk R 0).u := by
            cases hu : (bk R 0).u
            · rw [Bool.not_false, beq_iff_eq]; exact H1F.out.2 ⟨hone0, hu⟩
            · rw [Bool.not_true, beq_eq_false_iff_ne]; intro e; have := (H1F.out.1 e).2; rw [hu] at this; cases this
          clear hone0
          cases hu : (bk R 0).u
          · rw [hu] at c2' hq
            simp only [Bool.not_false] at hq
            clear hu c0 c1
            go_wp2_with fail
            go_region_held3 (fun w2 => w2.cell? ⟨b', off' + 2, none⟩ = some (.bool false) ∧ Below w6.heap.size w6 w2)
              (first
                | exact cell_below c2' hbb (Below.refl _ _).drew
                | exact cell_below c2' hbb b7
                | exact cell_below c2' hbb b8)
              (first
                | (go_at_call 20; (with_reducible refine (D1.out _ (‹_ ∧ Below w6.heap.size w6 _›.2)).mono ?_); rintro e w7 ⟨rfl, b7⟩)
                | (go_at_call 25; (with_reducible refine (D2.out _ (‹_ ∧ Below w6.heap.size w6 _›.2)).mono ?_); rintro e w8 ⟨rfl, b8⟩))
            all_goals
              go_wp2
              go_ret
              exact ⟨by first | rfl | (simp; done) | (simp; omega), B6.trans (b8.mono B6.size)⟩
          · rw [hu] at c2' hq
            simp only [Bool.not_true] at hq
            clear hu c0 c1
            go_wp2_with fail
            go_region_held3 (fun w2 => w2.cell? ⟨b', off' + 2, none⟩ = some (.bool true) ∧ Below w6.heap.size w6 w2)
              (first
                | exact cell_below c2' hbb (Below.refl _ _).drew
                | exact cell_below c2' hbb b7
                | exact cell_below c2' hbb b8)
              (first
                | (go_at_call 20; (with_reducible refine (D1.out _ (‹_ ∧ Below w6.heap.size w6 _›.2)).mono ?_); rintro e w7 ⟨rfl, b7⟩)
                | (go_at_call 25; (with_reducible refine (D2.out _ (‹_ ∧ Below w6.heap.size w6 _›.2)).mono ?_); rintro e w8 ⟨rfl, b8⟩))
            all_goals
              go_wp2
              go_ret
              exact ⟨by first | rfl | (simp; done) | (simp; omega), B6.trans (b8.mono B6.size)⟩
        · have e1 : ((R.length : Int) == 1) = false := by rw [beq_eq_false_iff_ne]; omega
          have e1b : (R.length == 1) = false := by rw [beq_eq_false_iff_ne]; exact hone0
          have hq : (F == M) = false := by rw [beq_eq_false_iff_ne]; intro e; exact hone0 (H1F.out.1 e).1
          have e1c : decide (R.length = 1) = false := by rw [decide_eq_false_iff_not]; exact hone0
          clear c0 c1 c2' hone0
          go_wp2_with fail
          refine wp_region_quiet_below (by kernel_rfl) (by kernel_rfl) ?_
          repeat (go_big_quiet_step (first
            | (go_at_call 20; exact calls_upto (D1.out _ (UpTo.h _)))
            | (go_at_call 25; exact calls_upto (D2.out _ (UpTo.h _)))))
          refine wpQuiet_nil ?_
          intro _ hw'
          obtain ⟨⟨wq, hq⟩, hw''⟩ := hw'
          subst hw''
          go_wp2
          go_ret
          exact ⟨by first | rfl | (simp; done) | (simp; omega), B6.trans (hq.mono B6.size)⟩
    · have HV := Lib.hid hv
      clear hv
      go_wp2_with fail
      refine (iBG_inv A n c l p s w1 L1 HV.out (by omega)).mono ?_
      rintro e w2 ⟨A2, c2, rfl, o2, b2⟩
      have L2 := lst_up L1 b2
      have M2 := own_lst o2
      have B2 := b1.trans (b2.mono b1.size)
      clear L1 b2 b1 o2
      go_wp2_with fail
      refine (sBG_inv A n c l p s w2 L2 HV.out (by omega)).mono ?_
      rintro e w3 ⟨A3, c3, rfl, o3, b3⟩
      have M3 := lst_up M2 b3
      have N3 := own_lst o3
      have B3 := B2.trans (b3.mono B2.size)
      clear L2 M2 b3 B2 o3
      go_wp2_with fail
      refine (sameBuddies_same A2 A3 0 c2 c3 _ _ [] w3 M3 N3 (Nat.le_refl _) (Nat.le_refl _) (by omega)).mono ?_
      rintro e w4 ⟨rfl, b4⟩
      have B4 := B3.trans (b4.mono B3.size)
      clear M3 N3 b4 B3
      go_wp2_with fail
      refine (alive_any _).mono ?_
      rintro e w5 ⟨rfl, b5⟩
      go_wp2
      go_ret
      exact ⟨rfl, B4.trans (b5.mono B4.size)⟩
  · go_enter Try.func13, Try.ntmps13
    go_wp2
    go_ret
    exact ⟨rfl, Below.refl _ _⟩

end Go.Proofs.Ytlcgfncgjljgpaa.Wu
