/- The exact law of BuddyTake: the walk. Conditions: none. -/
import Derived.Test.YtlcgfncgjljgpaaTui
import Derived.Test.YtlcgfncgjljgpaaFrU
import Derived.Test.YtlcgfncgjljgpaaMarkU
import Derived.Test.YtlcgfncgjljgpaaCopyU
namespace Go.Proofs.Ytlcgfncgjljgpaa.Wu
open Go.RowKit Go.Proofs.Ytlcgfncgjljgpaa.Pl Go.Proofs.Ytlcgfncgjljgpaa.Wk

theorem FnExactBuddyTake_big {A : Option Addr} {n c : Nat} {l : List Blk} {p z : Int} {w : World} (h : InBud w A n l) (hn : 1048576 < n) :
    Calls Try.prog 10 #[.slice A n c, .int .i64 p, .int .i64 z] w fun e w' => e = .returned (.bool true) ∧ Below w.heap.size w w' := by
  have hm := h.max
  unfold maxLen at hm
  have hz : (1048576 : Int) - n < 0 := by omega
  clear h
  go_enter Try.func10, Try.ntmps10
  go_wp2_with fail
  refine (szBuddyS_big A n c w (by omega) hm).mono ?_
  rintro e w' ⟨rfl, rfl⟩
  go_wp2
  go_ret
  exact ⟨rfl, Below.refl _ _⟩

set_option maxHeartbeats 4000000 in
theorem FnExactBuddyTake_core {A : Option Addr} {n c : Nat} {l : List Blk} {p z : Int} {w : World} (h : InBud w A n l) (R : List Blk) (s : Int) (b : Bool) (hR : R.length ≤ 2097152)
    (CS0 : ∀ (A : Option Addr) (c : Nat) (w : World), Lst w w.heap.size A l.length l → l.length ≤ c → Calls Try.prog 31 #[.slice A l.length c, .int .i64 p, .int .i64 z] w (PostT R s b w))
    (CI0 : ∀ (A : Option Addr) (c : Nat) (w : World), Lst w w.heap.size A l.length l → l.length ≤ c → Calls Try.prog 32 #[.slice A l.length c, .int .i64 p, .int .i64 z] w (PostT R s b w)) :
    Calls Try.prog 10 #[.slice A n c, .int .i64 p, .int .i64 z] w fun e w' => e = .returned (.bool true) ∧ Below w.heap.size w w' := by
  have hm := h.max
  unfold maxLen at hm
  have hl := h.lst
  have h0 := h
  clear h
  have CS := Lib.hid CS0
  have CI := Lib.hid CI0
  clear CS0 CI0
  have hRR : R.length ≤ 1125899906842624 := by omega
  by_cases hn : n ≤ 1048576
  · cases b
    all_goals
      have hll : l.length ≤ 1125899906842624 := by have := hl.len; omega
      have hz : 0 ≤ (1048576 : Int) - n := by omega
      clear h0
      go_enter Try.func10, Try.ntmps10
      go_wp2_with fail
      refine (szBuddyS_any A n c w hn).mono ?_
      rintro e w' ⟨rfl, rfl⟩
      go_wp2_with fail
      refine (toBuddyS_any A n c l w hl hn).mono ?_
      rintro e w1 ⟨v1, rfl, o1, b1⟩
      obtain ⟨A1, c1, rfl, l1, _⟩ := o1.lst
      go_wp2_with fail
      refine (CS.out A1 c1 w1 l1 (own_cap o1)).mono ?_
      rintro e w2 ⟨A2, c2, rfl, o2, b2⟩
      have p2 := o2.slot
      have z1 := b1.size
      have z2 := b2.size
      have B2 := b1.trans (b2.mono b1.size)
      clear o1 l1 b1 b2 o2
      go_wp2_with fail
      refine (toBuddyS_any A n c l w2 (hl.up B2 (Nat.le_refl _) B2.size) hn).mono ?_
      rintro e w3 ⟨v3, rfl, o3, b3⟩
      obtain ⟨A3, c3, rfl, l3, _⟩ := o3.lst
      have p3 := o3.slot
      have k3 := own_cap o3
      have p2 := p2.below b3
      have z3 := b3.size
      have B3 := B2.trans (b3.mono B2.size)
      clear b3 o3 B2
      go_wp2_with fail
      refine (CI.out A3 c3 w3 l3 k3).mono ?_
      rintro e w4 ⟨A4, c4, rfl, o4, b4⟩
      have p4 := o4.slot
      have p3 := p3.below b4
      have p2 := p2.below b4
      have z4 := b4.size
      have B4 := B3.trans (b4.mono B3.size)
      clear b4 o4 B3 l3
      go_wp2_with fail
      refine (eqBuddyS_same A4 A2 R.length c4 c2 _ _ R w4 p4.lst p2.lst (Nat.le_refl _) (Nat.le_refl _) hRR).mono ?_
      rintro e w5 ⟨rfl, b5⟩
      have p4 := p4.below b5
      have p3 := p3.below b5
      have p2 := p2.below b5
      have z5 := b5.size
      have B5 := B4.trans (b5.mono B4.size)
      clear b5 B4
      go_wp2_with fail
      refine (toBuddyS_any A n c l w5 (hl.up B5 (Nat.le_refl _) B5.size) hn).mono ?_
      rintro e w6 ⟨v6, rfl, o6, b6⟩
      obtain ⟨A6, c6, rfl, l6, _⟩ := o6.lst
      have p4 := p4.below b6
      have p3 := p3.below b6
      have p2 := p2.below b6
      have z6 := b6.size
      have B6 := B5.trans (b6.mono B5.size)
      clear b6 o6 B5
      go_wp2_with fail
      refine (eqBuddyS_same A3 A6 l.length c3 c6 _ _ l w6 p3.lst l6 (Nat.le_refl _) (Nat.le_refl _) hll).mono ?_
      rintro e w7 ⟨rfl, b7⟩
      have p4 := p4.below b7
      have p3 := p3.below b7
      have p2 := p2.below b7
      have z7 := b7.size
      have B7 := B6.trans (b7.mono B6.size)
      clear b7 l6 B6
      go_wp2_with fail
      refine (mark_any A3 l.length c3 _ l w7 p3.own hll).mono ?_
      rintro e w8 ⟨rfl, o8, g8⟩
      have p4 := p4.past p3 g8 (by omega)
      have p2 := p2.past p3 g8 (by omega)
      have z8 := g8.size
      have B8 := B7.grown g8 B7.size (fun k hk => by have := own_at p3.own k hk; omega)
      clear B7 o8 g8 p3
      go_wp2_with fail
      refine (eqBuddyS_same A4 A2 R.length c4 c2 _ _ R w8 p4.lst p2.lst (Nat.le_refl _) (Nat.le_refl _) hRR).mono ?_
      rintro e w9 ⟨rfl, b9⟩
      have p4 := p4.below b9
      have p2 := p2.below b9
      have z9 := b9.size
      have B9 := B8.trans (b9.mono B8.size)
      clear b9 B8
      go_wp2_with fail
      refine (mark_any A4 R.length c4 _ R w9 p4.own hRR).mono ?_
      rintro e w10 ⟨rfl, o10, g10⟩
      have p2 := p2.past p4 g10 (by omega)
      have z10 := g10.size
      have B10 := B9.grown g10 B9.size (fun k hk => by have := own_at p4.own k hk; omega)
      have p4 := o10.slot
      have hh : Lst w10 w10.heap.size A4 R.length (mks R.length) := by have := own_lst o10; rwa [mks_length] at this
      clear B9 o10 g10
      go_wp2_with fail
      refine (held_any A4 R.length c4 _ w10 hh hRR).mono ?_
      rintro e w' ⟨rfl, rfl⟩
      clear hh
      go_wp2_with fail
      refine (toBuddyS_any A n c l w10 (hl.up B10 (Nat.le_refl _) B10.size) hn).mono ?_
      rintro e w11 ⟨v11, rfl, o11, b11⟩
      obtain ⟨A11, c11, rfl, l11, _⟩ := o11.lst
      have p4 := p4.below b11
      have p2 := p2.below b11
      have z11 := b11.size
      have B11 := B10.trans (b11.mono B10.size)
      have k11 := own_cap o11
      clear b11 o11 B10
      go_wp2_with fail
      refine (CI.out A11 c11 w11 l11 k11).mono ?_
      rintro e w12 ⟨A12, c12, rfl, o12, b12⟩
      have p4 := p4.below b12
      have p2 := p2.below b12
      have z12 := b12.size
      have B12 := B11.trans (b12.mono B11.size)
      have l12 := own_lst o12
      clear b12 B11 l11 o12
      go_wp2_with fail
      refine (eqBuddyS_same A12 A2 R.length c12 c2 _ _ R w12 l12 p2.lst (Nat.le_refl _) (Nat.le_refl _) hRR).mono ?_
      rintro e w13 ⟨rfl, b13⟩
      have p4 := p4.below b13
      have z13 := b13.size
      have B13 := B12.trans (b13.mono B12.size)
      clear b13 B12 l12
      have hh : Lst w13 w13.heap.size A4 R.length (mks R.length) := by have := own_lst p4.own; rwa [mks_length] at this
      go_wp2_with fail
      refine (held_any A4 R.length c4 _ w13 hh hRR).mono ?_
      rintro e w' ⟨rfl, rfl⟩
      go_wp2
      go_ret
      exact ⟨rfl, B13⟩
  · exact FnExactBuddyTake_big h0 (by omega)


theorem lst_ptr {w : World} {B n : Nat} {A : Option Addr} {l : List Blk} (h : Lst w B A n l) (hn : 0 < n) : ∃ b off, A = some ⟨b, off, none⟩ := by
  obtain ⟨b, off, e, _⟩ := h.cells 0 hn
  exact ⟨b, off, e⟩
/-- BuddyTake of the reference, whatever it is handed. -/
theorem sBT_all (A : Option Addr) (n c : Nat) (l : List Blk) (p z o : Int) (R : List Blk) (s : Int) (b : Bool) (w : World) (h : Lst w w.heap.size A n l) (hnc : n ≤ c) (hv : VU l p) (hP : PFor z o) (hR : TakeR l o R s b) :
    Calls Try.prog 31 #[.slice A n c, .int .i64 p, .int .i64 z] w (PostT R s b w) := by
  obtain ⟨b0, off, rfl⟩ := lst_ptr h (by have := VU_pos hv; have := h.len; omega)
  rcases hP with ⟨hz, rfl⟩ | hP
  · obtain ⟨e1, e2, e3⟩ := TakeR_no hR (.inl (by omega))
    subst e1 e2 e3
    exact sBT_neg _ n c R p z w h hv hz
  · obtain ⟨W, rfl⟩ := Int.eq_ofNat_of_zero_le hP.2.2.1
    exact sBT_any b0 off n c W l p z R s b w h hnc hv (.inr hP) hR
theorem iBT_all (A : Option Addr) (n c : Nat) (l : List Blk) (p z o : Int) (R : List Blk) (s : Int) (b : Bool) (w : World) (h : Lst w w.heap.size A n l) (hnc : n ≤ c) (hv : VU l p) (hP : PFor z o) (hR : TakeR l o R s b) :
    Calls Try.prog 32 #[.slice A n c, .int .i64 p, .int .i64 z] w (PostT R s b w) := by
  obtain ⟨b0, off, rfl⟩ := lst_ptr h (by have := VU_pos hv; have := h.len; omega)
  exact iBT_any b0 off n c l p z o R s b w h hnc hv hP hR

theorem FnExactBuddyTake_walk {A : Option Addr} {n c : Nat} {l : List Blk} {p z : Int} {w : World} (h : InBud w A n l) (_ : (Lit.int .i64 p).wf = true) (_ : (Lit.int .i64 z).wf = true) :
    Calls Try.prog 10 #[.slice A n c, .int .i64 p, .int .i64 z] w fun e w' => e = .returned (.bool true) ∧ Below w.heap.size w w' := by
  by_cases hn : n ≤ 1048576
  · have e := h.lst.len
    by_cases hv : VU l p
    · obtain ⟨o, ho⟩ := PFor_ex z
      obtain ⟨R, s, b, hR⟩ := TakeR_ex l o
      have hl := VU_len (TakeR_valid hv hR)
      exact FnExactBuddyTake_core h R s b (by omega) (fun A c w hw hc => sBT_all A l.length c l p z o R s b w hw hc hv ho hR) (fun A c w hw hc => iBT_all A l.length c l p z o R s b w hw hc hv ho hR)
    · exact FnExactBuddyTake_core h [] (-1) false (by simp) (fun A c w hw _ => sBT_inv A l.length c l p z w hw hv (by omega)) (fun A c w hw _ => iBT_inv A l.length c l p z w hw hv (by omega))
  · exact FnExactBuddyTake_big h (by omega)

end Go.Proofs.Ytlcgfncgjljgpaa.Wu
