/- The laws BlockAt, NewBlocks: their walks. Conditions: none. -/
import Derived.Test.YtofolkiikmnbhaaSame
import Derived.Test.YtofolkiikmnbhaaExAt
namespace Go.Proofs.Ytofolkiikmnbhaa.Wk
open Go.RowKit Go.Proofs.Ytofolkiikmnbhaa.Pl

theorem at_next {l : List Blk} {t x : Int} (hv : V l t) {k k' : Nat} (hk : AtW l x k) (hk' : AtW l (x + 1) k') : k' = k ∨ k' = k + 1 := by
  rcases Nat.lt_trichotomy k' k with h | h | h
  · have := starts_mono hv.2.2 h hk.1; have := hk.2.1; have := hk'.2.2; omega
  · exact .inl h
  · by_cases e : k' = k + 1
    · exact .inr e
    · exfalso
      have h1 := starts_mono hv.2.2 (show k < k + 1 by omega) (show k + 1 < l.length by have := hk'.1; omega)
      have h2 := starts_mono hv.2.2 (show k + 1 < k' by omega) hk'.1
      have h3 := blk_z hv.2.2 (show k + 1 < l.length by have := hk'.1; omega)
      have := hk.2.2; have := hk'.2.1; omega

set_option maxRecDepth 100000 in
set_option maxHeartbeats 8000000 in
theorem FnBlockAt_walk {a : Option Addr} {len cap : Nat} {z : List Int} {w : World} (h : IsRow .u8 w a len cap z) : Calls Try.prog 19 #[.slice a len cap] w fun e w' => e = .returned (.bool true) ∧ Below w.heap.size w w' := by
  have hm := row_len h
  have HD := Lib.hid (dDrawBlockAt h)
  clear h
  by_cases hl : len ≤ 1048576
  · go_enter Try.func19, Try.ntmps19
    go_wp2_with fail
    refine HD.out.mono ?_
    rintro e w1 ⟨A, n, c, l, t, x, rfl, o1, n1, n2, t1, t2, x1, x2, b1⟩
    have L1 := own_lstn o1
    have HN := Lib.hid (own_form o1).1
    clear HD o1
    by_cases hv : V l t
    · have CV := Lib.hid (fun w (hw : Lst w w.heap.size A n l) => sValid_yes A n c l t w hw hv)
      by_cases hx : x < 0 ∨ t ≤ x
      · have C1 := Lib.hid (fun w (hw : Lst w w.heap.size A n l) => at_yes A n c l t x (-1) w hw hv (BAt_out hv hx))
        have C2 := Lib.hid (fun w (hw : Lst w w.heap.size A n l) => sat_yes A n c l t x (-1) w hw hv (BAt_out hv hx))
        have hx' : x < 0 ∨ (¬ x < 0 ∧ t ≤ x) := by omega
        clear hv hx
        go_wp2_with fail
        refine (C1.out w1 L1).mono ?_
        rintro e w2 ⟨rfl, b2⟩
        have L2 := lst_up L1 b2
        have B2 := b1.trans (b2.mono b1.size)
        clear L1 b2 b1
        go_wp2_with fail
        refine (C2.out w2 L2).mono ?_
        rintro e w3 ⟨rfl, b3⟩
        have L3 := lst_up L2 b3
        have B3 := B2.trans (b3.mono B2.size)
        clear L2 b3 B2
        go_wp2_with fail
        refine (CV.out w3 L3).mono ?_
        rintro e w4 ⟨rfl, b4⟩
        have B4 := B3.trans (b4.mono B3.size)
        clear L3 b4 B3
        rcases hx' with hx | ⟨hx0, hx⟩
        all_goals
          go_wp2
          go_ret
          exact ⟨rfl, B4⟩
      · obtain ⟨k, hr, ha⟩ := BAt_in hv (show 0 ≤ x by omega) (by omega)
        have C1 := Lib.hid (fun w (hw : Lst w w.heap.size A n l) => at_yes A n c l t x k w hw hv hr)
        have C2 := Lib.hid (fun w (hw : Lst w w.heap.size A n l) => sat_yes A n c l t x k w hw hv hr)
        have hx0 : ¬ x < 0 := by omega
        have hx1 : x < t := by omega
        have hx1' : ¬ t ≤ x := by omega
        have hbl := V_blk hv ha.1
        obtain ⟨g1, g2, g3⟩ := ha
        obtain ⟨v1, v2, v3⟩ := hbl
        have hkn : k < n := by have := HN.out; omega
        have i1 : (0 : Int) ≤ (k : Int) := by omega
        have i2 : (k : Int) < (n : Int) := by omega
        have q1 : IntKind.i64.wrap (x + 1) = x + 1 := IntWalk.i64_in _ (by omega)
        have q2 : IntKind.i64.wrap ((bk l k).s + (bk l k).z) = (bk l k).s + (bk l k).z := IntWalk.i64_in _ (by omega)
        have q3 : IntKind.i64.wrap ((k : Int) + 1) = (k : Int) + 1 := IntWalk.i64_in _ (by omega)
        have Q := Lib.hid (And.intro q1 (And.intro q2 q3))
        have hN : (∃ _ : x + 1 = t, BAt l (x + 1) (-1)) ∨ (x + 1 < t ∧ (BAt l (x + 1) k ∨ BAt l (x + 1) ((k + 1 : Nat) : Int))) := by
          by_cases e : x + 1 = t
          · exact .inl ⟨e, BAt_out hv (.inr (by omega))⟩
          · obtain ⟨k', hr', ha'⟩ := BAt_in hv (show 0 ≤ x + 1 by omega) (by omega)
            refine .inr ⟨by omega, ?_⟩
            rcases at_next hv ⟨g1, g2, g3⟩ ha' with rfl | rfl
            · exact .inl hr'
            · exact .inr hr'
        have CN := Lib.hid (fun (r : Int) (h : BAt l (x + 1) r) w (hw : Lst w w.heap.size A n l) => at_yes A n c l t (x + 1) r w hw hv h)
        have HNX := Lib.hid hN
        clear hv hx hr hN q1 q2 q3
        go_wp2_with fail
        refine (C1.out w1 L1).mono ?_
        rintro e w2 ⟨rfl, b2⟩
        have L2 := lst_up L1 b2
        have B2 := b1.trans (b2.mono b1.size)
        clear L1 b2 b1
        go_wp2_with fail
        refine (C2.out w2 L2).mono ?_
        rintro e w3 ⟨rfl, b3⟩
        have L3 := lst_up L2 b3
        have B3 := B2.trans (b3.mono B2.size)
        clear L2 b3 B2
        go_wp2_with fail
        refine (CV.out w3 L3).mono ?_
        rintro e w4 ⟨rfl, b4⟩
        have L4 := lst_up L3 b4
        have B4 := B3.trans (b4.mono B3.size)
        clear L3 b4 B3
        rcases HNX.out with ⟨ht, hr⟩ | ⟨ht, hr | hr⟩
        · have CC := Lib.hid (CN.out _ hr w4 L4)
          clear hr
          subst ht
          go_wp2_with fail
          refine CC.out.mono ?_
          rintro e w5 ⟨rfl, b5⟩
          have B5 := B4.trans (b5.mono B4.size)
          obtain ⟨b', off', rfl, _, c0, c1, c2⟩ := (L4.below b5 (Nat.le_refl _)).cells k hkn
          clear L4 b5 B4 CC
          have q1 := Q.out.1
          have q2 := Q.out.2.1
          go_wp2
          go_quiet (fail)
          clear q1 q2
          go_wp2
          go_ret
          exact ⟨by first | rfl | (simp; done), ⟨B5.os, B5.tape, B5.output, B5.size, B5.block⟩⟩
        · have CC := Lib.hid (CN.out _ hr w4 L4)
          have q4 : ((x + 1) == t) = false := by rw [beq_eq_false_iff_ne]; omega
          clear hr
          go_wp2_with fail
          refine CC.out.mono ?_
          rintro e w5 ⟨rfl, b5⟩
          have B5 := B4.trans (b5.mono B4.size)
          obtain ⟨b', off', rfl, _, c0, c1, c2⟩ := (L4.below b5 (Nat.le_refl _)).cells k hkn
          clear L4 b5 B4 CC
          have q1 := Q.out.1
          have q2 := Q.out.2.1
          go_wp2
          go_quiet (fail)
          clear q1 q2
          go_wp2
          go_ret
          exact ⟨by first | rfl | (simp; done), ⟨B5.os, B5.tape, B5.output, B5.size, B5.block⟩⟩
        · have CC := Lib.hid (CN.out _ hr w4 L4)
          have q4 : ((x + 1) == t) = false := by rw [beq_eq_false_iff_ne]; omega
          have q5 : (((k : Int) + 1) == (k : Int)) = false := by rw [beq_eq_false_iff_ne]; omega
          have q6 : (((k + 1 : Nat) : Int) == (k : Int)) = false := by rw [beq_eq_false_iff_ne]; omega
          have q7 : (k + 1 == k) = false := by rw [beq_eq_false_iff_ne]; omega
          clear hr
          go_wp2_with fail
          refine CC.out.mono ?_
          rintro e w5 ⟨rfl, b5⟩
          have B5 := B4.trans (b5.mono B4.size)
          obtain ⟨b', off', rfl, _, c0, c1, c2⟩ := (L4.below b5 (Nat.le_refl _)).cells k hkn
          clear L4 b5 B4 CC
          have q1 := Q.out.1
          have q2 := Q.out.2.1
          have q3 := Q.out.2.2
          go_wp2
          go_quiet (fail)
          clear q1 q2 q3
          go_wp2
          go_ret
          exact ⟨by first | rfl | (simp; done), ⟨B5.os, B5.tape, B5.output, B5.size, B5.block⟩⟩
    · have HV := Lib.hid hv
      clear hv
      go_wp2_with fail
      refine (iAt_inv A n c l t x w1 L1 HV.out (by omega)).mono ?_
      rintro e w2 ⟨rfl, b2⟩
      have L2 := lst_up L1 b2
      have B2 := b1.trans (b2.mono b1.size)
      clear L1 b2 b1
      go_wp2_with fail
      refine (sAt_inv A n c l t x w2 L2 HV.out (by omega)).mono ?_
      rintro e w3 ⟨rfl, b3⟩
      have L3 := lst_up L2 b3
      have B3 := B2.trans (b3.mono B2.size)
      clear L2 b3 B2
      go_wp2_with fail
      refine (sValid_no A n c l t w3 L3 HV.out (by omega)).mono ?_
      rintro e w4 ⟨rfl, b4⟩
      have B4 := B3.trans (b4.mono B3.size)
      clear L3 b4 B3
      go_wp2_with fail
      refine (alive_any _).mono ?_
      rintro e w5 ⟨rfl, b5⟩
      go_wp2
      go_ret
      exact ⟨rfl, B4.trans (b5.mono B4.size)⟩
  · go_enter Try.func19, Try.ntmps19
    go_wp2
    go_ret
    exact ⟨rfl, Below.refl _ _⟩

end Go.Proofs.Ytofolkiikmnbhaa.Wk
