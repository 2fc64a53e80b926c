/- The laws BlocksValid, LargestFree, Fragmented: their walks. Conditions: none. -/
import Derived.Test.YtofolkiikmnbhaaSame
import Derived.Test.YtofolkiikmnbhaaFrag
import Derived.Test.YtofolkiikmnbhaaTs
import Derived.Test.YtofolkiikmnbhaaApg
namespace Go.Proofs.Ytofolkiikmnbhaa.Wk
open Go.RowKit Go.Proofs.Ytofolkiikmnbhaa.Pl

theorem V_more {l : List Blk} {t : Int} (hv : V l t) : ¬ V l (t + 1) := fun h => by have := Ok_inj hv.2.2 h.2.2; omega
theorem V_behind {l : List Blk} {t : Int} (hv : V l t) : ¬ V (l ++ [⟨t, 1, false⟩]) t := fun h => by
  have h1 := h.2.2
  rw [Ok_append] at h1
  obtain ⟨m, h2, h3⟩ := h1
  have := Ok_inj hv.2.2 h2
  have h4 := h3.2.2.2
  simp only [Ok] at h4
  omega

set_option maxHeartbeats 4000000 in
theorem FnBlocksValid_walk {a : Option Addr} {len cap : Nat} {z : List Int} {w : World} (h : IsRow .u8 w a len cap z) : Calls Try.prog 15 #[.slice a len cap] w fun e w' => e = .returned (.bool true) ∧ Below w.heap.size w w' := by
  have hm := row_len h
  have HD := Lib.hid (dDrawBlocksValid h)
  clear h
  by_cases hl : len ≤ 1048576
  · go_enter Try.func15, Try.ntmps15
    go_wp2_with fail
    refine HD.out.mono ?_
    rintro e w1 ⟨A, n, c, l, t, rfl, o1, n1, n2, t1, t2, b1⟩
    have L1 := own_lstn o1
    have HN := Lib.hid (own_form o1).1
    clear HD o1
    by_cases hv : V l t
    · have HV := Lib.hid hv
      have HV1 := Lib.hid (V_more hv)
      have HV2 := Lib.hid (V_behind hv)
      clear hv
      go_wp2_with fail
      refine (iValid_yes A n c l t w1 L1 HV.out).mono ?_
      rintro e w2 ⟨rfl, b2⟩
      have L2 := lst_up L1 b2
      have B2 := b1.trans (b2.mono b1.size)
      clear L1 b2 b1
      go_wp2_with fail
      refine (sValid_yes A n c l t w2 L2 HV.out).mono ?_
      rintro e w3 ⟨rfl, b3⟩
      have L3 := lst_up L2 b3
      have B3 := B2.trans (b3.mono B2.size)
      clear L2 b3 B2
      go_wp2_with fail
      refine (iValid_no A n c l (t + 1) w3 L3 HV1.out (by omega)).mono ?_
      rintro e w4 ⟨rfl, b4⟩
      have L4 := Lib.hid (lst_up (lst_up L3 b4) ((Below.refl _ _).alloc (Nat.le_refl _) (.cells #[] 39)))
      have B4 := B3.trans (b4.mono B3.size)
      clear L3 b4 B3
      go_wp2_with (first
        | (at_builtin; refine append_blk_if (by rfl) _ _ (by rfl) w4.heap.size _ [] l _ A n c (by rfl) (own_empty w4) (by rfl) L4.out (by simp; omega) (by simp) n (by simp) ?_; intro A5 c5 w5 o5 b5 g5 t5; have B5 := (B4.alloc B4.size (.cells #[] 39)).trans (b5.mono B4.size))
        | (at_builtin; go_loud (refine append_blk_if (by rfl) _ _ (by rfl) w4.heap.size _ ([] ++ l) [⟨t, 1, false⟩] _ (some ⟨w5.heap.size, 0, none⟩) 1 1 (by rfl) (o5.below ((Below.refl _ _).alloc (Nat.le_refl _) _)) (by rfl) (lst_one (Bk.new w5 #[.int .i64 t, .int .i64 1, .bool false] 39)) (by rw [List.nil_append, ← HN.out]; omega) (by have := b5.size; simp at this; simp; omega) (n + 1) (by rw [List.nil_append, ← HN.out]) ?_); intro A6 c6 w6 o6 b6 g6 t6; have B6 := (B5.alloc B5.size (.cells #[.int .i64 t, .int .i64 1, .bool false] 39)).trans (b6.mono B4.size)))
      have L6 := own_lstn o6
      refine (iValid_no A6 (n + 1) c6 _ t w6 L6 (by rw [List.nil_append]; exact HV2.out) (by omega)).mono ?_
      rintro e w7 ⟨rfl, b7⟩
      go_wp2
      go_ret
      exact ⟨rfl, B6.trans (b7.mono B6.size)⟩
    · have HV := Lib.hid hv
      clear hv
      go_wp2_with fail
      refine (iValid_no A n c l t w1 L1 HV.out (by omega)).mono ?_
      rintro e w2 ⟨rfl, b2⟩
      have L2 := lst_up L1 b2
      have B2 := b1.trans (b2.mono b1.size)
      clear L1 b2 b1
      go_wp2_with fail
      refine (sValid_no A n c l t w2 L2 HV.out (by omega)).mono ?_
      rintro e w3 ⟨rfl, b3⟩
      have B3 := B2.trans (b3.mono B2.size)
      clear L2 b3 B2
      go_wp2_with fail
      refine (alive_any _).mono ?_
      rintro e w4 ⟨rfl, b4⟩
      go_wp2
      go_ret
      exact ⟨rfl, B3.trans (b4.mono B3.size)⟩
  · go_enter Try.func15, Try.ntmps15
    go_wp2
    go_ret
    exact ⟨rfl, Below.refl _ _⟩

end Go.Proofs.Ytofolkiikmnbhaa.Wk
