/- Fragmented, of the program and of the reference. Conditions: a list that a slice of blocks reads as. -/
import Derived.Test.YtofolkiikmnbhaaBlf
import Derived.Test.YtofolkiikmnbhaaFrB
namespace Go.Proofs.Ytofolkiikmnbhaa.Wk
open Go.RowKit Go.Proofs.Ytofolkiikmnbhaa.Pl

/-- The share of the free words outside the largest free block. -/
def frag (l : List Blk) : Int := if fw l ≤ 0 then fw l else 100 * (fw l - lf l) / fw l

theorem iFrag_no (A : Option Addr) (n c : Nat) (l : List Blk) (t : Int) (w : World) (h : Lst w w.heap.size A n l) (hv : ¬ V l t) (hnm : n ≤ 1125899906842624) :
    Calls Try.prog 56 #[.slice A n c, .int .i64 t] w fun e w' => e = .returned (.int .i64 (-1)) ∧ Below w.heap.size w w' := by
  have HC := Lib.hid (iFree_no A n c l t w h hv hnm)
  clear hv
  go_enter Try.func56, Try.ntmps56
  go_wp2_with fail
  refine HC.out.mono ?_
  rintro e w' ⟨rfl, hb⟩
  go_wp2
  go_ret
  exact ⟨rfl, hb⟩

set_option maxHeartbeats 1000000 in
theorem iFrag_yes (A : Option Addr) (n c : Nat) (l : List Blk) (t : Int) (w : World) (h : Lst w w.heap.size A n l) (hv : V l t) :
    Calls Try.prog 56 #[.slice A n c, .int .i64 t] w fun e w' => e = .returned (.int .i64 (frag l)) ∧ Below w.heap.size w w' := by
  have h1 := fw_take_bd hv l.length
  have h2 := lf_take_bd hv l.length
  rw [List.take_length] at h1 h2
  have h3 := lf_le_fw hv.2.2
  have CF := Lib.hid (iFree_yes A n c l t w h hv)
  have CL := Lib.hid (fun (w1 : World) (b : Below w.heap.size w w1) => iLarge_yes A n c l t w1 (h.up b (Nat.le_refl _) b.size) hv)
  have HF := Lib.hid (show frag l = if fw l ≤ 0 then fw l else 100 * (fw l - lf l) / fw l from rfl)
  generalize frag l = r at HF
  generalize fw l = f at h1 h3 CF HF
  generalize lf l = g at h2 h3 CL HF
  obtain ⟨a1, a2⟩ := h1
  obtain ⟨a3, a4⟩ := h2
  by_cases h0 : f ≤ 0
  · have HR := Lib.hid (show r = f by rw [HF.out, if_pos h0])
    clear HF
    go_enter Try.func56, Try.ntmps56
    go_wp2_with fail
    refine CF.out.mono ?_
    rintro e w1 ⟨rfl, hb⟩
    go_wp2
    go_ret
    exact ⟨by rw [HR.out]; rfl, hb⟩
  · have HR := Lib.hid (show r = 100 * (f - g) / f by rw [HF.out, if_neg h0])
    clear HF
    have a5 : 0 ≤ 100 * (f - g) / f := Int.ediv_nonneg (by omega) (by omega)
    have a6 : 100 * (f - g) / f ≤ 100 * (f - g) := Int.ediv_le_self _ (by omega)
    go_enter Try.func56, Try.ntmps56
    go_wp2_with fail
    refine CF.out.mono ?_
    rintro e w1 ⟨rfl, hb⟩
    go_wp2_with fail
    refine (CL.out w1 hb).mono ?_
    rintro e w2 ⟨rfl, hb2⟩
    go_wp2
    go_ret
    exact ⟨by rw [HR.out]; rfl, hb.trans (hb2.mono hb.size)⟩

theorem sFrag_no (A : Option Addr) (n c : Nat) (l : List Blk) (t : Int) (w : World) (h : Lst w w.heap.size A n l) (hv : ¬ V l t) (hnm : n ≤ 1125899906842624) :
    Calls Try.prog 55 #[.slice A n c, .int .i64 t] w fun e w' => e = .returned (.int .i64 (-1)) ∧ Below w.heap.size w w' := by
  have HC := Lib.hid (sFree_no A n c l t w h hv hnm)
  clear hv
  go_enter Try.func55, Try.ntmps55
  go_wp2_with fail
  refine HC.out.mono ?_
  rintro e w' ⟨rfl, hb⟩
  go_wp2
  go_ret
  exact ⟨rfl, hb⟩

set_option maxHeartbeats 1000000 in
theorem sFrag_yes (A : Option Addr) (n c : Nat) (l : List Blk) (t : Int) (w : World) (h : Lst w w.heap.size A n l) (hv : V l t) :
    Calls Try.prog 55 #[.slice A n c, .int .i64 t] w fun e w' => e = .returned (.int .i64 (frag l)) ∧ Below w.heap.size w w' := by
  have h1 := fw_take_bd hv l.length
  have h2 := lf_take_bd hv l.length
  rw [List.take_length] at h1 h2
  have h3 := lf_le_fw hv.2.2
  have CF := Lib.hid (sFree_yes A n c l t w h hv)
  have CL := Lib.hid (fun (w1 : World) (b : Below w.heap.size w w1) => sLarge_yes A n c l t w1 (h.up b (Nat.le_refl _) b.size) hv)
  have HF := Lib.hid (show frag l = if fw l ≤ 0 then fw l else 100 * (fw l - lf l) / fw l from rfl)
  generalize frag l = r at HF
  generalize fw l = f at h1 h3 CF HF
  generalize lf l = g at h2 h3 CL HF
  obtain ⟨a1, a2⟩ := h1
  obtain ⟨a3, a4⟩ := h2
  by_cases h0 : f ≤ 0
  · have HR := Lib.hid (show r = f by rw [HF.out, if_pos h0])
    clear HF
    go_enter Try.func55, Try.ntmps55
    go_wp2_with fail
    refine CF.out.mono ?_
    rintro e w1 ⟨rfl, hb⟩
    go_wp2
    go_ret
    exact ⟨by rw [HR.out]; rfl, hb⟩
  · have HR := Lib.hid (show r = 100 * (f - g) / f by rw [HF.out, if_neg h0])
    clear HF
    have a5 : 0 ≤ 100 * (f - g) / f := Int.ediv_nonneg (by omega) (by omega)
    have a6 : 100 * (f - g) / f ≤ 100 * (f - g) := Int.ediv_le_self _ (by omega)
    go_enter Try.func55, Try.ntmps55
    go_wp2_with fail
    refine CF.out.mono ?_
    rintro e w1 ⟨rfl, hb⟩
    go_wp2_with fail
    refine (CL.out w1 hb).mono ?_
    rintro e w2 ⟨rfl, hb2⟩
    go_wp2
    go_ret
    exact ⟨by rw [HR.out]; rfl, hb.trans (hb2.mono hb.size)⟩

set_option maxHeartbeats 2000000 in
theorem FnExactFragmented_walk {A : Option Addr} {n c : Nat} {l : List Blk} {t : Int} {w : World} (h : InBlk w A n l) (_wt : (Lit.int .i64 t).wf = true) :
    Calls Try.prog 14 #[.slice A n c, .int .i64 t] w fun e w' => e = .returned (.bool true) ∧ Below w.heap.size w w' := by
  have hm := h.max
  unfold maxLen at hm
  have hl := h.lst
  clear h
  by_cases hn : n ≤ 1048576
  · have hll : l.length ≤ 1125899906842624 := by have := hl.len; omega
    have hz : 0 ≤ (1048576 : Int) - n := by omega
    by_cases hv : V l t
    · go_enter Try.func14, Try.ntmps14
      go_wp2_with fail
      refine (szBlockS_any A n c w hn).mono ?_
      rintro e w' ⟨rfl, rfl⟩
      go_wp2_with fail
      refine (toBlockS_any A n c l w hl hn).mono ?_
      rintro e w1 ⟨v1, rfl, o1, b1⟩
      obtain ⟨A1, c1, rfl, l1, _⟩ := o1.lst
      go_wp2_with fail
      refine (sFrag_yes A1 l.length c1 l t w1 l1 hv).mono ?_
      rintro e w2 ⟨rfl, b2⟩
      have b12 := b1.trans (b2.mono b1.size)
      go_wp2_with fail
      refine (toBlockS_any A n c l w2 (hl.up b12 (Nat.le_refl _) b12.size) hn).mono ?_
      rintro e w3 ⟨v3, rfl, o3, b3⟩
      obtain ⟨A3, c3, rfl, l3, _⟩ := o3.lst
      have b13 := b12.trans (b3.mono b12.size)
      go_wp2_with fail
      refine (iFrag_yes A3 l.length c3 l t w3 l3 hv).mono ?_
      rintro e w4 ⟨rfl, b4⟩
      have b14 := b13.trans (b4.mono b13.size)
      go_wp2_with fail
      refine (toBlockS_any A n c l w4 (hl.up b14 (Nat.le_refl _) b14.size) hn).mono ?_
      rintro e w5 ⟨v5, rfl, o5, b5⟩
      obtain ⟨A5, c5, rfl, l5, _⟩ := o5.lst
      have b15 := b14.trans (b5.mono b14.size)
      have b35 := b4.trans (b5.mono b4.size)
      go_wp2_with fail
      refine (eqBlockS_same A3 A5 l.length c3 c5 w5.heap.size w5.heap.size l w5 (l3.up b35 (Nat.le_refl _) b35.size) l5 (Nat.le_refl _) (Nat.le_refl _) hll).mono ?_
      rintro e w6 ⟨rfl, b6⟩
      go_wp2
      go_ret
      exact ⟨rfl, b15.trans (b6.mono b15.size)⟩
    · go_enter Try.func14, Try.ntmps14
      go_wp2_with fail
      refine (szBlockS_any A n c w hn).mono ?_
      rintro e w' ⟨rfl, rfl⟩
      go_wp2_with fail
      refine (toBlockS_any A n c l w hl hn).mono ?_
      rintro e w1 ⟨v1, rfl, o1, b1⟩
      obtain ⟨A1, c1, rfl, l1, _⟩ := o1.lst
      go_wp2_with fail
      refine (sFrag_no A1 l.length c1 l t w1 l1 hv hll).mono ?_
      rintro e w2 ⟨rfl, b2⟩
      have b12 := b1.trans (b2.mono b1.size)
      go_wp2_with fail
      refine (toBlockS_any A n c l w2 (hl.up b12 (Nat.le_refl _) b12.size) hn).mono ?_
      rintro e w3 ⟨v3, rfl, o3, b3⟩
      obtain ⟨A3, c3, rfl, l3, _⟩ := o3.lst
      have b13 := b12.trans (b3.mono b12.size)
      go_wp2_with fail
      refine (iFrag_no A3 l.length c3 l t w3 l3 hv hll).mono ?_
      rintro e w4 ⟨rfl, b4⟩
      have b14 := b13.trans (b4.mono b13.size)
      go_wp2_with fail
      refine (toBlockS_any A n c l w4 (hl.up b14 (Nat.le_refl _) b14.size) hn).mono ?_
      rintro e w5 ⟨v5, rfl, o5, b5⟩
      obtain ⟨A5, c5, rfl, l5, _⟩ := o5.lst
      have b15 := b14.trans (b5.mono b14.size)
      have b35 := b4.trans (b5.mono b4.size)
      go_wp2_with fail
      refine (eqBlockS_same A3 A5 l.length c3 c5 w5.heap.size w5.heap.size l w5 (l3.up b35 (Nat.le_refl _) b35.size) l5 (Nat.le_refl _) (Nat.le_refl _) hll).mono ?_
      rintro e w6 ⟨rfl, b6⟩
      go_wp2
      go_ret
      exact ⟨rfl, b15.trans (b6.mono b15.size)⟩
  · have hz : (1048576 : Int) - n < 0 := by omega
    go_enter Try.func14, Try.ntmps14
    go_wp2_with fail
    refine (szBlockS_big A n c w (by omega) hm).mono ?_
    rintro e w' ⟨rfl, rfl⟩
    go_wp2
    go_ret
    exact ⟨rfl, Below.refl _ _⟩

end Go.Proofs.Ytofolkiikmnbhaa.Wk
