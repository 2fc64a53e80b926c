/- BuddyFree, of the program and of the reference. Conditions: a list that a slice of buddies reads as. -/
import Derived.Test.YtlcgfncgjljgpaaFlw
import Derived.Test.YtlcgfncgjljgpaaVs
namespace Go.Proofs.Ytlcgfncgjljgpaa.Wu
open Go.RowKit Go.Proofs.Ytlcgfncgjljgpaa.Pl Go.Proofs.Ytlcgfncgjljgpaa.Wk

/-- The free words in the lists of the orders below m. -/
def fls (l : List Blk) (n : Nat) : Nat → Int
  | 0 => 0
  | m + 1 => fls l n m + ((fl l n m).length : Int) * pw (m : Int)

theorem fls_step (l : List Blk) (k m : Nat) : fls l (k + 1) m = fls l k m + (if (bk l k).u = false ∧ 0 ≤ (bk l k).z ∧ (bk l k).z < m then pw (bk l k).z else 0) := by
  induction m with
  | zero => simp only [fls]; rw [if_neg (by omega)]; rfl
  | succ m ih =>
    simp only [fls]
    rw [ih]
    by_cases h : (bk l k).u = false ∧ (bk l k).z = (m : Int)
    · rw [fl_step_in h.1 h.2, if_neg (by omega), if_pos ⟨h.1, by omega, by omega⟩, h.2]
      simp [Int.add_mul]
      omega
    · have e : fl l (k + 1) m = fl l k m := fl_step_out (by
        by_cases hu : (bk l k).u = false
        · exact .inr (fun e => h ⟨hu, e⟩)
        · exact .inl (by simpa using hu))
      rw [e]
      by_cases g : (bk l k).u = false ∧ 0 ≤ (bk l k).z ∧ (bk l k).z < m
      · rw [if_pos g, if_pos ⟨g.1, g.2.1, by omega⟩]; omega
      · rw [if_neg g, if_neg (fun g' => g ⟨g'.1, g'.2.1, by
          have : (bk l k).z ≠ m := fun e => h ⟨g'.1, e⟩
          have := g'.2.2
          omega⟩)]; omega
theorem fls_zero (l : List Blk) (m : Nat) : fls l 0 m = 0 := by
  induction m with
  | zero => rfl
  | succ m ih => simp only [fls]; rw [ih]; simp [fl]
theorem fls_free {l : List Blk} (hz : ∀ k, k < l.length → 0 ≤ (bk l k).z ∧ (bk l k).z ≤ 8) : ∀ k, k ≤ l.length → fls l k 9 = fwU (l.take k) := by
  intro k
  induction k with
  | zero => intro _; rw [fls_zero]; simp [fwU]
  | succ k ih =>
    intro hk
    rw [fls_step, ih (by omega), fwU_take (by omega)]
    have := hz k (by omega)
    cases hu : (bk l k).u
    · rw [if_pos ⟨rfl, by omega, by omega⟩]; simp
    · rw [if_neg (by simp)]; simp
theorem fls_nonneg (l : List Blk) (n : Nat) (m : Nat) : 0 ≤ fls l n m := by
  induction m with
  | zero => exact Int.le_refl _
  | succ m ih => simp only [fls]; have := Int.mul_nonneg (show (0 : Int) ≤ (fl l n m).length by omega) (show 0 ≤ pw (m : Int) by have := pw_pos (m : Int); omega); omega
theorem fls_mono (l : List Blk) (n : Nat) {m q : Nat} (h : m ≤ q) : fls l n m ≤ fls l n q := by
  induction q with
  | zero => have : m = 0 := by omega
            subst this; exact Int.le_refl _
  | succ q ih =>
    by_cases e : m = q + 1
    · subst e; exact Int.le_refl _
    · have := ih (by omega)
      simp only [fls]
      have := Int.mul_nonneg (show (0 : Int) ≤ (fl l n q).length by omega) (show 0 ≤ pw (q : Int) by have := pw_pos (q : Int); omega)
      omega

theorem VU_z {l : List Blk} {p : Int} (hv : VU l p) : ∀ k, k < l.length → 0 ≤ (bk l k).z ∧ (bk l k).z ≤ 8 := fun k hk => by
  have := VU_blk hv hk; have := hv.2.1; omega

theorem w64 {x : Int} (h0 : 0 ≤ x) (h : x ≤ 1000000) : wrap64 x = x := by unfold wrap64; omega
theorem sum64 {f q : Int} (h0 : 0 ≤ f) (h1 : 0 ≤ q) (h2 : f + q ≤ 256) : wrap64 (f + wrap64 q) = f + q := by rw [w64 h1 (by omega), w64 (by omega) (by omega)]
theorem pw_nat (k : Nat) : (2 : Int) ^ k = pw (k : Int) := by unfold pw; simp

theorem idx9 (V : Nat → Value) {k : Nat} (hk : k < 9) (w : World) : (Instr.index 61 (.agg #[V 0, V 1, V 2, V 3, V 4, V 5, V 6, V 7, V 8]) (.int .i64 (k : Int))).run Try.prog w = .ok (V k) w := by
  have hc : k = 0 ∨ k = 1 ∨ k = 2 ∨ k = 3 ∨ k = 4 ∨ k = 5 ∨ k = 6 ∨ k = 7 ∨ k = 8 := by omega
  rcases hc with rfl | rfl | rfl | rfl | rfl | rfl | rfl | rfl | rfl <;> simp [Instr.index, go_sem]

theorem iBFree_no (A : Option Addr) (n c : Nat) (l : List Blk) (p : Int) (w : World) (h : Lst w w.heap.size A n l) (hv : ¬ VU l p) (hnm : n ≤ 1125899906842624) :
    Calls Try.prog 25 #[.slice A n c, .int .i64 p] w fun e w' => e = .returned (.int .i64 (-1)) ∧ Below w.heap.size w w' := by
  have HC := Lib.hid (iVU_any A n c l p false w h hnm (by simp [hv]))
  clear hv
  go_enter Try.func25, Try.ntmps25
  go_wp2_with fail
  refine HC.out.mono ?_
  rintro e w' ⟨rfl, hb⟩
  go_wp2
  go_ret
  exact ⟨rfl, hb⟩

set_option maxHeartbeats 2000000 in
theorem iBFree_yes (A : Option Addr) (n c : Nat) (l : List Blk) (p : Int) (w : World) (h : Lst w w.heap.size A n l) (hv : VU l p) :
    Calls Try.prog 25 #[.slice A n c, .int .i64 p] w fun e w' => e = .returned (.int .i64 (fwU l)) ∧ Below w.heap.size w w' := by
  obtain ⟨q1, q2, _, _⟩ := VU_len hv
  have hn := h.len
  have hn1 : n ≤ 256 := by omega
  have HC := Lib.hid (iVU_any A n c l p true w h (by omega) (by simp [hv]))
  have HZ := Lib.hid (VU_z hv)
  have HS := Lib.hid (show fls l n 9 = fwU l by have := fls_free (VU_z hv) l.length (Nat.le_refl _); rwa [List.take_length, ← hn] at this)
  have HB := Lib.hid (show fwU l ≤ 256 by have := fwU_bd hv; omega)
  have h0 := Lib.hid h
  clear hv q1 q2 hn h
  go_enter Try.func25, Try.ntmps25
  go_wp2_with fail
  refine HC.out.mono ?_
  rintro e w1 ⟨rfl, hb1⟩
  clear HC
  go_wp2_with fail
  refine (freeLists_any A n c l w1 (h0.out.up hb1 (Nat.le_refl _) hb1.size) hn1 HZ.out).mono ?_
  rintro e w2 ⟨V, rfl, hF, hb2⟩
  have B2 := hb1.trans (hb2.mono hb1.size)
  have HR := Lib.hid hF.row
  clear hF hb1 hb2 h0
  go_wp2
  go_loopw [5, 6, 7, 14] (fun v _ _ i wr => ∃ k : Nat, k ≤ 9 ∧ i = .int .i64 k ∧ v = .int .i64 (fls l n k) ∧ wr = w2) (fun _ _ _ i _ => 9 - (intOf i).toNat)
  case atStart => exact ⟨0, Nat.zero_le _, rfl, rfl, rfl⟩
  case round =>
    obtain ⟨k, hk, rfl, rfl, rfl⟩ := hrel
    by_cases hlt : k < 9
    · obtain ⟨Ak, ck, hV, -, -⟩ := row_form (HR.out k hlt)
      have hA : (Instr.index 61 (.agg #[V 0, V 1, V 2, V 3, V 4, V 5, V 6, V 7, V 8]) (.int .i64 (k : Int))).run Try.prog wr = .ok (.slice Ak (fl l n k).length ck) wr := (idx9 V hlt wr).trans (by rw [hV])
      have HE := Lib.hid (show fls l n (k + 1) = fls l n k + ((fl l n k).length : Int) * pw (k : Int) from rfl)
      have g0 := fls_nonneg l n k
      have g2 : fls l n k + ((fl l n k).length : Int) * pw (k : Int) ≤ 256 := by
        have := fls_mono l n (show k + 1 ≤ 9 by omega); rw [HS.out] at this; have := HB.out; rw [← HE.out]; omega
      have g1 := Int.mul_nonneg (show (0 : Int) ≤ (fl l n k).length by omega) (show 0 ≤ pw (k : Int) by have := pw_pos (k : Int); omega)
      have i1 : (0 : Int) ≤ (k : Int) := by omega
      have i2 : (k : Int) < 9 := by omega
      have HT := Lib.hid (show wrap64 (fls l n k + wrap64 (((fl l n k).length : Int) * 2 ^ k)) = fls l n (k + 1) by rw [pw_nat, sum64 g0 g1 g2, HE.out])
      clear g0 g1 g2 HE
      go_wp2
      go_roundw
      case rel => exact ⟨k + 1, by omega, by go_num, by rw [HT.out], trivial⟩
      case measure => simp [intOf]; omega
    · have hkn : k = 9 := by omega
      subst hkn
      clear hlt
      go_wp2
      go_ret
      exact ⟨by show Ending.returned (.int .i64 (fls l n 9)) = _; rw [HS.out], B2⟩

theorem sBFree_no (A : Option Addr) (n c : Nat) (l : List Blk) (p : Int) (w : World) (h : Lst w w.heap.size A n l) (hv : ¬ VU l p) (hnm : n ≤ 1125899906842624) :
    Calls Try.prog 24 #[.slice A n c, .int .i64 p] w fun e w' => e = .returned (.int .i64 (-1)) ∧ Below w.heap.size w w' := by
  have HC := Lib.hid (sVU_any A n c l p false w h hnm (by simp [hv]))
  clear hv
  go_enter Try.func24, Try.ntmps24
  go_wp2_with fail
  refine HC.out.mono ?_
  rintro e w' ⟨rfl, hb⟩
  go_wp2
  go_ret
  exact ⟨rfl, hb⟩

set_option maxHeartbeats 2000000 in
theorem sBFree_yes (A : Option Addr) (n c : Nat) (l : List Blk) (p : Int) (w : World) (h : Lst w w.heap.size A n l) (hv : VU l p) :
    Calls Try.prog 24 #[.slice A n c, .int .i64 p] w fun e w' => e = .returned (.int .i64 (fwU l)) ∧ Below w.heap.size w w' := by
  obtain ⟨q1, q2, _, _⟩ := VU_len hv
  have hn := h.len
  have hn1 : n ≤ 256 := by omega
  have HN := Lib.hid hn
  have HC := Lib.hid (sVU_any A n c l p true w h (by omega) (by simp [hv]))
  clear q1 q2 hn
  go_enter Try.func24, Try.ntmps24
  go_wp2_with fail
  refine HC.out.mono ?_
  rintro e w1 ⟨rfl, hb1⟩
  clear HC
  go_wp2
  go_loopw [5, 6] (fun v i wr => ∃ k : Nat, k ≤ n ∧ i = .int .i64 k ∧ v = .int .i64 (fwU (l.take k)) ∧ Below w.heap.size w wr) (fun _ i _ => n - (intOf i).toNat)
  case atStart => exact ⟨0, Nat.zero_le _, rfl, rfl, hb1⟩
  case round =>
    obtain ⟨k, hk, rfl, rfl, hb⟩ := hrel
    by_cases hlt : k < n
    · have hL := h.below hb (Nat.le_refl _)
      obtain ⟨b, off, rfl, hbb, c0, c1, c2⟩ := hL.cells k hlt
      have hsz := hb.size
      have hbw : b < wr.heap.size := by omega
      have hkl : k < l.length := by have := HN.out; omega
      obtain ⟨z0, z8⟩ := VU_z hv k hkl
      have hf := fwU_take_bd hv k
      have hf' := fwU_take_bd hv (k + 1)
      have h256 := (VU_len hv).2.1
      have HF := Lib.hid (fwU_take hkl)
      have hbn := hb
      clear hL
      obtain ⟨Z, hZ⟩ := Int.eq_ofNat_of_zero_le z0
      rw [hZ] at c1 HF z8
      have hf0 := hf.1
      cases hu : (bk l k).u
      · rw [hu] at c2 HF
        have HT := Lib.hid (show wrap64 (fwU (l.take k) + wrap64 (2 ^ Z)) = fwU (l.take (k + 1)) by
          have e := HF.out
          simp only [Bool.false_eq_true, if_false] at e
          rw [pw_nat, sum64 hf.1 (by have := pw_pos (Z : Int); omega) (by rw [← e]; omega), e])
        clear hZ HF hf hf' h256
        go_wp2
        go_roundw
        case rel => exact ⟨k + 1, by omega, by go_num, by rw [HT.out], hbn⟩
        case measure => simp [intOf]; omega
      · rw [hu] at c2 HF
        have HT := Lib.hid (show fwU (l.take k) = fwU (l.take (k + 1)) by have e := HF.out; simp at e; omega)
        clear hZ HF hf hf' h256
        go_wp2
        go_roundw
        case rel => exact ⟨k + 1, by omega, by go_num, by rw [HT.out], hbn⟩
        case measure => simp [intOf]; omega
    · have hkn : k = n := by omega
      subst hkn
      have E1 : RowKit.Hid (l.take k = l) := Lib.hid (by rw [HN.out, List.take_length])
      clear hlt
      go_wp2
      go_ret
      exact ⟨by show Ending.returned (.int .i64 (fwU (l.take k))) = _; rw [E1.out], hb⟩

end Go.Proofs.Ytlcgfncgjljgpaa.Wu
