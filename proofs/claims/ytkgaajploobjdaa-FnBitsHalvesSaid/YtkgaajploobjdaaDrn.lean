/- l20Many, l20Run: a number of words is drawn, a bitmap and a word. Conditions: none. -/
import Derived.Test.YtkgaajploobjdaaDrm
import Derived.Test.YtkgaajploobjdaaBsp
import Derived.Deep.RegionWith
import Derived.Deep.DrawnRows
import Derived.RegionTactic
namespace Go.Proofs.Ytkgaajploobjdaa.Wb
open Go.RowKit Go.Proofs.Ytkgaajploobjdaa.Pl Go.Proofs.Ytkgaajploobjdaa.Wk

attribute [local go_sem ↓] Go.wp_at_zero Go.wp_at_succ

/-- The second pick of l20Many, and what the two tables hold then. -/
theorem many8 (x : Int) (g q : Nat) (w W : World) (h : Dr g q w W) (hq : q ≤ 1000000) : Calls Try.prog 31 #[.pointer (some ⟨g, 0, none⟩), .int .i64 8] W fun e w' =>
    ∃ (k j : Nat) (v : Int), e = .returned (.int .i64 k) ∧ (0 : Int) ≤ (k : Int) ∧ (k : Int) < 8 ∧ (0 : Int) ≤ (j : Int) ∧ (j : Int) < 4 ∧
      (#[.int .i64 0, .int .i64 0, .int .i64 0, .int .i64 0, .int .i64 0, .int .i64 1, .int .i64 2, .int .i64 3] : Array Value)[k]? = some (.int .i64 j) ∧ (#[.int .i64 (1 + x), .int .i64 0, .int .i64 64, .int .i64 65] : Array Value)[j]? = some (.int .i64 v) ∧
      Dr g (q + 1) w w' ∧ (∀ b o, b ≠ g → w'.cell? ⟨b, o, none⟩ = W.cell? ⟨b, o, none⟩) ∧ w'.heap.size = W.heap.size := by
  refine (pick_dr g q 8 w W h hq).mono ?_
  rintro e w' ⟨a, rfl, h0, h1, d, hc, hs⟩
  obtain ⟨k, rfl⟩ := Int.eq_ofNat_of_zero_le h0
  have hk : k = 0 ∨ k = 1 ∨ k = 2 ∨ k = 3 ∨ k = 4 ∨ k = 5 ∨ k = 6 ∨ k = 7 := by omega
  rcases hk with rfl | rfl | rfl | rfl | rfl | rfl | rfl | rfl
  · exact ⟨0, 0, 1 + x, rfl, by omega, by omega, by omega, by omega, rfl, rfl, d, hc, hs⟩
  · exact ⟨1, 0, 1 + x, rfl, by omega, by omega, by omega, by omega, rfl, rfl, d, hc, hs⟩
  · exact ⟨2, 0, 1 + x, rfl, by omega, by omega, by omega, by omega, rfl, rfl, d, hc, hs⟩
  · exact ⟨3, 0, 1 + x, rfl, by omega, by omega, by omega, by omega, rfl, rfl, d, hc, hs⟩
  · exact ⟨4, 0, 1 + x, rfl, by omega, by omega, by omega, by omega, rfl, rfl, d, hc, hs⟩
  · exact ⟨5, 1, 0, rfl, by omega, by omega, by omega, by omega, rfl, rfl, d, hc, hs⟩
  · exact ⟨6, 2, 64, rfl, by omega, by omega, by omega, by omega, rfl, rfl, d, hc, hs⟩
  · exact ⟨7, 3, 65, rfl, by omega, by omega, by omega, by omega, rfl, rfl, d, hc, hs⟩

set_option maxRecDepth 100000 in
set_option maxHeartbeats 4000000 in
theorem l20Many_any (g q : Nat) (w : World) (h : Rg w g q) (hq : q ≤ 800000) :
    Calls Try.prog 34 #[.pointer (some ⟨g, 0, none⟩)] w fun e w' => ∃ z : Int, e = .returned (.int .i64 z) ∧ Dr g (q + 2) w w' := by
  have hg := h.lt
  have D1 := Dr.refl h
  clear h
  go_enter Try.func34, Try.ntmps34
  go_wp2_with fail
  refine (pick_dr g q 6 w _ D1 (by omega)).mono ?_
  rintro e w2 ⟨x2, rfl, a2, b2, D2, hc2, hz2⟩
  have b3 : x2 ≤ 5 := by omega
  have u1 : ¬ w2.heap.size = g := by omega
  have u2 : ¬ w2.heap.size + 1 = g := by omega
  clear b2 hc2 hz2
  go_wp2_with fail
  refine (many8 x2 g (q + 1) w _ (by first | exact D2 | exact D2.alloc _ | exact (D2.alloc _).alloc _) (by omega)).mono ?_
  rintro e w4 ⟨k4, j4, v4, rfl, m1, m2, m3, m4, m5, m6, D4, hc4, hz4⟩
  have T1 := Bk.new w2 #[.int .i64 (1 + x2), .int .i64 0, .int .i64 64, .int .i64 65] 3
  have T2 := Bk.new (w2.alloc (.cells #[.int .i64 (1 + x2), .int .i64 0, .int .i64 64, .int .i64 65] 3)) #[.int .i64 0, .int .i64 0, .int .i64 0, .int .i64 0, .int .i64 0, .int .i64 1, .int .i64 2, .int .i64 3] 3
  have d1 := (hc4 w2.heap.size j4 u1).trans (((T1.alloc _).cell j4).trans m6)
  have d2 := (hc4 (w2.heap.size + 1) k4 u2).trans (((by simpa using T2 : Bk _ (w2.heap.size + 1) _ _).cell k4).trans m5)
  clear T1 T2 hc4 hz4 m5 m6
  go_wp2
  go_ret
  exact ⟨_, rfl, D4⟩

/-- A bitmap, a word and a number of words that were drawn. -/
def RunP (g q : Nat) (w : World) (e : Ending) (w' : World) : Prop :=
  ∃ (A : Option Addr) (n c : Nat) (l : List Bool) (s m : Int), e = .returned (.tuple #[.slice A n c, .int .i64 s, .int .i64 m]) ∧ Own w' w.heap.size (.slice A n c) l ∧ n ≤ 65 ∧ -1 ≤ s ∧ s ≤ 66 ∧ Rg w' g (q + 110) ∧ Gr g w w'

theorem sFind_some (A : Option Addr) (n c : Nat) (l : List Bool) (m : Int) (w : World) (h : Lst w w.heap.size A n l) (hn : n ≤ 65) : ∃ r : Int, -1 ≤ r ∧ r ≤ 66 ∧ Calls Try.prog 9 #[.slice A n c, .int .i64 m] w fun e w' => e = .returned (.int .i64 r) ∧ Below w.heap.size w w' := by
  by_cases hv : 64 < n ∨ m < 1 ∨ 64 < m
  · exact ⟨-1, by omega, by omega, sFind_no A n c m w (by omega) hv⟩
  · obtain ⟨M, rfl⟩ := Int.eq_ofNat_of_zero_le (show 0 ≤ m by omega)
    obtain ⟨r, hr⟩ := FindR_ex l M
    have hl := h.len
    refine ⟨r, ?_, ?_, sFind_yes A n c M l r w h (by omega) (by omega) (by omega) hr⟩
    · rcases hr with ⟨rfl, _⟩ | ⟨k, rfl, _⟩ <;> omega
    · rcases hr with ⟨rfl, _⟩ | ⟨k, rfl, _⟩ <;> omega

set_option maxHeartbeats 2000000 in
theorem l20Run_any (g q : Nat) (w : World) (h : Rg w g q) (hq : q ≤ 700000) :
    Calls Try.prog 28 #[.pointer (some ⟨g, 0, none⟩)] w (RunP g q w) := by
  have hg := h.lt
  go_enter Try.func28, Try.ntmps28
  go_wp2_with fail
  refine (l20Bits_any g q 14 w h (by omega) (by omega) (by omega)).mono ?_
  rintro e w1 ⟨A, n, c, l, rfl, o1, n1, r1, G1⟩
  have O1 := Lib.hid o1
  clear o1 h
  go_wp2_with fail
  refine (l20Many_any g _ w1 r1 (by omega)).mono ?_
  rintro e w2 ⟨z, rfl, D2⟩
  have O2 := Lib.hid (own_gr O1.out D2.gr hg)
  have G2 := G1.trans D2.gr
  have r2 := D2.rd
  clear O1 D2 r1 G1
  go_wp2_with fail
  refine (pick_g g _ _ _ r2 (by omega)).mono ?_
  rintro e w3 ⟨x3, rfl, a3, b3, r3, o3⟩
  have b4 : x3 ≤ 66 := by omega
  have O3 := Lib.hid (own_only O2.out o3 hg)
  have G3 := G2.only o3
  clear o3 O2 r2 G2 b3
  go_wp2_with fail
  refine (pick_g g _ _ _ r3 (by omega)).mono ?_
  rintro e w4 ⟨x4, rfl, a5, b5, r4, o4⟩
  have O4 := Lib.hid (own_only O3.out o4 hg)
  have G4 := G3.only o4
  have z4 := G4.size
  clear o4 O3 r3 G3
  by_cases h0 : x4 = 0
  · subst h0
    obtain ⟨r, hr1, hr2, CR⟩ := sFind_some A n c l z w4 (own_lstn O4.out) n1
    have CH := Lib.hid CR
    clear CR a5 b5
    go_wp2_with fail
    refine CH.out.mono ?_
    rintro e w5 ⟨rfl, b6⟩
    go_wp2
    exact bodyPost_ret (v := .tuple #[.slice A n c, .int .i64 r, .int .i64 z]) (by simp [results, Try.results28, go_sem]) rfl ⟨_, _, _, l, _, _, rfl, O4.out.below b6, n1, hr1, hr2, (r4.below b6).more (by omega), G4.below b6 z4⟩
  · have h1 : (x4 == 0) = false := by rw [beq_eq_false_iff_ne]; exact h0
    clear a5 b5 h0
    go_wp2
    exact bodyPost_ret (v := .tuple #[.slice A n c, .int .i64 (x3 - 1), .int .i64 z]) (by simp [results, Try.results28, go_sem]) rfl ⟨_, _, _, l, _, _, rfl, O4.out, n1, by omega, by omega, r4.more (by omega), G4⟩

/-- A bitmap, a word and a number of words that were drawn from a code. -/
def DrawR (w : World) (e : Ending) (w' : World) : Prop :=
  ∃ (A : Option Addr) (n c : Nat) (l : List Bool) (s m : Int), e = .returned (.tuple #[.slice A n c, .int .i64 s, .int .i64 m]) ∧ Own w' w.heap.size (.slice A n c) l ∧ n ≤ 65 ∧ -1 ≤ s ∧ s ≤ 66 ∧ Below w.heap.size w w'

theorem dDrawBitsTake {a : Option Addr} {len cap : Nat} {z : List Int} {w : World} (h : IsRow .u8 w a len cap z) : Calls Try.prog 19 #[.slice a len cap] w (DrawR w) := by
  have HO := Lib.hid (open_g h)
  clear h
  go_enter Try.func19, Try.ntmps19
  go_wp2_with fail
  refine HO.out.mono ?_
  rintro e w1 ⟨rfl, hr, hb, hs⟩
  have hB := hb.size
  clear hs
  go_wp2_with fail
  refine (l20Run_any _ _ w1 hr (by omega)).mono ?_
  rintro e w2 ⟨A, n, c, l, s, m, rfl, o1, n1, s1, s2, r1, G1⟩
  go_wp2
  exact bodyPost_ret (v := .tuple #[.slice A n c, .int .i64 s, .int .i64 m]) (by simp [results, Try.results19, go_sem]) rfl ⟨_, _, _, l, _, _, rfl, o1.mono hB, n1, s1, s2, Below.of_gr hb G1 hB (Nat.le_refl _)⟩

set_option maxHeartbeats 1000000 in
theorem dDrawBitsGive {a : Option Addr} {len cap : Nat} {z : List Int} {w : World} (h : IsRow .u8 w a len cap z) : Calls Try.prog 22 #[.slice a len cap] w (DrawR w) := by
  have HO := Lib.hid (open_g h)
  clear h
  go_enter Try.func22, Try.ntmps22
  go_wp2_with fail
  refine HO.out.mono ?_
  rintro e w1 ⟨rfl, hr, hb, hs⟩
  have hB := hb.size
  have hlt := hr.lt
  clear hs
  go_wp2_with fail
  refine (l20Run_any _ _ w1 hr (by omega)).mono ?_
  rintro e w2 ⟨A, n, c, l, s, m, rfl, o1, n1, s1, s2, r1, G1⟩
  have O1 := Lib.hid o1
  clear o1 hr
  go_wp2_with fail
  refine (pick_g _ _ _ _ r1 (by omega)).mono ?_
  rintro e w3 ⟨x3, rfl, a3, b3, r3, o3⟩
  have O3 := Lib.hid (own_only O1.out o3 hlt)
  have G3 := G1.only o3
  have z3 := G3.size
  clear o3 O1 r1 G1
  by_cases h0 : x3 = 0
  · subst h0
    obtain ⟨R, b, hc, hR⟩ := Chg_ex l s m true
    have hn := (own_form O3.out).1
    rw [← hn] at hc hR
    have CH := Lib.hid (sTakeB_any A n c l s m R b w3 (own_lstn O3.out) hc)
    clear hc a3 b3 hn
    go_wp2_with fail
    refine CH.out.mono ?_
    rintro e w4 ⟨A4, c4, rfl, o4, b4⟩
    go_wp2
    exact bodyPost_ret (v := .tuple #[.slice A4 R.length c4, .int .i64 s, .int .i64 m]) (by simp [results, Try.results22, go_sem]) rfl ⟨_, _, _, R, _, _, rfl, o4.mono (by omega), by omega, s1, s2, (Below.of_gr hb G3 hB (Nat.le_refl _)).trans (b4.mono (by omega))⟩
  · have h1 : (x3 == 0) = false := by rw [beq_eq_false_iff_ne]; exact h0
    clear a3 b3 h0
    go_wp2
    exact bodyPost_ret (v := .tuple #[.slice A n c, .int .i64 s, .int .i64 m]) (by simp [results, Try.results22, go_sem]) rfl ⟨_, _, _, l, _, _, rfl, O3.out.mono hB, n1, s1, s2, Below.of_gr hb G3 hB (Nat.le_refl _)⟩

end Go.Proofs.Ytkgaajploobjdaa.Wb
